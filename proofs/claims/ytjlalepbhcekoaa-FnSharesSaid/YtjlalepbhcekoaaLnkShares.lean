/- Printed by a program of ours (ext.py). -/
import Derived.Test.YtjlalepbhcekoaaLnkSharesx1
set_option linter.unusedVariables false
set_option linter.unusedSimpArgs false
set_option maxRecDepth 100000
set_option maxHeartbeats 20000000
namespace Go.Proofs.Ytjlalepbhcekoaa
open Go Go.Ab
def laws_FnShares_c1_Q (a1 : List Int) (a2 : List Int) (g : Bool) (q : Out) : Prop := q.1 = .nrm ∧ eget q.2.1 0 = .sl none (a1.map (cI .u8)) ∧ eget q.2.1 1 = .sl none (a2.map (cI .u8)) ∧ eget q.2.1 39 = .bool g
def laws_FnShares_c2_Q (a1 : List Int) (r31 : Int) (r38 : List Int) (r55 : List Int) (g : Bool) (q : Out) : Prop := q.1 = .nrm ∧ eget q.2.1 0 = .sl none (a1.map (cI .u8)) ∧ eget q.2.1 5 = .int .i64 r31 ∧ eget q.2.1 6 = .sl none (r38.map (cI .i64)) ∧ eget q.2.1 9 = .sl none (r55.map (cI .i64)) ∧ eget q.2.1 75 = .bool g
abbrev laws_FnShares_b1_S := Int × Int × Int
abbrev laws_FnShares_b1_R := Int × Int
def laws_FnShares_b1_RS (a1 : List Int) (r31 : Int) (r38 : List Int) (r55 : List Int) (s : laws_FnShares_b1_S) (e : Env) (M : Mem) : Prop := eget e 0 = .sl none (a1.map (cI .u8)) ∧ eget e 5 = .int .i64 r31 ∧ eget e 6 = .sl none (r38.map (cI .i64)) ∧ eget e 9 = .sl none (r55.map (cI .i64)) ∧ eget e 11 = .int .i64 s.1 ∧ eget e 12 = .int .i64 s.2.1 ∧ eget e 13 = .int .i64 s.2.2
def laws_FnShares_b1_RR (a1 : List Int) (r31 : Int) (r38 : List Int) (r55 : List Int) (g : laws_FnShares_b1_R) (x : Ex) (e : Env) (M : Mem) : Prop := x = .ext 0 ∧ eget e 0 = .sl none (a1.map (cI .u8)) ∧ eget e 5 = .int .i64 r31 ∧ eget e 6 = .sl none (r38.map (cI .i64)) ∧ eget e 9 = .sl none (r55.map (cI .i64)) ∧ eget e 11 = .int .i64 g.1 ∧ eget e 12 = .int .i64 g.2
noncomputable def laws_FnShares_b1 (r38 : List Int) (r55 : List Int) : laws_FnShares_b1_S → Option (laws_FnShares_b1_S ⊕ laws_FnShares_b1_R) := fun (s1_1, s1_2, s1_3) =>
 if (decide (s1_3 < (r38.length : Int))) = true then
  (rd r38 s1_3).bind fun x178 =>
  (rd r55 s1_3).bind fun x189 =>
  some (.inl ((IntKind.i64.wrap (s1_1 + x189)), (IntKind.i64.wrap (s1_2 + x178)), (IntKind.i64.wrap (s1_3 + 1))))
 else
  some (.inr (s1_1, s1_2))
theorem laws_FnShares_b1_ok (a1 : List Int) (r31 : Int) (r38 : List Int) (r55 : List Int) (s : laws_FnShares_b1_S) (r : laws_FnShares_b1_S ⊕ laws_FnShares_b1_R) (h : laws_FnShares_b1 r38 r55 s = some r) (e : Env) (M : Mem) (hs : laws_FnShares_b1_RS a1 r31 r38 r55 s e M) : Ev (fun k => (f5_l12 (CN k) k (prune [0, 5, 6, 9, 11, 12, 13] e) M).bind fun q => some q) (bQ (laws_FnShares_b1_RS a1 r31 r38 r55) (laws_FnShares_b1_RR a1 r31 r38 r55) r) := by
 obtain ⟨s1_1, s1_2, s1_3⟩ := s
 unfold laws_FnShares_b1 at h
 obtain ⟨h153, h155, h157, h159, h161, h163, h165⟩ := hs
 generalize he152 : prune [0, 5, 6, 9, 11, 12, 13] e = e151
 have h154 := envp he152.symm rfl h153
 have h156 := envp he152.symm rfl h155
 have h158 := envp he152.symm rfl h157
 have h160 := envp he152.symm rfl h159
 have h162 := envp he152.symm rfl h161
 have h164 := envp he152.symm rfl h163
 have h166 := envp he152.symm rfl h165
 refine sq (sq (Rg (kx (mvO h166) (kx (mvO h158) (kx (lnS Try.underlying24 rfl) (kx (bLss rfl rfl) (Rn (hV (.sl none (a1.map (cI .u8))) h154 (hV (.int .i64 r31) h156 (hV (.sl none (r38.map (cI .i64))) h158 (hV (.sl none (r55.map (cI .i64))) h160 (hV (.int .i64 s1_1) h162 (hV (.int .i64 s1_2) h164 (hV (.int .i64 s1_3) h166 (hN rfl hZ)))))))) fun e167 h169 h170 h171 h172 h173 h174 h175 h176 => sN ?_)))))))
 clear h154 h156 h158 h160 h162 h164 h166
 rcases ite_some h with ⟨hb177, h⟩ | ⟨hb177, h⟩
 ·obtain ⟨x178, hx179, h⟩ := bind_some h
  obtain ⟨x189, hx190, h⟩ := bind_some h
  refine cT h176 hb177 (xx (sN (sq (bl (sq (Rg (kx (mvO h174) (kx (mvO h171) (kx (mvO h175) (kx (ixS rfl rfl hx179 (cI_fl _)) (kx (ldP rfl rfl) (kx (bAdd rfl rfl) (kx (mvO rfl) (Rn (hA h169 (hA h170 (hA h171 (hA h172 (hA h173 (hN rfl (hA h175 hZ))))))) fun e180 h182 h183 h184 h185 h186 h187 h188 => sN (Rg (kx (mvO h186) (kx (mvO h185) (kx (mvO h188) (kx (ixS rfl rfl hx190 (cI_fl _)) (kx (ldP rfl rfl) (kx (bAdd rfl rfl) (kx (mvO rfl) (Rn (hA h182 (hA h183 (hA h184 (hA h185 (hN rfl (hA h187 (hA h188 hZ))))))) fun e191 h193 h194 h195 h196 h197 h198 h199 => bN (sN (Rg (kx (mvO h199) (kx (bAdd rfl rfl) (kx (mvO rfl) (Rn (hA h193 (hA h194 (hA h195 (hA h196 (hA h197 (hA h198 (hN rfl hZ))))))) fun e200 h202 h203 h204 h205 h206 h207 h208 => ?_)))))))))))))))))))))))))))))
  clear h169 h170 h171 h172 h173 h175 h176 h182 h183 h184 h185 h187 h188 h193 h194 h195 h196 h197 h198
  obtain rfl := si h
  exact qN ⟨h202, h203, h204, h205, h206, h207, h208⟩
 refine cF h176 hb177 (xx (sE ?_))
 obtain rfl := si h
 exact qE ⟨rfl, h169, h170, h171, h172, h173, h174⟩
abbrev laws_FnShares_b2_S := Int
abbrev laws_FnShares_b2_R := Unit ⊕ Unit
def laws_FnShares_b2_RS (a1 : List Int) (r31 : Int) (r38 : List Int) (r55 : List Int) (y215 : Int) (s : laws_FnShares_b2_S) (e : Env) (M : Mem) : Prop := eget e 0 = .sl none (a1.map (cI .u8)) ∧ eget e 5 = .int .i64 r31 ∧ eget e 6 = .sl none (r38.map (cI .i64)) ∧ eget e 9 = .sl none (r55.map (cI .i64)) ∧ eget e 12 = .int .i64 y215 ∧ eget e 14 = .int .i64 s
def laws_FnShares_b2_RR (a1 : List Int) (r31 : Int) (r38 : List Int) (r55 : List Int) (y215 : Int) (r : laws_FnShares_b2_R) (x : Ex) (e : Env) (M : Mem) : Prop :=
  match r with
  | (.inl g) => x = .ret ∧ eget e 4 = .bool false
  | (.inr g) => x = .ext 2 ∧ eget e 0 = .sl none (a1.map (cI .u8)) ∧ eget e 6 = .sl none (r38.map (cI .i64))
noncomputable def laws_FnShares_b2 (r31 : Int) (r38 : List Int) (r55 : List Int) (y215 : Int) : laws_FnShares_b2_S → Option (laws_FnShares_b2_S ⊕ laws_FnShares_b2_R) := fun s2_1 =>
 if (decide (s2_1 < (r38.length : Int))) = true then
  (rd r55 s2_1).bind fun x280 =>
  (rd r38 s2_1).bind fun x282 =>
  if (decide ((IntKind.i64.wrap ((IntKind.i64.wrap (x280 * y215)) - (IntKind.i64.wrap (r31 * x282)))) ≥ y215)) = true then
   some (.inr (.inl ()))
  else
   if (decide ((IntKind.i64.wrap ((IntKind.i64.wrap (x280 * y215)) - (IntKind.i64.wrap (r31 * x282)))) ≤ (IntKind.i64.wrap (0 - y215)))) = true then
    some (.inr (.inl ()))
   else
    some (.inl (IntKind.i64.wrap (s2_1 + 1)))
 else
  some (.inr (.inr ()))
theorem laws_FnShares_b2_ok (a1 : List Int) (r31 : Int) (r38 : List Int) (r55 : List Int) (y215 : Int) (s : laws_FnShares_b2_S) (r : laws_FnShares_b2_S ⊕ laws_FnShares_b2_R) (h : laws_FnShares_b2 r31 r38 r55 y215 s = some r) (e : Env) (M : Mem) (hs : laws_FnShares_b2_RS a1 r31 r38 r55 y215 s e M) : Ev (fun k => (f5_l19 (CN k) k (prune [0, 5, 6, 9, 12, 14] e) M).bind fun q => some q) (bQ (laws_FnShares_b2_RS a1 r31 r38 r55 y215) (laws_FnShares_b2_RR a1 r31 r38 r55 y215) r) := by
 revert h hs
 revert s
 intro s2_1 h hs
 unfold laws_FnShares_b2 at h
 obtain ⟨h258, h260, h262, h264, h266, h268⟩ := hs
 generalize he257 : prune [0, 5, 6, 9, 12, 14] e = e256
 have h259 := envp he257.symm rfl h258
 have h261 := envp he257.symm rfl h260
 have h263 := envp he257.symm rfl h262
 have h265 := envp he257.symm rfl h264
 have h267 := envp he257.symm rfl h266
 have h269 := envp he257.symm rfl h268
 refine sq (sq (Rg (kx (mvO h269) (kx (mvO h263) (kx (lnS Try.underlying24 rfl) (kx (bLss rfl rfl) (Rn (hV (.sl none (a1.map (cI .u8))) h259 (hV (.int .i64 r31) h261 (hV (.sl none (r38.map (cI .i64))) h263 (hV (.sl none (r55.map (cI .i64))) h265 (hV (.int .i64 y215) h267 (hV (.int .i64 s2_1) h269 (hN rfl hZ))))))) fun e270 h272 h273 h274 h275 h276 h277 h278 => sN ?_)))))))
 clear h259 h261 h263 h265 h267 h269
 rcases ite_some h with ⟨hb279, h⟩ | ⟨hb279, h⟩
 ·obtain ⟨x280, hx281, h⟩ := bind_some h
  obtain ⟨x282, hx283, h⟩ := bind_some h
  refine cT h278 hb279 (xx (sN (sq (bl (sq (Rd (kf (mvO h275) (kf (mvO h277) (kf (ixS rfl rfl hx281 (cI_fl _)) (kf (ldP rfl rfl) (kf (mvO h276) (kf (bMul rfl rfl) (kf (mvO h273) (kf (mvO h274) (kf (mvO h277) (kf (ixS rfl rfl hx283 (cI_fl _)) (kf (ldP rfl rfl) (kf (bMul rfl rfl) (kf (bSub rfl rfl) (kf (mvO rfl) (fZ (Rn (hA h272 (hA h273 (hA h274 (hA h275 (hA h276 (hA h277 (hN rfl hZ))))))) fun e284 h286 h287 h288 h289 h290 h291 h292 => sN (sq (Rg (kx (mvO h292) (kx (mvO h290) (kx (bGeq rfl rfl) (kx (mvO rfl) ?_))))))))))))))))))))))))))))
  clear h272 h273 h274 h275 h276 h277 h278
  rcases ite_some h with ⟨hb293, h⟩ | ⟨hb293, h⟩
  ·refine kx (gsF rfl hb293) (kx (gsF rfl hb293) (kx (gsF rfl hb293) (kx (gsF rfl hb293) (kx (pkT rfl hb293 rfl) (Rn (hA h286 (hA h287 (hA h288 (hA h289 (hA h290 (hA h291 (hV (.bool true) rfl hZ))))))) fun e294 h296 h297 h298 h299 h300 h301 h302 => sN (cT h302 rfl (sq (Rg (kx (mvO rfl) (Rn (hV (.bool false) rfl hZ) fun e303 h305 => sN (xx (bR (sR ?_)))))))))))))
   clear h286 h287 h288 h289 h290 h291 h292 h296 h297 h298 h299 h300 h301 h302
   obtain rfl := si h
   exact qR ⟨rfl, h305⟩
  refine kx (guF rfl hb293 (mvO h292)) (kx (guF rfl hb293 (mvO h290)) (kx (guF rfl hb293 (uNeg rfl)) (kx (guF rfl hb293 (bLeq rfl rfl)) (kx (pkF rfl hb293 rfl) (Rn (hA h286 (hA h287 (hA h288 (hA h289 (hA h290 (hA h291 (hN rfl hZ))))))) fun e306 h308 h309 h310 h311 h312 h313 h314 => sN ?_)))))
  clear h286 h287 h288 h289 h290 h291 h292
  rcases ite_some h with ⟨hb315, h⟩ | ⟨hb315, h⟩
  ·refine cT h314 hb315 (sq (Rg (kx (mvO rfl) (Rn (hV (.bool false) rfl hZ) fun e316 h318 => sN (xx (bR (sR ?_)))))))
   clear h308 h309 h310 h311 h312 h313 h314
   obtain rfl := si h
   exact qR ⟨rfl, h318⟩
  refine cF h314 hb315 (xx (bN (sN (Rg (kx (mvO h313) (kx (bAdd rfl rfl) (kx (mvO rfl) (Rn (hA h308 (hA h309 (hA h310 (hA h311 (hA h312 (hN rfl hZ)))))) fun e319 h321 h322 h323 h324 h325 h326 => ?_))))))))
  clear h308 h309 h310 h311 h312 h314
  obtain rfl := si h
  exact qN ⟨h321, h322, h323, h324, h325, h326⟩
 refine cF h278 hb279 (xx (sE ?_))
 obtain rfl := si h
 exact qE ⟨rfl, h272, h274⟩
def laws_FnShares_c3_Q (r364 : List Int) (r373 : Int) (r385 : List Half) (r386 : List Half) (g : Bool) (q : Out) : Prop := q.1 = .nrm ∧ eget q.2.1 19 = .sl none (r364.map (cI .i64)) ∧ eget q.2.1 21 = .nils ∧ eget q.2.1 22 = .nils ∧ eget q.2.1 24 = .int .i64 r373 ∧ eget q.2.1 25 = .sl (some 70) (r385.map Half.c) ∧ eget q.2.1 26 = .sl (some 70) (r386.map Half.c) ∧ eget q.2.1 184 = .bool g
abbrev laws_FnShares_b3_S := Int
abbrev laws_FnShares_b3_R := Unit
def laws_FnShares_b3_RS (r364 : List Int) (r385 : List Half) (r386 : List Half) (s : laws_FnShares_b3_S) (e : Env) (M : Mem) : Prop := eget e 19 = .sl none (r364.map (cI .i64)) ∧ eget e 21 = .nils ∧ eget e 22 = .nils ∧ eget e 25 = .sl (some 70) (r385.map Half.c) ∧ eget e 26 = .sl (some 70) (r386.map Half.c) ∧ eget e 29 = .int .i64 s
def laws_FnShares_b3_RR (r364 : List Int) (r385 : List Half) (r386 : List Half) (g : laws_FnShares_b3_R) (x : Ex) (e : Env) (M : Mem) : Prop := x = .ext 4 ∧ eget e 19 = .sl none (r364.map (cI .i64)) ∧ eget e 25 = .sl (some 70) (r385.map Half.c)
noncomputable def laws_FnShares_b3 (r385 : List Half) (r386 : List Half) : laws_FnShares_b3_S → Option (laws_FnShares_b3_S ⊕ laws_FnShares_b3_R) := fun s3_1 =>
 if (decide (s3_1 < (r385.length : Int))) = true then
  (rd r385 s3_1).bind fun x534 =>
  (rd r386 s3_1).bind fun x536 =>
  (impl_Fits x534 x536 0).bind fun (r539, r540) =>
  none
 else
  some (.inr ())
theorem laws_FnShares_b3_ok (r364 : List Int) (r385 : List Half) (r386 : List Half) (s : laws_FnShares_b3_S) (r : laws_FnShares_b3_S ⊕ laws_FnShares_b3_R) (h : laws_FnShares_b3 r385 r386 s = some r) (e : Env) (M : Mem) (hs : laws_FnShares_b3_RS r364 r385 r386 s e M) : Ev (fun k => (f5_l34 (CN k) k (prune [19, 21, 22, 25, 26, 29] e) M).bind fun q => some q) (bQ (laws_FnShares_b3_RS r364 r385 r386) (laws_FnShares_b3_RR r364 r385 r386) r) := by
 revert h hs
 revert s
 intro s3_1 h hs
 unfold laws_FnShares_b3 at h
 obtain ⟨h512, h514, h516, h518, h520, h522⟩ := hs
 generalize he511 : prune [19, 21, 22, 25, 26, 29] e = e510
 have h513 := envp he511.symm rfl h512
 have h515 := envp he511.symm rfl h514
 have h517 := envp he511.symm rfl h516
 have h519 := envp he511.symm rfl h518
 have h521 := envp he511.symm rfl h520
 have h523 := envp he511.symm rfl h522
 refine sq (sq (Rg (kx (mvO h523) (kx (mvO h519) (kx (lnS Try.underlying76 rfl) (kx (bLss rfl rfl) (Rn (hV (.sl none (r364.map (cI .i64))) h513 (hV .nils h515 (hV .nils h517 (hV (.sl (some 70) (r385.map Half.c)) h519 (hV (.sl (some 70) (r386.map Half.c)) h521 (hV (.int .i64 s3_1) h523 (hN rfl hZ))))))) fun e524 h526 h527 h528 h529 h530 h531 h532 => sN ?_)))))))
 clear h513 h515 h517 h519 h521 h523
 rcases ite_some h with ⟨hb533, h⟩ | ⟨hb533, h⟩
 ·obtain ⟨x534, hx535, h⟩ := bind_some h
  obtain ⟨x536, hx537, h⟩ := bind_some h
  obtain ⟨⟨r539, r540⟩, hx538, h⟩ := bind_some h
  refine cT h532 hb533 (xx (sN (sq (bl (sq (Rd (kf (mvO h529) (kf (mvO h531) (kf (ixS rfl rfl hx535 Half.fl) (kf (ldPA rfl rfl rfl) (kf (mvO h530) (kf (mvO h531) (kf (ixS rfl rfl hx537 Half.fl) (kf (ldPA rfl rfl rfl) (fc (cl (v := .tup [.bool r539, .int .i64 r540]) rfl rfl (cns rfl (cns rfl (cns rfl rfl))) rfl (impl_Fits_ok x534 x536 0 _ hx538) nm) (kf (mvO rfl) (kf (exT rfl rfl) (kf (exT rfl rfl) (kf (mvO rfl) (kf (mvO rfl) (fZ (Rn (hA h526 (hA h527 (hA h528 (hA h529 (hA h530 (hA h531 (hN rfl (hN rfl hZ)))))))) fun e541 h543 h544 h545 h546 h547 h548 h549 h550 => sN (sq (Rg (kx (mvO h544) (kx (mvO h548) ?_))))))))))))))))))))))))))
  clear h526 h527 h528 h529 h530 h531 h532
  cases h
 refine cF h532 hb533 (xx (sE ?_))
 obtain rfl := si h
 exact qE ⟨rfl, h526, h529⟩
def laws_FnShares_c4_Q (r364 : List Int) (r564 : List Half) (r565 : List Half) (r578 : List Half) (r579 : List Half) (g : Bool) (q : Out) : Prop := q.1 = .nrm ∧ eget q.2.1 19 = .sl none (r364.map (cI .i64)) ∧ eget q.2.1 21 = .sl (some 70) (r564.map Half.c) ∧ eget q.2.1 22 = .sl (some 70) (r565.map Half.c) ∧ eget q.2.1 24 = .int .i64 0 ∧ eget q.2.1 25 = .sl (some 70) (r578.map Half.c) ∧ eget q.2.1 26 = .sl (some 70) (r579.map Half.c) ∧ eget q.2.1 184 = .bool g
abbrev laws_FnShares_b4_S := Int
abbrev laws_FnShares_b4_R := Unit ⊕ Unit
def laws_FnShares_b4_RS (r364 : List Int) (r564 : List Half) (r565 : List Half) (r578 : List Half) (r579 : List Half) (s : laws_FnShares_b4_S) (e : Env) (M : Mem) : Prop := eget e 19 = .sl none (r364.map (cI .i64)) ∧ eget e 21 = .sl (some 70) (r564.map Half.c) ∧ eget e 22 = .sl (some 70) (r565.map Half.c) ∧ eget e 25 = .sl (some 70) (r578.map Half.c) ∧ eget e 26 = .sl (some 70) (r579.map Half.c) ∧ eget e 29 = .int .i64 s
def laws_FnShares_b4_RR (r364 : List Int) (r564 : List Half) (r565 : List Half) (r578 : List Half) (r579 : List Half) (r : laws_FnShares_b4_R) (x : Ex) (e : Env) (M : Mem) : Prop :=
  match r with
  | (.inl g) => x = .ret ∧ eget e 4 = .bool false
  | (.inr g) => x = .ext 4 ∧ eget e 19 = .sl none (r364.map (cI .i64)) ∧ eget e 25 = .sl (some 70) (r578.map Half.c)
noncomputable def laws_FnShares_b4 (r364 : List Int) (r564 : List Half) (r565 : List Half) (r578 : List Half) (r579 : List Half) : laws_FnShares_b4_S → Option (laws_FnShares_b4_S ⊕ laws_FnShares_b4_R) := fun s4_1 =>
 if (decide (s4_1 < (r578.length : Int))) = true then
  (rd r578 s4_1).bind fun x723 =>
  (rd r579 s4_1).bind fun x725 =>
  (impl_Fits x723 x725 0).bind fun (r728, r729) =>
  (rd r564 s4_1).bind fun x740 =>
  (impl_AmountOf x740).bind fun (r743, r744) =>
  if (r729 != 0) = true then
   some (.inr (.inl ()))
  else
   if r728 = true then
    if (r744 != 0) = true then
     some (.inr (.inl ()))
    else
     (rd r364 s4_1).bind fun x784 =>
     if (r743 != x784) = true then
      some (.inr (.inl ()))
     else
      (rd r564 s4_1).bind fun x799 =>
      (rd r578 s4_1).bind fun x801 =>
      (spec_SameHalf x799 x801).bind fun r804 =>
      if r804 = true then
       (rd r565 s4_1).bind fun x806 =>
       (rd r579 s4_1).bind fun x808 =>
       (spec_SameHalf x806 x808).bind fun r811 =>
       if r811 = true then
        some (.inl (IntKind.i64.wrap (s4_1 + 1)))
       else
        some (.inr (.inl ()))
      else
       some (.inr (.inl ()))
   else
    some (.inr (.inl ()))
 else
  some (.inr (.inr ()))
theorem laws_FnShares_b4_ok (r364 : List Int) (r564 : List Half) (r565 : List Half) (r578 : List Half) (r579 : List Half) (s : laws_FnShares_b4_S) (r : laws_FnShares_b4_S ⊕ laws_FnShares_b4_R) (h : laws_FnShares_b4 r364 r564 r565 r578 r579 s = some r) (e : Env) (M : Mem) (hs : laws_FnShares_b4_RS r364 r564 r565 r578 r579 s e M) : Ev (fun k => (f5_l34 (CN k) k (prune [19, 21, 22, 25, 26, 29] e) M).bind fun q => some q) (bQ (laws_FnShares_b4_RS r364 r564 r565 r578 r579) (laws_FnShares_b4_RR r364 r564 r565 r578 r579) r) := by
 revert h hs
 revert s
 intro s4_1 h hs
 unfold laws_FnShares_b4 at h
 obtain ⟨h701, h703, h705, h707, h709, h711⟩ := hs
 generalize he700 : prune [19, 21, 22, 25, 26, 29] e = e699
 have h702 := envp he700.symm rfl h701
 have h704 := envp he700.symm rfl h703
 have h706 := envp he700.symm rfl h705
 have h708 := envp he700.symm rfl h707
 have h710 := envp he700.symm rfl h709
 have h712 := envp he700.symm rfl h711
 refine sq (sq (Rg (kx (mvO h712) (kx (mvO h708) (kx (lnS Try.underlying76 rfl) (kx (bLss rfl rfl) (Rn (hV (.sl none (r364.map (cI .i64))) h702 (hV (.sl (some 70) (r564.map Half.c)) h704 (hV (.sl (some 70) (r565.map Half.c)) h706 (hV (.sl (some 70) (r578.map Half.c)) h708 (hV (.sl (some 70) (r579.map Half.c)) h710 (hV (.int .i64 s4_1) h712 (hN rfl hZ))))))) fun e713 h715 h716 h717 h718 h719 h720 h721 => sN ?_)))))))
 clear h702 h704 h706 h708 h710 h712
 rcases ite_some h with ⟨hb722, h⟩ | ⟨hb722, h⟩
 ·obtain ⟨x723, hx724, h⟩ := bind_some h
  obtain ⟨x725, hx726, h⟩ := bind_some h
  obtain ⟨⟨r728, r729⟩, hx727, h⟩ := bind_some h
  obtain ⟨x740, hx741, h⟩ := bind_some h
  obtain ⟨⟨r743, r744⟩, hx742, h⟩ := bind_some h
  refine cT h721 hb722 (xx (sN (sq (bl (sq (Rd (kf (mvO h718) (kf (mvO h720) (kf (ixS rfl rfl hx724 Half.fl) (kf (ldPA rfl rfl rfl) (kf (mvO h719) (kf (mvO h720) (kf (ixS rfl rfl hx726 Half.fl) (kf (ldPA rfl rfl rfl) (fc (cl (v := .tup [.bool r728, .int .i64 r729]) rfl rfl (cns rfl (cns rfl (cns rfl rfl))) rfl (impl_Fits_ok x723 x725 0 _ hx727) nm) (kf (mvO rfl) (kf (exT rfl rfl) (kf (exT rfl rfl) (kf (mvO rfl) (kf (mvO rfl) (fZ (Rn (hA h715 (hA h716 (hA h717 (hA h718 (hA h719 (hA h720 (hN rfl (hN rfl hZ)))))))) fun e730 h732 h733 h734 h735 h736 h737 h738 h739 => sN (sq (Rg (kx (mvO h733) (kx (mvO h737) (kx (ixS rfl rfl hx741 Half.fl) (kx (ldPA rfl rfl rfl) (kc (cl (v := .tup [.int .i64 r743, .int .i64 r744]) rfl rfl (cns rfl rfl) rfl (impl_AmountOf_ok x740 _ hx742) nm) (kx (mvO rfl) (kx (exT rfl rfl) (kx (exT rfl rfl) (kx (mvO rfl) (kx (mvO rfl) (Rn (hA h732 (hA h733 (hA h734 (hA h735 (hA h736 (hA h737 (hA h738 (hA h739 (hN rfl (hN rfl hZ)))))))))) fun e745 h747 h748 h749 h750 h751 h752 h753 h754 h755 h756 => sN (sq (Rd (kf (mvO h754) (kf (bNeq rfl rfl) (kf (mvO rfl) ?_))))))))))))))))))))))))))))))))))))))))
  clear h715 h716 h717 h718 h719 h720 h721 h732 h733 h734 h735 h736 h737 h738 h739
  rcases ite_some h with ⟨hb757, h⟩ | ⟨hb757, h⟩
  ·refine kf (gsF rfl hb757) (kf (gsF rfl hb757) (kf (pkT rfl hb757 rfl) (kf (mvO rfl) (kf (gsF rfl rfl) (kf (gsF rfl rfl) (kf (pkT rfl rfl rfl) (kf (mvO rfl) (kf (gsF rfl rfl) (kf (gsF rfl rfl) (kf (gsF rfl rfl) (kf (gsF rfl rfl) (kf (gsF rfl rfl) (kf (gsF rfl rfl) (kf (pkT rfl rfl rfl) (kf (mvO rfl) (kf (gsF rfl rfl) (kf (gsF rfl rfl) (kf (gsF rfl rfl) (kf (gsF rfl rfl) (kf (gsF rfl rfl) (kf (gsF rfl rfl) (kf (gsF rfl rfl) (kf (gsF rfl rfl) (fc (Ev.gsF rfl rfl) (kf (gsF rfl rfl) (kf (pkT rfl rfl rfl) (kf (mvO rfl) (kf (gsF rfl rfl) (kf (gsF rfl rfl) (kf (gsF rfl rfl) (kf (gsF rfl rfl) (kf (gsF rfl rfl) (kf (gsF rfl rfl) (kf (gsF rfl rfl) (kf (gsF rfl rfl) (fc (Ev.gsF rfl rfl) (kf (gsF rfl rfl) (kf (pkT rfl rfl rfl) (fZ (Rn (hA h747 (hA h748 (hA h749 (hA h750 (hA h751 (hA h752 (hV (.bool true) rfl hZ))))))) fun e758 h760 h761 h762 h763 h764 h765 h766 => sN (cT h766 rfl (sq (Rg (kx (mvO rfl) (Rn (hV (.bool false) rfl hZ) fun e767 h769 => sN (xx (bR (sR ?_))))))))))))))))))))))))))))))))))))))))))))))))
   clear h747 h748 h749 h750 h751 h752 h753 h754 h755 h756 h760 h761 h762 h763 h764 h765 h766
   obtain rfl := si h
   exact qR ⟨rfl, h769⟩
  refine kf (guF rfl hb757 (mvO h753)) (kf (guF rfl hb757 (uNot rfl)) (kf (pkF rfl hb757 rfl) (kf (mvO rfl) ?_)))
  rcases ite_some h with ⟨hb770, h⟩ | ⟨hb770, h⟩
  ·refine kf (guF rfl (congrArg Bool.not hb770) (mvO h756)) (kf (guF rfl (congrArg Bool.not hb770) (bNeq rfl rfl)) (kf (pkF rfl (congrArg Bool.not hb770) rfl) (kf (mvO rfl) ?_)))
   rcases ite_some h with ⟨hb771, h⟩ | ⟨hb771, h⟩
   ·refine kf (gsF rfl hb771) (kf (gsF rfl hb771) (kf (gsF rfl hb771) (kf (gsF rfl hb771) (kf (gsF rfl hb771) (kf (gsF rfl hb771) (kf (pkT rfl hb771 rfl) (kf (mvO rfl) (kf (gsF rfl rfl) (kf (gsF rfl rfl) (kf (gsF rfl rfl) (kf (gsF rfl rfl) (kf (gsF rfl rfl) (kf (gsF rfl rfl) (kf (gsF rfl rfl) (kf (gsF rfl rfl) (fc (Ev.gsF rfl rfl) (kf (gsF rfl rfl) (kf (pkT rfl rfl rfl) (kf (mvO rfl) (kf (gsF rfl rfl) (kf (gsF rfl rfl) (kf (gsF rfl rfl) (kf (gsF rfl rfl) (kf (gsF rfl rfl) (kf (gsF rfl rfl) (kf (gsF rfl rfl) (kf (gsF rfl rfl) (fc (Ev.gsF rfl rfl) (kf (gsF rfl rfl) (kf (pkT rfl rfl rfl) (fZ (Rn (hA h747 (hA h748 (hA h749 (hA h750 (hA h751 (hA h752 (hV (.bool true) rfl hZ))))))) fun e772 h774 h775 h776 h777 h778 h779 h780 => sN (cT h780 rfl (sq (Rg (kx (mvO rfl) (Rn (hV (.bool false) rfl hZ) fun e781 h783 => sN (xx (bR (sR ?_))))))))))))))))))))))))))))))))))))))))
    clear h747 h748 h749 h750 h751 h752 h753 h754 h755 h756 h774 h775 h776 h777 h778 h779 h780
    obtain rfl := si h
    exact qR ⟨rfl, h783⟩
   obtain ⟨x784, hx785, h⟩ := bind_some h
   refine kf (guF rfl hb771 (mvO h755)) (kf (guF rfl hb771 (mvO h747)) (kf (guF rfl hb771 (mvO h752)) (kf (guF rfl hb771 (ixS rfl rfl hx785 (cI_fl _))) (kf (guF rfl hb771 (ldP rfl rfl)) (kf (guF rfl hb771 (bNeq rfl rfl)) (kf (pkF rfl hb771 rfl) (kf (mvO rfl) ?_)))))))
   rcases ite_some h with ⟨hb786, h⟩ | ⟨hb786, h⟩
   ·refine kf (gsF rfl hb786) (kf (gsF rfl hb786) (kf (gsF rfl hb786) (kf (gsF rfl hb786) (kf (gsF rfl hb786) (kf (gsF rfl hb786) (kf (gsF rfl hb786) (kf (gsF rfl hb786) (fc (Ev.gsF rfl hb786) (kf (gsF rfl hb786) (kf (pkT rfl hb786 rfl) (kf (mvO rfl) (kf (gsF rfl rfl) (kf (gsF rfl rfl) (kf (gsF rfl rfl) (kf (gsF rfl rfl) (kf (gsF rfl rfl) (kf (gsF rfl rfl) (kf (gsF rfl rfl) (kf (gsF rfl rfl) (fc (Ev.gsF rfl rfl) (kf (gsF rfl rfl) (kf (pkT rfl rfl rfl) (fZ (Rn (hA h747 (hA h748 (hA h749 (hA h750 (hA h751 (hA h752 (hV (.bool true) rfl hZ))))))) fun e787 h789 h790 h791 h792 h793 h794 h795 => sN (cT h795 rfl (sq (Rg (kx (mvO rfl) (Rn (hV (.bool false) rfl hZ) fun e796 h798 => sN (xx (bR (sR ?_))))))))))))))))))))))))))))))))
    clear h747 h748 h749 h750 h751 h752 h753 h754 h755 h756 h789 h790 h791 h792 h793 h794 h795
    obtain rfl := si h
    exact qR ⟨rfl, h798⟩
   obtain ⟨x799, hx800, h⟩ := bind_some h
   obtain ⟨x801, hx802, h⟩ := bind_some h
   obtain ⟨r804, hx803, h⟩ := bind_some h
   refine kf (guF rfl hb786 (mvO h748)) (kf (guF rfl hb786 (mvO h752)) (kf (guF rfl hb786 (ixS rfl rfl hx800 Half.fl)) (kf (guF rfl hb786 (ldPA rfl rfl rfl)) (kf (guF rfl hb786 (mvO h750)) (kf (guF rfl hb786 (mvO h752)) (kf (guF rfl hb786 (ixS rfl rfl hx802 Half.fl)) (kf (guF rfl hb786 (ldPA rfl rfl rfl)) (fc (Ev.guF rfl hb786 (cl (v := .bool r804) rfl rfl (cns rfl (cns rfl rfl)) rfl (spec_SameHalf_ok x799 x801 _ hx803) nm)) (kf (guF rfl hb786 (uNot rfl)) (kf (pkF rfl hb786 rfl) (kf (mvO rfl) ?_)))))))))))
   rcases ite_some h with ⟨hb805, h⟩ | ⟨hb805, h⟩
   ·obtain ⟨x806, hx807, h⟩ := bind_some h
    obtain ⟨x808, hx809, h⟩ := bind_some h
    obtain ⟨r811, hx810, h⟩ := bind_some h
    refine kf (guF rfl (congrArg Bool.not hb805) (mvO h749)) (kf (guF rfl (congrArg Bool.not hb805) (mvO h752)) (kf (guF rfl (congrArg Bool.not hb805) (ixS rfl rfl hx807 Half.fl)) (kf (guF rfl (congrArg Bool.not hb805) (ldPA rfl rfl rfl)) (kf (guF rfl (congrArg Bool.not hb805) (mvO h751)) (kf (guF rfl (congrArg Bool.not hb805) (mvO h752)) (kf (guF rfl (congrArg Bool.not hb805) (ixS rfl rfl hx809 Half.fl)) (kf (guF rfl (congrArg Bool.not hb805) (ldPA rfl rfl rfl)) (fc (Ev.guF rfl (congrArg Bool.not hb805) (cl (v := .bool r811) rfl rfl (cns rfl (cns rfl rfl)) rfl (spec_SameHalf_ok x806 x808 _ hx810) nm)) (kf (guF rfl (congrArg Bool.not hb805) (uNot rfl)) (kf (pkF rfl (congrArg Bool.not hb805) rfl) (fZ (Rn (hA h747 (hA h748 (hA h749 (hA h750 (hA h751 (hA h752 (hN rfl hZ))))))) fun e812 h814 h815 h816 h817 h818 h819 h820 => sN ?_))))))))))))
    clear h747 h748 h749 h750 h751 h752 h753 h754 h755 h756
    rcases ite_some h with ⟨hb821, h⟩ | ⟨hb821, h⟩
    ·refine cF h820 (congrArg Bool.not hb821) (xx (bN (sN (Rg (kx (mvO h819) (kx (bAdd rfl rfl) (kx (mvO rfl) (Rn (hA h814 (hA h815 (hA h816 (hA h817 (hA h818 (hN rfl hZ)))))) fun e822 h824 h825 h826 h827 h828 h829 => ?_))))))))
     clear h814 h815 h816 h817 h818 h820
     obtain rfl := si h
     exact qN ⟨h824, h825, h826, h827, h828, h829⟩
    refine cT h820 (congrArg Bool.not hb821) (sq (Rg (kx (mvO rfl) (Rn (hV (.bool false) rfl hZ) fun e830 h832 => sN (xx (bR (sR ?_)))))))
    clear h814 h815 h816 h817 h818 h819 h820
    obtain rfl := si h
    exact qR ⟨rfl, h832⟩
   refine kf (gsF rfl (congrArg Bool.not hb805)) (kf (gsF rfl (congrArg Bool.not hb805)) (kf (gsF rfl (congrArg Bool.not hb805)) (kf (gsF rfl (congrArg Bool.not hb805)) (kf (gsF rfl (congrArg Bool.not hb805)) (kf (gsF rfl (congrArg Bool.not hb805)) (kf (gsF rfl (congrArg Bool.not hb805)) (kf (gsF rfl (congrArg Bool.not hb805)) (fc (Ev.gsF rfl (congrArg Bool.not hb805)) (kf (gsF rfl (congrArg Bool.not hb805)) (kf (pkT rfl (congrArg Bool.not hb805) rfl) (fZ (Rn (hA h747 (hA h748 (hA h749 (hA h750 (hA h751 (hA h752 (hV (.bool true) rfl hZ))))))) fun e833 h835 h836 h837 h838 h839 h840 h841 => sN (cT h841 rfl (sq (Rg (kx (mvO rfl) (Rn (hV (.bool false) rfl hZ) fun e842 h844 => sN (xx (bR (sR ?_))))))))))))))))))))
   clear h747 h748 h749 h750 h751 h752 h753 h754 h755 h756 h835 h836 h837 h838 h839 h840 h841
   obtain rfl := si h
   exact qR ⟨rfl, h844⟩
  refine kf (gsF rfl (congrArg Bool.not hb770)) (kf (gsF rfl (congrArg Bool.not hb770)) (kf (pkT rfl (congrArg Bool.not hb770) rfl) (kf (mvO rfl) (kf (gsF rfl rfl) (kf (gsF rfl rfl) (kf (gsF rfl rfl) (kf (gsF rfl rfl) (kf (gsF rfl rfl) (kf (gsF rfl rfl) (kf (pkT rfl rfl rfl) (kf (mvO rfl) (kf (gsF rfl rfl) (kf (gsF rfl rfl) (kf (gsF rfl rfl) (kf (gsF rfl rfl) (kf (gsF rfl rfl) (kf (gsF rfl rfl) (kf (gsF rfl rfl) (kf (gsF rfl rfl) (fc (Ev.gsF rfl rfl) (kf (gsF rfl rfl) (kf (pkT rfl rfl rfl) (kf (mvO rfl) (kf (gsF rfl rfl) (kf (gsF rfl rfl) (kf (gsF rfl rfl) (kf (gsF rfl rfl) (kf (gsF rfl rfl) (kf (gsF rfl rfl) (kf (gsF rfl rfl) (kf (gsF rfl rfl) (fc (Ev.gsF rfl rfl) (kf (gsF rfl rfl) (kf (pkT rfl rfl rfl) (fZ (Rn (hA h747 (hA h748 (hA h749 (hA h750 (hA h751 (hA h752 (hV (.bool true) rfl hZ))))))) fun e845 h847 h848 h849 h850 h851 h852 h853 => sN (cT h853 rfl (sq (Rg (kx (mvO rfl) (Rn (hV (.bool false) rfl hZ) fun e854 h856 => sN (xx (bR (sR ?_))))))))))))))))))))))))))))))))))))))))))))
  clear h747 h748 h749 h750 h751 h752 h753 h754 h755 h756 h847 h848 h849 h850 h851 h852 h853
  obtain rfl := si h
  exact qR ⟨rfl, h856⟩
 refine cF h721 hb722 (xx (sE ?_))
 obtain rfl := si h
 exact qE ⟨rfl, h715, h718⟩
noncomputable def laws_FnShares (a1 : List Int) (a2 : List Int) : Option Bool :=
 ((laws_f6big a1).bind fun r6 =>
 if r6 = true then
  some true
 else
  (laws_f6big a2).bind fun r14 =>
  some r14).bind fun y22 =>
 if y22 = true then
  some true
 else
  (spec_P6Pick a1 5000).bind fun r31 =>
  (spec_P6Weights a2).bind fun r38 =>
  (impl_ShareOut r31 r38).bind fun (r45, r46) =>
  (spec_ShareOut r31 r38).bind fun (r55, r56) =>
  (if (r46 != r56) = true then
   some true
  else
   if (r46 != 0) = true then
    some true
   else
    (spec_SameNumbers r45 r55).bind fun r83 =>
    if r83 = true then
     some ((r55.length : Int) != (r38.length : Int))
    else
     some true).bind fun y101 =>
  if y101 = true then
   some false
  else
   (Lw (laws_FnShares_b1 r38 r55) (0, 0, 0)).bind fun (y214, y215) =>
   if (y214 != r31) = true then
    some false
   else
    (Lw (laws_FnShares_b2 r31 r38 r55 y215) 0).bind fun r => match r with
    | (.inl _) =>
     some false
    | (.inr _) =>
     (spec_P6Chain a1).bind fun (r338, r339, r340, r341, r342) =>
     (spec_AmountOf (Half.mk r339 r340 r341)).bind fun (r355, r356) =>
     (spec_ShareOut r355 r38).bind fun (r364, r365) =>
     (impl_SplitChain (Chain.mk r338 (Half.mk r339 r340 r341) r342) r364 5).bind fun r => match r with
     | (.inl r373) =>
      (spec_SplitChain (Chain.mk r338 (Half.mk r339 r340 r341) r342) r364 5).bind fun (r385, r386, r387, r388) =>
      (if (r356 != 0) = true then
       some true
      else
       if (r365 != 0) = true then
        some true
       else
        if (r373 != r388) = true then
         some true
        else
         if (0 != r387) = true then
          some true
         else
          if (0 != (r385.length : Int)) = true then
           some true
          else
           some (0 != (r386.length : Int))).bind fun y463 =>
      if y463 = true then
       some false
      else
       if (r373 != 0) = true then
        some (r373 == 3)
       else
        (Lw (laws_FnShares_b3 r385 r386) 0).bind fun _ =>
        some ((r385.length : Int) == (r364.length : Int))
     | (.inr (r564, r565, r566)) =>
      (spec_SplitChain (Chain.mk r338 (Half.mk r339 r340 r341) r342) r364 5).bind fun (r578, r579, r580, r581) =>
      (if (r356 != 0) = true then
       some true
      else
       if (r365 != 0) = true then
        some true
       else
        if (0 != r581) = true then
         some true
        else
         if (r566 != r580) = true then
          some true
         else
          if ((r564.length : Int) != (r578.length : Int)) = true then
           some true
          else
           some ((r565.length : Int) != (r579.length : Int))).bind fun y656 =>
      if y656 = true then
       some false
      else
       (Lw (laws_FnShares_b4 r364 r564 r565 r578 r579) 0).bind fun r => match r with
       | (.inl _) =>
        some false
       | (.inr _) =>
        some ((r578.length : Int) == (r364.length : Int))
def laws_FnShares_enc (r : Bool) : AV := .bool r
theorem laws_FnShares_ok (a1 : List Int) (a2 : List Int) (r : Bool) (h : laws_FnShares a1 a2 = some r) : Ev (fun k => CN k 5 [.sl none (a1.map (cI .u8)), .sl none (a2.map (cI .u8))] []) (fun p => rRes p.2 p.1 = laws_FnShares_enc r) := by
 unfold laws_FnShares at h
 obtain ⟨r878, hr879, h⟩ := bind_some h
 refine Ev.enter (F := fun k => f5 (CN k) k) (fun k => callN_eq rfl Try.func5 rfl rfl rfl (by decide +kernel) (f5_eq _ _)) (sq (Rg (kx (mvO rfl) (Rn (hN rfl (hN rfl hZ)) fun e1 h3 h4 => sN (sq (sq ?_))))))
 refine Ev.cut (Q1 := laws_FnShares_c1_Q a1 a2 r878) (by
     have h := hr879
     obtain ⟨r6, hx5, h⟩ := bind_some h
     refine Rg (kx (mvO h3) (kc (cl (v := .bool r6) rfl rfl (cns rfl rfl) rfl (laws_f6big_ok a1 _ hx5) nm) (kx (mvO rfl) ?_)))
     rcases ite_some h with ⟨hb7, h⟩ | ⟨hb7, h⟩
     ·refine kx (gsF rfl hb7) (kc (Ev.gsF rfl hb7) (kx (pkT rfl hb7 rfl) (Rn (hA h3 (hA h4 (hV (.bool true) rfl hZ))) fun e8 h10 h11 h12 => ?_)))
      clear h3 h4
      obtain rfl := si h
      exact kd (show laws_FnShares_c1_Q a1 a2 _ _ from ⟨rfl, h10, h11, h12⟩)
     obtain ⟨r14, hx13, h⟩ := bind_some h
     refine kx (guF rfl hb7 (mvO h4)) (kc (Ev.guF rfl hb7 (cl (v := .bool r14) rfl rfl (cns rfl rfl) rfl (laws_f6big_ok a2 _ hx13) nm)) (kx (pkF rfl hb7 rfl) (Rn (hA h3 (hA h4 (hN rfl hZ))) fun e15 h17 h18 h19 => ?_)))
     clear h3 h4
     obtain rfl := si h
     exact kd (show laws_FnShares_c1_Q a1 a2 _ _ from ⟨rfl, h17, h18, h19⟩)) ?_
 revert h hr879
 revert r878
 intro y22 hr879 h
 intro x e20 M21 hq877
 obtain ⟨rfl, h23, h24, h25⟩ := hq877
 refine sN ?_
 rcases ite_some h with ⟨hb26, h⟩ | ⟨hb26, h⟩
 ·refine cT h25 hb26 (sq (Rg (kx (mvO rfl) (Rn (hV (.bool true) rfl hZ) fun e27 h29 => sN (xx (sR ?_))))))
  clear h23 h24 h25
  obtain rfl := si h
  exact eR (resT h29 res0) rfl
 obtain ⟨r31, hx30, h⟩ := bind_some h
 obtain ⟨r38, hx37, h⟩ := bind_some h
 obtain ⟨⟨r45, r46⟩, hx44, h⟩ := bind_some h
 obtain ⟨⟨r55, r56⟩, hx54, h⟩ := bind_some h
 obtain ⟨r875, hr876, h⟩ := bind_some h
 refine cF h25 hb26 (xx (sN (sq (Rg (kx (mvO h23) (kc (cl (v := .int .i64 r31) rfl rfl (cns rfl (cns rfl rfl)) rfl (spec_P6Pick_ok a1 5000 _ hx30) nm) (kx (mvO rfl) (Rn (hV (.sl none (a1.map (cI .u8))) h23 (hV (.sl none (a2.map (cI .u8))) h24 (hN rfl hZ))) fun e32 h34 h35 h36 => sN (sq (Rg (kx (mvO h35) (kc (clO (v := .sl none (r38.map (cI .i64))) rfl rfl (cns rfl rfl) rfl (spec_P6Weights_ok a2 _ hx37)) (kx (mvO rfl) (Rn (hA h34 (hA h36 (hN rfl hZ))) fun e39 h41 h42 h43 => sN (sq (Rg (kx (mvO h42) (kx (mvO h43) (kc (clO (v := .tup [.sl none (r45.map (cI .i64)), .int .i64 r46]) rfl rfl (cns rfl (cns rfl rfl)) rfl (impl_ShareOut_ok r31 r38 _ hx44)) (kx (mvO rfl) (kx (exT rfl rfl) (kx (exT rfl rfl) (kx (mvO rfl) (kx (mvO rfl) (Rn (hA h41 (hA h42 (hA h43 (hN rfl (hN rfl hZ))))) fun e47 h49 h50 h51 h52 h53 => sN (sq (Rg (kx (mvO h50) (kx (mvO h51) (kc (clO (v := .tup [.sl none (r55.map (cI .i64)), .int .i64 r56]) rfl rfl (cns rfl (cns rfl rfl)) rfl (spec_ShareOut_ok r31 r38 _ hx54)) (kx (mvO rfl) (kx (exT rfl rfl) (kx (exT rfl rfl) (kx (mvO rfl) (kx (mvO rfl) (Rn (hA h49 (hA h50 (hA h51 (hA h52 (hA h53 (hN rfl (hN rfl hZ))))))) fun e57 h59 h60 h61 h62 h63 h64 h65 => sN (sq (sq ?_))))))))))))))))))))))))))))))))))))))
 clear h23 h24 h25 h34 h35 h36 h41 h42 h43 h49 h50 h51 h52 h53
 refine Ev.cut (Q1 := laws_FnShares_c2_Q a1 r31 r38 r55 r875) (by
     have h := hr876
     refine Rg (kx (mvO h63) (kx (mvO h65) (kx (bNeq rfl rfl) (kx (mvO rfl) ?_))))
     rcases ite_some h with ⟨hb66, h⟩ | ⟨hb66, h⟩
     ·refine kx (gsF rfl hb66) (kx (gsF rfl hb66) (kx (pkT rfl hb66 rfl) (kx (mvO rfl) (kx (gsF rfl rfl) (kx (gsF rfl rfl) (kc (Ev.gsF rfl rfl) (kx (gsF rfl rfl) (kx (pkT rfl rfl rfl) (kx (mvO rfl) (kx (gsF rfl rfl) (kx (gsF rfl rfl) (kx (gsF rfl rfl) (kx (gsF rfl rfl) (kx (gsF rfl rfl) (kx (pkT rfl rfl rfl) (Rn (hA h59 (hA h60 (hA h61 (hA h64 (hV (.bool true) rfl hZ))))) fun e67 h69 h70 h71 h72 h73 => ?_))))))))))))))))
      clear h59 h60 h61 h62 h63 h64 h65
      obtain rfl := si h
      exact kd (show laws_FnShares_c2_Q a1 r31 r38 r55 _ _ from ⟨rfl, h69, h70, h71, h72, h73⟩)
     refine kx (guF rfl hb66 (mvO h63)) (kx (guF rfl hb66 (bNeq rfl rfl)) (kx (pkF rfl hb66 rfl) (kx (mvO rfl) ?_)))
     rcases ite_some h with ⟨hb74, h⟩ | ⟨hb74, h⟩
     ·refine kx (gsF rfl hb74) (kx (gsF rfl hb74) (kc (Ev.gsF rfl hb74) (kx (gsF rfl hb74) (kx (pkT rfl hb74 rfl) (kx (mvO rfl) (kx (gsF rfl rfl) (kx (gsF rfl rfl) (kx (gsF rfl rfl) (kx (gsF rfl rfl) (kx (gsF rfl rfl) (kx (pkT rfl rfl rfl) (Rn (hA h59 (hA h60 (hA h61 (hA h64 (hV (.bool true) rfl hZ))))) fun e75 h77 h78 h79 h80 h81 => ?_))))))))))))
      clear h59 h60 h61 h62 h63 h64 h65
      obtain rfl := si h
      exact kd (show laws_FnShares_c2_Q a1 r31 r38 r55 _ _ from ⟨rfl, h77, h78, h79, h80, h81⟩)
     obtain ⟨r83, hx82, h⟩ := bind_some h
     refine kx (guF rfl hb74 (mvO h62)) (kx (guF rfl hb74 (mvO h64)) (kc (Ev.guF rfl hb74 (cl (v := .bool r83) rfl rfl (cns rfl (cns rfl rfl)) rfl (spec_SameNumbers_ok r45 r55 _ hx82) nm)) (kx (guF rfl hb74 (uNot rfl)) (kx (pkF rfl hb74 rfl) (kx (mvO rfl) ?_)))))
     rcases ite_some h with ⟨hb84, h⟩ | ⟨hb84, h⟩
     ·refine kx (guF rfl (congrArg Bool.not hb84) (mvO h64)) (kx (guF rfl (congrArg Bool.not hb84) (lnS Try.underlying24 rfl)) (kx (guF rfl (congrArg Bool.not hb84) (mvO h61)) (kx (guF rfl (congrArg Bool.not hb84) (lnS Try.underlying24 rfl)) (kx (guF rfl (congrArg Bool.not hb84) (bNeq rfl rfl)) (kx (pkF rfl (congrArg Bool.not hb84) rfl) (Rn (hA h59 (hA h60 (hA h61 (hA h64 (hN rfl hZ))))) fun e85 h87 h88 h89 h90 h91 => ?_))))))
      clear h59 h60 h61 h62 h63 h64 h65
      obtain rfl := si h
      exact kd (show laws_FnShares_c2_Q a1 r31 r38 r55 _ _ from ⟨rfl, h87, h88, h89, h90, h91⟩)
     refine kx (gsF rfl (congrArg Bool.not hb84)) (kx (gsF rfl (congrArg Bool.not hb84)) (kx (gsF rfl (congrArg Bool.not hb84)) (kx (gsF rfl (congrArg Bool.not hb84)) (kx (gsF rfl (congrArg Bool.not hb84)) (kx (pkT rfl (congrArg Bool.not hb84) rfl) (Rn (hA h59 (hA h60 (hA h61 (hA h64 (hV (.bool true) rfl hZ))))) fun e92 h94 h95 h96 h97 h98 => ?_))))))
     clear h59 h60 h61 h62 h63 h64 h65
     obtain rfl := si h
     exact kd (show laws_FnShares_c2_Q a1 r31 r38 r55 _ _ from ⟨rfl, h94, h95, h96, h97, h98⟩)) ?_
 revert h hr876
 revert r875
 intro y101 hr876 h
 intro x e99 M100 hq874
 obtain ⟨rfl, h102, h103, h104, h105, h106⟩ := hq874
 refine sN ?_
 rcases ite_some h with ⟨hb107, h⟩ | ⟨hb107, h⟩
 ·refine cT h106 hb107 (sq (Rg (kx (mvO rfl) (Rn (hV (.bool false) rfl hZ) fun e108 h110 => sN (xx (sR ?_))))))
  clear h102 h103 h104 h105 h106
  obtain rfl := si h
  exact eR (resT h110 res0) rfl
 obtain ⟨⟨y214, y215⟩, hr210, h⟩ := bind_some h
 refine cF h106 hb107 (xx (sN (sq (Rg (kx (mvO rfl) (Rn (hV (.sl none (a1.map (cI .u8))) h102 (hV (.int .i64 r31) h103 (hV (.sl none (r38.map (cI .i64))) h104 (hV (.sl none (r55.map (cI .i64))) h105 (hV (.int .i64 0) rfl hZ))))) fun e111 h113 h114 h115 h116 h117 => sN (sq (Rg (kx (mvO rfl) (Rn (hA h113 (hA h114 (hA h115 (hA h116 (hA h117 (hV (.int .i64 0) rfl hZ)))))) fun e118 h120 h121 h122 h123 h124 h125 => sN (sq (sq (Rg (kx (mvO rfl) (Rn (hA h120 (hA h121 (hA h122 (hA h123 (hA h124 (hA h125 (hV (.int .i64 0) rfl hZ))))))) fun e126 h128 h129 h130 h131 h132 h133 h134 => sN (bl (Ev.loop (RS := laws_FnShares_b1_RS a1 r31 r38 r55) (RR := laws_FnShares_b1_RR a1 r31 r38 r55) (fun s r h e M hs => laws_FnShares_b1_ok a1 r31 r38 r55 s r h e M hs) hr210 ⟨h128, h129, h130, h131, h132, h133, h134⟩ fun x e212 M213 hq211 => ?_)))))))))))))))))
 clear h102 h103 h104 h105 h106 h113 h114 h115 h116 h117 h120 h121 h122 h123 h124 h125
 obtain ⟨rfl, h216, h217, h218, h219, h220, h221⟩ := hq211
 refine bE (sN (sq (sq (Rg (kx (mvO h220) (kx (mvO h217) (kx (bNeq rfl rfl) (Rn (hV (.sl none (a1.map (cI .u8))) h216 (hV (.int .i64 r31) h217 (hV (.sl none (r38.map (cI .i64))) h218 (hV (.sl none (r55.map (cI .i64))) h219 (hV (.int .i64 y215) h221 (hN rfl hZ)))))) fun e222 h224 h225 h226 h227 h228 h229 => sN ?_))))))))
 clear h216 h217 h218 h219 h220 h221
 rcases ite_some h with ⟨hb230, h⟩ | ⟨hb230, h⟩
 ·refine cT h229 hb230 (sq (Rg (kx (mvO rfl) (Rn (hV (.bool false) rfl hZ) fun e231 h233 => sN (xx (sR ?_))))))
  clear h224 h225 h226 h227 h228 h229
  obtain rfl := si h
  exact eR (resT h233 res0) rfl
 obtain ⟨r327, hr328, h⟩ := bind_some h
 refine cF h229 hb230 (xx (sN (sq (sq (Rg (kx (mvO rfl) (Rn (hA h224 (hA h225 (hA h226 (hA h227 (hA h228 (hV (.int .i64 0) rfl hZ)))))) fun e234 h236 h237 h238 h239 h240 h241 => sN (bl ?_))))))))
 clear h224 h225 h226 h227 h228 h229
 rcases r327 with _ | _
 ·refine Ev.loop (RS := laws_FnShares_b2_RS a1 r31 r38 r55 y215) (RR := laws_FnShares_b2_RR a1 r31 r38 r55 y215) (fun s r h e M hs => laws_FnShares_b2_ok a1 r31 r38 r55 y215 s r h e M hs) hr328 ⟨h236, h237, h238, h239, h240, h241⟩ fun x e330 M331 hq329 => ?_
  obtain ⟨rfl, h332⟩ := hq329
  refine bR (sR ?_)
  obtain rfl := si h
  exact eR (resT h332 res0) rfl
 refine Ev.loop (RS := laws_FnShares_b2_RS a1 r31 r38 r55 y215) (RR := laws_FnShares_b2_RR a1 r31 r38 r55 y215) (fun s r h e M hs => laws_FnShares_b2_ok a1 r31 r38 r55 y215 s r h e M hs) hr328 ⟨h236, h237, h238, h239, h240, h241⟩ fun x e333 M334 hq329 => ?_
 obtain ⟨rfl, h335, h336⟩ := hq329
 obtain ⟨⟨r338, r339, r340, r341, r342⟩, hx337, h⟩ := bind_some h
 refine bE (sN (sq (Rg (kx (mvO h335) (kc (clW (v := .agg (.str r338 :: (.bool r339 :: (.sl none (r340.map Notch.c) :: ((arC (cI .i8) 0 r341) ++ ((.sl none (r342.map Mark.c) :: []) : List AV)))))) rfl rfl (cns rfl rfl) rfl (spec_P6Chain_ok a1 _ hx337) rfl) (ku (alO zero73) fun M344 hM345 => ?_))))))
 have o346 : M344[M334.length]? = some (.live ⟨.box, 73, 20, [(.str ([] : List UInt8) :: (.bool false :: (.nils :: ((arC (cI .i8) 0 (Ar.rep 16 0)) ++ ((.nils :: []) : List AV)))))]⟩) := push_new hM345
 refine kw (stO rfl rfl o346 rfl rfl ⟨rfl, ble rfl⟩ rfl rfl) fun M347 hM348 => ?_
 have o349 : M347[M334.length]? = some (.live ⟨.box, 73, 20, [(.str r338 :: (.bool r339 :: (.sl none (r340.map Notch.c) :: ((arC (cI .i8) 0 r341) ++ ((.sl none (r342.map Mark.c) :: []) : List AV)))))]⟩) := set_same hM348 o346
 obtain ⟨⟨r355, r356⟩, hx354, h⟩ := bind_some h
 obtain ⟨⟨r364, r365⟩, hx363, h⟩ := bind_some h
 obtain ⟨q873, hx372, h⟩ := bind_some h
 refine Rn (hV (.sl none (r38.map (cI .i64))) h336 (hV (.loc M334.length 1 0 0) rfl hZ)) fun e350 h352 h353 => sN (sq (Rg (kx (faO h353 o349 rfl) (kx (ldOA (cs' := (.bool r339 :: (.sl none (r340.map Notch.c) :: ((arC (cI .i8) 0 r341) ++ ([] : List AV))))) rfl o349 rfl rfl (ble rfl) rfl) (kc (cl (v := .tup [.int .i64 r355, .int .i64 r356]) rfl rfl (cns rfl rfl) rfl (spec_AmountOf_ok (Half.mk r339 r340 r341) _ hx354) nm) (kx (mvO rfl) (kx (exT rfl rfl) (kx (exT rfl rfl) (kx (mvO rfl) (kx (mvO rfl) (Rn (hA h352 (hA h353 (hN rfl (hN rfl hZ)))) fun e357 h359 h360 h361 h362 => sN (sq (Rg (kx (mvO h361) (kx (mvO h359) (kc (clO (v := .tup [.sl none (r364.map (cI .i64)), .int .i64 r365]) rfl rfl (cns rfl (cns rfl rfl)) rfl (spec_ShareOut_ok r355 r38 _ hx363)) (kx (mvO rfl) (kx (exT rfl rfl) (kx (exT rfl rfl) (kx (mvO rfl) (kx (mvO rfl) (Rn (hA h360 (hA h362 (hN rfl (hN rfl hZ)))) fun e366 h368 h369 h370 h371 => sN (sq (Rg (kx (ldOA (cs' := (.str r338 :: (.bool r339 :: (.sl none (r340.map Notch.c) :: ((arC (cI .i8) 0 r341) ++ ((.sl none (r342.map Mark.c) :: []) : List AV)))))) h368 o349 rfl rfl (ble rfl) rfl) (kx (mvO h370) ?_))))))))))))))))))))))))))
 clear h335 h336 h352 h353 h359 h360 h361 h362
 rcases q873 with r373 | ⟨r564, r565, r566⟩
 ·obtain ⟨⟨r385, r386, r387, r388⟩, hx384, h⟩ := bind_some h
  obtain ⟨r562, hr563, h⟩ := bind_some h
  refine kc (cl (v := .tup [.nils, .nils, .int .u32 0, .int .i64 r373]) rfl rfl (cns rfl (cns rfl (cns rfl rfl))) rfl (impl_SplitChain_ok (Chain.mk r338 (Half.mk r339 r340 r341) r342) r364 5 _ hx372) nm) (kx (mvO rfl) (kx (exT rfl rfl) (kx (exT rfl rfl) (kx (exT rfl rfl) (kx (exT rfl rfl) (kx (mvO rfl) (kx (mvO rfl) (kx (mvO rfl) (kx (mvO rfl) (Rn (hA h368 (hA h369 (hA h370 (hA h371 (hV .nils rfl (hV .nils rfl (hV (.int .u32 0) rfl (hN rfl hZ)))))))) fun e374 h376 h377 h378 h379 h380 h381 h382 h383 => sN (sq (Rg (kx (ldOA (cs' := (.str r338 :: (.bool r339 :: (.sl none (r340.map Notch.c) :: ((arC (cI .i8) 0 r341) ++ ((.sl none (r342.map Mark.c) :: []) : List AV)))))) h376 o349 rfl rfl (ble rfl) rfl) (kx (mvO h378) (kc (cl (v := .tup [.sl (some 70) (r385.map Half.c), .sl (some 70) (r386.map Half.c), .int .u32 r387, .int .i64 r388]) rfl rfl (cns rfl (cns rfl (cns rfl rfl))) rfl (spec_SplitChain_ok (Chain.mk r338 (Half.mk r339 r340 r341) r342) r364 5 _ hx384) nm) (kx (mvO rfl) (kx (exT rfl rfl) (kx (exT rfl rfl) (kx (exT rfl rfl) (kx (exT rfl rfl) (kx (mvO rfl) (kx (mvO rfl) (kx (mvO rfl) (kx (mvO rfl) (Rn (hA h377 (hA h378 (hA h379 (hA h380 (hA h381 (hA h382 (hA h383 (hN rfl (hN rfl (hN rfl (hN rfl hZ))))))))))) fun e389 h391 h392 h393 h394 h395 h396 h397 h398 h399 h400 h401 => sN (sq (sq ?_)))))))))))))))))))))))))))
  clear h368 h369 h370 h371 h376 h377 h378 h379 h380 h381 h382 h383
  refine Ev.cut (Q1 := laws_FnShares_c3_Q r364 r373 r385 r386 r562) (by
      have h := hr563
      refine Rg (kx (mvO h391) (kx (bNeq rfl rfl) (kx (mvO rfl) ?_)))
      rcases ite_some h with ⟨hb402, h⟩ | ⟨hb402, h⟩
      ·refine kx (gsF rfl hb402) (kx (gsF rfl hb402) (kx (pkT rfl hb402 rfl) (kx (mvO rfl) (kx (gsF rfl rfl) (kx (gsF rfl rfl) (kx (gsF rfl rfl) (kx (pkT rfl rfl rfl) (kx (mvO rfl) (kx (gsF rfl rfl) (kx (gsF rfl rfl) (kx (gsF rfl rfl) (kx (pkT rfl rfl rfl) (kx (mvO rfl) (kx (gsF rfl rfl) (kx (gsF rfl rfl) (kx (gsF rfl rfl) (kx (gsF rfl rfl) (kx (gsF rfl rfl) (kx (pkT rfl rfl rfl) (kx (mvO rfl) (kx (gsF rfl rfl) (kx (gsF rfl rfl) (kx (gsF rfl rfl) (kx (gsF rfl rfl) (kx (gsF rfl rfl) (kx (pkT rfl rfl rfl) (Rn (hA h392 (hA h394 (hA h395 (hA h397 (hA h398 (hA h399 (hV (.bool true) rfl hZ))))))) fun e403 h405 h406 h407 h408 h409 h410 h411 => ?_)))))))))))))))))))))))))))
       clear h391 h392 h393 h394 h395 h396 h397 h398 h399 h400 h401
       obtain rfl := si h
       exact kd (show laws_FnShares_c3_Q r364 r373 r385 r386 _ _ from ⟨rfl, h405, h406, h407, h408, h409, h410, h411⟩)
      refine kx (guF rfl hb402 (mvO h393)) (kx (guF rfl hb402 (bNeq rfl rfl)) (kx (pkF rfl hb402 rfl) (kx (mvO rfl) ?_)))
      rcases ite_some h with ⟨hb412, h⟩ | ⟨hb412, h⟩
      ·refine kx (gsF rfl hb412) (kx (gsF rfl hb412) (kx (gsF rfl hb412) (kx (pkT rfl hb412 rfl) (kx (mvO rfl) (kx (gsF rfl rfl) (kx (gsF rfl rfl) (kx (gsF rfl rfl) (kx (pkT rfl rfl rfl) (kx (mvO rfl) (kx (gsF rfl rfl) (kx (gsF rfl rfl) (kx (gsF rfl rfl) (kx (gsF rfl rfl) (kx (gsF rfl rfl) (kx (pkT rfl rfl rfl) (kx (mvO rfl) (kx (gsF rfl rfl) (kx (gsF rfl rfl) (kx (gsF rfl rfl) (kx (gsF rfl rfl) (kx (gsF rfl rfl) (kx (pkT rfl rfl rfl) (Rn (hA h392 (hA h394 (hA h395 (hA h397 (hA h398 (hA h399 (hV (.bool true) rfl hZ))))))) fun e413 h415 h416 h417 h418 h419 h420 h421 => ?_)))))))))))))))))))))))
       clear h391 h392 h393 h394 h395 h396 h397 h398 h399 h400 h401
       obtain rfl := si h
       exact kd (show laws_FnShares_c3_Q r364 r373 r385 r386 _ _ from ⟨rfl, h415, h416, h417, h418, h419, h420, h421⟩)
      refine kx (guF rfl hb412 (mvO h397)) (kx (guF rfl hb412 (mvO h401)) (kx (guF rfl hb412 (bNeq rfl rfl)) (kx (pkF rfl hb412 rfl) (kx (mvO rfl) ?_))))
      rcases ite_some h with ⟨hb422, h⟩ | ⟨hb422, h⟩
      ·refine kx (gsF rfl hb422) (kx (gsF rfl hb422) (kx (gsF rfl hb422) (kx (pkT rfl hb422 rfl) (kx (mvO rfl) (kx (gsF rfl rfl) (kx (gsF rfl rfl) (kx (gsF rfl rfl) (kx (gsF rfl rfl) (kx (gsF rfl rfl) (kx (pkT rfl rfl rfl) (kx (mvO rfl) (kx (gsF rfl rfl) (kx (gsF rfl rfl) (kx (gsF rfl rfl) (kx (gsF rfl rfl) (kx (gsF rfl rfl) (kx (pkT rfl rfl rfl) (Rn (hA h392 (hA h394 (hA h395 (hA h397 (hA h398 (hA h399 (hV (.bool true) rfl hZ))))))) fun e423 h425 h426 h427 h428 h429 h430 h431 => ?_))))))))))))))))))
       clear h391 h392 h393 h394 h395 h396 h397 h398 h399 h400 h401
       obtain rfl := si h
       exact kd (show laws_FnShares_c3_Q r364 r373 r385 r386 _ _ from ⟨rfl, h425, h426, h427, h428, h429, h430, h431⟩)
      refine kx (guF rfl hb422 (mvO h396)) (kx (guF rfl hb422 (mvO h400)) (kx (guF rfl hb422 (bNeq rfl rfl)) (kx (pkF rfl hb422 rfl) (kx (mvO rfl) ?_))))
      rcases ite_some h with ⟨hb432, h⟩ | ⟨hb432, h⟩
      ·refine kx (gsF rfl hb432) (kx (gsF rfl hb432) (kx (gsF rfl hb432) (kx (gsF rfl hb432) (kx (gsF rfl hb432) (kx (pkT rfl hb432 rfl) (kx (mvO rfl) (kx (gsF rfl rfl) (kx (gsF rfl rfl) (kx (gsF rfl rfl) (kx (gsF rfl rfl) (kx (gsF rfl rfl) (kx (pkT rfl rfl rfl) (Rn (hA h392 (hA h394 (hA h395 (hA h397 (hA h398 (hA h399 (hV (.bool true) rfl hZ))))))) fun e433 h435 h436 h437 h438 h439 h440 h441 => ?_)))))))))))))
       clear h391 h392 h393 h394 h395 h396 h397 h398 h399 h400 h401
       obtain rfl := si h
       exact kd (show laws_FnShares_c3_Q r364 r373 r385 r386 _ _ from ⟨rfl, h435, h436, h437, h438, h439, h440, h441⟩)
      refine kx (guF rfl hb432 (mvO h394)) (kx (guF rfl hb432 (lnN Try.underlying76 rfl)) (kx (guF rfl hb432 (mvO h398)) (kx (guF rfl hb432 (lnS Try.underlying76 rfl)) (kx (guF rfl hb432 (bNeq rfl rfl)) (kx (pkF rfl hb432 rfl) (kx (mvO rfl) ?_))))))
      rcases ite_some h with ⟨hb442, h⟩ | ⟨hb442, h⟩
      ·refine kx (gsF rfl hb442) (kx (gsF rfl hb442) (kx (gsF rfl hb442) (kx (gsF rfl hb442) (kx (gsF rfl hb442) (kx (pkT rfl hb442 rfl) (Rn (hA h392 (hA h394 (hA h395 (hA h397 (hA h398 (hA h399 (hV (.bool true) rfl hZ))))))) fun e443 h445 h446 h447 h448 h449 h450 h451 => ?_))))))
       clear h391 h392 h393 h394 h395 h396 h397 h398 h399 h400 h401
       obtain rfl := si h
       exact kd (show laws_FnShares_c3_Q r364 r373 r385 r386 _ _ from ⟨rfl, h445, h446, h447, h448, h449, h450, h451⟩)
      refine kx (guF rfl hb442 (mvO h395)) (kx (guF rfl hb442 (lnN Try.underlying76 rfl)) (kx (guF rfl hb442 (mvO h399)) (kx (guF rfl hb442 (lnS Try.underlying76 rfl)) (kx (guF rfl hb442 (bNeq rfl rfl)) (kx (pkF rfl hb442 rfl) (Rn (hA h392 (hA h394 (hA h395 (hA h397 (hA h398 (hA h399 (hN rfl hZ))))))) fun e452 h454 h455 h456 h457 h458 h459 h460 => ?_))))))
      clear h391 h392 h393 h394 h395 h396 h397 h398 h399 h400 h401
      obtain rfl := si h
      exact kd (show laws_FnShares_c3_Q r364 r373 r385 r386 _ _ from ⟨rfl, h454, h455, h456, h457, h458, h459, h460⟩)) ?_
  revert h hr563
  revert r562
  intro y463 hr563 h
  intro x e461 M462 hq561
  obtain ⟨rfl, h464, h465, h466, h467, h468, h469, h470⟩ := hq561
  refine sN ?_
  rcases ite_some h with ⟨hb471, h⟩ | ⟨hb471, h⟩
  ·refine cT h470 hb471 (sq (Rg (kx (mvO rfl) (Rn (hV (.bool false) rfl hZ) fun e472 h474 => sN (xx (sR ?_))))))
   clear h464 h465 h466 h467 h468 h469 h470
   obtain rfl := si h
   exact eR (resT h474 res0) rfl
  refine cF h470 hb471 (xx (sN (sq (sq (Rg (kx (mvO h467) (kx (bNeq rfl rfl) (Rn (hV (.sl none (r364.map (cI .i64))) h464 (hV .nils h465 (hV .nils h466 (hV (.int .i64 r373) h467 (hV (.sl (some 70) (r385.map Half.c)) h468 (hV (.sl (some 70) (r386.map Half.c)) h469 (hN rfl hZ))))))) fun e475 h477 h478 h479 h480 h481 h482 h483 => sN ?_))))))))
  clear h464 h465 h466 h467 h468 h469 h470
  rcases ite_some h with ⟨hb484, h⟩ | ⟨hb484, h⟩
  ·refine cT h483 hb484 (sq (Rg (kx (mvO h480) (kx (bEql rfl rfl) (kx (mvO rfl) (Rn (hN rfl hZ) fun e485 h487 => sN (xx (sR ?_))))))))
   clear h477 h478 h479 h480 h481 h482 h483
   obtain rfl := si h
   exact eR (resT h487 res0) rfl
  obtain ⟨r551, hr552, h⟩ := bind_some h
  refine cF h483 hb484 (xx (sN (sq (sq (Rg (kx (mvO rfl) (Rn (hA h477 (hA h478 (hA h479 (hA h481 (hA h482 (hV (.int .i64 0) rfl hZ)))))) fun e488 h490 h491 h492 h493 h494 h495 => sN (bl (Ev.loop (RS := laws_FnShares_b3_RS r364 r385 r386) (RR := laws_FnShares_b3_RR r364 r385 r386) (fun s r h e M hs => laws_FnShares_b3_ok r364 r385 r386 s r h e M hs) hr552 ⟨h490, h491, h492, h493, h494, h495⟩ fun x e554 M555 hq553 => ?_)))))))))
  clear h477 h478 h479 h480 h481 h482 h483
  obtain ⟨rfl, h556, h557⟩ := hq553
  refine bE (sN (sq (Rg (kx (mvO h557) (kx (lnS Try.underlying76 rfl) (kx (mvO h556) (kx (lnS Try.underlying24 rfl) (kx (bEql rfl rfl) (kx (mvO rfl) (Rn (hN rfl hZ) fun e558 h560 => sN (xx ?_)))))))))))
  clear h556 h557
  obtain rfl := si h
  exact eR (resT h560 res0) rfl
 obtain ⟨⟨r578, r579, r580, r581⟩, hx577, h⟩ := bind_some h
 obtain ⟨r871, hr872, h⟩ := bind_some h
 refine kc (cl (v := .tup [.sl (some 70) (r564.map Half.c), .sl (some 70) (r565.map Half.c), .int .u32 r566, .int .i64 0]) rfl rfl (cns rfl (cns rfl (cns rfl rfl))) rfl (impl_SplitChain_ok (Chain.mk r338 (Half.mk r339 r340 r341) r342) r364 5 _ hx372) nm) (kx (mvO rfl) (kx (exT rfl rfl) (kx (exT rfl rfl) (kx (exT rfl rfl) (kx (exT rfl rfl) (kx (mvO rfl) (kx (mvO rfl) (kx (mvO rfl) (kx (mvO rfl) (Rn (hA h368 (hA h369 (hA h370 (hA h371 (hN rfl (hN rfl (hN rfl (hV (.int .i64 0) rfl hZ)))))))) fun e567 h569 h570 h571 h572 h573 h574 h575 h576 => sN (sq (Rg (kx (ldOA (cs' := (.str r338 :: (.bool r339 :: (.sl none (r340.map Notch.c) :: ((arC (cI .i8) 0 r341) ++ ((.sl none (r342.map Mark.c) :: []) : List AV)))))) h569 o349 rfl rfl (ble rfl) rfl) (kx (mvO h571) (kc (cl (v := .tup [.sl (some 70) (r578.map Half.c), .sl (some 70) (r579.map Half.c), .int .u32 r580, .int .i64 r581]) rfl rfl (cns rfl (cns rfl (cns rfl rfl))) rfl (spec_SplitChain_ok (Chain.mk r338 (Half.mk r339 r340 r341) r342) r364 5 _ hx577) nm) (kx (mvO rfl) (kx (exT rfl rfl) (kx (exT rfl rfl) (kx (exT rfl rfl) (kx (exT rfl rfl) (kx (mvO rfl) (kx (mvO rfl) (kx (mvO rfl) (kx (mvO rfl) (Rn (hA h570 (hA h571 (hA h572 (hA h573 (hA h574 (hA h575 (hA h576 (hN rfl (hN rfl (hN rfl (hN rfl hZ))))))))))) fun e582 h584 h585 h586 h587 h588 h589 h590 h591 h592 h593 h594 => sN (sq (sq ?_)))))))))))))))))))))))))))
 clear h368 h369 h370 h371 h569 h570 h571 h572 h573 h574 h575 h576
 refine Ev.cut (Q1 := laws_FnShares_c4_Q r364 r564 r565 r578 r579 r871) (by
     have h := hr872
     refine Rg (kx (mvO h584) (kx (bNeq rfl rfl) (kx (mvO rfl) ?_)))
     rcases ite_some h with ⟨hb595, h⟩ | ⟨hb595, h⟩
     ·refine kx (gsF rfl hb595) (kx (gsF rfl hb595) (kx (pkT rfl hb595 rfl) (kx (mvO rfl) (kx (gsF rfl rfl) (kx (gsF rfl rfl) (kx (gsF rfl rfl) (kx (pkT rfl rfl rfl) (kx (mvO rfl) (kx (gsF rfl rfl) (kx (gsF rfl rfl) (kx (gsF rfl rfl) (kx (pkT rfl rfl rfl) (kx (mvO rfl) (kx (gsF rfl rfl) (kx (gsF rfl rfl) (kx (gsF rfl rfl) (kx (gsF rfl rfl) (kx (gsF rfl rfl) (kx (pkT rfl rfl rfl) (kx (mvO rfl) (kx (gsF rfl rfl) (kx (gsF rfl rfl) (kx (gsF rfl rfl) (kx (gsF rfl rfl) (kx (gsF rfl rfl) (kx (pkT rfl rfl rfl) (Rn (hA h585 (hA h587 (hA h588 (hA h590 (hA h591 (hA h592 (hV (.bool true) rfl hZ))))))) fun e596 h598 h599 h600 h601 h602 h603 h604 => ?_)))))))))))))))))))))))))))
      clear h584 h585 h586 h587 h588 h589 h590 h591 h592 h593 h594
      obtain rfl := si h
      exact kd (show laws_FnShares_c4_Q r364 r564 r565 r578 r579 _ _ from ⟨rfl, h598, h599, h600, h601, h602, h603, h604⟩)
     refine kx (guF rfl hb595 (mvO h586)) (kx (guF rfl hb595 (bNeq rfl rfl)) (kx (pkF rfl hb595 rfl) (kx (mvO rfl) ?_)))
     rcases ite_some h with ⟨hb605, h⟩ | ⟨hb605, h⟩
     ·refine kx (gsF rfl hb605) (kx (gsF rfl hb605) (kx (gsF rfl hb605) (kx (pkT rfl hb605 rfl) (kx (mvO rfl) (kx (gsF rfl rfl) (kx (gsF rfl rfl) (kx (gsF rfl rfl) (kx (pkT rfl rfl rfl) (kx (mvO rfl) (kx (gsF rfl rfl) (kx (gsF rfl rfl) (kx (gsF rfl rfl) (kx (gsF rfl rfl) (kx (gsF rfl rfl) (kx (pkT rfl rfl rfl) (kx (mvO rfl) (kx (gsF rfl rfl) (kx (gsF rfl rfl) (kx (gsF rfl rfl) (kx (gsF rfl rfl) (kx (gsF rfl rfl) (kx (pkT rfl rfl rfl) (Rn (hA h585 (hA h587 (hA h588 (hA h590 (hA h591 (hA h592 (hV (.bool true) rfl hZ))))))) fun e606 h608 h609 h610 h611 h612 h613 h614 => ?_)))))))))))))))))))))))
      clear h584 h585 h586 h587 h588 h589 h590 h591 h592 h593 h594
      obtain rfl := si h
      exact kd (show laws_FnShares_c4_Q r364 r564 r565 r578 r579 _ _ from ⟨rfl, h608, h609, h610, h611, h612, h613, h614⟩)
     refine kx (guF rfl hb605 (mvO h590)) (kx (guF rfl hb605 (mvO h594)) (kx (guF rfl hb605 (bNeq rfl rfl)) (kx (pkF rfl hb605 rfl) (kx (mvO rfl) ?_))))
     rcases ite_some h with ⟨hb615, h⟩ | ⟨hb615, h⟩
     ·refine kx (gsF rfl hb615) (kx (gsF rfl hb615) (kx (gsF rfl hb615) (kx (pkT rfl hb615 rfl) (kx (mvO rfl) (kx (gsF rfl rfl) (kx (gsF rfl rfl) (kx (gsF rfl rfl) (kx (gsF rfl rfl) (kx (gsF rfl rfl) (kx (pkT rfl rfl rfl) (kx (mvO rfl) (kx (gsF rfl rfl) (kx (gsF rfl rfl) (kx (gsF rfl rfl) (kx (gsF rfl rfl) (kx (gsF rfl rfl) (kx (pkT rfl rfl rfl) (Rn (hA h585 (hA h587 (hA h588 (hA h590 (hA h591 (hA h592 (hV (.bool true) rfl hZ))))))) fun e616 h618 h619 h620 h621 h622 h623 h624 => ?_))))))))))))))))))
      clear h584 h585 h586 h587 h588 h589 h590 h591 h592 h593 h594
      obtain rfl := si h
      exact kd (show laws_FnShares_c4_Q r364 r564 r565 r578 r579 _ _ from ⟨rfl, h618, h619, h620, h621, h622, h623, h624⟩)
     refine kx (guF rfl hb615 (mvO h589)) (kx (guF rfl hb615 (mvO h593)) (kx (guF rfl hb615 (bNeq rfl rfl)) (kx (pkF rfl hb615 rfl) (kx (mvO rfl) ?_))))
     rcases ite_some h with ⟨hb625, h⟩ | ⟨hb625, h⟩
     ·refine kx (gsF rfl hb625) (kx (gsF rfl hb625) (kx (gsF rfl hb625) (kx (gsF rfl hb625) (kx (gsF rfl hb625) (kx (pkT rfl hb625 rfl) (kx (mvO rfl) (kx (gsF rfl rfl) (kx (gsF rfl rfl) (kx (gsF rfl rfl) (kx (gsF rfl rfl) (kx (gsF rfl rfl) (kx (pkT rfl rfl rfl) (Rn (hA h585 (hA h587 (hA h588 (hA h590 (hA h591 (hA h592 (hV (.bool true) rfl hZ))))))) fun e626 h628 h629 h630 h631 h632 h633 h634 => ?_)))))))))))))
      clear h584 h585 h586 h587 h588 h589 h590 h591 h592 h593 h594
      obtain rfl := si h
      exact kd (show laws_FnShares_c4_Q r364 r564 r565 r578 r579 _ _ from ⟨rfl, h628, h629, h630, h631, h632, h633, h634⟩)
     refine kx (guF rfl hb625 (mvO h587)) (kx (guF rfl hb625 (lnS Try.underlying76 rfl)) (kx (guF rfl hb625 (mvO h591)) (kx (guF rfl hb625 (lnS Try.underlying76 rfl)) (kx (guF rfl hb625 (bNeq rfl rfl)) (kx (pkF rfl hb625 rfl) (kx (mvO rfl) ?_))))))
     rcases ite_some h with ⟨hb635, h⟩ | ⟨hb635, h⟩
     ·refine kx (gsF rfl hb635) (kx (gsF rfl hb635) (kx (gsF rfl hb635) (kx (gsF rfl hb635) (kx (gsF rfl hb635) (kx (pkT rfl hb635 rfl) (Rn (hA h585 (hA h587 (hA h588 (hA h590 (hA h591 (hA h592 (hV (.bool true) rfl hZ))))))) fun e636 h638 h639 h640 h641 h642 h643 h644 => ?_))))))
      clear h584 h585 h586 h587 h588 h589 h590 h591 h592 h593 h594
      obtain rfl := si h
      exact kd (show laws_FnShares_c4_Q r364 r564 r565 r578 r579 _ _ from ⟨rfl, h638, h639, h640, h641, h642, h643, h644⟩)
     refine kx (guF rfl hb635 (mvO h588)) (kx (guF rfl hb635 (lnS Try.underlying76 rfl)) (kx (guF rfl hb635 (mvO h592)) (kx (guF rfl hb635 (lnS Try.underlying76 rfl)) (kx (guF rfl hb635 (bNeq rfl rfl)) (kx (pkF rfl hb635 rfl) (Rn (hA h585 (hA h587 (hA h588 (hA h590 (hA h591 (hA h592 (hN rfl hZ))))))) fun e645 h647 h648 h649 h650 h651 h652 h653 => ?_))))))
     clear h584 h585 h586 h587 h588 h589 h590 h591 h592 h593 h594
     obtain rfl := si h
     exact kd (show laws_FnShares_c4_Q r364 r564 r565 r578 r579 _ _ from ⟨rfl, h647, h648, h649, h650, h651, h652, h653⟩)) ?_
 revert h hr872
 revert r871
 intro y656 hr872 h
 intro x e654 M655 hq870
 obtain ⟨rfl, h657, h658, h659, h660, h661, h662, h663⟩ := hq870
 refine sN ?_
 rcases ite_some h with ⟨hb664, h⟩ | ⟨hb664, h⟩
 ·refine cT h663 hb664 (sq (Rg (kx (mvO rfl) (Rn (hV (.bool false) rfl hZ) fun e665 h667 => sN (xx (sR ?_))))))
  clear h657 h658 h659 h660 h661 h662 h663
  obtain rfl := si h
  exact eR (resT h667 res0) rfl
 obtain ⟨r857, hr858, h⟩ := bind_some h
 refine cF h663 hb664 (xx (sN (sq (sq (Rg (kx (mvO h660) (kx (bNeq rfl rfl) (Rn (hV (.sl none (r364.map (cI .i64))) h657 (hV (.sl (some 70) (r564.map Half.c)) h658 (hV (.sl (some 70) (r565.map Half.c)) h659 (hV (.int .i64 0) h660 (hV (.sl (some 70) (r578.map Half.c)) h661 (hV (.sl (some 70) (r579.map Half.c)) h662 (hV (.bool false) rfl hZ))))))) fun e668 h670 h671 h672 h673 h674 h675 h676 => sN (cF h676 rfl (xx (sN (sq (sq (Rg (kx (mvO rfl) (Rn (hA h670 (hA h671 (hA h672 (hA h674 (hA h675 (hV (.int .i64 0) rfl hZ)))))) fun e677 h679 h680 h681 h682 h683 h684 => sN (bl ?_)))))))))))))))))
 clear h657 h658 h659 h660 h661 h662 h663 h670 h671 h672 h673 h674 h675 h676
 rcases r857 with _ | _
 ·refine Ev.loop (RS := laws_FnShares_b4_RS r364 r564 r565 r578 r579) (RR := laws_FnShares_b4_RR r364 r564 r565 r578 r579) (fun s r h e M hs => laws_FnShares_b4_ok r364 r564 r565 r578 r579 s r h e M hs) hr858 ⟨h679, h680, h681, h682, h683, h684⟩ fun x e860 M861 hq859 => ?_
  obtain ⟨rfl, h862⟩ := hq859
  refine bR (sR ?_)
  obtain rfl := si h
  exact eR (resT h862 res0) rfl
 refine Ev.loop (RS := laws_FnShares_b4_RS r364 r564 r565 r578 r579) (RR := laws_FnShares_b4_RR r364 r564 r565 r578 r579) (fun s r h e M hs => laws_FnShares_b4_ok r364 r564 r565 r578 r579 s r h e M hs) hr858 ⟨h679, h680, h681, h682, h683, h684⟩ fun x e863 M864 hq859 => ?_
 obtain ⟨rfl, h865, h866⟩ := hq859
 refine bE (sN (sq (Rg (kx (mvO h866) (kx (lnS Try.underlying76 rfl) (kx (mvO h865) (kx (lnS Try.underlying24 rfl) (kx (bEql rfl rfl) (kx (mvO rfl) (Rn (hN rfl hZ) fun e867 h869 => sN (xx ?_)))))))))))
 clear h865 h866
 obtain rfl := si h
 exact eR (resT h869 res0) rfl
end Go.Proofs.Ytjlalepbhcekoaa

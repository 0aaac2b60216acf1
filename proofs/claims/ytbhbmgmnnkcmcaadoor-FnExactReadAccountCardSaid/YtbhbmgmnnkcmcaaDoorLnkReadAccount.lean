/- Printed by a program of ours (ext.py). -/
import Derived.Test.YtbhbmgmnnkcmcaaDoorLnkReadAccountx0
set_option linter.unusedVariables false
set_option linter.unusedSimpArgs false
set_option maxRecDepth 100000
set_option maxHeartbeats 2000000
namespace Go.Proofs.YtbhbmgmnnkcmcaaDoor
open Go Go.Ab
/-! ### loop.example/g01263/impl.ReadAccount (f25) -/
noncomputable def impl_ReadAccount (a1 : List UInt8) : Option (((List UInt8) × Int × Int) ⊕ ((List UInt8) × (List Item) × Int)) :=
 (impl_linesOf a1).bind fun r => match r with
 | (.inl _) =>
  (impl_readAccount ([] : List (List UInt8))).bind fun r => match r with
  | (.inl (r16, r17, r18, r19)) =>
   if r19 = true then
    if (r18 != 0) = true then
     some (.inl (([] : List UInt8), 0, 5))
    else
     some (.inl (r16, r17, 0))
   else
    some (.inl (([] : List UInt8), 0, 5))
  | (.inr (r74, r75, r76, r77, r78)) =>
   if r78 = true then
    if (r77 != 0) = true then
     some (.inl (([] : List UInt8), 0, 5))
    else
     some (.inr (r74, r75, r76))
   else
    some (.inl (([] : List UInt8), 0, 5))
 | (.inr (r134, r135)) =>
  (impl_readAccount r134).bind fun r => match r with
  | (.inl (r142, r143, r144, r145)) =>
   if r135 = true then
    if r145 = true then
     if (r144 != (r134.length : Int)) = true then
      some (.inl (([] : List UInt8), 0, 5))
     else
      some (.inl (r142, r143, 0))
    else
     some (.inl (([] : List UInt8), 0, 5))
   else
    some (.inl (([] : List UInt8), 0, 5))
  | (.inr (r214, r215, r216, r217, r218)) =>
   if r135 = true then
    if r218 = true then
     if (r217 != (r134.length : Int)) = true then
      some (.inl (([] : List UInt8), 0, 5))
     else
      some (.inr (r214, r215, r216))
    else
     some (.inl (([] : List UInt8), 0, 5))
   else
    some (.inl (([] : List UInt8), 0, 5))
def impl_ReadAccount_enc (r : ((List UInt8) × Int × Int) ⊕ ((List UInt8) × (List Item) × Int)) : AV :=
  match r with
  | (.inl g) => .tup [.agg [.str g.1, .nils, .int .i64 g.2.1], .int .i64 g.2.2]
  | (.inr g) => .tup [.agg [.str g.1, .sl (some 85) (g.2.1.map Item.c), .int .i64 g.2.2], .int .i64 0]
theorem impl_ReadAccount_ok (a1 : List UInt8) (r : ((List UInt8) × Int × Int) ⊕ ((List UInt8) × (List Item) × Int)) (h : impl_ReadAccount a1 = some r) : Ev (fun k => CN k 25 [.str a1] []) (fun p => rRes p.2 p.1 = impl_ReadAccount_enc r) := by
 unfold impl_ReadAccount at h
 refine Ev.enter (F := fun k => f25 (CN k) k) (fun k => callN_eq rfl Tryd.func25 rfl rfl rfl (by decide +kernel) (f25_eq _ _)) (sq (Rg (ku (alO zero29) fun M2 hM3 => ?_)))
 have o4 : M2[([] : Mem).length]? = some (.live ⟨.box, 29, 3, [[.str ([] : List UInt8), .nils, .int .i64 0]]⟩) := push_new hM3
 obtain ⟨q288, hx9, h⟩ := bind_some h
 refine kx (mvO rfl) (Rn (hN rfl (hV (.loc ([] : Mem).length 1 0 0) rfl hZ)) fun e5 h7 h8 => sN (sq (Rg (kx (mvO h7) ?_))))
 rcases q288 with _ | ⟨r134, r135⟩
 ·obtain ⟨q133, hx15, h⟩ := bind_some h
  refine kc (cl (v := .tup [.nils, .bool true]) rfl (cns rfl rfl) rfl (impl_linesOf_ok a1 _ hx9) nm) (kx (mvO rfl) (kx (exT rfl rfl) (kx (exT rfl rfl) (kx (mvO rfl) (kx (mvO rfl) (Rn (hA h8 (hV .nils rfl (hV (.bool true) rfl hZ))) fun e10 h12 h13 h14 => sN (sq (Rg (kx (mvO h13) ?_)))))))))
  clear h7 h8
  rcases q133 with ⟨r16, r17, r18, r19⟩ | ⟨r74, r75, r76, r77, r78⟩
  ·refine kc (cl (v := .tup [.agg [.str r16, .nils, .int .i64 r17], .int .i64 r18, .bool r19]) rfl (cns rfl rfl) rfl (impl_readAccount_ok ([] : List (List UInt8)) _ hx15) nm) (kx (mvO rfl) (kx (exT rfl rfl) (kx (exT rfl rfl) (kx (exT rfl rfl) (ku (alO zero29) fun M21 hM22 => ?_)))))
   have o23 := push_old hM22 o4
   have ne24 := ne_new o4
   have o25 : M21[M2.length]? = some (.live ⟨.box, 29, 3, [[.str ([] : List UInt8), .nils, .int .i64 0]]⟩) := push_new hM22
   refine kw (stOK rfl rfl o25 rfl rfl ⟨rfl, ble rfl⟩ rfl rfl) fun M26 hM27 => ?_
   have o28 := set_ne hM27 ne24 o23
   have o29 : M26[M2.length]? = some (.live ⟨.box, 29, 3, [[.str r16, .nils, .int .i64 r17]]⟩) := set_same hM27 o25
   refine kx (mvO rfl) (kx (mvO rfl) (Rn (hA h12 (hA h13 (hA h14 (hV (.loc M2.length 1 0 0) rfl (hN rfl (hN rfl hZ)))))) fun e30 h32 h33 h34 h35 h36 h37 => sN (sq (sq (Rg (kx (mvO h34) (kx (uNot rfl) (kx (mvO rfl) (kx (guF rfl rfl (mvO h37)) (kx (guF rfl rfl (uNot rfl)) (kx (pkF rfl rfl rfl) (kx (mvO rfl) ?_))))))))))))
   clear h12 h13 h14
   rcases ite_some h with ⟨hb38, h⟩ | ⟨hb38, h⟩
   ·refine kx (guF rfl (congrArg Bool.not hb38) (mvO h36)) (kx (guF rfl (congrArg Bool.not hb38) (mvO h33)) (kx (guF rfl (congrArg Bool.not hb38) (lnN Tryd.underlying86 rfl)) (kx (guF rfl (congrArg Bool.not hb38) (bNeq rfl rfl)) (kx (pkF rfl (congrArg Bool.not hb38) rfl) (Rn (hA h32 (hA h35 (hN rfl hZ))) fun e39 h41 h42 h43 => sN ?_)))))
    clear h32 h33 h34 h35 h36 h37
    rcases ite_some h with ⟨hb44, h⟩ | ⟨hb44, h⟩
    ·refine cT h43 hb44 (sq (Rg (kx (bldT zero29 rfl (fill0 rfl)) (kw (stOK h41 rfl o28 rfl rfl ⟨rfl, ble rfl⟩ rfl rfl) fun M45 hM46 => ?_))))
     have o47 : M45[([] : Mem).length]? = some (.live ⟨.box, 29, 3, [[.str ([] : List UInt8), .nils, .int .i64 0]]⟩) := set_same hM46 o28
     have o48 := set_ne hM46 (Ne.symm ne24) o29
     refine kx (mvO rfl) (Rn (hA h41 (hV (.int .i64 5) rfl hZ)) fun e49 h51 h52 => sN (xx (sR ?_)))
     clear h41 h42 h43
     obtain rfl := si h
     exact eR (resC (ag := true) (sz := 3) ⟨by kernel_rfl, by kernel_rfl, by kernel_rfl⟩ (ldOA h51 o47 rfl rfl (ble rfl) rfl) (resT h52 res0)) rfl
    refine cF h43 hb44 (xx (sN (sq (Rg (kx (ldOA h42 o29 rfl rfl (ble rfl) rfl) (kw (stOK h41 rfl o28 rfl rfl ⟨rfl, ble rfl⟩ rfl rfl) fun M53 hM54 => ?_))))))
    have o55 : M53[([] : Mem).length]? = some (.live ⟨.box, 29, 3, [[.str r16, .nils, .int .i64 r17]]⟩) := set_same hM54 o28
    have o56 := set_ne hM54 (Ne.symm ne24) o29
    refine kx (mvO rfl) (Rn (hA h41 (hV (.int .i64 0) rfl hZ)) fun e57 h59 h60 => sN (xx ?_))
    clear h41 h42 h43
    obtain rfl := si h
    exact eR (resC (ag := true) (sz := 3) ⟨by kernel_rfl, by kernel_rfl, by kernel_rfl⟩ (ldOA h59 o55 rfl rfl (ble rfl) rfl) (resT h60 res0)) rfl
   refine kx (gsF rfl (congrArg Bool.not hb38)) (kx (gsF rfl (congrArg Bool.not hb38)) (kx (gsF rfl (congrArg Bool.not hb38)) (kx (gsF rfl (congrArg Bool.not hb38)) (kx (pkT rfl (congrArg Bool.not hb38) rfl) (Rn (hA h32 (hA h35 (hV (.bool true) rfl hZ))) fun e61 h63 h64 h65 => sN (cT h65 rfl (sq (Rg (kx (bldT zero29 rfl (fill0 rfl)) (kw (stOK h63 rfl o28 rfl rfl ⟨rfl, ble rfl⟩ rfl rfl) fun M66 hM67 => ?_))))))))))
   clear h32 h33 h34 h35 h36 h37
   have o68 : M66[([] : Mem).length]? = some (.live ⟨.box, 29, 3, [[.str ([] : List UInt8), .nils, .int .i64 0]]⟩) := set_same hM67 o28
   have o69 := set_ne hM67 (Ne.symm ne24) o29
   refine kx (mvO rfl) (Rn (hA h63 (hV (.int .i64 5) rfl hZ)) fun e70 h72 h73 => sN (xx (sR ?_)))
   clear h63 h64 h65
   obtain rfl := si h
   exact eR (resC (ag := true) (sz := 3) ⟨by kernel_rfl, by kernel_rfl, by kernel_rfl⟩ (ldOA h72 o68 rfl rfl (ble rfl) rfl) (resT h73 res0)) rfl
  refine kc (cl (v := .tup [.agg [.str r74, .sl (some 85) (r75.map Item.c), .int .i64 r76], .int .i64 r77, .bool r78]) rfl (cns rfl rfl) rfl (impl_readAccount_ok ([] : List (List UInt8)) _ hx15) nm) (kx (mvO rfl) (kx (exT rfl rfl) (kx (exT rfl rfl) (kx (exT rfl rfl) (ku (alO zero29) fun M80 hM81 => ?_)))))
  have o82 := push_old hM81 o4
  have ne83 := ne_new o4
  have o84 : M80[M2.length]? = some (.live ⟨.box, 29, 3, [[.str ([] : List UInt8), .nils, .int .i64 0]]⟩) := push_new hM81
  refine kw (stOK rfl rfl o84 rfl rfl ⟨rfl, ble rfl⟩ rfl rfl) fun M85 hM86 => ?_
  have o87 := set_ne hM86 ne83 o82
  have o88 : M85[M2.length]? = some (.live ⟨.box, 29, 3, [[.str r74, .sl (some 85) (r75.map Item.c), .int .i64 r76]]⟩) := set_same hM86 o84
  refine kx (mvO rfl) (kx (mvO rfl) (Rn (hA h12 (hA h13 (hA h14 (hV (.loc M2.length 1 0 0) rfl (hN rfl (hN rfl hZ)))))) fun e89 h91 h92 h93 h94 h95 h96 => sN (sq (sq (Rg (kx (mvO h93) (kx (uNot rfl) (kx (mvO rfl) (kx (guF rfl rfl (mvO h96)) (kx (guF rfl rfl (uNot rfl)) (kx (pkF rfl rfl rfl) (kx (mvO rfl) ?_))))))))))))
  clear h12 h13 h14
  rcases ite_some h with ⟨hb97, h⟩ | ⟨hb97, h⟩
  ·refine kx (guF rfl (congrArg Bool.not hb97) (mvO h95)) (kx (guF rfl (congrArg Bool.not hb97) (mvO h92)) (kx (guF rfl (congrArg Bool.not hb97) (lnN Tryd.underlying86 rfl)) (kx (guF rfl (congrArg Bool.not hb97) (bNeq rfl rfl)) (kx (pkF rfl (congrArg Bool.not hb97) rfl) (Rn (hA h91 (hA h94 (hN rfl hZ))) fun e98 h100 h101 h102 => sN ?_)))))
   clear h91 h92 h93 h94 h95 h96
   rcases ite_some h with ⟨hb103, h⟩ | ⟨hb103, h⟩
   ·refine cT h102 hb103 (sq (Rg (kx (bldT zero29 rfl (fill0 rfl)) (kw (stOK h100 rfl o87 rfl rfl ⟨rfl, ble rfl⟩ rfl rfl) fun M104 hM105 => ?_))))
    have o106 : M104[([] : Mem).length]? = some (.live ⟨.box, 29, 3, [[.str ([] : List UInt8), .nils, .int .i64 0]]⟩) := set_same hM105 o87
    have o107 := set_ne hM105 (Ne.symm ne83) o88
    refine kx (mvO rfl) (Rn (hA h100 (hV (.int .i64 5) rfl hZ)) fun e108 h110 h111 => sN (xx (sR ?_)))
    clear h100 h101 h102
    obtain rfl := si h
    exact eR (resC (ag := true) (sz := 3) ⟨by kernel_rfl, by kernel_rfl, by kernel_rfl⟩ (ldOA h110 o106 rfl rfl (ble rfl) rfl) (resT h111 res0)) rfl
   refine cF h102 hb103 (xx (sN (sq (Rg (kx (ldOA h101 o88 rfl rfl (ble rfl) rfl) (kw (stOK h100 rfl o87 rfl rfl ⟨rfl, ble rfl⟩ rfl rfl) fun M112 hM113 => ?_))))))
   have o114 : M112[([] : Mem).length]? = some (.live ⟨.box, 29, 3, [[.str r74, .sl (some 85) (r75.map Item.c), .int .i64 r76]]⟩) := set_same hM113 o87
   have o115 := set_ne hM113 (Ne.symm ne83) o88
   refine kx (mvO rfl) (Rn (hA h100 (hV (.int .i64 0) rfl hZ)) fun e116 h118 h119 => sN (xx ?_))
   clear h100 h101 h102
   obtain rfl := si h
   exact eR (resC (ag := true) (sz := 3) ⟨by kernel_rfl, by kernel_rfl, by kernel_rfl⟩ (ldOA h118 o114 rfl rfl (ble rfl) rfl) (resT h119 res0)) rfl
  refine kx (gsF rfl (congrArg Bool.not hb97)) (kx (gsF rfl (congrArg Bool.not hb97)) (kx (gsF rfl (congrArg Bool.not hb97)) (kx (gsF rfl (congrArg Bool.not hb97)) (kx (pkT rfl (congrArg Bool.not hb97) rfl) (Rn (hA h91 (hA h94 (hV (.bool true) rfl hZ))) fun e120 h122 h123 h124 => sN (cT h124 rfl (sq (Rg (kx (bldT zero29 rfl (fill0 rfl)) (kw (stOK h122 rfl o87 rfl rfl ⟨rfl, ble rfl⟩ rfl rfl) fun M125 hM126 => ?_))))))))))
  clear h91 h92 h93 h94 h95 h96
  have o127 : M125[([] : Mem).length]? = some (.live ⟨.box, 29, 3, [[.str ([] : List UInt8), .nils, .int .i64 0]]⟩) := set_same hM126 o87
  have o128 := set_ne hM126 (Ne.symm ne83) o88
  refine kx (mvO rfl) (Rn (hA h122 (hV (.int .i64 5) rfl hZ)) fun e129 h131 h132 => sN (xx (sR ?_)))
  clear h122 h123 h124
  obtain rfl := si h
  exact eR (resC (ag := true) (sz := 3) ⟨by kernel_rfl, by kernel_rfl, by kernel_rfl⟩ (ldOA h131 o127 rfl rfl (ble rfl) rfl) (resT h132 res0)) rfl
 obtain ⟨q287, hx141, h⟩ := bind_some h
 refine kc (cl (v := .tup [.sl none (r134.map cS), .bool r135]) rfl (cns rfl rfl) rfl (impl_linesOf_ok a1 _ hx9) nm) (kx (mvO rfl) (kx (exT rfl rfl) (kx (exT rfl rfl) (kx (mvO rfl) (kx (mvO rfl) (Rn (hA h8 (hN rfl (hN rfl hZ))) fun e136 h138 h139 h140 => sN (sq (Rg (kx (mvO h139) ?_)))))))))
 clear h7 h8
 rcases q287 with ⟨r142, r143, r144, r145⟩ | ⟨r214, r215, r216, r217, r218⟩
 ·refine kc (cl (v := .tup [.agg [.str r142, .nils, .int .i64 r143], .int .i64 r144, .bool r145]) rfl (cns rfl rfl) rfl (impl_readAccount_ok r134 _ hx141) nm) (kx (mvO rfl) (kx (exT rfl rfl) (kx (exT rfl rfl) (kx (exT rfl rfl) (ku (alO zero29) fun M147 hM148 => ?_)))))
  have o149 := push_old hM148 o4
  have ne150 := ne_new o4
  have o151 : M147[M2.length]? = some (.live ⟨.box, 29, 3, [[.str ([] : List UInt8), .nils, .int .i64 0]]⟩) := push_new hM148
  refine kw (stOK rfl rfl o151 rfl rfl ⟨rfl, ble rfl⟩ rfl rfl) fun M152 hM153 => ?_
  have o154 := set_ne hM153 ne150 o149
  have o155 : M152[M2.length]? = some (.live ⟨.box, 29, 3, [[.str r142, .nils, .int .i64 r143]]⟩) := set_same hM153 o151
  refine kx (mvO rfl) (kx (mvO rfl) (Rn (hA h138 (hA h139 (hA h140 (hV (.loc M2.length 1 0 0) rfl (hN rfl (hN rfl hZ)))))) fun e156 h158 h159 h160 h161 h162 h163 => sN (sq (sq (Rg (kx (mvO h160) (kx (uNot rfl) (kx (mvO rfl) ?_))))))))
  clear h138 h139 h140
  rcases ite_some h with ⟨hb164, h⟩ | ⟨hb164, h⟩
  ·refine kx (guF rfl (congrArg Bool.not hb164) (mvO h163)) (kx (guF rfl (congrArg Bool.not hb164) (uNot rfl)) (kx (pkF rfl (congrArg Bool.not hb164) rfl) (kx (mvO rfl) ?_)))
   rcases ite_some h with ⟨hb165, h⟩ | ⟨hb165, h⟩
   ·refine kx (guF rfl (congrArg Bool.not hb165) (mvO h162)) (kx (guF rfl (congrArg Bool.not hb165) (mvO h159)) (kx (guF rfl (congrArg Bool.not hb165) (lnS Tryd.underlying86 rfl)) (kx (guF rfl (congrArg Bool.not hb165) (bNeq rfl rfl)) (kx (pkF rfl (congrArg Bool.not hb165) rfl) (Rn (hA h158 (hA h161 (hN rfl hZ))) fun e166 h168 h169 h170 => sN ?_)))))
    clear h158 h159 h160 h161 h162 h163
    rcases ite_some h with ⟨hb171, h⟩ | ⟨hb171, h⟩
    ·refine cT h170 hb171 (sq (Rg (kx (bldT zero29 rfl (fill0 rfl)) (kw (stOK h168 rfl o154 rfl rfl ⟨rfl, ble rfl⟩ rfl rfl) fun M172 hM173 => ?_))))
     have o174 : M172[([] : Mem).length]? = some (.live ⟨.box, 29, 3, [[.str ([] : List UInt8), .nils, .int .i64 0]]⟩) := set_same hM173 o154
     have o175 := set_ne hM173 (Ne.symm ne150) o155
     refine kx (mvO rfl) (Rn (hA h168 (hV (.int .i64 5) rfl hZ)) fun e176 h178 h179 => sN (xx (sR ?_)))
     clear h168 h169 h170
     obtain rfl := si h
     exact eR (resC (ag := true) (sz := 3) ⟨by kernel_rfl, by kernel_rfl, by kernel_rfl⟩ (ldOA h178 o174 rfl rfl (ble rfl) rfl) (resT h179 res0)) rfl
    refine cF h170 hb171 (xx (sN (sq (Rg (kx (ldOA h169 o155 rfl rfl (ble rfl) rfl) (kw (stOK h168 rfl o154 rfl rfl ⟨rfl, ble rfl⟩ rfl rfl) fun M180 hM181 => ?_))))))
    have o182 : M180[([] : Mem).length]? = some (.live ⟨.box, 29, 3, [[.str r142, .nils, .int .i64 r143]]⟩) := set_same hM181 o154
    have o183 := set_ne hM181 (Ne.symm ne150) o155
    refine kx (mvO rfl) (Rn (hA h168 (hV (.int .i64 0) rfl hZ)) fun e184 h186 h187 => sN (xx ?_))
    clear h168 h169 h170
    obtain rfl := si h
    exact eR (resC (ag := true) (sz := 3) ⟨by kernel_rfl, by kernel_rfl, by kernel_rfl⟩ (ldOA h186 o182 rfl rfl (ble rfl) rfl) (resT h187 res0)) rfl
   refine kx (gsF rfl (congrArg Bool.not hb165)) (kx (gsF rfl (congrArg Bool.not hb165)) (kx (gsF rfl (congrArg Bool.not hb165)) (kx (gsF rfl (congrArg Bool.not hb165)) (kx (pkT rfl (congrArg Bool.not hb165) rfl) (Rn (hA h158 (hA h161 (hV (.bool true) rfl hZ))) fun e188 h190 h191 h192 => sN (cT h192 rfl (sq (Rg (kx (bldT zero29 rfl (fill0 rfl)) (kw (stOK h190 rfl o154 rfl rfl ⟨rfl, ble rfl⟩ rfl rfl) fun M193 hM194 => ?_))))))))))
   clear h158 h159 h160 h161 h162 h163
   have o195 : M193[([] : Mem).length]? = some (.live ⟨.box, 29, 3, [[.str ([] : List UInt8), .nils, .int .i64 0]]⟩) := set_same hM194 o154
   have o196 := set_ne hM194 (Ne.symm ne150) o155
   refine kx (mvO rfl) (Rn (hA h190 (hV (.int .i64 5) rfl hZ)) fun e197 h199 h200 => sN (xx (sR ?_)))
   clear h190 h191 h192
   obtain rfl := si h
   exact eR (resC (ag := true) (sz := 3) ⟨by kernel_rfl, by kernel_rfl, by kernel_rfl⟩ (ldOA h199 o195 rfl rfl (ble rfl) rfl) (resT h200 res0)) rfl
  refine kx (gsF rfl (congrArg Bool.not hb164)) (kx (gsF rfl (congrArg Bool.not hb164)) (kx (pkT rfl (congrArg Bool.not hb164) rfl) (kx (mvO rfl) (kx (gsF rfl rfl) (kx (gsF rfl rfl) (kx (gsF rfl rfl) (kx (gsF rfl rfl) (kx (pkT rfl rfl rfl) (Rn (hA h158 (hA h161 (hV (.bool true) rfl hZ))) fun e201 h203 h204 h205 => sN (cT h205 rfl (sq (Rg (kx (bldT zero29 rfl (fill0 rfl)) (kw (stOK h203 rfl o154 rfl rfl ⟨rfl, ble rfl⟩ rfl rfl) fun M206 hM207 => ?_))))))))))))))
  clear h158 h159 h160 h161 h162 h163
  have o208 : M206[([] : Mem).length]? = some (.live ⟨.box, 29, 3, [[.str ([] : List UInt8), .nils, .int .i64 0]]⟩) := set_same hM207 o154
  have o209 := set_ne hM207 (Ne.symm ne150) o155
  refine kx (mvO rfl) (Rn (hA h203 (hV (.int .i64 5) rfl hZ)) fun e210 h212 h213 => sN (xx (sR ?_)))
  clear h203 h204 h205
  obtain rfl := si h
  exact eR (resC (ag := true) (sz := 3) ⟨by kernel_rfl, by kernel_rfl, by kernel_rfl⟩ (ldOA h212 o208 rfl rfl (ble rfl) rfl) (resT h213 res0)) rfl
 refine kc (cl (v := .tup [.agg [.str r214, .sl (some 85) (r215.map Item.c), .int .i64 r216], .int .i64 r217, .bool r218]) rfl (cns rfl rfl) rfl (impl_readAccount_ok r134 _ hx141) nm) (kx (mvO rfl) (kx (exT rfl rfl) (kx (exT rfl rfl) (kx (exT rfl rfl) (ku (alO zero29) fun M220 hM221 => ?_)))))
 have o222 := push_old hM221 o4
 have ne223 := ne_new o4
 have o224 : M220[M2.length]? = some (.live ⟨.box, 29, 3, [[.str ([] : List UInt8), .nils, .int .i64 0]]⟩) := push_new hM221
 refine kw (stOK rfl rfl o224 rfl rfl ⟨rfl, ble rfl⟩ rfl rfl) fun M225 hM226 => ?_
 have o227 := set_ne hM226 ne223 o222
 have o228 : M225[M2.length]? = some (.live ⟨.box, 29, 3, [[.str r214, .sl (some 85) (r215.map Item.c), .int .i64 r216]]⟩) := set_same hM226 o224
 refine kx (mvO rfl) (kx (mvO rfl) (Rn (hA h138 (hA h139 (hA h140 (hV (.loc M2.length 1 0 0) rfl (hN rfl (hN rfl hZ)))))) fun e229 h231 h232 h233 h234 h235 h236 => sN (sq (sq (Rg (kx (mvO h233) (kx (uNot rfl) (kx (mvO rfl) ?_))))))))
 clear h138 h139 h140
 rcases ite_some h with ⟨hb237, h⟩ | ⟨hb237, h⟩
 ·refine kx (guF rfl (congrArg Bool.not hb237) (mvO h236)) (kx (guF rfl (congrArg Bool.not hb237) (uNot rfl)) (kx (pkF rfl (congrArg Bool.not hb237) rfl) (kx (mvO rfl) ?_)))
  rcases ite_some h with ⟨hb238, h⟩ | ⟨hb238, h⟩
  ·refine kx (guF rfl (congrArg Bool.not hb238) (mvO h235)) (kx (guF rfl (congrArg Bool.not hb238) (mvO h232)) (kx (guF rfl (congrArg Bool.not hb238) (lnS Tryd.underlying86 rfl)) (kx (guF rfl (congrArg Bool.not hb238) (bNeq rfl rfl)) (kx (pkF rfl (congrArg Bool.not hb238) rfl) (Rn (hA h231 (hA h234 (hN rfl hZ))) fun e239 h241 h242 h243 => sN ?_)))))
   clear h231 h232 h233 h234 h235 h236
   rcases ite_some h with ⟨hb244, h⟩ | ⟨hb244, h⟩
   ·refine cT h243 hb244 (sq (Rg (kx (bldT zero29 rfl (fill0 rfl)) (kw (stOK h241 rfl o227 rfl rfl ⟨rfl, ble rfl⟩ rfl rfl) fun M245 hM246 => ?_))))
    have o247 : M245[([] : Mem).length]? = some (.live ⟨.box, 29, 3, [[.str ([] : List UInt8), .nils, .int .i64 0]]⟩) := set_same hM246 o227
    have o248 := set_ne hM246 (Ne.symm ne223) o228
    refine kx (mvO rfl) (Rn (hA h241 (hV (.int .i64 5) rfl hZ)) fun e249 h251 h252 => sN (xx (sR ?_)))
    clear h241 h242 h243
    obtain rfl := si h
    exact eR (resC (ag := true) (sz := 3) ⟨by kernel_rfl, by kernel_rfl, by kernel_rfl⟩ (ldOA h251 o247 rfl rfl (ble rfl) rfl) (resT h252 res0)) rfl
   refine cF h243 hb244 (xx (sN (sq (Rg (kx (ldOA h242 o228 rfl rfl (ble rfl) rfl) (kw (stOK h241 rfl o227 rfl rfl ⟨rfl, ble rfl⟩ rfl rfl) fun M253 hM254 => ?_))))))
   have o255 : M253[([] : Mem).length]? = some (.live ⟨.box, 29, 3, [[.str r214, .sl (some 85) (r215.map Item.c), .int .i64 r216]]⟩) := set_same hM254 o227
   have o256 := set_ne hM254 (Ne.symm ne223) o228
   refine kx (mvO rfl) (Rn (hA h241 (hV (.int .i64 0) rfl hZ)) fun e257 h259 h260 => sN (xx ?_))
   clear h241 h242 h243
   obtain rfl := si h
   exact eR (resC (ag := true) (sz := 3) ⟨by kernel_rfl, by kernel_rfl, by kernel_rfl⟩ (ldOA h259 o255 rfl rfl (ble rfl) rfl) (resT h260 res0)) rfl
  refine kx (gsF rfl (congrArg Bool.not hb238)) (kx (gsF rfl (congrArg Bool.not hb238)) (kx (gsF rfl (congrArg Bool.not hb238)) (kx (gsF rfl (congrArg Bool.not hb238)) (kx (pkT rfl (congrArg Bool.not hb238) rfl) (Rn (hA h231 (hA h234 (hV (.bool true) rfl hZ))) fun e261 h263 h264 h265 => sN (cT h265 rfl (sq (Rg (kx (bldT zero29 rfl (fill0 rfl)) (kw (stOK h263 rfl o227 rfl rfl ⟨rfl, ble rfl⟩ rfl rfl) fun M266 hM267 => ?_))))))))))
  clear h231 h232 h233 h234 h235 h236
  have o268 : M266[([] : Mem).length]? = some (.live ⟨.box, 29, 3, [[.str ([] : List UInt8), .nils, .int .i64 0]]⟩) := set_same hM267 o227
  have o269 := set_ne hM267 (Ne.symm ne223) o228
  refine kx (mvO rfl) (Rn (hA h263 (hV (.int .i64 5) rfl hZ)) fun e270 h272 h273 => sN (xx (sR ?_)))
  clear h263 h264 h265
  obtain rfl := si h
  exact eR (resC (ag := true) (sz := 3) ⟨by kernel_rfl, by kernel_rfl, by kernel_rfl⟩ (ldOA h272 o268 rfl rfl (ble rfl) rfl) (resT h273 res0)) rfl
 refine kx (gsF rfl (congrArg Bool.not hb237)) (kx (gsF rfl (congrArg Bool.not hb237)) (kx (pkT rfl (congrArg Bool.not hb237) rfl) (kx (mvO rfl) (kx (gsF rfl rfl) (kx (gsF rfl rfl) (kx (gsF rfl rfl) (kx (gsF rfl rfl) (kx (pkT rfl rfl rfl) (Rn (hA h231 (hA h234 (hV (.bool true) rfl hZ))) fun e274 h276 h277 h278 => sN (cT h278 rfl (sq (Rg (kx (bldT zero29 rfl (fill0 rfl)) (kw (stOK h276 rfl o227 rfl rfl ⟨rfl, ble rfl⟩ rfl rfl) fun M279 hM280 => ?_))))))))))))))
 clear h231 h232 h233 h234 h235 h236
 have o281 : M279[([] : Mem).length]? = some (.live ⟨.box, 29, 3, [[.str ([] : List UInt8), .nils, .int .i64 0]]⟩) := set_same hM280 o227
 have o282 := set_ne hM280 (Ne.symm ne223) o228
 refine kx (mvO rfl) (Rn (hA h276 (hV (.int .i64 5) rfl hZ)) fun e283 h285 h286 => sN (xx (sR ?_)))
 clear h276 h277 h278
 obtain rfl := si h
 exact eR (resC (ag := true) (sz := 3) ⟨by kernel_rfl, by kernel_rfl, by kernel_rfl⟩ (ldOA h285 o281 rfl rfl (ble rfl) rfl) (resT h286 res0)) rfl
/-! ### loop.example/g01263/spec.ReadAccount (f24) -/
noncomputable def spec_ReadAccount (a1 : List UInt8) : Option (Unit ⊕ ((List UInt8) × (List Item) × Int)) :=
 (spec_l01Split a1 10).bind fun r10 =>
 (slc r10 0 (IntKind.i64.wrap ((r10.length : Int) - 1))).bind fun x20 =>
 (spec_l05Read x20).bind fun r => match r with
 | (.inl _) =>
  some (.inl ())
 | (.inr (r54, r55, r56, r57, r58)) =>
  if r58 = true then
   if (r57 != (IntKind.i64.wrap ((r10.length : Int) - 1))) = true then
    some (.inl ())
   else
    (rd r10 (IntKind.i64.wrap ((r10.length : Int) - 1))).bind fun x92 =>
    if (x92 == ([] : List UInt8)) = true then
     some (.inr (r54, r55, r56))
    else
     some (.inl ())
  else
   some (.inl ())
def spec_ReadAccount_enc (r : Unit ⊕ ((List UInt8) × (List Item) × Int)) : AV :=
  match r with
  | (.inl g) => .tup [.agg [.str ([] : List UInt8), .nils, .int .i64 0], .int .i64 5]
  | (.inr g) => .tup [.agg [.str g.1, .sl none (g.2.1.map Item.c), .int .i64 g.2.2], .int .i64 0]
theorem spec_ReadAccount_ok (a1 : List UInt8) (r : Unit ⊕ ((List UInt8) × (List Item) × Int)) (h : spec_ReadAccount a1 = some r) : Ev (fun k => CN k 24 [.str a1] []) (fun p => rRes p.2 p.1 = spec_ReadAccount_enc r) := by
 unfold spec_ReadAccount at h
 refine Ev.enter (F := fun k => f24 (CN k) k) (fun k => callN_eq rfl Tryd.func24 rfl rfl rfl (by decide +kernel) (f24_eq _ _)) (sq (Rg (ku (alO zero29) fun M2 hM3 => ?_)))
 have o4 : M2[([] : Mem).length]? = some (.live ⟨.box, 29, 3, [[.str ([] : List UInt8), .nils, .int .i64 0]]⟩) := push_new hM3
 obtain ⟨r10, hx9, h⟩ := bind_some h
 obtain ⟨x20, hx21, h⟩ := bind_some h
 obtain ⟨q129, hx22, h⟩ := bind_some h
 refine kx (mvO rfl) (Rn (hN rfl (hV (.loc ([] : Mem).length 1 0 0) rfl hZ)) fun e5 h7 h8 => sN (sq (Rg (kx (mvO h7) (kc (cl (v := .sl (some 9) (r10.map cS)) rfl (cns rfl (cns rfl rfl)) rfl (spec_l01Split_ok a1 10 _ hx9) nm) (kx (mvO rfl) (Rn (hA h8 (hN rfl hZ)) fun e11 h13 h14 => sN (sq (Rg (kx (mvO h14) (kx (lnS Tryd.underlying86 rfl) (kx (mvO rfl) (Rn (hA h13 (hA h14 (hN rfl hZ))) fun e15 h17 h18 h19 => sN (sq (Rg (kx (mvO h18) (kx (mvO h19) (kx (bSub rfl rfl) (kx (slS rfl rfl (bnd1 rfl) hx21 cS_fl) ?_)))))))))))))))))))
 clear h7 h8 h13 h14
 rcases q129 with _ | ⟨r54, r55, r56, r57, r58⟩
 ·refine kc (cl (v := .tup [.agg [.str ([] : List UInt8), .nils, .int .i64 0], .int .i64 0, .bool false]) rfl (cns rfl rfl) rfl (spec_l05Read_ok x20 _ hx22) nm) (kx (mvO rfl) (kx (exT rfl rfl) (kx (exT rfl rfl) (kx (exT rfl rfl) (ku (alO zero29) fun M24 hM25 => ?_)))))
  have o26 := push_old hM25 o4
  have ne27 := ne_new o4
  have o28 : M24[M2.length]? = some (.live ⟨.box, 29, 3, [[.str ([] : List UInt8), .nils, .int .i64 0]]⟩) := push_new hM25
  refine kw (stO rfl rfl o28 rfl rfl ⟨rfl, ble rfl⟩ rfl rfl) fun M29 hM30 => ?_
  have o31 := set_ne hM30 ne27 o26
  have o32 : M29[M2.length]? = some (.live ⟨.box, 29, 3, [[.str ([] : List UInt8), .nils, .int .i64 0]]⟩) := set_same hM30 o28
  refine kx (mvO rfl) (kx (mvO rfl) (Rn (hA h17 (hA h18 (hA h19 (hV (.loc M2.length 1 0 0) rfl (hV (.int .i64 0) rfl (hV (.bool false) rfl hZ)))))) fun e33 h35 h36 h37 h38 h39 h40 => sN (sq (sq (Rg (kx (mvO h40) (kx (uNot rfl) (kx (mvO rfl) (kx (gsF rfl rfl) (kx (gsF rfl rfl) (kx (gsF rfl rfl) (kx (gsF rfl rfl) (kx (pkT rfl rfl rfl) (kx (mvO rfl) (kx (gsF rfl rfl) (kx (gsF rfl rfl) (kx (gsF rfl rfl) (kx (gsF rfl rfl) (kx (gsF rfl rfl) (kx (gsF rfl rfl) (kx (pkT rfl rfl rfl) (Rn (hA h35 (hA h38 (hV (.bool true) rfl hZ))) fun e41 h43 h44 h45 => sN (cT h45 rfl (sq (Rg (kx (bldT zero29 rfl (fill0 rfl)) (kw (stO h43 rfl o31 rfl rfl ⟨rfl, ble rfl⟩ rfl rfl) fun M46 hM47 => ?_)))))))))))))))))))))))))))
  clear h17 h18 h19 h35 h36 h37 h38 h39 h40
  have o48 : M46[([] : Mem).length]? = some (.live ⟨.box, 29, 3, [[.str ([] : List UInt8), .nils, .int .i64 0]]⟩) := set_same hM47 o31
  have o49 := set_ne hM47 (Ne.symm ne27) o32
  refine kx (mvO rfl) (Rn (hA h43 (hV (.int .i64 5) rfl hZ)) fun e50 h52 h53 => sN (xx (sR ?_)))
  clear h43 h44 h45
  obtain rfl := si h
  exact eR (resC (ag := true) (sz := 3) ⟨by kernel_rfl, by kernel_rfl, by kernel_rfl⟩ (ldOA h52 o48 rfl rfl (ble rfl) rfl) (resT h53 res0)) rfl
 refine kc (cl (v := .tup [.agg [.str r54, .sl none (r55.map Item.c), .int .i64 r56], .int .i64 r57, .bool r58]) rfl (cns rfl rfl) rfl (spec_l05Read_ok x20 _ hx22) nm) (kx (mvO rfl) (kx (exT rfl rfl) (kx (exT rfl rfl) (kx (exT rfl rfl) (ku (alO zero29) fun M60 hM61 => ?_)))))
 have o62 := push_old hM61 o4
 have ne63 := ne_new o4
 have o64 : M60[M2.length]? = some (.live ⟨.box, 29, 3, [[.str ([] : List UInt8), .nils, .int .i64 0]]⟩) := push_new hM61
 refine kw (stO rfl rfl o64 rfl rfl ⟨rfl, ble rfl⟩ rfl rfl) fun M65 hM66 => ?_
 have o67 := set_ne hM66 ne63 o62
 have o68 : M65[M2.length]? = some (.live ⟨.box, 29, 3, [[.str r54, .sl none (r55.map Item.c), .int .i64 r56]]⟩) := set_same hM66 o64
 refine kx (mvO rfl) (kx (mvO rfl) (Rn (hA h17 (hA h18 (hA h19 (hV (.loc M2.length 1 0 0) rfl (hN rfl (hN rfl hZ)))))) fun e69 h71 h72 h73 h74 h75 h76 => sN (sq (sq (Rg (kx (mvO h76) (kx (uNot rfl) (kx (mvO rfl) ?_))))))))
 clear h17 h18 h19
 rcases ite_some h with ⟨hb77, h⟩ | ⟨hb77, h⟩
 ·refine kx (guF rfl (congrArg Bool.not hb77) (mvO h75)) (kx (guF rfl (congrArg Bool.not hb77) (mvO h73)) (kx (guF rfl (congrArg Bool.not hb77) (bSub rfl rfl)) (kx (guF rfl (congrArg Bool.not hb77) (bNeq rfl rfl)) (kx (pkF rfl (congrArg Bool.not hb77) rfl) (kx (mvO rfl) ?_)))))
  rcases ite_some h with ⟨hb78, h⟩ | ⟨hb78, h⟩
  ·refine kx (gsF rfl hb78) (kx (gsF rfl hb78) (kx (gsF rfl hb78) (kx (gsF rfl hb78) (kx (gsF rfl hb78) (kx (gsF rfl hb78) (kx (pkT rfl hb78 rfl) (Rn (hA h71 (hA h74 (hV (.bool true) rfl hZ))) fun e79 h81 h82 h83 => sN (cT h83 rfl (sq (Rg (kx (bldT zero29 rfl (fill0 rfl)) (kw (stO h81 rfl o67 rfl rfl ⟨rfl, ble rfl⟩ rfl rfl) fun M84 hM85 => ?_))))))))))))
   clear h71 h72 h73 h74 h75 h76
   have o86 : M84[([] : Mem).length]? = some (.live ⟨.box, 29, 3, [[.str ([] : List UInt8), .nils, .int .i64 0]]⟩) := set_same hM85 o67
   have o87 := set_ne hM85 (Ne.symm ne63) o68
   refine kx (mvO rfl) (Rn (hA h81 (hV (.int .i64 5) rfl hZ)) fun e88 h90 h91 => sN (xx (sR ?_)))
   clear h81 h82 h83
   obtain rfl := si h
   exact eR (resC (ag := true) (sz := 3) ⟨by kernel_rfl, by kernel_rfl, by kernel_rfl⟩ (ldOA h90 o86 rfl rfl (ble rfl) rfl) (resT h91 res0)) rfl
  obtain ⟨x92, hx93, h⟩ := bind_some h
  refine kx (guF rfl hb78 (mvO h72)) (kx (guF rfl hb78 (mvO h73)) (kx (guF rfl hb78 (bSub rfl rfl)) (kx (guF rfl hb78 (ixS rfl rfl hx93 cS_fl)) (kx (guF rfl hb78 (ldP rfl rfl)) (kx (guF rfl hb78 (sNeq rfl rfl)) (kx (pkF rfl hb78 rfl) (Rn (hA h71 (hA h74 (hN rfl hZ))) fun e94 h96 h97 h98 => sN ?_)))))))
  clear h71 h72 h73 h74 h75 h76
  rcases ite_some h with ⟨hb99, h⟩ | ⟨hb99, h⟩
  ·refine cF h98 (congrArg Bool.not hb99) (xx (sN (sq (Rg (kx (ldOA h97 o68 rfl rfl (ble rfl) rfl) (kw (stO h96 rfl o67 rfl rfl ⟨rfl, ble rfl⟩ rfl rfl) fun M100 hM101 => ?_))))))
   have o102 : M100[([] : Mem).length]? = some (.live ⟨.box, 29, 3, [[.str r54, .sl none (r55.map Item.c), .int .i64 r56]]⟩) := set_same hM101 o67
   have o103 := set_ne hM101 (Ne.symm ne63) o68
   refine kx (mvO rfl) (Rn (hA h96 (hV (.int .i64 0) rfl hZ)) fun e104 h106 h107 => sN (xx ?_))
   clear h96 h97 h98
   obtain rfl := si h
   exact eR (resC (ag := true) (sz := 3) ⟨by kernel_rfl, by kernel_rfl, by kernel_rfl⟩ (ldOA h106 o102 rfl rfl (ble rfl) rfl) (resT h107 res0)) rfl
  refine cT h98 (congrArg Bool.not hb99) (sq (Rg (kx (bldT zero29 rfl (fill0 rfl)) (kw (stO h96 rfl o67 rfl rfl ⟨rfl, ble rfl⟩ rfl rfl) fun M108 hM109 => ?_))))
  have o110 : M108[([] : Mem).length]? = some (.live ⟨.box, 29, 3, [[.str ([] : List UInt8), .nils, .int .i64 0]]⟩) := set_same hM109 o67
  have o111 := set_ne hM109 (Ne.symm ne63) o68
  refine kx (mvO rfl) (Rn (hA h96 (hV (.int .i64 5) rfl hZ)) fun e112 h114 h115 => sN (xx (sR ?_)))
  clear h96 h97 h98
  obtain rfl := si h
  exact eR (resC (ag := true) (sz := 3) ⟨by kernel_rfl, by kernel_rfl, by kernel_rfl⟩ (ldOA h114 o110 rfl rfl (ble rfl) rfl) (resT h115 res0)) rfl
 refine kx (gsF rfl (congrArg Bool.not hb77)) (kx (gsF rfl (congrArg Bool.not hb77)) (kx (gsF rfl (congrArg Bool.not hb77)) (kx (gsF rfl (congrArg Bool.not hb77)) (kx (pkT rfl (congrArg Bool.not hb77) rfl) (kx (mvO rfl) (kx (gsF rfl rfl) (kx (gsF rfl rfl) (kx (gsF rfl rfl) (kx (gsF rfl rfl) (kx (gsF rfl rfl) (kx (gsF rfl rfl) (kx (pkT rfl rfl rfl) (Rn (hA h71 (hA h74 (hV (.bool true) rfl hZ))) fun e116 h118 h119 h120 => sN (cT h120 rfl (sq (Rg (kx (bldT zero29 rfl (fill0 rfl)) (kw (stO h118 rfl o67 rfl rfl ⟨rfl, ble rfl⟩ rfl rfl) fun M121 hM122 => ?_))))))))))))))))))
 clear h71 h72 h73 h74 h75 h76
 have o123 : M121[([] : Mem).length]? = some (.live ⟨.box, 29, 3, [[.str ([] : List UInt8), .nils, .int .i64 0]]⟩) := set_same hM122 o67
 have o124 := set_ne hM122 (Ne.symm ne63) o68
 refine kx (mvO rfl) (Rn (hA h118 (hV (.int .i64 5) rfl hZ)) fun e125 h127 h128 => sN (xx (sR ?_)))
 clear h118 h119 h120
 obtain rfl := si h
 exact eR (resC (ag := true) (sz := 3) ⟨by kernel_rfl, by kernel_rfl, by kernel_rfl⟩ (ldOA h127 o123 rfl rfl (ble rfl) rfl) (resT h128 res0)) rfl
/-! ### loop.example/g01263/laws.eqAccount (f13) -/
noncomputable def laws_eqAccount (a1 : Account) (a2 : Account) : Option Bool :=
 if (a1.Title == a2.Title) = true then
  (laws_eqItemS a1.Items a2.Items).bind fun r12 =>
  if r12 = true then
   if (a1.Balance != a2.Balance) = true then
    some false
   else
    some true
  else
   some false
 else
  some false
def laws_eqAccount_enc (r : Bool) : AV := .bool r
theorem laws_eqAccount_ok (a1 : Account) (a2 : Account) (r : Bool) (h : laws_eqAccount a1 a2 = some r) : Ev (fun k => CN k 13 [.agg [.str a1.Title, .sl none (a1.Items.map Item.c), .int .i64 a1.Balance], .agg [.str a2.Title, .sl none (a2.Items.map Item.c), .int .i64 a2.Balance]] []) (fun p => rRes p.2 p.1 = laws_eqAccount_enc r) := by
 unfold laws_eqAccount at h
 refine Ev.enter (F := fun k => f13 (CN k) k) (fun k => callN_eq rfl Tryd.func13 rfl rfl rfl (by decide +kernel) (f13_eq _ _)) (sq (Rg (kx (bxI rfl rfl ⟨rfl, rfl, by decide⟩) (kx (bxI rfl rfl ⟨rfl, rfl, by decide⟩) (kx (mvO rfl) (Rn (hN rfl (hN rfl hZ)) fun e1 h3 h4 => sN (sq (sq (Rg (kx (faP h3 ⟨ble rfl, blt rfl⟩ rfl) (kx (ldP rfl rfl) (kx (faP h4 ⟨ble rfl, blt rfl⟩ rfl) (kx (ldP rfl rfl) (kx (sNeq rfl rfl) (Rn (hA h3 (hA h4 (hN rfl hZ))) fun e5 h7 h8 h9 => sN ?_)))))))))))))))
 clear h3 h4
 rcases ite_some h with ⟨hb10, h⟩ | ⟨hb10, h⟩
 ·obtain ⟨r12, hx11, h⟩ := bind_some h
  refine cF h9 (congrArg Bool.not hb10) (xx (sN (sq (sq (Rg (kx (faP h7 ⟨ble rfl, blt rfl⟩ rfl) (kx (ldP rfl rfl) (kx (faP h8 ⟨ble rfl, blt rfl⟩ rfl) (kx (ldP rfl rfl) (kc (cl (v := .bool r12) rfl (cns rfl (cns rfl rfl)) rfl (laws_eqItemS_ok a1.Items a2.Items _ hx11) nm) (kx (uNot rfl) (Rn (hA h7 (hA h8 (hN rfl hZ))) fun e13 h15 h16 h17 => sN ?_))))))))))))
  clear h7 h8 h9
  rcases ite_some h with ⟨hb18, h⟩ | ⟨hb18, h⟩
  ·refine cF h17 (congrArg Bool.not hb18) (xx (sN (sq (sq (Rg (kx (faP h15 ⟨ble rfl, blt rfl⟩ rfl) (kx (ldP rfl rfl) (kx (faP h16 ⟨ble rfl, blt rfl⟩ rfl) (kx (ldP rfl rfl) (kx (bNeq rfl rfl) (Rn (hN rfl hZ) fun e19 h21 => sN ?_)))))))))))
   clear h15 h16 h17
   rcases ite_some h with ⟨hb22, h⟩ | ⟨hb22, h⟩
   ·refine cT h21 hb22 (sq (Rg (kx (mvO rfl) (Rn (hV (.bool false) rfl hZ) fun e23 h25 => sN (xx (sR ?_))))))
    clear h21
    obtain rfl := si h
    exact eR (resT h25 res0) rfl
   refine cF h21 hb22 (xx (sN (sq (Rg (kx (mvO rfl) (Rn (hV (.bool true) rfl hZ) fun e26 h28 => sN (xx ?_)))))))
   clear h21
   obtain rfl := si h
   exact eR (resT h28 res0) rfl
  refine cT h17 (congrArg Bool.not hb18) (sq (Rg (kx (mvO rfl) (Rn (hV (.bool false) rfl hZ) fun e29 h31 => sN (xx (sR ?_))))))
  clear h15 h16 h17
  obtain rfl := si h
  exact eR (resT h31 res0) rfl
 refine cT h9 (congrArg Bool.not hb10) (sq (Rg (kx (mvO rfl) (Rn (hV (.bool false) rfl hZ) fun e32 h34 => sN (xx (sR ?_))))))
 clear h7 h8 h9
 obtain rfl := si h
 exact eR (resT h34 res0) rfl
/-! ### loop.example/g01263/laws.markItemS (f69) -/
abbrev laws_markItemS_n_b1_S := Int × Int
abbrev laws_markItemS_n_b1_R := Int
def laws_markItemS_n_b1_RS (M0 : Mem) (s : laws_markItemS_n_b1_S) (e : Env) (M : Mem) : Prop := eget e 0 = .nils ∧ eget e 1 = .int .i64 s.1 ∧ eget e 5 = .int .i64 s.2 ∧ Fr [] M0 M
def laws_markItemS_n_b1_RR (M0 : Mem) (g : laws_markItemS_n_b1_R) (x : Ex) (e : Env) (M : Mem) : Prop := x = .ext 0 ∧ eget e 1 = .int .i64 g ∧ Fr [] M0 M
noncomputable def laws_markItemS_n_b1 : laws_markItemS_n_b1_S → Option (laws_markItemS_n_b1_S ⊕ laws_markItemS_n_b1_R) := fun (s1_1, s1_2) =>
 if (decide (s1_2 < 0)) = true then
  none
 else
  some (.inr s1_1)
theorem laws_markItemS_n_b1_ok (M0 : Mem) (s : laws_markItemS_n_b1_S) (r : laws_markItemS_n_b1_S ⊕ laws_markItemS_n_b1_R) (h : laws_markItemS_n_b1 s = some r) (e : Env) (M : Mem) (hs : laws_markItemS_n_b1_RS M0 s e M) : Ev (fun k => (f69_l2 (CN k) k (prune [0, 1, 5] e) M).bind fun q => some q) (bQ (laws_markItemS_n_b1_RS M0) (laws_markItemS_n_b1_RR M0) r) := by
 obtain ⟨s1_1, s1_2⟩ := s
 unfold laws_markItemS_n_b1 at h
 obtain ⟨h21, h23, h25, fr27⟩ := hs
 generalize he20 : prune [0, 1, 5] e = e19
 have h22 := envp he20.symm rfl h21
 have h24 := envp he20.symm rfl h23
 have h26 := envp he20.symm rfl h25
 refine sq (sq (Rg (kx (mvO h26) (kx (mvO h22) (kx (lnN Tryd.underlying27 rfl) (kx (bLss rfl rfl) (Rn (hV .nils h22 (hV (.int .i64 s1_1) h24 (hV (.int .i64 s1_2) h26 (hN rfl hZ)))) fun e28 h30 h31 h32 h33 => sN ?_)))))))
 clear h22 h24 h26
 rcases ite_some h with ⟨hb34, h⟩ | ⟨hb34, h⟩
 ·refine cT h33 hb34 (xx (sN (sq (bl (sq (Rg (kx (mvO h30) (kx (mvO h32) (kx (mvO h31) (kx (cvI rfl) ?_))))))))))
  cases h
 refine cF h33 hb34 (xx (sE ?_))
 obtain rfl := si h
 exact qE ⟨rfl, h31, fr27⟩
noncomputable def laws_markItemS_n (a1 : Int) : Option Int :=
 (Lw (laws_markItemS_n_b1) (a1, 0)).bind fun y40 =>
 some y40
def laws_markItemS_n_Q (a1 : Int) (M0 : Mem) (r : Int) (p : AV × Mem) : Prop := p.1 = .int .i64 r ∧ Fr [] M0 p.2
theorem laws_markItemS_n_ok (a1 : Int) (M0 : Mem) (r : Int) (h : laws_markItemS_n a1 = some r) : Ev (fun k => CN k 69 [.nils, .int .i64 a1] M0) (laws_markItemS_n_Q a1 M0 r) := by
 unfold laws_markItemS_n at h
 have fr0 : Fr [] M0 M0 := Fr.refl
 obtain ⟨y40, hr36, h⟩ := bind_some h
 refine Ev.enter (F := fun k => f69 (CN k) k) (fun k => callN_eq rfl Tryd.func69 rfl rfl rfl (by decide +kernel) (f69_eq _ _)) (sq (Rg (kx (mvO rfl) (Rn (hV .nils rfl (hN rfl hZ)) fun e1 h3 h4 => sN (sq (sq (Rg (kx (mvO rfl) (Rn (hA h3 (hA h4 (hV (.int .i64 0) rfl hZ))) fun e5 h7 h8 h9 => sN (bl (Ev.loop (RS := laws_markItemS_n_b1_RS M0) (RR := laws_markItemS_n_b1_RR M0) (fun s r h e M hs => laws_markItemS_n_b1_ok M0 s r h e M hs) hr36 ⟨h7, h8, h9, fr0⟩ fun x e38 M39 hq37 => ?_)))))))))))
 clear h3 h4
 obtain ⟨rfl, h41, fr42⟩ := hq37
 refine bE (sN (sq (Rg (kx (mvO h41) (kx (mvO rfl) (Rn (hN rfl hZ) fun e43 h45 => sN (xx ?_)))))))
 clear h41
 obtain rfl := si h
 exact eR (resT h45 res0) ⟨rfl, fr42⟩
/-! ### loop.example/g01263/laws.markAccount (f26) -/
noncomputable def laws_markAccount_n (a1 : List UInt8) (a2 : Int) (a3 : Int) : Option Int :=
 (laws_markItemS_n a3).bind fun r12 =>
 some r12
def laws_markAccount_n_Q (a1 : List UInt8) (a2 : Int) (a3 : Int) (M0 : Mem) (r : Int) (p : AV × Mem) : Prop := p.1 = .int .i64 r ∧ Fr [] M0 p.2
theorem laws_markAccount_n_ok (a1 : List UInt8) (a2 : Int) (a3 : Int) (M0 : Mem) (r : Int) (h : laws_markAccount_n a1 a2 a3 = some r) : Ev (fun k => CN k 26 [.agg [.str a1, .nils, .int .i64 a2], .int .i64 a3] M0) (laws_markAccount_n_Q a1 a2 a3 M0 r) := by
 unfold laws_markAccount_n at h
 have fr0 : Fr [] M0 M0 := Fr.refl
 refine Ev.enter (F := fun k => f26 (CN k) k) (fun k => callN_eq rfl Tryd.func26 rfl rfl rfl (by decide +kernel) (f26_eq _ _)) (sq (Rg (ku (bxO rfl rfl ⟨rfl, rfl, by decide⟩) fun M2 hM3 => ?_)))
 have nf4 := Nf.mk fr0
 have fr5 := Fr.push fr0 hM3
 have o6 : M2[M0.length]? = some (.live ⟨.box, 29, 3, [[.str a1, .nils, .int .i64 a2]]⟩) := push_new hM3
 obtain ⟨r12, hx11, h⟩ := bind_some h
 refine kx (mvO rfl) (Rn (hN rfl (hV (.loc M0.length 1 0 0) rfl hZ)) fun e7 h9 h10 => sN (sq (Rg (kx (faO h10 o6 rfl) (kx (ldO rfl o6 rfl rfl rfl) (kx (mvO h9) (Ev.nxw (Ev.callW rfl (cns rfl (cns rfl rfl)) (laws_markItemS_n_ok a3 M2 _ hx11)) fun v15 M13 hq14 => ?_)))))))
 obtain ⟨hv15, fr16⟩ := hq14
 have hv15 : v15 = .int .i64 r12 := hv15
 subst hv15
 have o17 : M13[M0.length]? = some (.live ⟨.box, 29, 3, [[.str a1, .nils, .int .i64 a2]]⟩) := fr16 _ _ niN o6
 have fr18 : Fr [] M0 M13 := Fr.call fr5 fr16 fwN
 refine kx (mvO rfl) (Rn (hN rfl hZ) fun e19 h21 => sN (sq (Rg (kx (mvO h21) (kx (mvO rfl) (Rn (hN rfl hZ) fun e22 h24 => sN (xx ?_)))))))
 clear h10 h21
 obtain rfl := si h
 exact eR (resT h24 res0) ⟨rfl, fr18⟩
/-! ### loop.example/g01263/laws.markItemS (f69) -/
abbrev laws_markItemS_l_b1_S := Int × Int × (List Item)
abbrev laws_markItemS_l_b1_R := Int × (List Item)
def laws_markItemS_l_b1_RS (a1 : List Item) (j1 : Nat) (M0 : Mem) (s : laws_markItemS_l_b1_S) (e : Env) (M : Mem) : Prop := eget e 0 = .lsl j1 s.2.2.length 0 s.2.2.length ∧ eget e 1 = .int .i64 s.1 ∧ eget e 5 = .int .i64 s.2.1 ∧ M[j1]? = some (.live ⟨.grow, 85, 2, s.2.2.map Item.c⟩) ∧ Fr [j1] M0 M ∧ s.2.2.length = a1.length
def laws_markItemS_l_b1_RR (a1 : List Item) (j1 : Nat) (M0 : Mem) (g : laws_markItemS_l_b1_R) (x : Ex) (e : Env) (M : Mem) : Prop := x = .ext 0 ∧ eget e 1 = .int .i64 g.1 ∧ M[j1]? = some (.live ⟨.grow, 85, 2, g.2.map Item.c⟩) ∧ Fr [j1] M0 M ∧ g.2.length = a1.length
noncomputable def laws_markItemS_l_b1 : laws_markItemS_l_b1_S → Option (laws_markItemS_l_b1_S ⊕ laws_markItemS_l_b1_R) := fun (s1_1, s1_2, s1_3) =>
 if (decide (s1_2 < (s1_3.length : Int))) = true then
  (rd s1_3 s1_2).bind fun x38 =>
  (rd (s1_3.set s1_2.toNat (Item.mk (IntKind.i8.wrap s1_1) x38.Amount)) s1_2).bind fun x55 =>
  some (.inl ((IntKind.i64.wrap ((IntKind.i64.wrap (s1_1 + 1)) + 1)), (IntKind.i64.wrap (s1_2 + 1)), ((s1_3.set s1_2.toNat (Item.mk (IntKind.i8.wrap s1_1) x38.Amount)).set s1_2.toNat (Item.mk x55.Kind (IntKind.i64.wrap (s1_1 + 1))))))
 else
  some (.inr (s1_1, s1_3))
theorem laws_markItemS_l_b1_ok (a1 : List Item) (j1 : Nat) (M0 : Mem) (s : laws_markItemS_l_b1_S) (r : laws_markItemS_l_b1_S ⊕ laws_markItemS_l_b1_R) (h : laws_markItemS_l_b1 s = some r) (e : Env) (M : Mem) (hs : laws_markItemS_l_b1_RS a1 j1 M0 s e M) : Ev (fun k => (f69_l2 (CN k) k (prune [0, 1, 5] e) M).bind fun q => some q) (bQ (laws_markItemS_l_b1_RS a1 j1 M0) (laws_markItemS_l_b1_RR a1 j1 M0) r) := by
 obtain ⟨s1_1, s1_2, s1_3⟩ := s
 unfold laws_markItemS_l_b1 at h
 obtain ⟨h22, h24, h26, o28, fr29, hl30⟩ := hs
 generalize he21 : prune [0, 1, 5] e = e20
 have h23 := envp he21.symm rfl h22
 have h25 := envp he21.symm rfl h24
 have h27 := envp he21.symm rfl h26
 refine sq (sq (Rg (kx (mvO h27) (kx (mvO h23) (kx (lnL Tryd.underlying27 rfl o28 (by simp [hl30])) (kx (bLss rfl rfl) (Rn (hV (.lsl j1 s1_3.length 0 s1_3.length) h23 (hV (.int .i64 s1_1) h25 (hV (.int .i64 s1_2) h27 (hN rfl hZ)))) fun e31 h33 h34 h35 h36 => sN ?_)))))))
 clear h23 h25 h27
 rcases ite_some h with ⟨hb37, h⟩ | ⟨hb37, h⟩
 ·obtain ⟨x38, hx39, h⟩ := bind_some h
  refine cT h36 hb37 (xx (sN (sq (bl (sq (Rg (kx (mvO h33) (kx (mvO h35) (kx (mvO h34) (kx (cvI rfl) (kx (ixO rfl o28 rfl rfl (rd_get hx39).1 (rd_lt hx39).2) (kx (faO rfl o28 (by simp [hl30])) (kw (stR (u := x38) (u' := (Item.mk (IntKind.i8.wrap s1_1) x38.Amount)) rfl rfl o28 rfl (rz2 hx39) ⟨rfl, ble rfl⟩ rfl rfl) fun M40 hM41 => ?_)))))))))))))
  rw [Nat.zero_add] at hM41
  have o42 : M40[j1]? = some (.live ⟨.grow, 85, 2, (s1_3.set s1_2.toNat (Item.mk (IntKind.i8.wrap s1_1) x38.Amount)).map Item.c⟩) := set_same hM41 o28
  have fr43 := Fr.setIn fr29 hM41 (by simp)
  have hx44 := rd_set (u' := (Item.mk (IntKind.i8.wrap s1_1) x38.Amount)) hx39
  obtain ⟨x55, hx56, h⟩ := bind_some h
  refine Rn (hA h33 (hA h34 (hA h35 hZ))) fun e45 h47 h48 h49 => sN (sq (Rg (kx (mvO h48) (kx (bAdd rfl rfl) (kx (mvO rfl) (Rn (hA h47 (hN rfl (hA h49 hZ))) fun e50 h52 h53 h54 => sN (sq (Rg (kx (mvO (lslL (L' := (s1_3.set s1_2.toNat (Item.mk (IntKind.i8.wrap s1_1) x38.Amount)).length) h52 (by simp [hl30]))) (kx (mvO h54) (kx (mvO h53) (kx (ixO rfl o42 rfl rfl (rd_get hx56).1 (rd_lt hx56).2) (kx (faO rfl o42 (by simp [hl30])) (kw (stR (u := x55) (u' := (Item.mk x55.Kind (IntKind.i64.wrap (s1_1 + 1)))) rfl rfl o42 rfl (rz2 hx56) ⟨rfl, ble rfl⟩ rfl rfl) fun M57 hM58 => ?_))))))))))))))
  clear h33 h34 h35 h36 h47 h49
  rw [Nat.zero_add] at hM58
  have o59 : M57[j1]? = some (.live ⟨.grow, 85, 2, ((s1_3.set s1_2.toNat (Item.mk (IntKind.i8.wrap s1_1) x38.Amount)).set s1_2.toNat (Item.mk x55.Kind (IntKind.i64.wrap (s1_1 + 1)))).map Item.c⟩) := set_same hM58 o42
  have fr60 := Fr.setIn fr43 hM58 (by simp)
  have hx61 := rd_set (u' := (Item.mk x55.Kind (IntKind.i64.wrap (s1_1 + 1)))) hx56
  refine Rn (hA h52 (hA h53 (hA h54 hZ))) fun e62 h64 h65 h66 => sN (Rg (kx (mvO h65) (kx (bAdd rfl rfl) (kx (mvO rfl) (Rn (hA h64 (hN rfl (hA h66 hZ))) fun e67 h69 h70 h71 => bN (sN (Rg (kx (mvO h71) (kx (bAdd rfl rfl) (kx (mvO rfl) (Rn (hA h69 (hA h70 (hN rfl hZ))) fun e72 h74 h75 h76 => ?_)))))))))))
  clear h52 h53 h54 h64 h66 h69 h70
  obtain rfl := si h
  exact qN ⟨(lslL (L' := ((s1_3.set s1_2.toNat (Item.mk (IntKind.i8.wrap s1_1) x38.Amount)).set s1_2.toNat (Item.mk x55.Kind (IntKind.i64.wrap (s1_1 + 1)))).length) h74 (by simp [hl30])), h75, h76, o59, fr60, (by first | rfl | simp [hl30])⟩
 refine cF h36 hb37 (xx (sE ?_))
 obtain rfl := si h
 exact qE ⟨rfl, h34, o28, fr29, (by first | rfl | simp [hl30])⟩
noncomputable def laws_markItemS_l (a1 : List Item) (a2 : Int) : Option (Int × (List Item)) :=
 (Lw (laws_markItemS_l_b1) (a2, 0, a1)).bind fun (y82, y83) =>
 some (y82, y83)
def laws_markItemS_l_Q (a1 : List Item) (a2 : Int) (j1 : Nat) (M0 : Mem) (r : Int × (List Item)) (p : AV × Mem) : Prop := p.1 = .int .i64 r.1 ∧ p.2[j1]? = some (.live ⟨.grow, 85, 2, r.2.map Item.c⟩) ∧ Fr [j1] M0 p.2 ∧ r.2.length = a1.length
theorem laws_markItemS_l_ok (a1 : List Item) (a2 : Int) (j1 : Nat) (M0 : Mem) (oP1 : M0[j1]? = some (.live ⟨.grow, 85, 2, a1.map Item.c⟩)) (r : Int × (List Item)) (h : laws_markItemS_l a1 a2 = some r) : Ev (fun k => CN k 69 [.lsl j1 a1.length 0 a1.length, .int .i64 a2] M0) (laws_markItemS_l_Q a1 a2 j1 M0 r) := by
 unfold laws_markItemS_l at h
 have fr0 : Fr [j1] M0 M0 := Fr.refl
 obtain ⟨⟨y82, y83⟩, hr78, h⟩ := bind_some h
 refine Ev.enter (F := fun k => f69 (CN k) k) (fun k => callN_eq rfl Tryd.func69 rfl rfl rfl (by decide +kernel) (f69_eq _ _)) (sq (Rg (kx (mvO rfl) (Rn (hV (.lsl j1 a1.length 0 a1.length) rfl (hN rfl hZ)) fun e1 h3 h4 => sN (sq (sq (Rg (kx (mvO rfl) (Rn (hA h3 (hA h4 (hV (.int .i64 0) rfl hZ))) fun e5 h7 h8 h9 => sN (bl (Ev.loop (RS := laws_markItemS_l_b1_RS a1 j1 M0) (RR := laws_markItemS_l_b1_RR a1 j1 M0) (fun s r h e M hs => laws_markItemS_l_b1_ok a1 j1 M0 s r h e M hs) hr78 ⟨h7, h8, h9, oP1, fr0, rfl⟩ fun x e80 M81 hq79 => ?_)))))))))))
 clear h3 h4
 obtain ⟨rfl, h84, o85, fr86, hl87⟩ := hq79
 refine bE (sN (sq (Rg (kx (mvO h84) (kx (mvO rfl) (Rn (hN rfl hZ) fun e88 h90 => sN (xx ?_)))))))
 clear h84
 obtain rfl := si h
 exact eR (resT h90 res0) ⟨rfl, o85, fr86, (by first | rfl | simp [hl87])⟩
/-! ### loop.example/g01263/laws.markAccount (f26) -/
noncomputable def laws_markAccount_l (a1 : List UInt8) (a2 : List Item) (a3 : Int) (a4 : Int) : Option (Int × (List Item)) :=
 (laws_markItemS_l a2 a4).bind fun (r14, r15) =>
 some (r14, r15)
def laws_markAccount_l_Q (a1 : List UInt8) (a2 : List Item) (a3 : Int) (a4 : Int) (j1 : Nat) (M0 : Mem) (r : Int × (List Item)) (p : AV × Mem) : Prop := p.1 = .int .i64 r.1 ∧ p.2[j1]? = some (.live ⟨.grow, 85, 2, r.2.map Item.c⟩) ∧ Fr [j1] M0 p.2 ∧ r.2.length = a2.length
theorem laws_markAccount_l_ok (a1 : List UInt8) (a2 : List Item) (a3 : Int) (a4 : Int) (j1 : Nat) (M0 : Mem) (oP1 : M0[j1]? = some (.live ⟨.grow, 85, 2, a2.map Item.c⟩)) (r : Int × (List Item)) (h : laws_markAccount_l a1 a2 a3 a4 = some r) : Ev (fun k => CN k 26 [.agg [.str a1, .lsl j1 a2.length 0 a2.length, .int .i64 a3], .int .i64 a4] M0) (laws_markAccount_l_Q a1 a2 a3 a4 j1 M0 r) := by
 unfold laws_markAccount_l at h
 have fr0 : Fr [j1] M0 M0 := Fr.refl
 refine Ev.enter (F := fun k => f26 (CN k) k) (fun k => callN_eq rfl Tryd.func26 rfl rfl rfl (by decide +kernel) (f26_eq _ _)) (sq (Rg (ku (bxO rfl rfl ⟨rfl, (all1 rfl (all1 (okL oP1 (by simp)) (all1 rfl all0))), by decide⟩) fun M2 hM3 => ?_)))
 have nf4 := Nf.mk fr0
 have fr5 := Fr.push fr0 hM3
 have o6 := push_old hM3 oP1
 have ne7 := ne_new oP1
 have o8 : M2[M0.length]? = some (.live ⟨.box, 29, 3, [[.str a1, .lsl j1 a2.length 0 a2.length, .int .i64 a3]]⟩) := push_new hM3
 obtain ⟨⟨r14, r15⟩, hx13, h⟩ := bind_some h
 refine kx (mvO rfl) (Rn (hN rfl (hV (.loc M0.length 1 0 0) rfl hZ)) fun e9 h11 h12 => sN (sq (Rg (kx (faO h12 o8 rfl) (kx (ldO rfl o8 rfl rfl rfl) (kx (mvO h11) (Ev.nxw (Ev.callW rfl (cns rfl (cns rfl rfl)) (laws_markItemS_l_ok a2 a4 j1 M2 o6 _ hx13)) fun v18 M16 hq17 => ?_)))))))
 obtain ⟨hv18, o19, fr20, hl21⟩ := hq17
 have hv18 : v18 = .int .i64 r14 := hv18
 subst hv18
 have o22 : M16[j1]? = some (.live ⟨.grow, 85, 2, r15.map Item.c⟩) := o19
 have hl21 : r15.length = a2.length := hl21
 have o23 : M16[M0.length]? = some (.live ⟨.box, 29, 3, [[.str a1, .lsl j1 a2.length 0 a2.length, .int .i64 a3]]⟩) := fr20 _ _ (niC (Ne.symm ne7) niN) o8
 have fr24 : Fr [j1] M0 M16 := Fr.call fr5 fr20 (fwI (by simp) fwN)
 refine kx (mvO rfl) (Rn (hN rfl hZ) fun e25 h27 => sN (sq (Rg (kx (mvO h27) (kx (mvO rfl) (Rn (hN rfl hZ) fun e28 h30 => sN (xx ?_)))))))
 clear h12 h27
 obtain rfl := si h
 exact eR (resT h30 res0) ⟨rfl, o22, fr24, (by first | rfl | simp [hl21])⟩
/-! ### loop.example/g01263/laws.FnExactReadAccount (f6) -/
def laws_FnExactReadAccount_c1_Q (a1 : List UInt8) (r26 : List UInt8) (r27 : Int) (i901_1 : Nat) (i901_2 : Nat) (g : Bool) (q : Out) : Prop := q.1 = .nrm ∧ eget q.2.1 0 = .str a1 ∧ eget q.2.1 3 = .loc i901_1 1 0 0 ∧ eget q.2.1 4 = .int .i64 5 ∧ eget q.2.1 5 = .loc i901_2 1 0 0 ∧ eget q.2.1 32 = .bool g ∧ q.2.2[i901_1]? = some (.live ⟨.box, 29, 3, [[.str ([] : List UInt8), .nils, .int .i64 0]]⟩) ∧ q.2.2[i901_2]? = some (.live ⟨.box, 29, 3, [[.str r26, .nils, .int .i64 r27]]⟩)
def laws_FnExactReadAccount_c2_Q (r26 : List UInt8) (r27 : Int) (r88 : Int) (i902_1 : Nat) (i902_2 : Nat) (i902_3 : Nat) (g : Bool) (q : Out) : Prop := q.1 = .nrm ∧ eget q.2.1 5 = .loc i902_2 1 0 0 ∧ eget q.2.1 7 = .int .i64 r88 ∧ eget q.2.1 57 = .bool g ∧ q.2.2[i902_2]? = some (.live ⟨.box, 29, 3, [[.str r26, .nils, .int .i64 r27]]⟩)
def laws_FnExactReadAccount_c3_Q (r26 : List UInt8) (r27 : Int) (r88 : Int) (i903_1 : Nat) (i903_2 : Nat) (i903_3 : Nat) (g : Unit) (q : Out) : Prop := q.1 = .nrm ∧ eget q.2.1 5 = .loc i903_2 1 0 0 ∧ eget q.2.1 7 = .int .i64 r88 ∧ eget q.2.1 57 = .bool true ∧ q.2.2[i903_2]? = some (.live ⟨.box, 29, 3, [[.str r26, .nils, .int .i64 r27]]⟩)
def laws_FnExactReadAccount_c4_Q (a1 : List UInt8) (r280 : List UInt8) (r281 : List Item) (r282 : Int) (i904_1 : Nat) (i904_2 : Nat) (i904_3 : Nat) (g : Unit) (q : Out) : Prop := q.1 = .nrm ∧ eget q.2.1 0 = .str a1 ∧ eget q.2.1 3 = .loc i904_1 1 0 0 ∧ eget q.2.1 4 = .int .i64 5 ∧ eget q.2.1 5 = .loc i904_3 1 0 0 ∧ eget q.2.1 32 = .bool true ∧ q.2.2[i904_1]? = some (.live ⟨.box, 29, 3, [[.str ([] : List UInt8), .nils, .int .i64 0]]⟩) ∧ q.2.2[i904_2]? = some (.live ⟨.grow, 85, 2, r281.map Item.c⟩) ∧ q.2.2[i904_3]? = some (.live ⟨.box, 29, 3, [[.str r280, .lsl i904_2 r281.length 0 r281.length, .int .i64 r282]]⟩)
def laws_FnExactReadAccount_c5_Q (a1 : List UInt8) (r343 : List UInt8) (r344 : List Item) (r345 : Int) (r359 : List UInt8) (r360 : Int) (i905_1 : Nat) (i905_2 : Nat) (g : Bool) (q : Out) : Prop := q.1 = .nrm ∧ eget q.2.1 0 = .str a1 ∧ eget q.2.1 3 = .loc i905_1 1 0 0 ∧ eget q.2.1 4 = .int .i64 0 ∧ eget q.2.1 5 = .loc i905_2 1 0 0 ∧ eget q.2.1 32 = .bool g ∧ q.2.2[i905_1]? = some (.live ⟨.box, 29, 3, [[.str r343, .sl none (r344.map Item.c), .int .i64 r345]]⟩) ∧ q.2.2[i905_2]? = some (.live ⟨.box, 29, 3, [[.str r359, .nils, .int .i64 r360]]⟩)
def laws_FnExactReadAccount_c6_Q (r359 : List UInt8) (r360 : Int) (r421 : Int) (i906_1 : Nat) (i906_2 : Nat) (i906_3 : Nat) (g : Bool) (q : Out) : Prop := q.1 = .nrm ∧ eget q.2.1 5 = .loc i906_2 1 0 0 ∧ eget q.2.1 7 = .int .i64 r421 ∧ eget q.2.1 57 = .bool g ∧ q.2.2[i906_2]? = some (.live ⟨.box, 29, 3, [[.str r359, .nils, .int .i64 r360]]⟩)
def laws_FnExactReadAccount_c7_Q (r359 : List UInt8) (r360 : Int) (r421 : Int) (i907_1 : Nat) (i907_2 : Nat) (i907_3 : Nat) (g : Bool) (q : Out) : Prop := q.1 = .nrm ∧ eget q.2.1 5 = .loc i907_2 1 0 0 ∧ eget q.2.1 7 = .int .i64 r421 ∧ eget q.2.1 57 = .bool g ∧ q.2.2[i907_2]? = some (.live ⟨.box, 29, 3, [[.str r359, .nils, .int .i64 r360]]⟩)
def laws_FnExactReadAccount_c8_Q (a1 : List UInt8) (r343 : List UInt8) (r344 : List Item) (r345 : Int) (r645 : List UInt8) (r646 : List Item) (r647 : Int) (i908_1 : Nat) (i908_2 : Nat) (i908_3 : Nat) (g : Bool) (q : Out) : Prop := q.1 = .nrm ∧ eget q.2.1 0 = .str a1 ∧ eget q.2.1 3 = .loc i908_1 1 0 0 ∧ eget q.2.1 4 = .int .i64 0 ∧ eget q.2.1 5 = .loc i908_3 1 0 0 ∧ eget q.2.1 32 = .bool g ∧ q.2.2[i908_1]? = some (.live ⟨.box, 29, 3, [[.str r343, .sl none (r344.map Item.c), .int .i64 r345]]⟩) ∧ q.2.2[i908_2]? = some (.live ⟨.grow, 85, 2, r646.map Item.c⟩) ∧ q.2.2[i908_3]? = some (.live ⟨.box, 29, 3, [[.str r645, .lsl i908_2 r646.length 0 r646.length, .int .i64 r647]]⟩)
def laws_FnExactReadAccount_c9_Q (r645 : List UInt8) (r646 : List Item) (r647 : Int) (r714 : Int) (r715 : List Item) (i909_1 : Nat) (i909_2 : Nat) (i909_3 : Nat) (i909_4 : Nat) (g : Bool) (q : Out) : Prop := q.1 = .nrm ∧ eget q.2.1 5 = .loc i909_3 1 0 0 ∧ eget q.2.1 7 = .int .i64 r714 ∧ eget q.2.1 57 = .bool g ∧ q.2.2[i909_2]? = some (.live ⟨.grow, 85, 2, r715.map Item.c⟩) ∧ q.2.2[i909_3]? = some (.live ⟨.box, 29, 3, [[.str r645, .lsl i909_2 r646.length 0 r646.length, .int .i64 r647]]⟩)
def laws_FnExactReadAccount_c10_Q (r645 : List UInt8) (r646 : List Item) (r647 : Int) (r714 : Int) (r715 : List Item) (i910_1 : Nat) (i910_2 : Nat) (i910_3 : Nat) (i910_4 : Nat) (g : Bool) (q : Out) : Prop := q.1 = .nrm ∧ eget q.2.1 5 = .loc i910_3 1 0 0 ∧ eget q.2.1 7 = .int .i64 r714 ∧ eget q.2.1 57 = .bool g ∧ q.2.2[i910_2]? = some (.live ⟨.grow, 85, 2, r715.map Item.c⟩) ∧ q.2.2[i910_3]? = some (.live ⟨.box, 29, 3, [[.str r645, .lsl i910_2 r646.length 0 r646.length, .int .i64 r647]]⟩)
noncomputable def laws_FnExactReadAccount (a1 : List UInt8) : Option Bool :=
 if (decide ((a1.length : Int) > 1048576)) = true then
  some true
 else
  (spec_ReadAccount a1).bind fun r => match r with
  | (.inl _) =>
   (impl_ReadAccount a1).bind fun r => match r with
   | (.inl (r26, r27, r28)) =>
    ((laws_eqAccount (Account.mk r26 ([] : List Item) r27) (Account.mk ([] : List UInt8) ([] : List Item) 0)).bind fun r50 =>
    if r50 = true then
     some (r28 != 5)
    else
     some true).bind fun y68 =>
    if y68 = true then
     some false
    else
     (laws_markAccount_n r26 r27 1).bind fun r88 =>
     (laws_heldAccount (Account.mk r26 ([] : List Item) r27) 1).bind fun r111 =>
     if (decide (r111 < 0)) = true then
      some false
     else
      if (r111 != r88) = true then
       some false
      else
       (impl_ReadAccount a1).bind fun r => match r with
       | (.inl (r146, r147, r148)) =>
        ((laws_eqAccount (Account.mk r146 ([] : List Item) r147) (Account.mk ([] : List UInt8) ([] : List Item) 0)).bind fun r171 =>
        if r171 = true then
         some (r148 != 5)
        else
         some true).bind fun y185 =>
        if y185 = true then
         some false
        else
         (laws_heldAccount (Account.mk r26 ([] : List Item) r27) 1).bind fun r200 =>
         if (decide (r200 < 0)) = true then
          some false
         else
          if (r200 != r88) = true then
           some false
          else
           some true
       | (.inr (r227, r228, r229)) =>
        ((laws_eqAccount (Account.mk r227 r228 r229) (Account.mk ([] : List UInt8) ([] : List Item) 0)).bind fun r252 =>
        if r252 = true then
         some ()
        else
         some ()).bind fun _ =>
        some false
   | (.inr (r280, r281, r282)) =>
    ((laws_eqAccount (Account.mk r280 r281 r282) (Account.mk ([] : List UInt8) ([] : List Item) 0)).bind fun r310 =>
    if r310 = true then
     some ()
    else
     some ()).bind fun _ =>
    some false
  | (.inr (r343, r344, r345)) =>
   (impl_ReadAccount a1).bind fun r => match r with
   | (.inl (r359, r360, r361)) =>
    ((laws_eqAccount (Account.mk r359 ([] : List Item) r360) (Account.mk r343 r344 r345)).bind fun r383 =>
    if r383 = true then
     some (r361 != 0)
    else
     some true).bind fun y401 =>
    if y401 = true then
     some false
    else
     (laws_markAccount_n r359 r360 1).bind fun r421 =>
     (laws_heldAccount (Account.mk r359 ([] : List Item) r360) 1).bind fun r444 =>
     if (decide (r444 < 0)) = true then
      some false
     else
      if (r444 != r421) = true then
       some false
      else
       (impl_ReadAccount a1).bind fun r => match r with
       | (.inl (r479, r480, r481)) =>
        ((laws_eqAccount (Account.mk r479 ([] : List Item) r480) (Account.mk r343 r344 r345)).bind fun r504 =>
        if r504 = true then
         some (r481 != 0)
        else
         some true).bind fun y518 =>
        if y518 = true then
         some false
        else
         (laws_heldAccount (Account.mk r359 ([] : List Item) r360) 1).bind fun r533 =>
         if (decide (r533 < 0)) = true then
          some false
         else
          if (r533 != r421) = true then
           some false
          else
           some true
       | (.inr (r560, r561, r562)) =>
        ((laws_eqAccount (Account.mk r560 r561 r562) (Account.mk r343 r344 r345)).bind fun r585 =>
        if r585 = true then
         some false
        else
         some true).bind fun y599 =>
        if y599 = true then
         some false
        else
         (laws_heldAccount (Account.mk r359 ([] : List Item) r360) 1).bind fun r614 =>
         if (decide (r614 < 0)) = true then
          some false
         else
          if (r614 != r421) = true then
           some false
          else
           some true
   | (.inr (r645, r646, r647)) =>
    ((laws_eqAccount (Account.mk r645 r646 r647) (Account.mk r343 r344 r345)).bind fun r675 =>
    if r675 = true then
     some false
    else
     some true).bind fun y693 =>
    if y693 = true then
     some false
    else
     (laws_markAccount_l r645 r646 r647 1).bind fun (r714, r715) =>
     (laws_heldAccount (Account.mk r645 r715 r647) 1).bind fun r741 =>
     if (decide (r741 < 0)) = true then
      some false
     else
      if (r741 != r714) = true then
       some false
      else
       (impl_ReadAccount a1).bind fun r => match r with
       | (.inl (r776, r777, r778)) =>
        ((laws_eqAccount (Account.mk r776 ([] : List Item) r777) (Account.mk r343 r344 r345)).bind fun r804 =>
        if r804 = true then
         some (r778 != 0)
        else
         some true).bind fun y818 =>
        if y818 = true then
         some false
        else
         (laws_heldAccount (Account.mk r645 r715 r647) 1).bind fun r834 =>
         if (decide (r834 < 0)) = true then
          some false
         else
          if (r834 != r714) = true then
           some false
          else
           some true
       | (.inr (r861, r862, r863)) =>
        ((laws_eqAccount (Account.mk r861 r862 r863) (Account.mk r343 r344 r345)).bind fun r889 =>
        if r889 = true then
         some false
        else
         some true).bind fun y903 =>
        if y903 = true then
         some false
        else
         (laws_heldAccount (Account.mk r645 r715 r647) 1).bind fun r919 =>
         if (decide (r919 < 0)) = true then
          some false
         else
          if (r919 != r714) = true then
           some false
          else
           some true
def laws_FnExactReadAccount_enc (r : Bool) : AV := .bool r
theorem laws_FnExactReadAccount_ok (a1 : List UInt8) (r : Bool) (h : laws_FnExactReadAccount a1 = some r) : Ev (fun k => CN k 6 [.str a1] []) (fun p => rRes p.2 p.1 = laws_FnExactReadAccount_enc r) := by
 unfold laws_FnExactReadAccount at h
 refine Ev.enter (F := fun k => f6 (CN k) k) (fun k => callN_eq rfl Tryd.func6 rfl rfl rfl (by decide +kernel) (f6_eq _ _)) (sq (Rg (kx (mvO rfl) (Rn (hN rfl hZ) fun e1 h3 => sN (sq (sq (Rg (kx (mvO h3) (kx (lnB Tryd.underlying9 rfl) (kx (bGtr rfl rfl) (Rn (hA h3 (hN rfl hZ)) fun e4 h6 h7 => sN ?_)))))))))))
 clear h3
 rcases ite_some h with ⟨hb8, h⟩ | ⟨hb8, h⟩
 ·refine cT h7 hb8 (sq (Rg (kx (mvO rfl) (Rn (hV (.bool true) rfl hZ) fun e9 h11 => sN (xx (sR ?_))))))
  clear h6 h7
  obtain rfl := si h
  exact eR (resT h11 res0) rfl
 obtain ⟨q951, hx12, h⟩ := bind_some h
 refine cF h7 hb8 (xx (sN (sq (Rg (kx (mvO h6) ?_)))))
 rcases q951 with _ | ⟨r343, r344, r345⟩
 ·refine kc (cl (v := .tup [.agg [.str ([] : List UInt8), .nils, .int .i64 0], .int .i64 5]) rfl (cns rfl rfl) rfl (spec_ReadAccount_ok a1 _ hx12) nm) (kx (mvO rfl) (kx (exT rfl rfl) (kx (exT rfl rfl) (ku (alO zero29) fun M14 hM15 => ?_))))
  have o16 : M14[([] : Mem).length]? = some (.live ⟨.box, 29, 3, [[.str ([] : List UInt8), .nils, .int .i64 0]]⟩) := push_new hM15
  refine kw (stO rfl rfl o16 rfl rfl ⟨rfl, ble rfl⟩ rfl rfl) fun M17 hM18 => ?_
  have o19 : M17[([] : Mem).length]? = some (.live ⟨.box, 29, 3, [[.str ([] : List UInt8), .nils, .int .i64 0]]⟩) := set_same hM18 o16
  obtain ⟨q342, hx25, h⟩ := bind_some h
  refine kx (mvO rfl) (Rn (hA h6 (hV (.loc ([] : Mem).length 1 0 0) rfl (hV (.int .i64 5) rfl hZ))) fun e20 h22 h23 h24 => sN (sq (Rg (kx (mvO h22) ?_))))
  clear h6 h7
  rcases q342 with ⟨r26, r27, r28⟩ | ⟨r280, r281, r282⟩
  ·refine Ev.nxcp (Ev.callT (v := .tup [.agg [.str r26, .nils, .int .i64 r27], .int .i64 r28]) rfl (cns rfl rfl) rfl (impl_ReadAccount_ok a1 _ hx25) (th_gen (v' := .tup [.agg [.str r26, .nils, .int .i64 r27], .int .i64 r28]) (l := []) (own_tup (oa1 (own2_agg (oa1 rfl (oa1 rfl (oa1 rfl oa0)))) (oa1 rfl oa0))) (by simp [thaw, thaw2, thaw1, thawL, thaw]) rfl rfl)) fun M29 hM30 => ?_
   have o31 := push_old hM30 o19
   refine kx (mvO rfl) (kx (exT rfl rfl) (kx (exT rfl rfl) (ku (alO zero29) fun M33 hM34 => ?_)))
   have o35 := push_old hM34 o31
   have ne36 := ne_new o31
   have o37 : M33[M29.length]? = some (.live ⟨.box, 29, 3, [[.str ([] : List UInt8), .nils, .int .i64 0]]⟩) := push_new hM34
   refine kw (stO rfl rfl o37 rfl rfl ⟨rfl, ble rfl⟩ rfl rfl) fun M38 hM39 => ?_
   have o40 := set_ne hM39 ne36 o35
   have o41 : M38[M29.length]? = some (.live ⟨.box, 29, 3, [[.str r26, .nils, .int .i64 r27]]⟩) := set_same hM39 o37
   obtain ⟨r278, hr279, h⟩ := bind_some h
   refine kx (mvO rfl) (Rn (hA h22 (hA h23 (hA h24 (hV (.loc M29.length 1 0 0) rfl (hN rfl hZ))))) fun e42 h44 h45 h46 h47 h48 => sN (sq (sq ?_)))
   clear h22 h23 h24
   refine Ev.cut (Q1 := laws_FnExactReadAccount_c1_Q a1 r26 r27 (([] : Mem).length) M29.length r278) (by
       have h := hr279
       obtain ⟨r50, hx49, h⟩ := bind_some h
       refine Rg (kx (ldOA h47 o41 rfl rfl (ble rfl) rfl) (kx (ldOA h45 o40 rfl rfl (ble rfl) rfl) (kc (cl (v := .bool r50) rfl (cns rfl (cns rfl rfl)) rfl (laws_eqAccount_ok (Account.mk r26 ([] : List Item) r27) (Account.mk ([] : List UInt8) ([] : List Item) 0) _ hx49) nm) (kx (uNot rfl) (kx (mvO rfl) ?_)))))
       rcases ite_some h with ⟨hb51, h⟩ | ⟨hb51, h⟩
       ·refine kx (guF rfl (congrArg Bool.not hb51) (mvO h48)) (kx (guF rfl (congrArg Bool.not hb51) (mvO h46)) (kx (guF rfl (congrArg Bool.not hb51) (bNeq rfl rfl)) (kx (pkF rfl (congrArg Bool.not hb51) rfl) (Rn (hA h44 (hA h45 (hA h46 (hA h47 (hN rfl hZ))))) fun e52 h54 h55 h56 h57 h58 => ?_))))
        clear h44 h45 h46 h47 h48
        obtain rfl := si h
        exact kd (show laws_FnExactReadAccount_c1_Q a1 r26 r27 (([] : Mem).length) M29.length _ _ from ⟨rfl, h54, h55, h56, h57, h58, o40, o41⟩)
       refine kx (gsF rfl (congrArg Bool.not hb51)) (kx (gsF rfl (congrArg Bool.not hb51)) (kx (gsF rfl (congrArg Bool.not hb51)) (kx (pkT rfl (congrArg Bool.not hb51) rfl) (Rn (hA h44 (hA h45 (hA h46 (hA h47 (hV (.bool true) rfl hZ))))) fun e59 h61 h62 h63 h64 h65 => ?_))))
       clear h44 h45 h46 h47 h48
       obtain rfl := si h
       exact kd (show laws_FnExactReadAccount_c1_Q a1 r26 r27 (([] : Mem).length) M29.length _ _ from ⟨rfl, h61, h62, h63, h64, h65, o40, o41⟩)) ?_
   revert h hr279
   revert r278
   intro y68 hr279 h
   intro x e66 M67 hq277
   obtain ⟨rfl, h69, h70, h71, h72, h73, o74, o75⟩ := hq277
   refine sN ?_
   rcases ite_some h with ⟨hb76, h⟩ | ⟨hb76, h⟩
   ·refine cT h73 hb76 (sq (Rg (kx (mvO rfl) (Rn (hV (.bool false) rfl hZ) fun e77 h79 => sN (xx (sR ?_))))))
    clear h69 h70 h71 h72 h73
    obtain rfl := si h
    exact eR (resT h79 res0) rfl
   obtain ⟨r88, hx87, h⟩ := bind_some h
   refine cF h73 hb76 (xx (sN (sq (Rg (kx (mvO rfl) (Rn (hV (.str a1) h69 (hV (.loc ([] : Mem).length 1 0 0) h70 (hV (.int .i64 5) h71 (hV (.loc M29.length 1 0 0) h72 (hV (.int .i64 1) rfl hZ))))) fun e80 h82 h83 h84 h85 h86 => sN (sq (Rg (kx (ldOA h85 o75 rfl rfl (ble rfl) rfl) (kx (mvO h86) (Ev.nxw (Ev.callW rfl (cns rfl (cns rfl rfl)) (laws_markAccount_n_ok r26 r27 1 M67 _ hx87)) fun v91 M89 hq90 => ?_)))))))))))
   clear h69 h70 h71 h72 h73
   obtain ⟨hv91, fr92⟩ := hq90
   have hv91 : v91 = .int .i64 r88 := hv91
   subst hv91
   have o93 : M89[([] : Mem).length]? = some (.live ⟨.box, 29, 3, [[.str ([] : List UInt8), .nils, .int .i64 0]]⟩) := fr92 _ _ niN o74
   have o94 : M89[M29.length]? = some (.live ⟨.box, 29, 3, [[.str r26, .nils, .int .i64 r27]]⟩) := fr92 _ _ niN o75
   obtain ⟨r111, hx110, h⟩ := bind_some h
   refine kx (mvO rfl) (Rn (hA h82 (hA h83 (hA h84 (hA h85 (hN rfl hZ))))) fun e95 h97 h98 h99 h100 h101 => sN (sq (Rg (kx (mvO rfl) (Rn (hA h97 (hA h98 (hA h99 (hA h100 (hA h101 (hV (.int .i64 1) rfl hZ)))))) fun e102 h104 h105 h106 h107 h108 h109 => sN (sq (Rg (kx (ldOA h107 o94 rfl rfl (ble rfl) rfl) (kx (mvO h109) (kc (cl (v := .int .i64 r111) rfl (cns rfl (cns rfl rfl)) rfl (laws_heldAccount_ok (Account.mk r26 ([] : List Item) r27) 1 _ hx110) nm) (kx (mvO rfl) (Rn (hA h104 (hA h105 (hA h106 (hA h107 (hA h108 (hN rfl hZ)))))) fun e112 h114 h115 h116 h117 h118 h119 => sN (sq (sq (Rg (kx (mvO h119) (kx (bLss rfl rfl) (Rn (hA h114 (hA h115 (hA h116 (hA h117 (hA h118 (hA h119 (hN rfl hZ))))))) fun e120 h122 h123 h124 h125 h126 h127 h128 => sN ?_))))))))))))))))))
   clear h82 h83 h84 h85 h100 h101 h97 h98 h99 h104 h105 h106 h107 h108 h114 h115 h116 h117 h118 h119
   rcases ite_some h with ⟨hb129, h⟩ | ⟨hb129, h⟩
   ·refine cT h128 hb129 (sq (Rg (kx (mvO rfl) (Rn (hV (.bool false) rfl hZ) fun e130 h132 => sN (xx (sR ?_))))))
    clear h122 h123 h124 h125 h126 h127 h128
    obtain rfl := si h
    exact eR (resT h132 res0) rfl
   refine cF h128 hb129 (xx (sN (sq (sq (Rg (kx (mvO h127) (kx (mvO h126) (kx (bNeq rfl rfl) (Rn (hA h122 (hA h123 (hA h124 (hA h125 (hA h126 (hN rfl hZ)))))) fun e133 h135 h136 h137 h138 h139 h140 => sN ?_)))))))))
   clear h122 h123 h124 h125 h126 h127 h128
   rcases ite_some h with ⟨hb141, h⟩ | ⟨hb141, h⟩
   ·refine cT h140 hb141 (sq (Rg (kx (mvO rfl) (Rn (hV (.bool false) rfl hZ) fun e142 h144 => sN (xx (sR ?_))))))
    clear h135 h136 h137 h138 h139 h140
    obtain rfl := si h
    exact eR (resT h144 res0) rfl
   obtain ⟨q276, hx145, h⟩ := bind_some h
   refine cF h140 hb141 (xx (sN (sq (Rg (kx (mvO h135) ?_)))))
   rcases q276 with ⟨r146, r147, r148⟩ | ⟨r227, r228, r229⟩
   ·refine kc (cl (v := .tup [.agg [.str r146, .nils, .int .i64 r147], .int .i64 r148]) rfl (cns rfl rfl) rfl (impl_ReadAccount_ok a1 _ hx145) nm) (kx (mvO rfl) (kx (exT rfl rfl) (kx (exT rfl rfl) (ku (alO zero29) fun M150 hM151 => ?_))))
    have o152 := push_old hM151 o93
    have ne153 := ne_new o93
    have o154 := push_old hM151 o94
    have ne155 := ne_new o94
    have o156 : M150[M89.length]? = some (.live ⟨.box, 29, 3, [[.str ([] : List UInt8), .nils, .int .i64 0]]⟩) := push_new hM151
    refine kw (stO rfl rfl o156 rfl rfl ⟨rfl, ble rfl⟩ rfl rfl) fun M157 hM158 => ?_
    have o159 := set_ne hM158 ne153 o152
    have o160 := set_ne hM158 ne155 o154
    have o161 : M157[M89.length]? = some (.live ⟨.box, 29, 3, [[.str r146, .nils, .int .i64 r147]]⟩) := set_same hM158 o156
    obtain ⟨r225, hr226, h⟩ := bind_some h
    refine kx (mvO rfl) (Rn (hA h136 (hA h137 (hA h138 (hA h139 (hV (.loc M89.length 1 0 0) rfl (hN rfl hZ)))))) fun e162 h164 h165 h166 h167 h168 h169 => sN (sq (sq ?_)))
    clear h135 h136 h137 h138 h139 h140
    refine Ev.cut (Q1 := laws_FnExactReadAccount_c2_Q r26 r27 r88 (([] : Mem).length) M29.length M89.length r225) (by
        have h := hr226
        obtain ⟨r171, hx170, h⟩ := bind_some h
        refine Rg (kx (ldOA h168 o161 rfl rfl (ble rfl) rfl) (kx (ldOA h164 o159 rfl rfl (ble rfl) rfl) (kc (cl (v := .bool r171) rfl (cns rfl (cns rfl rfl)) rfl (laws_eqAccount_ok (Account.mk r146 ([] : List Item) r147) (Account.mk ([] : List UInt8) ([] : List Item) 0) _ hx170) nm) (kx (uNot rfl) (kx (mvO rfl) ?_)))))
        rcases ite_some h with ⟨hb172, h⟩ | ⟨hb172, h⟩
        ·refine kx (guF rfl (congrArg Bool.not hb172) (mvO h169)) (kx (guF rfl (congrArg Bool.not hb172) (mvO h165)) (kx (guF rfl (congrArg Bool.not hb172) (bNeq rfl rfl)) (kx (pkF rfl (congrArg Bool.not hb172) rfl) (Rn (hA h166 (hA h167 (hN rfl hZ))) fun e173 h175 h176 h177 => ?_))))
         clear h164 h165 h166 h167 h168 h169
         obtain rfl := si h
         exact kd (show laws_FnExactReadAccount_c2_Q r26 r27 r88 (([] : Mem).length) M29.length M89.length _ _ from ⟨rfl, h175, h176, h177, o160⟩)
        refine kx (gsF rfl (congrArg Bool.not hb172)) (kx (gsF rfl (congrArg Bool.not hb172)) (kx (gsF rfl (congrArg Bool.not hb172)) (kx (pkT rfl (congrArg Bool.not hb172) rfl) (Rn (hA h166 (hA h167 (hV (.bool true) rfl hZ))) fun e178 h180 h181 h182 => ?_))))
        clear h164 h165 h166 h167 h168 h169
        obtain rfl := si h
        exact kd (show laws_FnExactReadAccount_c2_Q r26 r27 r88 (([] : Mem).length) M29.length M89.length _ _ from ⟨rfl, h180, h181, h182, o160⟩)) ?_
    revert h hr226
    revert r225
    intro y185 hr226 h
    intro x e183 M184 hq224
    obtain ⟨rfl, h186, h187, h188, o189⟩ := hq224
    refine sN ?_
    rcases ite_some h with ⟨hb190, h⟩ | ⟨hb190, h⟩
    ·refine cT h188 hb190 (sq (Rg (kx (mvO rfl) (Rn (hV (.bool false) rfl hZ) fun e191 h193 => sN (xx (sR ?_))))))
     clear h186 h187 h188
     obtain rfl := si h
     exact eR (resT h193 res0) rfl
    obtain ⟨r200, hx199, h⟩ := bind_some h
    refine cF h188 hb190 (xx (sN (sq (Rg (kx (mvO rfl) (Rn (hV (.loc M29.length 1 0 0) h186 (hV (.int .i64 r88) h187 (hV (.int .i64 1) rfl hZ))) fun e194 h196 h197 h198 => sN (sq (Rg (kx (ldOA h196 o189 rfl rfl (ble rfl) rfl) (kx (mvO h198) (kc (cl (v := .int .i64 r200) rfl (cns rfl (cns rfl rfl)) rfl (laws_heldAccount_ok (Account.mk r26 ([] : List Item) r27) 1 _ hx199) nm) (kx (mvO rfl) (Rn (hA h197 (hN rfl hZ)) fun e201 h203 h204 => sN (sq (sq (Rg (kx (mvO h204) (kx (bLss rfl rfl) (Rn (hA h203 (hA h204 (hN rfl hZ))) fun e205 h207 h208 h209 => sN ?_)))))))))))))))))))
    clear h186 h187 h188 h196 h197 h203 h204
    rcases ite_some h with ⟨hb210, h⟩ | ⟨hb210, h⟩
    ·refine cT h209 hb210 (sq (Rg (kx (mvO rfl) (Rn (hV (.bool false) rfl hZ) fun e211 h213 => sN (xx (sR ?_))))))
     clear h207 h208 h209
     obtain rfl := si h
     exact eR (resT h213 res0) rfl
    refine cF h209 hb210 (xx (sN (sq (sq (Rg (kx (mvO h208) (kx (mvO h207) (kx (bNeq rfl rfl) (Rn (hN rfl hZ) fun e214 h216 => sN ?_)))))))))
    clear h207 h208 h209
    rcases ite_some h with ⟨hb217, h⟩ | ⟨hb217, h⟩
    ·refine cT h216 hb217 (sq (Rg (kx (mvO rfl) (Rn (hV (.bool false) rfl hZ) fun e218 h220 => sN (xx (sR ?_))))))
     clear h216
     obtain rfl := si h
     exact eR (resT h220 res0) rfl
    refine cF h216 hb217 (xx (sN (sq (Rg (kx (mvO rfl) (Rn (hV (.bool true) rfl hZ) fun e221 h223 => sN (xx ?_)))))))
    clear h216
    obtain rfl := si h
    exact eR (resT h223 res0) rfl
   refine kc (cl (v := .tup [.agg [.str r227, .sl (some 85) (r228.map Item.c), .int .i64 r229], .int .i64 0]) rfl (cns rfl rfl) rfl (impl_ReadAccount_ok a1 _ hx145) nm) (kx (mvO rfl) (kx (exT rfl rfl) (kx (exT rfl rfl) (ku (alO zero29) fun M231 hM232 => ?_))))
   have o233 := push_old hM232 o93
   have ne234 := ne_new o93
   have o235 := push_old hM232 o94
   have ne236 := ne_new o94
   have o237 : M231[M89.length]? = some (.live ⟨.box, 29, 3, [[.str ([] : List UInt8), .nils, .int .i64 0]]⟩) := push_new hM232
   refine kw (stO rfl rfl o237 rfl rfl ⟨rfl, ble rfl⟩ rfl rfl) fun M238 hM239 => ?_
   have o240 := set_ne hM239 ne234 o233
   have o241 := set_ne hM239 ne236 o235
   have o242 : M238[M89.length]? = some (.live ⟨.box, 29, 3, [[.str r227, .sl none (r228.map Item.c), .int .i64 r229]]⟩) := set_same hM239 o237
   obtain ⟨r274, hr275, h⟩ := bind_some h
   refine kx (mvO rfl) (Rn (hA h136 (hA h137 (hA h138 (hA h139 (hV (.loc M89.length 1 0 0) rfl (hV (.int .i64 0) rfl hZ)))))) fun e243 h245 h246 h247 h248 h249 h250 => sN (sq (sq ?_)))
   clear h135 h136 h137 h138 h139 h140
   refine Ev.cut (Q1 := laws_FnExactReadAccount_c3_Q r26 r27 r88 (([] : Mem).length) M29.length M89.length r274) (by
       have h := hr275
       obtain ⟨r252, hx251, h⟩ := bind_some h
       refine Rg (kx (ldOA h249 o242 rfl rfl (ble rfl) rfl) (kx (ldOA h245 o240 rfl rfl (ble rfl) rfl) (kc (cl (v := .bool r252) rfl (cns rfl (cns rfl rfl)) rfl (laws_eqAccount_ok (Account.mk r227 r228 r229) (Account.mk ([] : List UInt8) ([] : List Item) 0) _ hx251) nm) (kx (uNot rfl) (kx (mvO rfl) ?_)))))
       rcases ite_some h with ⟨hb253, h⟩ | ⟨hb253, h⟩
       ·refine kx (guF rfl (congrArg Bool.not hb253) (mvO h250)) (kx (guF rfl (congrArg Bool.not hb253) (mvO h246)) (kx (guF rfl (congrArg Bool.not hb253) (bNeq rfl rfl)) (kx (pkF rfl (congrArg Bool.not hb253) rfl) (Rn (hA h247 (hA h248 (hV (.bool true) rfl hZ))) fun e254 h256 h257 h258 => ?_))))
        clear h245 h246 h247 h248 h249 h250
        obtain rfl := si h
        exact kd (show laws_FnExactReadAccount_c3_Q r26 r27 r88 (([] : Mem).length) M29.length M89.length _ _ from ⟨rfl, h256, h257, h258, o241⟩)
       refine kx (gsF rfl (congrArg Bool.not hb253)) (kx (gsF rfl (congrArg Bool.not hb253)) (kx (gsF rfl (congrArg Bool.not hb253)) (kx (pkT rfl (congrArg Bool.not hb253) rfl) (Rn (hA h247 (hA h248 (hV (.bool true) rfl hZ))) fun e259 h261 h262 h263 => ?_))))
       clear h245 h246 h247 h248 h249 h250
       obtain rfl := si h
       exact kd (show laws_FnExactReadAccount_c3_Q r26 r27 r88 (([] : Mem).length) M29.length M89.length _ _ from ⟨rfl, h261, h262, h263, o241⟩)) ?_
   intro x e264 M265 hq273
   obtain ⟨rfl, h266, h267, h268, o269⟩ := hq273
   refine sN (cT h268 rfl (sq (Rg (kx (mvO rfl) (Rn (hV (.bool false) rfl hZ) fun e270 h272 => sN (xx (sR ?_)))))))
   clear h266 h267 h268
   obtain rfl := si h
   exact eR (resT h272 res0) rfl
  refine Ev.nxcp (Ev.callT (v := .tup [.agg [.str r280, .sl (some 85) (r281.map Item.c), .int .i64 r282], .int .i64 0]) rfl (cns rfl rfl) rfl (impl_ReadAccount_ok a1 _ hx25) (th_gen (v' := .tup [.agg [.str r280, .lsl M17.length r281.length 0 r281.length, .int .i64 r282], .int .i64 0]) (l := [⟨.grow, 85, 2, r281.map Item.c⟩]) (own_tup (oa1 (own2_agg (oa1 rfl (oa1 (own1_row' (c := Item.c) Item.flF) (oa1 rfl oa0)))) (oa1 rfl oa0))) (by simp [thaw, thaw2, thaw1, thawL, co85]) rfl rfl)) fun M284 hM285 => ?_
  have o286 := push_old hM285 o19
  have ne287 : ([] : Mem).length ≠ M17.length := by have := lt_of_get (M := M17) o19; omega
  have o288 : M284[M17.length]? = some (.live ⟨.grow, 85, 2, r281.map Item.c⟩) := push_at hM285 0 rfl
  refine kx (mvO rfl) (kx (exT rfl rfl) (kx (exT rfl rfl) (ku (alO zero29) fun M290 hM291 => ?_)))
  have o292 := push_old hM291 o286
  have ne293 := ne_new o286
  have o294 := push_old hM291 o288
  have ne295 := ne_new o288
  have o296 : M290[M284.length]? = some (.live ⟨.box, 29, 3, [[.str ([] : List UInt8), .nils, .int .i64 0]]⟩) := push_new hM291
  refine kw (stO rfl rfl o296 rfl rfl ⟨rfl, ble rfl⟩ (all1 rfl (all1 (okL o294 (by simp)) (all1 rfl all0))) rfl) fun M297 hM298 => ?_
  have o299 := set_ne hM298 ne293 o292
  have o300 := set_ne hM298 ne295 o294
  have o301 : M297[M284.length]? = some (.live ⟨.box, 29, 3, [[.str r280, .lsl M17.length r281.length 0 r281.length, .int .i64 r282]]⟩) := set_same hM298 o296
  obtain ⟨r340, hr341, h⟩ := bind_some h
  refine kx (mvO rfl) (Rn (hA h22 (hA h23 (hA h24 (hV (.loc M284.length 1 0 0) rfl (hV (.int .i64 0) rfl hZ))))) fun e302 h304 h305 h306 h307 h308 => sN (sq (sq ?_)))
  clear h22 h23 h24
  refine Ev.cut (Q1 := laws_FnExactReadAccount_c4_Q a1 r280 r281 r282 (([] : Mem).length) M17.length M284.length r340) (by
      have h := hr341
      obtain ⟨r310, hx309, h⟩ := bind_some h
      refine Rg (kx (ldOA h307 o301 rfl rfl (ble rfl) rfl) (kx (ldOA h305 o299 rfl rfl (ble rfl) rfl) (kc (cl (v := .bool r310) rfl (cns rfl (cns rfl rfl)) (ra1 (ra_agg (mp1 rfl (mp1 (ra1_row o300 rfl Item.fl) (mp1 rfl mp0)))) (ra1 rfl ra0)) (laws_eqAccount_ok (Account.mk r280 r281 r282) (Account.mk ([] : List UInt8) ([] : List Item) 0) _ hx309) (fun _ => rfl)) (kx (uNot rfl) (kx (mvO rfl) ?_)))))
      rcases ite_some h with ⟨hb311, h⟩ | ⟨hb311, h⟩
      ·refine kx (guF rfl (congrArg Bool.not hb311) (mvO h308)) (kx (guF rfl (congrArg Bool.not hb311) (mvO h306)) (kx (guF rfl (congrArg Bool.not hb311) (bNeq rfl rfl)) (kx (pkF rfl (congrArg Bool.not hb311) rfl) (Rn (hA h304 (hA h305 (hA h306 (hA h307 (hV (.bool true) rfl hZ))))) fun e312 h314 h315 h316 h317 h318 => ?_))))
       clear h304 h305 h306 h307 h308
       obtain rfl := si h
       exact kd (show laws_FnExactReadAccount_c4_Q a1 r280 r281 r282 (([] : Mem).length) M17.length M284.length _ _ from ⟨rfl, h314, h315, h316, h317, h318, o299, o300, o301⟩)
      refine kx (gsF rfl (congrArg Bool.not hb311)) (kx (gsF rfl (congrArg Bool.not hb311)) (kx (gsF rfl (congrArg Bool.not hb311)) (kx (pkT rfl (congrArg Bool.not hb311) rfl) (Rn (hA h304 (hA h305 (hA h306 (hA h307 (hV (.bool true) rfl hZ))))) fun e319 h321 h322 h323 h324 h325 => ?_))))
      clear h304 h305 h306 h307 h308
      obtain rfl := si h
      exact kd (show laws_FnExactReadAccount_c4_Q a1 r280 r281 r282 (([] : Mem).length) M17.length M284.length _ _ from ⟨rfl, h321, h322, h323, h324, h325, o299, o300, o301⟩)) ?_
  intro x e326 M327 hq339
  obtain ⟨rfl, h328, h329, h330, h331, h332, o333, o334, o335⟩ := hq339
  refine sN (cT h332 rfl (sq (Rg (kx (mvO rfl) (Rn (hV (.bool false) rfl hZ) fun e336 h338 => sN (xx (sR ?_)))))))
  clear h328 h329 h330 h331 h332
  obtain rfl := si h
  exact eR (resT h338 res0) rfl
 refine kc (cl (v := .tup [.agg [.str r343, .sl none (r344.map Item.c), .int .i64 r345], .int .i64 0]) rfl (cns rfl rfl) rfl (spec_ReadAccount_ok a1 _ hx12) nm) (kx (mvO rfl) (kx (exT rfl rfl) (kx (exT rfl rfl) (ku (alO zero29) fun M347 hM348 => ?_))))
 have o349 : M347[([] : Mem).length]? = some (.live ⟨.box, 29, 3, [[.str ([] : List UInt8), .nils, .int .i64 0]]⟩) := push_new hM348
 refine kw (stO rfl rfl o349 rfl rfl ⟨rfl, ble rfl⟩ rfl rfl) fun M350 hM351 => ?_
 have o352 : M350[([] : Mem).length]? = some (.live ⟨.box, 29, 3, [[.str r343, .sl none (r344.map Item.c), .int .i64 r345]]⟩) := set_same hM351 o349
 obtain ⟨q950, hx358, h⟩ := bind_some h
 refine kx (mvO rfl) (Rn (hA h6 (hV (.loc ([] : Mem).length 1 0 0) rfl (hV (.int .i64 0) rfl hZ))) fun e353 h355 h356 h357 => sN (sq (Rg (kx (mvO h355) ?_))))
 clear h6 h7
 rcases q950 with ⟨r359, r360, r361⟩ | ⟨r645, r646, r647⟩
 ·refine Ev.nxcp (Ev.callT (v := .tup [.agg [.str r359, .nils, .int .i64 r360], .int .i64 r361]) rfl (cns rfl rfl) rfl (impl_ReadAccount_ok a1 _ hx358) (th_gen (v' := .tup [.agg [.str r359, .nils, .int .i64 r360], .int .i64 r361]) (l := []) (own_tup (oa1 (own2_agg (oa1 rfl (oa1 rfl (oa1 rfl oa0)))) (oa1 rfl oa0))) (by simp [thaw, thaw2, thaw1, thawL, thaw]) rfl rfl)) fun M362 hM363 => ?_
  have o364 := push_old hM363 o352
  refine kx (mvO rfl) (kx (exT rfl rfl) (kx (exT rfl rfl) (ku (alO zero29) fun M366 hM367 => ?_)))
  have o368 := push_old hM367 o364
  have ne369 := ne_new o364
  have o370 : M366[M362.length]? = some (.live ⟨.box, 29, 3, [[.str ([] : List UInt8), .nils, .int .i64 0]]⟩) := push_new hM367
  refine kw (stO rfl rfl o370 rfl rfl ⟨rfl, ble rfl⟩ rfl rfl) fun M371 hM372 => ?_
  have o373 := set_ne hM372 ne369 o368
  have o374 : M371[M362.length]? = some (.live ⟨.box, 29, 3, [[.str r359, .nils, .int .i64 r360]]⟩) := set_same hM372 o370
  obtain ⟨r643, hr644, h⟩ := bind_some h
  refine kx (mvO rfl) (Rn (hA h355 (hA h356 (hA h357 (hV (.loc M362.length 1 0 0) rfl (hN rfl hZ))))) fun e375 h377 h378 h379 h380 h381 => sN (sq (sq ?_)))
  clear h355 h356 h357
  refine Ev.cut (Q1 := laws_FnExactReadAccount_c5_Q a1 r343 r344 r345 r359 r360 (([] : Mem).length) M362.length r643) (by
      have h := hr644
      obtain ⟨r383, hx382, h⟩ := bind_some h
      refine Rg (kx (ldOA h380 o374 rfl rfl (ble rfl) rfl) (kx (ldOA h378 o373 rfl rfl (ble rfl) rfl) (kc (cl (v := .bool r383) rfl (cns rfl (cns rfl rfl)) rfl (laws_eqAccount_ok (Account.mk r359 ([] : List Item) r360) (Account.mk r343 r344 r345) _ hx382) nm) (kx (uNot rfl) (kx (mvO rfl) ?_)))))
      rcases ite_some h with ⟨hb384, h⟩ | ⟨hb384, h⟩
      ·refine kx (guF rfl (congrArg Bool.not hb384) (mvO h381)) (kx (guF rfl (congrArg Bool.not hb384) (mvO h379)) (kx (guF rfl (congrArg Bool.not hb384) (bNeq rfl rfl)) (kx (pkF rfl (congrArg Bool.not hb384) rfl) (Rn (hA h377 (hA h378 (hA h379 (hA h380 (hN rfl hZ))))) fun e385 h387 h388 h389 h390 h391 => ?_))))
       clear h377 h378 h379 h380 h381
       obtain rfl := si h
       exact kd (show laws_FnExactReadAccount_c5_Q a1 r343 r344 r345 r359 r360 (([] : Mem).length) M362.length _ _ from ⟨rfl, h387, h388, h389, h390, h391, o373, o374⟩)
      refine kx (gsF rfl (congrArg Bool.not hb384)) (kx (gsF rfl (congrArg Bool.not hb384)) (kx (gsF rfl (congrArg Bool.not hb384)) (kx (pkT rfl (congrArg Bool.not hb384) rfl) (Rn (hA h377 (hA h378 (hA h379 (hA h380 (hV (.bool true) rfl hZ))))) fun e392 h394 h395 h396 h397 h398 => ?_))))
      clear h377 h378 h379 h380 h381
      obtain rfl := si h
      exact kd (show laws_FnExactReadAccount_c5_Q a1 r343 r344 r345 r359 r360 (([] : Mem).length) M362.length _ _ from ⟨rfl, h394, h395, h396, h397, h398, o373, o374⟩)) ?_
  revert h hr644
  revert r643
  intro y401 hr644 h
  intro x e399 M400 hq642
  obtain ⟨rfl, h402, h403, h404, h405, h406, o407, o408⟩ := hq642
  refine sN ?_
  rcases ite_some h with ⟨hb409, h⟩ | ⟨hb409, h⟩
  ·refine cT h406 hb409 (sq (Rg (kx (mvO rfl) (Rn (hV (.bool false) rfl hZ) fun e410 h412 => sN (xx (sR ?_))))))
   clear h402 h403 h404 h405 h406
   obtain rfl := si h
   exact eR (resT h412 res0) rfl
  obtain ⟨r421, hx420, h⟩ := bind_some h
  refine cF h406 hb409 (xx (sN (sq (Rg (kx (mvO rfl) (Rn (hV (.str a1) h402 (hV (.loc ([] : Mem).length 1 0 0) h403 (hV (.int .i64 0) h404 (hV (.loc M362.length 1 0 0) h405 (hV (.int .i64 1) rfl hZ))))) fun e413 h415 h416 h417 h418 h419 => sN (sq (Rg (kx (ldOA h418 o408 rfl rfl (ble rfl) rfl) (kx (mvO h419) (Ev.nxw (Ev.callW rfl (cns rfl (cns rfl rfl)) (laws_markAccount_n_ok r359 r360 1 M400 _ hx420)) fun v424 M422 hq423 => ?_)))))))))))
  clear h402 h403 h404 h405 h406
  obtain ⟨hv424, fr425⟩ := hq423
  have hv424 : v424 = .int .i64 r421 := hv424
  subst hv424
  have o426 : M422[([] : Mem).length]? = some (.live ⟨.box, 29, 3, [[.str r343, .sl none (r344.map Item.c), .int .i64 r345]]⟩) := fr425 _ _ niN o407
  have o427 : M422[M362.length]? = some (.live ⟨.box, 29, 3, [[.str r359, .nils, .int .i64 r360]]⟩) := fr425 _ _ niN o408
  obtain ⟨r444, hx443, h⟩ := bind_some h
  refine kx (mvO rfl) (Rn (hA h415 (hA h416 (hA h417 (hA h418 (hN rfl hZ))))) fun e428 h430 h431 h432 h433 h434 => sN (sq (Rg (kx (mvO rfl) (Rn (hA h430 (hA h431 (hA h432 (hA h433 (hA h434 (hV (.int .i64 1) rfl hZ)))))) fun e435 h437 h438 h439 h440 h441 h442 => sN (sq (Rg (kx (ldOA h440 o427 rfl rfl (ble rfl) rfl) (kx (mvO h442) (kc (cl (v := .int .i64 r444) rfl (cns rfl (cns rfl rfl)) rfl (laws_heldAccount_ok (Account.mk r359 ([] : List Item) r360) 1 _ hx443) nm) (kx (mvO rfl) (Rn (hA h437 (hA h438 (hA h439 (hA h440 (hA h441 (hN rfl hZ)))))) fun e445 h447 h448 h449 h450 h451 h452 => sN (sq (sq (Rg (kx (mvO h452) (kx (bLss rfl rfl) (Rn (hA h447 (hA h448 (hA h449 (hA h450 (hA h451 (hA h452 (hN rfl hZ))))))) fun e453 h455 h456 h457 h458 h459 h460 h461 => sN ?_))))))))))))))))))
  clear h415 h416 h417 h418 h430 h431 h432 h433 h434 h437 h438 h439 h440 h441 h447 h448 h449 h450 h451 h452
  rcases ite_some h with ⟨hb462, h⟩ | ⟨hb462, h⟩
  ·refine cT h461 hb462 (sq (Rg (kx (mvO rfl) (Rn (hV (.bool false) rfl hZ) fun e463 h465 => sN (xx (sR ?_))))))
   clear h455 h456 h457 h458 h459 h460 h461
   obtain rfl := si h
   exact eR (resT h465 res0) rfl
  refine cF h461 hb462 (xx (sN (sq (sq (Rg (kx (mvO h460) (kx (mvO h459) (kx (bNeq rfl rfl) (Rn (hA h455 (hA h456 (hA h457 (hA h458 (hA h459 (hN rfl hZ)))))) fun e466 h468 h469 h470 h471 h472 h473 => sN ?_)))))))))
  clear h455 h456 h457 h458 h459 h460 h461
  rcases ite_some h with ⟨hb474, h⟩ | ⟨hb474, h⟩
  ·refine cT h473 hb474 (sq (Rg (kx (mvO rfl) (Rn (hV (.bool false) rfl hZ) fun e475 h477 => sN (xx (sR ?_))))))
   clear h468 h469 h470 h471 h472 h473
   obtain rfl := si h
   exact eR (resT h477 res0) rfl
  obtain ⟨q641, hx478, h⟩ := bind_some h
  refine cF h473 hb474 (xx (sN (sq (Rg (kx (mvO h468) ?_)))))
  rcases q641 with ⟨r479, r480, r481⟩ | ⟨r560, r561, r562⟩
  ·refine kc (cl (v := .tup [.agg [.str r479, .nils, .int .i64 r480], .int .i64 r481]) rfl (cns rfl rfl) rfl (impl_ReadAccount_ok a1 _ hx478) nm) (kx (mvO rfl) (kx (exT rfl rfl) (kx (exT rfl rfl) (ku (alO zero29) fun M483 hM484 => ?_))))
   have o485 := push_old hM484 o426
   have ne486 := ne_new o426
   have o487 := push_old hM484 o427
   have ne488 := ne_new o427
   have o489 : M483[M422.length]? = some (.live ⟨.box, 29, 3, [[.str ([] : List UInt8), .nils, .int .i64 0]]⟩) := push_new hM484
   refine kw (stO rfl rfl o489 rfl rfl ⟨rfl, ble rfl⟩ rfl rfl) fun M490 hM491 => ?_
   have o492 := set_ne hM491 ne486 o485
   have o493 := set_ne hM491 ne488 o487
   have o494 : M490[M422.length]? = some (.live ⟨.box, 29, 3, [[.str r479, .nils, .int .i64 r480]]⟩) := set_same hM491 o489
   obtain ⟨r558, hr559, h⟩ := bind_some h
   refine kx (mvO rfl) (Rn (hA h469 (hA h470 (hA h471 (hA h472 (hV (.loc M422.length 1 0 0) rfl (hN rfl hZ)))))) fun e495 h497 h498 h499 h500 h501 h502 => sN (sq (sq ?_)))
   clear h468 h469 h470 h471 h472 h473
   refine Ev.cut (Q1 := laws_FnExactReadAccount_c6_Q r359 r360 r421 (([] : Mem).length) M362.length M422.length r558) (by
       have h := hr559
       obtain ⟨r504, hx503, h⟩ := bind_some h
       refine Rg (kx (ldOA h501 o494 rfl rfl (ble rfl) rfl) (kx (ldOA h497 o492 rfl rfl (ble rfl) rfl) (kc (cl (v := .bool r504) rfl (cns rfl (cns rfl rfl)) rfl (laws_eqAccount_ok (Account.mk r479 ([] : List Item) r480) (Account.mk r343 r344 r345) _ hx503) nm) (kx (uNot rfl) (kx (mvO rfl) ?_)))))
       rcases ite_some h with ⟨hb505, h⟩ | ⟨hb505, h⟩
       ·refine kx (guF rfl (congrArg Bool.not hb505) (mvO h502)) (kx (guF rfl (congrArg Bool.not hb505) (mvO h498)) (kx (guF rfl (congrArg Bool.not hb505) (bNeq rfl rfl)) (kx (pkF rfl (congrArg Bool.not hb505) rfl) (Rn (hA h499 (hA h500 (hN rfl hZ))) fun e506 h508 h509 h510 => ?_))))
        clear h497 h498 h499 h500 h501 h502
        obtain rfl := si h
        exact kd (show laws_FnExactReadAccount_c6_Q r359 r360 r421 (([] : Mem).length) M362.length M422.length _ _ from ⟨rfl, h508, h509, h510, o493⟩)
       refine kx (gsF rfl (congrArg Bool.not hb505)) (kx (gsF rfl (congrArg Bool.not hb505)) (kx (gsF rfl (congrArg Bool.not hb505)) (kx (pkT rfl (congrArg Bool.not hb505) rfl) (Rn (hA h499 (hA h500 (hV (.bool true) rfl hZ))) fun e511 h513 h514 h515 => ?_))))
       clear h497 h498 h499 h500 h501 h502
       obtain rfl := si h
       exact kd (show laws_FnExactReadAccount_c6_Q r359 r360 r421 (([] : Mem).length) M362.length M422.length _ _ from ⟨rfl, h513, h514, h515, o493⟩)) ?_
   revert h hr559
   revert r558
   intro y518 hr559 h
   intro x e516 M517 hq557
   obtain ⟨rfl, h519, h520, h521, o522⟩ := hq557
   refine sN ?_
   rcases ite_some h with ⟨hb523, h⟩ | ⟨hb523, h⟩
   ·refine cT h521 hb523 (sq (Rg (kx (mvO rfl) (Rn (hV (.bool false) rfl hZ) fun e524 h526 => sN (xx (sR ?_))))))
    clear h519 h520 h521
    obtain rfl := si h
    exact eR (resT h526 res0) rfl
   obtain ⟨r533, hx532, h⟩ := bind_some h
   refine cF h521 hb523 (xx (sN (sq (Rg (kx (mvO rfl) (Rn (hV (.loc M362.length 1 0 0) h519 (hV (.int .i64 r421) h520 (hV (.int .i64 1) rfl hZ))) fun e527 h529 h530 h531 => sN (sq (Rg (kx (ldOA h529 o522 rfl rfl (ble rfl) rfl) (kx (mvO h531) (kc (cl (v := .int .i64 r533) rfl (cns rfl (cns rfl rfl)) rfl (laws_heldAccount_ok (Account.mk r359 ([] : List Item) r360) 1 _ hx532) nm) (kx (mvO rfl) (Rn (hA h530 (hN rfl hZ)) fun e534 h536 h537 => sN (sq (sq (Rg (kx (mvO h537) (kx (bLss rfl rfl) (Rn (hA h536 (hA h537 (hN rfl hZ))) fun e538 h540 h541 h542 => sN ?_)))))))))))))))))))
   clear h519 h520 h521 h529 h530 h536 h537
   rcases ite_some h with ⟨hb543, h⟩ | ⟨hb543, h⟩
   ·refine cT h542 hb543 (sq (Rg (kx (mvO rfl) (Rn (hV (.bool false) rfl hZ) fun e544 h546 => sN (xx (sR ?_))))))
    clear h540 h541 h542
    obtain rfl := si h
    exact eR (resT h546 res0) rfl
   refine cF h542 hb543 (xx (sN (sq (sq (Rg (kx (mvO h541) (kx (mvO h540) (kx (bNeq rfl rfl) (Rn (hN rfl hZ) fun e547 h549 => sN ?_)))))))))
   clear h540 h541 h542
   rcases ite_some h with ⟨hb550, h⟩ | ⟨hb550, h⟩
   ·refine cT h549 hb550 (sq (Rg (kx (mvO rfl) (Rn (hV (.bool false) rfl hZ) fun e551 h553 => sN (xx (sR ?_))))))
    clear h549
    obtain rfl := si h
    exact eR (resT h553 res0) rfl
   refine cF h549 hb550 (xx (sN (sq (Rg (kx (mvO rfl) (Rn (hV (.bool true) rfl hZ) fun e554 h556 => sN (xx ?_)))))))
   clear h549
   obtain rfl := si h
   exact eR (resT h556 res0) rfl
  refine kc (cl (v := .tup [.agg [.str r560, .sl (some 85) (r561.map Item.c), .int .i64 r562], .int .i64 0]) rfl (cns rfl rfl) rfl (impl_ReadAccount_ok a1 _ hx478) nm) (kx (mvO rfl) (kx (exT rfl rfl) (kx (exT rfl rfl) (ku (alO zero29) fun M564 hM565 => ?_))))
  have o566 := push_old hM565 o426
  have ne567 := ne_new o426
  have o568 := push_old hM565 o427
  have ne569 := ne_new o427
  have o570 : M564[M422.length]? = some (.live ⟨.box, 29, 3, [[.str ([] : List UInt8), .nils, .int .i64 0]]⟩) := push_new hM565
  refine kw (stO rfl rfl o570 rfl rfl ⟨rfl, ble rfl⟩ rfl rfl) fun M571 hM572 => ?_
  have o573 := set_ne hM572 ne567 o566
  have o574 := set_ne hM572 ne569 o568
  have o575 : M571[M422.length]? = some (.live ⟨.box, 29, 3, [[.str r560, .sl none (r561.map Item.c), .int .i64 r562]]⟩) := set_same hM572 o570
  obtain ⟨r639, hr640, h⟩ := bind_some h
  refine kx (mvO rfl) (Rn (hA h469 (hA h470 (hA h471 (hA h472 (hV (.loc M422.length 1 0 0) rfl (hV (.int .i64 0) rfl hZ)))))) fun e576 h578 h579 h580 h581 h582 h583 => sN (sq (sq ?_)))
  clear h468 h469 h470 h471 h472 h473
  refine Ev.cut (Q1 := laws_FnExactReadAccount_c7_Q r359 r360 r421 (([] : Mem).length) M362.length M422.length r639) (by
      have h := hr640
      obtain ⟨r585, hx584, h⟩ := bind_some h
      refine Rg (kx (ldOA h582 o575 rfl rfl (ble rfl) rfl) (kx (ldOA h578 o573 rfl rfl (ble rfl) rfl) (kc (cl (v := .bool r585) rfl (cns rfl (cns rfl rfl)) rfl (laws_eqAccount_ok (Account.mk r560 r561 r562) (Account.mk r343 r344 r345) _ hx584) nm) (kx (uNot rfl) (kx (mvO rfl) ?_)))))
      rcases ite_some h with ⟨hb586, h⟩ | ⟨hb586, h⟩
      ·refine kx (guF rfl (congrArg Bool.not hb586) (mvO h583)) (kx (guF rfl (congrArg Bool.not hb586) (mvO h579)) (kx (guF rfl (congrArg Bool.not hb586) (bNeq rfl rfl)) (kx (pkF rfl (congrArg Bool.not hb586) rfl) (Rn (hA h580 (hA h581 (hV (.bool false) rfl hZ))) fun e587 h589 h590 h591 => ?_))))
       clear h578 h579 h580 h581 h582 h583
       obtain rfl := si h
       exact kd (show laws_FnExactReadAccount_c7_Q r359 r360 r421 (([] : Mem).length) M362.length M422.length _ _ from ⟨rfl, h589, h590, h591, o574⟩)
      refine kx (gsF rfl (congrArg Bool.not hb586)) (kx (gsF rfl (congrArg Bool.not hb586)) (kx (gsF rfl (congrArg Bool.not hb586)) (kx (pkT rfl (congrArg Bool.not hb586) rfl) (Rn (hA h580 (hA h581 (hV (.bool true) rfl hZ))) fun e592 h594 h595 h596 => ?_))))
      clear h578 h579 h580 h581 h582 h583
      obtain rfl := si h
      exact kd (show laws_FnExactReadAccount_c7_Q r359 r360 r421 (([] : Mem).length) M362.length M422.length _ _ from ⟨rfl, h594, h595, h596, o574⟩)) ?_
  revert h hr640
  revert r639
  intro y599 hr640 h
  intro x e597 M598 hq638
  obtain ⟨rfl, h600, h601, h602, o603⟩ := hq638
  refine sN ?_
  rcases ite_some h with ⟨hb604, h⟩ | ⟨hb604, h⟩
  ·refine cT h602 hb604 (sq (Rg (kx (mvO rfl) (Rn (hV (.bool false) rfl hZ) fun e605 h607 => sN (xx (sR ?_))))))
   clear h600 h601 h602
   obtain rfl := si h
   exact eR (resT h607 res0) rfl
  obtain ⟨r614, hx613, h⟩ := bind_some h
  refine cF h602 hb604 (xx (sN (sq (Rg (kx (mvO rfl) (Rn (hV (.loc M362.length 1 0 0) h600 (hV (.int .i64 r421) h601 (hV (.int .i64 1) rfl hZ))) fun e608 h610 h611 h612 => sN (sq (Rg (kx (ldOA h610 o603 rfl rfl (ble rfl) rfl) (kx (mvO h612) (kc (cl (v := .int .i64 r614) rfl (cns rfl (cns rfl rfl)) rfl (laws_heldAccount_ok (Account.mk r359 ([] : List Item) r360) 1 _ hx613) nm) (kx (mvO rfl) (Rn (hA h611 (hN rfl hZ)) fun e615 h617 h618 => sN (sq (sq (Rg (kx (mvO h618) (kx (bLss rfl rfl) (Rn (hA h617 (hA h618 (hN rfl hZ))) fun e619 h621 h622 h623 => sN ?_)))))))))))))))))))
  clear h600 h601 h602 h610 h611 h617 h618
  rcases ite_some h with ⟨hb624, h⟩ | ⟨hb624, h⟩
  ·refine cT h623 hb624 (sq (Rg (kx (mvO rfl) (Rn (hV (.bool false) rfl hZ) fun e625 h627 => sN (xx (sR ?_))))))
   clear h621 h622 h623
   obtain rfl := si h
   exact eR (resT h627 res0) rfl
  refine cF h623 hb624 (xx (sN (sq (sq (Rg (kx (mvO h622) (kx (mvO h621) (kx (bNeq rfl rfl) (Rn (hN rfl hZ) fun e628 h630 => sN ?_)))))))))
  clear h621 h622 h623
  rcases ite_some h with ⟨hb631, h⟩ | ⟨hb631, h⟩
  ·refine cT h630 hb631 (sq (Rg (kx (mvO rfl) (Rn (hV (.bool false) rfl hZ) fun e632 h634 => sN (xx (sR ?_))))))
   clear h630
   obtain rfl := si h
   exact eR (resT h634 res0) rfl
  refine cF h630 hb631 (xx (sN (sq (Rg (kx (mvO rfl) (Rn (hV (.bool true) rfl hZ) fun e635 h637 => sN (xx ?_)))))))
  clear h630
  obtain rfl := si h
  exact eR (resT h637 res0) rfl
 refine Ev.nxcp (Ev.callT (v := .tup [.agg [.str r645, .sl (some 85) (r646.map Item.c), .int .i64 r647], .int .i64 0]) rfl (cns rfl rfl) rfl (impl_ReadAccount_ok a1 _ hx358) (th_gen (v' := .tup [.agg [.str r645, .lsl M350.length r646.length 0 r646.length, .int .i64 r647], .int .i64 0]) (l := [⟨.grow, 85, 2, r646.map Item.c⟩]) (own_tup (oa1 (own2_agg (oa1 rfl (oa1 (own1_row' (c := Item.c) Item.flF) (oa1 rfl oa0)))) (oa1 rfl oa0))) (by simp [thaw, thaw2, thaw1, thawL, co85]) rfl rfl)) fun M649 hM650 => ?_
 have o651 := push_old hM650 o352
 have ne652 : ([] : Mem).length ≠ M350.length := by have := lt_of_get (M := M350) o352; omega
 have o653 : M649[M350.length]? = some (.live ⟨.grow, 85, 2, r646.map Item.c⟩) := push_at hM650 0 rfl
 refine kx (mvO rfl) (kx (exT rfl rfl) (kx (exT rfl rfl) (ku (alO zero29) fun M655 hM656 => ?_)))
 have o657 := push_old hM656 o651
 have ne658 := ne_new o651
 have o659 := push_old hM656 o653
 have ne660 := ne_new o653
 have o661 : M655[M649.length]? = some (.live ⟨.box, 29, 3, [[.str ([] : List UInt8), .nils, .int .i64 0]]⟩) := push_new hM656
 refine kw (stO rfl rfl o661 rfl rfl ⟨rfl, ble rfl⟩ (all1 rfl (all1 (okL o659 (by simp)) (all1 rfl all0))) rfl) fun M662 hM663 => ?_
 have o664 := set_ne hM663 ne658 o657
 have o665 := set_ne hM663 ne660 o659
 have o666 : M662[M649.length]? = some (.live ⟨.box, 29, 3, [[.str r645, .lsl M350.length r646.length 0 r646.length, .int .i64 r647]]⟩) := set_same hM663 o661
 obtain ⟨r948, hr949, h⟩ := bind_some h
 refine kx (mvO rfl) (Rn (hA h355 (hA h356 (hA h357 (hV (.loc M649.length 1 0 0) rfl (hV (.int .i64 0) rfl hZ))))) fun e667 h669 h670 h671 h672 h673 => sN (sq (sq ?_)))
 clear h355 h356 h357
 refine Ev.cut (Q1 := laws_FnExactReadAccount_c8_Q a1 r343 r344 r345 r645 r646 r647 (([] : Mem).length) M350.length M649.length r948) (by
     have h := hr949
     obtain ⟨r675, hx674, h⟩ := bind_some h
     refine Rg (kx (ldOA h672 o666 rfl rfl (ble rfl) rfl) (kx (ldOA h670 o664 rfl rfl (ble rfl) rfl) (kc (cl (v := .bool r675) rfl (cns rfl (cns rfl rfl)) (ra1 (ra_agg (mp1 rfl (mp1 (ra1_row o665 rfl Item.fl) (mp1 rfl mp0)))) (ra1 rfl ra0)) (laws_eqAccount_ok (Account.mk r645 r646 r647) (Account.mk r343 r344 r345) _ hx674) (fun _ => rfl)) (kx (uNot rfl) (kx (mvO rfl) ?_)))))
     rcases ite_some h with ⟨hb676, h⟩ | ⟨hb676, h⟩
     ·refine kx (guF rfl (congrArg Bool.not hb676) (mvO h673)) (kx (guF rfl (congrArg Bool.not hb676) (mvO h671)) (kx (guF rfl (congrArg Bool.not hb676) (bNeq rfl rfl)) (kx (pkF rfl (congrArg Bool.not hb676) rfl) (Rn (hA h669 (hA h670 (hA h671 (hA h672 (hV (.bool false) rfl hZ))))) fun e677 h679 h680 h681 h682 h683 => ?_))))
      clear h669 h670 h671 h672 h673
      obtain rfl := si h
      exact kd (show laws_FnExactReadAccount_c8_Q a1 r343 r344 r345 r645 r646 r647 (([] : Mem).length) M350.length M649.length _ _ from ⟨rfl, h679, h680, h681, h682, h683, o664, o665, o666⟩)
     refine kx (gsF rfl (congrArg Bool.not hb676)) (kx (gsF rfl (congrArg Bool.not hb676)) (kx (gsF rfl (congrArg Bool.not hb676)) (kx (pkT rfl (congrArg Bool.not hb676) rfl) (Rn (hA h669 (hA h670 (hA h671 (hA h672 (hV (.bool true) rfl hZ))))) fun e684 h686 h687 h688 h689 h690 => ?_))))
     clear h669 h670 h671 h672 h673
     obtain rfl := si h
     exact kd (show laws_FnExactReadAccount_c8_Q a1 r343 r344 r345 r645 r646 r647 (([] : Mem).length) M350.length M649.length _ _ from ⟨rfl, h686, h687, h688, h689, h690, o664, o665, o666⟩)) ?_
 revert h hr949
 revert r948
 intro y693 hr949 h
 intro x e691 M692 hq947
 obtain ⟨rfl, h694, h695, h696, h697, h698, o699, o700, o701⟩ := hq947
 refine sN ?_
 rcases ite_some h with ⟨hb702, h⟩ | ⟨hb702, h⟩
 ·refine cT h698 hb702 (sq (Rg (kx (mvO rfl) (Rn (hV (.bool false) rfl hZ) fun e703 h705 => sN (xx (sR ?_))))))
  clear h694 h695 h696 h697 h698
  obtain rfl := si h
  exact eR (resT h705 res0) rfl
 obtain ⟨⟨r714, r715⟩, hx713, h⟩ := bind_some h
 refine cF h698 hb702 (xx (sN (sq (Rg (kx (mvO rfl) (Rn (hV (.str a1) h694 (hV (.loc ([] : Mem).length 1 0 0) h695 (hV (.int .i64 0) h696 (hV (.loc M649.length 1 0 0) h697 (hV (.int .i64 1) rfl hZ))))) fun e706 h708 h709 h710 h711 h712 => sN (sq (Rg (kx (ldOA h711 o701 rfl rfl (ble rfl) rfl) (kx (mvO h712) (Ev.nxw (Ev.callW rfl (cns rfl (cns rfl rfl)) (laws_markAccount_l_ok r645 r646 r647 1 M350.length M692 o700 _ hx713)) fun v718 M716 hq717 => ?_)))))))))))
 clear h694 h695 h696 h697 h698
 obtain ⟨hv718, o719, fr720, hl721⟩ := hq717
 have hv718 : v718 = .int .i64 r714 := hv718
 subst hv718
 have o722 : M716[M350.length]? = some (.live ⟨.grow, 85, 2, r715.map Item.c⟩) := o719
 have hl721 : r715.length = r646.length := hl721
 have o723 : M716[([] : Mem).length]? = some (.live ⟨.box, 29, 3, [[.str r343, .sl none (r344.map Item.c), .int .i64 r345]]⟩) := fr720 _ _ (niC ne652 niN) o699
 have o724 : M716[M649.length]? = some (.live ⟨.box, 29, 3, [[.str r645, .lsl M350.length r646.length 0 r646.length, .int .i64 r647]]⟩) := fr720 _ _ (niC (Ne.symm ne660) niN) o701
 obtain ⟨r741, hx740, h⟩ := bind_some h
 refine kx (mvO rfl) (Rn (hA h708 (hA h709 (hA h710 (hA h711 (hN rfl hZ))))) fun e725 h727 h728 h729 h730 h731 => sN (sq (Rg (kx (mvO rfl) (Rn (hA h727 (hA h728 (hA h729 (hA h730 (hA h731 (hV (.int .i64 1) rfl hZ)))))) fun e732 h734 h735 h736 h737 h738 h739 => sN (sq (Rg (kx (ldOA h737 o724 rfl rfl (ble rfl) rfl) (kx (mvO h739) (kc (cl (v := .int .i64 r741) rfl (cns rfl (cns rfl rfl)) (ra1 (ra_agg (mp1 rfl (mp1 (ra1_row o722 (by simp [hl721]) Item.fl) (mp1 rfl mp0)))) (ra1 rfl ra0)) (laws_heldAccount_ok (Account.mk r645 r715 r647) 1 _ hx740) (fun _ => rfl)) (kx (mvO rfl) (Rn (hA h734 (hA h735 (hA h736 (hA h737 (hA h738 (hN rfl hZ)))))) fun e742 h744 h745 h746 h747 h748 h749 => sN (sq (sq (Rg (kx (mvO h749) (kx (bLss rfl rfl) (Rn (hA h744 (hA h745 (hA h746 (hA h747 (hA h748 (hA h749 (hN rfl hZ))))))) fun e750 h752 h753 h754 h755 h756 h757 h758 => sN ?_))))))))))))))))))
 clear h708 h709 h710 h711 h727 h728 h729 h730 h731 h734 h735 h736 h737 h738 h744 h745 h746 h747 h748 h749
 rcases ite_some h with ⟨hb759, h⟩ | ⟨hb759, h⟩
 ·refine cT h758 hb759 (sq (Rg (kx (mvO rfl) (Rn (hV (.bool false) rfl hZ) fun e760 h762 => sN (xx (sR ?_))))))
  clear h752 h753 h754 h755 h756 h757 h758
  obtain rfl := si h
  exact eR (resT h762 res0) rfl
 refine cF h758 hb759 (xx (sN (sq (sq (Rg (kx (mvO h757) (kx (mvO h756) (kx (bNeq rfl rfl) (Rn (hA h752 (hA h753 (hA h754 (hA h755 (hA h756 (hN rfl hZ)))))) fun e763 h765 h766 h767 h768 h769 h770 => sN ?_)))))))))
 clear h752 h753 h754 h755 h756 h757 h758
 rcases ite_some h with ⟨hb771, h⟩ | ⟨hb771, h⟩
 ·refine cT h770 hb771 (sq (Rg (kx (mvO rfl) (Rn (hV (.bool false) rfl hZ) fun e772 h774 => sN (xx (sR ?_))))))
  clear h765 h766 h767 h768 h769 h770
  obtain rfl := si h
  exact eR (resT h774 res0) rfl
 obtain ⟨q946, hx775, h⟩ := bind_some h
 refine cF h770 hb771 (xx (sN (sq (Rg (kx (mvO h765) ?_)))))
 rcases q946 with ⟨r776, r777, r778⟩ | ⟨r861, r862, r863⟩
 ·refine kc (cl (v := .tup [.agg [.str r776, .nils, .int .i64 r777], .int .i64 r778]) rfl (cns rfl rfl) rfl (impl_ReadAccount_ok a1 _ hx775) nm) (kx (mvO rfl) (kx (exT rfl rfl) (kx (exT rfl rfl) (ku (alO zero29) fun M780 hM781 => ?_))))
  have o782 := push_old hM781 o723
  have ne783 := ne_new o723
  have o784 := push_old hM781 o722
  have ne785 := ne_new o722
  have o786 := push_old hM781 o724
  have ne787 := ne_new o724
  have o788 : M780[M716.length]? = some (.live ⟨.box, 29, 3, [[.str ([] : List UInt8), .nils, .int .i64 0]]⟩) := push_new hM781
  refine kw (stO rfl rfl o788 rfl rfl ⟨rfl, ble rfl⟩ rfl rfl) fun M789 hM790 => ?_
  have o791 := set_ne hM790 ne783 o782
  have o792 := set_ne hM790 ne785 o784
  have o793 := set_ne hM790 ne787 o786
  have o794 : M789[M716.length]? = some (.live ⟨.box, 29, 3, [[.str r776, .nils, .int .i64 r777]]⟩) := set_same hM790 o788
  obtain ⟨r859, hr860, h⟩ := bind_some h
  refine kx (mvO rfl) (Rn (hA h766 (hA h767 (hA h768 (hA h769 (hV (.loc M716.length 1 0 0) rfl (hN rfl hZ)))))) fun e795 h797 h798 h799 h800 h801 h802 => sN (sq (sq ?_)))
  clear h765 h766 h767 h768 h769 h770
  refine Ev.cut (Q1 := laws_FnExactReadAccount_c9_Q r645 r646 r647 r714 r715 (([] : Mem).length) M350.length M649.length M716.length r859) (by
      have h := hr860
      obtain ⟨r804, hx803, h⟩ := bind_some h
      refine Rg (kx (ldOA h801 o794 rfl rfl (ble rfl) rfl) (kx (ldOA h797 o791 rfl rfl (ble rfl) rfl) (kc (cl (v := .bool r804) rfl (cns rfl (cns rfl rfl)) rfl (laws_eqAccount_ok (Account.mk r776 ([] : List Item) r777) (Account.mk r343 r344 r345) _ hx803) nm) (kx (uNot rfl) (kx (mvO rfl) ?_)))))
      rcases ite_some h with ⟨hb805, h⟩ | ⟨hb805, h⟩
      ·refine kx (guF rfl (congrArg Bool.not hb805) (mvO h802)) (kx (guF rfl (congrArg Bool.not hb805) (mvO h798)) (kx (guF rfl (congrArg Bool.not hb805) (bNeq rfl rfl)) (kx (pkF rfl (congrArg Bool.not hb805) rfl) (Rn (hA h799 (hA h800 (hN rfl hZ))) fun e806 h808 h809 h810 => ?_))))
       clear h797 h798 h799 h800 h801 h802
       obtain rfl := si h
       exact kd (show laws_FnExactReadAccount_c9_Q r645 r646 r647 r714 r715 (([] : Mem).length) M350.length M649.length M716.length _ _ from ⟨rfl, h808, h809, h810, o792, o793⟩)
      refine kx (gsF rfl (congrArg Bool.not hb805)) (kx (gsF rfl (congrArg Bool.not hb805)) (kx (gsF rfl (congrArg Bool.not hb805)) (kx (pkT rfl (congrArg Bool.not hb805) rfl) (Rn (hA h799 (hA h800 (hV (.bool true) rfl hZ))) fun e811 h813 h814 h815 => ?_))))
      clear h797 h798 h799 h800 h801 h802
      obtain rfl := si h
      exact kd (show laws_FnExactReadAccount_c9_Q r645 r646 r647 r714 r715 (([] : Mem).length) M350.length M649.length M716.length _ _ from ⟨rfl, h813, h814, h815, o792, o793⟩)) ?_
  revert h hr860
  revert r859
  intro y818 hr860 h
  intro x e816 M817 hq858
  obtain ⟨rfl, h819, h820, h821, o822, o823⟩ := hq858
  refine sN ?_
  rcases ite_some h with ⟨hb824, h⟩ | ⟨hb824, h⟩
  ·refine cT h821 hb824 (sq (Rg (kx (mvO rfl) (Rn (hV (.bool false) rfl hZ) fun e825 h827 => sN (xx (sR ?_))))))
   clear h819 h820 h821
   obtain rfl := si h
   exact eR (resT h827 res0) rfl
  obtain ⟨r834, hx833, h⟩ := bind_some h
  refine cF h821 hb824 (xx (sN (sq (Rg (kx (mvO rfl) (Rn (hV (.loc M649.length 1 0 0) h819 (hV (.int .i64 r714) h820 (hV (.int .i64 1) rfl hZ))) fun e828 h830 h831 h832 => sN (sq (Rg (kx (ldOA h830 o823 rfl rfl (ble rfl) rfl) (kx (mvO h832) (kc (cl (v := .int .i64 r834) rfl (cns rfl (cns rfl rfl)) (ra1 (ra_agg (mp1 rfl (mp1 (ra1_row o822 (by simp [hl721]) Item.fl) (mp1 rfl mp0)))) (ra1 rfl ra0)) (laws_heldAccount_ok (Account.mk r645 r715 r647) 1 _ hx833) (fun _ => rfl)) (kx (mvO rfl) (Rn (hA h831 (hN rfl hZ)) fun e835 h837 h838 => sN (sq (sq (Rg (kx (mvO h838) (kx (bLss rfl rfl) (Rn (hA h837 (hA h838 (hN rfl hZ))) fun e839 h841 h842 h843 => sN ?_)))))))))))))))))))
  clear h819 h820 h821 h830 h831 h837 h838
  rcases ite_some h with ⟨hb844, h⟩ | ⟨hb844, h⟩
  ·refine cT h843 hb844 (sq (Rg (kx (mvO rfl) (Rn (hV (.bool false) rfl hZ) fun e845 h847 => sN (xx (sR ?_))))))
   clear h841 h842 h843
   obtain rfl := si h
   exact eR (resT h847 res0) rfl
  refine cF h843 hb844 (xx (sN (sq (sq (Rg (kx (mvO h842) (kx (mvO h841) (kx (bNeq rfl rfl) (Rn (hN rfl hZ) fun e848 h850 => sN ?_)))))))))
  clear h841 h842 h843
  rcases ite_some h with ⟨hb851, h⟩ | ⟨hb851, h⟩
  ·refine cT h850 hb851 (sq (Rg (kx (mvO rfl) (Rn (hV (.bool false) rfl hZ) fun e852 h854 => sN (xx (sR ?_))))))
   clear h850
   obtain rfl := si h
   exact eR (resT h854 res0) rfl
  refine cF h850 hb851 (xx (sN (sq (Rg (kx (mvO rfl) (Rn (hV (.bool true) rfl hZ) fun e855 h857 => sN (xx ?_)))))))
  clear h850
  obtain rfl := si h
  exact eR (resT h857 res0) rfl
 refine kc (cl (v := .tup [.agg [.str r861, .sl (some 85) (r862.map Item.c), .int .i64 r863], .int .i64 0]) rfl (cns rfl rfl) rfl (impl_ReadAccount_ok a1 _ hx775) nm) (kx (mvO rfl) (kx (exT rfl rfl) (kx (exT rfl rfl) (ku (alO zero29) fun M865 hM866 => ?_))))
 have o867 := push_old hM866 o723
 have ne868 := ne_new o723
 have o869 := push_old hM866 o722
 have ne870 := ne_new o722
 have o871 := push_old hM866 o724
 have ne872 := ne_new o724
 have o873 : M865[M716.length]? = some (.live ⟨.box, 29, 3, [[.str ([] : List UInt8), .nils, .int .i64 0]]⟩) := push_new hM866
 refine kw (stO rfl rfl o873 rfl rfl ⟨rfl, ble rfl⟩ rfl rfl) fun M874 hM875 => ?_
 have o876 := set_ne hM875 ne868 o867
 have o877 := set_ne hM875 ne870 o869
 have o878 := set_ne hM875 ne872 o871
 have o879 : M874[M716.length]? = some (.live ⟨.box, 29, 3, [[.str r861, .sl none (r862.map Item.c), .int .i64 r863]]⟩) := set_same hM875 o873
 obtain ⟨r944, hr945, h⟩ := bind_some h
 refine kx (mvO rfl) (Rn (hA h766 (hA h767 (hA h768 (hA h769 (hV (.loc M716.length 1 0 0) rfl (hV (.int .i64 0) rfl hZ)))))) fun e880 h882 h883 h884 h885 h886 h887 => sN (sq (sq ?_)))
 clear h765 h766 h767 h768 h769 h770
 refine Ev.cut (Q1 := laws_FnExactReadAccount_c10_Q r645 r646 r647 r714 r715 (([] : Mem).length) M350.length M649.length M716.length r944) (by
     have h := hr945
     obtain ⟨r889, hx888, h⟩ := bind_some h
     refine Rg (kx (ldOA h886 o879 rfl rfl (ble rfl) rfl) (kx (ldOA h882 o876 rfl rfl (ble rfl) rfl) (kc (cl (v := .bool r889) rfl (cns rfl (cns rfl rfl)) rfl (laws_eqAccount_ok (Account.mk r861 r862 r863) (Account.mk r343 r344 r345) _ hx888) nm) (kx (uNot rfl) (kx (mvO rfl) ?_)))))
     rcases ite_some h with ⟨hb890, h⟩ | ⟨hb890, h⟩
     ·refine kx (guF rfl (congrArg Bool.not hb890) (mvO h887)) (kx (guF rfl (congrArg Bool.not hb890) (mvO h883)) (kx (guF rfl (congrArg Bool.not hb890) (bNeq rfl rfl)) (kx (pkF rfl (congrArg Bool.not hb890) rfl) (Rn (hA h884 (hA h885 (hV (.bool false) rfl hZ))) fun e891 h893 h894 h895 => ?_))))
      clear h882 h883 h884 h885 h886 h887
      obtain rfl := si h
      exact kd (show laws_FnExactReadAccount_c10_Q r645 r646 r647 r714 r715 (([] : Mem).length) M350.length M649.length M716.length _ _ from ⟨rfl, h893, h894, h895, o877, o878⟩)
     refine kx (gsF rfl (congrArg Bool.not hb890)) (kx (gsF rfl (congrArg Bool.not hb890)) (kx (gsF rfl (congrArg Bool.not hb890)) (kx (pkT rfl (congrArg Bool.not hb890) rfl) (Rn (hA h884 (hA h885 (hV (.bool true) rfl hZ))) fun e896 h898 h899 h900 => ?_))))
     clear h882 h883 h884 h885 h886 h887
     obtain rfl := si h
     exact kd (show laws_FnExactReadAccount_c10_Q r645 r646 r647 r714 r715 (([] : Mem).length) M350.length M649.length M716.length _ _ from ⟨rfl, h898, h899, h900, o877, o878⟩)) ?_
 revert h hr945
 revert r944
 intro y903 hr945 h
 intro x e901 M902 hq943
 obtain ⟨rfl, h904, h905, h906, o907, o908⟩ := hq943
 refine sN ?_
 rcases ite_some h with ⟨hb909, h⟩ | ⟨hb909, h⟩
 ·refine cT h906 hb909 (sq (Rg (kx (mvO rfl) (Rn (hV (.bool false) rfl hZ) fun e910 h912 => sN (xx (sR ?_))))))
  clear h904 h905 h906
  obtain rfl := si h
  exact eR (resT h912 res0) rfl
 obtain ⟨r919, hx918, h⟩ := bind_some h
 refine cF h906 hb909 (xx (sN (sq (Rg (kx (mvO rfl) (Rn (hV (.loc M649.length 1 0 0) h904 (hV (.int .i64 r714) h905 (hV (.int .i64 1) rfl hZ))) fun e913 h915 h916 h917 => sN (sq (Rg (kx (ldOA h915 o908 rfl rfl (ble rfl) rfl) (kx (mvO h917) (kc (cl (v := .int .i64 r919) rfl (cns rfl (cns rfl rfl)) (ra1 (ra_agg (mp1 rfl (mp1 (ra1_row o907 (by simp [hl721]) Item.fl) (mp1 rfl mp0)))) (ra1 rfl ra0)) (laws_heldAccount_ok (Account.mk r645 r715 r647) 1 _ hx918) (fun _ => rfl)) (kx (mvO rfl) (Rn (hA h916 (hN rfl hZ)) fun e920 h922 h923 => sN (sq (sq (Rg (kx (mvO h923) (kx (bLss rfl rfl) (Rn (hA h922 (hA h923 (hN rfl hZ))) fun e924 h926 h927 h928 => sN ?_)))))))))))))))))))
 clear h904 h905 h906 h915 h916 h922 h923
 rcases ite_some h with ⟨hb929, h⟩ | ⟨hb929, h⟩
 ·refine cT h928 hb929 (sq (Rg (kx (mvO rfl) (Rn (hV (.bool false) rfl hZ) fun e930 h932 => sN (xx (sR ?_))))))
  clear h926 h927 h928
  obtain rfl := si h
  exact eR (resT h932 res0) rfl
 refine cF h928 hb929 (xx (sN (sq (sq (Rg (kx (mvO h927) (kx (mvO h926) (kx (bNeq rfl rfl) (Rn (hN rfl hZ) fun e933 h935 => sN ?_)))))))))
 clear h926 h927 h928
 rcases ite_some h with ⟨hb936, h⟩ | ⟨hb936, h⟩
 ·refine cT h935 hb936 (sq (Rg (kx (mvO rfl) (Rn (hV (.bool false) rfl hZ) fun e937 h939 => sN (xx (sR ?_))))))
  clear h935
  obtain rfl := si h
  exact eR (resT h939 res0) rfl
 refine cF h935 hb936 (xx (sN (sq (Rg (kx (mvO rfl) (Rn (hV (.bool true) rfl hZ) fun e940 h942 => sN (xx ?_)))))))
 clear h935
 obtain rfl := si h
 exact eR (resT h942 res0) rfl
end Go.Proofs.YtbhbmgmnnkcmcaaDoor

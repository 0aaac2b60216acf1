/- Printed by a program of ours (ext.py). -/
import Derived.Test.YtbhbmgmnnkcmcaaDoorLnkReadDealsx0
set_option linter.unusedVariables false
set_option linter.unusedSimpArgs false
set_option maxRecDepth 100000
set_option maxHeartbeats 2000000
namespace Go.Proofs.YtbhbmgmnnkcmcaaDoor
open Go Go.Ab
/-! ### loop.example/g01263/spec.l07Read (f80) -/
noncomputable def spec_l07Read (a1 : List UInt8) : Option (Int × Int × Int × Int × Int × Int × Bool) :=
 (spec_l01Split a1 32).bind fun r10 =>
 if (decide ((r10.length : Int) < 4)) = true then
  some (0, 0, 0, 0, 0, 0, false)
 else
  (rd r10 0).bind fun x28 =>
  (spec_l01Number x28).bind fun (r31, r32) =>
  (rd r10 2).bind fun x55 =>
  (spec_l01Number x55).bind fun (r58, r59) =>
  (rd r10 3).bind fun x68 =>
  (spec_l01Number x68).bind fun (r71, r72) =>
  (rd r10 1).bind fun x83 =>
  if (x83 == ([99, 117, 116] : List UInt8)) = true then
   (slc r10 4 (r10.length : Int)).bind fun x148 =>
   (spec_l07Join x148).bind fun r151 =>
   (spec_l01ReadAmount r151).bind fun (r153, r154) =>
   if r32 = true then
    if r59 = true then
     if r72 = true then
      if r154 = true then
       (spec_l07Deal (Deal.mk r31 1 0 r58 r71 r153)).bind fun r186 =>
       some (r31, 1, 0, r58, r71, r153, r186)
      else
       some (r31, 1, 0, r58, r71, r153, false)
     else
      some (r31, 1, 0, r58, r71, r153, false)
    else
     some (r31, 1, 0, r58, r71, r153, false)
   else
    some (r31, 1, 0, r58, r71, r153, false)
  else
   if (x83 == ([112, 97, 115, 115] : List UInt8)) = true then
    if ((r10.length : Int) != 5) = true then
     some (r31, 2, r58, r71, 0, 0, false)
    else
     (rd r10 4).bind fun x312 =>
     (spec_l01Number x312).bind fun (r315, r316) =>
     if r32 = true then
      if r59 = true then
       if r72 = true then
        if r316 = true then
         (spec_l07Deal (Deal.mk r31 2 r58 r71 r315 0)).bind fun r348 =>
         some (r31, 2, r58, r71, r315, 0, r348)
        else
         some (r31, 2, r58, r71, r315, 0, false)
       else
        some (r31, 2, r58, r71, r315, 0, false)
      else
       some (r31, 2, r58, r71, r315, 0, false)
     else
      some (r31, 2, r58, r71, r315, 0, false)
   else
    if (x83 == ([112, 97, 121] : List UInt8)) = true then
     (slc r10 3 (r10.length : Int)).bind fun x440 =>
     (spec_l07Join x440).bind fun r443 =>
     (spec_l01ReadAmount r443).bind fun (r445, r446) =>
     if r32 = true then
      if r59 = true then
       if r446 = true then
        (spec_l07Deal (Deal.mk r31 3 r58 0 0 r445)).bind fun r475 =>
        some (r31, 3, r58, 0, 0, r445, r475)
       else
        some (r31, 3, r58, 0, 0, r445, false)
      else
       some (r31, 3, r58, 0, 0, r445, false)
     else
      some (r31, 3, r58, 0, 0, r445, false)
    else
     if (x83 == ([101, 110, 100] : List UInt8)) = true then
      if r32 = true then
       if r59 = true then
        if r72 = true then
         if ((r10.length : Int) == 4) = true then
          (spec_l07Deal (Deal.mk r31 4 r58 r71 0 0)).bind fun r579 =>
          some (r31, 4, r58, r71, 0, 0, r579)
         else
          some (r31, 4, r58, r71, 0, 0, false)
        else
         some (r31, 4, r58, r71, 0, 0, false)
       else
        some (r31, 4, r58, r71, 0, 0, false)
      else
       some (r31, 4, r58, r71, 0, 0, false)
     else
      some (r31, 0, 0, 0, 0, 0, false)
def spec_l07Read_enc (r : Int × Int × Int × Int × Int × Int × Bool) : AV := .tup [.agg [.int .i64 r.1, .int .i8 r.2.1, .int .i64 r.2.2.1, .int .i64 r.2.2.2.1, .int .i64 r.2.2.2.2.1, .int .i64 r.2.2.2.2.2.1], .bool r.2.2.2.2.2.2]
theorem spec_l07Read_ok (a1 : List UInt8) (r : Int × Int × Int × Int × Int × Int × Bool) (h : spec_l07Read a1 = some r) : Ev (fun k => CN k 80 [.str a1] []) (fun p => rRes p.2 p.1 = spec_l07Read_enc r) := by
 unfold spec_l07Read at h
 refine Ev.enter (F := fun k => f80 (CN k) k) (fun k => callN_eq rfl Tryd.func80 rfl rfl rfl (by decide +kernel) (f80_eq _ _)) (sq (Rg (ku (alO zero126) fun M2 hM3 => ?_)))
 have o4 : M2[([] : Mem).length]? = some (.live ⟨.box, 126, 6, [[.int .i64 0, .int .i8 0, .int .i64 0, .int .i64 0, .int .i64 0, .int .i64 0]]⟩) := push_new hM3
 obtain ⟨r10, hx9, h⟩ := bind_some h
 refine kx (mvO rfl) (Rn (hN rfl (hV (.loc ([] : Mem).length 1 0 0) rfl hZ)) fun e5 h7 h8 => sN (sq (Rg (kx (mvO h7) (kc (cl (v := .sl (some 9) (r10.map cS)) rfl (cns rfl (cns rfl rfl)) rfl (spec_l01Split_ok a1 32 _ hx9) nm) (kx (mvO rfl) (Rn (hA h8 (hN rfl hZ)) fun e11 h13 h14 => sN (sq (sq (Rg (kx (mvO h14) (kx (lnS Tryd.underlying86 rfl) (kx (bLss rfl rfl) (Rn (hA h13 (hA h14 (hN rfl hZ))) fun e15 h17 h18 h19 => sN ?_))))))))))))))
 clear h7 h8 h13 h14
 rcases ite_some h with ⟨hb20, h⟩ | ⟨hb20, h⟩
 ·refine cT h19 hb20 (sq (Rg (kx (bldT zero126 rfl (fill0 rfl)) (kw (stO h17 rfl o4 rfl rfl ⟨rfl, ble rfl⟩ rfl rfl) fun M21 hM22 => ?_))))
  have o23 : M21[([] : Mem).length]? = some (.live ⟨.box, 126, 6, [[.int .i64 0, .int .i8 0, .int .i64 0, .int .i64 0, .int .i64 0, .int .i64 0]]⟩) := set_same hM22 o4
  refine kx (mvO rfl) (Rn (hA h17 (hV (.bool false) rfl hZ)) fun e24 h26 h27 => sN (xx (sR ?_)))
  clear h17 h18 h19
  obtain rfl := si h
  exact eR (resC (ag := true) (sz := 6) ⟨by kernel_rfl, by kernel_rfl, by kernel_rfl⟩ (ldOA h26 o23 rfl rfl (ble rfl) rfl) (resT h27 res0)) rfl
 obtain ⟨x28, hx29, h⟩ := bind_some h
 obtain ⟨⟨r31, r32⟩, hx30, h⟩ := bind_some h
 refine cF h19 hb20 (xx (sN (sq (Rg (kx (mvO h18) (kx (ixS rfl rfl hx29 cS_fl) (kx (ldP rfl rfl) (kc (cl (v := .tup [.int .i64 r31, .bool r32]) rfl (cns rfl rfl) rfl (spec_l01Number_ok x28 _ hx30) nm) (kx (mvO rfl) (kx (exT rfl rfl) (kx (exT rfl rfl) (kx (mvO rfl) (kx (mvO rfl) (Rn (hA h17 (hA h18 (hN rfl (hN rfl hZ)))) fun e33 h35 h36 h37 h38 => sN (sq (Rg (kx (mvO h37) (kx (bldT zero126 (cns (pr3 rfl) rfl) (fill1 ⟨rfl, ble rfl⟩ rfl rfl (fill0 rfl))) (ku (alO zero126) fun M40 hM41 => ?_)))))))))))))))))))
 clear h17 h18 h19
 have o42 := push_old hM41 o4
 have ne43 := ne_new o4
 have o44 : M40[M2.length]? = some (.live ⟨.box, 126, 6, [[.int .i64 0, .int .i8 0, .int .i64 0, .int .i64 0, .int .i64 0, .int .i64 0]]⟩) := push_new hM41
 refine kw (stO rfl rfl o44 rfl rfl ⟨rfl, ble rfl⟩ rfl rfl) fun M45 hM46 => ?_
 have o47 := set_ne hM46 ne43 o42
 have o48 : M45[M2.length]? = some (.live ⟨.box, 126, 6, [[.int .i64 r31, .int .i8 0, .int .i64 0, .int .i64 0, .int .i64 0, .int .i64 0]]⟩) := set_same hM46 o44
 obtain ⟨x55, hx56, h⟩ := bind_some h
 obtain ⟨⟨r58, r59⟩, hx57, h⟩ := bind_some h
 obtain ⟨x68, hx69, h⟩ := bind_some h
 obtain ⟨⟨r71, r72⟩, hx70, h⟩ := bind_some h
 obtain ⟨x83, hx84, h⟩ := bind_some h
 refine Rn (hA h35 (hA h36 (hA h38 (hV (.loc M2.length 1 0 0) rfl hZ)))) fun e49 h51 h52 h53 h54 => sN (sq (Rg (kx (mvO h52) (kx (ixS rfl rfl hx56 cS_fl) (kx (ldP rfl rfl) (kc (cl (v := .tup [.int .i64 r58, .bool r59]) rfl (cns rfl rfl) rfl (spec_l01Number_ok x55 _ hx57) nm) (kx (mvO rfl) (kx (exT rfl rfl) (kx (exT rfl rfl) (kx (mvO rfl) (kx (mvO rfl) (Rn (hA h51 (hA h52 (hA h53 (hA h54 (hN rfl (hN rfl hZ)))))) fun e60 h62 h63 h64 h65 h66 h67 => sN (sq (Rg (kx (mvO h63) (kx (ixS rfl rfl hx69 cS_fl) (kx (ldP rfl rfl) (kc (cl (v := .tup [.int .i64 r71, .bool r72]) rfl (cns rfl rfl) rfl (spec_l01Number_ok x68 _ hx70) nm) (kx (mvO rfl) (kx (exT rfl rfl) (kx (exT rfl rfl) (kx (mvO rfl) (kx (mvO rfl) (Rn (hA h62 (hA h63 (hA h64 (hA h65 (hA h66 (hA h67 (hN rfl (hN rfl hZ)))))))) fun e73 h75 h76 h77 h78 h79 h80 h81 h82 => sN (sq (sq (Rg (kx (mvO h76) (kx (ixS rfl rfl hx84 cS_fl) (kx (ldP rfl rfl) (Rn (hA h75 (hA h76 (hA h77 (hA h78 (hA h79 (hA h80 (hA h81 (hA h82 (hN rfl hZ))))))))) fun e85 h87 h88 h89 h90 h91 h92 h93 h94 h95 => sN (bl (sq (Rg (kx (sEql h95 rfl) (kx (mvO rfl) (Rn (hA h87 (hA h88 (hA h89 (hA h90 (hA h91 (hA h92 (hA h93 (hA h94 (hA h95 (hN rfl hZ)))))))))) fun e96 h98 h99 h100 h101 h102 h103 h104 h105 h106 h107 => sN ?_)))))))))))))))))))))))))))))))))))))
 clear h35 h36 h37 h38 h51 h52 h53 h54 h62 h63 h64 h65 h66 h67 h75 h76 h77 h78 h79 h80 h81 h82 h87 h88 h89 h90 h91 h92 h93 h94 h95
 rcases ite_some h with ⟨hb108, h⟩ | ⟨hb108, h⟩
 ·refine cT h107 hb108 (sq (Rg (kx (faO h101 o48 rfl) (kw (stO rfl rfl o48 rfl rfl ⟨rfl, ble rfl⟩ rfl rfl) fun M109 hM110 => ?_))))
  have o111 := set_ne hM110 ne43 o47
  have o112 : M109[M2.length]? = some (.live ⟨.box, 126, 6, [[.int .i64 r31, .int .i8 1, .int .i64 0, .int .i64 0, .int .i64 0, .int .i64 0]]⟩) := set_same hM110 o48
  refine Rn (hA h98 (hA h99 (hA h100 (hA h101 (hA h102 (hA h103 (hA h104 (hA h105 hZ)))))))) fun e113 h115 h116 h117 h118 h119 h120 h121 h122 => sN (sq (Rg (kx (mvO h119) (kx (faO h118 o112 rfl) (kw (stO rfl rfl o112 rfl rfl ⟨rfl, ble rfl⟩ rfl rfl) fun M123 hM124 => ?_)))))
  clear h100 h101 h102 h103 h104 h105 h106 h107 h98 h99
  have o125 := set_ne hM124 ne43 o111
  have o126 : M123[M2.length]? = some (.live ⟨.box, 126, 6, [[.int .i64 r31, .int .i8 1, .int .i64 0, .int .i64 r58, .int .i64 0, .int .i64 0]]⟩) := set_same hM124 o112
  refine Rn (hA h115 (hA h116 (hA h117 (hA h118 (hA h120 (hA h121 (hA h122 hZ))))))) fun e127 h129 h130 h131 h132 h133 h134 h135 => sN (sq (Rg (kx (mvO h134) (kx (faO h132 o126 rfl) (kw (stO rfl rfl o126 rfl rfl ⟨rfl, ble rfl⟩ rfl rfl) fun M136 hM137 => ?_)))))
  clear h115 h116 h117 h118 h119 h120 h121 h122
  have o138 := set_ne hM137 ne43 o125
  have o139 : M136[M2.length]? = some (.live ⟨.box, 126, 6, [[.int .i64 r31, .int .i8 1, .int .i64 0, .int .i64 r58, .int .i64 r71, .int .i64 0]]⟩) := set_same hM137 o126
  obtain ⟨x148, hx149, h⟩ := bind_some h
  obtain ⟨r151, hx150, h⟩ := bind_some h
  obtain ⟨⟨r153, r154⟩, hx152, h⟩ := bind_some h
  refine Rn (hA h129 (hA h130 (hA h131 (hA h132 (hA h133 (hA h135 hZ)))))) fun e140 h142 h143 h144 h145 h146 h147 => sN (sq (Rg (kx (mvO h143) (kx (slS rfl (bnd1 rfl) rfl hx149 cS_fl) (kc (cl (v := .str r151) rfl (cns rfl rfl) rfl (spec_l07Join_ok x148 _ hx150) nm) (kc (cl (v := .tup [.int .i64 r153, .bool r154]) rfl (cns rfl rfl) rfl (spec_l01ReadAmount_ok r151 _ hx152) nm) (kx (mvO rfl) (kx (exT rfl rfl) (kx (exT rfl rfl) (kx (mvO rfl) (kx (mvO rfl) (Rn (hA h142 (hA h144 (hA h145 (hA h146 (hA h147 (hN rfl (hN rfl hZ))))))) fun e155 h157 h158 h159 h160 h161 h162 h163 => sN (sq (Rg (kx (mvO h162) (kx (faO h159 o139 rfl) (kw (stO rfl rfl o139 rfl rfl ⟨rfl, ble rfl⟩ rfl rfl) fun M164 hM165 => ?_)))))))))))))))))
  clear h129 h130 h131 h132 h133 h134 h135 h142 h143 h144 h145 h146 h147
  have o166 := set_ne hM165 ne43 o138
  have o167 : M164[M2.length]? = some (.live ⟨.box, 126, 6, [[.int .i64 r31, .int .i8 1, .int .i64 0, .int .i64 r58, .int .i64 r71, .int .i64 r153]]⟩) := set_same hM165 o139
  refine Rn (hA h157 (hA h158 (hA h159 (hA h160 (hA h161 (hA h163 hZ)))))) fun e168 h170 h171 h172 h173 h174 h175 => sN (Rg (kx (mvO h171) (kx (mvO rfl) ?_)))
  clear h157 h158 h159 h160 h161 h162 h163
  rcases ite_some h with ⟨hb176, h⟩ | ⟨hb176, h⟩
  ·refine kx (guT rfl hb176 (mvO h173)) (kx (pkT rfl hb176 rfl) (kx (mvO rfl) ?_))
   rcases ite_some h with ⟨hb177, h⟩ | ⟨hb177, h⟩
   ·refine kx (guT rfl hb177 (mvO h174)) (kx (pkT rfl hb177 rfl) (kx (mvO rfl) ?_))
    rcases ite_some h with ⟨hb178, h⟩ | ⟨hb178, h⟩
    ·refine kx (guT rfl hb178 (mvO h175)) (kx (pkT rfl hb178 rfl) (kx (mvO rfl) (Rn (hA h170 (hN rfl (hA h172 hZ))) fun e179 h181 h182 h183 => bN (sN (sq (Rd (kf (ldOA h183 o167 rfl rfl (ble rfl) rfl) (kf (mvO h182) (kf (mvO rfl) ?_)))))))))
     clear h170 h172 h173 h174 h175
     rcases ite_some h with ⟨hb184, h⟩ | ⟨hb184, h⟩
     ·obtain ⟨r186, hx185, h⟩ := bind_some h
      refine fc (Ev.guT rfl hb184 (cl (v := .bool r186) rfl (cns h183 rfl) (ra1 (ra1_loc o167 rfl rfl rfl ⟨rfl, blt rfl⟩) ra0) (spec_l07Deal_ok (Deal.mk r31 1 0 r58 r71 r153) _ hx185) (fun _ => rfl))) (kf (pkT rfl hb184 rfl) (fZ (kw (stO h181 rfl o166 rfl rfl ⟨rfl, ble rfl⟩ rfl rfl) fun M187 hM188 => ?_)))
      have o189 : M187[([] : Mem).length]? = some (.live ⟨.box, 126, 6, [[.int .i64 r31, .int .i8 1, .int .i64 0, .int .i64 r58, .int .i64 r71, .int .i64 r153]]⟩) := set_same hM188 o166
      have o190 := set_ne hM188 (Ne.symm ne43) o167
      refine kx (mvO rfl) (Rn (hA h181 (hN rfl hZ)) fun e191 h193 h194 => sN (xx ?_))
      clear h181 h182 h183
      obtain rfl := si h
      exact eR (resC (ag := true) (sz := 6) ⟨by kernel_rfl, by kernel_rfl, by kernel_rfl⟩ (ldOA h193 o189 rfl rfl (ble rfl) rfl) (resT h194 res0)) rfl
     refine fc (Ev.gsT rfl hb184) (kf (pkF rfl hb184 rfl) (fZ (kw (stO h181 rfl o166 rfl rfl ⟨rfl, ble rfl⟩ rfl rfl) fun M195 hM196 => ?_)))
     have o197 : M195[([] : Mem).length]? = some (.live ⟨.box, 126, 6, [[.int .i64 r31, .int .i8 1, .int .i64 0, .int .i64 r58, .int .i64 r71, .int .i64 r153]]⟩) := set_same hM196 o166
     have o198 := set_ne hM196 (Ne.symm ne43) o167
     refine kx (mvO rfl) (Rn (hA h181 (hV (.bool false) rfl hZ)) fun e199 h201 h202 => sN (xx ?_))
     clear h181 h182 h183
     obtain rfl := si h
     exact eR (resC (ag := true) (sz := 6) ⟨by kernel_rfl, by kernel_rfl, by kernel_rfl⟩ (ldOA h201 o197 rfl rfl (ble rfl) rfl) (resT h202 res0)) rfl
    refine kx (gsT rfl hb178) (kx (pkF rfl hb178 rfl) (kx (mvO rfl) (Rn (hA h170 (hV (.bool false) rfl (hA h172 hZ))) fun e203 h205 h206 h207 => bN (sN (sq (Rd (kf (ldOA h207 o167 rfl rfl (ble rfl) rfl) (kf (mvO h206) (kf (mvO rfl) (fc (Ev.gsT rfl rfl) (kf (pkF rfl rfl rfl) (fZ (kw (stO h205 rfl o166 rfl rfl ⟨rfl, ble rfl⟩ rfl rfl) fun M208 hM209 => ?_)))))))))))))
    clear h170 h172 h173 h174 h175
    have o210 : M208[([] : Mem).length]? = some (.live ⟨.box, 126, 6, [[.int .i64 r31, .int .i8 1, .int .i64 0, .int .i64 r58, .int .i64 r71, .int .i64 r153]]⟩) := set_same hM209 o166
    have o211 := set_ne hM209 (Ne.symm ne43) o167
    refine kx (mvO rfl) (Rn (hA h205 (hV (.bool false) rfl hZ)) fun e212 h214 h215 => sN (xx ?_))
    clear h205 h206 h207
    obtain rfl := si h
    exact eR (resC (ag := true) (sz := 6) ⟨by kernel_rfl, by kernel_rfl, by kernel_rfl⟩ (ldOA h214 o210 rfl rfl (ble rfl) rfl) (resT h215 res0)) rfl
   refine kx (gsT rfl hb177) (kx (pkF rfl hb177 rfl) (kx (mvO rfl) (kx (gsT rfl rfl) (kx (pkF rfl rfl rfl) (kx (mvO rfl) (Rn (hA h170 (hV (.bool false) rfl (hA h172 hZ))) fun e216 h218 h219 h220 => bN (sN (sq (Rd (kf (ldOA h220 o167 rfl rfl (ble rfl) rfl) (kf (mvO h219) (kf (mvO rfl) (fc (Ev.gsT rfl rfl) (kf (pkF rfl rfl rfl) (fZ (kw (stO h218 rfl o166 rfl rfl ⟨rfl, ble rfl⟩ rfl rfl) fun M221 hM222 => ?_))))))))))))))))
   clear h170 h172 h173 h174 h175
   have o223 : M221[([] : Mem).length]? = some (.live ⟨.box, 126, 6, [[.int .i64 r31, .int .i8 1, .int .i64 0, .int .i64 r58, .int .i64 r71, .int .i64 r153]]⟩) := set_same hM222 o166
   have o224 := set_ne hM222 (Ne.symm ne43) o167
   refine kx (mvO rfl) (Rn (hA h218 (hV (.bool false) rfl hZ)) fun e225 h227 h228 => sN (xx ?_))
   clear h218 h219 h220
   obtain rfl := si h
   exact eR (resC (ag := true) (sz := 6) ⟨by kernel_rfl, by kernel_rfl, by kernel_rfl⟩ (ldOA h227 o223 rfl rfl (ble rfl) rfl) (resT h228 res0)) rfl
  refine kx (gsT rfl hb176) (kx (pkF rfl hb176 rfl) (kx (mvO rfl) (kx (gsT rfl rfl) (kx (pkF rfl rfl rfl) (kx (mvO rfl) (kx (gsT rfl rfl) (kx (pkF rfl rfl rfl) (kx (mvO rfl) (Rn (hA h170 (hV (.bool false) rfl (hA h172 hZ))) fun e229 h231 h232 h233 => bN (sN (sq (Rd (kf (ldOA h233 o167 rfl rfl (ble rfl) rfl) (kf (mvO h232) (kf (mvO rfl) (fc (Ev.gsT rfl rfl) (kf (pkF rfl rfl rfl) (fZ (kw (stO h231 rfl o166 rfl rfl ⟨rfl, ble rfl⟩ rfl rfl) fun M234 hM235 => ?_)))))))))))))))))))
  clear h170 h172 h173 h174 h175
  have o236 : M234[([] : Mem).length]? = some (.live ⟨.box, 126, 6, [[.int .i64 r31, .int .i8 1, .int .i64 0, .int .i64 r58, .int .i64 r71, .int .i64 r153]]⟩) := set_same hM235 o166
  have o237 := set_ne hM235 (Ne.symm ne43) o167
  refine kx (mvO rfl) (Rn (hA h231 (hV (.bool false) rfl hZ)) fun e238 h240 h241 => sN (xx ?_))
  clear h231 h232 h233
  obtain rfl := si h
  exact eR (resC (ag := true) (sz := 6) ⟨by kernel_rfl, by kernel_rfl, by kernel_rfl⟩ (ldOA h240 o236 rfl rfl (ble rfl) rfl) (resT h241 res0)) rfl
 refine cF h107 hb108 (sq (Rg (kx (sEql h106 rfl) (kx (mvO rfl) (Rn (hA h98 (hA h99 (hA h100 (hA h101 (hA h102 (hA h103 (hA h104 (hA h105 (hA h106 (hN rfl hZ)))))))))) fun e242 h244 h245 h246 h247 h248 h249 h250 h251 h252 h253 => sN ?_)))))
 clear h100 h101 h102 h103 h104 h105 h106 h107 h98 h99
 rcases ite_some h with ⟨hb254, h⟩ | ⟨hb254, h⟩
 ·refine cT h253 hb254 (sq (Rg (kx (faO h247 o48 rfl) (kw (stO rfl rfl o48 rfl rfl ⟨rfl, ble rfl⟩ rfl rfl) fun M255 hM256 => ?_))))
  have o257 := set_ne hM256 ne43 o47
  have o258 : M255[M2.length]? = some (.live ⟨.box, 126, 6, [[.int .i64 r31, .int .i8 2, .int .i64 0, .int .i64 0, .int .i64 0, .int .i64 0]]⟩) := set_same hM256 o48
  refine Rn (hA h244 (hA h245 (hA h246 (hA h247 (hA h248 (hA h249 (hA h250 (hA h251 hZ)))))))) fun e259 h261 h262 h263 h264 h265 h266 h267 h268 => sN (sq (Rg (kx (mvO h265) (kx (faO h264 o258 rfl) (kw (stO rfl rfl o258 rfl rfl ⟨rfl, ble rfl⟩ rfl rfl) fun M269 hM270 => ?_)))))
  clear h244 h245 h246 h247 h248 h249 h250 h251 h252 h253
  have o271 := set_ne hM270 ne43 o257
  have o272 : M269[M2.length]? = some (.live ⟨.box, 126, 6, [[.int .i64 r31, .int .i8 2, .int .i64 r58, .int .i64 0, .int .i64 0, .int .i64 0]]⟩) := set_same hM270 o258
  refine Rn (hA h261 (hA h262 (hA h263 (hA h264 (hA h266 (hA h267 (hA h268 hZ))))))) fun e273 h275 h276 h277 h278 h279 h280 h281 => sN (sq (Rg (kx (mvO h280) (kx (faO h278 o272 rfl) (kw (stO rfl rfl o272 rfl rfl ⟨rfl, ble rfl⟩ rfl rfl) fun M282 hM283 => ?_)))))
  clear h261 h262 h263 h264 h265 h266 h267 h268
  have o284 := set_ne hM283 ne43 o271
  have o285 : M282[M2.length]? = some (.live ⟨.box, 126, 6, [[.int .i64 r31, .int .i8 2, .int .i64 r58, .int .i64 r71, .int .i64 0, .int .i64 0]]⟩) := set_same hM283 o272
  refine Rn (hA h275 (hA h276 (hA h277 (hA h278 (hA h279 (hA h281 hZ)))))) fun e286 h288 h289 h290 h291 h292 h293 => sN (sq (sq (Rg (kx (mvO h289) (kx (lnS Tryd.underlying86 rfl) (kx (bNeq rfl rfl) (Rn (hA h288 (hA h289 (hA h290 (hA h291 (hA h292 (hA h293 (hN rfl hZ))))))) fun e294 h296 h297 h298 h299 h300 h301 h302 => sN ?_)))))))
  clear h275 h276 h277 h278 h279 h280 h281 h288 h289 h290 h291 h292 h293
  rcases ite_some h with ⟨hb303, h⟩ | ⟨hb303, h⟩
  ·refine cT h302 hb303 (sq (Rg (kx (ldOA h299 o285 rfl rfl (ble rfl) rfl) (kw (stO h296 rfl o284 rfl rfl ⟨rfl, ble rfl⟩ rfl rfl) fun M304 hM305 => ?_))))
   have o306 : M304[([] : Mem).length]? = some (.live ⟨.box, 126, 6, [[.int .i64 r31, .int .i8 2, .int .i64 r58, .int .i64 r71, .int .i64 0, .int .i64 0]]⟩) := set_same hM305 o284
   have o307 := set_ne hM305 (Ne.symm ne43) o285
   refine kx (mvO rfl) (Rn (hA h296 (hV (.bool false) rfl hZ)) fun e308 h310 h311 => sN (xx (sR (bR (sR ?_)))))
   clear h296 h297 h298 h299 h300 h301 h302
   obtain rfl := si h
   exact eR (resC (ag := true) (sz := 6) ⟨by kernel_rfl, by kernel_rfl, by kernel_rfl⟩ (ldOA h310 o306 rfl rfl (ble rfl) rfl) (resT h311 res0)) rfl
  obtain ⟨x312, hx313, h⟩ := bind_some h
  obtain ⟨⟨r315, r316⟩, hx314, h⟩ := bind_some h
  refine cF h302 hb303 (xx (sN (sq (Rg (kx (mvO h297) (kx (ixS rfl rfl hx313 cS_fl) (kx (ldP rfl rfl) (kc (cl (v := .tup [.int .i64 r315, .bool r316]) rfl (cns rfl rfl) rfl (spec_l01Number_ok x312 _ hx314) nm) (kx (mvO rfl) (kx (exT rfl rfl) (kx (exT rfl rfl) (kx (mvO rfl) (kx (mvO rfl) (Rn (hA h296 (hA h298 (hA h299 (hA h300 (hA h301 (hN rfl (hN rfl hZ))))))) fun e317 h319 h320 h321 h322 h323 h324 h325 => sN (sq (Rg (kx (mvO h324) (kx (faO h321 o285 rfl) (kw (stO rfl rfl o285 rfl rfl ⟨rfl, ble rfl⟩ rfl rfl) fun M326 hM327 => ?_)))))))))))))))))))
  clear h296 h297 h298 h299 h300 h301 h302
  have o328 := set_ne hM327 ne43 o284
  have o329 : M326[M2.length]? = some (.live ⟨.box, 126, 6, [[.int .i64 r31, .int .i8 2, .int .i64 r58, .int .i64 r71, .int .i64 r315, .int .i64 0]]⟩) := set_same hM327 o285
  refine Rn (hA h319 (hA h320 (hA h321 (hA h322 (hA h323 (hA h325 hZ)))))) fun e330 h332 h333 h334 h335 h336 h337 => sN (Rg (kx (mvO h333) (kx (mvO rfl) ?_)))
  clear h319 h320 h321 h322 h323 h324 h325
  rcases ite_some h with ⟨hb338, h⟩ | ⟨hb338, h⟩
  ·refine kx (guT rfl hb338 (mvO h335)) (kx (pkT rfl hb338 rfl) (kx (mvO rfl) ?_))
   rcases ite_some h with ⟨hb339, h⟩ | ⟨hb339, h⟩
   ·refine kx (guT rfl hb339 (mvO h336)) (kx (pkT rfl hb339 rfl) (kx (mvO rfl) ?_))
    rcases ite_some h with ⟨hb340, h⟩ | ⟨hb340, h⟩
    ·refine kx (guT rfl hb340 (mvO h337)) (kx (pkT rfl hb340 rfl) (kx (mvO rfl) (Rn (hA h332 (hN rfl (hA h334 hZ))) fun e341 h343 h344 h345 => bN (sN (sq (Rd (kf (ldOA h345 o329 rfl rfl (ble rfl) rfl) (kf (mvO h344) (kf (mvO rfl) ?_)))))))))
     clear h332 h334 h335 h336 h337
     rcases ite_some h with ⟨hb346, h⟩ | ⟨hb346, h⟩
     ·obtain ⟨r348, hx347, h⟩ := bind_some h
      refine fc (Ev.guT rfl hb346 (cl (v := .bool r348) rfl (cns h345 rfl) (ra1 (ra1_loc o329 rfl rfl rfl ⟨rfl, blt rfl⟩) ra0) (spec_l07Deal_ok (Deal.mk r31 2 r58 r71 r315 0) _ hx347) (fun _ => rfl))) (kf (pkT rfl hb346 rfl) (fZ (kw (stO h343 rfl o328 rfl rfl ⟨rfl, ble rfl⟩ rfl rfl) fun M349 hM350 => ?_)))
      have o351 : M349[([] : Mem).length]? = some (.live ⟨.box, 126, 6, [[.int .i64 r31, .int .i8 2, .int .i64 r58, .int .i64 r71, .int .i64 r315, .int .i64 0]]⟩) := set_same hM350 o328
      have o352 := set_ne hM350 (Ne.symm ne43) o329
      refine kx (mvO rfl) (Rn (hA h343 (hN rfl hZ)) fun e353 h355 h356 => sN (xx ?_))
      clear h343 h344 h345
      obtain rfl := si h
      exact eR (resC (ag := true) (sz := 6) ⟨by kernel_rfl, by kernel_rfl, by kernel_rfl⟩ (ldOA h355 o351 rfl rfl (ble rfl) rfl) (resT h356 res0)) rfl
     refine fc (Ev.gsT rfl hb346) (kf (pkF rfl hb346 rfl) (fZ (kw (stO h343 rfl o328 rfl rfl ⟨rfl, ble rfl⟩ rfl rfl) fun M357 hM358 => ?_)))
     have o359 : M357[([] : Mem).length]? = some (.live ⟨.box, 126, 6, [[.int .i64 r31, .int .i8 2, .int .i64 r58, .int .i64 r71, .int .i64 r315, .int .i64 0]]⟩) := set_same hM358 o328
     have o360 := set_ne hM358 (Ne.symm ne43) o329
     refine kx (mvO rfl) (Rn (hA h343 (hV (.bool false) rfl hZ)) fun e361 h363 h364 => sN (xx ?_))
     clear h343 h344 h345
     obtain rfl := si h
     exact eR (resC (ag := true) (sz := 6) ⟨by kernel_rfl, by kernel_rfl, by kernel_rfl⟩ (ldOA h363 o359 rfl rfl (ble rfl) rfl) (resT h364 res0)) rfl
    refine kx (gsT rfl hb340) (kx (pkF rfl hb340 rfl) (kx (mvO rfl) (Rn (hA h332 (hV (.bool false) rfl (hA h334 hZ))) fun e365 h367 h368 h369 => bN (sN (sq (Rd (kf (ldOA h369 o329 rfl rfl (ble rfl) rfl) (kf (mvO h368) (kf (mvO rfl) (fc (Ev.gsT rfl rfl) (kf (pkF rfl rfl rfl) (fZ (kw (stO h367 rfl o328 rfl rfl ⟨rfl, ble rfl⟩ rfl rfl) fun M370 hM371 => ?_)))))))))))))
    clear h332 h334 h335 h336 h337
    have o372 : M370[([] : Mem).length]? = some (.live ⟨.box, 126, 6, [[.int .i64 r31, .int .i8 2, .int .i64 r58, .int .i64 r71, .int .i64 r315, .int .i64 0]]⟩) := set_same hM371 o328
    have o373 := set_ne hM371 (Ne.symm ne43) o329
    refine kx (mvO rfl) (Rn (hA h367 (hV (.bool false) rfl hZ)) fun e374 h376 h377 => sN (xx ?_))
    clear h367 h368 h369
    obtain rfl := si h
    exact eR (resC (ag := true) (sz := 6) ⟨by kernel_rfl, by kernel_rfl, by kernel_rfl⟩ (ldOA h376 o372 rfl rfl (ble rfl) rfl) (resT h377 res0)) rfl
   refine kx (gsT rfl hb339) (kx (pkF rfl hb339 rfl) (kx (mvO rfl) (kx (gsT rfl rfl) (kx (pkF rfl rfl rfl) (kx (mvO rfl) (Rn (hA h332 (hV (.bool false) rfl (hA h334 hZ))) fun e378 h380 h381 h382 => bN (sN (sq (Rd (kf (ldOA h382 o329 rfl rfl (ble rfl) rfl) (kf (mvO h381) (kf (mvO rfl) (fc (Ev.gsT rfl rfl) (kf (pkF rfl rfl rfl) (fZ (kw (stO h380 rfl o328 rfl rfl ⟨rfl, ble rfl⟩ rfl rfl) fun M383 hM384 => ?_))))))))))))))))
   clear h332 h334 h335 h336 h337
   have o385 : M383[([] : Mem).length]? = some (.live ⟨.box, 126, 6, [[.int .i64 r31, .int .i8 2, .int .i64 r58, .int .i64 r71, .int .i64 r315, .int .i64 0]]⟩) := set_same hM384 o328
   have o386 := set_ne hM384 (Ne.symm ne43) o329
   refine kx (mvO rfl) (Rn (hA h380 (hV (.bool false) rfl hZ)) fun e387 h389 h390 => sN (xx ?_))
   clear h380 h381 h382
   obtain rfl := si h
   exact eR (resC (ag := true) (sz := 6) ⟨by kernel_rfl, by kernel_rfl, by kernel_rfl⟩ (ldOA h389 o385 rfl rfl (ble rfl) rfl) (resT h390 res0)) rfl
  refine kx (gsT rfl hb338) (kx (pkF rfl hb338 rfl) (kx (mvO rfl) (kx (gsT rfl rfl) (kx (pkF rfl rfl rfl) (kx (mvO rfl) (kx (gsT rfl rfl) (kx (pkF rfl rfl rfl) (kx (mvO rfl) (Rn (hA h332 (hV (.bool false) rfl (hA h334 hZ))) fun e391 h393 h394 h395 => bN (sN (sq (Rd (kf (ldOA h395 o329 rfl rfl (ble rfl) rfl) (kf (mvO h394) (kf (mvO rfl) (fc (Ev.gsT rfl rfl) (kf (pkF rfl rfl rfl) (fZ (kw (stO h393 rfl o328 rfl rfl ⟨rfl, ble rfl⟩ rfl rfl) fun M396 hM397 => ?_)))))))))))))))))))
  clear h332 h334 h335 h336 h337
  have o398 : M396[([] : Mem).length]? = some (.live ⟨.box, 126, 6, [[.int .i64 r31, .int .i8 2, .int .i64 r58, .int .i64 r71, .int .i64 r315, .int .i64 0]]⟩) := set_same hM397 o328
  have o399 := set_ne hM397 (Ne.symm ne43) o329
  refine kx (mvO rfl) (Rn (hA h393 (hV (.bool false) rfl hZ)) fun e400 h402 h403 => sN (xx ?_))
  clear h393 h394 h395
  obtain rfl := si h
  exact eR (resC (ag := true) (sz := 6) ⟨by kernel_rfl, by kernel_rfl, by kernel_rfl⟩ (ldOA h402 o398 rfl rfl (ble rfl) rfl) (resT h403 res0)) rfl
 refine cF h253 hb254 (sq (Rg (kx (sEql h252 rfl) (kx (mvO rfl) (Rn (hA h244 (hA h245 (hA h246 (hA h247 (hA h248 (hA h249 (hA h250 (hA h251 (hA h252 (hN rfl hZ)))))))))) fun e404 h406 h407 h408 h409 h410 h411 h412 h413 h414 h415 => sN ?_)))))
 clear h244 h245 h246 h247 h248 h249 h250 h251 h252 h253
 rcases ite_some h with ⟨hb416, h⟩ | ⟨hb416, h⟩
 ·refine cT h415 hb416 (sq (Rg (kx (faO h409 o48 rfl) (kw (stO rfl rfl o48 rfl rfl ⟨rfl, ble rfl⟩ rfl rfl) fun M417 hM418 => ?_))))
  have o419 := set_ne hM418 ne43 o47
  have o420 : M417[M2.length]? = some (.live ⟨.box, 126, 6, [[.int .i64 r31, .int .i8 3, .int .i64 0, .int .i64 0, .int .i64 0, .int .i64 0]]⟩) := set_same hM418 o48
  refine Rn (hA h406 (hA h407 (hA h408 (hA h409 (hA h410 (hA h411 hZ)))))) fun e421 h423 h424 h425 h426 h427 h428 => sN (sq (Rg (kx (mvO h427) (kx (faO h426 o420 rfl) (kw (stO rfl rfl o420 rfl rfl ⟨rfl, ble rfl⟩ rfl rfl) fun M429 hM430 => ?_)))))
  clear h406 h407 h408 h409 h410 h411 h412 h413 h414 h415
  have o431 := set_ne hM430 ne43 o419
  have o432 : M429[M2.length]? = some (.live ⟨.box, 126, 6, [[.int .i64 r31, .int .i8 3, .int .i64 r58, .int .i64 0, .int .i64 0, .int .i64 0]]⟩) := set_same hM430 o420
  obtain ⟨x440, hx441, h⟩ := bind_some h
  obtain ⟨r443, hx442, h⟩ := bind_some h
  obtain ⟨⟨r445, r446⟩, hx444, h⟩ := bind_some h
  refine Rn (hA h423 (hA h424 (hA h425 (hA h426 (hA h428 hZ))))) fun e433 h435 h436 h437 h438 h439 => sN (sq (Rg (kx (mvO h436) (kx (slS rfl (bnd1 rfl) rfl hx441 cS_fl) (kc (cl (v := .str r443) rfl (cns rfl rfl) rfl (spec_l07Join_ok x440 _ hx442) nm) (kc (cl (v := .tup [.int .i64 r445, .bool r446]) rfl (cns rfl rfl) rfl (spec_l01ReadAmount_ok r443 _ hx444) nm) (kx (mvO rfl) (kx (exT rfl rfl) (kx (exT rfl rfl) (kx (mvO rfl) (kx (mvO rfl) (Rn (hA h435 (hA h437 (hA h438 (hA h439 (hN rfl (hN rfl hZ)))))) fun e447 h449 h450 h451 h452 h453 h454 => sN (sq (Rg (kx (mvO h453) (kx (faO h451 o432 rfl) (kw (stO rfl rfl o432 rfl rfl ⟨rfl, ble rfl⟩ rfl rfl) fun M455 hM456 => ?_)))))))))))))))))
  clear h423 h424 h425 h426 h427 h428 h435 h436 h437 h438 h439
  have o457 := set_ne hM456 ne43 o431
  have o458 : M455[M2.length]? = some (.live ⟨.box, 126, 6, [[.int .i64 r31, .int .i8 3, .int .i64 r58, .int .i64 0, .int .i64 0, .int .i64 r445]]⟩) := set_same hM456 o432
  refine Rn (hA h449 (hA h450 (hA h451 (hA h452 (hA h454 hZ))))) fun e459 h461 h462 h463 h464 h465 => sN (Rg (kx (mvO h462) (kx (mvO rfl) ?_)))
  clear h449 h450 h451 h452 h453 h454
  rcases ite_some h with ⟨hb466, h⟩ | ⟨hb466, h⟩
  ·refine kx (guT rfl hb466 (mvO h464)) (kx (pkT rfl hb466 rfl) (kx (mvO rfl) ?_))
   rcases ite_some h with ⟨hb467, h⟩ | ⟨hb467, h⟩
   ·refine kx (guT rfl hb467 (mvO h465)) (kx (pkT rfl hb467 rfl) (kx (mvO rfl) (Rn (hA h461 (hN rfl (hA h463 hZ))) fun e468 h470 h471 h472 => bN (sN (sq (Rd (kf (ldOA h472 o458 rfl rfl (ble rfl) rfl) (kf (mvO h471) (kf (mvO rfl) ?_)))))))))
    clear h461 h463 h464 h465
    rcases ite_some h with ⟨hb473, h⟩ | ⟨hb473, h⟩
    ·obtain ⟨r475, hx474, h⟩ := bind_some h
     refine fc (Ev.guT rfl hb473 (cl (v := .bool r475) rfl (cns h472 rfl) (ra1 (ra1_loc o458 rfl rfl rfl ⟨rfl, blt rfl⟩) ra0) (spec_l07Deal_ok (Deal.mk r31 3 r58 0 0 r445) _ hx474) (fun _ => rfl))) (kf (pkT rfl hb473 rfl) (fZ (kw (stO h470 rfl o457 rfl rfl ⟨rfl, ble rfl⟩ rfl rfl) fun M476 hM477 => ?_)))
     have o478 : M476[([] : Mem).length]? = some (.live ⟨.box, 126, 6, [[.int .i64 r31, .int .i8 3, .int .i64 r58, .int .i64 0, .int .i64 0, .int .i64 r445]]⟩) := set_same hM477 o457
     have o479 := set_ne hM477 (Ne.symm ne43) o458
     refine kx (mvO rfl) (Rn (hA h470 (hN rfl hZ)) fun e480 h482 h483 => sN (xx ?_))
     clear h470 h471 h472
     obtain rfl := si h
     exact eR (resC (ag := true) (sz := 6) ⟨by kernel_rfl, by kernel_rfl, by kernel_rfl⟩ (ldOA h482 o478 rfl rfl (ble rfl) rfl) (resT h483 res0)) rfl
    refine fc (Ev.gsT rfl hb473) (kf (pkF rfl hb473 rfl) (fZ (kw (stO h470 rfl o457 rfl rfl ⟨rfl, ble rfl⟩ rfl rfl) fun M484 hM485 => ?_)))
    have o486 : M484[([] : Mem).length]? = some (.live ⟨.box, 126, 6, [[.int .i64 r31, .int .i8 3, .int .i64 r58, .int .i64 0, .int .i64 0, .int .i64 r445]]⟩) := set_same hM485 o457
    have o487 := set_ne hM485 (Ne.symm ne43) o458
    refine kx (mvO rfl) (Rn (hA h470 (hV (.bool false) rfl hZ)) fun e488 h490 h491 => sN (xx ?_))
    clear h470 h471 h472
    obtain rfl := si h
    exact eR (resC (ag := true) (sz := 6) ⟨by kernel_rfl, by kernel_rfl, by kernel_rfl⟩ (ldOA h490 o486 rfl rfl (ble rfl) rfl) (resT h491 res0)) rfl
   refine kx (gsT rfl hb467) (kx (pkF rfl hb467 rfl) (kx (mvO rfl) (Rn (hA h461 (hV (.bool false) rfl (hA h463 hZ))) fun e492 h494 h495 h496 => bN (sN (sq (Rd (kf (ldOA h496 o458 rfl rfl (ble rfl) rfl) (kf (mvO h495) (kf (mvO rfl) (fc (Ev.gsT rfl rfl) (kf (pkF rfl rfl rfl) (fZ (kw (stO h494 rfl o457 rfl rfl ⟨rfl, ble rfl⟩ rfl rfl) fun M497 hM498 => ?_)))))))))))))
   clear h461 h463 h464 h465
   have o499 : M497[([] : Mem).length]? = some (.live ⟨.box, 126, 6, [[.int .i64 r31, .int .i8 3, .int .i64 r58, .int .i64 0, .int .i64 0, .int .i64 r445]]⟩) := set_same hM498 o457
   have o500 := set_ne hM498 (Ne.symm ne43) o458
   refine kx (mvO rfl) (Rn (hA h494 (hV (.bool false) rfl hZ)) fun e501 h503 h504 => sN (xx ?_))
   clear h494 h495 h496
   obtain rfl := si h
   exact eR (resC (ag := true) (sz := 6) ⟨by kernel_rfl, by kernel_rfl, by kernel_rfl⟩ (ldOA h503 o499 rfl rfl (ble rfl) rfl) (resT h504 res0)) rfl
  refine kx (gsT rfl hb466) (kx (pkF rfl hb466 rfl) (kx (mvO rfl) (kx (gsT rfl rfl) (kx (pkF rfl rfl rfl) (kx (mvO rfl) (Rn (hA h461 (hV (.bool false) rfl (hA h463 hZ))) fun e505 h507 h508 h509 => bN (sN (sq (Rd (kf (ldOA h509 o458 rfl rfl (ble rfl) rfl) (kf (mvO h508) (kf (mvO rfl) (fc (Ev.gsT rfl rfl) (kf (pkF rfl rfl rfl) (fZ (kw (stO h507 rfl o457 rfl rfl ⟨rfl, ble rfl⟩ rfl rfl) fun M510 hM511 => ?_))))))))))))))))
  clear h461 h463 h464 h465
  have o512 : M510[([] : Mem).length]? = some (.live ⟨.box, 126, 6, [[.int .i64 r31, .int .i8 3, .int .i64 r58, .int .i64 0, .int .i64 0, .int .i64 r445]]⟩) := set_same hM511 o457
  have o513 := set_ne hM511 (Ne.symm ne43) o458
  refine kx (mvO rfl) (Rn (hA h507 (hV (.bool false) rfl hZ)) fun e514 h516 h517 => sN (xx ?_))
  clear h507 h508 h509
  obtain rfl := si h
  exact eR (resC (ag := true) (sz := 6) ⟨by kernel_rfl, by kernel_rfl, by kernel_rfl⟩ (ldOA h516 o512 rfl rfl (ble rfl) rfl) (resT h517 res0)) rfl
 refine cF h415 hb416 (sq (Rg (kx (sEql h414 rfl) (kx (mvO rfl) (Rn (hA h406 (hA h407 (hA h408 (hA h409 (hA h410 (hA h411 (hA h412 (hA h413 (hN rfl hZ))))))))) fun e518 h520 h521 h522 h523 h524 h525 h526 h527 h528 => sN ?_)))))
 clear h406 h407 h408 h409 h410 h411 h412 h413 h414 h415
 rcases ite_some h with ⟨hb529, h⟩ | ⟨hb529, h⟩
 ·refine cT h528 hb529 (sq (Rg (kx (faO h523 o48 rfl) (kw (stO rfl rfl o48 rfl rfl ⟨rfl, ble rfl⟩ rfl rfl) fun M530 hM531 => ?_))))
  have o532 := set_ne hM531 ne43 o47
  have o533 : M530[M2.length]? = some (.live ⟨.box, 126, 6, [[.int .i64 r31, .int .i8 4, .int .i64 0, .int .i64 0, .int .i64 0, .int .i64 0]]⟩) := set_same hM531 o48
  refine Rn (hA h520 (hA h521 (hA h522 (hA h523 (hA h524 (hA h525 (hA h526 (hA h527 hZ)))))))) fun e534 h536 h537 h538 h539 h540 h541 h542 h543 => sN (sq (Rg (kx (mvO h540) (kx (faO h539 o533 rfl) (kw (stO rfl rfl o533 rfl rfl ⟨rfl, ble rfl⟩ rfl rfl) fun M544 hM545 => ?_)))))
  clear h520 h521 h522 h523 h524 h525 h526 h527 h528
  have o546 := set_ne hM545 ne43 o532
  have o547 : M544[M2.length]? = some (.live ⟨.box, 126, 6, [[.int .i64 r31, .int .i8 4, .int .i64 r58, .int .i64 0, .int .i64 0, .int .i64 0]]⟩) := set_same hM545 o533
  refine Rn (hA h536 (hA h537 (hA h538 (hA h539 (hA h541 (hA h542 (hA h543 hZ))))))) fun e548 h550 h551 h552 h553 h554 h555 h556 => sN (sq (Rg (kx (mvO h555) (kx (faO h553 o547 rfl) (kw (stO rfl rfl o547 rfl rfl ⟨rfl, ble rfl⟩ rfl rfl) fun M557 hM558 => ?_)))))
  clear h536 h537 h538 h539 h540 h541 h542 h543
  have o559 := set_ne hM558 ne43 o546
  have o560 : M557[M2.length]? = some (.live ⟨.box, 126, 6, [[.int .i64 r31, .int .i8 4, .int .i64 r58, .int .i64 r71, .int .i64 0, .int .i64 0]]⟩) := set_same hM558 o547
  refine Rn (hA h550 (hA h551 (hA h552 (hA h553 (hA h554 (hA h556 hZ)))))) fun e561 h563 h564 h565 h566 h567 h568 => sN (Rg (kx (mvO h565) (kx (mvO rfl) ?_)))
  clear h550 h551 h552 h553 h554 h555 h556
  rcases ite_some h with ⟨hb569, h⟩ | ⟨hb569, h⟩
  ·refine kx (guT rfl hb569 (mvO h567)) (kx (pkT rfl hb569 rfl) (kx (mvO rfl) ?_))
   rcases ite_some h with ⟨hb570, h⟩ | ⟨hb570, h⟩
   ·refine kx (guT rfl hb570 (mvO h568)) (kx (pkT rfl hb570 rfl) (kx (mvO rfl) ?_))
    rcases ite_some h with ⟨hb571, h⟩ | ⟨hb571, h⟩
    ·refine kx (guT rfl hb571 (mvO h564)) (kx (guT rfl hb571 (lnS Tryd.underlying86 rfl)) (kx (guT rfl hb571 (bEql rfl rfl)) (kx (pkT rfl hb571 rfl) (kx (mvO rfl) (Rn (hA h563 (hN rfl (hA h566 hZ))) fun e572 h574 h575 h576 => bN (sN (sq (Rd (kf (ldOA h576 o560 rfl rfl (ble rfl) rfl) (kf (mvO h575) (kf (mvO rfl) ?_)))))))))))
     clear h563 h564 h566 h567 h568
     rcases ite_some h with ⟨hb577, h⟩ | ⟨hb577, h⟩
     ·obtain ⟨r579, hx578, h⟩ := bind_some h
      refine fc (Ev.guT rfl hb577 (cl (v := .bool r579) rfl (cns h576 rfl) (ra1 (ra1_loc o560 rfl rfl rfl ⟨rfl, blt rfl⟩) ra0) (spec_l07Deal_ok (Deal.mk r31 4 r58 r71 0 0) _ hx578) (fun _ => rfl))) (kf (pkT rfl hb577 rfl) (fZ (kw (stO h574 rfl o559 rfl rfl ⟨rfl, ble rfl⟩ rfl rfl) fun M580 hM581 => ?_)))
      have o582 : M580[([] : Mem).length]? = some (.live ⟨.box, 126, 6, [[.int .i64 r31, .int .i8 4, .int .i64 r58, .int .i64 r71, .int .i64 0, .int .i64 0]]⟩) := set_same hM581 o559
      have o583 := set_ne hM581 (Ne.symm ne43) o560
      refine kx (mvO rfl) (Rn (hA h574 (hN rfl hZ)) fun e584 h586 h587 => sN (xx ?_))
      clear h574 h575 h576
      obtain rfl := si h
      exact eR (resC (ag := true) (sz := 6) ⟨by kernel_rfl, by kernel_rfl, by kernel_rfl⟩ (ldOA h586 o582 rfl rfl (ble rfl) rfl) (resT h587 res0)) rfl
     refine fc (Ev.gsT rfl hb577) (kf (pkF rfl hb577 rfl) (fZ (kw (stO h574 rfl o559 rfl rfl ⟨rfl, ble rfl⟩ rfl rfl) fun M588 hM589 => ?_)))
     have o590 : M588[([] : Mem).length]? = some (.live ⟨.box, 126, 6, [[.int .i64 r31, .int .i8 4, .int .i64 r58, .int .i64 r71, .int .i64 0, .int .i64 0]]⟩) := set_same hM589 o559
     have o591 := set_ne hM589 (Ne.symm ne43) o560
     refine kx (mvO rfl) (Rn (hA h574 (hV (.bool false) rfl hZ)) fun e592 h594 h595 => sN (xx ?_))
     clear h574 h575 h576
     obtain rfl := si h
     exact eR (resC (ag := true) (sz := 6) ⟨by kernel_rfl, by kernel_rfl, by kernel_rfl⟩ (ldOA h594 o590 rfl rfl (ble rfl) rfl) (resT h595 res0)) rfl
    refine kx (gsT rfl hb571) (kx (gsT rfl hb571) (kx (gsT rfl hb571) (kx (pkF rfl hb571 rfl) (kx (mvO rfl) (Rn (hA h563 (hV (.bool false) rfl (hA h566 hZ))) fun e596 h598 h599 h600 => bN (sN (sq (Rd (kf (ldOA h600 o560 rfl rfl (ble rfl) rfl) (kf (mvO h599) (kf (mvO rfl) (fc (Ev.gsT rfl rfl) (kf (pkF rfl rfl rfl) (fZ (kw (stO h598 rfl o559 rfl rfl ⟨rfl, ble rfl⟩ rfl rfl) fun M601 hM602 => ?_)))))))))))))))
    clear h563 h564 h566 h567 h568
    have o603 : M601[([] : Mem).length]? = some (.live ⟨.box, 126, 6, [[.int .i64 r31, .int .i8 4, .int .i64 r58, .int .i64 r71, .int .i64 0, .int .i64 0]]⟩) := set_same hM602 o559
    have o604 := set_ne hM602 (Ne.symm ne43) o560
    refine kx (mvO rfl) (Rn (hA h598 (hV (.bool false) rfl hZ)) fun e605 h607 h608 => sN (xx ?_))
    clear h598 h599 h600
    obtain rfl := si h
    exact eR (resC (ag := true) (sz := 6) ⟨by kernel_rfl, by kernel_rfl, by kernel_rfl⟩ (ldOA h607 o603 rfl rfl (ble rfl) rfl) (resT h608 res0)) rfl
   refine kx (gsT rfl hb570) (kx (pkF rfl hb570 rfl) (kx (mvO rfl) (kx (gsT rfl rfl) (kx (gsT rfl rfl) (kx (gsT rfl rfl) (kx (pkF rfl rfl rfl) (kx (mvO rfl) (Rn (hA h563 (hV (.bool false) rfl (hA h566 hZ))) fun e609 h611 h612 h613 => bN (sN (sq (Rd (kf (ldOA h613 o560 rfl rfl (ble rfl) rfl) (kf (mvO h612) (kf (mvO rfl) (fc (Ev.gsT rfl rfl) (kf (pkF rfl rfl rfl) (fZ (kw (stO h611 rfl o559 rfl rfl ⟨rfl, ble rfl⟩ rfl rfl) fun M614 hM615 => ?_))))))))))))))))))
   clear h563 h564 h566 h567 h568
   have o616 : M614[([] : Mem).length]? = some (.live ⟨.box, 126, 6, [[.int .i64 r31, .int .i8 4, .int .i64 r58, .int .i64 r71, .int .i64 0, .int .i64 0]]⟩) := set_same hM615 o559
   have o617 := set_ne hM615 (Ne.symm ne43) o560
   refine kx (mvO rfl) (Rn (hA h611 (hV (.bool false) rfl hZ)) fun e618 h620 h621 => sN (xx ?_))
   clear h611 h612 h613
   obtain rfl := si h
   exact eR (resC (ag := true) (sz := 6) ⟨by kernel_rfl, by kernel_rfl, by kernel_rfl⟩ (ldOA h620 o616 rfl rfl (ble rfl) rfl) (resT h621 res0)) rfl
  refine kx (gsT rfl hb569) (kx (pkF rfl hb569 rfl) (kx (mvO rfl) (kx (gsT rfl rfl) (kx (pkF rfl rfl rfl) (kx (mvO rfl) (kx (gsT rfl rfl) (kx (gsT rfl rfl) (kx (gsT rfl rfl) (kx (pkF rfl rfl rfl) (kx (mvO rfl) (Rn (hA h563 (hV (.bool false) rfl (hA h566 hZ))) fun e622 h624 h625 h626 => bN (sN (sq (Rd (kf (ldOA h626 o560 rfl rfl (ble rfl) rfl) (kf (mvO h625) (kf (mvO rfl) (fc (Ev.gsT rfl rfl) (kf (pkF rfl rfl rfl) (fZ (kw (stO h624 rfl o559 rfl rfl ⟨rfl, ble rfl⟩ rfl rfl) fun M627 hM628 => ?_)))))))))))))))))))))
  clear h563 h564 h566 h567 h568
  have o629 : M627[([] : Mem).length]? = some (.live ⟨.box, 126, 6, [[.int .i64 r31, .int .i8 4, .int .i64 r58, .int .i64 r71, .int .i64 0, .int .i64 0]]⟩) := set_same hM628 o559
  have o630 := set_ne hM628 (Ne.symm ne43) o560
  refine kx (mvO rfl) (Rn (hA h624 (hV (.bool false) rfl hZ)) fun e631 h633 h634 => sN (xx ?_))
  clear h624 h625 h626
  obtain rfl := si h
  exact eR (resC (ag := true) (sz := 6) ⟨by kernel_rfl, by kernel_rfl, by kernel_rfl⟩ (ldOA h633 o629 rfl rfl (ble rfl) rfl) (resT h634 res0)) rfl
 refine cF h528 hb529 (sq (Rg (kx (ldOA h523 o48 rfl rfl (ble rfl) rfl) (kw (stO h520 rfl o47 rfl rfl ⟨rfl, ble rfl⟩ rfl rfl) fun M635 hM636 => ?_))))
 have o637 : M635[([] : Mem).length]? = some (.live ⟨.box, 126, 6, [[.int .i64 r31, .int .i8 0, .int .i64 0, .int .i64 0, .int .i64 0, .int .i64 0]]⟩) := set_same hM636 o47
 have o638 := set_ne hM636 (Ne.symm ne43) o48
 refine kx (mvO rfl) (Rn (hA h520 (hV (.bool false) rfl hZ)) fun e639 h641 h642 => sN (xx (bR (sR ?_))))
 clear h520 h521 h522 h523 h524 h525 h526 h527 h528
 obtain rfl := si h
 exact eR (resC (ag := true) (sz := 6) ⟨by kernel_rfl, by kernel_rfl, by kernel_rfl⟩ (ldOA h641 o637 rfl rfl (ble rfl) rfl) (resT h642 res0)) rfl
/-! ### loop.example/g01263/impl.linesOf (f67) -/
noncomputable def impl_linesOf (a1 : List UInt8) : Option (Unit ⊕ ((List (List UInt8)) × Bool)) :=
 if (a1 == ([] : List UInt8)) = true then
  some (.inl ())
 else
  (strings_Split a1 ([10] : List UInt8)).bind fun r14 =>
  (slc r14 0 (IntKind.i64.wrap ((r14.length : Int) - 1))).bind fun x22 =>
  (rd r14 (IntKind.i64.wrap ((r14.length : Int) - 1))).bind fun x24 =>
  some (.inr (x22, (x24 == ([] : List UInt8))))
def impl_linesOf_enc (r : Unit ⊕ ((List (List UInt8)) × Bool)) : AV :=
  match r with
  | (.inl g) => .tup [.nils, .bool true]
  | (.inr g) => .tup [.sl none (g.1.map cS), .bool g.2]
theorem impl_linesOf_ok (a1 : List UInt8) (r : Unit ⊕ ((List (List UInt8)) × Bool)) (h : impl_linesOf a1 = some r) : Ev (fun k => CN k 67 [.str a1] []) (fun p => rRes p.2 p.1 = impl_linesOf_enc r) := by
 unfold impl_linesOf at h
 refine Ev.enter (F := fun k => f67 (CN k) k) (fun k => callN_eq rfl Tryd.func67 rfl rfl rfl (by decide +kernel) (f67_eq _ _)) (sq (Rg (kx (mvO rfl) (kx (mvO rfl) (Rn (hN rfl hZ) fun e1 h3 => sN (sq (sq (Rg (kx (mvO h3) (kx (sEql rfl rfl) (Rn (hA h3 (hN rfl hZ)) fun e4 h6 h7 => sN ?_)))))))))))
 clear h3
 rcases ite_some h with ⟨hb8, h⟩ | ⟨hb8, h⟩
 ·refine cT h7 hb8 (sq (Rg (kx (mvO rfl) (kx (mvO rfl) (Rn (hV .nils rfl (hV (.bool true) rfl hZ)) fun e9 h11 h12 => sN (xx (sR ?_)))))))
  clear h6 h7
  obtain rfl := si h
  exact eR (resT h11 (resT h12 res0)) rfl
 obtain ⟨r14, hx13, h⟩ := bind_some h
 obtain ⟨x22, hx23, h⟩ := bind_some h
 obtain ⟨x24, hx25, h⟩ := bind_some h
 refine cF h7 hb8 (xx (sN (sq (Rg (kx (mvO h6) (kc (cl (v := .sl (some 9) (r14.map cS)) rfl (cns rfl (cns rfl rfl)) rfl (strings_Split_ok a1 ([10] : List UInt8) _ hx13) nm) (kx (mvO rfl) (Rn (hN rfl hZ) fun e15 h17 => sN (sq (Rg (kx (mvO h17) (kx (lnS Tryd.underlying86 rfl) (kx (bSub rfl rfl) (kx (mvO rfl) (Rn (hA h17 (hN rfl hZ)) fun e18 h20 h21 => sN (sq (Rd (kf (mvO h20) (kf (mvO h21) (kf (slS rfl rfl (bnd1 rfl) hx23 cS_fl) (kf (mvO h20) (kf (mvO h21) (kf (ixS rfl rfl hx25 cS_fl) (kf (ldP rfl rfl) (kf (sEql rfl rfl) (kf (mvO rfl) (kf (mvO rfl) (fZ (Rn (hN rfl (hN rfl hZ)) fun e26 h28 h29 => sN (xx ?_))))))))))))))))))))))))))))))
 clear h6 h7 h17 h20 h21
 obtain rfl := si h
 exact eR (resT h28 (resT h29 res0)) rfl
/-! ### loop.example/g01263/laws.heldDealS (f36) -/
abbrev laws_heldDealS_b1_S := Int × Int
abbrev laws_heldDealS_b1_R := Unit ⊕ Int
def laws_heldDealS_b1_RS (a1 : List Deal) (s : laws_heldDealS_b1_S) (e : Env) (M : Mem) : Prop := eget e 0 = .sl none (a1.map Deal.c) ∧ eget e 1 = .int .i64 s.1 ∧ eget e 5 = .int .i64 s.2
def laws_heldDealS_b1_RR (a1 : List Deal) (r : laws_heldDealS_b1_R) (x : Ex) (e : Env) (M : Mem) : Prop :=
  match r with
  | (.inl g) => x = .ret ∧ eget e 4 = .int .i64 (-1)
  | (.inr g) => x = .ext 0 ∧ eget e 1 = .int .i64 g
noncomputable def laws_heldDealS_b1 (a1 : List Deal) : laws_heldDealS_b1_S → Option (laws_heldDealS_b1_S ⊕ laws_heldDealS_b1_R) := fun (s1_1, s1_2) =>
 if (decide (s1_2 < (a1.length : Int))) = true then
  (rd a1 s1_2).bind fun x33 =>
  if (x33.Day != s1_1) = true then
   some (.inr (.inl ()))
  else
   (rd a1 s1_2).bind fun x50 =>
   if (x50.Kind != (IntKind.i8.wrap (IntKind.i64.wrap (s1_1 + 1)))) = true then
    some (.inr (.inl ()))
   else
    (rd a1 s1_2).bind fun x67 =>
    if (x67.Tally != (IntKind.i64.wrap ((IntKind.i64.wrap (s1_1 + 1)) + 1))) = true then
     some (.inr (.inl ()))
    else
     (rd a1 s1_2).bind fun x84 =>
     if (x84.From != (IntKind.i64.wrap ((IntKind.i64.wrap ((IntKind.i64.wrap (s1_1 + 1)) + 1)) + 1))) = true then
      some (.inr (.inl ()))
     else
      (rd a1 s1_2).bind fun x101 =>
      if (x101.To != (IntKind.i64.wrap ((IntKind.i64.wrap ((IntKind.i64.wrap ((IntKind.i64.wrap (s1_1 + 1)) + 1)) + 1)) + 1))) = true then
       some (.inr (.inl ()))
      else
       (rd a1 s1_2).bind fun x118 =>
       if (x118.Amount != (IntKind.i64.wrap ((IntKind.i64.wrap ((IntKind.i64.wrap ((IntKind.i64.wrap ((IntKind.i64.wrap (s1_1 + 1)) + 1)) + 1)) + 1)) + 1))) = true then
        some (.inr (.inl ()))
       else
        some (.inl ((IntKind.i64.wrap ((IntKind.i64.wrap ((IntKind.i64.wrap ((IntKind.i64.wrap ((IntKind.i64.wrap ((IntKind.i64.wrap (s1_1 + 1)) + 1)) + 1)) + 1)) + 1)) + 1)), (IntKind.i64.wrap (s1_2 + 1))))
 else
  some (.inr (.inr s1_1))
theorem laws_heldDealS_b1_ok (a1 : List Deal) (s : laws_heldDealS_b1_S) (r : laws_heldDealS_b1_S ⊕ laws_heldDealS_b1_R) (h : laws_heldDealS_b1 a1 s = some r) (e : Env) (M : Mem) (hs : laws_heldDealS_b1_RS a1 s e M) : Ev (fun k => (f36_l2 (CN k) k (prune [0, 1, 5] e) M).bind fun q => some q) (bQ (laws_heldDealS_b1_RS a1) (laws_heldDealS_b1_RR a1) r) := by
 obtain ⟨s1_1, s1_2⟩ := s
 unfold laws_heldDealS_b1 at h
 obtain ⟨h20, h22, h24⟩ := hs
 generalize he19 : prune [0, 1, 5] e = e18
 have h21 := envp he19.symm rfl h20
 have h23 := envp he19.symm rfl h22
 have h25 := envp he19.symm rfl h24
 refine sq (sq (Rg (kx (mvO h25) (kx (mvO h21) (kx (lnS Tryd.underlying71 rfl) (kx (bLss rfl rfl) (Rn (hV (.sl none (a1.map Deal.c)) h21 (hV (.int .i64 s1_1) h23 (hV (.int .i64 s1_2) h25 (hN rfl hZ)))) fun e26 h28 h29 h30 h31 => sN ?_)))))))
 clear h21 h23 h25
 rcases ite_some h with ⟨hb32, h⟩ | ⟨hb32, h⟩
 ·obtain ⟨x33, hx34, h⟩ := bind_some h
  refine cT h31 hb32 (xx (sN (sq (bl (sq (sq (Rg (kx (mvO h28) (kx (mvO h30) (kx (ixS rfl rfl hx34 Deal.fl) (kx (faP rfl ⟨ble rfl, blt rfl⟩ rfl) (kx (ldP rfl rfl) (kx (mvO h29) (kx (bNeq rfl rfl) (Rn (hA h28 (hA h29 (hA h30 (hN rfl hZ)))) fun e35 h37 h38 h39 h40 => sN ?_)))))))))))))))
  clear h28 h29 h30 h31
  rcases ite_some h with ⟨hb41, h⟩ | ⟨hb41, h⟩
  ·refine cT h40 hb41 (sq (Rg (kx (mvO rfl) (Rn (hV (.int .i64 (-1)) rfl hZ) fun e42 h44 => sN (xx (sR (bR (sR ?_))))))))
   clear h37 h38 h39 h40
   obtain rfl := si h
   exact qR ⟨rfl, h44⟩
  obtain ⟨x50, hx51, h⟩ := bind_some h
  refine cF h40 hb41 (xx (sN (sq (Rg (kx (mvO h38) (kx (bAdd rfl rfl) (kx (mvO rfl) (Rn (hA h37 (hN rfl (hA h39 hZ))) fun e45 h47 h48 h49 => sN (sq (sq (Rg (kx (mvO h47) (kx (mvO h49) (kx (ixS rfl rfl hx51 Deal.fl) (kx (faP rfl ⟨ble rfl, blt rfl⟩ rfl) (kx (ldP rfl rfl) (kx (mvO h48) (kx (cvI rfl) (kx (bNeq rfl rfl) (Rn (hA h47 (hA h48 (hA h49 (hN rfl hZ)))) fun e52 h54 h55 h56 h57 => sN ?_))))))))))))))))))))
  clear h37 h39 h40 h47 h48 h49
  rcases ite_some h with ⟨hb58, h⟩ | ⟨hb58, h⟩
  ·refine cT h57 hb58 (sq (Rg (kx (mvO rfl) (Rn (hV (.int .i64 (-1)) rfl hZ) fun e59 h61 => sN (xx (sR (bR (sR ?_))))))))
   clear h54 h55 h56 h57
   obtain rfl := si h
   exact qR ⟨rfl, h61⟩
  obtain ⟨x67, hx68, h⟩ := bind_some h
  refine cF h57 hb58 (xx (sN (sq (Rg (kx (mvO h55) (kx (bAdd rfl rfl) (kx (mvO rfl) (Rn (hA h54 (hN rfl (hA h56 hZ))) fun e62 h64 h65 h66 => sN (sq (sq (Rg (kx (mvO h64) (kx (mvO h66) (kx (ixS rfl rfl hx68 Deal.fl) (kx (faP rfl ⟨ble rfl, blt rfl⟩ rfl) (kx (ldP rfl rfl) (kx (mvO h65) (kx (bNeq rfl rfl) (Rn (hA h64 (hA h65 (hA h66 (hN rfl hZ)))) fun e69 h71 h72 h73 h74 => sN ?_)))))))))))))))))))
  clear h54 h56 h57 h64 h65 h66
  rcases ite_some h with ⟨hb75, h⟩ | ⟨hb75, h⟩
  ·refine cT h74 hb75 (sq (Rg (kx (mvO rfl) (Rn (hV (.int .i64 (-1)) rfl hZ) fun e76 h78 => sN (xx (sR (bR (sR ?_))))))))
   clear h71 h72 h73 h74
   obtain rfl := si h
   exact qR ⟨rfl, h78⟩
  obtain ⟨x84, hx85, h⟩ := bind_some h
  refine cF h74 hb75 (xx (sN (sq (Rg (kx (mvO h72) (kx (bAdd rfl rfl) (kx (mvO rfl) (Rn (hA h71 (hN rfl (hA h73 hZ))) fun e79 h81 h82 h83 => sN (sq (sq (Rg (kx (mvO h81) (kx (mvO h83) (kx (ixS rfl rfl hx85 Deal.fl) (kx (faP rfl ⟨ble rfl, blt rfl⟩ rfl) (kx (ldP rfl rfl) (kx (mvO h82) (kx (bNeq rfl rfl) (Rn (hA h81 (hA h82 (hA h83 (hN rfl hZ)))) fun e86 h88 h89 h90 h91 => sN ?_)))))))))))))))))))
  clear h71 h73 h74 h81 h82 h83
  rcases ite_some h with ⟨hb92, h⟩ | ⟨hb92, h⟩
  ·refine cT h91 hb92 (sq (Rg (kx (mvO rfl) (Rn (hV (.int .i64 (-1)) rfl hZ) fun e93 h95 => sN (xx (sR (bR (sR ?_))))))))
   clear h88 h89 h90 h91
   obtain rfl := si h
   exact qR ⟨rfl, h95⟩
  obtain ⟨x101, hx102, h⟩ := bind_some h
  refine cF h91 hb92 (xx (sN (sq (Rg (kx (mvO h89) (kx (bAdd rfl rfl) (kx (mvO rfl) (Rn (hA h88 (hN rfl (hA h90 hZ))) fun e96 h98 h99 h100 => sN (sq (sq (Rg (kx (mvO h98) (kx (mvO h100) (kx (ixS rfl rfl hx102 Deal.fl) (kx (faP rfl ⟨ble rfl, blt rfl⟩ rfl) (kx (ldP rfl rfl) (kx (mvO h99) (kx (bNeq rfl rfl) (Rn (hA h98 (hA h99 (hA h100 (hN rfl hZ)))) fun e103 h105 h106 h107 h108 => sN ?_)))))))))))))))))))
  clear h88 h90 h91 h100 h98 h99
  rcases ite_some h with ⟨hb109, h⟩ | ⟨hb109, h⟩
  ·refine cT h108 hb109 (sq (Rg (kx (mvO rfl) (Rn (hV (.int .i64 (-1)) rfl hZ) fun e110 h112 => sN (xx (sR (bR (sR ?_))))))))
   clear h105 h106 h107 h108
   obtain rfl := si h
   exact qR ⟨rfl, h112⟩
  obtain ⟨x118, hx119, h⟩ := bind_some h
  refine cF h108 hb109 (xx (sN (sq (Rg (kx (mvO h106) (kx (bAdd rfl rfl) (kx (mvO rfl) (Rn (hA h105 (hN rfl (hA h107 hZ))) fun e113 h115 h116 h117 => sN (sq (sq (Rg (kx (mvO h115) (kx (mvO h117) (kx (ixS rfl rfl hx119 Deal.fl) (kx (faP rfl ⟨ble rfl, blt rfl⟩ rfl) (kx (ldP rfl rfl) (kx (mvO h116) (kx (bNeq rfl rfl) (Rn (hA h115 (hA h116 (hA h117 (hN rfl hZ)))) fun e120 h122 h123 h124 h125 => sN ?_)))))))))))))))))))
  clear h105 h107 h108 h115 h116 h117
  rcases ite_some h with ⟨hb126, h⟩ | ⟨hb126, h⟩
  ·refine cT h125 hb126 (sq (Rg (kx (mvO rfl) (Rn (hV (.int .i64 (-1)) rfl hZ) fun e127 h129 => sN (xx (sR (bR (sR ?_))))))))
   clear h122 h123 h124 h125
   obtain rfl := si h
   exact qR ⟨rfl, h129⟩
  refine cF h125 hb126 (xx (sN (Rg (kx (mvO h123) (kx (bAdd rfl rfl) (kx (mvO rfl) (Rn (hA h122 (hN rfl (hA h124 hZ))) fun e130 h132 h133 h134 => bN (sN (Rg (kx (mvO h134) (kx (bAdd rfl rfl) (kx (mvO rfl) (Rn (hA h132 (hA h133 (hN rfl hZ))) fun e135 h137 h138 h139 => ?_)))))))))))))
  clear h122 h124 h125 h132 h133
  obtain rfl := si h
  exact qN ⟨h137, h138, h139⟩
 refine cF h31 hb32 (xx (sE ?_))
 obtain rfl := si h
 exact qE ⟨rfl, h29⟩
noncomputable def laws_heldDealS (a1 : List Deal) (a2 : Int) : Option Int :=
 (Lw (laws_heldDealS_b1 a1) (a2, 0)).bind fun r => match r with
 | (.inl _) =>
  some (-1)
 | (.inr y148) =>
  some y148
def laws_heldDealS_enc (r : Int) : AV := .int .i64 r
theorem laws_heldDealS_ok (a1 : List Deal) (a2 : Int) (r : Int) (h : laws_heldDealS a1 a2 = some r) : Ev (fun k => CN k 36 [.sl none (a1.map Deal.c), .int .i64 a2] []) (fun p => rRes p.2 p.1 = laws_heldDealS_enc r) := by
 unfold laws_heldDealS at h
 obtain ⟨r140, hr141, h⟩ := bind_some h
 refine Ev.enter (F := fun k => f36 (CN k) k) (fun k => callN_eq rfl Tryd.func36 rfl rfl rfl (by decide +kernel) (f36_eq _ _)) (sq (Rg (kx (mvO rfl) (Rn (hN rfl (hN rfl hZ)) fun e1 h3 h4 => sN (sq (sq (Rg (kx (mvO rfl) (Rn (hA h3 (hA h4 (hV (.int .i64 0) rfl hZ))) fun e5 h7 h8 h9 => sN (bl ?_))))))))))
 clear h3 h4
 rcases r140 with _ | y148
 ·refine Ev.loop (RS := laws_heldDealS_b1_RS a1) (RR := laws_heldDealS_b1_RR a1) (fun s r h e M hs => laws_heldDealS_b1_ok a1 s r h e M hs) hr141 ⟨h7, h8, h9⟩ fun x e143 M144 hq142 => ?_
  obtain ⟨rfl, h145⟩ := hq142
  refine bR (sR ?_)
  obtain rfl := si h
  exact eR (resT h145 res0) rfl
 refine Ev.loop (RS := laws_heldDealS_b1_RS a1) (RR := laws_heldDealS_b1_RR a1) (fun s r h e M hs => laws_heldDealS_b1_ok a1 s r h e M hs) hr141 ⟨h7, h8, h9⟩ fun x e146 M147 hq142 => ?_
 obtain ⟨rfl, h149⟩ := hq142
 refine bE (sN (sq (Rg (kx (mvO h149) (kx (mvO rfl) (Rn (hN rfl hZ) fun e150 h152 => sN (xx ?_)))))))
 clear h149
 obtain rfl := si h
 exact eR (resT h152 res0) rfl
/-! ### loop.example/g01263/laws.eqDealS (f34) -/
abbrev laws_eqDealS_b1_S := Int
abbrev laws_eqDealS_b1_R := Unit ⊕ Unit
def laws_eqDealS_b1_RS (a1 : List Deal) (a2 : List Deal) (s : laws_eqDealS_b1_S) (e : Env) (M : Mem) : Prop := eget e 0 = .sl none (a1.map Deal.c) ∧ eget e 1 = .sl none (a2.map Deal.c) ∧ eget e 5 = .int .i64 s
def laws_eqDealS_b1_RR (a1 : List Deal) (a2 : List Deal) (r : laws_eqDealS_b1_R) (x : Ex) (e : Env) (M : Mem) : Prop :=
  match r with
  | (.inl g) => x = .ret ∧ eget e 4 = .bool false
  | (.inr g) => x = .ext 0 ∧ True
noncomputable def laws_eqDealS_b1 (a1 : List Deal) (a2 : List Deal) : laws_eqDealS_b1_S → Option (laws_eqDealS_b1_S ⊕ laws_eqDealS_b1_R) := fun s1_1 =>
 if (decide (s1_1 < (a1.length : Int))) = true then
  (rd a1 s1_1).bind fun x42 =>
  (rd a2 s1_1).bind fun x44 =>
  (laws_eqDeal x42 x44).bind fun r47 =>
  if r47 = true then
   some (.inl (IntKind.i64.wrap (s1_1 + 1)))
  else
   some (.inr (.inl ()))
 else
  some (.inr (.inr ()))
theorem laws_eqDealS_b1_ok (a1 : List Deal) (a2 : List Deal) (s : laws_eqDealS_b1_S) (r : laws_eqDealS_b1_S ⊕ laws_eqDealS_b1_R) (h : laws_eqDealS_b1 a1 a2 s = some r) (e : Env) (M : Mem) (hs : laws_eqDealS_b1_RS a1 a2 s e M) : Ev (fun k => (f34_l4 (CN k) k (prune [0, 1, 5] e) M).bind fun q => some q) (bQ (laws_eqDealS_b1_RS a1 a2) (laws_eqDealS_b1_RR a1 a2) r) := by
 revert h hs
 revert s
 intro s1_1 h hs
 unfold laws_eqDealS_b1 at h
 obtain ⟨h29, h31, h33⟩ := hs
 generalize he28 : prune [0, 1, 5] e = e27
 have h30 := envp he28.symm rfl h29
 have h32 := envp he28.symm rfl h31
 have h34 := envp he28.symm rfl h33
 refine sq (sq (Rg (kx (mvO h34) (kx (mvO h30) (kx (lnS Tryd.underlying71 rfl) (kx (bLss rfl rfl) (Rn (hV (.sl none (a1.map Deal.c)) h30 (hV (.sl none (a2.map Deal.c)) h32 (hV (.int .i64 s1_1) h34 (hN rfl hZ)))) fun e35 h37 h38 h39 h40 => sN ?_)))))))
 clear h30 h32 h34
 rcases ite_some h with ⟨hb41, h⟩ | ⟨hb41, h⟩
 ·obtain ⟨x42, hx43, h⟩ := bind_some h
  obtain ⟨x44, hx45, h⟩ := bind_some h
  obtain ⟨r47, hx46, h⟩ := bind_some h
  refine cT h40 hb41 (xx (sN (sq (bl (sq (Rd (kf (mvO h37) (kf (mvO h39) (kf (ixS rfl rfl hx43 Deal.fl) (kf (ldPA rfl rfl rfl) (kf (mvO h38) (kf (mvO h39) (kf (ixS rfl rfl hx45 Deal.fl) (kf (ldPA rfl rfl rfl) (fc (cl (v := .bool r47) rfl (cns rfl (cns rfl rfl)) rfl (laws_eqDeal_ok x42 x44 _ hx46) nm) (kf (uNot rfl) (fZ (Rn (hA h37 (hA h38 (hA h39 (hN rfl hZ)))) fun e48 h50 h51 h52 h53 => sN ?_))))))))))))))))))
  clear h37 h38 h39 h40
  rcases ite_some h with ⟨hb54, h⟩ | ⟨hb54, h⟩
  ·refine cF h53 (congrArg Bool.not hb54) (xx (bN (sN (Rg (kx (mvO h52) (kx (bAdd rfl rfl) (kx (mvO rfl) (Rn (hA h50 (hA h51 (hN rfl hZ))) fun e55 h57 h58 h59 => ?_))))))))
   clear h50 h51 h53
   obtain rfl := si h
   exact qN ⟨h57, h58, h59⟩
  refine cT h53 (congrArg Bool.not hb54) (sq (Rg (kx (mvO rfl) (Rn (hV (.bool false) rfl hZ) fun e60 h62 => sN (xx (bR (sR ?_)))))))
  clear h50 h51 h52 h53
  obtain rfl := si h
  exact qR ⟨rfl, h62⟩
 refine cF h40 hb41 (xx (sE ?_))
 obtain rfl := si h
 exact qE ⟨rfl, trivial⟩
noncomputable def laws_eqDealS (a1 : List Deal) (a2 : List Deal) : Option Bool :=
 if ((a1.length : Int) != (a2.length : Int)) = true then
  some false
 else
  (Lw (laws_eqDealS_b1 a1 a2) 0).bind fun r => match r with
  | (.inl _) =>
   some false
  | (.inr _) =>
   some true
def laws_eqDealS_enc (r : Bool) : AV := .bool r
theorem laws_eqDealS_ok (a1 : List Deal) (a2 : List Deal) (r : Bool) (h : laws_eqDealS a1 a2 = some r) : Ev (fun k => CN k 34 [.sl none (a1.map Deal.c), .sl none (a2.map Deal.c)] []) (fun p => rRes p.2 p.1 = laws_eqDealS_enc r) := by
 unfold laws_eqDealS at h
 refine Ev.enter (F := fun k => f34 (CN k) k) (fun k => callN_eq rfl Tryd.func34 rfl rfl rfl (by decide +kernel) (f34_eq _ _)) (sq (Rg (kx (mvO rfl) (Rn (hN rfl (hN rfl hZ)) fun e1 h3 h4 => sN (sq (sq (Rg (kx (mvO h3) (kx (lnS Tryd.underlying71 rfl) (kx (mvO h4) (kx (lnS Tryd.underlying71 rfl) (kx (bNeq rfl rfl) (Rn (hA h3 (hA h4 (hN rfl hZ))) fun e5 h7 h8 h9 => sN ?_)))))))))))))
 clear h3 h4
 rcases ite_some h with ⟨hb10, h⟩ | ⟨hb10, h⟩
 ·refine cT h9 hb10 (sq (Rg (kx (mvO rfl) (Rn (hV (.bool false) rfl hZ) fun e11 h13 => sN (xx (sR ?_))))))
  clear h7 h8 h9
  obtain rfl := si h
  exact eR (resT h13 res0) rfl
 obtain ⟨r63, hr64, h⟩ := bind_some h
 refine cF h9 hb10 (xx (sN (sq (sq (Rg (kx (mvO rfl) (Rn (hA h7 (hA h8 (hV (.int .i64 0) rfl hZ))) fun e14 h16 h17 h18 => sN (bl ?_))))))))
 clear h7 h8 h9
 rcases r63 with _ | _
 ·refine Ev.loop (RS := laws_eqDealS_b1_RS a1 a2) (RR := laws_eqDealS_b1_RR a1 a2) (fun s r h e M hs => laws_eqDealS_b1_ok a1 a2 s r h e M hs) hr64 ⟨h16, h17, h18⟩ fun x e66 M67 hq65 => ?_
  obtain ⟨rfl, h68⟩ := hq65
  refine bR (sR ?_)
  obtain rfl := si h
  exact eR (resT h68 res0) rfl
 refine Ev.loop (RS := laws_eqDealS_b1_RS a1 a2) (RR := laws_eqDealS_b1_RR a1 a2) (fun s r h e M hs => laws_eqDealS_b1_ok a1 a2 s r h e M hs) hr64 ⟨h16, h17, h18⟩ fun x e69 M70 hq65 => ?_
 obtain ⟨rfl, _⟩ := hq65
 refine bE (sN (sq (Rg (kx (mvO rfl) (Rn (hV (.bool true) rfl hZ) fun e71 h73 => sN (xx ?_))))))
 obtain rfl := si h
 exact eR (resT h73 res0) rfl
/-! ### loop.example/g01263/impl.ReadDeals (f33) -/
abbrev impl_ReadDeals_b1_S := Int
abbrev impl_ReadDeals_b1_R := Unit
def impl_ReadDeals_b1_RS (i1_1 : Nat) (s : impl_ReadDeals_b1_S) (e : Env) (M : Mem) : Prop := eget e 6 = .lsl i1_1 ([] : List Deal).length 0 ([] : List Deal).length ∧ eget e 24 = .nils ∧ eget e 25 = .int .i64 0 ∧ eget e 26 = .int .i64 s ∧ M[i1_1]? = some (.live ⟨.grow, 126, 6, ([] : List Deal).map Deal.c⟩)
def impl_ReadDeals_b1_RR (i1_1 : Nat) (g : impl_ReadDeals_b1_R) (x : Ex) (e : Env) (M : Mem) : Prop := x = .ext 0 ∧ eget e 6 = .lsl i1_1 ([] : List Deal).length 0 ([] : List Deal).length ∧ M[i1_1]? = some (.live ⟨.grow, 126, 6, ([] : List Deal).map Deal.c⟩)
noncomputable def impl_ReadDeals_b1 : impl_ReadDeals_b1_S → Option (impl_ReadDeals_b1_S ⊕ impl_ReadDeals_b1_R) := fun s1_1 =>
 if (decide (s1_1 < 0)) = true then
  none
 else
  some (.inr ())
theorem impl_ReadDeals_b1_ok (i1_1 : Nat) (s : impl_ReadDeals_b1_S) (r : impl_ReadDeals_b1_S ⊕ impl_ReadDeals_b1_R) (h : impl_ReadDeals_b1 s = some r) (e : Env) (M : Mem) (hs : impl_ReadDeals_b1_RS i1_1 s e M) : Ev (fun k => (f33_l6 (CN k) k (prune [6, 24, 25, 26] e) M).bind fun q => some q) (bQ (impl_ReadDeals_b1_RS i1_1) (impl_ReadDeals_b1_RR i1_1) r) := by
 revert h hs
 revert s
 intro s1_1 h hs
 unfold impl_ReadDeals_b1 at h
 obtain ⟨h40, h42, h44, h46, o48⟩ := hs
 generalize he39 : prune [6, 24, 25, 26] e = e38
 have h41 := envp he39.symm rfl h40
 have h43 := envp he39.symm rfl h42
 have h45 := envp he39.symm rfl h44
 have h47 := envp he39.symm rfl h46
 refine sq (Rg (kx (bLss h47 h45) (Rn (hV (.lsl i1_1 ([] : List Deal).length 0 ([] : List Deal).length) h41 (hV .nils h43 (hV (.int .i64 0) h45 (hV (.int .i64 s1_1) h47 (hN rfl hZ))))) fun e49 h51 h52 h53 h54 h55 => sN (sq ?_))))
 clear h41 h43 h45 h47
 rcases ite_some h with ⟨hb56, h⟩ | ⟨hb56, h⟩
 ·refine cT h55 hb56 (xx (sN (sq (bl (sq (Rg ?_))))))
  cases h
 refine cF h55 hb56 (xx (sE ?_))
 obtain rfl := si h
 exact qE ⟨rfl, h51, o48⟩
abbrev impl_ReadDeals_b2_S := Int × (List Deal)
abbrev impl_ReadDeals_b2_R := Unit ⊕ ((List Deal))
def impl_ReadDeals_b2_RS (r68 : List (List UInt8)) (i2_1 : Nat) (s : impl_ReadDeals_b2_S) (e : Env) (M : Mem) : Prop := eget e 6 = .lsl i2_1 s.2.length 0 s.2.length ∧ eget e 24 = .sl none (r68.map cS) ∧ eget e 25 = .int .i64 (r68.length : Int) ∧ eget e 26 = .int .i64 s.1 ∧ M[i2_1]? = some (.live ⟨.grow, 126, 6, s.2.map Deal.c⟩)
def impl_ReadDeals_b2_RR (r68 : List (List UInt8)) (i2_1 : Nat) (r : impl_ReadDeals_b2_R) (x : Ex) (e : Env) (M : Mem) : Prop :=
  match r with
  | (.inl g) => x = .ret ∧ eget e 2 = .nils ∧ eget e 3 = .int .i64 5
  | (.inr g) => x = .ext 0 ∧ eget e 6 = .lsl i2_1 g.length 0 g.length ∧ M[i2_1]? = some (.live ⟨.grow, 126, 6, g.map Deal.c⟩)
noncomputable def impl_ReadDeals_b2 (r68 : List (List UInt8)) : impl_ReadDeals_b2_S → Option (impl_ReadDeals_b2_S ⊕ impl_ReadDeals_b2_R) := fun (s2_1, s2_2) =>
 if (decide (s2_1 < (r68.length : Int))) = true then
  (rd r68 s2_1).bind fun x128 =>
  (impl_readDeal x128).bind fun (r138, r139, r140, r141, r142, r143, r144) =>
  if r144 = true then
   (app 48 s2_2 [(Deal.mk r138 r139 r140 r141 r142 r143)]).bind fun x172 =>
   some (.inl ((IntKind.i64.wrap (s2_1 + 1)), x172))
  else
   some (.inr (.inl ()))
 else
  some (.inr (.inr s2_2))
theorem impl_ReadDeals_b2_ok (r68 : List (List UInt8)) (i2_1 : Nat) (s : impl_ReadDeals_b2_S) (r : impl_ReadDeals_b2_S ⊕ impl_ReadDeals_b2_R) (h : impl_ReadDeals_b2 r68 s = some r) (e : Env) (M : Mem) (hs : impl_ReadDeals_b2_RS r68 i2_1 s e M) : Ev (fun k => (f33_l6 (CN k) k (prune [6, 24, 25, 26] e) M).bind fun q => some q) (bQ (impl_ReadDeals_b2_RS r68 i2_1) (impl_ReadDeals_b2_RR r68 i2_1) r) := by
 obtain ⟨s2_1, s2_2⟩ := s
 unfold impl_ReadDeals_b2 at h
 obtain ⟨h111, h113, h115, h117, o119⟩ := hs
 generalize he110 : prune [6, 24, 25, 26] e = e109
 have h112 := envp he110.symm rfl h111
 have h114 := envp he110.symm rfl h113
 have h116 := envp he110.symm rfl h115
 have h118 := envp he110.symm rfl h117
 refine sq (Rg (kx (bLss h118 h116) (Rn (hV (.lsl i2_1 s2_2.length 0 s2_2.length) h112 (hV (.sl none (r68.map cS)) h114 (hV (.int .i64 (r68.length : Int)) h116 (hV (.int .i64 s2_1) h118 (hN rfl hZ))))) fun e120 h122 h123 h124 h125 h126 => sN (sq ?_))))
 clear h112 h114 h116 h118
 rcases ite_some h with ⟨hb127, h⟩ | ⟨hb127, h⟩
 ·obtain ⟨x128, hx129, h⟩ := bind_some h
  obtain ⟨⟨r138, r139, r140, r141, r142, r143, r144⟩, hx137, h⟩ := bind_some h
  refine cT h126 hb127 (xx (sN (sq (bl (sq (Rg (kx (ixS h123 h125 hx129 cS_fl) (kx (ldP rfl rfl) (kx (mvO rfl) (Rn (hA h122 (hN rfl (hA h123 (hA h124 (hA h125 hZ))))) fun e130 h132 h133 h134 h135 h136 => sN (sq (Rg (kx (mvO h133) (kc (cl (v := .tup [.agg [.int .i64 r138, .int .i8 r139, .int .i64 r140, .int .i64 r141, .int .i64 r142, .int .i64 r143], .bool r144]) rfl (cns rfl rfl) rfl (impl_readDeal_ok x128 _ hx137) nm) (kx (mvO rfl) (kx (exT rfl rfl) (kx (exT rfl rfl) (ku (alO zero126) fun M146 hM147 => ?_))))))))))))))))))
  clear h122 h123 h124 h125 h126
  have o148 := push_old hM147 o119
  have ne149 := ne_new o119
  have o150 : M146[M.length]? = some (.live ⟨.box, 126, 6, [[.int .i64 0, .int .i8 0, .int .i64 0, .int .i64 0, .int .i64 0, .int .i64 0]]⟩) := push_new hM147
  refine kw (stO rfl rfl o150 rfl rfl ⟨rfl, ble rfl⟩ rfl rfl) fun M151 hM152 => ?_
  have o153 := set_ne hM152 ne149 o148
  have o154 : M151[M.length]? = some (.live ⟨.box, 126, 6, [[.int .i64 r138, .int .i8 r139, .int .i64 r140, .int .i64 r141, .int .i64 r142, .int .i64 r143]]⟩) := set_same hM152 o150
  refine kx (mvO rfl) (Rn (hA h132 (hV (.loc M.length 1 0 0) rfl (hN rfl (hA h134 (hA h135 (hA h136 hZ)))))) fun e155 h157 h158 h159 h160 h161 h162 => sN (sq (sq (Rg (kx (mvO h159) (kx (uNot rfl) (Rn (hA h157 (hA h158 (hA h160 (hA h161 (hA h162 (hN rfl hZ)))))) fun e163 h165 h166 h167 h168 h169 h170 => sN ?_)))))))
  clear h132 h133 h134 h135 h136 h157 h158 h159 h160 h161 h162
  rcases ite_some h with ⟨hb171, h⟩ | ⟨hb171, h⟩
  ·obtain ⟨x172, hx173, h⟩ := bind_some h
   refine cF h170 (congrArg Bool.not hb171) (xx (sN (Rg (kx (mvO h165) (kx (ldOA h166 o154 rfl rfl (ble rfl) rfl) (kx (litI (cns rfl rfl) rfl ⟨rfl, by decide⟩) (kw (apO rfl o153 rfl (elT (c := Deal.c) (xs := [(Deal.mk r138 r139 r140 r141 r142 r143)]) rfl) hx173 Deal.fl (by decide)) fun M174 hM175 => ?_)))))))
   have o176 : M174[i2_1]? = some (.live ⟨.grow, 126, 6, x172.map Deal.c⟩) := set_same hM175 o153
   have o177 := set_ne hM175 (Ne.symm ne149) o154
   refine kx (mvO rfl) (Rn (hV (.lsl i2_1 x172.length 0 x172.length) rfl (hA h167 (hA h168 (hA h169 hZ)))) fun e178 h180 h181 h182 h183 => bN (sN (Rg (kx (bAdd h183 rfl) (kx (mvO rfl) (Rn (hA h180 (hA h181 (hA h182 (hN rfl hZ)))) fun e184 h186 h187 h188 h189 => ?_))))))
   clear h166 h167 h168 h169 h170 h180 h181 h182
   obtain rfl := si h
   exact qN ⟨h186, h187, h188, h189, o176⟩
  refine cT h170 (congrArg Bool.not hb171) (sq (Rg (kx (mvO rfl) (kx (mvO rfl) (Rn (hV .nils rfl (hV (.int .i64 5) rfl hZ)) fun e190 h192 h193 => sN (xx (sR (bR (sR ?_)))))))))
  clear h165 h166 h167 h168 h169 h170
  obtain rfl := si h
  exact qR ⟨rfl, h192, h193⟩
 refine cF h126 hb127 (xx (sE ?_))
 obtain rfl := si h
 exact qE ⟨rfl, h122, o119⟩
noncomputable def impl_ReadDeals (a1 : List UInt8) : Option (((List Deal)) ⊕ Unit) :=
 (impl_linesOf a1).bind fun r => match r with
 | (.inl _) =>
  (Lw (impl_ReadDeals_b1) 0).bind fun _ =>
  some (.inl ([] : List Deal))
 | (.inr (r68, r69)) =>
  if r69 = true then
   if (decide ((r68.length : Int) > 80)) = true then
    some (.inr ())
   else
    (Lw (impl_ReadDeals_b2 r68) (0, ([] : List Deal))).bind fun r => match r with
    | (.inl _) =>
     some (.inr ())
    | (.inr y203) =>
     some (.inl y203)
  else
   some (.inr ())
def impl_ReadDeals_enc (r : ((List Deal)) ⊕ Unit) : AV :=
  match r with
  | (.inl g) => .tup [.sl (some 126) (g.map Deal.c), .int .i64 0]
  | (.inr g) => .tup [.nils, .int .i64 5]
theorem impl_ReadDeals_ok (a1 : List UInt8) (r : ((List Deal)) ⊕ Unit) (h : impl_ReadDeals a1 = some r) : Ev (fun k => CN k 33 [.str a1] []) (fun p => rRes p.2 p.1 = impl_ReadDeals_enc r) := by
 unfold impl_ReadDeals at h
 obtain ⟨q218, hx4, h⟩ := bind_some h
 refine Ev.enter (F := fun k => f33 (CN k) k) (fun k => callN_eq rfl Tryd.func33 rfl rfl rfl (by decide +kernel) (f33_eq _ _)) (sq (Rg (kx (mvO rfl) (kx (mvO rfl) (Rn (hN rfl hZ) fun e1 h3 => sN (sq (Rg (kx (mvO h3) ?_))))))))
 rcases q218 with _ | ⟨r68, r69⟩
 ·refine kc (cl (v := .tup [.nils, .bool true]) rfl (cns rfl rfl) rfl (impl_linesOf_ok a1 _ hx4) nm) (kx (mvO rfl) (kx (exT rfl rfl) (kx (exT rfl rfl) (kx (mvO rfl) (kx (mvO rfl) (Rn (hV .nils rfl (hV (.bool true) rfl hZ)) fun e5 h7 h8 => sN (sq (sq (Rg (kx (mvO h8) (kx (uNot rfl) (kx (mvO rfl) (kx (guF rfl rfl (mvO h7)) (kx (guF rfl rfl (lnN Tryd.underlying86 rfl)) (kx (guF rfl rfl (bGtr rfl rfl)) (kx (pkF rfl rfl rfl) (Rn (hA h7 (hV (.bool false) rfl hZ)) fun e9 h11 h12 => sN (cF h12 rfl (xx (sN (sq (Rg (ku (litO (xs := ([] : List Deal)) (c := Deal.c) rfl rfl (by decide)) fun M14 hM15 => ?_)))))))))))))))))))))))
  clear h3 h7 h8
  have o16 : M14[([] : Mem).length]? = some (.live ⟨.grow, 126, 6, ([] : List Deal).map Deal.c⟩) := push_new hM15
  obtain ⟨r57, hr58, h⟩ := bind_some h
  refine kx (mvO rfl) (Rn (hA h11 (hV (.lsl ([] : Mem).length ([] : List Deal).length 0 ([] : List Deal).length) rfl hZ)) fun e17 h19 h20 => sN (sq (sq (Rg (kx (mvO h19) (kx (lnN Tryd.underlying86 rfl) (kx (mvO rfl) (Rn (hA h20 (hV .nils rfl (hV (.int .i64 0) rfl (hV (.int .i64 0) rfl hZ)))) fun e21 h23 h24 h25 h26 => sN (bl (Ev.loop (RS := impl_ReadDeals_b1_RS (([] : Mem).length)) (RR := impl_ReadDeals_b1_RR (([] : Mem).length)) (fun s r h e M hs => impl_ReadDeals_b1_ok (([] : Mem).length) s r h e M hs) hr58 ⟨h23, h24, h25, h26, o16⟩ fun x e60 M61 hq59 => ?_))))))))))
  clear h11 h12 h19 h20
  obtain ⟨rfl, h62, o63⟩ := hq59
  refine bE (sN (sq (Rg (kx (mvO h62) (kx (mvO rfl) (kx (mvO rfl) (Rn (hV (.lsl ([] : Mem).length ([] : List Deal).length 0 ([] : List Deal).length) rfl (hV (.int .i64 0) rfl hZ)) fun e64 h66 h67 => sN (xx ?_))))))))
  clear h62
  obtain rfl := si h
  exact eR (resT h66 (resT h67 res0)) (rr_tup (mp1 (rr_row o63 rfl Deal.fl) (mp1 rfl mp0)))
 refine kc (cl (v := .tup [.sl none (r68.map cS), .bool r69]) rfl (cns rfl rfl) rfl (impl_linesOf_ok a1 _ hx4) nm) (kx (mvO rfl) (kx (exT rfl rfl) (kx (exT rfl rfl) (kx (mvO rfl) (kx (mvO rfl) (Rn (hN rfl (hN rfl hZ)) fun e70 h72 h73 => sN (sq (sq (Rg (kx (mvO h73) (kx (uNot rfl) (kx (mvO rfl) ?_))))))))))))
 clear h3
 rcases ite_some h with ⟨hb74, h⟩ | ⟨hb74, h⟩
 ·refine kx (guF rfl (congrArg Bool.not hb74) (mvO h72)) (kx (guF rfl (congrArg Bool.not hb74) (lnS Tryd.underlying86 rfl)) (kx (guF rfl (congrArg Bool.not hb74) (bGtr rfl rfl)) (kx (pkF rfl (congrArg Bool.not hb74) rfl) (Rn (hA h72 (hN rfl hZ)) fun e75 h77 h78 => sN ?_))))
  clear h72 h73
  rcases ite_some h with ⟨hb79, h⟩ | ⟨hb79, h⟩
  ·refine cT h78 hb79 (sq (Rg (kx (mvO rfl) (kx (mvO rfl) (Rn (hV .nils rfl (hV (.int .i64 5) rfl hZ)) fun e80 h82 h83 => sN (xx (sR ?_)))))))
   clear h77 h78
   obtain rfl := si h
   exact eR (resT h82 (resT h83 res0)) rfl
  refine cF h78 hb79 (xx (sN (sq (Rg (ku (litO (xs := ([] : List Deal)) (c := Deal.c) rfl rfl (by decide)) fun M85 hM86 => ?_)))))
  have o87 : M85[([] : Mem).length]? = some (.live ⟨.grow, 126, 6, ([] : List Deal).map Deal.c⟩) := push_new hM86
  obtain ⟨r194, hr195, h⟩ := bind_some h
  refine kx (mvO rfl) (Rn (hA h77 (hV (.lsl ([] : Mem).length ([] : List Deal).length 0 ([] : List Deal).length) rfl hZ)) fun e88 h90 h91 => sN (sq (sq (Rg (kx (mvO h90) (kx (lnS Tryd.underlying86 rfl) (kx (mvO rfl) (Rn (hA h91 (hN rfl (hN rfl (hV (.int .i64 0) rfl hZ)))) fun e92 h94 h95 h96 h97 => sN (bl ?_)))))))))
  clear h77 h78 h90 h91
  rcases r194 with _ | y203
  ·refine Ev.loop (RS := impl_ReadDeals_b2_RS r68 (([] : Mem).length)) (RR := impl_ReadDeals_b2_RR r68 (([] : Mem).length)) (fun s r h e M hs => impl_ReadDeals_b2_ok r68 (([] : Mem).length) s r h e M hs) hr195 ⟨h94, h95, h96, h97, o87⟩ fun x e197 M198 hq196 => ?_
   obtain ⟨rfl, h199, h200⟩ := hq196
   refine bR (sR ?_)
   obtain rfl := si h
   exact eR (resT h199 (resT h200 res0)) rfl
  refine Ev.loop (RS := impl_ReadDeals_b2_RS r68 (([] : Mem).length)) (RR := impl_ReadDeals_b2_RR r68 (([] : Mem).length)) (fun s r h e M hs => impl_ReadDeals_b2_ok r68 (([] : Mem).length) s r h e M hs) hr195 ⟨h94, h95, h96, h97, o87⟩ fun x e201 M202 hq196 => ?_
  obtain ⟨rfl, h204, o205⟩ := hq196
  refine bE (sN (sq (Rg (kx (mvO h204) (kx (mvO rfl) (kx (mvO rfl) (Rn (hV (.lsl ([] : Mem).length y203.length 0 y203.length) rfl (hV (.int .i64 0) rfl hZ)) fun e206 h208 h209 => sN (xx ?_))))))))
  clear h204
  obtain rfl := si h
  exact eR (resT h208 (resT h209 res0)) (rr_tup (mp1 (rr_row o205 rfl Deal.fl) (mp1 rfl mp0)))
 refine kx (gsF rfl (congrArg Bool.not hb74)) (kx (gsF rfl (congrArg Bool.not hb74)) (kx (gsF rfl (congrArg Bool.not hb74)) (kx (pkT rfl (congrArg Bool.not hb74) rfl) (Rn (hA h72 (hV (.bool true) rfl hZ)) fun e210 h212 h213 => sN (cT h213 rfl (sq (Rg (kx (mvO rfl) (kx (mvO rfl) (Rn (hV .nils rfl (hV (.int .i64 5) rfl hZ)) fun e214 h216 h217 => sN (xx (sR ?_))))))))))))
 clear h72 h73 h212 h213
 obtain rfl := si h
 exact eR (resT h216 (resT h217 res0)) rfl
/-! ### loop.example/g01263/spec.ReadDeals (f32) -/
def spec_ReadDeals_c1_Q (r5 : List (List UInt8)) (i901_1 : Nat) (g : Bool) (q : Out) : Prop := q.1 = .nrm ∧ eget q.2.1 4 = .sl (some 9) (r5.map cS) ∧ eget q.2.1 5 = .lsl i901_1 ([] : List Deal).length 0 ([] : List Deal).length ∧ eget q.2.1 6 = .bool g ∧ q.2.2[i901_1]? = some (.live ⟨.grow, 126, 6, ([] : List Deal).map Deal.c⟩)
def spec_ReadDeals_c4_Q (r5 : List (List UInt8)) (s1_1 : Bool) (s1_2 : Int) (s1_3 : List Deal) (i1_1 : Nat) (r : Unit ⊕ Bool) (q : Out) : Prop :=
  match r with
  | (.inl g) => q.1 = .nrm ∧ eget q.2.1 4 = .sl (some 9) (r5.map cS) ∧ eget q.2.1 5 = .lsl i1_1 s1_3.length 0 s1_3.length ∧ eget q.2.1 6 = .bool s1_1 ∧ eget q.2.1 7 = .int .i64 s1_2 ∧ eget q.2.1 33 = .bool s1_1 ∧ q.2.2[i1_1]? = some (.live ⟨.grow, 126, 6, s1_3.map Deal.c⟩)
  | (.inr g) => q.1 = (.ext 0) ∧ eget q.2.1 4 = .sl (some 9) (r5.map cS) ∧ eget q.2.1 5 = .lsl i1_1 s1_3.length 0 s1_3.length ∧ eget q.2.1 6 = .bool s1_1 ∧ eget q.2.1 7 = .int .i64 s1_2 ∧ eget q.2.1 33 = .bool g ∧ q.2.2[i1_1]? = some (.live ⟨.grow, 126, 6, s1_3.map Deal.c⟩)
abbrev spec_ReadDeals_b1_S := Bool × Int × (List Deal)
abbrev spec_ReadDeals_b1_R := Bool × (List Deal)
def spec_ReadDeals_b1_RS (r5 : List (List UInt8)) (i1_1 : Nat) (s : spec_ReadDeals_b1_S) (e : Env) (M : Mem) : Prop := eget e 4 = .sl (some 9) (r5.map cS) ∧ eget e 5 = .lsl i1_1 s.2.2.length 0 s.2.2.length ∧ eget e 6 = .bool s.1 ∧ eget e 7 = .int .i64 s.2.1 ∧ M[i1_1]? = some (.live ⟨.grow, 126, 6, s.2.2.map Deal.c⟩)
def spec_ReadDeals_b1_RR (r5 : List (List UInt8)) (i1_1 : Nat) (g : spec_ReadDeals_b1_R) (x : Ex) (e : Env) (M : Mem) : Prop := x = .ext 0 ∧ eget e 5 = .lsl i1_1 g.2.length 0 g.2.length ∧ eget e 6 = .bool g.1 ∧ M[i1_1]? = some (.live ⟨.grow, 126, 6, g.2.map Deal.c⟩)
noncomputable def spec_ReadDeals_b1 (r5 : List (List UInt8)) : spec_ReadDeals_b1_S → Option (spec_ReadDeals_b1_S ⊕ spec_ReadDeals_b1_R) := fun (s1_1, s1_2, s1_3) =>
 ((if (decide ((IntKind.i64.wrap (s1_2 + 1)) < (r5.length : Int))) = true then
  if s1_1 = true then
   some (.inl ())
  else
   some (.inr s1_1)
 else
  some (.inr false) : Option (Unit ⊕ Bool))).bind fun r => match r with
 | (.inl _) =>
  (rd r5 s1_2).bind fun x89 =>
  (spec_l07Read x89).bind fun (r92, r93, r94, r95, r96, r97, r98) =>
  (app 48 s1_3 [(Deal.mk r92 r93 r94 r95 r96 r97)]).bind fun x123 =>
  some (.inl (r98, (IntKind.i64.wrap (s1_2 + 1)), x123))
 | (.inr y144) =>
  some (.inr (s1_1, s1_3))
theorem spec_ReadDeals_b1_ok (r5 : List (List UInt8)) (i1_1 : Nat) (s : spec_ReadDeals_b1_S) (r : spec_ReadDeals_b1_S ⊕ spec_ReadDeals_b1_R) (h : spec_ReadDeals_b1 r5 s = some r) (e : Env) (M : Mem) (hs : spec_ReadDeals_b1_RS r5 i1_1 s e M) : Ev (fun k => (f32_l5 (CN k) k (prune [4, 5, 6, 7] e) M).bind fun q => some q) (bQ (spec_ReadDeals_b1_RS r5 i1_1) (spec_ReadDeals_b1_RR r5 i1_1) r) := by
 obtain ⟨s1_1, s1_2, s1_3⟩ := s
 unfold spec_ReadDeals_b1 at h
 obtain ⟨h56, h58, h60, h62, o64⟩ := hs
 generalize he55 : prune [4, 5, 6, 7] e = e54
 have h57 := envp he55.symm rfl h56
 have h59 := envp he55.symm rfl h58
 have h61 := envp he55.symm rfl h60
 have h63 := envp he55.symm rfl h62
 obtain ⟨r152, hr153, h⟩ := bind_some h
 refine sq ?_
 refine Ev.cut (Q1 := spec_ReadDeals_c4_Q r5 s1_1 s1_2 s1_3 i1_1 r152) (by
     have h := hr153
     refine sq (Rg (kx (mvO h63) (kx (bAdd rfl rfl) (kx (mvO h57) (kx (lnS Tryd.underlying86 rfl) (kx (bLss rfl rfl) (kx (mvO rfl) ?_)))))))
     rcases ite_some h with ⟨hb65, h⟩ | ⟨hb65, h⟩
     ·refine kx (guT rfl hb65 (mvO h61)) (kx (pkT rfl hb65 rfl) (Rn (hA h57 (hV (.lsl i1_1 s1_3.length 0 s1_3.length) h59 (hV (.bool s1_1) h61 (hV (.int .i64 s1_2) h63 (hN rfl hZ))))) fun e66 h68 h69 h70 h71 h72 => sN ?_))
      clear h57 h59 h61 h63
      rcases ite_some h with ⟨hb73, h⟩ | ⟨hb73, h⟩
      ·refine cT h72 hb73 (xx ?_)
       obtain rfl := si h
       exact kd (show spec_ReadDeals_c4_Q r5 s1_1 s1_2 s1_3 i1_1 _ _ from ⟨rfl, h68, h69, h70, h71, h72, o64⟩)
      refine cF h72 hb73 (xx ?_)
      obtain rfl := si h
      exact kd (show spec_ReadDeals_c4_Q r5 s1_1 s1_2 s1_3 i1_1 _ _ from ⟨rfl, h68, h69, h70, h71, h72, o64⟩)
     refine kx (gsT rfl hb65) (kx (pkF rfl hb65 rfl) (Rn (hA h57 (hV (.lsl i1_1 s1_3.length 0 s1_3.length) h59 (hV (.bool s1_1) h61 (hV (.int .i64 s1_2) h63 (hV (.bool false) rfl hZ))))) fun e74 h76 h77 h78 h79 h80 => sN (cF h80 rfl (xx ?_))))
     clear h57 h59 h61 h63
     obtain rfl := si h
     exact kd (show spec_ReadDeals_c4_Q r5 s1_1 s1_2 s1_3 i1_1 _ _ from ⟨rfl, h76, h77, h78, h79, h80, o64⟩)) ?_
 rcases r152 with _ | y144
 ·intro x e81 M82 hq141
  obtain ⟨rfl, h83, h84, h85, h86, h87, o88⟩ := hq141
  obtain ⟨x89, hx90, h⟩ := bind_some h
  obtain ⟨⟨r92, r93, r94, r95, r96, r97, r98⟩, hx91, h⟩ := bind_some h
  refine sN (sq (bl (sq (Rg (kx (mvO h83) (kx (mvO h86) (kx (ixS rfl rfl hx90 cS_fl) (kx (ldP rfl rfl) (kc (cl (v := .tup [.agg [.int .i64 r92, .int .i8 r93, .int .i64 r94, .int .i64 r95, .int .i64 r96, .int .i64 r97], .bool r98]) rfl (cns rfl rfl) rfl (spec_l07Read_ok x89 _ hx91) nm) (kx (mvO rfl) (kx (exT rfl rfl) (kx (exT rfl rfl) (ku (alO zero126) fun M100 hM101 => ?_)))))))))))))
  have o102 := push_old hM101 o88
  have ne103 := ne_new o88
  have o104 : M100[M82.length]? = some (.live ⟨.box, 126, 6, [[.int .i64 0, .int .i8 0, .int .i64 0, .int .i64 0, .int .i64 0, .int .i64 0]]⟩) := push_new hM101
  refine kw (stO rfl rfl o104 rfl rfl ⟨rfl, ble rfl⟩ rfl rfl) fun M105 hM106 => ?_
  have o107 := set_ne hM106 ne103 o102
  have o108 : M105[M82.length]? = some (.live ⟨.box, 126, 6, [[.int .i64 r92, .int .i8 r93, .int .i64 r94, .int .i64 r95, .int .i64 r96, .int .i64 r97]]⟩) := set_same hM106 o104
  obtain ⟨x123, hx124, h⟩ := bind_some h
  refine kx (mvO rfl) (Rn (hV (.sl (some 9) (r5.map cS)) h83 (hV (.lsl i1_1 s1_3.length 0 s1_3.length) h84 (hV (.int .i64 s1_2) h86 (hV (.loc M82.length 1 0 0) rfl (hN rfl hZ))))) fun e109 h111 h112 h113 h114 h115 => sN (sq (Rg (kx (mvO h115) (kx (mvO rfl) (Rn (hA h111 (hA h112 (hN rfl (hA h113 (hA h114 hZ))))) fun e116 h118 h119 h120 h121 h122 => sN (Rg (kx (mvO h119) (kx (ldOA h122 o108 rfl rfl (ble rfl) rfl) (kx (litI (cns rfl rfl) rfl ⟨rfl, by decide⟩) (kw (apO rfl o107 rfl (elT (c := Deal.c) (xs := [(Deal.mk r92 r93 r94 r95 r96 r97)]) rfl) hx124 Deal.fl (by decide)) fun M125 hM126 => ?_)))))))))))
  clear h83 h84 h85 h86 h87 h111 h112 h113 h114 h115
  have o127 : M125[i1_1]? = some (.live ⟨.grow, 126, 6, x123.map Deal.c⟩) := set_same hM126 o107
  have o128 := set_ne hM126 (Ne.symm ne103) o108
  refine kx (mvO rfl) (Rn (hA h118 (hV (.lsl i1_1 x123.length 0 x123.length) rfl (hA h120 (hA h121 hZ)))) fun e129 h131 h132 h133 h134 => bN (sN (Rg (kx (mvO h134) (kx (bAdd rfl rfl) (kx (mvO rfl) (Rn (hA h131 (hA h132 (hA h133 (hN rfl hZ)))) fun e135 h137 h138 h139 h140 => ?_)))))))
  clear h118 h120 h121 h122 h131 h132 h133
  obtain rfl := si h
  exact qN ⟨h137, h138, h139, h140, o127⟩
 intro x e142 M143 hq151
 obtain ⟨rfl, h145, h146, h147, h148, h149, o150⟩ := hq151
 refine sE ?_
 obtain rfl := si h
 exact qE ⟨rfl, h146, h147, o150⟩
noncomputable def spec_ReadDeals (a1 : List UInt8) : Option ((List Deal) × Int) :=
 (spec_l01Split a1 10).bind fun r5 =>
 ((rd r5 (IntKind.i64.wrap ((r5.length : Int) - 1))).bind fun x17 =>
 if (x17 == ([] : List UInt8)) = true then
  some (decide ((IntKind.i64.wrap ((r5.length : Int) - 1)) ≤ 80))
 else
  some false).bind fun y32 =>
 (Lw (spec_ReadDeals_b1 r5) (y32, 0, ([] : List Deal))).bind fun (y159, y160) =>
 if y159 = true then
  some (y160, 0)
 else
  some (([] : List Deal), 5)
def spec_ReadDeals_enc (r : (List Deal) × Int) : AV := .tup [.sl (some 126) (r.1.map Deal.c), .int .i64 r.2]
theorem spec_ReadDeals_ok (a1 : List UInt8) (r : (List Deal) × Int) (h : spec_ReadDeals a1 = some r) : Ev (fun k => CN k 32 [.str a1] []) (fun p => rRes p.2 p.1 = spec_ReadDeals_enc r) := by
 unfold spec_ReadDeals at h
 obtain ⟨r5, hx4, h⟩ := bind_some h
 refine Ev.enter (F := fun k => f32 (CN k) k) (fun k => callN_eq rfl Tryd.func32 rfl rfl rfl (by decide +kernel) (f32_eq _ _)) (sq (Rg (kx (mvO rfl) (kx (mvO rfl) (Rn (hN rfl hZ) fun e1 h3 => sN (sq (Rg (kx (mvO h3) (kc (cl (v := .sl (some 9) (r5.map cS)) rfl (cns rfl (cns rfl rfl)) rfl (spec_l01Split_ok a1 10 _ hx4) nm) (kx (mvO rfl) (Rn (hN rfl hZ) fun e6 h8 => sN (sq (Rg (ku (litO (xs := ([] : List Deal)) (c := Deal.c) rfl rfl (by decide)) fun M10 hM11 => ?_))))))))))))))
 clear h3
 have o12 : M10[([] : Mem).length]? = some (.live ⟨.grow, 126, 6, ([] : List Deal).map Deal.c⟩) := push_new hM11
 obtain ⟨r178, hr179, h⟩ := bind_some h
 refine kx (mvO rfl) (Rn (hA h8 (hV (.lsl ([] : Mem).length ([] : List Deal).length 0 ([] : List Deal).length) rfl hZ)) fun e13 h15 h16 => sN (sq ?_))
 clear h8
 refine Ev.cut (Q1 := spec_ReadDeals_c1_Q r5 (([] : Mem).length) r178) (by
     have h := hr179
     obtain ⟨x17, hx18, h⟩ := bind_some h
     refine Rg (kx (mvO h15) (kx (mvO h15) (kx (lnS Tryd.underlying86 rfl) (kx (bSub rfl rfl) (kx (ixS rfl rfl hx18 cS_fl) (kx (ldP rfl rfl) (kx (sEql rfl rfl) (kx (mvO rfl) ?_))))))))
     rcases ite_some h with ⟨hb19, h⟩ | ⟨hb19, h⟩
     ·refine kx (guT rfl hb19 (mvO h15)) (kx (guT rfl hb19 (lnS Tryd.underlying86 rfl)) (kx (guT rfl hb19 (bSub rfl rfl)) (kx (guT rfl hb19 (bLeq rfl rfl)) (kx (pkT rfl hb19 rfl) (kx (mvO rfl) (Rn (hA h15 (hA h16 (hN rfl hZ))) fun e20 h22 h23 h24 => ?_))))))
      clear h15 h16
      obtain rfl := si h
      exact kd (show spec_ReadDeals_c1_Q r5 (([] : Mem).length) _ _ from ⟨rfl, h22, h23, h24, o12⟩)
     refine kx (gsT rfl hb19) (kx (gsT rfl hb19) (kx (gsT rfl hb19) (kx (gsT rfl hb19) (kx (pkF rfl hb19 rfl) (kx (mvO rfl) (Rn (hA h15 (hA h16 (hV (.bool false) rfl hZ))) fun e25 h27 h28 h29 => ?_))))))
     clear h15 h16
     obtain rfl := si h
     exact kd (show spec_ReadDeals_c1_Q r5 (([] : Mem).length) _ _ from ⟨rfl, h27, h28, h29, o12⟩)) ?_
 revert h hr179
 revert r178
 intro y32 hr179 h
 intro x e30 M31 hq177
 obtain ⟨rfl, h33, h34, h35, o36⟩ := hq177
 obtain ⟨⟨y159, y160⟩, hr155, h⟩ := bind_some h
 refine sN (sq (sq (Rg (kx (mvO rfl) (Rn (hV (.sl (some 9) (r5.map cS)) h33 (hV (.lsl ([] : Mem).length ([] : List Deal).length 0 ([] : List Deal).length) h34 (hV (.bool y32) h35 (hV (.int .i64 0) rfl hZ)))) fun e37 h39 h40 h41 h42 => sN (bl (Ev.loop (RS := spec_ReadDeals_b1_RS r5 (([] : Mem).length)) (RR := spec_ReadDeals_b1_RR r5 (([] : Mem).length)) (fun s r h e M hs => spec_ReadDeals_b1_ok r5 (([] : Mem).length) s r h e M hs) hr155 ⟨h39, h40, h41, h42, o36⟩ fun x e157 M158 hq156 => ?_)))))))
 clear h33 h34 h35
 obtain ⟨rfl, h161, h162, o163⟩ := hq156
 refine bE (sN (sq (sq (Rg (kx (mvO h162) (kx (uNot rfl) (Rn (hV (.lsl ([] : Mem).length y160.length 0 y160.length) h161 (hN rfl hZ)) fun e164 h166 h167 => sN ?_)))))))
 clear h161 h162
 rcases ite_some h with ⟨hb168, h⟩ | ⟨hb168, h⟩
 ·refine cF h167 (congrArg Bool.not hb168) (xx (sN (sq (Rg (kx (mvO h166) (kx (mvO rfl) (kx (mvO rfl) (Rn (hV (.lsl ([] : Mem).length y160.length 0 y160.length) rfl (hV (.int .i64 0) rfl hZ)) fun e169 h171 h172 => sN (xx ?_)))))))))
  clear h166 h167
  obtain rfl := si h
  exact eR (resT h171 (resT h172 res0)) (rr_tup (mp1 (rr_row o163 rfl Deal.fl) (mp1 rfl mp0)))
 refine cT h167 (congrArg Bool.not hb168) (sq (Rg (kx (litI rfl rfl ⟨rfl, by decide⟩) (kx (mvO rfl) (kx (mvO rfl) (Rn (hN rfl (hV (.int .i64 5) rfl hZ)) fun e173 h175 h176 => sN (xx (sR ?_))))))))
 clear h166 h167
 obtain rfl := si h
 exact eR (resT h175 (resT h176 res0)) rfl
/-! ### loop.example/g01263/laws.markDealS (f35) -/
abbrev laws_markDealS_l_b1_S := Int × Int × (List Deal)
abbrev laws_markDealS_l_b1_R := Int × (List Deal)
def laws_markDealS_l_b1_RS (a1 : List Deal) (j1 : Nat) (M0 : Mem) (s : laws_markDealS_l_b1_S) (e : Env) (M : Mem) : Prop := eget e 0 = .lsl j1 s.2.2.length 0 s.2.2.length ∧ eget e 1 = .int .i64 s.1 ∧ eget e 5 = .int .i64 s.2.1 ∧ M[j1]? = some (.live ⟨.grow, 126, 6, s.2.2.map Deal.c⟩) ∧ Fr [j1] M0 M ∧ s.2.2.length = a1.length
def laws_markDealS_l_b1_RR (a1 : List Deal) (j1 : Nat) (M0 : Mem) (g : laws_markDealS_l_b1_R) (x : Ex) (e : Env) (M : Mem) : Prop := x = .ext 0 ∧ eget e 1 = .int .i64 g.1 ∧ M[j1]? = some (.live ⟨.grow, 126, 6, g.2.map Deal.c⟩) ∧ Fr [j1] M0 M ∧ g.2.length = a1.length
noncomputable def laws_markDealS_l_b1 : laws_markDealS_l_b1_S → Option (laws_markDealS_l_b1_S ⊕ laws_markDealS_l_b1_R) := fun (s1_1, s1_2, s1_3) =>
 if (decide (s1_2 < (s1_3.length : Int))) = true then
  (rd s1_3 s1_2).bind fun x38 =>
  (rd (s1_3.set s1_2.toNat (Deal.mk s1_1 x38.Kind x38.Tally x38.From x38.To x38.Amount)) s1_2).bind fun x55 =>
  (rd ((s1_3.set s1_2.toNat (Deal.mk s1_1 x38.Kind x38.Tally x38.From x38.To x38.Amount)).set s1_2.toNat (Deal.mk x55.Day (IntKind.i8.wrap (IntKind.i64.wrap (s1_1 + 1))) x55.Tally x55.From x55.To x55.Amount)) s1_2).bind fun x72 =>
  (rd (((s1_3.set s1_2.toNat (Deal.mk s1_1 x38.Kind x38.Tally x38.From x38.To x38.Amount)).set s1_2.toNat (Deal.mk x55.Day (IntKind.i8.wrap (IntKind.i64.wrap (s1_1 + 1))) x55.Tally x55.From x55.To x55.Amount)).set s1_2.toNat (Deal.mk x72.Day x72.Kind (IntKind.i64.wrap ((IntKind.i64.wrap (s1_1 + 1)) + 1)) x72.From x72.To x72.Amount)) s1_2).bind fun x89 =>
  (rd ((((s1_3.set s1_2.toNat (Deal.mk s1_1 x38.Kind x38.Tally x38.From x38.To x38.Amount)).set s1_2.toNat (Deal.mk x55.Day (IntKind.i8.wrap (IntKind.i64.wrap (s1_1 + 1))) x55.Tally x55.From x55.To x55.Amount)).set s1_2.toNat (Deal.mk x72.Day x72.Kind (IntKind.i64.wrap ((IntKind.i64.wrap (s1_1 + 1)) + 1)) x72.From x72.To x72.Amount)).set s1_2.toNat (Deal.mk x89.Day x89.Kind x89.Tally (IntKind.i64.wrap ((IntKind.i64.wrap ((IntKind.i64.wrap (s1_1 + 1)) + 1)) + 1)) x89.To x89.Amount)) s1_2).bind fun x106 =>
  (rd (((((s1_3.set s1_2.toNat (Deal.mk s1_1 x38.Kind x38.Tally x38.From x38.To x38.Amount)).set s1_2.toNat (Deal.mk x55.Day (IntKind.i8.wrap (IntKind.i64.wrap (s1_1 + 1))) x55.Tally x55.From x55.To x55.Amount)).set s1_2.toNat (Deal.mk x72.Day x72.Kind (IntKind.i64.wrap ((IntKind.i64.wrap (s1_1 + 1)) + 1)) x72.From x72.To x72.Amount)).set s1_2.toNat (Deal.mk x89.Day x89.Kind x89.Tally (IntKind.i64.wrap ((IntKind.i64.wrap ((IntKind.i64.wrap (s1_1 + 1)) + 1)) + 1)) x89.To x89.Amount)).set s1_2.toNat (Deal.mk x106.Day x106.Kind x106.Tally x106.From (IntKind.i64.wrap ((IntKind.i64.wrap ((IntKind.i64.wrap ((IntKind.i64.wrap (s1_1 + 1)) + 1)) + 1)) + 1)) x106.Amount)) s1_2).bind fun x123 =>
  some (.inl ((IntKind.i64.wrap ((IntKind.i64.wrap ((IntKind.i64.wrap ((IntKind.i64.wrap ((IntKind.i64.wrap ((IntKind.i64.wrap (s1_1 + 1)) + 1)) + 1)) + 1)) + 1)) + 1)), (IntKind.i64.wrap (s1_2 + 1)), ((((((s1_3.set s1_2.toNat (Deal.mk s1_1 x38.Kind x38.Tally x38.From x38.To x38.Amount)).set s1_2.toNat (Deal.mk x55.Day (IntKind.i8.wrap (IntKind.i64.wrap (s1_1 + 1))) x55.Tally x55.From x55.To x55.Amount)).set s1_2.toNat (Deal.mk x72.Day x72.Kind (IntKind.i64.wrap ((IntKind.i64.wrap (s1_1 + 1)) + 1)) x72.From x72.To x72.Amount)).set s1_2.toNat (Deal.mk x89.Day x89.Kind x89.Tally (IntKind.i64.wrap ((IntKind.i64.wrap ((IntKind.i64.wrap (s1_1 + 1)) + 1)) + 1)) x89.To x89.Amount)).set s1_2.toNat (Deal.mk x106.Day x106.Kind x106.Tally x106.From (IntKind.i64.wrap ((IntKind.i64.wrap ((IntKind.i64.wrap ((IntKind.i64.wrap (s1_1 + 1)) + 1)) + 1)) + 1)) x106.Amount)).set s1_2.toNat (Deal.mk x123.Day x123.Kind x123.Tally x123.From x123.To (IntKind.i64.wrap ((IntKind.i64.wrap ((IntKind.i64.wrap ((IntKind.i64.wrap ((IntKind.i64.wrap (s1_1 + 1)) + 1)) + 1)) + 1)) + 1))))))
 else
  some (.inr (s1_1, s1_3))
theorem laws_markDealS_l_b1_ok (a1 : List Deal) (j1 : Nat) (M0 : Mem) (s : laws_markDealS_l_b1_S) (r : laws_markDealS_l_b1_S ⊕ laws_markDealS_l_b1_R) (h : laws_markDealS_l_b1 s = some r) (e : Env) (M : Mem) (hs : laws_markDealS_l_b1_RS a1 j1 M0 s e M) : Ev (fun k => (f35_l2 (CN k) k (prune [0, 1, 5] e) M).bind fun q => some q) (bQ (laws_markDealS_l_b1_RS a1 j1 M0) (laws_markDealS_l_b1_RR a1 j1 M0) r) := by
 obtain ⟨s1_1, s1_2, s1_3⟩ := s
 unfold laws_markDealS_l_b1 at h
 obtain ⟨h22, h24, h26, o28, fr29, hl30⟩ := hs
 generalize he21 : prune [0, 1, 5] e = e20
 have h23 := envp he21.symm rfl h22
 have h25 := envp he21.symm rfl h24
 have h27 := envp he21.symm rfl h26
 refine sq (sq (Rg (kx (mvO h27) (kx (mvO h23) (kx (lnL Tryd.underlying71 rfl o28 (by simp [hl30])) (kx (bLss rfl rfl) (Rn (hV (.lsl j1 s1_3.length 0 s1_3.length) h23 (hV (.int .i64 s1_1) h25 (hV (.int .i64 s1_2) h27 (hN rfl hZ)))) fun e31 h33 h34 h35 h36 => sN ?_)))))))
 clear h23 h25 h27
 rcases ite_some h with ⟨hb37, h⟩ | ⟨hb37, h⟩
 ·obtain ⟨x38, hx39, h⟩ := bind_some h
  refine cT h36 hb37 (xx (sN (sq (bl (sq (Rg (kx (mvO h33) (kx (mvO h35) (kx (mvO h34) (kx (ixO rfl o28 rfl rfl (rd_get hx39).1 (rd_lt hx39).2) (kx (faO rfl o28 (by simp [hl30])) (kw (stR (u := x38) (u' := (Deal.mk s1_1 x38.Kind x38.Tally x38.From x38.To x38.Amount)) rfl rfl o28 rfl (rz2 hx39) ⟨rfl, ble rfl⟩ rfl rfl) fun M40 hM41 => ?_))))))))))))
  rw [Nat.zero_add] at hM41
  have o42 : M40[j1]? = some (.live ⟨.grow, 126, 6, (s1_3.set s1_2.toNat (Deal.mk s1_1 x38.Kind x38.Tally x38.From x38.To x38.Amount)).map Deal.c⟩) := set_same hM41 o28
  have fr43 := Fr.setIn fr29 hM41 (by simp)
  have hx44 := rd_set (u' := (Deal.mk s1_1 x38.Kind x38.Tally x38.From x38.To x38.Amount)) hx39
  obtain ⟨x55, hx56, h⟩ := bind_some h
  refine Rn (hA h33 (hA h34 (hA h35 hZ))) fun e45 h47 h48 h49 => sN (sq (Rg (kx (mvO h48) (kx (bAdd rfl rfl) (kx (mvO rfl) (Rn (hA h47 (hN rfl (hA h49 hZ))) fun e50 h52 h53 h54 => sN (sq (Rg (kx (mvO (lslL (L' := (s1_3.set s1_2.toNat (Deal.mk s1_1 x38.Kind x38.Tally x38.From x38.To x38.Amount)).length) h52 (by simp [hl30]))) (kx (mvO h54) (kx (mvO h53) (kx (cvI rfl) (kx (ixO rfl o42 rfl rfl (rd_get hx56).1 (rd_lt hx56).2) (kx (faO rfl o42 (by simp [hl30])) (kw (stR (u := x55) (u' := (Deal.mk x55.Day (IntKind.i8.wrap (IntKind.i64.wrap (s1_1 + 1))) x55.Tally x55.From x55.To x55.Amount)) rfl rfl o42 rfl (rz2 hx56) ⟨rfl, ble rfl⟩ rfl rfl) fun M57 hM58 => ?_)))))))))))))))
  clear h33 h34 h35 h36 h47 h49
  rw [Nat.zero_add] at hM58
  have o59 : M57[j1]? = some (.live ⟨.grow, 126, 6, ((s1_3.set s1_2.toNat (Deal.mk s1_1 x38.Kind x38.Tally x38.From x38.To x38.Amount)).set s1_2.toNat (Deal.mk x55.Day (IntKind.i8.wrap (IntKind.i64.wrap (s1_1 + 1))) x55.Tally x55.From x55.To x55.Amount)).map Deal.c⟩) := set_same hM58 o42
  have fr60 := Fr.setIn fr43 hM58 (by simp)
  have hx61 := rd_set (u' := (Deal.mk x55.Day (IntKind.i8.wrap (IntKind.i64.wrap (s1_1 + 1))) x55.Tally x55.From x55.To x55.Amount)) hx56
  obtain ⟨x72, hx73, h⟩ := bind_some h
  refine Rn (hA h52 (hA h53 (hA h54 hZ))) fun e62 h64 h65 h66 => sN (sq (Rg (kx (mvO h65) (kx (bAdd rfl rfl) (kx (mvO rfl) (Rn (hA h64 (hN rfl (hA h66 hZ))) fun e67 h69 h70 h71 => sN (sq (Rg (kx (mvO (lslL (L' := ((s1_3.set s1_2.toNat (Deal.mk s1_1 x38.Kind x38.Tally x38.From x38.To x38.Amount)).set s1_2.toNat (Deal.mk x55.Day (IntKind.i8.wrap (IntKind.i64.wrap (s1_1 + 1))) x55.Tally x55.From x55.To x55.Amount)).length) h69 (by simp [hl30]))) (kx (mvO h71) (kx (mvO h70) (kx (ixO rfl o59 rfl rfl (rd_get hx73).1 (rd_lt hx73).2) (kx (faO rfl o59 (by simp [hl30])) (kw (stR (u := x72) (u' := (Deal.mk x72.Day x72.Kind (IntKind.i64.wrap ((IntKind.i64.wrap (s1_1 + 1)) + 1)) x72.From x72.To x72.Amount)) rfl rfl o59 rfl (rz2 hx73) ⟨rfl, ble rfl⟩ rfl rfl) fun M74 hM75 => ?_))))))))))))))
  clear h52 h53 h54 h64 h66
  rw [Nat.zero_add] at hM75
  have o76 : M74[j1]? = some (.live ⟨.grow, 126, 6, (((s1_3.set s1_2.toNat (Deal.mk s1_1 x38.Kind x38.Tally x38.From x38.To x38.Amount)).set s1_2.toNat (Deal.mk x55.Day (IntKind.i8.wrap (IntKind.i64.wrap (s1_1 + 1))) x55.Tally x55.From x55.To x55.Amount)).set s1_2.toNat (Deal.mk x72.Day x72.Kind (IntKind.i64.wrap ((IntKind.i64.wrap (s1_1 + 1)) + 1)) x72.From x72.To x72.Amount)).map Deal.c⟩) := set_same hM75 o59
  have fr77 := Fr.setIn fr60 hM75 (by simp)
  have hx78 := rd_set (u' := (Deal.mk x72.Day x72.Kind (IntKind.i64.wrap ((IntKind.i64.wrap (s1_1 + 1)) + 1)) x72.From x72.To x72.Amount)) hx73
  obtain ⟨x89, hx90, h⟩ := bind_some h
  refine Rn (hA h69 (hA h70 (hA h71 hZ))) fun e79 h81 h82 h83 => sN (sq (Rg (kx (mvO h82) (kx (bAdd rfl rfl) (kx (mvO rfl) (Rn (hA h81 (hN rfl (hA h83 hZ))) fun e84 h86 h87 h88 => sN (sq (Rg (kx (mvO (lslL (L' := (((s1_3.set s1_2.toNat (Deal.mk s1_1 x38.Kind x38.Tally x38.From x38.To x38.Amount)).set s1_2.toNat (Deal.mk x55.Day (IntKind.i8.wrap (IntKind.i64.wrap (s1_1 + 1))) x55.Tally x55.From x55.To x55.Amount)).set s1_2.toNat (Deal.mk x72.Day x72.Kind (IntKind.i64.wrap ((IntKind.i64.wrap (s1_1 + 1)) + 1)) x72.From x72.To x72.Amount)).length) h86 (by simp [hl30]))) (kx (mvO h88) (kx (mvO h87) (kx (ixO rfl o76 rfl rfl (rd_get hx90).1 (rd_lt hx90).2) (kx (faO rfl o76 (by simp [hl30])) (kw (stR (u := x89) (u' := (Deal.mk x89.Day x89.Kind x89.Tally (IntKind.i64.wrap ((IntKind.i64.wrap ((IntKind.i64.wrap (s1_1 + 1)) + 1)) + 1)) x89.To x89.Amount)) rfl rfl o76 rfl (rz2 hx90) ⟨rfl, ble rfl⟩ rfl rfl) fun M91 hM92 => ?_))))))))))))))
  clear h69 h70 h71 h81 h83
  rw [Nat.zero_add] at hM92
  have o93 : M91[j1]? = some (.live ⟨.grow, 126, 6, ((((s1_3.set s1_2.toNat (Deal.mk s1_1 x38.Kind x38.Tally x38.From x38.To x38.Amount)).set s1_2.toNat (Deal.mk x55.Day (IntKind.i8.wrap (IntKind.i64.wrap (s1_1 + 1))) x55.Tally x55.From x55.To x55.Amount)).set s1_2.toNat (Deal.mk x72.Day x72.Kind (IntKind.i64.wrap ((IntKind.i64.wrap (s1_1 + 1)) + 1)) x72.From x72.To x72.Amount)).set s1_2.toNat (Deal.mk x89.Day x89.Kind x89.Tally (IntKind.i64.wrap ((IntKind.i64.wrap ((IntKind.i64.wrap (s1_1 + 1)) + 1)) + 1)) x89.To x89.Amount)).map Deal.c⟩) := set_same hM92 o76
  have fr94 := Fr.setIn fr77 hM92 (by simp)
  have hx95 := rd_set (u' := (Deal.mk x89.Day x89.Kind x89.Tally (IntKind.i64.wrap ((IntKind.i64.wrap ((IntKind.i64.wrap (s1_1 + 1)) + 1)) + 1)) x89.To x89.Amount)) hx90
  obtain ⟨x106, hx107, h⟩ := bind_some h
  refine Rn (hA h86 (hA h87 (hA h88 hZ))) fun e96 h98 h99 h100 => sN (sq (Rg (kx (mvO h99) (kx (bAdd rfl rfl) (kx (mvO rfl) (Rn (hA h98 (hN rfl (hA h100 hZ))) fun e101 h103 h104 h105 => sN (sq (Rg (kx (mvO (lslL (L' := ((((s1_3.set s1_2.toNat (Deal.mk s1_1 x38.Kind x38.Tally x38.From x38.To x38.Amount)).set s1_2.toNat (Deal.mk x55.Day (IntKind.i8.wrap (IntKind.i64.wrap (s1_1 + 1))) x55.Tally x55.From x55.To x55.Amount)).set s1_2.toNat (Deal.mk x72.Day x72.Kind (IntKind.i64.wrap ((IntKind.i64.wrap (s1_1 + 1)) + 1)) x72.From x72.To x72.Amount)).set s1_2.toNat (Deal.mk x89.Day x89.Kind x89.Tally (IntKind.i64.wrap ((IntKind.i64.wrap ((IntKind.i64.wrap (s1_1 + 1)) + 1)) + 1)) x89.To x89.Amount)).length) h103 (by simp [hl30]))) (kx (mvO h105) (kx (mvO h104) (kx (ixO rfl o93 rfl rfl (rd_get hx107).1 (rd_lt hx107).2) (kx (faO rfl o93 (by simp [hl30])) (kw (stR (u := x106) (u' := (Deal.mk x106.Day x106.Kind x106.Tally x106.From (IntKind.i64.wrap ((IntKind.i64.wrap ((IntKind.i64.wrap ((IntKind.i64.wrap (s1_1 + 1)) + 1)) + 1)) + 1)) x106.Amount)) rfl rfl o93 rfl (rz2 hx107) ⟨rfl, ble rfl⟩ rfl rfl) fun M108 hM109 => ?_))))))))))))))
  clear h86 h87 h88 h100 h98
  rw [Nat.zero_add] at hM109
  have o110 : M108[j1]? = some (.live ⟨.grow, 126, 6, (((((s1_3.set s1_2.toNat (Deal.mk s1_1 x38.Kind x38.Tally x38.From x38.To x38.Amount)).set s1_2.toNat (Deal.mk x55.Day (IntKind.i8.wrap (IntKind.i64.wrap (s1_1 + 1))) x55.Tally x55.From x55.To x55.Amount)).set s1_2.toNat (Deal.mk x72.Day x72.Kind (IntKind.i64.wrap ((IntKind.i64.wrap (s1_1 + 1)) + 1)) x72.From x72.To x72.Amount)).set s1_2.toNat (Deal.mk x89.Day x89.Kind x89.Tally (IntKind.i64.wrap ((IntKind.i64.wrap ((IntKind.i64.wrap (s1_1 + 1)) + 1)) + 1)) x89.To x89.Amount)).set s1_2.toNat (Deal.mk x106.Day x106.Kind x106.Tally x106.From (IntKind.i64.wrap ((IntKind.i64.wrap ((IntKind.i64.wrap ((IntKind.i64.wrap (s1_1 + 1)) + 1)) + 1)) + 1)) x106.Amount)).map Deal.c⟩) := set_same hM109 o93
  have fr111 := Fr.setIn fr94 hM109 (by simp)
  have hx112 := rd_set (u' := (Deal.mk x106.Day x106.Kind x106.Tally x106.From (IntKind.i64.wrap ((IntKind.i64.wrap ((IntKind.i64.wrap ((IntKind.i64.wrap (s1_1 + 1)) + 1)) + 1)) + 1)) x106.Amount)) hx107
  obtain ⟨x123, hx124, h⟩ := bind_some h
  refine Rn (hA h103 (hA h104 (hA h105 hZ))) fun e113 h115 h116 h117 => sN (sq (Rg (kx (mvO h116) (kx (bAdd rfl rfl) (kx (mvO rfl) (Rn (hA h115 (hN rfl (hA h117 hZ))) fun e118 h120 h121 h122 => sN (sq (Rg (kx (mvO (lslL (L' := (((((s1_3.set s1_2.toNat (Deal.mk s1_1 x38.Kind x38.Tally x38.From x38.To x38.Amount)).set s1_2.toNat (Deal.mk x55.Day (IntKind.i8.wrap (IntKind.i64.wrap (s1_1 + 1))) x55.Tally x55.From x55.To x55.Amount)).set s1_2.toNat (Deal.mk x72.Day x72.Kind (IntKind.i64.wrap ((IntKind.i64.wrap (s1_1 + 1)) + 1)) x72.From x72.To x72.Amount)).set s1_2.toNat (Deal.mk x89.Day x89.Kind x89.Tally (IntKind.i64.wrap ((IntKind.i64.wrap ((IntKind.i64.wrap (s1_1 + 1)) + 1)) + 1)) x89.To x89.Amount)).set s1_2.toNat (Deal.mk x106.Day x106.Kind x106.Tally x106.From (IntKind.i64.wrap ((IntKind.i64.wrap ((IntKind.i64.wrap ((IntKind.i64.wrap (s1_1 + 1)) + 1)) + 1)) + 1)) x106.Amount)).length) h120 (by simp [hl30]))) (kx (mvO h122) (kx (mvO h121) (kx (ixO rfl o110 rfl rfl (rd_get hx124).1 (rd_lt hx124).2) (kx (faO rfl o110 (by simp [hl30])) (kw (stR (u := x123) (u' := (Deal.mk x123.Day x123.Kind x123.Tally x123.From x123.To (IntKind.i64.wrap ((IntKind.i64.wrap ((IntKind.i64.wrap ((IntKind.i64.wrap ((IntKind.i64.wrap (s1_1 + 1)) + 1)) + 1)) + 1)) + 1)))) rfl rfl o110 rfl (rz2 hx124) ⟨rfl, ble rfl⟩ rfl rfl) fun M125 hM126 => ?_))))))))))))))
  clear h103 h104 h105 h115 h117
  rw [Nat.zero_add] at hM126
  have o127 : M125[j1]? = some (.live ⟨.grow, 126, 6, ((((((s1_3.set s1_2.toNat (Deal.mk s1_1 x38.Kind x38.Tally x38.From x38.To x38.Amount)).set s1_2.toNat (Deal.mk x55.Day (IntKind.i8.wrap (IntKind.i64.wrap (s1_1 + 1))) x55.Tally x55.From x55.To x55.Amount)).set s1_2.toNat (Deal.mk x72.Day x72.Kind (IntKind.i64.wrap ((IntKind.i64.wrap (s1_1 + 1)) + 1)) x72.From x72.To x72.Amount)).set s1_2.toNat (Deal.mk x89.Day x89.Kind x89.Tally (IntKind.i64.wrap ((IntKind.i64.wrap ((IntKind.i64.wrap (s1_1 + 1)) + 1)) + 1)) x89.To x89.Amount)).set s1_2.toNat (Deal.mk x106.Day x106.Kind x106.Tally x106.From (IntKind.i64.wrap ((IntKind.i64.wrap ((IntKind.i64.wrap ((IntKind.i64.wrap (s1_1 + 1)) + 1)) + 1)) + 1)) x106.Amount)).set s1_2.toNat (Deal.mk x123.Day x123.Kind x123.Tally x123.From x123.To (IntKind.i64.wrap ((IntKind.i64.wrap ((IntKind.i64.wrap ((IntKind.i64.wrap ((IntKind.i64.wrap (s1_1 + 1)) + 1)) + 1)) + 1)) + 1)))).map Deal.c⟩) := set_same hM126 o110
  have fr128 := Fr.setIn fr111 hM126 (by simp)
  have hx129 := rd_set (u' := (Deal.mk x123.Day x123.Kind x123.Tally x123.From x123.To (IntKind.i64.wrap ((IntKind.i64.wrap ((IntKind.i64.wrap ((IntKind.i64.wrap ((IntKind.i64.wrap (s1_1 + 1)) + 1)) + 1)) + 1)) + 1)))) hx124
  refine Rn (hA h120 (hA h121 (hA h122 hZ))) fun e130 h132 h133 h134 => sN (Rg (kx (mvO h133) (kx (bAdd rfl rfl) (kx (mvO rfl) (Rn (hA h132 (hN rfl (hA h134 hZ))) fun e135 h137 h138 h139 => bN (sN (Rg (kx (mvO h139) (kx (bAdd rfl rfl) (kx (mvO rfl) (Rn (hA h137 (hA h138 (hN rfl hZ))) fun e140 h142 h143 h144 => ?_)))))))))))
  clear h120 h121 h122 h132 h134 h137 h138
  obtain rfl := si h
  exact qN ⟨(lslL (L' := ((((((s1_3.set s1_2.toNat (Deal.mk s1_1 x38.Kind x38.Tally x38.From x38.To x38.Amount)).set s1_2.toNat (Deal.mk x55.Day (IntKind.i8.wrap (IntKind.i64.wrap (s1_1 + 1))) x55.Tally x55.From x55.To x55.Amount)).set s1_2.toNat (Deal.mk x72.Day x72.Kind (IntKind.i64.wrap ((IntKind.i64.wrap (s1_1 + 1)) + 1)) x72.From x72.To x72.Amount)).set s1_2.toNat (Deal.mk x89.Day x89.Kind x89.Tally (IntKind.i64.wrap ((IntKind.i64.wrap ((IntKind.i64.wrap (s1_1 + 1)) + 1)) + 1)) x89.To x89.Amount)).set s1_2.toNat (Deal.mk x106.Day x106.Kind x106.Tally x106.From (IntKind.i64.wrap ((IntKind.i64.wrap ((IntKind.i64.wrap ((IntKind.i64.wrap (s1_1 + 1)) + 1)) + 1)) + 1)) x106.Amount)).set s1_2.toNat (Deal.mk x123.Day x123.Kind x123.Tally x123.From x123.To (IntKind.i64.wrap ((IntKind.i64.wrap ((IntKind.i64.wrap ((IntKind.i64.wrap ((IntKind.i64.wrap (s1_1 + 1)) + 1)) + 1)) + 1)) + 1)))).length) h142 (by simp [hl30])), h143, h144, o127, fr128, (by first | rfl | simp [hl30])⟩
 refine cF h36 hb37 (xx (sE ?_))
 obtain rfl := si h
 exact qE ⟨rfl, h34, o28, fr29, (by first | rfl | simp [hl30])⟩
noncomputable def laws_markDealS_l (a1 : List Deal) (a2 : Int) : Option (Int × (List Deal)) :=
 (Lw (laws_markDealS_l_b1) (a2, 0, a1)).bind fun (y150, y151) =>
 some (y150, y151)
def laws_markDealS_l_Q (a1 : List Deal) (a2 : Int) (j1 : Nat) (M0 : Mem) (r : Int × (List Deal)) (p : AV × Mem) : Prop := p.1 = .int .i64 r.1 ∧ p.2[j1]? = some (.live ⟨.grow, 126, 6, r.2.map Deal.c⟩) ∧ Fr [j1] M0 p.2 ∧ r.2.length = a1.length
theorem laws_markDealS_l_ok (a1 : List Deal) (a2 : Int) (j1 : Nat) (M0 : Mem) (oP1 : M0[j1]? = some (.live ⟨.grow, 126, 6, a1.map Deal.c⟩)) (r : Int × (List Deal)) (h : laws_markDealS_l a1 a2 = some r) : Ev (fun k => CN k 35 [.lsl j1 a1.length 0 a1.length, .int .i64 a2] M0) (laws_markDealS_l_Q a1 a2 j1 M0 r) := by
 unfold laws_markDealS_l at h
 have fr0 : Fr [j1] M0 M0 := Fr.refl
 obtain ⟨⟨y150, y151⟩, hr146, h⟩ := bind_some h
 refine Ev.enter (F := fun k => f35 (CN k) k) (fun k => callN_eq rfl Tryd.func35 rfl rfl rfl (by decide +kernel) (f35_eq _ _)) (sq (Rg (kx (mvO rfl) (Rn (hV (.lsl j1 a1.length 0 a1.length) rfl (hN rfl hZ)) fun e1 h3 h4 => sN (sq (sq (Rg (kx (mvO rfl) (Rn (hA h3 (hA h4 (hV (.int .i64 0) rfl hZ))) fun e5 h7 h8 h9 => sN (bl (Ev.loop (RS := laws_markDealS_l_b1_RS a1 j1 M0) (RR := laws_markDealS_l_b1_RR a1 j1 M0) (fun s r h e M hs => laws_markDealS_l_b1_ok a1 j1 M0 s r h e M hs) hr146 ⟨h7, h8, h9, oP1, fr0, rfl⟩ fun x e148 M149 hq147 => ?_)))))))))))
 clear h3 h4
 obtain ⟨rfl, h152, o153, fr154, hl155⟩ := hq147
 refine bE (sN (sq (Rg (kx (mvO h152) (kx (mvO rfl) (Rn (hN rfl hZ) fun e156 h158 => sN (xx ?_)))))))
 clear h152
 obtain rfl := si h
 exact eR (resT h158 res0) ⟨rfl, o153, fr154, (by first | rfl | simp [hl155])⟩
/-! ### loop.example/g01263/laws.markDealS (f35) -/
abbrev laws_markDealS_n_b1_S := Int × Int
abbrev laws_markDealS_n_b1_R := Int
def laws_markDealS_n_b1_RS (M0 : Mem) (s : laws_markDealS_n_b1_S) (e : Env) (M : Mem) : Prop := eget e 0 = .nils ∧ eget e 1 = .int .i64 s.1 ∧ eget e 5 = .int .i64 s.2 ∧ Fr [] M0 M
def laws_markDealS_n_b1_RR (M0 : Mem) (g : laws_markDealS_n_b1_R) (x : Ex) (e : Env) (M : Mem) : Prop := x = .ext 0 ∧ eget e 1 = .int .i64 g ∧ Fr [] M0 M
noncomputable def laws_markDealS_n_b1 : laws_markDealS_n_b1_S → Option (laws_markDealS_n_b1_S ⊕ laws_markDealS_n_b1_R) := fun (s1_1, s1_2) =>
 if (decide (s1_2 < 0)) = true then
  none
 else
  some (.inr s1_1)
theorem laws_markDealS_n_b1_ok (M0 : Mem) (s : laws_markDealS_n_b1_S) (r : laws_markDealS_n_b1_S ⊕ laws_markDealS_n_b1_R) (h : laws_markDealS_n_b1 s = some r) (e : Env) (M : Mem) (hs : laws_markDealS_n_b1_RS M0 s e M) : Ev (fun k => (f35_l2 (CN k) k (prune [0, 1, 5] e) M).bind fun q => some q) (bQ (laws_markDealS_n_b1_RS M0) (laws_markDealS_n_b1_RR M0) r) := by
 obtain ⟨s1_1, s1_2⟩ := s
 unfold laws_markDealS_n_b1 at h
 obtain ⟨h21, h23, h25, fr27⟩ := hs
 generalize he20 : prune [0, 1, 5] e = e19
 have h22 := envp he20.symm rfl h21
 have h24 := envp he20.symm rfl h23
 have h26 := envp he20.symm rfl h25
 refine sq (sq (Rg (kx (mvO h26) (kx (mvO h22) (kx (lnN Tryd.underlying71 rfl) (kx (bLss rfl rfl) (Rn (hV .nils h22 (hV (.int .i64 s1_1) h24 (hV (.int .i64 s1_2) h26 (hN rfl hZ)))) fun e28 h30 h31 h32 h33 => sN ?_)))))))
 clear h22 h24 h26
 rcases ite_some h with ⟨hb34, h⟩ | ⟨hb34, h⟩
 ·refine cT h33 hb34 (xx (sN (sq (bl (sq (Rg (kx (mvO h30) (kx (mvO h32) (kx (mvO h31) ?_)))))))))
  cases h
 refine cF h33 hb34 (xx (sE ?_))
 obtain rfl := si h
 exact qE ⟨rfl, h31, fr27⟩
noncomputable def laws_markDealS_n (a1 : Int) : Option Int :=
 (Lw (laws_markDealS_n_b1) (a1, 0)).bind fun y40 =>
 some y40
def laws_markDealS_n_Q (a1 : Int) (M0 : Mem) (r : Int) (p : AV × Mem) : Prop := p.1 = .int .i64 r ∧ Fr [] M0 p.2
theorem laws_markDealS_n_ok (a1 : Int) (M0 : Mem) (r : Int) (h : laws_markDealS_n a1 = some r) : Ev (fun k => CN k 35 [.nils, .int .i64 a1] M0) (laws_markDealS_n_Q a1 M0 r) := by
 unfold laws_markDealS_n at h
 have fr0 : Fr [] M0 M0 := Fr.refl
 obtain ⟨y40, hr36, h⟩ := bind_some h
 refine Ev.enter (F := fun k => f35 (CN k) k) (fun k => callN_eq rfl Tryd.func35 rfl rfl rfl (by decide +kernel) (f35_eq _ _)) (sq (Rg (kx (mvO rfl) (Rn (hV .nils rfl (hN rfl hZ)) fun e1 h3 h4 => sN (sq (sq (Rg (kx (mvO rfl) (Rn (hA h3 (hA h4 (hV (.int .i64 0) rfl hZ))) fun e5 h7 h8 h9 => sN (bl (Ev.loop (RS := laws_markDealS_n_b1_RS M0) (RR := laws_markDealS_n_b1_RR M0) (fun s r h e M hs => laws_markDealS_n_b1_ok M0 s r h e M hs) hr36 ⟨h7, h8, h9, fr0⟩ fun x e38 M39 hq37 => ?_)))))))))))
 clear h3 h4
 obtain ⟨rfl, h41, fr42⟩ := hq37
 refine bE (sN (sq (Rg (kx (mvO h41) (kx (mvO rfl) (Rn (hN rfl hZ) fun e43 h45 => sN (xx ?_)))))))
 clear h41
 obtain rfl := si h
 exact eR (resT h45 res0) ⟨rfl, fr42⟩
/-! ### loop.example/g01263/laws.FnExactReadDeals (f8) -/
def laws_FnExactReadDeals_c1_Q (a1 : List UInt8) (r13 : List Deal) (r14 : Int) (r21 : List Deal) (i901_1 : Nat) (g : Bool) (q : Out) : Prop := q.1 = .nrm ∧ eget q.2.1 0 = .str a1 ∧ eget q.2.1 3 = .sl (some 126) (r13.map Deal.c) ∧ eget q.2.1 4 = .int .i64 r14 ∧ eget q.2.1 5 = .lsl i901_1 r21.length 0 r21.length ∧ eget q.2.1 32 = .bool g ∧ q.2.2[i901_1]? = some (.live ⟨.grow, 126, 6, r21.map Deal.c⟩)
def laws_FnExactReadDeals_c2_Q (r71 : Int) (r72 : List Deal) (i902_1 : Nat) (g : Bool) (q : Out) : Prop := q.1 = .nrm ∧ eget q.2.1 5 = .lsl i902_1 r72.length 0 r72.length ∧ eget q.2.1 7 = .int .i64 r71 ∧ eget q.2.1 57 = .bool g ∧ q.2.2[i902_1]? = some (.live ⟨.grow, 126, 6, r72.map Deal.c⟩)
def laws_FnExactReadDeals_c3_Q (r71 : Int) (r72 : List Deal) (i903_1 : Nat) (g : Bool) (q : Out) : Prop := q.1 = .nrm ∧ eget q.2.1 5 = .lsl i903_1 r72.length 0 r72.length ∧ eget q.2.1 7 = .int .i64 r71 ∧ eget q.2.1 57 = .bool g ∧ q.2.2[i903_1]? = some (.live ⟨.grow, 126, 6, r72.map Deal.c⟩)
def laws_FnExactReadDeals_c4_Q (a1 : List UInt8) (r13 : List Deal) (r14 : Int) (g : Bool) (q : Out) : Prop := q.1 = .nrm ∧ eget q.2.1 0 = .str a1 ∧ eget q.2.1 3 = .sl (some 126) (r13.map Deal.c) ∧ eget q.2.1 4 = .int .i64 r14 ∧ eget q.2.1 5 = .nils ∧ eget q.2.1 32 = .bool g
def laws_FnExactReadDeals_c5_Q (r312 : Int) (g : Bool) (q : Out) : Prop := q.1 = .nrm ∧ eget q.2.1 5 = .nils ∧ eget q.2.1 7 = .int .i64 r312 ∧ eget q.2.1 57 = .bool g
def laws_FnExactReadDeals_c6_Q (r312 : Int) (g : Bool) (q : Out) : Prop := q.1 = .nrm ∧ eget q.2.1 5 = .nils ∧ eget q.2.1 7 = .int .i64 r312 ∧ eget q.2.1 57 = .bool g
noncomputable def laws_FnExactReadDeals (a1 : List UInt8) : Option Bool :=
 if (decide ((a1.length : Int) > 1048576)) = true then
  some true
 else
  (spec_ReadDeals a1).bind fun (r13, r14) =>
  (impl_ReadDeals a1).bind fun r => match r with
  | (.inl r21) =>
   ((laws_eqDealS r21 r13).bind fun r34 =>
   if r34 = true then
    some (0 != r14)
   else
    some true).bind fun y52 =>
   if y52 = true then
    some false
   else
    (laws_markDealS_l r21 1).bind fun (r71, r72) =>
    (laws_heldDealS r72 1).bind fun r96 =>
    if (decide (r96 < 0)) = true then
     some false
    else
     if (r96 != r71) = true then
      some false
     else
      (impl_ReadDeals a1).bind fun r => match r with
      | (.inl r131) =>
       ((laws_eqDealS r131 r13).bind fun r141 =>
       if r141 = true then
        some (0 != r14)
       else
        some true).bind fun y155 =>
       if y155 = true then
        some false
       else
        (laws_heldDealS r72 1).bind fun r170 =>
        if (decide (r170 < 0)) = true then
         some false
        else
         if (r170 != r71) = true then
          some false
         else
          some true
      | (.inr _) =>
       ((laws_eqDealS ([] : List Deal) r13).bind fun r206 =>
       if r206 = true then
        some (5 != r14)
       else
        some true).bind fun y220 =>
       if y220 = true then
        some false
       else
        (laws_heldDealS r72 1).bind fun r235 =>
        if (decide (r235 < 0)) = true then
         some false
        else
         if (r235 != r71) = true then
          some false
         else
          some true
  | (.inr _) =>
   ((laws_eqDealS ([] : List Deal) r13).bind fun r276 =>
   if r276 = true then
    some (5 != r14)
   else
    some true).bind fun y294 =>
   if y294 = true then
    some false
   else
    (laws_markDealS_n 1).bind fun r312 =>
    (laws_heldDealS ([] : List Deal) 1).bind fun r333 =>
    if (decide (r333 < 0)) = true then
     some false
    else
     if (r333 != r312) = true then
      some false
     else
      (impl_ReadDeals a1).bind fun r => match r with
      | (.inl r368) =>
       ((laws_eqDealS r368 r13).bind fun r378 =>
       if r378 = true then
        some (0 != r14)
       else
        some true).bind fun y392 =>
       if y392 = true then
        some false
       else
        (laws_heldDealS ([] : List Deal) 1).bind fun r406 =>
        if (decide (r406 < 0)) = true then
         some false
        else
         if (r406 != r312) = true then
          some false
         else
          some true
      | (.inr _) =>
       ((laws_eqDealS ([] : List Deal) r13).bind fun r442 =>
       if r442 = true then
        some (5 != r14)
       else
        some true).bind fun y456 =>
       if y456 = true then
        some false
       else
        (laws_heldDealS ([] : List Deal) 1).bind fun r470 =>
        if (decide (r470 < 0)) = true then
         some false
        else
         if (r470 != r312) = true then
          some false
         else
          some true
def laws_FnExactReadDeals_enc (r : Bool) : AV := .bool r
theorem laws_FnExactReadDeals_ok (a1 : List UInt8) (r : Bool) (h : laws_FnExactReadDeals a1 = some r) : Ev (fun k => CN k 8 [.str a1] []) (fun p => rRes p.2 p.1 = laws_FnExactReadDeals_enc r) := by
 unfold laws_FnExactReadDeals at h
 refine Ev.enter (F := fun k => f8 (CN k) k) (fun k => callN_eq rfl Tryd.func8 rfl rfl rfl (by decide +kernel) (f8_eq _ _)) (sq (Rg (kx (mvO rfl) (Rn (hN rfl hZ) fun e1 h3 => sN (sq (sq (Rg (kx (mvO h3) (kx (lnB Tryd.underlying9 rfl) (kx (bGtr rfl rfl) (Rn (hA h3 (hN rfl hZ)) fun e4 h6 h7 => sN ?_)))))))))))
 clear h3
 rcases ite_some h with ⟨hb8, h⟩ | ⟨hb8, h⟩
 ·refine cT h7 hb8 (sq (Rg (kx (mvO rfl) (Rn (hV (.bool true) rfl hZ) fun e9 h11 => sN (xx (sR ?_))))))
  clear h6 h7
  obtain rfl := si h
  exact eR (resT h11 res0) rfl
 obtain ⟨⟨r13, r14⟩, hx12, h⟩ := bind_some h
 obtain ⟨q501, hx20, h⟩ := bind_some h
 refine cF h7 hb8 (xx (sN (sq (Rg (kx (mvO h6) (kc (cl (v := .tup [.sl (some 126) (r13.map Deal.c), .int .i64 r14]) rfl (cns rfl rfl) rfl (spec_ReadDeals_ok a1 _ hx12) nm) (kx (mvO rfl) (kx (exT rfl rfl) (kx (exT rfl rfl) (kx (mvO rfl) (kx (mvO rfl) (Rn (hA h6 (hN rfl (hN rfl hZ))) fun e15 h17 h18 h19 => sN (sq (Rg (kx (mvO h17) ?_)))))))))))))))
 clear h6 h7
 rcases q501 with r21 | _
 ·refine Ev.nxcp (Ev.callT (v := .tup [.sl (some 126) (r21.map Deal.c), .int .i64 0]) rfl (cns rfl rfl) rfl (impl_ReadDeals_ok a1 _ hx20) (th_gen (v' := .tup [.lsl ([] : Mem).length r21.length 0 r21.length, .int .i64 0]) (l := [⟨.grow, 126, 6, r21.map Deal.c⟩]) (own_tup (oa1 (own2_row (c := Deal.c) Deal.flF) (oa1 rfl oa0))) (by simp [thaw, thaw2, thaw1, thawL, co126]) rfl rfl)) fun M23 hM24 => ?_
  have o25 : M23[([] : Mem).length]? = some (.live ⟨.grow, 126, 6, r21.map Deal.c⟩) := push_at hM24 0 rfl
  obtain ⟨r264, hr265, h⟩ := bind_some h
  refine kx (mvO rfl) (kx (exT rfl rfl) (kx (exT rfl rfl) (kx (mvO rfl) (kx (mvO rfl) (Rn (hA h17 (hA h18 (hA h19 (hV (.lsl ([] : Mem).length r21.length 0 r21.length) rfl (hV (.int .i64 0) rfl hZ))))) fun e26 h28 h29 h30 h31 h32 => sN (sq (sq ?_)))))))
  clear h17 h18 h19
  refine Ev.cut (Q1 := laws_FnExactReadDeals_c1_Q a1 r13 r14 r21 (([] : Mem).length) r264) (by
      have h := hr265
      obtain ⟨r34, hx33, h⟩ := bind_some h
      refine Rg (kx (mvO h31) (kx (mvO h29) (kc (cl (v := .bool r34) rfl (cns rfl (cns rfl rfl)) (ra1 (ra1_row o25 rfl Deal.fl) (ra1 rfl ra0)) (laws_eqDealS_ok r21 r13 _ hx33) (fun _ => rfl)) (kx (uNot rfl) (kx (mvO rfl) ?_)))))
      rcases ite_some h with ⟨hb35, h⟩ | ⟨hb35, h⟩
      ·refine kx (guF rfl (congrArg Bool.not hb35) (mvO h32)) (kx (guF rfl (congrArg Bool.not hb35) (mvO h30)) (kx (guF rfl (congrArg Bool.not hb35) (bNeq rfl rfl)) (kx (pkF rfl (congrArg Bool.not hb35) rfl) (Rn (hA h28 (hA h29 (hA h30 (hA h31 (hN rfl hZ))))) fun e36 h38 h39 h40 h41 h42 => ?_))))
       clear h28 h29 h30 h31 h32
       obtain rfl := si h
       exact kd (show laws_FnExactReadDeals_c1_Q a1 r13 r14 r21 (([] : Mem).length) _ _ from ⟨rfl, h38, h39, h40, h41, h42, o25⟩)
      refine kx (gsF rfl (congrArg Bool.not hb35)) (kx (gsF rfl (congrArg Bool.not hb35)) (kx (gsF rfl (congrArg Bool.not hb35)) (kx (pkT rfl (congrArg Bool.not hb35) rfl) (Rn (hA h28 (hA h29 (hA h30 (hA h31 (hV (.bool true) rfl hZ))))) fun e43 h45 h46 h47 h48 h49 => ?_))))
      clear h28 h29 h30 h31 h32
      obtain rfl := si h
      exact kd (show laws_FnExactReadDeals_c1_Q a1 r13 r14 r21 (([] : Mem).length) _ _ from ⟨rfl, h45, h46, h47, h48, h49, o25⟩)) ?_
  revert h hr265
  revert r264
  intro y52 hr265 h
  intro x e50 M51 hq263
  obtain ⟨rfl, h53, h54, h55, h56, h57, o58⟩ := hq263
  refine sN ?_
  rcases ite_some h with ⟨hb59, h⟩ | ⟨hb59, h⟩
  ·refine cT h57 hb59 (sq (Rg (kx (mvO rfl) (Rn (hV (.bool false) rfl hZ) fun e60 h62 => sN (xx (sR ?_))))))
   clear h53 h54 h55 h56 h57
   obtain rfl := si h
   exact eR (resT h62 res0) rfl
  obtain ⟨⟨r71, r72⟩, hx70, h⟩ := bind_some h
  refine cF h57 hb59 (xx (sN (sq (Rg (kx (mvO rfl) (Rn (hV (.str a1) h53 (hV (.sl (some 126) (r13.map Deal.c)) h54 (hV (.int .i64 r14) h55 (hV (.lsl ([] : Mem).length r21.length 0 r21.length) h56 (hV (.int .i64 1) rfl hZ))))) fun e63 h65 h66 h67 h68 h69 => sN (sq (Rg (kx (mvO h68) (kx (mvO h69) (Ev.nxw (Ev.callW rfl (cns rfl (cns rfl rfl)) (laws_markDealS_l_ok r21 1 (([] : Mem).length) M51 o58 _ hx70)) fun v75 M73 hq74 => ?_)))))))))))
  clear h53 h54 h55 h56 h57
  obtain ⟨hv75, o76, fr77, hl78⟩ := hq74
  have hv75 : v75 = .int .i64 r71 := hv75
  subst hv75
  have o79 : M73[([] : Mem).length]? = some (.live ⟨.grow, 126, 6, r72.map Deal.c⟩) := o76
  have hl78 : r72.length = r21.length := hl78
  obtain ⟨r96, hx95, h⟩ := bind_some h
  refine kx (mvO rfl) (Rn (hA h65 (hA h66 (hA h67 (hA h68 (hN rfl hZ))))) fun e80 h82 h83 h84 h85 h86 => sN (sq (Rg (kx (mvO rfl) (Rn (hA h82 (hA h83 (hA h84 (hA h85 (hA h86 (hV (.int .i64 1) rfl hZ)))))) fun e87 h89 h90 h91 h92 h93 h94 => sN (sq (Rg (kx (mvO (lslL (L' := r72.length) h92 (by simp [hl78]))) (kx (mvO h94) (kc (cl (v := .int .i64 r96) rfl (cns rfl (cns rfl rfl)) (ra1 (ra1_row o79 rfl Deal.fl) (ra1 rfl ra0)) (laws_heldDealS_ok r72 1 _ hx95) (fun _ => rfl)) (kx (mvO rfl) (Rn (hA h89 (hA h90 (hA h91 (hA h92 (hA h93 (hN rfl hZ)))))) fun e97 h99 h100 h101 h102 h103 h104 => sN (sq (sq (Rg (kx (mvO h104) (kx (bLss rfl rfl) (Rn (hA h99 (hA h100 (hA h101 (hA h102 (hA h103 (hA h104 (hN rfl hZ))))))) fun e105 h107 h108 h109 h110 h111 h112 h113 => sN ?_))))))))))))))))))
  clear h65 h66 h67 h68 h82 h83 h84 h85 h86 h89 h90 h91 h92 h93 h100 h101 h102 h103 h104 h99
  rcases ite_some h with ⟨hb114, h⟩ | ⟨hb114, h⟩
  ·refine cT h113 hb114 (sq (Rg (kx (mvO rfl) (Rn (hV (.bool false) rfl hZ) fun e115 h117 => sN (xx (sR ?_))))))
   clear h107 h108 h109 h110 h111 h112 h113
   obtain rfl := si h
   exact eR (resT h117 res0) rfl
  refine cF h113 hb114 (xx (sN (sq (sq (Rg (kx (mvO h112) (kx (mvO h111) (kx (bNeq rfl rfl) (Rn (hA h107 (hA h108 (hA h109 (hA h110 (hA h111 (hN rfl hZ)))))) fun e118 h120 h121 h122 h123 h124 h125 => sN ?_)))))))))
  clear h107 h108 h109 h110 h111 h112 h113
  rcases ite_some h with ⟨hb126, h⟩ | ⟨hb126, h⟩
  ·refine cT h125 hb126 (sq (Rg (kx (mvO rfl) (Rn (hV (.bool false) rfl hZ) fun e127 h129 => sN (xx (sR ?_))))))
   clear h120 h121 h122 h123 h124 h125
   obtain rfl := si h
   exact eR (resT h129 res0) rfl
  obtain ⟨q262, hx130, h⟩ := bind_some h
  refine cF h125 hb126 (xx (sN (sq (Rg (kx (mvO h120) ?_)))))
  rcases q262 with r131 | _
  ·obtain ⟨r195, hr196, h⟩ := bind_some h
   refine kc (cl (v := .tup [.sl (some 126) (r131.map Deal.c), .int .i64 0]) rfl (cns rfl rfl) rfl (impl_ReadDeals_ok a1 _ hx130) nm) (kx (mvO rfl) (kx (exT rfl rfl) (kx (exT rfl rfl) (kx (mvO rfl) (kx (mvO rfl) (Rn (hA h121 (hA h122 (hA h123 (hA h124 (hN rfl (hV (.int .i64 0) rfl hZ)))))) fun e132 h134 h135 h136 h137 h138 h139 => sN (sq (sq ?_))))))))
   clear h120 h121 h122 h123 h124 h125
   refine Ev.cut (Q1 := laws_FnExactReadDeals_c2_Q r71 r72 (([] : Mem).length) r195) (by
       have h := hr196
       obtain ⟨r141, hx140, h⟩ := bind_some h
       refine Rg (kx (mvO h138) (kx (mvO h134) (kc (cl (v := .bool r141) rfl (cns rfl (cns rfl rfl)) rfl (laws_eqDealS_ok r131 r13 _ hx140) nm) (kx (uNot rfl) (kx (mvO rfl) ?_)))))
       rcases ite_some h with ⟨hb142, h⟩ | ⟨hb142, h⟩
       ·refine kx (guF rfl (congrArg Bool.not hb142) (mvO h139)) (kx (guF rfl (congrArg Bool.not hb142) (mvO h135)) (kx (guF rfl (congrArg Bool.not hb142) (bNeq rfl rfl)) (kx (pkF rfl (congrArg Bool.not hb142) rfl) (Rn (hA h136 (hA h137 (hN rfl hZ))) fun e143 h145 h146 h147 => ?_))))
        clear h134 h135 h136 h137 h138 h139
        obtain rfl := si h
        exact kd (show laws_FnExactReadDeals_c2_Q r71 r72 (([] : Mem).length) _ _ from ⟨rfl, (lslL (L' := r72.length) h145 (by simp [hl78])), h146, h147, o79⟩)
       refine kx (gsF rfl (congrArg Bool.not hb142)) (kx (gsF rfl (congrArg Bool.not hb142)) (kx (gsF rfl (congrArg Bool.not hb142)) (kx (pkT rfl (congrArg Bool.not hb142) rfl) (Rn (hA h136 (hA h137 (hV (.bool true) rfl hZ))) fun e148 h150 h151 h152 => ?_))))
       clear h134 h135 h136 h137 h138 h139
       obtain rfl := si h
       exact kd (show laws_FnExactReadDeals_c2_Q r71 r72 (([] : Mem).length) _ _ from ⟨rfl, (lslL (L' := r72.length) h150 (by simp [hl78])), h151, h152, o79⟩)) ?_
   revert h hr196
   revert r195
   intro y155 hr196 h
   intro x e153 M154 hq194
   obtain ⟨rfl, h156, h157, h158, o159⟩ := hq194
   refine sN ?_
   rcases ite_some h with ⟨hb160, h⟩ | ⟨hb160, h⟩
   ·refine cT h158 hb160 (sq (Rg (kx (mvO rfl) (Rn (hV (.bool false) rfl hZ) fun e161 h163 => sN (xx (sR ?_))))))
    clear h156 h157 h158
    obtain rfl := si h
    exact eR (resT h163 res0) rfl
   obtain ⟨r170, hx169, h⟩ := bind_some h
   refine cF h158 hb160 (xx (sN (sq (Rg (kx (mvO rfl) (Rn (hV (.lsl ([] : Mem).length r72.length 0 r72.length) h156 (hV (.int .i64 r71) h157 (hV (.int .i64 1) rfl hZ))) fun e164 h166 h167 h168 => sN (sq (Rg (kx (mvO h166) (kx (mvO h168) (kc (cl (v := .int .i64 r170) rfl (cns rfl (cns rfl rfl)) (ra1 (ra1_row o159 rfl Deal.fl) (ra1 rfl ra0)) (laws_heldDealS_ok r72 1 _ hx169) (fun _ => rfl)) (kx (mvO rfl) (Rn (hA h167 (hN rfl hZ)) fun e171 h173 h174 => sN (sq (sq (Rg (kx (mvO h174) (kx (bLss rfl rfl) (Rn (hA h173 (hA h174 (hN rfl hZ))) fun e175 h177 h178 h179 => sN ?_)))))))))))))))))))
   clear h156 h157 h158 h166 h167 h173 h174
   rcases ite_some h with ⟨hb180, h⟩ | ⟨hb180, h⟩
   ·refine cT h179 hb180 (sq (Rg (kx (mvO rfl) (Rn (hV (.bool false) rfl hZ) fun e181 h183 => sN (xx (sR ?_))))))
    clear h177 h178 h179
    obtain rfl := si h
    exact eR (resT h183 res0) rfl
   refine cF h179 hb180 (xx (sN (sq (sq (Rg (kx (mvO h178) (kx (mvO h177) (kx (bNeq rfl rfl) (Rn (hN rfl hZ) fun e184 h186 => sN ?_)))))))))
   clear h177 h178 h179
   rcases ite_some h with ⟨hb187, h⟩ | ⟨hb187, h⟩
   ·refine cT h186 hb187 (sq (Rg (kx (mvO rfl) (Rn (hV (.bool false) rfl hZ) fun e188 h190 => sN (xx (sR ?_))))))
    clear h186
    obtain rfl := si h
    exact eR (resT h190 res0) rfl
   refine cF h186 hb187 (xx (sN (sq (Rg (kx (mvO rfl) (Rn (hV (.bool true) rfl hZ) fun e191 h193 => sN (xx ?_)))))))
   clear h186
   obtain rfl := si h
   exact eR (resT h193 res0) rfl
  obtain ⟨r260, hr261, h⟩ := bind_some h
  refine kc (cl (v := .tup [.nils, .int .i64 5]) rfl (cns rfl rfl) rfl (impl_ReadDeals_ok a1 _ hx130) nm) (kx (mvO rfl) (kx (exT rfl rfl) (kx (exT rfl rfl) (kx (mvO rfl) (kx (mvO rfl) (Rn (hA h121 (hA h122 (hA h123 (hA h124 (hV .nils rfl (hV (.int .i64 5) rfl hZ)))))) fun e197 h199 h200 h201 h202 h203 h204 => sN (sq (sq ?_))))))))
  clear h120 h121 h122 h123 h124 h125
  refine Ev.cut (Q1 := laws_FnExactReadDeals_c3_Q r71 r72 (([] : Mem).length) r260) (by
      have h := hr261
      obtain ⟨r206, hx205, h⟩ := bind_some h
      refine Rg (kx (mvO h203) (kx (mvO h199) (kc (cl (v := .bool r206) rfl (cns rfl (cns rfl rfl)) rfl (laws_eqDealS_ok ([] : List Deal) r13 _ hx205) nm) (kx (uNot rfl) (kx (mvO rfl) ?_)))))
      rcases ite_some h with ⟨hb207, h⟩ | ⟨hb207, h⟩
      ·refine kx (guF rfl (congrArg Bool.not hb207) (mvO h204)) (kx (guF rfl (congrArg Bool.not hb207) (mvO h200)) (kx (guF rfl (congrArg Bool.not hb207) (bNeq rfl rfl)) (kx (pkF rfl (congrArg Bool.not hb207) rfl) (Rn (hA h201 (hA h202 (hN rfl hZ))) fun e208 h210 h211 h212 => ?_))))
       clear h199 h200 h201 h202 h203 h204
       obtain rfl := si h
       exact kd (show laws_FnExactReadDeals_c3_Q r71 r72 (([] : Mem).length) _ _ from ⟨rfl, (lslL (L' := r72.length) h210 (by simp [hl78])), h211, h212, o79⟩)
      refine kx (gsF rfl (congrArg Bool.not hb207)) (kx (gsF rfl (congrArg Bool.not hb207)) (kx (gsF rfl (congrArg Bool.not hb207)) (kx (pkT rfl (congrArg Bool.not hb207) rfl) (Rn (hA h201 (hA h202 (hV (.bool true) rfl hZ))) fun e213 h215 h216 h217 => ?_))))
      clear h199 h200 h201 h202 h203 h204
      obtain rfl := si h
      exact kd (show laws_FnExactReadDeals_c3_Q r71 r72 (([] : Mem).length) _ _ from ⟨rfl, (lslL (L' := r72.length) h215 (by simp [hl78])), h216, h217, o79⟩)) ?_
  revert h hr261
  revert r260
  intro y220 hr261 h
  intro x e218 M219 hq259
  obtain ⟨rfl, h221, h222, h223, o224⟩ := hq259
  refine sN ?_
  rcases ite_some h with ⟨hb225, h⟩ | ⟨hb225, h⟩
  ·refine cT h223 hb225 (sq (Rg (kx (mvO rfl) (Rn (hV (.bool false) rfl hZ) fun e226 h228 => sN (xx (sR ?_))))))
   clear h221 h222 h223
   obtain rfl := si h
   exact eR (resT h228 res0) rfl
  obtain ⟨r235, hx234, h⟩ := bind_some h
  refine cF h223 hb225 (xx (sN (sq (Rg (kx (mvO rfl) (Rn (hV (.lsl ([] : Mem).length r72.length 0 r72.length) h221 (hV (.int .i64 r71) h222 (hV (.int .i64 1) rfl hZ))) fun e229 h231 h232 h233 => sN (sq (Rg (kx (mvO h231) (kx (mvO h233) (kc (cl (v := .int .i64 r235) rfl (cns rfl (cns rfl rfl)) (ra1 (ra1_row o224 rfl Deal.fl) (ra1 rfl ra0)) (laws_heldDealS_ok r72 1 _ hx234) (fun _ => rfl)) (kx (mvO rfl) (Rn (hA h232 (hN rfl hZ)) fun e236 h238 h239 => sN (sq (sq (Rg (kx (mvO h239) (kx (bLss rfl rfl) (Rn (hA h238 (hA h239 (hN rfl hZ))) fun e240 h242 h243 h244 => sN ?_)))))))))))))))))))
  clear h221 h222 h223 h231 h232 h238 h239
  rcases ite_some h with ⟨hb245, h⟩ | ⟨hb245, h⟩
  ·refine cT h244 hb245 (sq (Rg (kx (mvO rfl) (Rn (hV (.bool false) rfl hZ) fun e246 h248 => sN (xx (sR ?_))))))
   clear h242 h243 h244
   obtain rfl := si h
   exact eR (resT h248 res0) rfl
  refine cF h244 hb245 (xx (sN (sq (sq (Rg (kx (mvO h243) (kx (mvO h242) (kx (bNeq rfl rfl) (Rn (hN rfl hZ) fun e249 h251 => sN ?_)))))))))
  clear h242 h243 h244
  rcases ite_some h with ⟨hb252, h⟩ | ⟨hb252, h⟩
  ·refine cT h251 hb252 (sq (Rg (kx (mvO rfl) (Rn (hV (.bool false) rfl hZ) fun e253 h255 => sN (xx (sR ?_))))))
   clear h251
   obtain rfl := si h
   exact eR (resT h255 res0) rfl
  refine cF h251 hb252 (xx (sN (sq (Rg (kx (mvO rfl) (Rn (hV (.bool true) rfl hZ) fun e256 h258 => sN (xx ?_)))))))
  clear h251
  obtain rfl := si h
  exact eR (resT h258 res0) rfl
 obtain ⟨r499, hr500, h⟩ := bind_some h
 refine Ev.nxcp (Ev.callT (v := .tup [.nils, .int .i64 5]) rfl (cns rfl rfl) rfl (impl_ReadDeals_ok a1 _ hx20) (th_gen (v' := .tup [.nils, .int .i64 5]) (l := []) (own_tup (oa1 rfl (oa1 rfl oa0))) (by simp [thaw, thaw2, thaw1, thawL, thaw]) rfl rfl)) fun M266 hM267 => kx (mvO rfl) (kx (exT rfl rfl) (kx (exT rfl rfl) (kx (mvO rfl) (kx (mvO rfl) (Rn (hA h17 (hA h18 (hA h19 (hV .nils rfl (hV (.int .i64 5) rfl hZ))))) fun e268 h270 h271 h272 h273 h274 => sN (sq (sq ?_)))))))
 clear h17 h18 h19
 refine Ev.cut (Q1 := laws_FnExactReadDeals_c4_Q a1 r13 r14 r499) (by
     have h := hr500
     obtain ⟨r276, hx275, h⟩ := bind_some h
     refine Rg (kx (mvO h273) (kx (mvO h271) (kc (cl (v := .bool r276) rfl (cns rfl (cns rfl rfl)) rfl (laws_eqDealS_ok ([] : List Deal) r13 _ hx275) nm) (kx (uNot rfl) (kx (mvO rfl) ?_)))))
     rcases ite_some h with ⟨hb277, h⟩ | ⟨hb277, h⟩
     ·refine kx (guF rfl (congrArg Bool.not hb277) (mvO h274)) (kx (guF rfl (congrArg Bool.not hb277) (mvO h272)) (kx (guF rfl (congrArg Bool.not hb277) (bNeq rfl rfl)) (kx (pkF rfl (congrArg Bool.not hb277) rfl) (Rn (hA h270 (hA h271 (hA h272 (hA h273 (hN rfl hZ))))) fun e278 h280 h281 h282 h283 h284 => ?_))))
      clear h270 h271 h272 h273 h274
      obtain rfl := si h
      exact kd (show laws_FnExactReadDeals_c4_Q a1 r13 r14 _ _ from ⟨rfl, h280, h281, h282, h283, h284⟩)
     refine kx (gsF rfl (congrArg Bool.not hb277)) (kx (gsF rfl (congrArg Bool.not hb277)) (kx (gsF rfl (congrArg Bool.not hb277)) (kx (pkT rfl (congrArg Bool.not hb277) rfl) (Rn (hA h270 (hA h271 (hA h272 (hA h273 (hV (.bool true) rfl hZ))))) fun e285 h287 h288 h289 h290 h291 => ?_))))
     clear h270 h271 h272 h273 h274
     obtain rfl := si h
     exact kd (show laws_FnExactReadDeals_c4_Q a1 r13 r14 _ _ from ⟨rfl, h287, h288, h289, h290, h291⟩)) ?_
 revert h hr500
 revert r499
 intro y294 hr500 h
 intro x e292 M293 hq498
 obtain ⟨rfl, h295, h296, h297, h298, h299⟩ := hq498
 refine sN ?_
 rcases ite_some h with ⟨hb300, h⟩ | ⟨hb300, h⟩
 ·refine cT h299 hb300 (sq (Rg (kx (mvO rfl) (Rn (hV (.bool false) rfl hZ) fun e301 h303 => sN (xx (sR ?_))))))
  clear h295 h296 h297 h298 h299
  obtain rfl := si h
  exact eR (resT h303 res0) rfl
 obtain ⟨r312, hx311, h⟩ := bind_some h
 refine cF h299 hb300 (xx (sN (sq (Rg (kx (mvO rfl) (Rn (hV (.str a1) h295 (hV (.sl (some 126) (r13.map Deal.c)) h296 (hV (.int .i64 r14) h297 (hV .nils h298 (hV (.int .i64 1) rfl hZ))))) fun e304 h306 h307 h308 h309 h310 => sN (sq (Rg (kx (mvO h309) (kx (mvO h310) (Ev.nxw (Ev.callW rfl (cns rfl (cns rfl rfl)) (laws_markDealS_n_ok 1 M293 _ hx311)) fun v315 M313 hq314 => ?_)))))))))))
 clear h295 h296 h297 h298 h299
 obtain ⟨hv315, fr316⟩ := hq314
 have hv315 : v315 = .int .i64 r312 := hv315
 subst hv315
 obtain ⟨r333, hx332, h⟩ := bind_some h
 refine kx (mvO rfl) (Rn (hA h306 (hA h307 (hA h308 (hA h309 (hN rfl hZ))))) fun e317 h319 h320 h321 h322 h323 => sN (sq (Rg (kx (mvO rfl) (Rn (hA h319 (hA h320 (hA h321 (hA h322 (hA h323 (hV (.int .i64 1) rfl hZ)))))) fun e324 h326 h327 h328 h329 h330 h331 => sN (sq (Rg (kx (mvO h329) (kx (mvO h331) (kc (cl (v := .int .i64 r333) rfl (cns rfl (cns rfl rfl)) rfl (laws_heldDealS_ok ([] : List Deal) 1 _ hx332) nm) (kx (mvO rfl) (Rn (hA h326 (hA h327 (hA h328 (hA h329 (hA h330 (hN rfl hZ)))))) fun e334 h336 h337 h338 h339 h340 h341 => sN (sq (sq (Rg (kx (mvO h341) (kx (bLss rfl rfl) (Rn (hA h336 (hA h337 (hA h338 (hA h339 (hA h340 (hA h341 (hN rfl hZ))))))) fun e342 h344 h345 h346 h347 h348 h349 h350 => sN ?_))))))))))))))))))
 clear h306 h307 h308 h309 h319 h320 h321 h322 h323 h326 h327 h328 h329 h330 h336 h337 h338 h339 h340 h341
 rcases ite_some h with ⟨hb351, h⟩ | ⟨hb351, h⟩
 ·refine cT h350 hb351 (sq (Rg (kx (mvO rfl) (Rn (hV (.bool false) rfl hZ) fun e352 h354 => sN (xx (sR ?_))))))
  clear h344 h345 h346 h347 h348 h349 h350
  obtain rfl := si h
  exact eR (resT h354 res0) rfl
 refine cF h350 hb351 (xx (sN (sq (sq (Rg (kx (mvO h349) (kx (mvO h348) (kx (bNeq rfl rfl) (Rn (hA h344 (hA h345 (hA h346 (hA h347 (hA h348 (hN rfl hZ)))))) fun e355 h357 h358 h359 h360 h361 h362 => sN ?_)))))))))
 clear h344 h345 h346 h347 h348 h349 h350
 rcases ite_some h with ⟨hb363, h⟩ | ⟨hb363, h⟩
 ·refine cT h362 hb363 (sq (Rg (kx (mvO rfl) (Rn (hV (.bool false) rfl hZ) fun e364 h366 => sN (xx (sR ?_))))))
  clear h357 h358 h359 h360 h361 h362
  obtain rfl := si h
  exact eR (resT h366 res0) rfl
 obtain ⟨q497, hx367, h⟩ := bind_some h
 refine cF h362 hb363 (xx (sN (sq (Rg (kx (mvO h357) ?_)))))
 rcases q497 with r368 | _
 ·obtain ⟨r431, hr432, h⟩ := bind_some h
  refine kc (cl (v := .tup [.sl (some 126) (r368.map Deal.c), .int .i64 0]) rfl (cns rfl rfl) rfl (impl_ReadDeals_ok a1 _ hx367) nm) (kx (mvO rfl) (kx (exT rfl rfl) (kx (exT rfl rfl) (kx (mvO rfl) (kx (mvO rfl) (Rn (hA h358 (hA h359 (hA h360 (hA h361 (hN rfl (hV (.int .i64 0) rfl hZ)))))) fun e369 h371 h372 h373 h374 h375 h376 => sN (sq (sq ?_))))))))
  clear h357 h358 h359 h360 h361 h362
  refine Ev.cut (Q1 := laws_FnExactReadDeals_c5_Q r312 r431) (by
      have h := hr432
      obtain ⟨r378, hx377, h⟩ := bind_some h
      refine Rg (kx (mvO h375) (kx (mvO h371) (kc (cl (v := .bool r378) rfl (cns rfl (cns rfl rfl)) rfl (laws_eqDealS_ok r368 r13 _ hx377) nm) (kx (uNot rfl) (kx (mvO rfl) ?_)))))
      rcases ite_some h with ⟨hb379, h⟩ | ⟨hb379, h⟩
      ·refine kx (guF rfl (congrArg Bool.not hb379) (mvO h376)) (kx (guF rfl (congrArg Bool.not hb379) (mvO h372)) (kx (guF rfl (congrArg Bool.not hb379) (bNeq rfl rfl)) (kx (pkF rfl (congrArg Bool.not hb379) rfl) (Rn (hA h373 (hA h374 (hN rfl hZ))) fun e380 h382 h383 h384 => ?_))))
       clear h371 h372 h373 h374 h375 h376
       obtain rfl := si h
       exact kd (show laws_FnExactReadDeals_c5_Q r312 _ _ from ⟨rfl, h382, h383, h384⟩)
      refine kx (gsF rfl (congrArg Bool.not hb379)) (kx (gsF rfl (congrArg Bool.not hb379)) (kx (gsF rfl (congrArg Bool.not hb379)) (kx (pkT rfl (congrArg Bool.not hb379) rfl) (Rn (hA h373 (hA h374 (hV (.bool true) rfl hZ))) fun e385 h387 h388 h389 => ?_))))
      clear h371 h372 h373 h374 h375 h376
      obtain rfl := si h
      exact kd (show laws_FnExactReadDeals_c5_Q r312 _ _ from ⟨rfl, h387, h388, h389⟩)) ?_
  revert h hr432
  revert r431
  intro y392 hr432 h
  intro x e390 M391 hq430
  obtain ⟨rfl, h393, h394, h395⟩ := hq430
  refine sN ?_
  rcases ite_some h with ⟨hb396, h⟩ | ⟨hb396, h⟩
  ·refine cT h395 hb396 (sq (Rg (kx (mvO rfl) (Rn (hV (.bool false) rfl hZ) fun e397 h399 => sN (xx (sR ?_))))))
   clear h393 h394 h395
   obtain rfl := si h
   exact eR (resT h399 res0) rfl
  obtain ⟨r406, hx405, h⟩ := bind_some h
  refine cF h395 hb396 (xx (sN (sq (Rg (kx (mvO rfl) (Rn (hV .nils h393 (hV (.int .i64 r312) h394 (hV (.int .i64 1) rfl hZ))) fun e400 h402 h403 h404 => sN (sq (Rg (kx (mvO h402) (kx (mvO h404) (kc (cl (v := .int .i64 r406) rfl (cns rfl (cns rfl rfl)) rfl (laws_heldDealS_ok ([] : List Deal) 1 _ hx405) nm) (kx (mvO rfl) (Rn (hA h403 (hN rfl hZ)) fun e407 h409 h410 => sN (sq (sq (Rg (kx (mvO h410) (kx (bLss rfl rfl) (Rn (hA h409 (hA h410 (hN rfl hZ))) fun e411 h413 h414 h415 => sN ?_)))))))))))))))))))
  clear h393 h394 h395 h402 h403 h409 h410
  rcases ite_some h with ⟨hb416, h⟩ | ⟨hb416, h⟩
  ·refine cT h415 hb416 (sq (Rg (kx (mvO rfl) (Rn (hV (.bool false) rfl hZ) fun e417 h419 => sN (xx (sR ?_))))))
   clear h413 h414 h415
   obtain rfl := si h
   exact eR (resT h419 res0) rfl
  refine cF h415 hb416 (xx (sN (sq (sq (Rg (kx (mvO h414) (kx (mvO h413) (kx (bNeq rfl rfl) (Rn (hN rfl hZ) fun e420 h422 => sN ?_)))))))))
  clear h413 h414 h415
  rcases ite_some h with ⟨hb423, h⟩ | ⟨hb423, h⟩
  ·refine cT h422 hb423 (sq (Rg (kx (mvO rfl) (Rn (hV (.bool false) rfl hZ) fun e424 h426 => sN (xx (sR ?_))))))
   clear h422
   obtain rfl := si h
   exact eR (resT h426 res0) rfl
  refine cF h422 hb423 (xx (sN (sq (Rg (kx (mvO rfl) (Rn (hV (.bool true) rfl hZ) fun e427 h429 => sN (xx ?_)))))))
  clear h422
  obtain rfl := si h
  exact eR (resT h429 res0) rfl
 obtain ⟨r495, hr496, h⟩ := bind_some h
 refine kc (cl (v := .tup [.nils, .int .i64 5]) rfl (cns rfl rfl) rfl (impl_ReadDeals_ok a1 _ hx367) nm) (kx (mvO rfl) (kx (exT rfl rfl) (kx (exT rfl rfl) (kx (mvO rfl) (kx (mvO rfl) (Rn (hA h358 (hA h359 (hA h360 (hA h361 (hV .nils rfl (hV (.int .i64 5) rfl hZ)))))) fun e433 h435 h436 h437 h438 h439 h440 => sN (sq (sq ?_))))))))
 clear h357 h358 h359 h360 h361 h362
 refine Ev.cut (Q1 := laws_FnExactReadDeals_c6_Q r312 r495) (by
     have h := hr496
     obtain ⟨r442, hx441, h⟩ := bind_some h
     refine Rg (kx (mvO h439) (kx (mvO h435) (kc (cl (v := .bool r442) rfl (cns rfl (cns rfl rfl)) rfl (laws_eqDealS_ok ([] : List Deal) r13 _ hx441) nm) (kx (uNot rfl) (kx (mvO rfl) ?_)))))
     rcases ite_some h with ⟨hb443, h⟩ | ⟨hb443, h⟩
     ·refine kx (guF rfl (congrArg Bool.not hb443) (mvO h440)) (kx (guF rfl (congrArg Bool.not hb443) (mvO h436)) (kx (guF rfl (congrArg Bool.not hb443) (bNeq rfl rfl)) (kx (pkF rfl (congrArg Bool.not hb443) rfl) (Rn (hA h437 (hA h438 (hN rfl hZ))) fun e444 h446 h447 h448 => ?_))))
      clear h435 h436 h437 h438 h439 h440
      obtain rfl := si h
      exact kd (show laws_FnExactReadDeals_c6_Q r312 _ _ from ⟨rfl, h446, h447, h448⟩)
     refine kx (gsF rfl (congrArg Bool.not hb443)) (kx (gsF rfl (congrArg Bool.not hb443)) (kx (gsF rfl (congrArg Bool.not hb443)) (kx (pkT rfl (congrArg Bool.not hb443) rfl) (Rn (hA h437 (hA h438 (hV (.bool true) rfl hZ))) fun e449 h451 h452 h453 => ?_))))
     clear h435 h436 h437 h438 h439 h440
     obtain rfl := si h
     exact kd (show laws_FnExactReadDeals_c6_Q r312 _ _ from ⟨rfl, h451, h452, h453⟩)) ?_
 revert h hr496
 revert r495
 intro y456 hr496 h
 intro x e454 M455 hq494
 obtain ⟨rfl, h457, h458, h459⟩ := hq494
 refine sN ?_
 rcases ite_some h with ⟨hb460, h⟩ | ⟨hb460, h⟩
 ·refine cT h459 hb460 (sq (Rg (kx (mvO rfl) (Rn (hV (.bool false) rfl hZ) fun e461 h463 => sN (xx (sR ?_))))))
  clear h457 h458 h459
  obtain rfl := si h
  exact eR (resT h463 res0) rfl
 obtain ⟨r470, hx469, h⟩ := bind_some h
 refine cF h459 hb460 (xx (sN (sq (Rg (kx (mvO rfl) (Rn (hV .nils h457 (hV (.int .i64 r312) h458 (hV (.int .i64 1) rfl hZ))) fun e464 h466 h467 h468 => sN (sq (Rg (kx (mvO h466) (kx (mvO h468) (kc (cl (v := .int .i64 r470) rfl (cns rfl (cns rfl rfl)) rfl (laws_heldDealS_ok ([] : List Deal) 1 _ hx469) nm) (kx (mvO rfl) (Rn (hA h467 (hN rfl hZ)) fun e471 h473 h474 => sN (sq (sq (Rg (kx (mvO h474) (kx (bLss rfl rfl) (Rn (hA h473 (hA h474 (hN rfl hZ))) fun e475 h477 h478 h479 => sN ?_)))))))))))))))))))
 clear h457 h458 h459 h466 h467 h473 h474
 rcases ite_some h with ⟨hb480, h⟩ | ⟨hb480, h⟩
 ·refine cT h479 hb480 (sq (Rg (kx (mvO rfl) (Rn (hV (.bool false) rfl hZ) fun e481 h483 => sN (xx (sR ?_))))))
  clear h477 h478 h479
  obtain rfl := si h
  exact eR (resT h483 res0) rfl
 refine cF h479 hb480 (xx (sN (sq (sq (Rg (kx (mvO h478) (kx (mvO h477) (kx (bNeq rfl rfl) (Rn (hN rfl hZ) fun e484 h486 => sN ?_)))))))))
 clear h477 h478 h479
 rcases ite_some h with ⟨hb487, h⟩ | ⟨hb487, h⟩
 ·refine cT h486 hb487 (sq (Rg (kx (mvO rfl) (Rn (hV (.bool false) rfl hZ) fun e488 h490 => sN (xx (sR ?_))))))
  clear h486
  obtain rfl := si h
  exact eR (resT h490 res0) rfl
 refine cF h486 hb487 (xx (sN (sq (Rg (kx (mvO rfl) (Rn (hV (.bool true) rfl hZ) fun e491 h493 => sN (xx ?_)))))))
 clear h486
 obtain rfl := si h
 exact eR (resT h493 res0) rfl
end Go.Proofs.YtbhbmgmnnkcmcaaDoor

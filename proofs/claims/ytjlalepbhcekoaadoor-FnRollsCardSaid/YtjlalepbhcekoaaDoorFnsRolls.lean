/- Printed by a program of ours (ext.py). -/
import Derived.Test.YtjlalepbhcekoaaDoorAbLib
import Derived.Test.YtjlalepbhcekoaaDoorProg
set_option linter.unusedVariables false
set_option linter.unusedSimpArgs false
set_option maxRecDepth 100000
set_option maxHeartbeats 2000000
namespace Go.Proofs.YtjlalepbhcekoaaDoor
open Go Go.Ab
noncomputable def cx : Cx := ⟨Tryd.prog, fun f => has [32, 33, 40, 41, 59, 96] f, fun f => has [49] f⟩
noncomputable abbrev pB := pB_ cx.P
noncomputable abbrev pLen := pLen_ cx.P
noncomputable abbrev pAl := pAl_ cx.P
noncomputable abbrev pK := pK_ cx
/-! ### f5: loop.example/g01263/laws.FnRolls -/
def f5_an : Ann := ⟨[(0, r0 [0, 1]), (1, r0 [0, 1, 38]), (2, r0 [4]), (3, r0 [0, 1, 5]), (4, ⟨[0], [], [], [], [0, 1, 5, 6], none, []⟩), (5, r0 [0, 1, 5, 6, 7]), (6, r0 [0, 1, 5, 6, 7, 44]), (7, r0 [0, 1, 5, 6, 7]), (8, ⟨[], [], [13], [15, 16], [0, 1, 5, 6, 7, 8, 9], none, []⟩), (9, r0 [0, 1, 5, 6, 7, 8, 62]), (10, r0 [4]), (11, ⟨[3], [], [], [], [0, 1, 5, 6, 7], none, []⟩), (12, ⟨[], [1], [], [], [1, 5, 6, 10, 11], none, []⟩), (13, ⟨[], [1], [], [], [1, 5, 6, 10, 11, 12, 13], none, []⟩), (14, r0 [1, 5, 6, 10, 11, 12, 13, 15]), (15, r0 [1, 5, 6, 10, 11, 12, 13, 15, 16, 17]), (16, r0 [1, 5, 6, 10, 12, 16, 132]), (17, r0 [4]), (18, r0 [1, 5, 6, 10, 12, 16, 18]), (19, r0 [1, 5, 6, 10, 12, 16, 18, 19]), (20, r0 [1, 5, 6, 10, 12, 16, 18, 19, 20]), (21, r0 [1, 5, 6, 10, 12, 16, 18, 19, 20, 136]), (22, r0 [1, 5, 6, 10, 12, 16, 18, 19, 20]), (23, r0 [1, 5, 6, 10, 12, 16, 18, 19, 20, 21, 22]), (24, r0 [1, 5, 6, 10, 12, 16, 18, 19, 20, 180]), (25, r0 [4]), (26, r0 [1, 5, 6, 10, 12, 16, 18, 19, 20]), (27, r0 [1, 5, 6, 10, 12, 16, 18, 19, 20]), (28, r0 [1, 6, 12, 18, 19, 23, 24]), (29, r0 [1, 6, 12, 18, 19, 23, 24, 25, 26]), (30, r0 [1, 6, 12, 240]), (31, r0 [4]), (32, r0 [1, 6, 12, 27]), (33, r0 [1, 6, 12, 28, 29]), (34, r0 [1, 6, 12, 259]), (35, r0 [4]), (36, r0 [1, 6, 12, 262]), (37, r0 [4]), (38, ⟨[0, 3], [], [7], [3, 6, 8], [1, 6, 30], some [4, 5], []⟩), (39, r0 [6, 30, 31]), (40, r0 [6, 30, 31]), (41, r0 [6, 31, 32, 33]), (42, ⟨[0, 2, 7], [8], [3, 6, 12], [2, 7, 8, 9, 10, 11, 13, 14], [31, 32, 33, 34, 35], some [4, 5], []⟩), (43, r0 [4])], [(6, [0, 1, 5, 6, 7]), (21, [1, 5, 6, 10, 12, 16, 18, 19, 20])]⟩
noncomputable def f5_r0 (c : CallF) : RF := rg [0, 1] <| aX 4 (pM (cn (.bool false))) <|
 aXZ
noncomputable def f5_r1 (c : CallF) : RF := rg [0, 1, 38] <| aX 36 (pM 0) <|
 aX 37 (pM 1) <|
 aX 38 (pK c false 6 [36, 37]) <|
 aXZ
noncomputable def f5_r2 (c : CallF) : RF := rg [4] <| aX 4 (pM (cn (.bool true))) <|
 aXZ
noncomputable def f5_r3 (c : CallF) : RF := rg [0, 1, 5] <| aX 39 (fun n e M => keep (aLitI 9 1 [(.str [107, 101, 110, 116]), (.str [101, 115, 115, 101, 120]), (.str [121, 111, 114, 107])] M)) <|
 aX 5 (pM 39) <|
 aXZ
noncomputable def f5_r4 (c : CallF) : RF := rg [0, 1, 5, 6] <| aX 40 (fun n e M => aLitO false n 27 3 [] M) <|
 aX 6 (pM 40) <|
 aXZ
noncomputable def f5_r5 (c : CallF) : RF := rg [0, 1, 5, 6, 7] <| aX 7 (pM (cn (.int .i64 0))) <|
 aXZ
noncomputable def f5_r6 (c : CallF) : RF := rg [0, 1, 5, 6, 7, 44] <| aX 41 (pM 7) <|
 aX 42 (pM 1) <|
 aX 43 (pK c false 16 [42, (cn (.int .i64 0)), (cn (.int .i64 4))]) <|
 aX 44 (pB .lss 2 41 43) <|
 aXZ
noncomputable def f5_r7 (c : CallF) : RF := rg [0, 1, 5, 6, 7] <| aX 45 (pM 7) <|
 aX 46 (pB .add 2 45 (cn (.int .i64 1))) <|
 aX 7 (pM 46) <|
 aXZ
noncomputable def f5_r8 (c : CallF) : RF := rgD [0, 1, 5, 6, 7, 8, 9] (aY 48 (pM 5) <|
 aY 49 (pM 7) <|
 aY 50 (pI 1 48 49) <|
 aY 51 (pL false 1 50) <|
 aY 52 (pM 7) <|
 aY 53 (fun n e M => keep (aConvI .u8 (eget e 52))) <|
 aY 54 (fun n e M => keep (aLitI 5 1 [(eget e 53)] M)) <|
 aY 55 (pM 0) <|
 aY 56 (fun n e M => aAppI 5 1 1 (eget e 54) (eget e 55) M) <|
 aY 57 (pK c false 7 [56]) <|
 aY 58 (pK c false 9 [51, 57]) <|
 aY 47 (pM 58) <|
 aY 59 (pE 0 47) <|
 aYc 60 (pE 1 47) <|
 aY 8 (pAl 27 3) <|
 aYZ)
 (aX0 (pS 3 8 59) <|
 aX 9 (pM 60) <|
 aXZ)
noncomputable def f5_r9 (c : CallF) : RF := rg [0, 1, 5, 6, 7, 8, 62] <| aX 61 (pM 9) <|
 aX 62 (pB .neq 2 61 (cn (.int .i64 0))) <|
 aXZ
noncomputable def f5_r10 (c : CallF) : RF := rg [4] <| aX 4 (pM (cn (.bool false))) <|
 aXZ
noncomputable def f5_r11 (c : CallF) : RF := rg [0, 1, 5, 6, 7] <| aX 63 (pM 6) <|
 aX 64 (pL true 3 8) <|
 aX 65 (fun n e M => keep (aLitI 27 3 [(eget e 64)] M)) <|
 aX 66 (fun n e M => aAppO n 27 3 48 (eget e 63) (eget e 65) M) <|
 aX 6 (pM 66) <|
 aXZ
noncomputable def f5_r12 (c : CallF) : RF := rg [1, 5, 6, 10, 11] <| aX 68 (pM 6) <|
 aX 69 (pK c true 32 [68]) <|
 aX 67 (pM 69) <|
 aX 70 (pE 0 67) <|
 aX 71 (pE 1 67) <|
 aX 10 (pAl 74 2) <|
 aX0 (pS 2 10 70) <|
 aX 11 (pM 71) <|
 aXZ
noncomputable def f5_r13 (c : CallF) : RF := rg [1, 5, 6, 10, 11, 12, 13] <| aX 73 (pM 6) <|
 aX 74 (pK c true 33 [73]) <|
 aX 72 (pM 74) <|
 aX 75 (pE 0 72) <|
 aX 76 (pE 1 72) <|
 aX 12 (pAl 74 2) <|
 aX0 (pS 2 12 75) <|
 aX 13 (pM 76) <|
 aXZ
noncomputable def f5_r14 (c : CallF) : RF := rg [1, 5, 6, 10, 11, 12, 13, 15] <| aX 78 (pL true 2 12) <|
 aX 79 (pK c false 34 [78]) <|
 aX 77 (pM 79) <|
 aX 80 (pE 0 77) <|
 aX 81 (pE 1 77) <|
 aX 14 (pM 80) <|
 aX 15 (pM 81) <|
 aXZ
noncomputable def f5_r15 (c : CallF) : RF := rg [1, 5, 6, 10, 11, 12, 13, 15, 16, 17] <| aX 83 (pL true 2 12) <|
 aX 84 (pK c false 36 [83]) <|
 aX 85 (pK c false 35 [84]) <|
 aX 82 (pM 85) <|
 aX 86 (pE 0 82) <|
 aX 87 (pE 1 82) <|
 aX 16 (pAl 74 2) <|
 aX0 (pS 2 16 86) <|
 aX 17 (pM 87) <|
 aXZ
noncomputable def f5_r16 (c : CallF) : RF := rg [1, 5, 6, 10, 12, 16, 132] <| aX 88 (pM 11) <|
 aX 89 (pM 13) <|
 aX 90 (pB .neq 2 88 89) <|
 aX 91 (pM 90) <|
 aX 92 (pG 91 false (pM 11)) <|
 aX 93 (pG 91 false (pB .neq 2 92 (cn (.int .i64 0)))) <|
 aX 94 (pP 91 (cn (.bool true)) 93) <|
 aX 95 (pM 94) <|
 aX 96 (pG 95 false (pF 0 1 10)) <|
 aX 97 (pG 95 false (pL false 1 96)) <|
 aX 98 (pG 95 false (pLen 72 97)) <|
 aX 99 (pG 95 false (pM 6)) <|
 aX 100 (pG 95 false (pLen 72 99)) <|
 aX 101 (pG 95 false (pB .neq 3 98 100)) <|
 aX 102 (pP 95 (cn (.bool true)) 101) <|
 aX 103 (pM 102) <|
 aX 104 (pG 103 false (pF 1 1 10)) <|
 aX 105 (pG 103 false (pL false 1 104)) <|
 aX 106 (pG 103 false (pF 1 1 12)) <|
 aX 107 (pG 103 false (pL false 1 106)) <|
 aX 108 (pG 103 false (pB .neq 2 105 107)) <|
 aX 109 (pP 103 (cn (.bool true)) 108) <|
 aX 110 (pM 109) <|
 aX 111 (pG 110 false (pM 15)) <|
 aX 112 (pG 110 false (pB .neq 2 111 (cn (.int .i64 6)))) <|
 aX 113 (pP 110 (cn (.bool true)) 112) <|
 aX 114 (pM 113) <|
 aX 115 (pG 114 false (pM 17)) <|
 aX 116 (pG 114 false (pB .neq 2 115 (cn (.int .i64 0)))) <|
 aX 117 (pP 114 (cn (.bool true)) 116) <|
 aX 118 (pM 117) <|
 aX 119 (pG 118 false (pF 1 1 16)) <|
 aX 120 (pG 118 false (pL false 1 119)) <|
 aX 121 (pG 118 false (pF 1 1 12)) <|
 aX 122 (pG 118 false (pL false 1 121)) <|
 aX 123 (pG 118 false (pB .neq 2 120 122)) <|
 aX 124 (pP 118 (cn (.bool true)) 123) <|
 aX 125 (pM 124) <|
 aX 126 (pG 125 false (pF 0 1 16)) <|
 aX 127 (pG 125 false (pL false 1 126)) <|
 aX 128 (pG 125 false (pLen 72 127)) <|
 aX 129 (pG 125 false (pM 6)) <|
 aX 130 (pG 125 false (pLen 72 129)) <|
 aX 131 (pG 125 false (pB .neq 3 128 130)) <|
 aX 132 (pP 125 (cn (.bool true)) 131) <|
 aXZ
noncomputable def f5_r17 (c : CallF) : RF := rg [4] <| aX 4 (pM (cn (.bool false))) <|
 aXZ
noncomputable def f5_r18 (c : CallF) : RF := rg [1, 5, 6, 10, 12, 16, 18] <| aX 18 (pM (cn (.int .i64 0))) <|
 aXZ
noncomputable def f5_r19 (c : CallF) : RF := rg [1, 5, 6, 10, 12, 16, 18, 19] <| aX 19 (pM (cn (.int .i64 0))) <|
 aXZ
noncomputable def f5_r20 (c : CallF) : RF := rg [1, 5, 6, 10, 12, 16, 18, 19, 20] <| aX 20 (pM (cn (.int .i64 0))) <|
 aXZ
noncomputable def f5_r21 (c : CallF) : RF := rg [1, 5, 6, 10, 12, 16, 18, 19, 20, 136] <| aX 133 (pM 20) <|
 aX 134 (pM 6) <|
 aX 135 (pLen 72 134) <|
 aX 136 (pB .lss 3 133 135) <|
 aXZ
noncomputable def f5_r22 (c : CallF) : RF := rg [1, 5, 6, 10, 12, 16, 18, 19, 20] <| aX 137 (pM 20) <|
 aX 138 (pB .add 3 137 (cn (.int .i64 1))) <|
 aX 20 (pM 138) <|
 aXZ
noncomputable def f5_r23 (c : CallF) : RF := rgD [1, 5, 6, 10, 12, 16, 18, 19, 20, 21, 22] (aY 140 (pL true 2 12) <|
 aY 141 (pM 5) <|
 aY 142 (pM 20) <|
 aY 143 (pI 1 141 142) <|
 aY 144 (pL false 1 143) <|
 aY 145 (pK c false 37 [140, 144]) <|
 aY 139 (pM 145) <|
 aY 146 (pE 0 139) <|
 aY 147 (pE 1 139) <|
 aY 21 (pM 146) <|
 aY 22 (pM 147) <|
 aYZ)
 (aXZ)
noncomputable def f5_r24 (c : CallF) : RF := rgD [1, 5, 6, 10, 12, 16, 18, 19, 20, 180] (aY 148 (pF 0 1 10) <|
 aY 149 (pL false 1 148) <|
 aY 150 (pM 20) <|
 aY 151 (pI 3 149 150) <|
 aY 152 (pL true 3 151) <|
 aY 153 (pM 6) <|
 aY 154 (pM 20) <|
 aY 155 (pI 3 153 154) <|
 aY 156 (pL true 3 155) <|
 aY 157 (pK c false 13 [152, 156]) <|
 aY 158 (pU .not 157) <|
 aY 159 (pM 158) <|
 aY 160 (pG 159 false (pF 0 1 16)) <|
 aY 161 (pG 159 false (pL false 1 160)) <|
 aY 162 (pG 159 false (pM 20)) <|
 aY 163 (pG 159 false (pI 3 161 162)) <|
 aY 164 (pG 159 false (pL true 3 163)) <|
 aY 165 (pG 159 false (pM 6)) <|
 aY 166 (pG 159 false (pM 20)) <|
 aY 167 (pG 159 false (pI 3 165 166)) <|
 aY 168 (pG 159 false (pL true 3 167)) <|
 aY 169 (pG 159 false (pK c false 13 [164, 168])) <|
 aY 170 (pG 159 false (pU .not 169)) <|
 aY 171 (pP 159 (cn (.bool true)) 170) <|
 aY 172 (pM 171) <|
 aY 173 (pG 172 false (pM 22)) <|
 aY 174 (pG 172 false (pB .neq 2 173 (cn (.int .i64 0)))) <|
 aY 175 (pP 172 (cn (.bool true)) 174) <|
 aY 176 (pM 175) <|
 aY 177 (pG 176 false (pM 21)) <|
 aY 178 (pG 176 false (pM 20)) <|
 aY 179 (pG 176 false (pB .neq 2 177 178)) <|
 aY 180 (pP 176 (cn (.bool true)) 179) <|
 aYZ)
 (aXZ)
noncomputable def f5_r25 (c : CallF) : RF := rg [4] <| aX 4 (pM (cn (.bool false))) <|
 aXZ
noncomputable def f5_r26 (c : CallF) : RF := rg [1, 5, 6, 10, 12, 16, 18, 19, 20] <| aX 181 (pM 18) <|
 aX 182 (pM 6) <|
 aX 183 (pM 20) <|
 aX 184 (pI 3 182 183) <|
 aX 185 (pF 2 1 184) <|
 aX 186 (pL false 1 185) <|
 aX 187 (fun n e M => keep (aMax true (eget e 186) (.int .i64 0))) <|
 aX 188 (pB .add 2 181 187) <|
 aX 18 (pM 188) <|
 aXZ
noncomputable def f5_r27 (c : CallF) : RF := rg [1, 5, 6, 10, 12, 16, 18, 19, 20] <| aX 189 (pM 19) <|
 aX 190 (pM 6) <|
 aX 191 (pM 20) <|
 aX 192 (pI 3 190 191) <|
 aX 193 (pF 2 1 192) <|
 aX 194 (pL false 1 193) <|
 aX 195 (fun n e M => keep (aMax true (eget e 189) (eget e 194))) <|
 aX 19 (pM 195) <|
 aXZ
noncomputable def f5_r28 (c : CallF) : RF := rg [1, 6, 12, 18, 19, 23, 24] <| aX 197 (pL true 2 12) <|
 aX 198 (pK c false 38 [197]) <|
 aX 196 (pM 198) <|
 aX 199 (pE 0 196) <|
 aX 200 (pE 1 196) <|
 aX 23 (pM 199) <|
 aX 24 (pM 200) <|
 aXZ
noncomputable def f5_r29 (c : CallF) : RF := rg [1, 6, 12, 18, 19, 23, 24, 25, 26] <| aX 202 (pL true 2 12) <|
 aX 203 (pK c false 39 [202]) <|
 aX 201 (pM 203) <|
 aX 204 (pE 0 201) <|
 aX 205 (pE 1 201) <|
 aX 25 (pM 204) <|
 aX 26 (pM 205) <|
 aXZ
noncomputable def f5_r30 (c : CallF) : RF := rg [1, 6, 12, 240] <| aX 206 (pF 1 1 12) <|
 aX 207 (pL false 1 206) <|
 aX 208 (pM 18) <|
 aX 209 (pB .neq 2 207 208) <|
 aX 210 (pM 209) <|
 aX 211 (pG 210 false (pM 24)) <|
 aX 212 (pG 210 false (pM 26)) <|
 aX 213 (pG 210 false (pB .neq 2 211 212)) <|
 aX 214 (pP 210 (cn (.bool true)) 213) <|
 aX 215 (pM 214) <|
 aX 216 (pG 215 false (pM 23)) <|
 aX 217 (pG 215 false (pM 25)) <|
 aX 218 (pG 215 false (pB .neq 2 216 217)) <|
 aX 219 (pP 215 (cn (.bool true)) 218) <|
 aX 220 (pM 219) <|
 aX 221 (pG 220 false (pM 24)) <|
 aX 222 (pG 220 false (pB .eql 2 221 (cn (.int .i64 0)))) <|
 aX 223 (pG 220 false (pM 19)) <|
 aX 224 (pG 220 false (pB .gtr 2 223 (cn (.int .i64 0)))) <|
 aX 225 (pG 220 false (pB .neq 4 222 224)) <|
 aX 226 (pP 220 (cn (.bool true)) 225) <|
 aX 227 (pM 226) <|
 aX 228 (pG 227 false (pM 24)) <|
 aX 229 (pG 227 false (pB .eql 2 228 (cn (.int .i64 0)))) <|
 aX 230 (pG 227 false (pM 229)) <|
 aX 231 (pG 230 true (pF 0 1 12)) <|
 aX 232 (pG 230 true (pL false 1 231)) <|
 aX 233 (pG 230 true (pM 25)) <|
 aX 234 (pG 230 true (pI 3 232 233)) <|
 aX 235 (pG 230 true (pF 2 1 234)) <|
 aX 236 (pG 230 true (pL false 1 235)) <|
 aX 237 (pG 230 true (pM 19)) <|
 aX 238 (pG 230 true (pB .neq 2 236 237)) <|
 aX 239 (pG 227 false (pP 230 238 (cn (.bool false)))) <|
 aX 240 (pP 227 (cn (.bool true)) 239) <|
 aXZ
noncomputable def f5_r31 (c : CallF) : RF := rg [4] <| aX 4 (pM (cn (.bool false))) <|
 aXZ
noncomputable def f5_r32 (c : CallF) : RF := rg [1, 6, 12, 27] <| aX 241 (pF 0 1 12) <|
 aX 242 (pL false 1 241) <|
 aX 243 (pF 1 1 12) <|
 aX 244 (pL false 1 243) <|
 aX 245 (pB .add 2 244 (cn (.int .i64 1))) <|
 aX 246 (fun n e M => keep (aBuild (zeroOf cx.P 74) [(0, 1, (eget e 242)), (1, 1, (eget e 245))] M)) <|
 aX 27 (pAl 74 2) <|
 aX0 (pS 2 27 246) <|
 aXZ
noncomputable def f5_r33 (c : CallF) : RF := rg [1, 6, 12, 28, 29] <| aX 248 (pL true 2 27) <|
 aX 249 (pK c false 34 [248]) <|
 aX 247 (pM 249) <|
 aX 250 (pE 0 247) <|
 aX 251 (pE 1 247) <|
 aX 28 (pM 250) <|
 aX 29 (pM 251) <|
 aXZ
noncomputable def f5_r34 (c : CallF) : RF := rg [1, 6, 12, 259] <| aX 252 (pM 29) <|
 aX 253 (pB .neq 2 252 (cn (.int .i64 0))) <|
 aX 254 (pM 253) <|
 aX 255 (pG 254 false (pM 28)) <|
 aX 256 (pG 254 false (pM 6)) <|
 aX 257 (pG 254 false (pLen 72 256)) <|
 aX 258 (pG 254 false (pB .neq 2 255 257)) <|
 aX 259 (pP 254 (cn (.bool true)) 258) <|
 aXZ
noncomputable def f5_r35 (c : CallF) : RF := rg [4] <| aX 4 (pM (cn (.bool false))) <|
 aXZ
noncomputable def f5_r36 (c : CallF) : RF := rg [1, 6, 12, 262] <| aX 260 (pM 6) <|
 aX 261 (pLen 72 260) <|
 aX 262 (pB .eql 3 261 (cn (.int .i64 0))) <|
 aXZ
noncomputable def f5_r37 (c : CallF) : RF := rg [4] <| aX 4 (pM (cn (.bool true))) <|
 aXZ
noncomputable def f5_r38 (c : CallF) : RF := rgS [1, 6, 30] (aQ 0 false (some 263) (fun n e M => aLitO false n 27 3 [] M) <|
 aQ 1 false (some 264) (pF 0 1 12) <|
 aQ 2 false (some 265) (pL false 1 264) <|
 aQs 4 false (some 267) (pF 1 1 12) <|
 aQs 5 false (some 268) (pL false 1 267) <|
 aQc 7 true (some 30) (pAl 74 2) <|
 aQZ)
 (aW [0, 1, 2] (some 266) (fun n e M => aAppO n 27 3 48 (eget e 263) (eget e 265) M) <|
 aW [0, 1, 2, 3, 4, 5] (some 269) (fun n e M => keep (aBuild (zeroOf cx.P 74) [(0, 1, (eget e 266)), (1, 1, (eget e 268))] M)) <|
 aW [0, 1, 2, 3, 4, 5, 6, 7] none (pS 2 30 269) <|
 aWZ)
noncomputable def f5_r39 (c : CallF) : RF := rg [6, 30, 31] <| aX 270 (pM 1) <|
 aX 271 (pM 6) <|
 aX 272 (pLen 72 271) <|
 aX 273 (pK c false 16 [270, (cn (.int .i64 1)), 272]) <|
 aX 31 (pM 273) <|
 aXZ
noncomputable def f5_r40 (c : CallF) : RF := rg [6, 30, 31] <| aX 274 (pF 0 1 30) <|
 aX 275 (pL false 1 274) <|
 aX 276 (pM 31) <|
 aX 277 (pI 3 275 276) <|
 aX 278 (pF 2 1 277) <|
 aX 279 (pL false 1 278) <|
 aX 280 (pB .sub 2 279 (cn (.int .i64 1))) <|
 aX 281 (pI 3 275 276) <|
 aX 282 (pF 2 1 281) <|
 aX0 (pS 1 282 280) <|
 aXZ
noncomputable def f5_r41 (c : CallF) : RF := rg [6, 31, 32, 33] <| aX 284 (pL true 2 30) <|
 aX 285 (pK c false 34 [284]) <|
 aX 283 (pM 285) <|
 aX 286 (pE 0 283) <|
 aX 287 (pE 1 283) <|
 aX 32 (pM 286) <|
 aX 33 (pM 287) <|
 aXZ
noncomputable def f5_r42 (c : CallF) : RF := rgS [31, 32, 33, 34, 35] (aQ 0 false (some 289) (fun n e M => aLitO false n 27 3 [] M) <|
 aQ 1 false (some 290) (pM 6) <|
 aQc 3 false (some 292) (pM 6) <|
 aQs 4 false (some 293) (pI 3 292 (cn (.int .i64 0))) <|
 aQs 5 false (some 294) (pL true 3 293) <|
 aQc 6 false (some 295) (fun n e M => keep (aLitI 27 3 [(eget e 294)] M)) <|
 aQc 12 true (some 34) (pAl 74 2) <|
 aQZ)
 (aW [0, 1] (some 291) (fun n e M => aAppO n 27 3 48 (eget e 289) (eget e 290) M) <|
 aW [0, 1, 2, 3, 4, 5, 6] (some 296) (fun n e M => aAppO n 27 3 48 (eget e 291) (eget e 295) M) <|
 aW [0, 1, 2, 3, 4, 5, 6, 7] (some 297) (pK c true 32 [296]) <|
 aW [0, 1, 2, 3, 4, 5, 6, 7, 8] (some 288) (pM 297) <|
 aW [0, 1, 2, 3, 4, 5, 6, 7, 8, 9] (some 298) (pE 0 288) <|
 aW [0, 1, 2, 3, 4, 5, 6, 7, 8, 9] (some 299) (pE 1 288) <|
 aW [0, 1, 2, 3, 4, 5, 6, 7, 8, 9, 10, 12] none (pS 2 34 298) <|
 aW [0, 1, 2, 3, 4, 5, 6, 7, 8, 9, 10, 11, 12, 13] (some 35) (pM 299) <|
 aWZ)
noncomputable def f5_r43 (c : CallF) : RF := rg [4] <| aX 300 (pM 33) <|
 aX 301 (pB .eql 2 300 (cn (.int .i64 0))) <|
 aX 302 (pM 301) <|
 aX 303 (pG 302 true (pM 32)) <|
 aX 304 (pG 302 true (pM 31)) <|
 aX 305 (pG 302 true (pB .eql 2 303 304)) <|
 aX 306 (pP 302 305 (cn (.bool false))) <|
 aX 307 (pM 306) <|
 aX 308 (pG 307 true (pM 35)) <|
 aX 309 (pG 307 true (pB .eql 2 308 (cn (.int .i64 4)))) <|
 aX 310 (pP 307 309 (cn (.bool false))) <|
 aX 311 (pM 310) <|
 aX 312 (pG 311 true (pF 0 1 34)) <|
 aX 313 (pG 311 true (pL false 1 312)) <|
 aX 314 (pG 311 true (pLen 72 313)) <|
 aX 315 (pG 311 true (pB .eql 3 314 (cn (.int .i64 0)))) <|
 aX 316 (pP 311 315 (cn (.bool false))) <|
 aX 4 (pM 316) <|
 aXZ
noncomputable def f5_l6 (c : CallF) (k : Nat) : St :=
 (bSeq (bSeq (bReg (f5_r6 c))
 (bCond (.tmp 44) (bEx .nrm) (bEx (.ext 0))))
 (bSeq (bBlock 1 (bSeq (bReg (f5_r8 c))
 (bSeq (bSeq (bReg (f5_r9 c))
 (bCond (.tmp 62) (bSeq (bReg (f5_r10 c))
 (bEx .ret)) (bEx .nrm)))
 (bReg (f5_r11 c)))))
 (bReg (f5_r7 c))))
noncomputable def f5_l21 (c : CallF) (k : Nat) : St :=
 (bSeq (bSeq (bReg (f5_r21 c))
 (bCond (.tmp 136) (bEx .nrm) (bEx (.ext 2))))
 (bSeq (bBlock 3 (bSeq (bReg (f5_r23 c))
 (bSeq (bSeq (bReg (f5_r24 c))
 (bCond (.tmp 180) (bSeq (bReg (f5_r25 c))
 (bEx .ret)) (bEx .nrm)))
 (bSeq (bReg (f5_r26 c))
 (bReg (f5_r27 c))))))
 (bReg (f5_r22 c))))
noncomputable def f5 (c : CallF) (k : Nat) : St :=
 (bSeq (bReg (f5_r0 c))
 (bSeq (bSeq (bReg (f5_r1 c))
 (bCond (.tmp 38) (bSeq (bReg (f5_r2 c))
 (bEx .ret)) (bEx .nrm)))
 (bSeq (bReg (f5_r3 c))
 (bSeq (bReg (f5_r4 c))
 (bSeq (bSeq (bReg (f5_r5 c))
 (bBlock 0 (bLoop [0, 1, 5, 6, 7] (f5_l6 c k) k)))
 (bSeq (bReg (f5_r12 c))
 (bSeq (bReg (f5_r13 c))
 (bSeq (bReg (f5_r14 c))
 (bSeq (bReg (f5_r15 c))
 (bSeq (bSeq (bReg (f5_r16 c))
 (bCond (.tmp 132) (bSeq (bReg (f5_r17 c))
 (bEx .ret)) (bEx .nrm)))
 (bSeq (bReg (f5_r18 c))
 (bSeq (bReg (f5_r19 c))
 (bSeq (bSeq (bReg (f5_r20 c))
 (bBlock 2 (bLoop [1, 5, 6, 10, 12, 16, 18, 19, 20] (f5_l21 c k) k)))
 (bSeq (bReg (f5_r28 c))
 (bSeq (bReg (f5_r29 c))
 (bSeq (bSeq (bReg (f5_r30 c))
 (bCond (.tmp 240) (bSeq (bReg (f5_r31 c))
 (bEx .ret)) (bEx .nrm)))
 (bSeq (bReg (f5_r32 c))
 (bSeq (bReg (f5_r33 c))
 (bSeq (bSeq (bReg (f5_r34 c))
 (bCond (.tmp 259) (bSeq (bReg (f5_r35 c))
 (bEx .ret)) (bEx .nrm)))
 (bSeq (bSeq (bReg (f5_r36 c))
 (bCond (.tmp 262) (bSeq (bReg (f5_r37 c))
 (bEx .ret)) (bEx .nrm)))
 (bSeq (bReg (f5_r38 c))
 (bSeq (bReg (f5_r39 c))
 (bSeq (bReg (f5_r40 c))
 (bSeq (bReg (f5_r41 c))
 (bSeq (bReg (f5_r42 c))
 (bSeq (bReg (f5_r43 c))
 (bEx .ret)))))))))))))))))))))))))))
theorem f5_eq (c : CallF) (k : Nat) : exec cx c 317 f5_an k (Tryd.f5.body.getD .skip) = f5 c k := by kernel_rfl
/-! ### f6: loop.example/g01263/laws.a2Long -/
def f6_an : Ann := ⟨[(0, r0 [0, 1]), (1, r0 [4])], []⟩
noncomputable def f6_r0 (c : CallF) : RF := rg [0, 1] <| aX 4 (pM (cn (.bool false))) <|
 aXZ
noncomputable def f6_r1 (c : CallF) : RF := rg [4] <| aX 5 (pM 0) <|
 aX 6 (pLen 22 5) <|
 aX 7 (pB .gtr 3 6 (cn (.int .i64 3000))) <|
 aX 8 (pM 7) <|
 aX 9 (pG 8 false (pM 1)) <|
 aX 10 (pG 8 false (pLen 22 9)) <|
 aX 11 (pG 8 false (pB .gtr 3 10 (cn (.int .i64 3000)))) <|
 aX 12 (pP 8 (cn (.bool true)) 11) <|
 aX 4 (pM 12) <|
 aXZ
noncomputable def f6 (c : CallF) (k : Nat) : St :=
 (bSeq (bReg (f6_r0 c))
 (bSeq (bReg (f6_r1 c))
 (bEx .ret)))
theorem f6_eq (c : CallF) (k : Nat) : exec cx c 13 f6_an k (Tryd.f6.body.getD .skip) = f6 c k := by kernel_rfl
/-! ### f7: loop.example/g01263/spec.A2Items -/
def f7_an : Ann := ⟨[(0, r0 [0]), (1, r0 [2])], []⟩
noncomputable def f7_r0 (c : CallF) : RF := rg [0] <| aX 2 (pM (cn .nils)) <|
 aXZ
noncomputable def f7_r1 (c : CallF) : RF := rg [2] <| aX 3 (pM 0) <|
 aX 4 (pK c false 41 [3]) <|
 aX 5 (pK c false 40 [4]) <|
 aX 2 (pM 5) <|
 aXZ
noncomputable def f7 (c : CallF) (k : Nat) : St :=
 (bSeq (bReg (f7_r0 c))
 (bSeq (bReg (f7_r1 c))
 (bEx .ret)))
theorem f7_eq (c : CallF) (k : Nat) : exec cx c 6 f7_an k (Tryd.f7.body.getD .skip) = f7 c k := by kernel_rfl
/-! ### f8: loop.example/g01263/impl.MakeAccount -/
def f8_an : Ann := ⟨[(0, r0 [0, 1, 4]), (1, r0 [0, 1, 4, 6]), (2, ⟨[1], [], [], [], [4, 5], none, []⟩), (3, r0 [0, 1, 4, 11]), (4, ⟨[1], [], [], [], [4, 5], none, []⟩), (5, ⟨[6], [], [], [], [4, 5], none, []⟩)], []⟩
noncomputable def f8_r0 (c : CallF) : RF := rg [0, 1, 4] <| aX 4 (pAl 27 3) <|
 aX 5 (pM (cn (.int .i64 0))) <|
 aXZ
noncomputable def f8_r1 (c : CallF) : RF := rg [0, 1, 4, 6] <| aX 7 (pM 1) <|
 aX 8 (pK c false 15 [7]) <|
 aX 9 (pU .not 8) <|
 aX 6 (pM 9) <|
 aXZ
noncomputable def f8_r2 (c : CallF) : RF := rg [4, 5] <| aX 10 (fun n e M => keep (aBuild (zeroOf cx.P 27) [] M)) <|
 aX0 (pSK 3 4 10) <|
 aX 5 (pM (cn (.int .i64 1))) <|
 aXZ
noncomputable def f8_r3 (c : CallF) : RF := rg [0, 1, 4, 11] <| aX 12 (pM 0) <|
 aX 13 (pK c false 42 [12, (cn (.int .i64 16))]) <|
 aX 14 (pU .not 13) <|
 aX 11 (pM 14) <|
 aXZ
noncomputable def f8_r4 (c : CallF) : RF := rg [4, 5] <| aX 15 (fun n e M => keep (aBuild (zeroOf cx.P 27) [] M)) <|
 aX0 (pSK 3 4 15) <|
 aX 5 (pM (cn (.int .i64 2))) <|
 aXZ
noncomputable def f8_r5 (c : CallF) : RF := rg [4, 5] <| aX 16 (pM 0) <|
 aX 17 (pM 1) <|
 aX 18 (pK c false 43 [17]) <|
 aX 19 (pM 1) <|
 aX 20 (pK c false 44 [19]) <|
 aX 21 (fun n e M => keep (aBuild (zeroOf cx.P 27) [(0, 1, (eget e 16)), (1, 1, (eget e 18)), (2, 1, (eget e 20))] M)) <|
 aX0 (pSK 3 4 21) <|
 aX 5 (pM (cn (.int .i64 0))) <|
 aXZ
noncomputable def f8 (c : CallF) (k : Nat) : St :=
 (bSeq (bReg (f8_r0 c))
 (bSeq (bBlock 0 (bSeq (bReg (f8_r1 c))
 (bCond (.tmp 6) (bSeq (bReg (f8_r2 c))
 (bEx .ret)) (bSeq (bReg (f8_r3 c))
 (bCond (.tmp 11) (bSeq (bReg (f8_r4 c))
 (bEx .ret)) (bEx .nrm))))))
 (bSeq (bReg (f8_r5 c))
 (bEx .ret))))
theorem f8_eq (c : CallF) (k : Nat) : exec cx c 22 f8_an k (Tryd.f8.body.getD .skip) = f8 c k := by kernel_rfl
/-! ### f9: loop.example/g01263/spec.MakeAccount -/
def f9_an : Ann := ⟨[(0, r0 [0, 1, 4]), (1, r0 [0, 1, 4, 8]), (2, ⟨[1], [], [], [], [4, 5], none, []⟩), (3, r0 [0, 1, 4, 12]), (4, ⟨[1], [], [], [], [4, 5], none, []⟩), (5, ⟨[3], [], [], [], [4, 5], none, []⟩)], []⟩
noncomputable def f9_r0 (c : CallF) : RF := rg [0, 1, 4] <| aX 4 (pAl 27 3) <|
 aX 5 (pM (cn (.int .i64 0))) <|
 aXZ
noncomputable def f9_r1 (c : CallF) : RF := rg [0, 1, 4, 8] <| aX 6 (pM 1) <|
 aX 7 (pK c false 45 [6]) <|
 aX 8 (pU .not 7) <|
 aXZ
noncomputable def f9_r2 (c : CallF) : RF := rg [4, 5] <| aX 9 (fun n e M => keep (aBuild (zeroOf cx.P 27) [] M)) <|
 aX0 (pSK 3 4 9) <|
 aX 5 (pM (cn (.int .i64 1))) <|
 aXZ
noncomputable def f9_r3 (c : CallF) : RF := rg [0, 1, 4, 12] <| aX 10 (pM 0) <|
 aX 11 (pK c false 46 [10]) <|
 aX 12 (pU .not 11) <|
 aXZ
noncomputable def f9_r4 (c : CallF) : RF := rg [4, 5] <| aX 13 (fun n e M => keep (aBuild (zeroOf cx.P 27) [] M)) <|
 aX0 (pSK 3 4 13) <|
 aX 5 (pM (cn (.int .i64 2))) <|
 aXZ
noncomputable def f9_r5 (c : CallF) : RF := rg [4, 5] <| aX 14 (pM 0) <|
 aX 15 (pM 1) <|
 aX 16 (pK c false 47 [14, 15]) <|
 aX0 (pSK 3 4 16) <|
 aX 5 (pM (cn (.int .i64 0))) <|
 aXZ
noncomputable def f9 (c : CallF) (k : Nat) : St :=
 (bSeq (bReg (f9_r0 c))
 (bSeq (bSeq (bReg (f9_r1 c))
 (bCond (.tmp 8) (bSeq (bReg (f9_r2 c))
 (bEx .ret)) (bEx .nrm)))
 (bSeq (bSeq (bReg (f9_r3 c))
 (bCond (.tmp 12) (bSeq (bReg (f9_r4 c))
 (bEx .ret)) (bEx .nrm)))
 (bSeq (bReg (f9_r5 c))
 (bEx .ret)))))
theorem f9_eq (c : CallF) (k : Nat) : exec cx c 17 f9_an k (Tryd.f9.body.getD .skip) = f9 c k := by kernel_rfl
/-! ### f12: loop.example/g01263/impl.AccountText -/
def f12_an : Ann := ⟨[(0, r0 [1]), (1, r0 [1, 15]), (2, r0 [2]), (3, r0 [1, 3]), (4, r0 [1, 3, 20, 21, 22]), (5, r0 [1, 3, 20, 21, 22, 23]), (6, r0 [1, 3, 5, 20, 21, 22]), (7, r0 [1, 3, 20, 21, 22]), (8, r0 [1, 3, 20, 21, 22]), (9, r0 [1, 3, 40]), (10, r0 [2]), (11, r0 [1, 3, 51]), (12, r0 [2]), (13, r0 [2])], [(5, [1, 3, 20, 21, 22])]⟩
noncomputable def f12_r0 (c : CallF) : RF := rg [1] <| aX 1 (pBox 3 0) <|
 aX 2 (pM (cn (.str []))) <|
 aXZ
noncomputable def f12_r1 (c : CallF) : RF := rg [1, 15] <| aX 6 (pL true 3 1) <|
 aX 7 (pK c false 14 [6]) <|
 aX 8 (pU .not 7) <|
 aX 9 (pM 8) <|
 aX 10 (pG 9 false (pF 2 1 1)) <|
 aX 11 (pG 9 false (pL false 1 10)) <|
 aX 12 (pG 9 false (pK c false 51 [11])) <|
 aX 13 (pG 9 false (pK c false 50 [12])) <|
 aX 14 (pG 9 false (pU .not 13)) <|
 aX 15 (pP 9 (cn (.bool true)) 14) <|
 aXZ
noncomputable def f12_r2 (c : CallF) : RF := rg [2] <| aX 2 (pM (cn (.str []))) <|
 aXZ
noncomputable def f12_r3 (c : CallF) : RF := rg [1, 3] <| aX 16 (pF 0 1 1) <|
 aX 17 (pL false 1 16) <|
 aX 18 (pB .add 9 17 (cn (.str [10]))) <|
 aX 3 (pM 18) <|
 aXZ
noncomputable def f12_r4 (c : CallF) : RF := rg [1, 3, 20, 21, 22] <| aX 19 (pF 1 1 1) <|
 aX 20 (pL false 1 19) <|
 aX 21 (pLen 24 20) <|
 aX 22 (pM (cn (.int .i64 0))) <|
 aXZ
noncomputable def f12_r5 (c : CallF) : RF := rg [1, 3, 20, 21, 22, 23] <| aX 23 (pB .lss 3 22 21) <|
 aXZ
noncomputable def f12_r6 (c : CallF) : RF := rg [1, 3, 5, 20, 21, 22] <| aX 24 (pI 2 20 22) <|
 aX 25 (pL true 2 24) <|
 aX 5 (pAl 42 2) <|
 aX0 (pS 2 5 25) <|
 aXZ
noncomputable def f12_r7 (c : CallF) : RF := rgD [1, 3, 20, 21, 22] (aY 26 (pM 3) <|
 aY 27 (pK c false 52 []) <|
 aY 28 (pF 0 1 5) <|
 aY 29 (pL false 1 28) <|
 aY 30 (pI 1 27 29) <|
 aY 31 (pL false 1 30) <|
 aY 32 (pB .add 9 31 (cn (.str [32]))) <|
 aY 33 (pF 1 1 5) <|
 aY 34 (pL false 1 33) <|
 aY 35 (pK c false 53 [34]) <|
 aY 36 (pB .add 9 32 35) <|
 aY 37 (pB .add 9 36 (cn (.str [10]))) <|
 aY 38 (pB .add 9 26 37) <|
 aY 3 (pM 38) <|
 aYZ)
 (aXZ)
noncomputable def f12_r8 (c : CallF) : RF := rg [1, 3, 20, 21, 22] <| aX 39 (pB .add 3 22 (cn (.int .i64 1))) <|
 aX 22 (pM 39) <|
 aXZ
noncomputable def f12_r9 (c : CallF) : RF := rg [1, 3, 40] <| aX 41 (pF 2 1 1) <|
 aX 42 (pL false 1 41) <|
 aX 43 (pB .gtr 2 42 (cn (.int .i64 0))) <|
 aX 40 (pM 43) <|
 aXZ
noncomputable def f12_r10 (c : CallF) : RF := rg [2] <| aX 44 (pM 3) <|
 aX 45 (pB .add 9 44 (cn (.str [111, 119, 101, 115, 32]))) <|
 aX 46 (pF 2 1 1) <|
 aX 47 (pL false 1 46) <|
 aX 48 (pK c false 53 [47]) <|
 aX 49 (pB .add 9 45 48) <|
 aX 50 (pB .add 9 49 (cn (.str [10]))) <|
 aX 2 (pM 50) <|
 aXZ
noncomputable def f12_r11 (c : CallF) : RF := rg [1, 3, 51] <| aX 52 (pF 2 1 1) <|
 aX 53 (pL false 1 52) <|
 aX 54 (pB .lss 2 53 (cn (.int .i64 0))) <|
 aX 51 (pM 54) <|
 aXZ
noncomputable def f12_r12 (c : CallF) : RF := rg [2] <| aX 55 (pM 3) <|
 aX 56 (pB .add 9 55 (cn (.str [111, 118, 101, 114, 32]))) <|
 aX 57 (pF 2 1 1) <|
 aX 58 (pL false 1 57) <|
 aX 59 (pU .neg 58) <|
 aX 60 (pK c false 53 [59]) <|
 aX 61 (pB .add 9 56 60) <|
 aX 62 (pB .add 9 61 (cn (.str [10]))) <|
 aX 2 (pM 62) <|
 aXZ
noncomputable def f12_r13 (c : CallF) : RF := rg [2] <| aX 63 (pM 3) <|
 aX 64 (pB .add 9 63 (cn (.str [113, 117, 105, 116, 10]))) <|
 aX 2 (pM 64) <|
 aXZ
noncomputable def f12_l5 (c : CallF) (k : Nat) : St :=
 (bSeq (bReg (f12_r5 c))
 (bSeq (bCond (.tmp 23) (bEx .nrm) (bEx (.ext 0)))
 (bSeq (bBlock 1 (bSeq (bReg (f12_r6 c))
 (bReg (f12_r7 c))))
 (bReg (f12_r8 c)))))
noncomputable def f12 (c : CallF) (k : Nat) : St :=
 (bSeq (bReg (f12_r0 c))
 (bSeq (bSeq (bReg (f12_r1 c))
 (bCond (.tmp 15) (bSeq (bReg (f12_r2 c))
 (bEx .ret)) (bEx .nrm)))
 (bSeq (bReg (f12_r3 c))
 (bSeq (bSeq (bReg (f12_r4 c))
 (bBlock 0 (bLoop [1, 3, 20, 21, 22] (f12_l5 c k) k)))
 (bSeq (bBlock 2 (bSeq (bReg (f12_r9 c))
 (bCond (.tmp 40) (bSeq (bReg (f12_r10 c))
 (bEx .ret)) (bSeq (bReg (f12_r11 c))
 (bCond (.tmp 51) (bSeq (bReg (f12_r12 c))
 (bEx .ret)) (bEx .nrm))))))
 (bSeq (bReg (f12_r13 c))
 (bEx .ret)))))))
theorem f12_eq (c : CallF) (k : Nat) : exec cx c 65 f12_an k (Tryd.f12.body.getD .skip) = f12 c k := by kernel_rfl
/-! ### f13: loop.example/g01263/spec.A2SameAccount -/
def f13_an : Ann := ⟨[(0, r0 [2, 3]), (1, r0 [2, 3, 26]), (2, r0 [4]), (3, r0 [2, 3, 5]), (4, r0 [2, 3, 5, 31]), (5, r0 [2, 3, 5]), (6, r0 [2, 3, 5, 44]), (7, r0 [4]), (8, r0 [4])], [(4, [2, 3, 5])]⟩
noncomputable def f13_r0 (c : CallF) : RF := rg [2, 3] <| aX 2 (pBox 3 0) <|
 aX 3 (pBox 3 1) <|
 aX 4 (pM (cn (.bool false))) <|
 aXZ
noncomputable def f13_r1 (c : CallF) : RF := rg [2, 3, 26] <| aX 6 (pF 0 1 2) <|
 aX 7 (pL false 1 6) <|
 aX 8 (pF 0 1 3) <|
 aX 9 (pL false 1 8) <|
 aX 10 (pB .neq 9 7 9) <|
 aX 11 (pM 10) <|
 aX 12 (pG 11 false (pF 2 1 2)) <|
 aX 13 (pG 11 false (pL false 1 12)) <|
 aX 14 (pG 11 false (pF 2 1 3)) <|
 aX 15 (pG 11 false (pL false 1 14)) <|
 aX 16 (pG 11 false (pB .neq 2 13 15)) <|
 aX 17 (pP 11 (cn (.bool true)) 16) <|
 aX 18 (pM 17) <|
 aX 19 (pG 18 false (pF 1 1 2)) <|
 aX 20 (pG 18 false (pL false 1 19)) <|
 aX 21 (pG 18 false (pLen 24 20)) <|
 aX 22 (pG 18 false (pF 1 1 3)) <|
 aX 23 (pG 18 false (pL false 1 22)) <|
 aX 24 (pG 18 false (pLen 24 23)) <|
 aX 25 (pG 18 false (pB .neq 3 21 24)) <|
 aX 26 (pP 18 (cn (.bool true)) 25) <|
 aXZ
noncomputable def f13_r2 (c : CallF) : RF := rg [4] <| aX 4 (pM (cn (.bool false))) <|
 aXZ
noncomputable def f13_r3 (c : CallF) : RF := rg [2, 3, 5] <| aX 5 (pM (cn (.int .i64 0))) <|
 aXZ
noncomputable def f13_r4 (c : CallF) : RF := rg [2, 3, 5, 31] <| aX 27 (pM 5) <|
 aX 28 (pF 1 1 2) <|
 aX 29 (pL false 1 28) <|
 aX 30 (pLen 24 29) <|
 aX 31 (pB .lss 3 27 30) <|
 aXZ
noncomputable def f13_r5 (c : CallF) : RF := rg [2, 3, 5] <| aX 32 (pM 5) <|
 aX 33 (pB .add 3 32 (cn (.int .i64 1))) <|
 aX 5 (pM 33) <|
 aXZ
noncomputable def f13_r6 (c : CallF) : RF := rgD [2, 3, 5, 44] (aY 34 (pF 1 1 2) <|
 aY 35 (pL false 1 34) <|
 aY 36 (pM 5) <|
 aY 37 (pI 2 35 36) <|
 aY 38 (pL true 2 37) <|
 aY 39 (pF 1 1 3) <|
 aY 40 (pL false 1 39) <|
 aY 41 (pM 5) <|
 aY 42 (pI 2 40 41) <|
 aY 43 (pL true 2 42) <|
 aY 44 (pB .neq 42 38 43) <|
 aYZ)
 (aXZ)
noncomputable def f13_r7 (c : CallF) : RF := rg [4] <| aX 4 (pM (cn (.bool false))) <|
 aXZ
noncomputable def f13_r8 (c : CallF) : RF := rg [4] <| aX 4 (pM (cn (.bool true))) <|
 aXZ
noncomputable def f13_l4 (c : CallF) (k : Nat) : St :=
 (bSeq (bSeq (bReg (f13_r4 c))
 (bCond (.tmp 31) (bEx .nrm) (bEx (.ext 0))))
 (bSeq (bBlock 1 (bSeq (bReg (f13_r6 c))
 (bCond (.tmp 44) (bSeq (bReg (f13_r7 c))
 (bEx .ret)) (bEx .nrm))))
 (bReg (f13_r5 c))))
noncomputable def f13 (c : CallF) (k : Nat) : St :=
 (bSeq (bReg (f13_r0 c))
 (bSeq (bSeq (bReg (f13_r1 c))
 (bCond (.tmp 26) (bSeq (bReg (f13_r2 c))
 (bEx .ret)) (bEx .nrm)))
 (bSeq (bSeq (bReg (f13_r3 c))
 (bBlock 0 (bLoop [2, 3, 5] (f13_l4 c k) k)))
 (bSeq (bReg (f13_r8 c))
 (bEx .ret)))))
theorem f13_eq (c : CallF) (k : Nat) : exec cx c 45 f13_an k (Tryd.f13.body.getD .skip) = f13 c k := by kernel_rfl
/-! ### f14: loop.example/g01263/impl.CheckAccount -/
def f14_an : Ann := ⟨[(0, r0 [1]), (1, r0 [2])], []⟩
noncomputable def f14_r0 (c : CallF) : RF := rg [1] <| aX 1 (pBox 3 0) <|
 aX 2 (pM (cn (.bool false))) <|
 aXZ
noncomputable def f14_r1 (c : CallF) : RF := rgD [2] (aY 3 (pF 0 1 1) <|
 aY 4 (pL false 1 3) <|
 aY 5 (pK c false 42 [4, (cn (.int .i64 16))]) <|
 aY 6 (pM 5) <|
 aY 7 (pG 6 true (pF 1 1 1)) <|
 aY 8 (pG 6 true (pL false 1 7)) <|
 aY 9 (pG 6 true (pK c false 15 [8])) <|
 aY 10 (pP 6 9 (cn (.bool false))) <|
 aY 11 (pM 10) <|
 aY 12 (pG 11 true (pF 2 1 1)) <|
 aY 13 (pG 11 true (pL false 1 12)) <|
 aY 14 (pG 11 true (pF 1 1 1)) <|
 aY 15 (pG 11 true (pL false 1 14)) <|
 aY 16 (pG 11 true (pK c false 44 [15])) <|
 aY 17 (pG 11 true (pB .eql 2 13 16)) <|
 aY 18 (pP 11 17 (cn (.bool false))) <|
 aY 2 (pM 18) <|
 aYZ)
 (aXZ)
noncomputable def f14 (c : CallF) (k : Nat) : St :=
 (bSeq (bReg (f14_r0 c))
 (bSeq (bReg (f14_r1 c))
 (bEx .ret)))
theorem f14_eq (c : CallF) (k : Nat) : exec cx c 19 f14_an k (Tryd.f14.body.getD .skip) = f14 c k := by kernel_rfl
/-! ### f15: loop.example/g01263/impl.ValidItems -/
def f15_an : Ann := ⟨[(0, r0 [0]), (1, r0 [0, 5, 6, 7]), (2, r0 [0, 5, 6, 7, 8]), (3, r0 [0, 4, 5, 6, 7]), (4, r0 [0, 5, 6, 7, 13]), (5, r0 [2]), (6, r0 [0, 5, 6, 7]), (7, r0 [2])], [(2, [0, 5, 6, 7])]⟩
noncomputable def f15_r0 (c : CallF) : RF := rg [0] <| aX 2 (pM (cn (.bool false))) <|
 aXZ
noncomputable def f15_r1 (c : CallF) : RF := rg [0, 5, 6, 7] <| aX 5 (pM 0) <|
 aX 6 (pLen 24 5) <|
 aX 7 (pM (cn (.int .i64 0))) <|
 aXZ
noncomputable def f15_r2 (c : CallF) : RF := rg [0, 5, 6, 7, 8] <| aX 8 (pB .lss 3 7 6) <|
 aXZ
noncomputable def f15_r3 (c : CallF) : RF := rg [0, 4, 5, 6, 7] <| aX 9 (pI 2 5 7) <|
 aX 10 (pL true 2 9) <|
 aX 4 (pAl 42 2) <|
 aX0 (pS 2 4 10) <|
 aXZ
noncomputable def f15_r4 (c : CallF) : RF := rg [0, 5, 6, 7, 13] <| aX 11 (pL true 2 4) <|
 aX 12 (pK c false 54 [11]) <|
 aX 13 (pU .not 12) <|
 aXZ
noncomputable def f15_r5 (c : CallF) : RF := rg [2] <| aX 2 (pM (cn (.bool false))) <|
 aXZ
noncomputable def f15_r6 (c : CallF) : RF := rg [0, 5, 6, 7] <| aX 14 (pB .add 3 7 (cn (.int .i64 1))) <|
 aX 7 (pM 14) <|
 aXZ
noncomputable def f15_r7 (c : CallF) : RF := rg [2] <| aX 15 (pM 0) <|
 aX 16 (pLen 24 15) <|
 aX 17 (pB .leq 3 16 (cn (.int .i64 40))) <|
 aX 2 (pM 17) <|
 aXZ
noncomputable def f15_l2 (c : CallF) (k : Nat) : St :=
 (bSeq (bReg (f15_r2 c))
 (bSeq (bCond (.tmp 8) (bEx .nrm) (bEx (.ext 0)))
 (bSeq (bBlock 1 (bSeq (bReg (f15_r3 c))
 (bSeq (bReg (f15_r4 c))
 (bCond (.tmp 13) (bSeq (bReg (f15_r5 c))
 (bEx .ret)) (bEx .nrm)))))
 (bReg (f15_r6 c)))))
noncomputable def f15 (c : CallF) (k : Nat) : St :=
 (bSeq (bReg (f15_r0 c))
 (bSeq (bSeq (bReg (f15_r1 c))
 (bBlock 0 (bLoop [0, 5, 6, 7] (f15_l2 c k) k)))
 (bSeq (bReg (f15_r7 c))
 (bEx .ret))))
theorem f15_eq (c : CallF) (k : Nat) : exec cx c 18 f15_an k (Tryd.f15.body.getD .skip) = f15 c k := by kernel_rfl
/-! ### f16: loop.example/g01263/laws.a2At -/
def f16_an : Ann := ⟨[(0, r0 [0, 1, 2]), (1, r0 [0, 1, 2, 14]), (2, r0 [6]), (3, r0 [6])], []⟩
noncomputable def f16_r0 (c : CallF) : RF := rg [0, 1, 2] <| aX 6 (pM (cn (.int .i64 0))) <|
 aXZ
noncomputable def f16_r1 (c : CallF) : RF := rg [0, 1, 2, 14] <| aX 7 (pM 1) <|
 aX 8 (pM 0) <|
 aX 9 (pLen 22 8) <|
 aX 10 (pB .geq 2 7 9) <|
 aX 11 (pM 10) <|
 aX 12 (pG 11 false (pM 2)) <|
 aX 13 (pG 11 false (pB .lss 2 12 (cn (.int .i64 1)))) <|
 aX 14 (pP 11 (cn (.bool true)) 13) <|
 aXZ
noncomputable def f16_r2 (c : CallF) : RF := rg [6] <| aX 6 (pM (cn (.int .i64 0))) <|
 aXZ
noncomputable def f16_r3 (c : CallF) : RF := rg [6] <| aX 15 (pM 0) <|
 aX 16 (pM 1) <|
 aX 17 (pI 1 15 16) <|
 aX 18 (pL false 1 17) <|
 aX 19 (fun n e M => keep (aConvI .i64 (eget e 18))) <|
 aX 20 (pM 2) <|
 aX 21 (pB .rem 2 19 20) <|
 aX 6 (pM 21) <|
 aXZ
noncomputable def f16 (c : CallF) (k : Nat) : St :=
 (bSeq (bReg (f16_r0 c))
 (bSeq (bSeq (bReg (f16_r1 c))
 (bCond (.tmp 14) (bSeq (bReg (f16_r2 c))
 (bEx .ret)) (bEx .nrm)))
 (bSeq (bReg (f16_r3 c))
 (bEx .ret))))
theorem f16_eq (c : CallF) (k : Nat) : exec cx c 22 f16_an k (Tryd.f16.body.getD .skip) = f16 c k := by kernel_rfl
/-! ### f32: loop.example/g01263/impl.MakeRoll -/
def f32_an : Ann := ⟨[(0, ⟨[], [0], [], [], [0, 2], none, []⟩), (1, r0 [0, 2, 9, 10, 11]), (2, r0 [0, 2, 9, 10, 11, 12]), (3, ⟨[], [2, 3], [], [], [0, 2, 5, 9, 10, 11], none, []⟩), (4, r0 [0, 2, 9, 10, 11, 17]), (5, ⟨[], [1], [], [], [2, 3], none, []⟩), (6, r0 [0, 2, 9, 10, 11]), (7, r0 [0, 2, 22]), (8, ⟨[], [1], [], [], [2, 3], none, []⟩), (9, ⟨[], [3, 4], [], [], [0, 2, 6], none, []⟩), (10, r0 [0, 2, 6, 27, 28, 29]), (11, r0 [0, 2, 6, 27, 28, 29, 30]), (12, ⟨[], [3, 5], [], [], [0, 2, 6, 7, 8, 27, 28, 29], none, []⟩), (13, r0 [0, 2, 6, 8, 27, 28, 29, 39]), (14, ⟨[], [1], [], [], [2, 3], none, []⟩), (15, ⟨[5], [], [], [5, 6, 7], [0, 2, 6, 27, 28, 29], none, []⟩), (16, r0 [0, 2, 6, 27, 28, 29]), (17, ⟨[], [1], [], [], [2, 3], none, []⟩)], [(2, [0, 2, 9, 10, 11]), (11, [0, 2, 6, 27, 28, 29])]⟩
noncomputable def f32_r0 (c : CallF) : RF := rg [0, 2] <| aX 2 (fun n e M => gho cx.P true n (oAlloc cx.P n 74 2)) <|
 aX 3 (pM (cn (.int .i64 0))) <|
 aXZ
noncomputable def f32_r1 (c : CallF) : RF := rg [0, 2, 9, 10, 11] <| aX 9 (pM 0) <|
 aX 10 (pLen 72 9) <|
 aX 11 (pM (cn (.int .i64 0))) <|
 aXZ
noncomputable def f32_r2 (c : CallF) : RF := rg [0, 2, 9, 10, 11, 12] <| aX 12 (pB .lss 3 11 10) <|
 aXZ
noncomputable def f32_r3 (c : CallF) : RF := rg [0, 2, 5, 9, 10, 11] <| aX 13 (pI 3 9 11) <|
 aX 14 (pL true 3 13) <|
 aX 5 (fun n e M => gho cx.P true n (oAlloc cx.P n 27 3)) <|
 aX0 (fun n e M => oStoreG cx.P 27 false 3 (eget e 5) (eget e 14) M) <|
 aXZ
noncomputable def f32_r4 (c : CallF) : RF := rg [0, 2, 9, 10, 11, 17] <| aX 15 (pL true 3 5) <|
 aX 16 (pK c false 14 [15]) <|
 aX 17 (pU .not 16) <|
 aXZ
noncomputable def f32_r5 (c : CallF) : RF := rg [2, 3] <| aX 18 (fun n e M => keep (aBuild (zeroOf cx.P 74) [] M)) <|
 aX0 (fun n e M => oStoreG cx.P 74 false 2 (eget e 2) (eget e 18) M) <|
 aX 3 (pM (cn (.int .i64 1))) <|
 aXZ
noncomputable def f32_r6 (c : CallF) : RF := rg [0, 2, 9, 10, 11] <| aX 19 (pB .add 3 11 (cn (.int .i64 1))) <|
 aX 11 (pM 19) <|
 aXZ
noncomputable def f32_r7 (c : CallF) : RF := rg [0, 2, 22] <| aX 20 (pM 0) <|
 aX 21 (pLen 72 20) <|
 aX 22 (pB .gtr 3 21 (cn (.int .i64 20))) <|
 aXZ
noncomputable def f32_r8 (c : CallF) : RF := rg [2, 3] <| aX 23 (fun n e M => keep (aBuild (zeroOf cx.P 74) [] M)) <|
 aX0 (fun n e M => oStoreG cx.P 74 false 2 (eget e 2) (eget e 23) M) <|
 aX 3 (pM (cn (.int .i64 3))) <|
 aXZ
noncomputable def f32_r9 (c : CallF) : RF := rg [0, 2, 6] <| aX 24 (pM 0) <|
 aX 25 (pK c false 74 [24]) <|
 aX 26 (fun n e M => keep (aBuild (zeroOf cx.P 74) [(1, 1, (eget e 25))] M)) <|
 aX 6 (fun n e M => gho cx.P true n (oAlloc cx.P n 74 2)) <|
 aX0 (fun n e M => oStoreG cx.P 74 false 2 (eget e 6) (eget e 26) M) <|
 aXZ
noncomputable def f32_r10 (c : CallF) : RF := rg [0, 2, 6, 27, 28, 29] <| aX 27 (pM 0) <|
 aX 28 (pLen 72 27) <|
 aX 29 (pM (cn (.int .i64 0))) <|
 aXZ
noncomputable def f32_r11 (c : CallF) : RF := rg [0, 2, 6, 27, 28, 29, 30] <| aX 30 (pB .lss 3 29 28) <|
 aXZ
noncomputable def f32_r12 (c : CallF) : RF := rg [0, 2, 6, 7, 8, 27, 28, 29] <| aX 31 (pM 29) <|
 aX 32 (pI 3 27 29) <|
 aX 33 (pL true 3 32) <|
 aX 8 (fun n e M => gho cx.P true n (oAlloc cx.P n 27 3)) <|
 aX 7 (pM 31) <|
 aX0 (fun n e M => oStoreG cx.P 27 false 3 (eget e 8) (eget e 33) M) <|
 aXZ
noncomputable def f32_r13 (c : CallF) : RF := rgD [0, 2, 6, 8, 27, 28, 29, 39] (aY 34 (pM 0) <|
 aY 35 (pM 7) <|
 aY 36 (fun n e M => keep (aSlice 3 none (some (eget e 35)) (eget e 34) M)) <|
 aY 37 (pF 0 1 8) <|
 aY 38 (pL false 1 37) <|
 aY 39 (pK c false 75 [36, 38]) <|
 aYZ)
 (aXZ)
noncomputable def f32_r14 (c : CallF) : RF := rg [2, 3] <| aX 40 (fun n e M => keep (aBuild (zeroOf cx.P 74) [] M)) <|
 aX0 (fun n e M => oStoreG cx.P 74 false 2 (eget e 2) (eget e 40) M) <|
 aX 3 (pM (cn (.int .i64 4))) <|
 aXZ
noncomputable def f32_r15 (c : CallF) : RF := rgD [0, 2, 6, 27, 28, 29] (aY 41 (pF 0 1 6) <|
 aY 42 (pL false 1 41) <|
 aY 43 (pL true 3 8) <|
 aY 44 (pK c false 76 [43]) <|
 aY 45 (fun n e M => keep (aLitI 27 3 [(eget e 44)] M)) <|
 aYZ)
 (aX 46 (fun n e M => aAppO n 27 3 48 (eget e 42) (eget e 45) M) <|
 aX 47 (pF 0 1 6) <|
 aX0 (pS 1 47 46) <|
 aXZ)
noncomputable def f32_r16 (c : CallF) : RF := rg [0, 2, 6, 27, 28, 29] <| aX 48 (pB .add 3 29 (cn (.int .i64 1))) <|
 aX 29 (pM 48) <|
 aXZ
noncomputable def f32_r17 (c : CallF) : RF := rg [2, 3] <| aX 49 (pL true 2 6) <|
 aX0 (fun n e M => oStoreG cx.P 74 false 2 (eget e 2) (eget e 49) M) <|
 aX 3 (pM (cn (.int .i64 0))) <|
 aXZ
noncomputable def f32_l2 (c : CallF) (k : Nat) : St :=
 (bSeq (bReg (f32_r2 c))
 (bSeq (bCond (.tmp 12) (bEx .nrm) (bEx (.ext 0)))
 (bSeq (bBlock 1 (bSeq (bReg (f32_r3 c))
 (bSeq (bReg (f32_r4 c))
 (bCond (.tmp 17) (bSeq (bReg (f32_r5 c))
 (bEx .ret)) (bEx .nrm)))))
 (bReg (f32_r6 c)))))
noncomputable def f32_l11 (c : CallF) (k : Nat) : St :=
 (bSeq (bReg (f32_r11 c))
 (bSeq (bCond (.tmp 30) (bEx .nrm) (bEx (.ext 2)))
 (bSeq (bBlock 3 (bSeq (bReg (f32_r12 c))
 (bSeq (bSeq (bReg (f32_r13 c))
 (bCond (.tmp 39) (bSeq (bReg (f32_r14 c))
 (bEx .ret)) (bEx .nrm)))
 (bReg (f32_r15 c)))))
 (bReg (f32_r16 c)))))
noncomputable def f32 (c : CallF) (k : Nat) : St :=
 (bSeq (bReg (f32_r0 c))
 (bSeq (bSeq (bReg (f32_r1 c))
 (bBlock 0 (bLoop [0, 2, 9, 10, 11] (f32_l2 c k) k)))
 (bSeq (bSeq (bReg (f32_r7 c))
 (bCond (.tmp 22) (bSeq (bReg (f32_r8 c))
 (bEx .ret)) (bEx .nrm)))
 (bSeq (bReg (f32_r9 c))
 (bSeq (bSeq (bReg (f32_r10 c))
 (bBlock 2 (bLoop [0, 2, 6, 27, 28, 29] (f32_l11 c k) k)))
 (bSeq (bReg (f32_r17 c))
 (bEx .ret)))))))
theorem f32_eq (c : CallF) (k : Nat) : exec cx c 50 f32_an k (Tryd.f32.body.getD .skip) = f32 c k := by kernel_rfl
/-! ### f33: loop.example/g01263/spec.MakeRoll -/
def f33_an : Ann := ⟨[(0, ⟨[], [0], [], [], [0, 2], none, []⟩), (1, r0 [0, 2, 4]), (2, r0 [0, 2, 4, 10]), (3, r0 [0, 2, 4]), (4, r0 [0, 2, 4, 17]), (5, ⟨[], [1], [], [], [2, 3], none, []⟩), (6, r0 [0, 2, 21]), (7, ⟨[], [1], [], [], [2, 3], none, []⟩), (8, ⟨[], [3, 4], [], [], [0, 2, 5], none, []⟩), (9, r0 [0, 2, 5, 6]), (10, r0 [0, 2, 5, 6, 29]), (11, r0 [0, 2, 5, 6]), (12, r0 [0, 2, 5, 6, 34]), (13, ⟨[], [1], [], [], [2, 3], none, []⟩), (14, ⟨[14], [], [], [14, 15, 16], [0, 2, 5, 6], none, []⟩), (15, ⟨[], [1], [], [], [2, 3], none, []⟩)], [(2, [0, 2, 4]), (10, [0, 2, 5, 6])]⟩
noncomputable def f33_r0 (c : CallF) : RF := rg [0, 2] <| aX 2 (fun n e M => gho cx.P true n (oAlloc cx.P n 74 2)) <|
 aX 3 (pM (cn (.int .i64 0))) <|
 aXZ
noncomputable def f33_r1 (c : CallF) : RF := rg [0, 2, 4] <| aX 4 (pM (cn (.int .i64 0))) <|
 aXZ
noncomputable def f33_r2 (c : CallF) : RF := rg [0, 2, 4, 10] <| aX 7 (pM 4) <|
 aX 8 (pM 0) <|
 aX 9 (pLen 72 8) <|
 aX 10 (pB .lss 3 7 9) <|
 aXZ
noncomputable def f33_r3 (c : CallF) : RF := rg [0, 2, 4] <| aX 11 (pM 4) <|
 aX 12 (pB .add 3 11 (cn (.int .i64 1))) <|
 aX 4 (pM 12) <|
 aXZ
noncomputable def f33_r4 (c : CallF) : RF := rg [0, 2, 4, 17] <| aX 13 (pM 0) <|
 aX 14 (pM 4) <|
 aX 15 (pI 3 13 14) <|
 aX 16 (pK c false 55 [15]) <|
 aX 17 (pU .not 16) <|
 aXZ
noncomputable def f33_r5 (c : CallF) : RF := rg [2, 3] <| aX 18 (fun n e M => keep (aBuild (zeroOf cx.P 74) [] M)) <|
 aX0 (fun n e M => oStoreG cx.P 74 false 2 (eget e 2) (eget e 18) M) <|
 aX 3 (pM (cn (.int .i64 1))) <|
 aXZ
noncomputable def f33_r6 (c : CallF) : RF := rg [0, 2, 21] <| aX 19 (pM 0) <|
 aX 20 (pLen 72 19) <|
 aX 21 (pB .gtr 3 20 (cn (.int .i64 20))) <|
 aXZ
noncomputable def f33_r7 (c : CallF) : RF := rg [2, 3] <| aX 22 (fun n e M => keep (aBuild (zeroOf cx.P 74) [] M)) <|
 aX0 (fun n e M => oStoreG cx.P 74 false 2 (eget e 2) (eget e 22) M) <|
 aX 3 (pM (cn (.int .i64 3))) <|
 aXZ
noncomputable def f33_r8 (c : CallF) : RF := rg [0, 2, 5] <| aX 23 (pM 0) <|
 aX 24 (pK c false 77 [23]) <|
 aX 25 (fun n e M => keep (aBuild (zeroOf cx.P 74) [(1, 1, (eget e 24))] M)) <|
 aX 5 (fun n e M => gho cx.P true n (oAlloc cx.P n 74 2)) <|
 aX0 (fun n e M => oStoreG cx.P 74 false 2 (eget e 5) (eget e 25) M) <|
 aXZ
noncomputable def f33_r9 (c : CallF) : RF := rg [0, 2, 5, 6] <| aX 6 (pM (cn (.int .i64 0))) <|
 aXZ
noncomputable def f33_r10 (c : CallF) : RF := rg [0, 2, 5, 6, 29] <| aX 26 (pM 6) <|
 aX 27 (pM 0) <|
 aX 28 (pLen 72 27) <|
 aX 29 (pB .lss 3 26 28) <|
 aXZ
noncomputable def f33_r11 (c : CallF) : RF := rg [0, 2, 5, 6] <| aX 30 (pM 6) <|
 aX 31 (pB .add 3 30 (cn (.int .i64 1))) <|
 aX 6 (pM 31) <|
 aXZ
noncomputable def f33_r12 (c : CallF) : RF := rg [0, 2, 5, 6, 34] <| aX 32 (pM 0) <|
 aX 33 (pM 6) <|
 aX 34 (pK c false 78 [32, 33]) <|
 aXZ
noncomputable def f33_r13 (c : CallF) : RF := rg [2, 3] <| aX 35 (fun n e M => keep (aBuild (zeroOf cx.P 74) [] M)) <|
 aX0 (fun n e M => oStoreG cx.P 74 false 2 (eget e 2) (eget e 35) M) <|
 aX 3 (pM (cn (.int .i64 4))) <|
 aXZ
noncomputable def f33_r14 (c : CallF) : RF := rgD [0, 2, 5, 6] (aY 36 (pF 0 1 5) <|
 aY 37 (pL false 1 36) <|
 aY 38 (pM 0) <|
 aY 39 (pM 6) <|
 aY 40 (pI 3 38 39) <|
 aY 41 (pF 0 1 40) <|
 aY 42 (pL false 1 41) <|
 aY 43 (pM 0) <|
 aY 44 (pM 6) <|
 aY 45 (pI 3 43 44) <|
 aY 46 (pF 1 1 45) <|
 aY 47 (pL false 1 46) <|
 aY 48 (pK c false 47 [42, 47]) <|
 aY 49 (fun n e M => keep (aLitI 27 3 [(eget e 48)] M)) <|
 aYZ)
 (aX 50 (fun n e M => aAppO n 27 3 48 (eget e 37) (eget e 49) M) <|
 aX 51 (pF 0 1 5) <|
 aX0 (pS 1 51 50) <|
 aXZ)
noncomputable def f33_r15 (c : CallF) : RF := rg [2, 3] <| aX 52 (pL true 2 5) <|
 aX0 (fun n e M => oStoreG cx.P 74 false 2 (eget e 2) (eget e 52) M) <|
 aX 3 (pM (cn (.int .i64 0))) <|
 aXZ
noncomputable def f33_l2 (c : CallF) (k : Nat) : St :=
 (bSeq (bSeq (bReg (f33_r2 c))
 (bCond (.tmp 10) (bEx .nrm) (bEx (.ext 0))))
 (bSeq (bBlock 1 (bSeq (bReg (f33_r4 c))
 (bCond (.tmp 17) (bSeq (bReg (f33_r5 c))
 (bEx .ret)) (bEx .nrm))))
 (bReg (f33_r3 c))))
noncomputable def f33_l10 (c : CallF) (k : Nat) : St :=
 (bSeq (bSeq (bReg (f33_r10 c))
 (bCond (.tmp 29) (bEx .nrm) (bEx (.ext 2))))
 (bSeq (bBlock 3 (bSeq (bSeq (bReg (f33_r12 c))
 (bCond (.tmp 34) (bSeq (bReg (f33_r13 c))
 (bEx .ret)) (bEx .nrm)))
 (bReg (f33_r14 c))))
 (bReg (f33_r11 c))))
noncomputable def f33 (c : CallF) (k : Nat) : St :=
 (bSeq (bReg (f33_r0 c))
 (bSeq (bSeq (bReg (f33_r1 c))
 (bBlock 0 (bLoop [0, 2, 4] (f33_l2 c k) k)))
 (bSeq (bSeq (bReg (f33_r6 c))
 (bCond (.tmp 21) (bSeq (bReg (f33_r7 c))
 (bEx .ret)) (bEx .nrm)))
 (bSeq (bReg (f33_r8 c))
 (bSeq (bSeq (bReg (f33_r9 c))
 (bBlock 2 (bLoop [0, 2, 5, 6] (f33_l10 c k) k)))
 (bSeq (bReg (f33_r15 c))
 (bEx .ret)))))))
theorem f33_eq (c : CallF) (k : Nat) : exec cx c 53 f33_an k (Tryd.f33.body.getD .skip) = f33 c k := by kernel_rfl
/-! ### f34: loop.example/g01263/impl.FirstFault -/
def f34_an : Ann := ⟨[(0, r0 [1]), (1, r0 [1, 9]), (2, r0 [2, 3]), (3, r0 [1, 11, 12, 13]), (4, r0 [1, 11, 12, 13, 14]), (5, r0 [1, 4, 5, 11, 12, 13]), (6, r0 [1, 4, 11, 12, 13, 29]), (7, r0 [2, 3]), (8, r0 [1, 11, 12, 13]), (9, r0 [1, 37]), (10, r0 [2, 3]), (11, r0 [2, 3])], [(4, [1, 11, 12, 13])]⟩
noncomputable def f34_r0 (c : CallF) : RF := rg [1] <| aX 1 (pBox 2 0) <|
 aX 2 (pM (cn (.int .i64 0))) <|
 aX 3 (pM (cn (.int .i64 0))) <|
 aXZ
noncomputable def f34_r1 (c : CallF) : RF := rg [1, 9] <| aX 6 (pF 0 1 1) <|
 aX 7 (pL false 1 6) <|
 aX 8 (pLen 72 7) <|
 aX 9 (pB .gtr 3 8 (cn (.int .i64 20))) <|
 aXZ
noncomputable def f34_r2 (c : CallF) : RF := rg [2, 3] <| aX 2 (pM (cn (.int .i64 0))) <|
 aX 3 (pM (cn (.int .i64 3))) <|
 aXZ
noncomputable def f34_r3 (c : CallF) : RF := rg [1, 11, 12, 13] <| aX 10 (pF 0 1 1) <|
 aX 11 (pL false 1 10) <|
 aX 12 (pLen 72 11) <|
 aX 13 (pM (cn (.int .i64 0))) <|
 aXZ
noncomputable def f34_r4 (c : CallF) : RF := rg [1, 11, 12, 13, 14] <| aX 14 (pB .lss 3 13 12) <|
 aXZ
noncomputable def f34_r5 (c : CallF) : RF := rg [1, 4, 5, 11, 12, 13] <| aX 15 (pM 13) <|
 aX 16 (pI 3 11 13) <|
 aX 17 (pL true 3 16) <|
 aX 5 (pAl 27 3) <|
 aX 4 (pM 15) <|
 aX0 (pS 3 5 17) <|
 aXZ
noncomputable def f34_r6 (c : CallF) : RF := rgD [1, 4, 11, 12, 13, 29] (aY 18 (pL true 3 5) <|
 aY 19 (pK c false 14 [18]) <|
 aY 20 (pU .not 19) <|
 aY 21 (pM 20) <|
 aY 22 (pG 21 false (pF 0 1 1)) <|
 aY 23 (pG 21 false (pL false 1 22)) <|
 aY 24 (pG 21 false (pM 4)) <|
 aY 25 (pG 21 false (fun n e M => keep (aSlice 3 none (some (eget e 24)) (eget e 23) M))) <|
 aY 26 (pG 21 false (pF 0 1 5)) <|
 aY 27 (pG 21 false (pL false 1 26)) <|
 aY 28 (pG 21 false (pK c false 75 [25, 27])) <|
 aY 29 (pP 21 (cn (.bool true)) 28) <|
 aYZ)
 (aXZ)
noncomputable def f34_r7 (c : CallF) : RF := rg [2, 3] <| aX 30 (pM 4) <|
 aX 2 (pM 30) <|
 aX 3 (pM (cn (.int .i64 0))) <|
 aXZ
noncomputable def f34_r8 (c : CallF) : RF := rg [1, 11, 12, 13] <| aX 31 (pB .add 3 13 (cn (.int .i64 1))) <|
 aX 13 (pM 31) <|
 aXZ
noncomputable def f34_r9 (c : CallF) : RF := rgD [1, 37] (aY 32 (pF 1 1 1) <|
 aY 33 (pL false 1 32) <|
 aY 34 (pF 0 1 1) <|
 aY 35 (pL false 1 34) <|
 aY 36 (pK c false 74 [35]) <|
 aY 37 (pB .neq 2 33 36) <|
 aYZ)
 (aXZ)
noncomputable def f34_r10 (c : CallF) : RF := rg [2, 3] <| aX 38 (pF 0 1 1) <|
 aX 39 (pL false 1 38) <|
 aX 40 (pLen 72 39) <|
 aX 2 (pM 40) <|
 aX 3 (pM (cn (.int .i64 0))) <|
 aXZ
noncomputable def f34_r11 (c : CallF) : RF := rg [2, 3] <| aX 2 (pM (cn (.int .i64 0))) <|
 aX 3 (pM (cn (.int .i64 6))) <|
 aXZ
noncomputable def f34_l4 (c : CallF) (k : Nat) : St :=
 (bSeq (bReg (f34_r4 c))
 (bSeq (bCond (.tmp 14) (bEx .nrm) (bEx (.ext 0)))
 (bSeq (bBlock 1 (bSeq (bReg (f34_r5 c))
 (bSeq (bReg (f34_r6 c))
 (bCond (.tmp 29) (bSeq (bReg (f34_r7 c))
 (bEx .ret)) (bEx .nrm)))))
 (bReg (f34_r8 c)))))
noncomputable def f34 (c : CallF) (k : Nat) : St :=
 (bSeq (bReg (f34_r0 c))
 (bSeq (bSeq (bReg (f34_r1 c))
 (bCond (.tmp 9) (bSeq (bReg (f34_r2 c))
 (bEx .ret)) (bEx .nrm)))
 (bSeq (bSeq (bReg (f34_r3 c))
 (bBlock 0 (bLoop [1, 11, 12, 13] (f34_l4 c k) k)))
 (bSeq (bSeq (bReg (f34_r9 c))
 (bCond (.tmp 37) (bSeq (bReg (f34_r10 c))
 (bEx .ret)) (bEx .nrm)))
 (bSeq (bReg (f34_r11 c))
 (bEx .ret))))))
theorem f34_eq (c : CallF) (k : Nat) : exec cx c 41 f34_an k (Tryd.f34.body.getD .skip) = f34 c k := by kernel_rfl
/-! ### f35: loop.example/g01263/impl.ReadRoll -/
def f35_an : Ann := ⟨[(0, r0 [0, 2]), (1, r0 [0, 2, 4, 5]), (2, r0 [0, 2, 4, 18]), (3, r0 [2, 3]), (4, ⟨[0], [], [], [], [0, 2, 4, 6], none, []⟩), (5, r0 [0, 2, 4, 6, 23]), (6, r0 [0, 2, 4, 6, 7, 8, 9]), (7, r0 [0, 2, 4, 6, 7, 8, 36]), (8, r0 [2, 3]), (9, ⟨[3], [], [], [], [0, 2, 4, 6, 8], none, []⟩), (10, r0 [0, 2, 4, 6]), (11, ⟨[], [1], [], [], [0, 2, 10, 11], none, []⟩), (12, r0 [2, 10, 61]), (13, r0 [2, 3]), (14, r0 [2, 3])], [(5, [0, 2, 4, 6])]⟩
noncomputable def f35_r0 (c : CallF) : RF := rg [0, 2] <| aX 2 (pAl 74 2) <|
 aX 3 (pM (cn (.int .i64 0))) <|
 aXZ
noncomputable def f35_r1 (c : CallF) : RF := rg [0, 2, 4, 5] <| aX 13 (pM 0) <|
 aX 14 (pK c false 48 [13]) <|
 aX 12 (pM 14) <|
 aX 15 (pE 0 12) <|
 aX 16 (pE 1 12) <|
 aX 4 (pM 15) <|
 aX 5 (pM 16) <|
 aXZ
noncomputable def f35_r2 (c : CallF) : RF := rg [0, 2, 4, 18] <| aX 17 (pM 5) <|
 aX 18 (pU .not 17) <|
 aXZ
noncomputable def f35_r3 (c : CallF) : RF := rg [2, 3] <| aX 19 (fun n e M => keep (aBuild (zeroOf cx.P 74) [] M)) <|
 aX0 (pS 2 2 19) <|
 aX 3 (pM (cn (.int .i64 5))) <|
 aXZ
noncomputable def f35_r4 (c : CallF) : RF := rg [0, 2, 4, 6] <| aX 20 (fun n e M => aLitO false n 27 3 [] M) <|
 aX 6 (pM 20) <|
 aXZ
noncomputable def f35_r5 (c : CallF) : RF := rg [0, 2, 4, 6, 23] <| aX 21 (pM 4) <|
 aX 22 (pLen 71 21) <|
 aX 23 (pB .gtr 3 22 (cn (.int .i64 1))) <|
 aXZ
noncomputable def f35_r6 (c : CallF) : RF := rg [0, 2, 4, 6, 7, 8, 9] <| aX 25 (pM 4) <|
 aX 26 (pK c false 49 [25]) <|
 aX 24 (pM 26) <|
 aX 27 (pE 0 24) <|
 aX 28 (pE 1 24) <|
 aX 29 (pE 2 24) <|
 aX 7 (pAl 27 3) <|
 aX0 (pS 3 7 27) <|
 aX 8 (pM 28) <|
 aX 9 (pM 29) <|
 aXZ
noncomputable def f35_r7 (c : CallF) : RF := rg [0, 2, 4, 6, 7, 8, 36] <| aX 30 (pM 9) <|
 aX 31 (pU .not 30) <|
 aX 32 (pM 31) <|
 aX 33 (pG 32 false (pM 6)) <|
 aX 34 (pG 32 false (pLen 72 33)) <|
 aX 35 (pG 32 false (pB .eql 3 34 (cn (.int .i64 20)))) <|
 aX 36 (pP 32 (cn (.bool true)) 35) <|
 aXZ
noncomputable def f35_r8 (c : CallF) : RF := rg [2, 3] <| aX 37 (fun n e M => keep (aBuild (zeroOf cx.P 74) [] M)) <|
 aX0 (pS 2 2 37) <|
 aX 3 (pM (cn (.int .i64 5))) <|
 aXZ
noncomputable def f35_r9 (c : CallF) : RF := rg [0, 2, 4, 6, 8] <| aX 38 (pM 6) <|
 aX 39 (pL true 3 7) <|
 aX 40 (fun n e M => keep (aLitI 27 3 [(eget e 39)] M)) <|
 aX 41 (fun n e M => aAppO n 27 3 48 (eget e 38) (eget e 40) M) <|
 aX 6 (pM 41) <|
 aXZ
noncomputable def f35_r10 (c : CallF) : RF := rg [0, 2, 4, 6] <| aX 42 (pM 4) <|
 aX 43 (pM 8) <|
 aX 44 (fun n e M => keep (aSlice 1 (some (eget e 43)) none (eget e 42) M)) <|
 aX 4 (pM 44) <|
 aXZ
noncomputable def f35_r11 (c : CallF) : RF := rg [0, 2, 10, 11] <| aX 46 (pM 6) <|
 aX 47 (pK c true 32 [46]) <|
 aX 45 (pM 47) <|
 aX 48 (pE 0 45) <|
 aX 49 (pE 1 45) <|
 aX 10 (pAl 74 2) <|
 aX0 (pS 2 10 48) <|
 aX 11 (pM 49) <|
 aXZ
noncomputable def f35_r12 (c : CallF) : RF := rg [2, 10, 61] <| aX 50 (pM 11) <|
 aX 51 (pB .neq 2 50 (cn (.int .i64 0))) <|
 aX 52 (pM 51) <|
 aX 53 (pG 52 false (pL true 2 10)) <|
 aX 54 (pG 52 false (pK c false 36 [53])) <|
 aX 55 (pG 52 false (pM 0)) <|
 aX 56 (pG 52 false (pB .neq 9 54 55)) <|
 aX 57 (pP 52 (cn (.bool true)) 56) <|
 aX 58 (pM 57) <|
 aX 59 (pG 58 false (pM 0)) <|
 aX 60 (pG 58 false (pB .eql 9 59 (cn (.str [])))) <|
 aX 61 (pP 58 (cn (.bool true)) 60) <|
 aXZ
noncomputable def f35_r13 (c : CallF) : RF := rg [2, 3] <| aX 62 (fun n e M => keep (aBuild (zeroOf cx.P 74) [] M)) <|
 aX0 (pS 2 2 62) <|
 aX 3 (pM (cn (.int .i64 5))) <|
 aXZ
noncomputable def f35_r14 (c : CallF) : RF := rg [2, 3] <| aX 63 (pL true 2 10) <|
 aX0 (pS 2 2 63) <|
 aX 3 (pM (cn (.int .i64 0))) <|
 aXZ
noncomputable def f35_l5 (c : CallF) (k : Nat) : St :=
 (bSeq (bSeq (bReg (f35_r5 c))
 (bCond (.tmp 23) (bEx .nrm) (bEx (.ext 0))))
 (bBlock 1 (bSeq (bReg (f35_r6 c))
 (bSeq (bSeq (bReg (f35_r7 c))
 (bCond (.tmp 36) (bSeq (bReg (f35_r8 c))
 (bEx .ret)) (bEx .nrm)))
 (bSeq (bReg (f35_r9 c))
 (bReg (f35_r10 c)))))))
noncomputable def f35 (c : CallF) (k : Nat) : St :=
 (bSeq (bReg (f35_r0 c))
 (bSeq (bReg (f35_r1 c))
 (bSeq (bSeq (bReg (f35_r2 c))
 (bCond (.tmp 18) (bSeq (bReg (f35_r3 c))
 (bEx .ret)) (bEx .nrm)))
 (bSeq (bReg (f35_r4 c))
 (bSeq (bBlock 0 (bLoop [0, 2, 4, 6] (f35_l5 c k) k))
 (bSeq (bReg (f35_r11 c))
 (bSeq (bSeq (bReg (f35_r12 c))
 (bCond (.tmp 61) (bSeq (bReg (f35_r13 c))
 (bEx .ret)) (bEx .nrm)))
 (bSeq (bReg (f35_r14 c))
 (bEx .ret)))))))))
theorem f35_eq (c : CallF) (k : Nat) : exec cx c 64 f35_an k (Tryd.f35.body.getD .skip) = f35 c k := by kernel_rfl
/-! ### f36: loop.example/g01263/impl.RollText -/
def f36_an : Ann := ⟨[(0, r0 [1]), (1, r0 [1, 15]), (2, r0 [2]), (3, r0 [1, 3]), (4, r0 [1, 3, 17, 18, 19]), (5, r0 [1, 3, 17, 18, 19, 20]), (6, r0 [1, 3, 5, 17, 18, 19]), (7, r0 [1, 3, 6, 17, 18, 19]), (8, r0 [1, 3, 6, 17, 18, 19, 26]), (9, r0 [2]), (10, r0 [1, 3, 17, 18, 19]), (11, r0 [1, 3, 17, 18, 19]), (12, r0 [2])], [(5, [1, 3, 17, 18, 19])]⟩
noncomputable def f36_r0 (c : CallF) : RF := rg [1] <| aX 1 (pBox 2 0) <|
 aX 2 (pM (cn (.str []))) <|
 aXZ
noncomputable def f36_r1 (c : CallF) : RF := rg [1, 15] <| aX 7 (pL true 2 1) <|
 aX 8 (pK c false 79 [7]) <|
 aX 9 (pU .not 8) <|
 aX 10 (pM 9) <|
 aX 11 (pG 10 false (pF 1 1 1)) <|
 aX 12 (pG 10 false (pL false 1 11)) <|
 aX 13 (pG 10 false (pK c false 50 [12])) <|
 aX 14 (pG 10 false (pU .not 13)) <|
 aX 15 (pP 10 (cn (.bool true)) 14) <|
 aXZ
noncomputable def f36_r2 (c : CallF) : RF := rg [2] <| aX 2 (pM (cn (.str []))) <|
 aXZ
noncomputable def f36_r3 (c : CallF) : RF := rg [1, 3] <| aX 3 (pM (cn (.str []))) <|
 aXZ
noncomputable def f36_r4 (c : CallF) : RF := rg [1, 3, 17, 18, 19] <| aX 16 (pF 0 1 1) <|
 aX 17 (pL false 1 16) <|
 aX 18 (pLen 72 17) <|
 aX 19 (pM (cn (.int .i64 0))) <|
 aXZ
noncomputable def f36_r5 (c : CallF) : RF := rg [1, 3, 17, 18, 19, 20] <| aX 20 (pB .lss 3 19 18) <|
 aXZ
noncomputable def f36_r6 (c : CallF) : RF := rg [1, 3, 5, 17, 18, 19] <| aX 21 (pI 3 17 19) <|
 aX 22 (pL true 3 21) <|
 aX 5 (pAl 27 3) <|
 aX0 (pS 3 5 22) <|
 aXZ
noncomputable def f36_r7 (c : CallF) : RF := rg [1, 3, 6, 17, 18, 19] <| aX 23 (pL true 3 5) <|
 aX 24 (pK c false 12 [23]) <|
 aX 6 (pM 24) <|
 aXZ
noncomputable def f36_r8 (c : CallF) : RF := rg [1, 3, 6, 17, 18, 19, 26] <| aX 25 (pM 6) <|
 aX 26 (pB .eql 9 25 (cn (.str []))) <|
 aXZ
noncomputable def f36_r9 (c : CallF) : RF := rg [2] <| aX 2 (pM (cn (.str []))) <|
 aXZ
noncomputable def f36_r10 (c : CallF) : RF := rg [1, 3, 17, 18, 19] <| aX 27 (pM 3) <|
 aX 28 (pM 6) <|
 aX 29 (pB .add 9 27 28) <|
 aX 3 (pM 29) <|
 aXZ
noncomputable def f36_r11 (c : CallF) : RF := rg [1, 3, 17, 18, 19] <| aX 30 (pB .add 3 19 (cn (.int .i64 1))) <|
 aX 19 (pM 30) <|
 aXZ
noncomputable def f36_r12 (c : CallF) : RF := rg [2] <| aX 31 (pM 3) <|
 aX 32 (pB .add 9 31 (cn (.str [111, 119, 101, 100, 32]))) <|
 aX 33 (pF 1 1 1) <|
 aX 34 (pL false 1 33) <|
 aX 35 (pK c false 53 [34]) <|
 aX 36 (pB .add 9 32 35) <|
 aX 37 (pB .add 9 36 (cn (.str [10]))) <|
 aX 2 (pM 37) <|
 aXZ
noncomputable def f36_l5 (c : CallF) (k : Nat) : St :=
 (bSeq (bReg (f36_r5 c))
 (bSeq (bCond (.tmp 20) (bEx .nrm) (bEx (.ext 0)))
 (bSeq (bBlock 1 (bSeq (bReg (f36_r6 c))
 (bSeq (bReg (f36_r7 c))
 (bSeq (bSeq (bReg (f36_r8 c))
 (bCond (.tmp 26) (bSeq (bReg (f36_r9 c))
 (bEx .ret)) (bEx .nrm)))
 (bReg (f36_r10 c))))))
 (bReg (f36_r11 c)))))
noncomputable def f36 (c : CallF) (k : Nat) : St :=
 (bSeq (bReg (f36_r0 c))
 (bSeq (bSeq (bReg (f36_r1 c))
 (bCond (.tmp 15) (bSeq (bReg (f36_r2 c))
 (bEx .ret)) (bEx .nrm)))
 (bSeq (bReg (f36_r3 c))
 (bSeq (bSeq (bReg (f36_r4 c))
 (bBlock 0 (bLoop [1, 3, 17, 18, 19] (f36_l5 c k) k)))
 (bSeq (bReg (f36_r12 c))
 (bEx .ret))))))
theorem f36_eq (c : CallF) (k : Nat) : exec cx c 38 f36_an k (Tryd.f36.body.getD .skip) = f36 c k := by kernel_rfl
/-! ### f37: loop.example/g01263/impl.FindAccount -/
def f37_an : Ann := ⟨[(0, r0 [2, 3]), (1, r0 [2, 3, 9]), (2, r0 [4, 5]), (3, r0 [6]), (4, r0 [6, 15]), (5, r0 [4, 5]), (6, r0 [4, 5])], []⟩
noncomputable def f37_r0 (c : CallF) : RF := rg [2, 3] <| aX 2 (pBox 2 0) <|
 aX 3 (pBox 1 1) <|
 aX 4 (pM (cn (.int .i64 0))) <|
 aX 5 (pM (cn (.int .i64 0))) <|
 aXZ
noncomputable def f37_r1 (c : CallF) : RF := rg [2, 3, 9] <| aX 7 (pL true 2 2) <|
 aX 8 (pK c false 79 [7]) <|
 aX 9 (pU .not 8) <|
 aXZ
noncomputable def f37_r2 (c : CallF) : RF := rg [4, 5] <| aX 4 (pM (cn (.int .i64 0))) <|
 aX 5 (pM (cn (.int .i64 1))) <|
 aXZ
noncomputable def f37_r3 (c : CallF) : RF := rg [6] <| aX 10 (pF 0 1 2) <|
 aX 11 (pL false 1 10) <|
 aX 12 (pM (fun e => (.fn 81 [(eget e 3)]))) <|
 aX 13 (pK c false 80 [11, 12]) <|
 aX 6 (pM 13) <|
 aXZ
noncomputable def f37_r4 (c : CallF) : RF := rg [6, 15] <| aX 14 (pM 6) <|
 aX 15 (pB .lss 3 14 (cn (.int .i64 0))) <|
 aXZ
noncomputable def f37_r5 (c : CallF) : RF := rg [4, 5] <| aX 4 (pM (cn (.int .i64 0))) <|
 aX 5 (pM (cn (.int .i64 6))) <|
 aXZ
noncomputable def f37_r6 (c : CallF) : RF := rg [4, 5] <| aX 16 (pM 6) <|
 aX 4 (pM 16) <|
 aX 5 (pM (cn (.int .i64 0))) <|
 aXZ
noncomputable def f37 (c : CallF) (k : Nat) : St :=
 (bSeq (bReg (f37_r0 c))
 (bSeq (bSeq (bReg (f37_r1 c))
 (bCond (.tmp 9) (bSeq (bReg (f37_r2 c))
 (bEx .ret)) (bEx .nrm)))
 (bSeq (bReg (f37_r3 c))
 (bSeq (bSeq (bReg (f37_r4 c))
 (bCond (.tmp 15) (bSeq (bReg (f37_r5 c))
 (bEx .ret)) (bEx .nrm)))
 (bSeq (bReg (f37_r6 c))
 (bEx .ret))))))
theorem f37_eq (c : CallF) (k : Nat) : exec cx c 17 f37_an k (Tryd.f37.body.getD .skip) = f37 c k := by kernel_rfl
/-! ### f38: loop.example/g01263/impl.WorstDebtor -/
def f38_an : Ann := ⟨[(0, r0 [1]), (1, r0 [1, 10]), (2, r0 [2, 3]), (3, r0 [1, 4, 5]), (4, r0 [4, 5, 12, 13, 14]), (5, r0 [4, 5, 12, 13, 14, 15]), (6, r0 [4, 5, 6, 7, 12, 13, 14]), (7, r0 [4, 5, 6, 7, 12, 13, 14, 22]), (8, r0 [4, 7, 12, 13, 14]), (9, r0 [4, 5, 12, 13, 14]), (10, r0 [4, 5, 12, 13, 14]), (11, r0 [4, 28]), (12, r0 [2, 3]), (13, r0 [2, 3])], [(5, [4, 5, 12, 13, 14])]⟩
noncomputable def f38_r0 (c : CallF) : RF := rg [1] <| aX 1 (pBox 2 0) <|
 aX 2 (pM (cn (.int .i64 0))) <|
 aX 3 (pM (cn (.int .i64 0))) <|
 aXZ
noncomputable def f38_r1 (c : CallF) : RF := rg [1, 10] <| aX 8 (pL true 2 1) <|
 aX 9 (pK c false 79 [8]) <|
 aX 10 (pU .not 9) <|
 aXZ
noncomputable def f38_r2 (c : CallF) : RF := rg [2, 3] <| aX 2 (pM (cn (.int .i64 0))) <|
 aX 3 (pM (cn (.int .i64 1))) <|
 aXZ
noncomputable def f38_r3 (c : CallF) : RF := rg [1, 4, 5] <| aX 4 (pM (cn (.int .i64 (-1)))) <|
 aX 5 (pM (cn (.int .i64 0))) <|
 aXZ
noncomputable def f38_r4 (c : CallF) : RF := rg [4, 5, 12, 13, 14] <| aX 11 (pF 0 1 1) <|
 aX 12 (pL false 1 11) <|
 aX 13 (pLen 72 12) <|
 aX 14 (pM (cn (.int .i64 0))) <|
 aXZ
noncomputable def f38_r5 (c : CallF) : RF := rg [4, 5, 12, 13, 14, 15] <| aX 15 (pB .lss 3 14 13) <|
 aXZ
noncomputable def f38_r6 (c : CallF) : RF := rg [4, 5, 6, 7, 12, 13, 14] <| aX 16 (pM 14) <|
 aX 17 (pI 3 12 14) <|
 aX 18 (pL true 3 17) <|
 aX 7 (pAl 27 3) <|
 aX 6 (pM 16) <|
 aX0 (pS 3 7 18) <|
 aXZ
noncomputable def f38_r7 (c : CallF) : RF := rg [4, 5, 6, 7, 12, 13, 14, 22] <| aX 19 (pF 2 1 7) <|
 aX 20 (pL false 1 19) <|
 aX 21 (pM 5) <|
 aX 22 (pB .gtr 2 20 21) <|
 aXZ
noncomputable def f38_r8 (c : CallF) : RF := rg [4, 7, 12, 13, 14] <| aX 23 (pM 6) <|
 aX 4 (pM 23) <|
 aXZ
noncomputable def f38_r9 (c : CallF) : RF := rg [4, 5, 12, 13, 14] <| aX 24 (pF 2 1 7) <|
 aX 25 (pL false 1 24) <|
 aX 5 (pM 25) <|
 aXZ
noncomputable def f38_r10 (c : CallF) : RF := rg [4, 5, 12, 13, 14] <| aX 26 (pB .add 3 14 (cn (.int .i64 1))) <|
 aX 14 (pM 26) <|
 aXZ
noncomputable def f38_r11 (c : CallF) : RF := rg [4, 28] <| aX 27 (pM 4) <|
 aX 28 (pB .lss 3 27 (cn (.int .i64 0))) <|
 aXZ
noncomputable def f38_r12 (c : CallF) : RF := rg [2, 3] <| aX 2 (pM (cn (.int .i64 0))) <|
 aX 3 (pM (cn (.int .i64 6))) <|
 aXZ
noncomputable def f38_r13 (c : CallF) : RF := rg [2, 3] <| aX 29 (pM 4) <|
 aX 2 (pM 29) <|
 aX 3 (pM (cn (.int .i64 0))) <|
 aXZ
noncomputable def f38_l5 (c : CallF) (k : Nat) : St :=
 (bSeq (bReg (f38_r5 c))
 (bSeq (bCond (.tmp 15) (bEx .nrm) (bEx (.ext 0)))
 (bSeq (bBlock 1 (bSeq (bReg (f38_r6 c))
 (bSeq (bReg (f38_r7 c))
 (bCond (.tmp 22) (bSeq (bReg (f38_r8 c))
 (bReg (f38_r9 c))) (bEx .nrm)))))
 (bReg (f38_r10 c)))))
noncomputable def f38 (c : CallF) (k : Nat) : St :=
 (bSeq (bReg (f38_r0 c))
 (bSeq (bSeq (bReg (f38_r1 c))
 (bCond (.tmp 10) (bSeq (bReg (f38_r2 c))
 (bEx .ret)) (bEx .nrm)))
 (bSeq (bReg (f38_r3 c))
 (bSeq (bSeq (bReg (f38_r4 c))
 (bBlock 0 (bLoop [4, 5, 12, 13, 14] (f38_l5 c k) k)))
 (bSeq (bSeq (bReg (f38_r11 c))
 (bCond (.tmp 28) (bSeq (bReg (f38_r12 c))
 (bEx .ret)) (bEx .nrm)))
 (bSeq (bReg (f38_r13 c))
 (bEx .ret)))))))
theorem f38_eq (c : CallF) (k : Nat) : exec cx c 30 f38_an k (Tryd.f38.body.getD .skip) = f38 c k := by kernel_rfl
/-! ### f39: loop.example/g01263/spec.WorstDebtor -/
def f39_an : Ann := ⟨[(0, r0 [1]), (1, r0 [1, 8]), (2, r0 [2, 3]), (3, r0 [1, 4]), (4, r0 [1, 4, 5]), (5, r0 [1, 4, 5, 6]), (6, r0 [1, 4, 5, 6, 13]), (7, r0 [1, 4, 5, 6]), (8, r0 [1, 4, 5, 6, 23]), (9, r0 [1, 4, 6]), (10, r0 [1, 4, 5, 6]), (11, r0 [4, 32]), (12, r0 [2, 3]), (13, r0 [2, 3])], [(6, [1, 4, 5, 6])]⟩
noncomputable def f39_r0 (c : CallF) : RF := rg [1] <| aX 1 (pBox 2 0) <|
 aX 2 (pM (cn (.int .i64 0))) <|
 aX 3 (pM (cn (.int .i64 0))) <|
 aXZ
noncomputable def f39_r1 (c : CallF) : RF := rg [1, 8] <| aX 7 (pK c false 82 [1]) <|
 aX 8 (pU .not 7) <|
 aXZ
noncomputable def f39_r2 (c : CallF) : RF := rg [2, 3] <| aX 2 (pM (cn (.int .i64 0))) <|
 aX 3 (pM (cn (.int .i64 1))) <|
 aXZ
noncomputable def f39_r3 (c : CallF) : RF := rg [1, 4] <| aX 4 (pM (cn (.int .i64 (-1)))) <|
 aXZ
noncomputable def f39_r4 (c : CallF) : RF := rg [1, 4, 5] <| aX 5 (pM (cn (.int .i64 0))) <|
 aXZ
noncomputable def f39_r5 (c : CallF) : RF := rg [1, 4, 5, 6] <| aX 6 (pM (cn (.int .i64 0))) <|
 aXZ
noncomputable def f39_r6 (c : CallF) : RF := rg [1, 4, 5, 6, 13] <| aX 9 (pM 6) <|
 aX 10 (pF 0 1 1) <|
 aX 11 (pL false 1 10) <|
 aX 12 (pLen 72 11) <|
 aX 13 (pB .lss 3 9 12) <|
 aXZ
noncomputable def f39_r7 (c : CallF) : RF := rg [1, 4, 5, 6] <| aX 14 (pM 6) <|
 aX 15 (pB .add 3 14 (cn (.int .i64 1))) <|
 aX 6 (pM 15) <|
 aXZ
noncomputable def f39_r8 (c : CallF) : RF := rg [1, 4, 5, 6, 23] <| aX 16 (pF 0 1 1) <|
 aX 17 (pL false 1 16) <|
 aX 18 (pM 6) <|
 aX 19 (pI 3 17 18) <|
 aX 20 (pF 2 1 19) <|
 aX 21 (pL false 1 20) <|
 aX 22 (pM 5) <|
 aX 23 (pB .gtr 2 21 22) <|
 aXZ
noncomputable def f39_r9 (c : CallF) : RF := rg [1, 4, 6] <| aX 24 (pM 6) <|
 aX 4 (pM 24) <|
 aXZ
noncomputable def f39_r10 (c : CallF) : RF := rg [1, 4, 5, 6] <| aX 25 (pF 0 1 1) <|
 aX 26 (pL false 1 25) <|
 aX 27 (pM 6) <|
 aX 28 (pI 3 26 27) <|
 aX 29 (pF 2 1 28) <|
 aX 30 (pL false 1 29) <|
 aX 5 (pM 30) <|
 aXZ
noncomputable def f39_r11 (c : CallF) : RF := rg [4, 32] <| aX 31 (pM 4) <|
 aX 32 (pB .lss 3 31 (cn (.int .i64 0))) <|
 aXZ
noncomputable def f39_r12 (c : CallF) : RF := rg [2, 3] <| aX 2 (pM (cn (.int .i64 0))) <|
 aX 3 (pM (cn (.int .i64 6))) <|
 aXZ
noncomputable def f39_r13 (c : CallF) : RF := rg [2, 3] <| aX 33 (pM 4) <|
 aX 2 (pM 33) <|
 aX 3 (pM (cn (.int .i64 0))) <|
 aXZ
noncomputable def f39_l6 (c : CallF) (k : Nat) : St :=
 (bSeq (bSeq (bReg (f39_r6 c))
 (bCond (.tmp 13) (bEx .nrm) (bEx (.ext 0))))
 (bSeq (bBlock 1 (bSeq (bReg (f39_r8 c))
 (bCond (.tmp 23) (bSeq (bReg (f39_r9 c))
 (bReg (f39_r10 c))) (bEx .nrm))))
 (bReg (f39_r7 c))))
noncomputable def f39 (c : CallF) (k : Nat) : St :=
 (bSeq (bReg (f39_r0 c))
 (bSeq (bSeq (bReg (f39_r1 c))
 (bCond (.tmp 8) (bSeq (bReg (f39_r2 c))
 (bEx .ret)) (bEx .nrm)))
 (bSeq (bReg (f39_r3 c))
 (bSeq (bReg (f39_r4 c))
 (bSeq (bSeq (bReg (f39_r5 c))
 (bBlock 0 (bLoop [1, 4, 5, 6] (f39_l6 c k) k)))
 (bSeq (bSeq (bReg (f39_r11 c))
 (bCond (.tmp 32) (bSeq (bReg (f39_r12 c))
 (bEx .ret)) (bEx .nrm)))
 (bSeq (bReg (f39_r13 c))
 (bEx .ret))))))))
theorem f39_eq (c : CallF) (k : Nat) : exec cx c 34 f39_an k (Tryd.f39.body.getD .skip) = f39 c k := by kernel_rfl
/-! ### f40: loop.example/g01263/spec.l05Drawn -/
def f40_an : Ann := ⟨[(0, r0 [0]), (1, ⟨[0], [], [], [], [0, 3], none, []⟩), (2, r0 [0, 3, 4]), (3, r0 [0, 3, 4, 10]), (4, r0 [0, 3, 4]), (5, r0 [0, 3, 4, 5]), (6, r0 [0, 3, 4, 5]), (7, ⟨[3], [], [], [], [0, 3, 4], none, []⟩), (8, r0 [2])], [(3, [0, 3, 4])]⟩
noncomputable def f40_r0 (c : CallF) : RF := rg [0] <| aX 2 (pM (cn .nils)) <|
 aXZ
noncomputable def f40_r1 (c : CallF) : RF := rg [0, 3] <| aX 6 (fun n e M => aLitO false n 42 2 [] M) <|
 aX 3 (pM 6) <|
 aXZ
noncomputable def f40_r2 (c : CallF) : RF := rg [0, 3, 4] <| aX 7 (pM 0) <|
 aX 8 (pK c false 59 [7, (cn (.int .i64 6))]) <|
 aX 4 (pM 8) <|
 aXZ
noncomputable def f40_r3 (c : CallF) : RF := rg [0, 3, 4, 10] <| aX 9 (pM 4) <|
 aX 10 (pB .gtr 2 9 (cn (.int .i64 0))) <|
 aXZ
noncomputable def f40_r4 (c : CallF) : RF := rg [0, 3, 4] <| aX 11 (pM 4) <|
 aX 12 (pB .sub 2 11 (cn (.int .i64 1))) <|
 aX 4 (pM 12) <|
 aXZ
noncomputable def f40_r5 (c : CallF) : RF := rg [0, 3, 4, 5] <| aX 13 (pM 0) <|
 aX 14 (pK c false 59 [13, (cn (.int .i64 4))]) <|
 aX 15 (fun n e M => keep (aConvI .i8 (eget e 14))) <|
 aX 16 (fun n e M => keep (aBuild (zeroOf cx.P 42) [(0, 1, (eget e 15))] M)) <|
 aX 5 (pAl 42 2) <|
 aX0 (pS 2 5 16) <|
 aXZ
noncomputable def f40_r6 (c : CallF) : RF := rg [0, 3, 4, 5] <| aX 17 (pM 0) <|
 aX 18 (pK c false 59 [17, (cn (.int .i64 500))]) <|
 aX 19 (pF 1 1 5) <|
 aX0 (pS 1 19 18) <|
 aXZ
noncomputable def f40_r7 (c : CallF) : RF := rg [0, 3, 4] <| aX 20 (pM 3) <|
 aX 21 (pL true 2 5) <|
 aX 22 (fun n e M => keep (aLitI 42 2 [(eget e 21)] M)) <|
 aX 23 (fun n e M => aAppO n 42 2 16 (eget e 20) (eget e 22) M) <|
 aX 3 (pM 23) <|
 aXZ
noncomputable def f40_r8 (c : CallF) : RF := rg [2] <| aX 24 (pM 3) <|
 aX 2 (pM 24) <|
 aXZ
noncomputable def f40_l3 (c : CallF) (k : Nat) : St :=
 (bSeq (bSeq (bReg (f40_r3 c))
 (bCond (.tmp 10) (bEx .nrm) (bEx (.ext 0))))
 (bSeq (bBlock 1 (bSeq (bReg (f40_r5 c))
 (bSeq (bReg (f40_r6 c))
 (bReg (f40_r7 c)))))
 (bReg (f40_r4 c))))
noncomputable def f40 (c : CallF) (k : Nat) : St :=
 (bSeq (bReg (f40_r0 c))
 (bSeq (bReg (f40_r1 c))
 (bSeq (bSeq (bReg (f40_r2 c))
 (bBlock 0 (bLoop [0, 3, 4] (f40_l3 c k) k)))
 (bSeq (bReg (f40_r8 c))
 (bEx .ret)))))
theorem f40_eq (c : CallF) (k : Nat) : exec cx c 25 f40_an k (Tryd.f40.body.getD .skip) = f40 c k := by kernel_rfl
/-! ### f41: loop.example/g01263/spec.l00From -/
def f41_an : Ann := ⟨[(0, r0 [0]), (1, ⟨[2], [], [], [], [2], none, []⟩)], []⟩
noncomputable def f41_r0 (c : CallF) : RF := rg [0] <| aX 2 (pM (cn .nilp)) <|
 aXZ
noncomputable def f41_r1 (c : CallF) : RF := rg [2] <| aX 3 (pM 0) <|
 aX 4 (fun n e M => keep (aBuild (zeroOf cx.P 125) [(0, 1, (eget e 3))] M)) <|
 aX 5 (fun n e M => aBoxO n 125 3 (eget e 4) M) <|
 aX 2 (pM 5) <|
 aXZ
noncomputable def f41 (c : CallF) (k : Nat) : St :=
 (bSeq (bReg (f41_r0 c))
 (bSeq (bReg (f41_r1 c))
 (bEx .ret)))
theorem f41_eq (c : CallF) (k : Nat) : exec cx c 6 f41_an k (Tryd.f41.body.getD .skip) = f41 c k := by kernel_rfl
/-! ### f42: loop.example/g01263/impl.isLetters -/
def f42_an : Ann := ⟨[(0, r0 [0, 1]), (1, r0 [0, 1, 7, 8]), (2, r0 [0, 1, 7, 8, 9]), (3, r0 [0, 1, 5, 7, 8]), (4, r0 [0, 1, 7, 8, 20]), (5, r0 [4]), (6, r0 [0, 1, 7, 8]), (7, r0 [4])], [(2, [0, 1, 7, 8])]⟩
noncomputable def f42_r0 (c : CallF) : RF := rg [0, 1] <| aX 4 (pM (cn (.bool false))) <|
 aXZ
noncomputable def f42_r1 (c : CallF) : RF := rg [0, 1, 7, 8] <| aX 6 (pM 0) <|
 aX 7 (pLen 9 6) <|
 aX 8 (pM (cn (.int .i64 0))) <|
 aXZ
noncomputable def f42_r2 (c : CallF) : RF := rg [0, 1, 7, 8, 9] <| aX 9 (pB .lss 3 8 7) <|
 aXZ
noncomputable def f42_r3 (c : CallF) : RF := rg [0, 1, 5, 7, 8] <| aX 10 (pM 8) <|
 aX 5 (pM 10) <|
 aXZ
noncomputable def f42_r4 (c : CallF) : RF := rg [0, 1, 7, 8, 20] <| aX 11 (pM 0) <|
 aX 12 (pM 5) <|
 aX 13 (fun n e M => keep (aIndexB (eget e 11) (eget e 12))) <|
 aX 14 (pB .lss 5 13 (cn (.int .u8 97))) <|
 aX 15 (pM 14) <|
 aX 16 (pG 15 false (pM 0)) <|
 aX 17 (pG 15 false (pM 5)) <|
 aX 18 (pG 15 false (fun n e M => keep (aIndexB (eget e 16) (eget e 17)))) <|
 aX 19 (pG 15 false (pB .gtr 5 18 (cn (.int .u8 122)))) <|
 aX 20 (pP 15 (cn (.bool true)) 19) <|
 aXZ
noncomputable def f42_r5 (c : CallF) : RF := rg [4] <| aX 4 (pM (cn (.bool false))) <|
 aXZ
noncomputable def f42_r6 (c : CallF) : RF := rg [0, 1, 7, 8] <| aX 21 (pB .add 3 8 (cn (.int .i64 1))) <|
 aX 8 (pM 21) <|
 aXZ
noncomputable def f42_r7 (c : CallF) : RF := rg [4] <| aX 22 (pM 0) <|
 aX 23 (pLen 9 22) <|
 aX 24 (pB .geq 3 23 (cn (.int .i64 1))) <|
 aX 25 (pM 24) <|
 aX 26 (pG 25 true (pM 0)) <|
 aX 27 (pG 25 true (pLen 9 26)) <|
 aX 28 (pG 25 true (pM 1)) <|
 aX 29 (pG 25 true (pB .leq 3 27 28)) <|
 aX 30 (pP 25 29 (cn (.bool false))) <|
 aX 4 (pM 30) <|
 aXZ
noncomputable def f42_l2 (c : CallF) (k : Nat) : St :=
 (bSeq (bReg (f42_r2 c))
 (bSeq (bCond (.tmp 9) (bEx .nrm) (bEx (.ext 0)))
 (bSeq (bBlock 1 (bSeq (bReg (f42_r3 c))
 (bSeq (bReg (f42_r4 c))
 (bCond (.tmp 20) (bSeq (bReg (f42_r5 c))
 (bEx .ret)) (bEx .nrm)))))
 (bReg (f42_r6 c)))))
noncomputable def f42 (c : CallF) (k : Nat) : St :=
 (bSeq (bReg (f42_r0 c))
 (bSeq (bSeq (bReg (f42_r1 c))
 (bBlock 0 (bLoop [0, 1, 7, 8] (f42_l2 c k) k)))
 (bSeq (bReg (f42_r7 c))
 (bEx .ret))))
theorem f42_eq (c : CallF) (k : Nat) : exec cx c 31 f42_an k (Tryd.f42.body.getD .skip) = f42 c k := by kernel_rfl
/-! ### f43: slices.Clone[[]loop.example/g01263/impl.Item,loop.example/g01263/impl.Item] -/
def f43_an : Ann := ⟨[(0, r0 [0]), (1, r0 [0, 4]), (2, r0 [2]), (3, r0 [2])], []⟩
noncomputable def f43_r0 (c : CallF) : RF := rg [0] <| aX 2 (pM (cn .nils)) <|
 aXZ
noncomputable def f43_r1 (c : CallF) : RF := rg [0, 4] <| aX 3 (pM 0) <|
 aX 4 (pB .eql 24 3 (cn .nils)) <|
 aXZ
noncomputable def f43_r2 (c : CallF) : RF := rg [2] <| aX 2 (pM (cn .nils)) <|
 aXZ
noncomputable def f43_r3 (c : CallF) : RF := rg [2] <| aX 5 (fun n e M => keep (aLitI 42 2 [] M)) <|
 aX 6 (pM 0) <|
 aX 7 (fun n e M => aAppI 42 2 16 (eget e 5) (eget e 6) M) <|
 aX 2 (pM 7) <|
 aXZ
noncomputable def f43 (c : CallF) (k : Nat) : St :=
 (bSeq (bReg (f43_r0 c))
 (bSeq (bSeq (bReg (f43_r1 c))
 (bCond (.tmp 4) (bSeq (bReg (f43_r2 c))
 (bEx .ret)) (bEx .nrm)))
 (bSeq (bReg (f43_r3 c))
 (bEx .ret))))
theorem f43_eq (c : CallF) (k : Nat) : exec cx c 8 f43_an k (Tryd.f43.body.getD .skip) = f43 c k := by kernel_rfl
/-! ### f44: loop.example/g01263/impl.balance -/
def f44_an : Ann := ⟨[(0, r0 [0]), (1, r0 [0, 3]), (2, r0 [3, 6, 7, 8]), (3, r0 [3, 6, 7, 8, 9]), (4, r0 [3, 5, 6, 7, 8]), (5, r0 [3, 5, 6, 7, 8, 19]), (6, r0 [3, 6, 7, 8]), (7, r0 [3, 6, 7, 8]), (8, r0 [3, 6, 7, 8]), (9, r0 [2])], [(3, [3, 6, 7, 8])]⟩
noncomputable def f44_r0 (c : CallF) : RF := rg [0] <| aX 2 (pM (cn (.int .i64 0))) <|
 aXZ
noncomputable def f44_r1 (c : CallF) : RF := rg [0, 3] <| aX 3 (pM (cn (.int .i64 0))) <|
 aXZ
noncomputable def f44_r2 (c : CallF) : RF := rg [3, 6, 7, 8] <| aX 6 (pM 0) <|
 aX 7 (pLen 24 6) <|
 aX 8 (pM (cn (.int .i64 0))) <|
 aXZ
noncomputable def f44_r3 (c : CallF) : RF := rg [3, 6, 7, 8, 9] <| aX 9 (pB .lss 3 8 7) <|
 aXZ
noncomputable def f44_r4 (c : CallF) : RF := rg [3, 5, 6, 7, 8] <| aX 10 (pI 2 6 8) <|
 aX 11 (pL true 2 10) <|
 aX 5 (pAl 42 2) <|
 aX0 (pS 2 5 11) <|
 aXZ
noncomputable def f44_r5 (c : CallF) : RF := rg [3, 5, 6, 7, 8, 19] <| aX 12 (pF 0 1 5) <|
 aX 13 (pL false 1 12) <|
 aX 14 (pB .eql 39 13 (cn (.int .i8 0))) <|
 aX 15 (pM 14) <|
 aX 16 (pG 15 false (pF 0 1 5)) <|
 aX 17 (pG 15 false (pL false 1 16)) <|
 aX 18 (pG 15 false (pB .eql 39 17 (cn (.int .i8 1)))) <|
 aX 19 (pP 15 (cn (.bool true)) 18) <|
 aXZ
noncomputable def f44_r6 (c : CallF) : RF := rg [3, 6, 7, 8] <| aX 20 (pM 3) <|
 aX 21 (pF 1 1 5) <|
 aX 22 (pL false 1 21) <|
 aX 23 (pB .add 2 20 22) <|
 aX 3 (pM 23) <|
 aXZ
noncomputable def f44_r7 (c : CallF) : RF := rg [3, 6, 7, 8] <| aX 24 (pM 3) <|
 aX 25 (pF 1 1 5) <|
 aX 26 (pL false 1 25) <|
 aX 27 (pB .sub 2 24 26) <|
 aX 3 (pM 27) <|
 aXZ
noncomputable def f44_r8 (c : CallF) : RF := rg [3, 6, 7, 8] <| aX 28 (pB .add 3 8 (cn (.int .i64 1))) <|
 aX 8 (pM 28) <|
 aXZ
noncomputable def f44_r9 (c : CallF) : RF := rg [2] <| aX 29 (pM 3) <|
 aX 2 (pM 29) <|
 aXZ
noncomputable def f44_l3 (c : CallF) (k : Nat) : St :=
 (bSeq (bReg (f44_r3 c))
 (bSeq (bCond (.tmp 9) (bEx .nrm) (bEx (.ext 0)))
 (bSeq (bBlock 1 (bSeq (bReg (f44_r4 c))
 (bSeq (bReg (f44_r5 c))
 (bCond (.tmp 19) (bReg (f44_r6 c)) (bReg (f44_r7 c))))))
 (bReg (f44_r8 c)))))
noncomputable def f44 (c : CallF) (k : Nat) : St :=
 (bSeq (bReg (f44_r0 c))
 (bSeq (bReg (f44_r1 c))
 (bSeq (bSeq (bReg (f44_r2 c))
 (bBlock 0 (bLoop [3, 6, 7, 8] (f44_l3 c k) k)))
 (bSeq (bReg (f44_r9 c))
 (bEx .ret)))))
theorem f44_eq (c : CallF) (k : Nat) : exec cx c 30 f44_an k (Tryd.f44.body.getD .skip) = f44 c k := by kernel_rfl
/-! ### f45: loop.example/g01263/spec.l05Items -/
def f45_an : Ann := ⟨[(0, r0 [0]), (1, r0 [0, 6]), (2, r0 [2]), (3, r0 [0, 3]), (4, r0 [0, 3, 10]), (5, r0 [0, 3]), (6, r0 [0, 3, 17]), (7, r0 [2]), (8, r0 [2])], [(4, [0, 3])]⟩
noncomputable def f45_r0 (c : CallF) : RF := rg [0] <| aX 2 (pM (cn (.bool false))) <|
 aXZ
noncomputable def f45_r1 (c : CallF) : RF := rg [0, 6] <| aX 4 (pM 0) <|
 aX 5 (pLen 24 4) <|
 aX 6 (pB .gtr 3 5 (cn (.int .i64 40))) <|
 aXZ
noncomputable def f45_r2 (c : CallF) : RF := rg [2] <| aX 2 (pM (cn (.bool false))) <|
 aXZ
noncomputable def f45_r3 (c : CallF) : RF := rg [0, 3] <| aX 3 (pM (cn (.int .i64 0))) <|
 aXZ
noncomputable def f45_r4 (c : CallF) : RF := rg [0, 3, 10] <| aX 7 (pM 3) <|
 aX 8 (pM 0) <|
 aX 9 (pLen 24 8) <|
 aX 10 (pB .lss 3 7 9) <|
 aXZ
noncomputable def f45_r5 (c : CallF) : RF := rg [0, 3] <| aX 11 (pM 3) <|
 aX 12 (pB .add 3 11 (cn (.int .i64 1))) <|
 aX 3 (pM 12) <|
 aXZ
noncomputable def f45_r6 (c : CallF) : RF := rg [0, 3, 17] <| aX 13 (pM 0) <|
 aX 14 (pM 3) <|
 aX 15 (pI 2 13 14) <|
 aX 16 (pK c false 83 [15]) <|
 aX 17 (pU .not 16) <|
 aXZ
noncomputable def f45_r7 (c : CallF) : RF := rg [2] <| aX 2 (pM (cn (.bool false))) <|
 aXZ
noncomputable def f45_r8 (c : CallF) : RF := rg [2] <| aX 2 (pM (cn (.bool true))) <|
 aXZ
noncomputable def f45_l4 (c : CallF) (k : Nat) : St :=
 (bSeq (bSeq (bReg (f45_r4 c))
 (bCond (.tmp 10) (bEx .nrm) (bEx (.ext 0))))
 (bSeq (bBlock 1 (bSeq (bReg (f45_r6 c))
 (bCond (.tmp 17) (bSeq (bReg (f45_r7 c))
 (bEx .ret)) (bEx .nrm))))
 (bReg (f45_r5 c))))
noncomputable def f45 (c : CallF) (k : Nat) : St :=
 (bSeq (bReg (f45_r0 c))
 (bSeq (bSeq (bReg (f45_r1 c))
 (bCond (.tmp 6) (bSeq (bReg (f45_r2 c))
 (bEx .ret)) (bEx .nrm)))
 (bSeq (bSeq (bReg (f45_r3 c))
 (bBlock 0 (bLoop [0, 3] (f45_l4 c k) k)))
 (bSeq (bReg (f45_r8 c))
 (bEx .ret)))))
theorem f45_eq (c : CallF) (k : Nat) : exec cx c 18 f45_an k (Tryd.f45.body.getD .skip) = f45 c k := by kernel_rfl
/-! ### f46: loop.example/g01263/spec.l05Title -/
def f46_an : Ann := ⟨[(0, r0 [0]), (1, r0 [0, 3]), (2, r0 [0, 3, 7]), (3, r0 [0, 3]), (4, r0 [0, 3, 19]), (5, r0 [2]), (6, r0 [2])], [(2, [0, 3])]⟩
noncomputable def f46_r0 (c : CallF) : RF := rg [0] <| aX 2 (pM (cn (.bool false))) <|
 aXZ
noncomputable def f46_r1 (c : CallF) : RF := rg [0, 3] <| aX 3 (pM (cn (.int .i64 0))) <|
 aXZ
noncomputable def f46_r2 (c : CallF) : RF := rg [0, 3, 7] <| aX 4 (pM 3) <|
 aX 5 (pM 0) <|
 aX 6 (pLen 9 5) <|
 aX 7 (pB .lss 3 4 6) <|
 aXZ
noncomputable def f46_r3 (c : CallF) : RF := rg [0, 3] <| aX 8 (pM 3) <|
 aX 9 (pB .add 3 8 (cn (.int .i64 1))) <|
 aX 3 (pM 9) <|
 aXZ
noncomputable def f46_r4 (c : CallF) : RF := rg [0, 3, 19] <| aX 10 (pM 0) <|
 aX 11 (pM 3) <|
 aX 12 (fun n e M => keep (aIndexB (eget e 10) (eget e 11))) <|
 aX 13 (pB .lss 5 12 (cn (.int .u8 97))) <|
 aX 14 (pM 13) <|
 aX 15 (pG 14 false (pM 0)) <|
 aX 16 (pG 14 false (pM 3)) <|
 aX 17 (pG 14 false (fun n e M => keep (aIndexB (eget e 15) (eget e 16)))) <|
 aX 18 (pG 14 false (pB .gtr 5 17 (cn (.int .u8 122)))) <|
 aX 19 (pP 14 (cn (.bool true)) 18) <|
 aXZ
noncomputable def f46_r5 (c : CallF) : RF := rg [2] <| aX 2 (pM (cn (.bool false))) <|
 aXZ
noncomputable def f46_r6 (c : CallF) : RF := rg [2] <| aX 20 (pM 0) <|
 aX 21 (pLen 9 20) <|
 aX 22 (pK c false 84 [21, (cn (.int .i64 1)), (cn (.int .i64 16))]) <|
 aX 2 (pM 22) <|
 aXZ
noncomputable def f46_l2 (c : CallF) (k : Nat) : St :=
 (bSeq (bSeq (bReg (f46_r2 c))
 (bCond (.tmp 7) (bEx .nrm) (bEx (.ext 0))))
 (bSeq (bBlock 1 (bSeq (bReg (f46_r4 c))
 (bCond (.tmp 19) (bSeq (bReg (f46_r5 c))
 (bEx .ret)) (bEx .nrm))))
 (bReg (f46_r3 c))))
noncomputable def f46 (c : CallF) (k : Nat) : St :=
 (bSeq (bReg (f46_r0 c))
 (bSeq (bSeq (bReg (f46_r1 c))
 (bBlock 0 (bLoop [0, 3] (f46_l2 c k) k)))
 (bSeq (bReg (f46_r6 c))
 (bEx .ret))))
theorem f46_eq (c : CallF) (k : Nat) : exec cx c 23 f46_an k (Tryd.f46.body.getD .skip) = f46 c k := by kernel_rfl
/-! ### f47: loop.example/g01263/spec.l05Account -/
def f47_an : Ann := ⟨[(0, r0 [0, 1, 4]), (1, ⟨[7], [], [], [], [4], none, []⟩)], []⟩
noncomputable def f47_r0 (c : CallF) : RF := rg [0, 1, 4] <| aX 4 (pAl 27 3) <|
 aXZ
noncomputable def f47_r1 (c : CallF) : RF := rg [4] <| aX 5 (pM 0) <|
 aX 6 (fun n e M => keep (aLitI 42 2 [] M)) <|
 aX 7 (pM 1) <|
 aX 8 (fun n e M => aAppI 42 2 16 (eget e 6) (eget e 7) M) <|
 aX 9 (pM 1) <|
 aX 10 (pK c false 85 [9]) <|
 aX 11 (fun n e M => keep (aBuild (zeroOf cx.P 27) [(0, 1, (eget e 5)), (1, 1, (eget e 8)), (2, 1, (eget e 10))] M)) <|
 aX0 (pSK 3 4 11) <|
 aXZ
noncomputable def f47 (c : CallF) (k : Nat) : St :=
 (bSeq (bReg (f47_r0 c))
 (bSeq (bReg (f47_r1 c))
 (bEx .ret)))
theorem f47_eq (c : CallF) (k : Nat) : exec cx c 12 f47_an k (Tryd.f47.body.getD .skip) = f47 c k := by kernel_rfl
/-! ### f48: loop.example/g01263/impl.linesOf -/
def f48_an : Ann := ⟨[(0, r0 [0]), (1, r0 [0, 7]), (2, r0 [2, 3]), (3, r0 [4]), (4, r0 [4, 5]), (5, r0 [2, 3])], []⟩
noncomputable def f48_r0 (c : CallF) : RF := rg [0] <| aX 2 (pM (cn .nils)) <|
 aX 3 (pM (cn (.bool false))) <|
 aXZ
noncomputable def f48_r1 (c : CallF) : RF := rg [0, 7] <| aX 6 (pM 0) <|
 aX 7 (pB .eql 9 6 (cn (.str []))) <|
 aXZ
noncomputable def f48_r2 (c : CallF) : RF := rg [2, 3] <| aX 2 (pM (cn .nils)) <|
 aX 3 (pM (cn (.bool true))) <|
 aXZ
noncomputable def f48_r3 (c : CallF) : RF := rg [4] <| aX 8 (pM 0) <|
 aX 9 (pK c false 86 [8, (cn (.str [10]))]) <|
 aX 4 (pM 9) <|
 aXZ
noncomputable def f48_r4 (c : CallF) : RF := rg [4, 5] <| aX 10 (pM 4) <|
 aX 11 (pLen 71 10) <|
 aX 12 (pB .sub 3 11 (cn (.int .i64 1))) <|
 aX 5 (pM 12) <|
 aXZ
noncomputable def f48_r5 (c : CallF) : RF := rgD [2, 3] (aY 13 (pM 4) <|
 aY 14 (pM 5) <|
 aY 15 (fun n e M => keep (aSlice 1 none (some (eget e 14)) (eget e 13) M)) <|
 aY 16 (pM 4) <|
 aY 17 (pM 5) <|
 aY 18 (pI 1 16 17) <|
 aY 19 (pL false 1 18) <|
 aY 20 (pB .eql 9 19 (cn (.str []))) <|
 aY 2 (pM 15) <|
 aY 3 (pM 20) <|
 aYZ)
 (aXZ)
noncomputable def f48 (c : CallF) (k : Nat) : St :=
 (bSeq (bReg (f48_r0 c))
 (bSeq (bSeq (bReg (f48_r1 c))
 (bCond (.tmp 7) (bSeq (bReg (f48_r2 c))
 (bEx .ret)) (bEx .nrm)))
 (bSeq (bReg (f48_r3 c))
 (bSeq (bReg (f48_r4 c))
 (bSeq (bReg (f48_r5 c))
 (bEx .ret))))))
theorem f48_eq (c : CallF) (k : Nat) : exec cx c 21 f48_an k (Tryd.f48.body.getD .skip) = f48 c k := by kernel_rfl
/-! ### f49: loop.example/g01263/impl.readAccount -/
def f49_an : Ann := ⟨[(0, r0 [0, 2]), (1, r0 [0, 2, 19]), (2, r0 [2, 3, 4]), (3, ⟨[0], [], [], [], [0, 2, 5], none, []⟩), (4, r0 [0, 2, 5, 23, 24, 25]), (5, r0 [0, 2, 5, 23, 24, 25, 26]), (6, r0 [0, 2, 5, 6, 7, 23, 24, 25]), (7, r0 [0, 2, 5, 6, 8, 9, 23, 24, 25]), (8, r0 [0, 2, 5, 6, 9, 11, 23, 24, 25]), (9, r0 [0, 2, 5, 6, 9, 11, 23, 24, 25, 40]), (10, r0 [0, 2, 5, 11, 12, 13, 23, 24, 25]), (11, r0 [0, 2, 5, 11, 12, 23, 24, 25, 52]), (12, r0 [2, 3, 4]), (13, ⟨[6], [], [], [], [0, 2, 5, 23, 24, 25], none, []⟩), (14, r0 [0, 2, 6, 14, 15]), (15, r0 [2, 6, 14, 15, 16]), (16, ⟨[], [], [1, 2, 8, 9, 10], [11, 12, 13], [2, 3, 4], none, []⟩), (17, r0 [0, 2, 5, 23, 24, 25]), (18, r0 [2, 3, 4])], [(5, [0, 2, 5, 23, 24, 25])]⟩
noncomputable def f49_r0 (c : CallF) : RF := rg [0, 2] <| aX 2 (pAl 27 3) <|
 aX 3 (pM (cn (.int .i64 0))) <|
 aX 4 (pM (cn (.bool false))) <|
 aXZ
noncomputable def f49_r1 (c : CallF) : RF := rg [0, 2, 19] <| aX 17 (pM 0) <|
 aX 18 (pLen 71 17) <|
 aX 19 (pB .lss 3 18 (cn (.int .i64 2))) <|
 aXZ
noncomputable def f49_r2 (c : CallF) : RF := rg [2, 3, 4] <| aX 20 (fun n e M => keep (aBuild (zeroOf cx.P 27) [] M)) <|
 aX0 (pS 3 2 20) <|
 aX 3 (pM (cn (.int .i64 0))) <|
 aX 4 (pM (cn (.bool false))) <|
 aXZ
noncomputable def f49_r3 (c : CallF) : RF := rg [0, 2, 5] <| aX 21 (fun n e M => aLitO false n 42 2 [] M) <|
 aX 5 (pM 21) <|
 aXZ
noncomputable def f49_r4 (c : CallF) : RF := rg [0, 2, 5, 23, 24, 25] <| aX 22 (pM 0) <|
 aX 23 (fun n e M => keep (aSlice 1 (some (.int .i64 1)) none (eget e 22) M)) <|
 aX 24 (pLen 71 23) <|
 aX 25 (pM (cn (.int .i64 0))) <|
 aXZ
noncomputable def f49_r5 (c : CallF) : RF := rg [0, 2, 5, 23, 24, 25, 26] <| aX 26 (pB .lss 3 25 24) <|
 aXZ
noncomputable def f49_r6 (c : CallF) : RF := rg [0, 2, 5, 6, 7, 23, 24, 25] <| aX 27 (pM 25) <|
 aX 28 (pI 1 23 25) <|
 aX 29 (pL false 1 28) <|
 aX 6 (pM 27) <|
 aX 7 (pM 29) <|
 aXZ
noncomputable def f49_r7 (c : CallF) : RF := rg [0, 2, 5, 6, 8, 9, 23, 24, 25] <| aX 31 (pM 7) <|
 aX 32 (pK c false 87 [31, (cn (.str [32]))]) <|
 aX 30 (pM 32) <|
 aX 33 (pE 0 30) <|
 aX 34 (pE 1 30) <|
 aX 35 (pE 2 30) <|
 aX 8 (pM 33) <|
 aX 9 (pM 34) <|
 aX 10 (pM 35) <|
 aXZ
noncomputable def f49_r8 (c : CallF) : RF := rg [0, 2, 5, 6, 9, 11, 23, 24, 25] <| aX 36 (pK c false 52 []) <|
 aX 37 (pM 8) <|
 aX 38 (pK c false 88 [36, 37]) <|
 aX 11 (pM 38) <|
 aXZ
noncomputable def f49_r9 (c : CallF) : RF := rg [0, 2, 5, 6, 9, 11, 23, 24, 25, 40] <| aX 39 (pM 11) <|
 aX 40 (pB .geq 3 39 (cn (.int .i64 0))) <|
 aXZ
noncomputable def f49_r10 (c : CallF) : RF := rg [0, 2, 5, 11, 12, 13, 23, 24, 25] <| aX 42 (pM 9) <|
 aX 43 (pK c false 89 [42]) <|
 aX 41 (pM 43) <|
 aX 44 (pE 0 41) <|
 aX 45 (pE 1 41) <|
 aX 12 (pM 44) <|
 aX 13 (pM 45) <|
 aXZ
noncomputable def f49_r11 (c : CallF) : RF := rg [0, 2, 5, 11, 12, 23, 24, 25, 52] <| aX 46 (pM 13) <|
 aX 47 (pB .neq 2 46 (cn (.int .i64 0))) <|
 aX 48 (pM 47) <|
 aX 49 (pG 48 false (pM 5)) <|
 aX 50 (pG 48 false (pLen 24 49)) <|
 aX 51 (pG 48 false (pB .eql 3 50 (cn (.int .i64 40)))) <|
 aX 52 (pP 48 (cn (.bool true)) 51) <|
 aXZ
noncomputable def f49_r12 (c : CallF) : RF := rg [2, 3, 4] <| aX 53 (fun n e M => keep (aBuild (zeroOf cx.P 27) [] M)) <|
 aX0 (pS 3 2 53) <|
 aX 3 (pM (cn (.int .i64 0))) <|
 aX 4 (pM (cn (.bool false))) <|
 aXZ
noncomputable def f49_r13 (c : CallF) : RF := rg [0, 2, 5, 23, 24, 25] <| aX 54 (pM 5) <|
 aX 55 (pM 11) <|
 aX 56 (fun n e M => keep (aConvI .i8 (eget e 55))) <|
 aX 57 (pM 12) <|
 aX 58 (fun n e M => keep (aBuild (zeroOf cx.P 42) [(0, 1, (eget e 56)), (1, 1, (eget e 57))] M)) <|
 aX 59 (fun n e M => keep (aLitI 42 2 [(eget e 58)] M)) <|
 aX 60 (fun n e M => aAppO n 42 2 16 (eget e 54) (eget e 59) M) <|
 aX 5 (pM 60) <|
 aXZ
noncomputable def f49_r14 (c : CallF) : RF := rg [0, 2, 6, 14, 15] <| aX 62 (pM 0) <|
 aX 63 (pI 1 62 (cn (.int .i64 0))) <|
 aX 64 (pL false 1 63) <|
 aX 65 (pM 5) <|
 aX 66 (pK c false 8 [64, 65]) <|
 aX 61 (pM 66) <|
 aX 67 (pE 0 61) <|
 aX 68 (pE 1 61) <|
 aX 14 (pAl 27 3) <|
 aX0 (pS 3 14 67) <|
 aX 15 (pM 68) <|
 aXZ
noncomputable def f49_r15 (c : CallF) : RF := rg [2, 6, 14, 15, 16] <| aX 69 (pM 0) <|
 aX 70 (pM 6) <|
 aX 71 (pB .add 3 70 (cn (.int .i64 2))) <|
 aX 72 (fun n e M => keep (aSlice 1 none (some (eget e 71)) (eget e 69) M)) <|
 aX 73 (pK c false 90 [72, (cn (.str [10]))]) <|
 aX 74 (pB .add 9 73 (cn (.str [10]))) <|
 aX 16 (pM 74) <|
 aXZ
noncomputable def f49_r16 (c : CallF) : RF := rgD [2, 3, 4] (aY 75 (pL true 3 14) <|
 aYc 76 (pM 6) <|
 aYc 77 (pB .add 3 76 (cn (.int .i64 2))) <|
 aY 78 (pM 15) <|
 aY 79 (pB .eql 2 78 (cn (.int .i64 0))) <|
 aY 80 (pM 79) <|
 aY 81 (pG 80 true (pL true 3 14)) <|
 aY 82 (pG 80 true (pK c false 12 [81])) <|
 aYc 83 (pG 80 true (pM 16)) <|
 aYc 84 (pG 80 true (pB .eql 9 82 83)) <|
 aYc 85 (pP 80 84 (cn (.bool false))) <|
 aYZ)
 (aX0 (pS 3 2 75) <|
 aX 3 (pM 77) <|
 aX 4 (pM 85) <|
 aXZ)
noncomputable def f49_r17 (c : CallF) : RF := rg [0, 2, 5, 23, 24, 25] <| aX 86 (pB .add 3 25 (cn (.int .i64 1))) <|
 aX 25 (pM 86) <|
 aXZ
noncomputable def f49_r18 (c : CallF) : RF := rg [2, 3, 4] <| aX 87 (fun n e M => keep (aBuild (zeroOf cx.P 27) [] M)) <|
 aX0 (pS 3 2 87) <|
 aX 3 (pM (cn (.int .i64 0))) <|
 aX 4 (pM (cn (.bool false))) <|
 aXZ
noncomputable def f49_l5 (c : CallF) (k : Nat) : St :=
 (bSeq (bReg (f49_r5 c))
 (bSeq (bCond (.tmp 26) (bEx .nrm) (bEx (.ext 0)))
 (bSeq (bBlock 1 (bSeq (bReg (f49_r6 c))
 (bSeq (bReg (f49_r7 c))
 (bSeq (bReg (f49_r8 c))
 (bSeq (bSeq (bReg (f49_r9 c))
 (bCond (.tmp 40) (bSeq (bReg (f49_r10 c))
 (bSeq (bSeq (bReg (f49_r11 c))
 (bCond (.tmp 52) (bSeq (bReg (f49_r12 c))
 (bEx .ret)) (bEx .nrm)))
 (bSeq (bReg (f49_r13 c))
 (bEx (.ext 1))))) (bEx .nrm)))
 (bSeq (bReg (f49_r14 c))
 (bSeq (bReg (f49_r15 c))
 (bSeq (bReg (f49_r16 c))
 (bEx .ret)))))))))
 (bReg (f49_r17 c)))))
noncomputable def f49 (c : CallF) (k : Nat) : St :=
 (bSeq (bReg (f49_r0 c))
 (bSeq (bSeq (bReg (f49_r1 c))
 (bCond (.tmp 19) (bSeq (bReg (f49_r2 c))
 (bEx .ret)) (bEx .nrm)))
 (bSeq (bReg (f49_r3 c))
 (bSeq (bSeq (bReg (f49_r4 c))
 (bBlock 0 (bLoop [0, 2, 5, 23, 24, 25] (f49_l5 c k) k)))
 (bSeq (bReg (f49_r18 c))
 (bEx .ret))))))
theorem f49_eq (c : CallF) (k : Nat) : exec cx c 88 f49_an k (Tryd.f49.body.getD .skip) = f49 c k := by kernel_rfl
/-! ### f50: loop.example/g01263/impl.isAmount -/
def f50_an : Ann := ⟨[(0, r0 [0]), (1, r0 [2])], []⟩
noncomputable def f50_r0 (c : CallF) : RF := rg [0] <| aX 2 (pM (cn (.bool false))) <|
 aXZ
noncomputable def f50_r1 (c : CallF) : RF := rg [2] <| aX 3 (pM 0) <|
 aX 4 (pB .geq 2 3 (cn (.int .i64 0))) <|
 aX 5 (pM 4) <|
 aX 6 (pG 5 true (pM 0)) <|
 aX 7 (pG 5 true (pB .leq 2 6 (cn (.int .i64 100000000)))) <|
 aX 8 (pP 5 7 (cn (.bool false))) <|
 aX 2 (pM 8) <|
 aXZ
noncomputable def f50 (c : CallF) (k : Nat) : St :=
 (bSeq (bReg (f50_r0 c))
 (bSeq (bReg (f50_r1 c))
 (bEx .ret)))
theorem f50_eq (c : CallF) (k : Nat) : exec cx c 9 f50_an k (Tryd.f50.body.getD .skip) = f50 c k := by kernel_rfl
/-! ### f51: loop.example/g01263/impl.size -/
def f51_an : Ann := ⟨[(0, r0 [0]), (1, r0 [2])], []⟩
noncomputable def f51_r0 (c : CallF) : RF := rg [0] <| aX 2 (pM (cn (.int .i64 0))) <|
 aXZ
noncomputable def f51_r1 (c : CallF) : RF := rg [2] <| aX 3 (pM 0) <|
 aX 4 (pM 0) <|
 aX 5 (pU .neg 4) <|
 aX 6 (fun n e M => keep (aMax true (eget e 3) (eget e 5))) <|
 aX 2 (pM 6) <|
 aXZ
noncomputable def f51 (c : CallF) (k : Nat) : St :=
 (bSeq (bReg (f51_r0 c))
 (bSeq (bReg (f51_r1 c))
 (bEx .ret)))
theorem f51_eq (c : CallF) (k : Nat) : exec cx c 7 f51_an k (Tryd.f51.body.getD .skip) = f51 c k := by kernel_rfl
/-! ### f52: loop.example/g01263/impl.itemWords -/
def f52_an : Ann := ⟨[(0, r0 []), (1, r0 [0])], []⟩
noncomputable def f52_r0 (c : CallF) : RF := rg [] <| aX 0 (pM (cn .nils)) <|
 aXZ
noncomputable def f52_r1 (c : CallF) : RF := rg [0] <| aX 1 (fun n e M => keep (aLitI 9 1 [(.str [102, 97, 114, 109]), (.str [100, 101, 98, 116]), (.str [112, 97, 105, 100]), (.str [97, 108, 108, 111, 119, 101, 100])] M)) <|
 aX 0 (pM 1) <|
 aXZ
noncomputable def f52 (c : CallF) (k : Nat) : St :=
 (bSeq (bReg (f52_r0 c))
 (bSeq (bReg (f52_r1 c))
 (bEx .ret)))
theorem f52_eq (c : CallF) (k : Nat) : exec cx c 2 f52_an k (Tryd.f52.body.getD .skip) = f52 c k := by kernel_rfl
/-! ### f53: loop.example/g01263/impl.AmountText -/
def f53_an : Ann := ⟨[(0, r0 [0]), (1, r0 [0, 8]), (2, r0 [2]), (3, r0 [0, 10]), (4, r0 [2]), (5, ⟨[0], [], [], [], [0, 3], none, []⟩), (6, r0 [3, 19, 20, 21]), (7, r0 [3, 19, 20, 21, 22]), (8, r0 [3, 4, 5, 19, 20, 21]), (9, r0 [3, 4, 5, 19, 20, 21, 27]), (10, ⟨[9], [], [], [9, 10], [3, 19, 20, 21], none, []⟩), (11, r0 [3, 19, 20, 21]), (12, r0 [2])], [(7, [3, 19, 20, 21])]⟩
noncomputable def f53_r0 (c : CallF) : RF := rg [0] <| aX 2 (pM (cn (.str []))) <|
 aXZ
noncomputable def f53_r1 (c : CallF) : RF := rg [0, 8] <| aX 6 (pM 0) <|
 aX 7 (pK c false 50 [6]) <|
 aX 8 (pU .not 7) <|
 aXZ
noncomputable def f53_r2 (c : CallF) : RF := rg [2] <| aX 2 (pM (cn (.str []))) <|
 aXZ
noncomputable def f53_r3 (c : CallF) : RF := rg [0, 10] <| aX 9 (pM 0) <|
 aX 10 (pB .eql 2 9 (cn (.int .i64 0))) <|
 aXZ
noncomputable def f53_r4 (c : CallF) : RF := rg [2] <| aX 2 (pM (cn (.str [48, 100]))) <|
 aXZ
noncomputable def f53_r5 (c : CallF) : RF := rg [0, 3] <| aX 11 (fun n e M => aLitO false n 9 1 [] M) <|
 aX 3 (pM 11) <|
 aXZ
noncomputable def f53_r6 (c : CallF) : RF := rg [3, 19, 20, 21] <| aX 12 (pM 0) <|
 aX 13 (pB .quo 2 12 (cn (.int .i64 240))) <|
 aX 14 (pM 0) <|
 aX 15 (pB .quo 2 14 (cn (.int .i64 12))) <|
 aX 16 (pB .rem 2 15 (cn (.int .i64 20))) <|
 aX 17 (pM 0) <|
 aX 18 (pB .rem 2 17 (cn (.int .i64 12))) <|
 aX 19 (fun n e M => keep (aLitI 2 1 [(eget e 13), (eget e 16), (eget e 18)] M)) <|
 aX 20 (pLen 135 19) <|
 aX 21 (pM (cn (.int .i64 0))) <|
 aXZ
noncomputable def f53_r7 (c : CallF) : RF := rg [3, 19, 20, 21, 22] <| aX 22 (pB .lss 3 21 20) <|
 aXZ
noncomputable def f53_r8 (c : CallF) : RF := rg [3, 4, 5, 19, 20, 21] <| aX 23 (pM 21) <|
 aX 24 (pI 1 19 21) <|
 aX 25 (pL false 1 24) <|
 aX 4 (pM 23) <|
 aX 5 (pM 25) <|
 aXZ
noncomputable def f53_r9 (c : CallF) : RF := rg [3, 4, 5, 19, 20, 21, 27] <| aX 26 (pM 5) <|
 aX 27 (pB .gtr 2 26 (cn (.int .i64 0))) <|
 aXZ
noncomputable def f53_r10 (c : CallF) : RF := rgD [3, 19, 20, 21] (aY 28 (pM 3) <|
 aY 29 (pM 5) <|
 aY 30 (pK c false 91 [29]) <|
 aY 31 (pM 4) <|
 aY 32 (pM 4) <|
 aY 33 (pB .add 3 32 (cn (.int .i64 1))) <|
 aY 34 (fun n e M => keep (aSliceS (some (eget e 31)) (some (eget e 33)) (.str [108, 115, 100]))) <|
 aY 35 (pB .add 9 30 34) <|
 aY 36 (fun n e M => keep (aLitI 9 1 [(eget e 35)] M)) <|
 aYZ)
 (aX 37 (fun n e M => aAppO n 9 1 16 (eget e 28) (eget e 36) M) <|
 aX 3 (pM 37) <|
 aXZ)
noncomputable def f53_r11 (c : CallF) : RF := rg [3, 19, 20, 21] <| aX 38 (pB .add 3 21 (cn (.int .i64 1))) <|
 aX 21 (pM 38) <|
 aXZ
noncomputable def f53_r12 (c : CallF) : RF := rg [2] <| aX 39 (pM 3) <|
 aX 40 (pK c false 90 [39, (cn (.str [32]))]) <|
 aX 2 (pM 40) <|
 aXZ
noncomputable def f53_l7 (c : CallF) (k : Nat) : St :=
 (bSeq (bReg (f53_r7 c))
 (bSeq (bCond (.tmp 22) (bEx .nrm) (bEx (.ext 0)))
 (bSeq (bBlock 1 (bSeq (bReg (f53_r8 c))
 (bSeq (bReg (f53_r9 c))
 (bCond (.tmp 27) (bReg (f53_r10 c)) (bEx .nrm)))))
 (bReg (f53_r11 c)))))
noncomputable def f53 (c : CallF) (k : Nat) : St :=
 (bSeq (bReg (f53_r0 c))
 (bSeq (bSeq (bReg (f53_r1 c))
 (bCond (.tmp 8) (bSeq (bReg (f53_r2 c))
 (bEx .ret)) (bEx .nrm)))
 (bSeq (bSeq (bReg (f53_r3 c))
 (bCond (.tmp 10) (bSeq (bReg (f53_r4 c))
 (bEx .ret)) (bEx .nrm)))
 (bSeq (bReg (f53_r5 c))
 (bSeq (bSeq (bReg (f53_r6 c))
 (bBlock 0 (bLoop [3, 19, 20, 21] (f53_l7 c k) k)))
 (bSeq (bReg (f53_r12 c))
 (bEx .ret)))))))
theorem f53_eq (c : CallF) (k : Nat) : exec cx c 41 f53_an k (Tryd.f53.body.getD .skip) = f53 c k := by kernel_rfl
/-! ### f54: loop.example/g01263/impl.validItem -/
def f54_an : Ann := ⟨[(0, r0 [1]), (1, r0 [2])], []⟩
noncomputable def f54_r0 (c : CallF) : RF := rg [1] <| aX 1 (pBox 2 0) <|
 aX 2 (pM (cn (.bool false))) <|
 aXZ
noncomputable def f54_r1 (c : CallF) : RF := rg [2] <| aX 3 (pF 0 1 1) <|
 aX 4 (pL false 1 3) <|
 aX 5 (pB .geq 39 4 (cn (.int .i8 0))) <|
 aX 6 (pM 5) <|
 aX 7 (pG 6 true (pF 0 1 1)) <|
 aX 8 (pG 6 true (pL false 1 7)) <|
 aX 9 (pG 6 true (pB .leq 39 8 (cn (.int .i8 3)))) <|
 aX 10 (pP 6 9 (cn (.bool false))) <|
 aX 11 (pM 10) <|
 aX 12 (pG 11 true (pF 1 1 1)) <|
 aX 13 (pG 11 true (pL false 1 12)) <|
 aX 14 (pG 11 true (pK c false 50 [13])) <|
 aX 15 (pP 11 14 (cn (.bool false))) <|
 aX 2 (pM 15) <|
 aXZ
noncomputable def f54 (c : CallF) (k : Nat) : St :=
 (bSeq (bReg (f54_r0 c))
 (bSeq (bReg (f54_r1 c))
 (bEx .ret)))
theorem f54_eq (c : CallF) (k : Nat) : exec cx c 16 f54_an k (Tryd.f54.body.getD .skip) = f54 c k := by kernel_rfl
/-! ### f55: loop.example/g01263/spec.l05Right -/
def f55_an : Ann := ⟨[(0, r0 [0]), (1, r0 [2])], []⟩
noncomputable def f55_r0 (c : CallF) : RF := rg [0] <| aX 2 (pM (cn (.bool false))) <|
 aXZ
noncomputable def f55_r1 (c : CallF) : RF := rgD [2] (aY 3 (pM 0) <|
 aY 4 (pN 3) <|
 aY 5 (pF 0 1 4) <|
 aY 6 (pL false 1 5) <|
 aY 7 (pK c false 46 [6]) <|
 aY 8 (pM 7) <|
 aY 9 (pG 8 true (pM 0)) <|
 aY 10 (pG 8 true (pN 9)) <|
 aY 11 (pG 8 true (pF 1 1 10)) <|
 aY 12 (pG 8 true (pL false 1 11)) <|
 aY 13 (pG 8 true (pK c false 45 [12])) <|
 aY 14 (pP 8 13 (cn (.bool false))) <|
 aY 15 (pM 14) <|
 aY 16 (pG 15 true (pM 0)) <|
 aY 17 (pG 15 true (pN 16)) <|
 aY 18 (pG 15 true (pF 2 1 17)) <|
 aY 19 (pG 15 true (pL false 1 18)) <|
 aY 20 (pG 15 true (pM 0)) <|
 aY 21 (pG 15 true (pN 20)) <|
 aY 22 (pG 15 true (pF 1 1 21)) <|
 aY 23 (pG 15 true (pL false 1 22)) <|
 aY 24 (pG 15 true (pK c false 85 [23])) <|
 aY 25 (pG 15 true (pB .eql 2 19 24)) <|
 aY 26 (pP 15 25 (cn (.bool false))) <|
 aY 2 (pM 26) <|
 aYZ)
 (aXZ)
noncomputable def f55 (c : CallF) (k : Nat) : St :=
 (bSeq (bReg (f55_r0 c))
 (bSeq (bReg (f55_r1 c))
 (bEx .ret)))
theorem f55_eq (c : CallF) (k : Nat) : exec cx c 27 f55_an k (Tryd.f55.body.getD .skip) = f55 c k := by kernel_rfl
/-! ### f56: loop.example/g01263/spec.l01Amount -/
def f56_an : Ann := ⟨[(0, r0 [0]), (1, r0 [2])], []⟩
noncomputable def f56_r0 (c : CallF) : RF := rg [0] <| aX 2 (pM (cn (.bool false))) <|
 aXZ
noncomputable def f56_r1 (c : CallF) : RF := rg [2] <| aX 3 (pM 0) <|
 aX 4 (pK c false 84 [3, (cn (.int .i64 0)), (cn (.int .i64 100000000))]) <|
 aX 2 (pM 4) <|
 aXZ
noncomputable def f56 (c : CallF) (k : Nat) : St :=
 (bSeq (bReg (f56_r0 c))
 (bSeq (bReg (f56_r1 c))
 (bEx .ret)))
theorem f56_eq (c : CallF) (k : Nat) : exec cx c 5 f56_an k (Tryd.f56.body.getD .skip) = f56 c k := by kernel_rfl
/-! ### f59: (*loop.example/g01263/spec.l00Src).pick -/
def f59_an : Ann := ⟨[(0, r0 [0, 1]), (1, r0 [0, 1, 7]), (2, r0 [4]), (3, r0 [0, 1, 5]), (4, r0 [0, 1, 5, 11]), (5, r0 [1, 5]), (6, r0 [4])], []⟩
noncomputable def f59_r0 (c : CallF) : RF := rg [0, 1] <| aX 4 (pM (cn (.int .i64 0))) <|
 aXZ
noncomputable def f59_r1 (c : CallF) : RF := rg [0, 1, 7] <| aX 6 (pM 1) <|
 aX 7 (pB .leq 2 6 (cn (.int .i64 1))) <|
 aXZ
noncomputable def f59_r2 (c : CallF) : RF := rg [4] <| aX 4 (pM (cn (.int .i64 0))) <|
 aXZ
noncomputable def f59_r3 (c : CallF) : RF := rg [0, 1, 5] <| aX 8 (pM 0) <|
 aX 9 (pK c false 96 [8]) <|
 aX 5 (pM 9) <|
 aXZ
noncomputable def f59_r4 (c : CallF) : RF := rg [0, 1, 5, 11] <| aX 10 (pM 1) <|
 aX 11 (pB .gtr 2 10 (cn (.int .i64 200))) <|
 aXZ
noncomputable def f59_r5 (c : CallF) : RF := rg [1, 5] <| aX 12 (pM 5) <|
 aX 13 (pB .mul 2 12 (cn (.int .i64 256))) <|
 aX 14 (pM 0) <|
 aX 15 (pK c false 96 [14]) <|
 aX 16 (pB .add 2 13 15) <|
 aX 5 (pM 16) <|
 aXZ
noncomputable def f59_r6 (c : CallF) : RF := rg [4] <| aX 17 (pM 5) <|
 aX 18 (pM 1) <|
 aX 19 (pB .rem 2 17 18) <|
 aX 4 (pM 19) <|
 aXZ
noncomputable def f59 (c : CallF) (k : Nat) : St :=
 (bSeq (bReg (f59_r0 c))
 (bSeq (bSeq (bReg (f59_r1 c))
 (bCond (.tmp 7) (bSeq (bReg (f59_r2 c))
 (bEx .ret)) (bEx .nrm)))
 (bSeq (bReg (f59_r3 c))
 (bSeq (bSeq (bReg (f59_r4 c))
 (bCond (.tmp 11) (bReg (f59_r5 c)) (bEx .nrm)))
 (bSeq (bReg (f59_r6 c))
 (bEx .ret))))))
theorem f59_eq (c : CallF) (k : Nat) : exec cx c 20 f59_an k (Tryd.f59.body.getD .skip) = f59 c k := by kernel_rfl
/-! ### f74: loop.example/g01263/impl.owed -/
def f74_an : Ann := ⟨[(0, r0 [0]), (1, r0 [0, 3]), (2, r0 [3, 6, 7, 8]), (3, r0 [3, 6, 7, 8, 9]), (4, r0 [3, 5, 6, 7, 8]), (5, r0 [3, 6, 7, 8]), (6, r0 [3, 6, 7, 8]), (7, r0 [2])], [(3, [3, 6, 7, 8])]⟩
noncomputable def f74_r0 (c : CallF) : RF := rg [0] <| aX 2 (pM (cn (.int .i64 0))) <|
 aXZ
noncomputable def f74_r1 (c : CallF) : RF := rg [0, 3] <| aX 3 (pM (cn (.int .i64 0))) <|
 aXZ
noncomputable def f74_r2 (c : CallF) : RF := rg [3, 6, 7, 8] <| aX 6 (pM 0) <|
 aX 7 (pLen 72 6) <|
 aX 8 (pM (cn (.int .i64 0))) <|
 aXZ
noncomputable def f74_r3 (c : CallF) : RF := rg [3, 6, 7, 8, 9] <| aX 9 (pB .lss 3 8 7) <|
 aXZ
noncomputable def f74_r4 (c : CallF) : RF := rg [3, 5, 6, 7, 8] <| aX 10 (pI 3 6 8) <|
 aX 11 (pL true 3 10) <|
 aX 5 (pAl 27 3) <|
 aX0 (pS 3 5 11) <|
 aXZ
noncomputable def f74_r5 (c : CallF) : RF := rg [3, 6, 7, 8] <| aX 12 (pM 3) <|
 aX 13 (pF 2 1 5) <|
 aX 14 (pL false 1 13) <|
 aX 15 (fun n e M => keep (aMax true (eget e 14) (.int .i64 0))) <|
 aX 16 (pB .add 2 12 15) <|
 aX 3 (pM 16) <|
 aXZ
noncomputable def f74_r6 (c : CallF) : RF := rg [3, 6, 7, 8] <| aX 17 (pB .add 3 8 (cn (.int .i64 1))) <|
 aX 8 (pM 17) <|
 aXZ
noncomputable def f74_r7 (c : CallF) : RF := rg [2] <| aX 18 (pM 3) <|
 aX 2 (pM 18) <|
 aXZ
noncomputable def f74_l3 (c : CallF) (k : Nat) : St :=
 (bSeq (bReg (f74_r3 c))
 (bSeq (bCond (.tmp 9) (bEx .nrm) (bEx (.ext 0)))
 (bSeq (bBlock 1 (bSeq (bReg (f74_r4 c))
 (bReg (f74_r5 c))))
 (bReg (f74_r6 c)))))
noncomputable def f74 (c : CallF) (k : Nat) : St :=
 (bSeq (bReg (f74_r0 c))
 (bSeq (bReg (f74_r1 c))
 (bSeq (bSeq (bReg (f74_r2 c))
 (bBlock 0 (bLoop [3, 6, 7, 8] (f74_l3 c k) k)))
 (bSeq (bReg (f74_r7 c))
 (bEx .ret)))))
theorem f74_eq (c : CallF) (k : Nat) : exec cx c 19 f74_an k (Tryd.f74.body.getD .skip) = f74 c k := by kernel_rfl
/-! ### f75: loop.example/g01263/impl.hasTitle -/
def f75_an : Ann := ⟨[(0, r0 [0, 3]), (1, r0 [4])], []⟩
noncomputable def f75_r0 (c : CallF) : RF := rg [0, 3] <| aX 3 (pBox 1 1) <|
 aX 4 (pM (cn (.bool false))) <|
 aXZ
noncomputable def f75_r1 (c : CallF) : RF := rg [4] <| aX 5 (pM 0) <|
 aX 6 (pM (fun e => (.fn 110 [(eget e 3)]))) <|
 aX 7 (pK c false 109 [5, 6]) <|
 aX 4 (pM 7) <|
 aXZ
noncomputable def f75 (c : CallF) (k : Nat) : St :=
 (bSeq (bReg (f75_r0 c))
 (bSeq (bReg (f75_r1 c))
 (bEx .ret)))
theorem f75_eq (c : CallF) (k : Nat) : exec cx c 8 f75_an k (Tryd.f75.body.getD .skip) = f75 c k := by kernel_rfl
/-! ### f76: loop.example/g01263/impl.ownAccount -/
def f76_an : Ann := ⟨[(0, ⟨[0], [], [], [], [1, 2], none, []⟩), (1, r0 [1, 2]), (2, r0 [2])], []⟩
noncomputable def f76_r0 (c : CallF) : RF := rg [1, 2] <| aX 1 (fun n e M => aBoxO n 27 3 (eget e 0) M) <|
 aX 2 (pAl 27 3) <|
 aXZ
noncomputable def f76_r1 (c : CallF) : RF := rg [1, 2] <| aX 3 (pF 1 1 1) <|
 aX 4 (pL false 1 3) <|
 aX 5 (pK c false 43 [4]) <|
 aX 6 (pF 1 1 1) <|
 aX0 (pS 1 6 5) <|
 aXZ
noncomputable def f76_r2 (c : CallF) : RF := rg [2] <| aX 7 (pL true 3 1) <|
 aX0 (pS 3 2 7) <|
 aXZ
noncomputable def f76 (c : CallF) (k : Nat) : St :=
 (bSeq (bReg (f76_r0 c))
 (bSeq (bReg (f76_r1 c))
 (bSeq (bReg (f76_r2 c))
 (bEx .ret))))
theorem f76_eq (c : CallF) (k : Nat) : exec cx c 8 f76_an k (Tryd.f76.body.getD .skip) = f76 c k := by kernel_rfl
/-! ### f77: loop.example/g01263/spec.l05Owed -/
def f77_an : Ann := ⟨[(0, r0 [0]), (1, r0 [0, 3]), (2, r0 [0, 3, 4]), (3, r0 [0, 3, 4, 8]), (4, r0 [0, 3, 4]), (5, r0 [0, 3, 4]), (6, r0 [2])], [(3, [0, 3, 4])]⟩
noncomputable def f77_r0 (c : CallF) : RF := rg [0] <| aX 2 (pM (cn (.int .i64 0))) <|
 aXZ
noncomputable def f77_r1 (c : CallF) : RF := rg [0, 3] <| aX 3 (pM (cn (.int .i64 0))) <|
 aXZ
noncomputable def f77_r2 (c : CallF) : RF := rg [0, 3, 4] <| aX 4 (pM (cn (.int .i64 0))) <|
 aXZ
noncomputable def f77_r3 (c : CallF) : RF := rg [0, 3, 4, 8] <| aX 5 (pM 4) <|
 aX 6 (pM 0) <|
 aX 7 (pLen 72 6) <|
 aX 8 (pB .lss 3 5 7) <|
 aXZ
noncomputable def f77_r4 (c : CallF) : RF := rg [0, 3, 4] <| aX 9 (pM 4) <|
 aX 10 (pB .add 3 9 (cn (.int .i64 1))) <|
 aX 4 (pM 10) <|
 aXZ
noncomputable def f77_r5 (c : CallF) : RF := rg [0, 3, 4] <| aX 11 (pM 3) <|
 aX 12 (pM 0) <|
 aX 13 (pM 4) <|
 aX 14 (pI 3 12 13) <|
 aX 15 (pF 2 1 14) <|
 aX 16 (pL false 1 15) <|
 aX 17 (pK c false 111 [16, (cn (.int .i64 0))]) <|
 aX 18 (pB .add 2 11 17) <|
 aX 3 (pM 18) <|
 aXZ
noncomputable def f77_r6 (c : CallF) : RF := rg [2] <| aX 19 (pM 3) <|
 aX 2 (pM 19) <|
 aXZ
noncomputable def f77_l3 (c : CallF) (k : Nat) : St :=
 (bSeq (bSeq (bReg (f77_r3 c))
 (bCond (.tmp 8) (bEx .nrm) (bEx (.ext 0))))
 (bSeq (bBlock 1 (bReg (f77_r5 c)))
 (bReg (f77_r4 c))))
noncomputable def f77 (c : CallF) (k : Nat) : St :=
 (bSeq (bReg (f77_r0 c))
 (bSeq (bReg (f77_r1 c))
 (bSeq (bSeq (bReg (f77_r2 c))
 (bBlock 0 (bLoop [0, 3, 4] (f77_l3 c k) k)))
 (bSeq (bReg (f77_r6 c))
 (bEx .ret)))))
theorem f77_eq (c : CallF) (k : Nat) : exec cx c 20 f77_an k (Tryd.f77.body.getD .skip) = f77 c k := by kernel_rfl
/-! ### f78: loop.example/g01263/spec.l05Twin -/
def f78_an : Ann := ⟨[(0, r0 [0, 1]), (1, r0 [0, 1, 5]), (2, r0 [0, 1, 5, 8]), (3, r0 [0, 1, 5]), (4, r0 [0, 1, 5, 21]), (5, r0 [4]), (6, r0 [4])], [(2, [0, 1, 5])]⟩
noncomputable def f78_r0 (c : CallF) : RF := rg [0, 1] <| aX 4 (pM (cn (.bool false))) <|
 aXZ
noncomputable def f78_r1 (c : CallF) : RF := rg [0, 1, 5] <| aX 5 (pM (cn (.int .i64 0))) <|
 aXZ
noncomputable def f78_r2 (c : CallF) : RF := rg [0, 1, 5, 8] <| aX 6 (pM 5) <|
 aX 7 (pM 1) <|
 aX 8 (pB .lss 3 6 7) <|
 aXZ
noncomputable def f78_r3 (c : CallF) : RF := rg [0, 1, 5] <| aX 9 (pM 5) <|
 aX 10 (pB .add 3 9 (cn (.int .i64 1))) <|
 aX 5 (pM 10) <|
 aXZ
noncomputable def f78_r4 (c : CallF) : RF := rgD [0, 1, 5, 21] (aY 11 (pM 0) <|
 aY 12 (pM 5) <|
 aY 13 (pI 3 11 12) <|
 aY 14 (pF 0 1 13) <|
 aY 15 (pL false 1 14) <|
 aY 16 (pM 0) <|
 aY 17 (pM 1) <|
 aY 18 (pI 3 16 17) <|
 aY 19 (pF 0 1 18) <|
 aY 20 (pL false 1 19) <|
 aY 21 (pB .eql 9 15 20) <|
 aYZ)
 (aXZ)
noncomputable def f78_r5 (c : CallF) : RF := rg [4] <| aX 4 (pM (cn (.bool true))) <|
 aXZ
noncomputable def f78_r6 (c : CallF) : RF := rg [4] <| aX 4 (pM (cn (.bool false))) <|
 aXZ
noncomputable def f78_l2 (c : CallF) (k : Nat) : St :=
 (bSeq (bSeq (bReg (f78_r2 c))
 (bCond (.tmp 8) (bEx .nrm) (bEx (.ext 0))))
 (bSeq (bBlock 1 (bSeq (bReg (f78_r4 c))
 (bCond (.tmp 21) (bSeq (bReg (f78_r5 c))
 (bEx .ret)) (bEx .nrm))))
 (bReg (f78_r3 c))))
noncomputable def f78 (c : CallF) (k : Nat) : St :=
 (bSeq (bReg (f78_r0 c))
 (bSeq (bSeq (bReg (f78_r1 c))
 (bBlock 0 (bLoop [0, 1, 5] (f78_l2 c k) k)))
 (bSeq (bReg (f78_r6 c))
 (bEx .ret))))
theorem f78_eq (c : CallF) (k : Nat) : exec cx c 22 f78_an k (Tryd.f78.body.getD .skip) = f78 c k := by kernel_rfl
/-! ### f79: loop.example/g01263/impl.validRoll -/
def f79_an : Ann := ⟨[(0, r0 [1]), (1, r0 [4]), (2, r0 [2])], []⟩
noncomputable def f79_r0 (c : CallF) : RF := rg [1] <| aX 1 (pBox 2 0) <|
 aX 2 (pM (cn (.bool false))) <|
 aXZ
noncomputable def f79_r1 (c : CallF) : RF := rg [4] <| aX 6 (pL true 2 1) <|
 aX 7 (pK c false 34 [6]) <|
 aX 5 (pM 7) <|
 aX 8 (pE 0 5) <|
 aX 9 (pE 1 5) <|
 aX 3 (pM 8) <|
 aX 4 (pM 9) <|
 aXZ
noncomputable def f79_r2 (c : CallF) : RF := rg [2] <| aX 10 (pM 4) <|
 aX 11 (pB .eql 2 10 (cn (.int .i64 6))) <|
 aX 2 (pM 11) <|
 aXZ
noncomputable def f79 (c : CallF) (k : Nat) : St :=
 (bSeq (bReg (f79_r0 c))
 (bSeq (bReg (f79_r1 c))
 (bSeq (bReg (f79_r2 c))
 (bEx .ret))))
theorem f79_eq (c : CallF) (k : Nat) : exec cx c 12 f79_an k (Tryd.f79.body.getD .skip) = f79 c k := by kernel_rfl
/-! ### f80: slices.IndexFunc[[]loop.example/g01263/impl.Account,loop.example/g01263/impl.Account] -/
def f80_an : Ann := ⟨[(0, r0 [0, 1]), (1, r0 [0, 1, 7, 8]), (2, r0 [0, 1, 7, 8, 9]), (3, r0 [0, 1, 5, 7, 8]), (4, r0 [0, 1, 5, 7, 8, 16]), (5, r0 [4]), (6, r0 [0, 1, 7, 8]), (7, r0 [4])], [(2, [0, 1, 7, 8])]⟩
noncomputable def f80_r0 (c : CallF) : RF := rg [0, 1] <| aX 4 (pM (cn (.int .i64 0))) <|
 aXZ
noncomputable def f80_r1 (c : CallF) : RF := rg [0, 1, 7, 8] <| aX 6 (pM 0) <|
 aX 7 (pLen 72 6) <|
 aX 8 (pM (cn (.int .i64 0))) <|
 aXZ
noncomputable def f80_r2 (c : CallF) : RF := rg [0, 1, 7, 8, 9] <| aX 9 (pB .lss 3 8 7) <|
 aXZ
noncomputable def f80_r3 (c : CallF) : RF := rg [0, 1, 5, 7, 8] <| aX 10 (pM 8) <|
 aX 5 (pM 10) <|
 aXZ
noncomputable def f80_r4 (c : CallF) : RF := rg [0, 1, 5, 7, 8, 16] <| aX 11 (pM 1) <|
 aX 12 (pM 0) <|
 aX 13 (pM 5) <|
 aX 14 (pI 3 12 13) <|
 aX 15 (pL true 3 14) <|
 aX 16 (fun n e M => oCall cx c false n (eget e 11) [(eget e 15)] M) <|
 aXZ
noncomputable def f80_r5 (c : CallF) : RF := rg [4] <| aX 17 (pM 5) <|
 aX 4 (pM 17) <|
 aXZ
noncomputable def f80_r6 (c : CallF) : RF := rg [0, 1, 7, 8] <| aX 18 (pB .add 3 8 (cn (.int .i64 1))) <|
 aX 8 (pM 18) <|
 aXZ
noncomputable def f80_r7 (c : CallF) : RF := rg [4] <| aX 4 (pM (cn (.int .i64 (-1)))) <|
 aXZ
noncomputable def f80_l2 (c : CallF) (k : Nat) : St :=
 (bSeq (bReg (f80_r2 c))
 (bSeq (bCond (.tmp 9) (bEx .nrm) (bEx (.ext 0)))
 (bSeq (bBlock 1 (bSeq (bReg (f80_r3 c))
 (bSeq (bReg (f80_r4 c))
 (bCond (.tmp 16) (bSeq (bReg (f80_r5 c))
 (bEx .ret)) (bEx .nrm)))))
 (bReg (f80_r6 c)))))
noncomputable def f80 (c : CallF) (k : Nat) : St :=
 (bSeq (bReg (f80_r0 c))
 (bSeq (bSeq (bReg (f80_r1 c))
 (bBlock 0 (bLoop [0, 1, 7, 8] (f80_l2 c k) k)))
 (bSeq (bReg (f80_r7 c))
 (bEx .ret))))
theorem f80_eq (c : CallF) (k : Nat) : exec cx c 19 f80_an k (Tryd.f80.body.getD .skip) = f80 c k := by kernel_rfl
/-! ### f81: loop.example/g01263/impl.FindAccount$1 -/
def f81_an : Ann := ⟨[(0, r0 [1, 2]), (1, r0 [3])], []⟩
noncomputable def f81_r0 (c : CallF) : RF := rg [1, 2] <| aX 2 (pBox 3 0) <|
 aX 3 (pM (cn (.bool false))) <|
 aXZ
noncomputable def f81_r1 (c : CallF) : RF := rg [3] <| aX 4 (pF 0 1 2) <|
 aX 5 (pL false 1 4) <|
 aX 6 (pL false 1 1) <|
 aX 7 (pB .eql 9 5 6) <|
 aX 3 (pM 7) <|
 aXZ
noncomputable def f81 (c : CallF) (k : Nat) : St :=
 (bSeq (bReg (f81_r0 c))
 (bSeq (bReg (f81_r1 c))
 (bEx .ret)))
theorem f81_eq (c : CallF) (k : Nat) : exec cx c 8 f81_an k (Tryd.f81.body.getD .skip) = f81 c k := by kernel_rfl
/-! ### f82: loop.example/g01263/spec.l05Roll -/
def f82_an : Ann := ⟨[(0, r0 [0]), (1, r0 [2])], []⟩
noncomputable def f82_r0 (c : CallF) : RF := rg [0] <| aX 2 (pM (cn (.bool false))) <|
 aXZ
noncomputable def f82_r1 (c : CallF) : RF := rg [2] <| aX 3 (pM 0) <|
 aX 4 (pN 3) <|
 aX 5 (pF 0 1 4) <|
 aX 6 (pL false 1 5) <|
 aX 7 (pLen 72 6) <|
 aX 8 (pB .leq 3 7 (cn (.int .i64 20))) <|
 aX 9 (pM 8) <|
 aX 10 (pG 9 true (pM 0)) <|
 aX 11 (pG 9 true (pK c false 112 [10])) <|
 aX 12 (pG 9 true (pB .lss 2 11 (cn (.int .i64 0)))) <|
 aX 13 (pP 9 12 (cn (.bool false))) <|
 aX 2 (pM 13) <|
 aXZ
noncomputable def f82 (c : CallF) (k : Nat) : St :=
 (bSeq (bReg (f82_r0 c))
 (bSeq (bReg (f82_r1 c))
 (bEx .ret)))
theorem f82_eq (c : CallF) (k : Nat) : exec cx c 14 f82_an k (Tryd.f82.body.getD .skip) = f82 c k := by kernel_rfl
/-! ### f83: loop.example/g01263/spec.l05Item -/
def f83_an : Ann := ⟨[(0, r0 [0]), (1, r0 [2])], []⟩
noncomputable def f83_r0 (c : CallF) : RF := rg [0] <| aX 2 (pM (cn (.bool false))) <|
 aXZ
noncomputable def f83_r1 (c : CallF) : RF := rg [2] <| aX 3 (pM 0) <|
 aX 4 (pN 3) <|
 aX 5 (pF 0 1 4) <|
 aX 6 (pL false 1 5) <|
 aX 7 (fun n e M => keep (aConvI .i64 (eget e 6))) <|
 aX 8 (pK c false 84 [7, (cn (.int .i64 0)), (cn (.int .i64 3))]) <|
 aX 9 (pM 8) <|
 aX 10 (pG 9 true (pM 0)) <|
 aX 11 (pG 9 true (pN 10)) <|
 aX 12 (pG 9 true (pF 1 1 11)) <|
 aX 13 (pG 9 true (pL false 1 12)) <|
 aX 14 (pG 9 true (pK c false 56 [13])) <|
 aX 15 (pP 9 14 (cn (.bool false))) <|
 aX 2 (pM 15) <|
 aXZ
noncomputable def f83 (c : CallF) (k : Nat) : St :=
 (bSeq (bReg (f83_r0 c))
 (bSeq (bReg (f83_r1 c))
 (bEx .ret)))
theorem f83_eq (c : CallF) (k : Nat) : exec cx c 16 f83_an k (Tryd.f83.body.getD .skip) = f83 c k := by kernel_rfl
/-! ### f84: loop.example/g01263/spec.l00In -/
def f84_an : Ann := ⟨[(0, r0 [0, 1, 2]), (1, r0 [6])], []⟩
noncomputable def f84_r0 (c : CallF) : RF := rg [0, 1, 2] <| aX 6 (pM (cn (.bool false))) <|
 aXZ
noncomputable def f84_r1 (c : CallF) : RF := rg [6] <| aX 7 (pM 0) <|
 aX 8 (pM 1) <|
 aX 9 (pB .geq 2 7 8) <|
 aX 10 (pM 9) <|
 aX 11 (pG 10 true (pM 0)) <|
 aX 12 (pG 10 true (pM 2)) <|
 aX 13 (pG 10 true (pB .leq 2 11 12)) <|
 aX 14 (pP 10 13 (cn (.bool false))) <|
 aX 6 (pM 14) <|
 aXZ
noncomputable def f84 (c : CallF) (k : Nat) : St :=
 (bSeq (bReg (f84_r0 c))
 (bSeq (bReg (f84_r1 c))
 (bEx .ret)))
theorem f84_eq (c : CallF) (k : Nat) : exec cx c 15 f84_an k (Tryd.f84.body.getD .skip) = f84 c k := by kernel_rfl
/-! ### f85: loop.example/g01263/spec.l05Balance -/
def f85_an : Ann := ⟨[(0, r0 [0]), (1, r0 [0, 3]), (2, r0 [0, 3, 4]), (3, r0 [0, 3, 4, 8]), (4, r0 [0, 3, 4]), (5, r0 [0, 3, 4, 24]), (6, r0 [0, 3, 4]), (7, r0 [0, 3, 4]), (8, r0 [2])], [(3, [0, 3, 4])]⟩
noncomputable def f85_r0 (c : CallF) : RF := rg [0] <| aX 2 (pM (cn (.int .i64 0))) <|
 aXZ
noncomputable def f85_r1 (c : CallF) : RF := rg [0, 3] <| aX 3 (pM (cn (.int .i64 0))) <|
 aXZ
noncomputable def f85_r2 (c : CallF) : RF := rg [0, 3, 4] <| aX 4 (pM (cn (.int .i64 0))) <|
 aXZ
noncomputable def f85_r3 (c : CallF) : RF := rg [0, 3, 4, 8] <| aX 5 (pM 4) <|
 aX 6 (pM 0) <|
 aX 7 (pLen 24 6) <|
 aX 8 (pB .lss 3 5 7) <|
 aXZ
noncomputable def f85_r4 (c : CallF) : RF := rg [0, 3, 4] <| aX 9 (pM 4) <|
 aX 10 (pB .add 3 9 (cn (.int .i64 1))) <|
 aX 4 (pM 10) <|
 aXZ
noncomputable def f85_r5 (c : CallF) : RF := rg [0, 3, 4, 24] <| aX 11 (pM 0) <|
 aX 12 (pM 4) <|
 aX 13 (pI 2 11 12) <|
 aX 14 (pF 0 1 13) <|
 aX 15 (pL false 1 14) <|
 aX 16 (pB .eql 39 15 (cn (.int .i8 0))) <|
 aX 17 (pM 16) <|
 aX 18 (pG 17 false (pM 0)) <|
 aX 19 (pG 17 false (pM 4)) <|
 aX 20 (pG 17 false (pI 2 18 19)) <|
 aX 21 (pG 17 false (pF 0 1 20)) <|
 aX 22 (pG 17 false (pL false 1 21)) <|
 aX 23 (pG 17 false (pB .eql 39 22 (cn (.int .i8 1)))) <|
 aX 24 (pP 17 (cn (.bool true)) 23) <|
 aXZ
noncomputable def f85_r6 (c : CallF) : RF := rg [0, 3, 4] <| aX 25 (pM 3) <|
 aX 26 (pM 0) <|
 aX 27 (pM 4) <|
 aX 28 (pI 2 26 27) <|
 aX 29 (pF 1 1 28) <|
 aX 30 (pL false 1 29) <|
 aX 31 (pB .add 2 25 30) <|
 aX 3 (pM 31) <|
 aXZ
noncomputable def f85_r7 (c : CallF) : RF := rg [0, 3, 4] <| aX 32 (pM 3) <|
 aX 33 (pM 0) <|
 aX 34 (pM 4) <|
 aX 35 (pI 2 33 34) <|
 aX 36 (pF 1 1 35) <|
 aX 37 (pL false 1 36) <|
 aX 38 (pB .sub 2 32 37) <|
 aX 3 (pM 38) <|
 aXZ
noncomputable def f85_r8 (c : CallF) : RF := rg [2] <| aX 39 (pM 3) <|
 aX 2 (pM 39) <|
 aXZ
noncomputable def f85_l3 (c : CallF) (k : Nat) : St :=
 (bSeq (bSeq (bReg (f85_r3 c))
 (bCond (.tmp 8) (bEx .nrm) (bEx (.ext 0))))
 (bSeq (bBlock 1 (bSeq (bReg (f85_r5 c))
 (bCond (.tmp 24) (bReg (f85_r6 c)) (bReg (f85_r7 c)))))
 (bReg (f85_r4 c))))
noncomputable def f85 (c : CallF) (k : Nat) : St :=
 (bSeq (bReg (f85_r0 c))
 (bSeq (bReg (f85_r1 c))
 (bSeq (bSeq (bReg (f85_r2 c))
 (bBlock 0 (bLoop [0, 3, 4] (f85_l3 c k) k)))
 (bSeq (bReg (f85_r8 c))
 (bEx .ret)))))
theorem f85_eq (c : CallF) (k : Nat) : exec cx c 40 f85_an k (Tryd.f85.body.getD .skip) = f85 c k := by kernel_rfl
/-! ### f88: slices.Index[[]string,string] -/
def f88_an : Ann := ⟨[(0, r0 [0, 1]), (1, r0 [0, 1, 7, 8]), (2, r0 [0, 1, 7, 8, 9]), (3, r0 [0, 1, 5, 7, 8]), (4, r0 [0, 1, 5, 7, 8, 16]), (5, r0 [4]), (6, r0 [0, 1, 7, 8]), (7, r0 [4])], [(2, [0, 1, 7, 8])]⟩
noncomputable def f88_r0 (c : CallF) : RF := rg [0, 1] <| aX 4 (pM (cn (.int .i64 0))) <|
 aXZ
noncomputable def f88_r1 (c : CallF) : RF := rg [0, 1, 7, 8] <| aX 6 (pM 0) <|
 aX 7 (pLen 71 6) <|
 aX 8 (pM (cn (.int .i64 0))) <|
 aXZ
noncomputable def f88_r2 (c : CallF) : RF := rg [0, 1, 7, 8, 9] <| aX 9 (pB .lss 3 8 7) <|
 aXZ
noncomputable def f88_r3 (c : CallF) : RF := rg [0, 1, 5, 7, 8] <| aX 10 (pM 8) <|
 aX 5 (pM 10) <|
 aXZ
noncomputable def f88_r4 (c : CallF) : RF := rg [0, 1, 5, 7, 8, 16] <| aX 11 (pM 1) <|
 aX 12 (pM 0) <|
 aX 13 (pM 5) <|
 aX 14 (pI 1 12 13) <|
 aX 15 (pL false 1 14) <|
 aX 16 (pB .eql 9 11 15) <|
 aXZ
noncomputable def f88_r5 (c : CallF) : RF := rg [4] <| aX 17 (pM 5) <|
 aX 4 (pM 17) <|
 aXZ
noncomputable def f88_r6 (c : CallF) : RF := rg [0, 1, 7, 8] <| aX 18 (pB .add 3 8 (cn (.int .i64 1))) <|
 aX 8 (pM 18) <|
 aXZ
noncomputable def f88_r7 (c : CallF) : RF := rg [4] <| aX 4 (pM (cn (.int .i64 (-1)))) <|
 aXZ
noncomputable def f88_l2 (c : CallF) (k : Nat) : St :=
 (bSeq (bReg (f88_r2 c))
 (bSeq (bCond (.tmp 9) (bEx .nrm) (bEx (.ext 0)))
 (bSeq (bBlock 1 (bSeq (bReg (f88_r3 c))
 (bSeq (bReg (f88_r4 c))
 (bCond (.tmp 16) (bSeq (bReg (f88_r5 c))
 (bEx .ret)) (bEx .nrm)))))
 (bReg (f88_r6 c)))))
noncomputable def f88 (c : CallF) (k : Nat) : St :=
 (bSeq (bReg (f88_r0 c))
 (bSeq (bSeq (bReg (f88_r1 c))
 (bBlock 0 (bLoop [0, 1, 7, 8] (f88_l2 c k) k)))
 (bSeq (bReg (f88_r7 c))
 (bEx .ret))))
theorem f88_eq (c : CallF) (k : Nat) : exec cx c 19 f88_an k (Tryd.f88.body.getD .skip) = f88 c k := by kernel_rfl
/-! ### f89: loop.example/g01263/impl.ReadAmount -/
def f89_an : Ann := ⟨[(0, r0 [0]), (1, r0 [0, 12]), (2, r0 [2, 3]), (3, r0 [0, 4]), (4, r0 [0, 4, 14, 15, 16]), (5, r0 [0, 4, 14, 15, 16, 17]), (6, r0 [0, 4, 6, 14, 15, 16]), (7, r0 [0, 4, 6, 14, 15, 16, 21]), (8, r0 [2, 3]), (9, r0 [0, 4, 6, 7, 8, 14, 15, 16]), (10, r0 [0, 4, 7, 8, 9, 14, 15, 16]), (11, r0 [0, 4, 7, 9, 14, 15, 16, 42]), (12, r0 [2, 3]), (13, r0 [0, 4, 14, 15, 16]), (14, r0 [0, 4, 14, 15, 16]), (15, r0 [4, 53]), (16, r0 [2, 3]), (17, r0 [2, 3])], [(5, [0, 4, 14, 15, 16])]⟩
noncomputable def f89_r0 (c : CallF) : RF := rg [0] <| aX 2 (pM (cn (.int .i64 0))) <|
 aX 3 (pM (cn (.int .i64 0))) <|
 aXZ
noncomputable def f89_r1 (c : CallF) : RF := rg [0, 12] <| aX 10 (pM 0) <|
 aX 11 (pLen 9 10) <|
 aX 12 (pB .gtr 3 11 (cn (.int .i64 30))) <|
 aXZ
noncomputable def f89_r2 (c : CallF) : RF := rg [2, 3] <| aX 2 (pM (cn (.int .i64 0))) <|
 aX 3 (pM (cn (.int .i64 5))) <|
 aXZ
noncomputable def f89_r3 (c : CallF) : RF := rg [0, 4] <| aX 4 (pM (cn (.int .i64 0))) <|
 aXZ
noncomputable def f89_r4 (c : CallF) : RF := rg [0, 4, 14, 15, 16] <| aX 13 (pM 0) <|
 aX 14 (pK c false 86 [13, (cn (.str [32]))]) <|
 aX 15 (pLen 71 14) <|
 aX 16 (pM (cn (.int .i64 0))) <|
 aXZ
noncomputable def f89_r5 (c : CallF) : RF := rg [0, 4, 14, 15, 16, 17] <| aX 17 (pB .lss 3 16 15) <|
 aXZ
noncomputable def f89_r6 (c : CallF) : RF := rg [0, 4, 6, 14, 15, 16] <| aX 18 (pI 1 14 16) <|
 aX 19 (pL false 1 18) <|
 aX 6 (pM 19) <|
 aXZ
noncomputable def f89_r7 (c : CallF) : RF := rg [0, 4, 6, 14, 15, 16, 21] <| aX 20 (pM 6) <|
 aX 21 (pB .eql 9 20 (cn (.str []))) <|
 aXZ
noncomputable def f89_r8 (c : CallF) : RF := rg [2, 3] <| aX 2 (pM (cn (.int .i64 0))) <|
 aX 3 (pM (cn (.int .i64 5))) <|
 aXZ
noncomputable def f89_r9 (c : CallF) : RF := rg [0, 4, 6, 7, 8, 14, 15, 16] <| aX 23 (pM 6) <|
 aX 24 (pM 6) <|
 aX 25 (pLen 9 24) <|
 aX 26 (pB .sub 3 25 (cn (.int .i64 1))) <|
 aX 27 (fun n e M => keep (aSliceS none (some (eget e 26)) (eget e 23))) <|
 aX 28 (pK c false 115 [27]) <|
 aX 22 (pM 28) <|
 aX 29 (pE 0 22) <|
 aX 30 (pE 1 22) <|
 aX 7 (pM 29) <|
 aX 8 (pM 30) <|
 aXZ
noncomputable def f89_r10 (c : CallF) : RF := rg [0, 4, 7, 8, 9, 14, 15, 16] <| aX 31 (pM 6) <|
 aX 32 (pM 6) <|
 aX 33 (pLen 9 32) <|
 aX 34 (pB .sub 3 33 (cn (.int .i64 1))) <|
 aX 35 (fun n e M => keep (aIndexB (eget e 31) (eget e 34))) <|
 aX 36 (pK c false 116 [(cn (.str [100, 115, 108])), 35]) <|
 aX 9 (pM 36) <|
 aXZ
noncomputable def f89_r11 (c : CallF) : RF := rg [0, 4, 7, 9, 14, 15, 16, 42] <| aX 37 (pM 8) <|
 aX 38 (pU .not 37) <|
 aX 39 (pM 38) <|
 aX 40 (pG 39 false (pM 9)) <|
 aX 41 (pG 39 false (pB .lss 3 40 (cn (.int .i64 0)))) <|
 aX 42 (pP 39 (cn (.bool true)) 41) <|
 aXZ
noncomputable def f89_r12 (c : CallF) : RF := rg [2, 3] <| aX 2 (pM (cn (.int .i64 0))) <|
 aX 3 (pM (cn (.int .i64 5))) <|
 aXZ
noncomputable def f89_r13 (c : CallF) : RF := rg [0, 4, 14, 15, 16] <| aX 43 (pM 4) <|
 aX 44 (pM 7) <|
 aX 45 (pM 9) <|
 aX 46 (pK c false 117 [45]) <|
 aX 47 (pB .mul 2 44 46) <|
 aX 48 (pB .add 2 43 47) <|
 aX 4 (pM 48) <|
 aXZ
noncomputable def f89_r14 (c : CallF) : RF := rg [0, 4, 14, 15, 16] <| aX 49 (pB .add 3 16 (cn (.int .i64 1))) <|
 aX 16 (pM 49) <|
 aXZ
noncomputable def f89_r15 (c : CallF) : RF := rg [4, 53] <| aX 50 (pM 4) <|
 aX 51 (pK c false 53 [50]) <|
 aX 52 (pM 0) <|
 aX 53 (pB .neq 9 51 52) <|
 aXZ
noncomputable def f89_r16 (c : CallF) : RF := rg [2, 3] <| aX 2 (pM (cn (.int .i64 0))) <|
 aX 3 (pM (cn (.int .i64 5))) <|
 aXZ
noncomputable def f89_r17 (c : CallF) : RF := rg [2, 3] <| aX 54 (pM 4) <|
 aX 2 (pM 54) <|
 aX 3 (pM (cn (.int .i64 0))) <|
 aXZ
noncomputable def f89_l5 (c : CallF) (k : Nat) : St :=
 (bSeq (bReg (f89_r5 c))
 (bSeq (bCond (.tmp 17) (bEx .nrm) (bEx (.ext 0)))
 (bSeq (bBlock 1 (bSeq (bReg (f89_r6 c))
 (bSeq (bSeq (bReg (f89_r7 c))
 (bCond (.tmp 21) (bSeq (bReg (f89_r8 c))
 (bEx .ret)) (bEx .nrm)))
 (bSeq (bReg (f89_r9 c))
 (bSeq (bReg (f89_r10 c))
 (bSeq (bSeq (bReg (f89_r11 c))
 (bCond (.tmp 42) (bSeq (bReg (f89_r12 c))
 (bEx .ret)) (bEx .nrm)))
 (bReg (f89_r13 c))))))))
 (bReg (f89_r14 c)))))
noncomputable def f89 (c : CallF) (k : Nat) : St :=
 (bSeq (bReg (f89_r0 c))
 (bSeq (bSeq (bReg (f89_r1 c))
 (bCond (.tmp 12) (bSeq (bReg (f89_r2 c))
 (bEx .ret)) (bEx .nrm)))
 (bSeq (bReg (f89_r3 c))
 (bSeq (bSeq (bReg (f89_r4 c))
 (bBlock 0 (bLoop [0, 4, 14, 15, 16] (f89_l5 c k) k)))
 (bSeq (bSeq (bReg (f89_r15 c))
 (bCond (.tmp 53) (bSeq (bReg (f89_r16 c))
 (bEx .ret)) (bEx .nrm)))
 (bSeq (bReg (f89_r17 c))
 (bEx .ret)))))))
theorem f89_eq (c : CallF) (k : Nat) : exec cx c 55 f89_an k (Tryd.f89.body.getD .skip) = f89 c k := by kernel_rfl
/-! ### f91: loop.example/g01263/impl.decimal -/
def f91_an : Ann := ⟨[(0, r0 [0]), (1, r0 [2])], []⟩
noncomputable def f91_r0 (c : CallF) : RF := rg [0] <| aX 2 (pM (cn (.str []))) <|
 aXZ
noncomputable def f91_r1 (c : CallF) : RF := rg [2] <| aX 3 (pM 0) <|
 aX 4 (pK c false 121 [3, (cn (.int .i64 10))]) <|
 aX 2 (pM 4) <|
 aXZ
noncomputable def f91 (c : CallF) (k : Nat) : St :=
 (bSeq (bReg (f91_r0 c))
 (bSeq (bReg (f91_r1 c))
 (bEx .ret)))
theorem f91_eq (c : CallF) (k : Nat) : exec cx c 5 f91_an k (Tryd.f91.body.getD .skip) = f91 c k := by kernel_rfl
/-! ### f96: (*loop.example/g01263/spec.l00Src).next -/
def f96_an : Ann := ⟨[(0, r0 [0]), (1, r0 [0, 3]), (2, r0 [0, 3, 13]), (3, r0 [0, 3]), (4, r0 [0, 3]), (5, r0 [0, 3]), (6, r0 [0, 3, 53]), (7, r0 [2]), (8, r0 [2])], []⟩
noncomputable def f96_r0 (c : CallF) : RF := rg [0] <| aX 2 (pM (cn (.int .i64 0))) <|
 aXZ
noncomputable def f96_r1 (c : CallF) : RF := rg [0, 3] <| aX 3 (pM (cn (.int .i64 0))) <|
 aXZ
noncomputable def f96_r2 (c : CallF) : RF := rgD [0, 3, 13] (aY 4 (pM 0) <|
 aY 5 (pN 4) <|
 aY 6 (pF 1 1 5) <|
 aY 7 (pL false 1 6) <|
 aY 8 (pM 0) <|
 aY 9 (pN 8) <|
 aY 10 (pF 0 1 9) <|
 aY 11 (pL false 1 10) <|
 aY 12 (pLen 22 11) <|
 aY 13 (pB .lss 3 7 12) <|
 aYZ)
 (aXZ)
noncomputable def f96_r3 (c : CallF) : RF := rgD [0, 3] (aY 14 (pM 0) <|
 aY 15 (pN 14) <|
 aY 16 (pF 0 1 15) <|
 aY 17 (pL false 1 16) <|
 aY 18 (pM 0) <|
 aY 19 (pN 18) <|
 aY 20 (pF 1 1 19) <|
 aY 21 (pL false 1 20) <|
 aY 22 (pI 1 17 21) <|
 aY 23 (pL false 1 22) <|
 aY 24 (fun n e M => keep (aConvI .i64 (eget e 23))) <|
 aY 3 (pM 24) <|
 aYZ)
 (aXZ)
noncomputable def f96_r4 (c : CallF) : RF := rg [0, 3] <| aX 25 (pM 0) <|
 aX 26 (pN 25) <|
 aX 27 (pF 1 1 26) <|
 aX 28 (pL false 1 27) <|
 aX 29 (pB .add 3 28 (cn (.int .i64 1))) <|
 aX 30 (pN 25) <|
 aX 31 (pF 1 1 30) <|
 aX0 (pS 1 31 29) <|
 aXZ
noncomputable def f96_r5 (c : CallF) : RF := rg [0, 3] <| aX 32 (pM 0) <|
 aX 33 (pM 0) <|
 aX 34 (pN 33) <|
 aX 35 (pF 2 1 34) <|
 aX 36 (pL false 1 35) <|
 aX 37 (pB .mul 123 36 (cn (.int .u64 6364136223846793005))) <|
 aX 38 (pM 3) <|
 aX 39 (fun n e M => keep (aConvI .u64 (eget e 38))) <|
 aX 40 (pB .add 123 37 39) <|
 aX 41 (pB .add 123 40 (cn (.int .u64 1442695040888963407))) <|
 aX 42 (pN 32) <|
 aX 43 (pF 2 1 42) <|
 aX0 (pS 1 43 41) <|
 aXZ
noncomputable def f96_r6 (c : CallF) : RF := rgD [0, 3, 53] (aY 44 (pM 0) <|
 aY 45 (pN 44) <|
 aY 46 (pF 1 1 45) <|
 aY 47 (pL false 1 46) <|
 aY 48 (pM 0) <|
 aY 49 (pN 48) <|
 aY 50 (pF 0 1 49) <|
 aY 51 (pL false 1 50) <|
 aY 52 (pLen 22 51) <|
 aY 53 (pB .leq 3 47 52) <|
 aYZ)
 (aXZ)
noncomputable def f96_r7 (c : CallF) : RF := rg [2] <| aX 54 (pM 3) <|
 aX 2 (pM 54) <|
 aXZ
noncomputable def f96_r8 (c : CallF) : RF := rg [2] <| aX 55 (pM 0) <|
 aX 56 (pN 55) <|
 aX 57 (pF 2 1 56) <|
 aX 58 (pL false 1 57) <|
 aX 59 (pB .shr 123 58 (cn (.int .u64 40))) <|
 aX 60 (pB .and 123 59 (cn (.int .u64 255))) <|
 aX 61 (fun n e M => keep (aConvI .i64 (eget e 60))) <|
 aX 2 (pM 61) <|
 aXZ
noncomputable def f96 (c : CallF) (k : Nat) : St :=
 (bSeq (bReg (f96_r0 c))
 (bSeq (bReg (f96_r1 c))
 (bSeq (bSeq (bReg (f96_r2 c))
 (bCond (.tmp 13) (bReg (f96_r3 c)) (bEx .nrm)))
 (bSeq (bReg (f96_r4 c))
 (bSeq (bReg (f96_r5 c))
 (bSeq (bSeq (bReg (f96_r6 c))
 (bCond (.tmp 53) (bSeq (bReg (f96_r7 c))
 (bEx .ret)) (bEx .nrm)))
 (bSeq (bReg (f96_r8 c))
 (bEx .ret))))))))
theorem f96_eq (c : CallF) (k : Nat) : exec cx c 62 f96_an k (Tryd.f96.body.getD .skip) = f96 c k := by kernel_rfl
/-! ### f109: slices.ContainsFunc[[]loop.example/g01263/impl.Account,loop.example/g01263/impl.Account] -/
def f109_an : Ann := ⟨[(0, r0 [0, 1]), (1, r0 [4])], []⟩
noncomputable def f109_r0 (c : CallF) : RF := rg [0, 1] <| aX 4 (pM (cn (.bool false))) <|
 aXZ
noncomputable def f109_r1 (c : CallF) : RF := rg [4] <| aX 5 (pM 0) <|
 aX 6 (pM 1) <|
 aX 7 (pK c false 80 [5, 6]) <|
 aX 8 (pB .geq 3 7 (cn (.int .i64 0))) <|
 aX 4 (pM 8) <|
 aXZ
noncomputable def f109 (c : CallF) (k : Nat) : St :=
 (bSeq (bReg (f109_r0 c))
 (bSeq (bReg (f109_r1 c))
 (bEx .ret)))
theorem f109_eq (c : CallF) (k : Nat) : exec cx c 9 f109_an k (Tryd.f109.body.getD .skip) = f109 c k := by kernel_rfl
/-! ### f110: loop.example/g01263/impl.hasTitle$1 -/
def f110_an : Ann := ⟨[(0, r0 [1, 2]), (1, r0 [3])], []⟩
noncomputable def f110_r0 (c : CallF) : RF := rg [1, 2] <| aX 2 (pBox 3 0) <|
 aX 3 (pM (cn (.bool false))) <|
 aXZ
noncomputable def f110_r1 (c : CallF) : RF := rg [3] <| aX 4 (pF 0 1 2) <|
 aX 5 (pL false 1 4) <|
 aX 6 (pL false 1 1) <|
 aX 7 (pB .eql 9 5 6) <|
 aX 3 (pM 7) <|
 aXZ
noncomputable def f110 (c : CallF) (k : Nat) : St :=
 (bSeq (bReg (f110_r0 c))
 (bSeq (bReg (f110_r1 c))
 (bEx .ret)))
theorem f110_eq (c : CallF) (k : Nat) : exec cx c 8 f110_an k (Tryd.f110.body.getD .skip) = f110 c k := by kernel_rfl
/-! ### f111: loop.example/g01263/spec.l00Max -/
def f111_an : Ann := ⟨[(0, r0 [0, 1]), (1, r0 [0, 1, 7]), (2, r0 [4]), (3, r0 [4])], []⟩
noncomputable def f111_r0 (c : CallF) : RF := rg [0, 1] <| aX 4 (pM (cn (.int .i64 0))) <|
 aXZ
noncomputable def f111_r1 (c : CallF) : RF := rg [0, 1, 7] <| aX 5 (pM 0) <|
 aX 6 (pM 1) <|
 aX 7 (pB .gtr 2 5 6) <|
 aXZ
noncomputable def f111_r2 (c : CallF) : RF := rg [4] <| aX 8 (pM 0) <|
 aX 4 (pM 8) <|
 aXZ
noncomputable def f111_r3 (c : CallF) : RF := rg [4] <| aX 9 (pM 1) <|
 aX 4 (pM 9) <|
 aXZ
noncomputable def f111 (c : CallF) (k : Nat) : St :=
 (bSeq (bReg (f111_r0 c))
 (bSeq (bSeq (bReg (f111_r1 c))
 (bCond (.tmp 7) (bSeq (bReg (f111_r2 c))
 (bEx .ret)) (bEx .nrm)))
 (bSeq (bReg (f111_r3 c))
 (bEx .ret))))
theorem f111_eq (c : CallF) (k : Nat) : exec cx c 10 f111_an k (Tryd.f111.body.getD .skip) = f111 c k := by kernel_rfl
/-! ### f112: loop.example/g01263/spec.l05Fault -/
def f112_an : Ann := ⟨[(0, r0 [0]), (1, r0 [0, 3]), (2, r0 [0, 3, 10]), (3, r0 [0, 3]), (4, r0 [0, 3, 28]), (5, r0 [2]), (6, r0 [0, 39]), (7, r0 [2]), (8, r0 [2])], [(2, [0, 3])]⟩
noncomputable def f112_r0 (c : CallF) : RF := rg [0] <| aX 2 (pM (cn (.int .i64 0))) <|
 aXZ
noncomputable def f112_r1 (c : CallF) : RF := rg [0, 3] <| aX 3 (pM (cn (.int .i64 0))) <|
 aXZ
noncomputable def f112_r2 (c : CallF) : RF := rg [0, 3, 10] <| aX 4 (pM 3) <|
 aX 5 (pM 0) <|
 aX 6 (pN 5) <|
 aX 7 (pF 0 1 6) <|
 aX 8 (pL false 1 7) <|
 aX 9 (pLen 72 8) <|
 aX 10 (pB .lss 3 4 9) <|
 aXZ
noncomputable def f112_r3 (c : CallF) : RF := rg [0, 3] <| aX 11 (pM 3) <|
 aX 12 (pB .add 3 11 (cn (.int .i64 1))) <|
 aX 3 (pM 12) <|
 aXZ
noncomputable def f112_r4 (c : CallF) : RF := rg [0, 3, 28] <| aX 13 (pM 0) <|
 aX 14 (pN 13) <|
 aX 15 (pF 0 1 14) <|
 aX 16 (pL false 1 15) <|
 aX 17 (pM 3) <|
 aX 18 (pI 3 16 17) <|
 aX 19 (pK c false 55 [18]) <|
 aX 20 (pU .not 19) <|
 aX 21 (pM 20) <|
 aX 22 (pG 21 false (pM 0)) <|
 aX 23 (pG 21 false (pN 22)) <|
 aX 24 (pG 21 false (pF 0 1 23)) <|
 aX 25 (pG 21 false (pL false 1 24)) <|
 aX 26 (pG 21 false (pM 3)) <|
 aX 27 (pG 21 false (pK c false 78 [25, 26])) <|
 aX 28 (pP 21 (cn (.bool true)) 27) <|
 aXZ
noncomputable def f112_r5 (c : CallF) : RF := rg [2] <| aX 29 (pM 3) <|
 aX 2 (pM 29) <|
 aXZ
noncomputable def f112_r6 (c : CallF) : RF := rgD [0, 39] (aY 30 (pM 0) <|
 aY 31 (pN 30) <|
 aY 32 (pF 1 1 31) <|
 aY 33 (pL false 1 32) <|
 aY 34 (pM 0) <|
 aY 35 (pN 34) <|
 aY 36 (pF 0 1 35) <|
 aY 37 (pL false 1 36) <|
 aY 38 (pK c false 77 [37]) <|
 aY 39 (pB .neq 2 33 38) <|
 aYZ)
 (aXZ)
noncomputable def f112_r7 (c : CallF) : RF := rg [2] <| aX 40 (pM 0) <|
 aX 41 (pN 40) <|
 aX 42 (pF 0 1 41) <|
 aX 43 (pL false 1 42) <|
 aX 44 (pLen 72 43) <|
 aX 2 (pM 44) <|
 aXZ
noncomputable def f112_r8 (c : CallF) : RF := rg [2] <| aX 2 (pM (cn (.int .i64 (-1)))) <|
 aXZ
noncomputable def f112_l2 (c : CallF) (k : Nat) : St :=
 (bSeq (bSeq (bReg (f112_r2 c))
 (bCond (.tmp 10) (bEx .nrm) (bEx (.ext 0))))
 (bSeq (bBlock 1 (bSeq (bReg (f112_r4 c))
 (bCond (.tmp 28) (bSeq (bReg (f112_r5 c))
 (bEx .ret)) (bEx .nrm))))
 (bReg (f112_r3 c))))
noncomputable def f112 (c : CallF) (k : Nat) : St :=
 (bSeq (bReg (f112_r0 c))
 (bSeq (bSeq (bReg (f112_r1 c))
 (bBlock 0 (bLoop [0, 3] (f112_l2 c k) k)))
 (bSeq (bSeq (bReg (f112_r6 c))
 (bCond (.tmp 39) (bSeq (bReg (f112_r7 c))
 (bEx .ret)) (bEx .nrm)))
 (bSeq (bReg (f112_r8 c))
 (bEx .ret)))))
theorem f112_eq (c : CallF) (k : Nat) : exec cx c 45 f112_an k (Tryd.f112.body.getD .skip) = f112 c k := by kernel_rfl
/-! ### f115: loop.example/g01263/impl.number -/
def f115_an : Ann := ⟨[(0, r0 [0]), (1, r0 [0, 22]), (2, r0 [2, 3]), (3, r0 [0, 4]), (4, r0 [0, 4, 24, 25]), (5, r0 [0, 4, 24, 25, 26]), (6, r0 [0, 4, 5, 24, 25]), (7, r0 [0, 4, 5, 24, 25, 37]), (8, r0 [2, 3]), (9, r0 [0, 4, 24, 25]), (10, r0 [0, 4, 24, 25]), (11, r0 [2, 3])], [(5, [0, 4, 24, 25])]⟩
noncomputable def f115_r0 (c : CallF) : RF := rg [0] <| aX 2 (pM (cn (.int .i64 0))) <|
 aX 3 (pM (cn (.bool false))) <|
 aXZ
noncomputable def f115_r1 (c : CallF) : RF := rg [0, 22] <| aX 6 (pM 0) <|
 aX 7 (pB .eql 9 6 (cn (.str []))) <|
 aX 8 (pM 7) <|
 aX 9 (pG 8 false (pM 0)) <|
 aX 10 (pG 8 false (pLen 9 9)) <|
 aX 11 (pG 8 false (pB .gtr 3 10 (cn (.int .i64 9)))) <|
 aX 12 (pP 8 (cn (.bool true)) 11) <|
 aX 13 (pM 12) <|
 aX 14 (pG 13 false (pM 0)) <|
 aX 15 (pG 13 false (fun n e M => keep (aIndexB (eget e 14) (.int .i64 0)))) <|
 aX 16 (pG 13 false (pB .eql 5 15 (cn (.int .u8 48)))) <|
 aX 17 (pG 13 false (pM 16)) <|
 aX 18 (pG 17 true (pM 0)) <|
 aX 19 (pG 17 true (pLen 9 18)) <|
 aX 20 (pG 17 true (pB .gtr 3 19 (cn (.int .i64 1)))) <|
 aX 21 (pG 13 false (pP 17 20 (cn (.bool false)))) <|
 aX 22 (pP 13 (cn (.bool true)) 21) <|
 aXZ
noncomputable def f115_r2 (c : CallF) : RF := rg [2, 3] <| aX 2 (pM (cn (.int .i64 0))) <|
 aX 3 (pM (cn (.bool false))) <|
 aXZ
noncomputable def f115_r3 (c : CallF) : RF := rg [0, 4] <| aX 4 (pM (cn (.int .i64 0))) <|
 aXZ
noncomputable def f115_r4 (c : CallF) : RF := rg [0, 4, 24, 25] <| aX 23 (pM 0) <|
 aX 24 (pLen 9 23) <|
 aX 25 (pM (cn (.int .i64 0))) <|
 aXZ
noncomputable def f115_r5 (c : CallF) : RF := rg [0, 4, 24, 25, 26] <| aX 26 (pB .lss 3 25 24) <|
 aXZ
noncomputable def f115_r6 (c : CallF) : RF := rg [0, 4, 5, 24, 25] <| aX 27 (pM 25) <|
 aX 5 (pM 27) <|
 aXZ
noncomputable def f115_r7 (c : CallF) : RF := rg [0, 4, 5, 24, 25, 37] <| aX 28 (pM 0) <|
 aX 29 (pM 5) <|
 aX 30 (fun n e M => keep (aIndexB (eget e 28) (eget e 29))) <|
 aX 31 (pB .lss 5 30 (cn (.int .u8 48))) <|
 aX 32 (pM 31) <|
 aX 33 (pG 32 false (pM 0)) <|
 aX 34 (pG 32 false (pM 5)) <|
 aX 35 (pG 32 false (fun n e M => keep (aIndexB (eget e 33) (eget e 34)))) <|
 aX 36 (pG 32 false (pB .gtr 5 35 (cn (.int .u8 57)))) <|
 aX 37 (pP 32 (cn (.bool true)) 36) <|
 aXZ
noncomputable def f115_r8 (c : CallF) : RF := rg [2, 3] <| aX 2 (pM (cn (.int .i64 0))) <|
 aX 3 (pM (cn (.bool false))) <|
 aXZ
noncomputable def f115_r9 (c : CallF) : RF := rg [0, 4, 24, 25] <| aX 38 (pM 4) <|
 aX 39 (pB .mul 2 38 (cn (.int .i64 10))) <|
 aX 40 (pM 0) <|
 aX 41 (pM 5) <|
 aX 42 (fun n e M => keep (aIndexB (eget e 40) (eget e 41))) <|
 aX 43 (pB .sub 5 42 (cn (.int .u8 48))) <|
 aX 44 (fun n e M => keep (aConvI .i64 (eget e 43))) <|
 aX 45 (pB .add 2 39 44) <|
 aX 4 (pM 45) <|
 aXZ
noncomputable def f115_r10 (c : CallF) : RF := rg [0, 4, 24, 25] <| aX 46 (pB .add 3 25 (cn (.int .i64 1))) <|
 aX 25 (pM 46) <|
 aXZ
noncomputable def f115_r11 (c : CallF) : RF := rg [2, 3] <| aX 47 (pM 4) <|
 aX 2 (pM 47) <|
 aX 3 (pM (cn (.bool true))) <|
 aXZ
noncomputable def f115_l5 (c : CallF) (k : Nat) : St :=
 (bSeq (bReg (f115_r5 c))
 (bSeq (bCond (.tmp 26) (bEx .nrm) (bEx (.ext 0)))
 (bSeq (bBlock 1 (bSeq (bReg (f115_r6 c))
 (bSeq (bSeq (bReg (f115_r7 c))
 (bCond (.tmp 37) (bSeq (bReg (f115_r8 c))
 (bEx .ret)) (bEx .nrm)))
 (bReg (f115_r9 c)))))
 (bReg (f115_r10 c)))))
noncomputable def f115 (c : CallF) (k : Nat) : St :=
 (bSeq (bReg (f115_r0 c))
 (bSeq (bSeq (bReg (f115_r1 c))
 (bCond (.tmp 22) (bSeq (bReg (f115_r2 c))
 (bEx .ret)) (bEx .nrm)))
 (bSeq (bReg (f115_r3 c))
 (bSeq (bSeq (bReg (f115_r4 c))
 (bBlock 0 (bLoop [0, 4, 24, 25] (f115_l5 c k) k)))
 (bSeq (bReg (f115_r11 c))
 (bEx .ret))))))
theorem f115_eq (c : CallF) (k : Nat) : exec cx c 48 f115_an k (Tryd.f115.body.getD .skip) = f115 c k := by kernel_rfl
/-! ### f117: loop.example/g01263/impl.worth -/
def f117_an : Ann := ⟨[(0, r0 [0]), (1, r0 [2])], []⟩
noncomputable def f117_r0 (c : CallF) : RF := rg [0] <| aX 2 (pM (cn (.int .i64 0))) <|
 aXZ
noncomputable def f117_r1 (c : CallF) : RF := rg [2] <| aX 3 (fun n e M => keep (aLitI 2 1 [(.int .i64 1), (.int .i64 12), (.int .i64 240), (.int .i64 4800), (.int .i64 24000), (.int .i64 240000)] M)) <|
 aX 4 (pM 0) <|
 aX 5 (pI 1 3 4) <|
 aX 6 (pL false 1 5) <|
 aX 2 (pM 6) <|
 aXZ
noncomputable def f117 (c : CallF) (k : Nat) : St :=
 (bSeq (bReg (f117_r0 c))
 (bSeq (bReg (f117_r1 c))
 (bEx .ret)))
theorem f117_eq (c : CallF) (k : Nat) : exec cx c 7 f117_an k (Tryd.f117.body.getD .skip) = f117 c k := by kernel_rfl
def anns : List (Nat × Ann) := [(5, f5_an), (6, f6_an), (7, f7_an), (8, f8_an), (9, f9_an), (12, f12_an), (13, f13_an), (14, f14_an), (15, f15_an), (16, f16_an), (32, f32_an), (33, f33_an), (34, f34_an), (35, f35_an), (36, f36_an), (37, f37_an), (38, f38_an), (39, f39_an), (40, f40_an), (41, f41_an), (42, f42_an), (43, f43_an), (44, f44_an), (45, f45_an), (46, f46_an), (47, f47_an), (48, f48_an), (49, f49_an), (50, f50_an), (51, f51_an), (52, f52_an), (53, f53_an), (54, f54_an), (55, f55_an), (56, f56_an), (59, f59_an), (74, f74_an), (75, f75_an), (76, f76_an), (77, f77_an), (78, f78_an), (79, f79_an), (80, f80_an), (81, f81_an), (82, f82_an), (83, f83_an), (84, f84_an), (85, f85_an), (88, f88_an), (89, f89_an), (91, f91_an), (96, f96_an), (109, f109_an), (110, f110_an), (111, f111_an), (112, f112_an), (115, f115_an), (117, f117_an)]
noncomputable def CN0 : Nat → CallF := callN cx (Go.Ab.look anns) (fun _ _ _ => none) (fun _ => false)
def isP (f : Nat) : Bool := has [43, 86, 87, 90, 116, 121] f
noncomputable def primF : CallF := splitNil (callN cx (Go.Ab.look anns) (fun _ _ _ => none) (fun _ => false) 3)
noncomputable def CN : Nat → CallF := callN cx (Go.Ab.look anns) (withLib libT primF) isP
end Go.Proofs.YtjlalepbhcekoaaDoor

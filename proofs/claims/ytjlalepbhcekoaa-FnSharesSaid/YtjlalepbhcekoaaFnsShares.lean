/- Printed by a program of ours (ext.py). -/
import Derived.Test.YtjlalepbhcekoaaAbGhL
import Derived.Test.YtjlalepbhcekoaaProg
set_option linter.unusedVariables false
set_option linter.unusedSimpArgs false
set_option maxRecDepth 100000
set_option maxHeartbeats 20000000
namespace Go.Proofs.Ytjlalepbhcekoaa
open Go Go.Ab
noncomputable def cx : Cx := ⟨Try.prog, fun f => has [51, 88, 91, 117, 119, 141] f, fun f => has [39, 40, 41, 43, 97, 100, 118, 120, 121, 124, 129, 133, 146, 147, 155, 156] f⟩
noncomputable abbrev pB := pB_ cx.P
noncomputable abbrev pLen := pLen_ cx.P
noncomputable abbrev pAl := pAl_ cx.P
noncomputable abbrev pK := pK_ cx
def f5_an : Ann := ⟨[(0, r0 [0, 1]), (1, r0 [0, 1, 39]), (2, r0 [4]), (3, r0 [0, 1, 5]), (4, r0 [0, 5, 6]), (5, r0 [0, 5, 6, 7, 8]), (6, r0 [0, 5, 6, 7, 8, 9, 10]), (7, r0 [0, 5, 6, 9, 75]), (8, r0 [4]), (9, r0 [0, 5, 6, 9, 11]), (10, r0 [0, 5, 6, 9, 11, 12]), (11, r0 [0, 5, 6, 9, 11, 12, 13]), (12, r0 [0, 5, 6, 9, 11, 12, 13, 79]), (13, r0 [0, 5, 6, 9, 11, 12, 13]), (14, r0 [0, 5, 6, 9, 11, 12, 13]), (15, r0 [0, 5, 6, 9, 11, 12, 13]), (16, r0 [0, 5, 6, 9, 12, 96]), (17, r0 [4]), (18, r0 [0, 5, 6, 9, 12, 14]), (19, r0 [0, 5, 6, 9, 12, 14, 100]), (20, r0 [0, 5, 6, 9, 12, 14]), (21, r0 [0, 5, 6, 9, 12, 14, 15]), (22, r0 [0, 5, 6, 9, 12, 14, 124]), (23, r0 [4]), (24, r0 [6, 16]), (25, r0 [6, 16, 17, 18]), (26, r0 [16, 18, 19, 20]), (27, r0 [16, 18, 19, 20, 21, 22, 23, 24]), (28, r0 [18, 19, 20, 21, 22, 23, 24, 25, 26, 27, 28]), (29, r0 [19, 21, 22, 24, 25, 26, 184]), (30, r0 [4]), (31, r0 [19, 21, 22, 24, 25, 26, 186]), (32, r0 [4]), (33, r0 [19, 21, 22, 25, 26, 29]), (34, r0 [19, 21, 22, 25, 26, 29, 192]), (35, r0 [19, 21, 22, 25, 26, 29]), (36, r0 [19, 21, 22, 25, 26, 29, 30, 31]), (37, r0 [19, 21, 22, 25, 26, 29, 30, 31, 32, 33]), (38, r0 [19, 21, 22, 25, 26, 29, 256]), (39, r0 [4]), (40, r0 [4])], [(12, [0, 5, 6, 9, 11, 12, 13]), (19, [0, 5, 6, 9, 12, 14]), (34, [19, 21, 22, 25, 26, 29])]⟩
noncomputable def f5_r0 (c : CallF) : RF := rg [0, 1] <| aX 4 (pM (cn (.bool false))) <|
 aXZ
noncomputable def f5_r1 (c : CallF) : RF := rg [0, 1, 39] <| aX 34 (pM 0) <|
 aX 35 (pK c false 37 [34]) <|
 aX 36 (pM 35) <|
 aX 37 (pG 36 false (pM 1)) <|
 aX 38 (pG 36 false (pK c false 37 [37])) <|
 aX 39 (pP 36 (cn (.bool true)) 38) <|
 aXZ
noncomputable def f5_r2 (c : CallF) : RF := rg [4] <| aX 4 (pM (cn (.bool true))) <|
 aXZ
noncomputable def f5_r3 (c : CallF) : RF := rg [0, 1, 5] <| aX 40 (pM 0) <|
 aX 41 (pK c false 38 [40, (cn (.int .i64 5000))]) <|
 aX 5 (pM 41) <|
 aXZ
noncomputable def f5_r4 (c : CallF) : RF := rg [0, 5, 6] <| aX 42 (pM 1) <|
 aX 43 (pK c false 39 [42]) <|
 aX 6 (pM 43) <|
 aXZ
noncomputable def f5_r5 (c : CallF) : RF := rg [0, 5, 6, 7, 8] <| aX 45 (pM 5) <|
 aX 46 (pM 6) <|
 aX 47 (pK c false 40 [45, 46]) <|
 aX 44 (pM 47) <|
 aX 48 (pE 0 44) <|
 aX 49 (pE 1 44) <|
 aX 7 (pM 48) <|
 aX 8 (pM 49) <|
 aXZ
noncomputable def f5_r6 (c : CallF) : RF := rg [0, 5, 6, 7, 8, 9, 10] <| aX 51 (pM 5) <|
 aX 52 (pM 6) <|
 aX 53 (pK c false 41 [51, 52]) <|
 aX 50 (pM 53) <|
 aX 54 (pE 0 50) <|
 aX 55 (pE 1 50) <|
 aX 9 (pM 54) <|
 aX 10 (pM 55) <|
 aXZ
noncomputable def f5_r7 (c : CallF) : RF := rg [0, 5, 6, 9, 75] <| aX 56 (pM 8) <|
 aX 57 (pM 10) <|
 aX 58 (pB .neq 2 56 57) <|
 aX 59 (pM 58) <|
 aX 60 (pG 59 false (pM 8)) <|
 aX 61 (pG 59 false (pB .neq 2 60 (cn (.int .i64 0)))) <|
 aX 62 (pP 59 (cn (.bool true)) 61) <|
 aX 63 (pM 62) <|
 aX 64 (pG 63 false (pM 7)) <|
 aX 65 (pG 63 false (pM 9)) <|
 aX 66 (pG 63 false (pK c false 42 [64, 65])) <|
 aX 67 (pG 63 false (pU .not 66)) <|
 aX 68 (pP 63 (cn (.bool true)) 67) <|
 aX 69 (pM 68) <|
 aX 70 (pG 69 false (pM 9)) <|
 aX 71 (pG 69 false (pLen 24 70)) <|
 aX 72 (pG 69 false (pM 6)) <|
 aX 73 (pG 69 false (pLen 24 72)) <|
 aX 74 (pG 69 false (pB .neq 3 71 73)) <|
 aX 75 (pP 69 (cn (.bool true)) 74) <|
 aXZ
noncomputable def f5_r8 (c : CallF) : RF := rg [4] <| aX 4 (pM (cn (.bool false))) <|
 aXZ
noncomputable def f5_r9 (c : CallF) : RF := rg [0, 5, 6, 9, 11] <| aX 11 (pM (cn (.int .i64 0))) <|
 aXZ
noncomputable def f5_r10 (c : CallF) : RF := rg [0, 5, 6, 9, 11, 12] <| aX 12 (pM (cn (.int .i64 0))) <|
 aXZ
noncomputable def f5_r11 (c : CallF) : RF := rg [0, 5, 6, 9, 11, 12, 13] <| aX 13 (pM (cn (.int .i64 0))) <|
 aXZ
noncomputable def f5_r12 (c : CallF) : RF := rg [0, 5, 6, 9, 11, 12, 13, 79] <| aX 76 (pM 13) <|
 aX 77 (pM 6) <|
 aX 78 (pLen 24 77) <|
 aX 79 (pB .lss 3 76 78) <|
 aXZ
noncomputable def f5_r13 (c : CallF) : RF := rg [0, 5, 6, 9, 11, 12, 13] <| aX 80 (pM 13) <|
 aX 81 (pB .add 3 80 (cn (.int .i64 1))) <|
 aX 13 (pM 81) <|
 aXZ
noncomputable def f5_r14 (c : CallF) : RF := rg [0, 5, 6, 9, 11, 12, 13] <| aX 82 (pM 12) <|
 aX 83 (pM 6) <|
 aX 84 (pM 13) <|
 aX 85 (pI 1 83 84) <|
 aX 86 (pL false 1 85) <|
 aX 87 (pB .add 2 82 86) <|
 aX 12 (pM 87) <|
 aXZ
noncomputable def f5_r15 (c : CallF) : RF := rg [0, 5, 6, 9, 11, 12, 13] <| aX 88 (pM 11) <|
 aX 89 (pM 9) <|
 aX 90 (pM 13) <|
 aX 91 (pI 1 89 90) <|
 aX 92 (pL false 1 91) <|
 aX 93 (pB .add 2 88 92) <|
 aX 11 (pM 93) <|
 aXZ
noncomputable def f5_r16 (c : CallF) : RF := rg [0, 5, 6, 9, 12, 96] <| aX 94 (pM 11) <|
 aX 95 (pM 5) <|
 aX 96 (pB .neq 2 94 95) <|
 aXZ
noncomputable def f5_r17 (c : CallF) : RF := rg [4] <| aX 4 (pM (cn (.bool false))) <|
 aXZ
noncomputable def f5_r18 (c : CallF) : RF := rg [0, 5, 6, 9, 12, 14] <| aX 14 (pM (cn (.int .i64 0))) <|
 aXZ
noncomputable def f5_r19 (c : CallF) : RF := rg [0, 5, 6, 9, 12, 14, 100] <| aX 97 (pM 14) <|
 aX 98 (pM 6) <|
 aX 99 (pLen 24 98) <|
 aX 100 (pB .lss 3 97 99) <|
 aXZ
noncomputable def f5_r20 (c : CallF) : RF := rg [0, 5, 6, 9, 12, 14] <| aX 101 (pM 14) <|
 aX 102 (pB .add 3 101 (cn (.int .i64 1))) <|
 aX 14 (pM 102) <|
 aXZ
noncomputable def f5_r21 (c : CallF) : RF := rgD [0, 5, 6, 9, 12, 14, 15] (aY 103 (pM 9) <|
 aY 104 (pM 14) <|
 aY 105 (pI 1 103 104) <|
 aY 106 (pL false 1 105) <|
 aY 107 (pM 12) <|
 aY 108 (pB .mul 2 106 107) <|
 aY 109 (pM 5) <|
 aY 110 (pM 6) <|
 aY 111 (pM 14) <|
 aY 112 (pI 1 110 111) <|
 aY 113 (pL false 1 112) <|
 aY 114 (pB .mul 2 109 113) <|
 aY 115 (pB .sub 2 108 114) <|
 aY 15 (pM 115) <|
 aYZ)
 (aXZ)
noncomputable def f5_r22 (c : CallF) : RF := rg [0, 5, 6, 9, 12, 14, 124] <| aX 116 (pM 15) <|
 aX 117 (pM 12) <|
 aX 118 (pB .geq 2 116 117) <|
 aX 119 (pM 118) <|
 aX 120 (pG 119 false (pM 15)) <|
 aX 121 (pG 119 false (pM 12)) <|
 aX 122 (pG 119 false (pU .neg 121)) <|
 aX 123 (pG 119 false (pB .leq 2 120 122)) <|
 aX 124 (pP 119 (cn (.bool true)) 123) <|
 aXZ
noncomputable def f5_r23 (c : CallF) : RF := rg [4] <| aX 4 (pM (cn (.bool false))) <|
 aXZ
noncomputable def f5_r24 (c : CallF) : RF := rg [6, 16] <| aX 125 (pM 0) <|
 aX 126 (pK c false 43 [125]) <|
 aX 16 (pAl 73 20) <|
 aX0 (pS 20 16 126) <|
 aXZ
noncomputable def f5_r25 (c : CallF) : RF := rg [6, 16, 17, 18] <| aX 128 (pF 1 18 16) <|
 aX 129 (pL true 18 128) <|
 aX 130 (pK c false 44 [129]) <|
 aX 127 (pM 130) <|
 aX 131 (pE 0 127) <|
 aX 132 (pE 1 127) <|
 aX 17 (pM 131) <|
 aX 18 (pM 132) <|
 aXZ
noncomputable def f5_r26 (c : CallF) : RF := rg [16, 18, 19, 20] <| aX 134 (pM 17) <|
 aX 135 (pM 6) <|
 aX 136 (pK c false 41 [134, 135]) <|
 aX 133 (pM 136) <|
 aX 137 (pE 0 133) <|
 aX 138 (pE 1 133) <|
 aX 19 (pM 137) <|
 aX 20 (pM 138) <|
 aXZ
noncomputable def f5_r27 (c : CallF) : RF := rg [16, 18, 19, 20, 21, 22, 23, 24] <| aX 140 (pL true 20 16) <|
 aX 141 (pM 19) <|
 aX 142 (pK c false 45 [140, 141, (cn (.int .u32 5))]) <|
 aX 139 (pM 142) <|
 aX 143 (pE 0 139) <|
 aX 144 (pE 1 139) <|
 aX 145 (pE 2 139) <|
 aX 146 (pE 3 139) <|
 aX 21 (pM 143) <|
 aX 22 (pM 144) <|
 aX 23 (pM 145) <|
 aX 24 (pM 146) <|
 aXZ
noncomputable def f5_r28 (c : CallF) : RF := rg [18, 19, 20, 21, 22, 23, 24, 25, 26, 27, 28] <| aX 148 (pL true 20 16) <|
 aX 149 (pM 19) <|
 aX 150 (pK c false 46 [148, 149, (cn (.int .u32 5))]) <|
 aX 147 (pM 150) <|
 aX 151 (pE 0 147) <|
 aX 152 (pE 1 147) <|
 aX 153 (pE 2 147) <|
 aX 154 (pE 3 147) <|
 aX 25 (pM 151) <|
 aX 26 (pM 152) <|
 aX 27 (pM 153) <|
 aX 28 (pM 154) <|
 aXZ
noncomputable def f5_r29 (c : CallF) : RF := rg [19, 21, 22, 24, 25, 26, 184] <| aX 155 (pM 18) <|
 aX 156 (pB .neq 2 155 (cn (.int .i64 0))) <|
 aX 157 (pM 156) <|
 aX 158 (pG 157 false (pM 20)) <|
 aX 159 (pG 157 false (pB .neq 2 158 (cn (.int .i64 0)))) <|
 aX 160 (pP 157 (cn (.bool true)) 159) <|
 aX 161 (pM 160) <|
 aX 162 (pG 161 false (pM 24)) <|
 aX 163 (pG 161 false (pM 28)) <|
 aX 164 (pG 161 false (pB .neq 2 162 163)) <|
 aX 165 (pP 161 (cn (.bool true)) 164) <|
 aX 166 (pM 165) <|
 aX 167 (pG 166 false (pM 23)) <|
 aX 168 (pG 166 false (pM 27)) <|
 aX 169 (pG 166 false (pB .neq 77 167 168)) <|
 aX 170 (pP 166 (cn (.bool true)) 169) <|
 aX 171 (pM 170) <|
 aX 172 (pG 171 false (pM 21)) <|
 aX 173 (pG 171 false (pLen 76 172)) <|
 aX 174 (pG 171 false (pM 25)) <|
 aX 175 (pG 171 false (pLen 76 174)) <|
 aX 176 (pG 171 false (pB .neq 3 173 175)) <|
 aX 177 (pP 171 (cn (.bool true)) 176) <|
 aX 178 (pM 177) <|
 aX 179 (pG 178 false (pM 22)) <|
 aX 180 (pG 178 false (pLen 76 179)) <|
 aX 181 (pG 178 false (pM 26)) <|
 aX 182 (pG 178 false (pLen 76 181)) <|
 aX 183 (pG 178 false (pB .neq 3 180 182)) <|
 aX 184 (pP 178 (cn (.bool true)) 183) <|
 aXZ
noncomputable def f5_r30 (c : CallF) : RF := rg [4] <| aX 4 (pM (cn (.bool false))) <|
 aXZ
noncomputable def f5_r31 (c : CallF) : RF := rg [19, 21, 22, 24, 25, 26, 186] <| aX 185 (pM 24) <|
 aX 186 (pB .neq 2 185 (cn (.int .i64 0))) <|
 aXZ
noncomputable def f5_r32 (c : CallF) : RF := rg [4] <| aX 187 (pM 24) <|
 aX 188 (pB .eql 2 187 (cn (.int .i64 3))) <|
 aX 4 (pM 188) <|
 aXZ
noncomputable def f5_r33 (c : CallF) : RF := rg [19, 21, 22, 25, 26, 29] <| aX 29 (pM (cn (.int .i64 0))) <|
 aXZ
noncomputable def f5_r34 (c : CallF) : RF := rg [19, 21, 22, 25, 26, 29, 192] <| aX 189 (pM 29) <|
 aX 190 (pM 25) <|
 aX 191 (pLen 76 190) <|
 aX 192 (pB .lss 3 189 191) <|
 aXZ
noncomputable def f5_r35 (c : CallF) : RF := rg [19, 21, 22, 25, 26, 29] <| aX 193 (pM 29) <|
 aX 194 (pB .add 3 193 (cn (.int .i64 1))) <|
 aX 29 (pM 194) <|
 aXZ
noncomputable def f5_r36 (c : CallF) : RF := rgD [19, 21, 22, 25, 26, 29, 30, 31] (aY 196 (pM 25) <|
 aY 197 (pM 29) <|
 aY 198 (pI 18 196 197) <|
 aY 199 (pL true 18 198) <|
 aY 200 (pM 26) <|
 aY 201 (pM 29) <|
 aY 202 (pI 18 200 201) <|
 aY 203 (pL true 18 202) <|
 aY 204 (pK c false 47 [199, 203, (cn (.int .i64 0))]) <|
 aY 195 (pM 204) <|
 aY 205 (pE 0 195) <|
 aY 206 (pE 1 195) <|
 aY 30 (pM 205) <|
 aY 31 (pM 206) <|
 aYZ)
 (aXZ)
noncomputable def f5_r37 (c : CallF) : RF := rg [19, 21, 22, 25, 26, 29, 30, 31, 32, 33] <| aX 208 (pM 21) <|
 aX 209 (pM 29) <|
 aX 210 (pI 18 208 209) <|
 aX 211 (pL true 18 210) <|
 aX 212 (pK c false 48 [211]) <|
 aX 207 (pM 212) <|
 aX 213 (pE 0 207) <|
 aX 214 (pE 1 207) <|
 aX 32 (pM 213) <|
 aX 33 (pM 214) <|
 aXZ
noncomputable def f5_r38 (c : CallF) : RF := rgD [19, 21, 22, 25, 26, 29, 256] (aY 215 (pM 31) <|
 aY 216 (pB .neq 2 215 (cn (.int .i64 0))) <|
 aY 217 (pM 216) <|
 aY 218 (pG 217 false (pM 30)) <|
 aY 219 (pG 217 false (pU .not 218)) <|
 aY 220 (pP 217 (cn (.bool true)) 219) <|
 aY 221 (pM 220) <|
 aY 222 (pG 221 false (pM 33)) <|
 aY 223 (pG 221 false (pB .neq 2 222 (cn (.int .i64 0)))) <|
 aY 224 (pP 221 (cn (.bool true)) 223) <|
 aY 225 (pM 224) <|
 aY 226 (pG 225 false (pM 32)) <|
 aY 227 (pG 225 false (pM 19)) <|
 aY 228 (pG 225 false (pM 29)) <|
 aY 229 (pG 225 false (pI 1 227 228)) <|
 aY 230 (pG 225 false (pL false 1 229)) <|
 aY 231 (pG 225 false (pB .neq 2 226 230)) <|
 aY 232 (pP 225 (cn (.bool true)) 231) <|
 aY 233 (pM 232) <|
 aY 234 (pG 233 false (pM 21)) <|
 aY 235 (pG 233 false (pM 29)) <|
 aY 236 (pG 233 false (pI 18 234 235)) <|
 aY 237 (pG 233 false (pL true 18 236)) <|
 aY 238 (pG 233 false (pM 25)) <|
 aY 239 (pG 233 false (pM 29)) <|
 aY 240 (pG 233 false (pI 18 238 239)) <|
 aY 241 (pG 233 false (pL true 18 240)) <|
 aY 242 (pG 233 false (pK c false 49 [237, 241])) <|
 aY 243 (pG 233 false (pU .not 242)) <|
 aY 244 (pP 233 (cn (.bool true)) 243) <|
 aY 245 (pM 244) <|
 aY 246 (pG 245 false (pM 22)) <|
 aY 247 (pG 245 false (pM 29)) <|
 aY 248 (pG 245 false (pI 18 246 247)) <|
 aY 249 (pG 245 false (pL true 18 248)) <|
 aY 250 (pG 245 false (pM 26)) <|
 aY 251 (pG 245 false (pM 29)) <|
 aY 252 (pG 245 false (pI 18 250 251)) <|
 aY 253 (pG 245 false (pL true 18 252)) <|
 aY 254 (pG 245 false (pK c false 49 [249, 253])) <|
 aY 255 (pG 245 false (pU .not 254)) <|
 aY 256 (pP 245 (cn (.bool true)) 255) <|
 aYZ)
 (aXZ)
noncomputable def f5_r39 (c : CallF) : RF := rg [4] <| aX 4 (pM (cn (.bool false))) <|
 aXZ
noncomputable def f5_r40 (c : CallF) : RF := rg [4] <| aX 257 (pM 25) <|
 aX 258 (pLen 76 257) <|
 aX 259 (pM 19) <|
 aX 260 (pLen 24 259) <|
 aX 261 (pB .eql 3 258 260) <|
 aX 4 (pM 261) <|
 aXZ
noncomputable def f5_l12 (c : CallF) (k : Nat) : St :=
 (bSeq (bSeq (bReg (f5_r12 c))
 (bCond (.tmp 79) (bEx .nrm) (bEx (.ext 0))))
 (bSeq (bBlock 1 (bSeq (bReg (f5_r14 c))
 (bReg (f5_r15 c))))
 (bReg (f5_r13 c))))
noncomputable def f5_l19 (c : CallF) (k : Nat) : St :=
 (bSeq (bSeq (bReg (f5_r19 c))
 (bCond (.tmp 100) (bEx .nrm) (bEx (.ext 2))))
 (bSeq (bBlock 3 (bSeq (bReg (f5_r21 c))
 (bSeq (bReg (f5_r22 c))
 (bCond (.tmp 124) (bSeq (bReg (f5_r23 c))
 (bEx .ret)) (bEx .nrm)))))
 (bReg (f5_r20 c))))
noncomputable def f5_l34 (c : CallF) (k : Nat) : St :=
 (bSeq (bSeq (bReg (f5_r34 c))
 (bCond (.tmp 192) (bEx .nrm) (bEx (.ext 4))))
 (bSeq (bBlock 5 (bSeq (bReg (f5_r36 c))
 (bSeq (bReg (f5_r37 c))
 (bSeq (bReg (f5_r38 c))
 (bCond (.tmp 256) (bSeq (bReg (f5_r39 c))
 (bEx .ret)) (bEx .nrm))))))
 (bReg (f5_r35 c))))
noncomputable def f5 (c : CallF) (k : Nat) : St :=
 (bSeq (bReg (f5_r0 c))
 (bSeq (bSeq (bReg (f5_r1 c))
 (bCond (.tmp 39) (bSeq (bReg (f5_r2 c))
 (bEx .ret)) (bEx .nrm)))
 (bSeq (bReg (f5_r3 c))
 (bSeq (bReg (f5_r4 c))
 (bSeq (bReg (f5_r5 c))
 (bSeq (bReg (f5_r6 c))
 (bSeq (bSeq (bReg (f5_r7 c))
 (bCond (.tmp 75) (bSeq (bReg (f5_r8 c))
 (bEx .ret)) (bEx .nrm)))
 (bSeq (bReg (f5_r9 c))
 (bSeq (bReg (f5_r10 c))
 (bSeq (bSeq (bReg (f5_r11 c))
 (bBlock 0 (bLoop [0, 5, 6, 9, 11, 12, 13] (f5_l12 c k) k)))
 (bSeq (bSeq (bReg (f5_r16 c))
 (bCond (.tmp 96) (bSeq (bReg (f5_r17 c))
 (bEx .ret)) (bEx .nrm)))
 (bSeq (bSeq (bReg (f5_r18 c))
 (bBlock 2 (bLoop [0, 5, 6, 9, 12, 14] (f5_l19 c k) k)))
 (bSeq (bReg (f5_r24 c))
 (bSeq (bReg (f5_r25 c))
 (bSeq (bReg (f5_r26 c))
 (bSeq (bReg (f5_r27 c))
 (bSeq (bReg (f5_r28 c))
 (bSeq (bSeq (bReg (f5_r29 c))
 (bCond (.tmp 184) (bSeq (bReg (f5_r30 c))
 (bEx .ret)) (bEx .nrm)))
 (bSeq (bSeq (bReg (f5_r31 c))
 (bCond (.tmp 186) (bSeq (bReg (f5_r32 c))
 (bEx .ret)) (bEx .nrm)))
 (bSeq (bSeq (bReg (f5_r33 c))
 (bBlock 4 (bLoop [19, 21, 22, 25, 26, 29] (f5_l34 c k) k)))
 (bSeq (bReg (f5_r40 c))
 (bEx .ret))))))))))))))))))))))
theorem f5_eq (c : CallF) (k : Nat) : exec cx c 262 f5_an k (Try.f5.body.getD .skip) = f5 c k := by kernel_rfl
def f37_an : Ann := ⟨[(0, r0 [0]), (1, r0 [2])], []⟩
noncomputable def f37_r0 (c : CallF) : RF := rg [0] <| aX 2 (pM (cn (.bool false))) <|
 aXZ
noncomputable def f37_r1 (c : CallF) : RF := rg [2] <| aX 3 (pM 0) <|
 aX 4 (pLen 22 3) <|
 aX 5 (pB .gtr 3 4 (cn (.int .i64 4096))) <|
 aX 2 (pM 5) <|
 aXZ
noncomputable def f37 (c : CallF) (k : Nat) : St :=
 (bSeq (bReg (f37_r0 c))
 (bSeq (bReg (f37_r1 c))
 (bEx .ret)))
theorem f37_eq (c : CallF) (k : Nat) : exec cx c 6 f37_an k (Try.f37.body.getD .skip) = f37 c k := by kernel_rfl
def f38_an : Ann := ⟨[(0, r0 [0, 1]), (1, r0 [4])], []⟩
noncomputable def f38_r0 (c : CallF) : RF := rg [0, 1] <| aX 4 (pM (cn (.int .i64 0))) <|
 aXZ
noncomputable def f38_r1 (c : CallF) : RF := rg [4] <| aX 5 (pM 0) <|
 aX 6 (pK c false 51 [5]) <|
 aX 7 (pM 1) <|
 aX 8 (pK c false 88 [6, 7]) <|
 aX 4 (pM 8) <|
 aXZ
noncomputable def f38 (c : CallF) (k : Nat) : St :=
 (bSeq (bReg (f38_r0 c))
 (bSeq (bReg (f38_r1 c))
 (bEx .ret)))
theorem f38_eq (c : CallF) (k : Nat) : exec cx c 9 f38_an k (Try.f38.body.getD .skip) = f38 c k := by kernel_rfl
def f39_an : Ann := ⟨[(0, r0 [0]), (1, r0 [3]), (2, ⟨[3], [], [], [], [3, 4], none, []⟩), (3, r0 [3, 4, 5]), (4, r0 [3, 4, 5, 15]), (5, r0 [3, 4, 5]), (6, ⟨[4], [], [], [], [3, 4, 5], none, []⟩), (7, r0 [2])], [(4, [3, 4, 5])]⟩
noncomputable def f39_r0 (c : CallF) : RF := rg [0] <| aX 2 (pM (cn .nils)) <|
 aXZ
noncomputable def f39_r1 (c : CallF) : RF := rg [3] <| aX 6 (pM 0) <|
 aX 7 (pK c false 51 [6]) <|
 aX 3 (pM 7) <|
 aXZ
noncomputable def f39_r2 (c : CallF) : RF := rg [3, 4] <| aX 8 (pM 3) <|
 aX 9 (pK c false 88 [8, (cn (.int .i64 20))]) <|
 aX 10 (pB .add 2 (cn (.int .i64 1)) 9) <|
 aX 11 (fun n e M => aLitO false n 2 1 [(eget e 10)] M) <|
 aX 4 (pM 11) <|
 aXZ
noncomputable def f39_r3 (c : CallF) : RF := rg [3, 4, 5] <| aX 12 (pM 3) <|
 aX 13 (pK c false 88 [12, (cn (.int .i64 7))]) <|
 aX 5 (pM 13) <|
 aXZ
noncomputable def f39_r4 (c : CallF) : RF := rg [3, 4, 5, 15] <| aX 14 (pM 5) <|
 aX 15 (pB .gtr 2 14 (cn (.int .i64 0))) <|
 aXZ
noncomputable def f39_r5 (c : CallF) : RF := rg [3, 4, 5] <| aX 16 (pM 5) <|
 aX 17 (pB .sub 2 16 (cn (.int .i64 1))) <|
 aX 5 (pM 17) <|
 aXZ
noncomputable def f39_r6 (c : CallF) : RF := rg [3, 4, 5] <| aX 18 (pM 4) <|
 aX 19 (pM 3) <|
 aX 20 (pK c false 88 [19, (cn (.int .i64 20))]) <|
 aX 21 (fun n e M => keep (aLitI 2 1 [(eget e 20)] M)) <|
 aX 22 (fun n e M => aAppO n 2 1 8 (eget e 18) (eget e 21) M) <|
 aX 4 (pM 22) <|
 aXZ
noncomputable def f39_r7 (c : CallF) : RF := rg [2] <| aX 23 (pM 4) <|
 aX 2 (pM 23) <|
 aXZ
noncomputable def f39_l4 (c : CallF) (k : Nat) : St :=
 (bSeq (bSeq (bReg (f39_r4 c))
 (bCond (.tmp 15) (bEx .nrm) (bEx (.ext 0))))
 (bSeq (bBlock 1 (bReg (f39_r6 c)))
 (bReg (f39_r5 c))))
noncomputable def f39 (c : CallF) (k : Nat) : St :=
 (bSeq (bReg (f39_r0 c))
 (bSeq (bReg (f39_r1 c))
 (bSeq (bReg (f39_r2 c))
 (bSeq (bSeq (bReg (f39_r3 c))
 (bBlock 0 (bLoop [3, 4, 5] (f39_l4 c k) k)))
 (bSeq (bReg (f39_r7 c))
 (bEx .ret))))))
theorem f39_eq (c : CallF) (k : Nat) : exec cx c 24 f39_an k (Try.f39.body.getD .skip) = f39 c k := by kernel_rfl
def f40_an : Ann := ⟨[(0, r0 [0, 1]), (1, r0 [0, 1, 29]), (2, r0 [4, 5]), (3, r0 [0, 1, 6]), (4, r0 [0, 1, 6, 30, 31, 32]), (5, r0 [0, 1, 6, 30, 31, 32, 33]), (6, r0 [0, 1, 6, 8, 30, 31, 32]), (7, r0 [0, 1, 6, 8, 30, 31, 32, 41]), (8, r0 [4, 5]), (9, r0 [0, 1, 6, 30, 31, 32]), (10, r0 [0, 1, 6, 30, 31, 32]), (11, r0 [0, 1, 6, 47]), (12, r0 [4, 5]), (13, ⟨[0, 1], [], [], [], [0, 1, 6, 9, 10, 11], none, []⟩), (14, r0 [0, 6, 9, 10, 11, 51, 52, 53]), (15, r0 [0, 6, 9, 10, 11, 51, 52, 53, 54]), (16, r0 [0, 6, 9, 10, 11, 13, 51, 52, 53]), (17, ⟨[7], [], [], [], [0, 6, 9, 10, 11, 13, 51, 52, 53], none, []⟩), (18, ⟨[7], [], [], [], [0, 6, 9, 10, 11, 13, 51, 52, 53], none, []⟩), (19, r0 [0, 6, 9, 10, 11, 51, 52, 53]), (20, r0 [0, 6, 9, 10, 11, 51, 52, 53]), (21, r0 [9, 10, 81, 82]), (22, r0 [9, 10, 81, 82, 83]), (23, r0 [9, 10, 14, 81, 82]), (24, r0 [9, 10, 14, 81, 82, 84, 85, 86]), (25, r0 [9, 10, 14, 81, 82, 84, 85, 86, 87]), (26, r0 [9, 10, 14, 15, 16, 81, 82, 84, 85, 86]), (27, r0 [9, 10, 14, 15, 81, 82, 84, 85, 86, 96]), (28, r0 [9, 10, 14, 81, 82, 84, 85, 86]), (29, r0 [9, 10, 14, 81, 82, 84, 85, 86]), (30, r0 [9, 10, 14, 81, 82]), (31, r0 [9, 10, 81, 82]), (32, r0 [9, 10, 81, 82]), (33, r0 [4, 5])], [(5, [0, 1, 6, 30, 31, 32]), (15, [0, 6, 9, 10, 11, 51, 52, 53]), (25, [9, 10, 14, 81, 82, 84, 85, 86]), (22, [9, 10, 81, 82])]⟩
noncomputable def f40_r0 (c : CallF) : RF := rg [0, 1] <| aX 4 (pM (cn .nils)) <|
 aX 5 (pM (cn (.int .i64 0))) <|
 aXZ
noncomputable def f40_r1 (c : CallF) : RF := rg [0, 1, 29] <| aX 17 (pM 0) <|
 aX 18 (pK c false 74 [17]) <|
 aX 19 (pU .not 18) <|
 aX 20 (pM 19) <|
 aX 21 (pG 20 false (pM 1)) <|
 aX 22 (pG 20 false (pLen 24 21)) <|
 aX 23 (pG 20 false (pB .lss 3 22 (cn (.int .i64 1)))) <|
 aX 24 (pP 20 (cn (.bool true)) 23) <|
 aX 25 (pM 24) <|
 aX 26 (pG 25 false (pM 1)) <|
 aX 27 (pG 25 false (pLen 24 26)) <|
 aX 28 (pG 25 false (pB .gtr 3 27 (cn (.int .i64 20)))) <|
 aX 29 (pP 25 (cn (.bool true)) 28) <|
 aXZ
noncomputable def f40_r2 (c : CallF) : RF := rg [4, 5] <| aX 4 (pM (cn .nils)) <|
 aX 5 (pM (cn (.int .i64 2))) <|
 aXZ
noncomputable def f40_r3 (c : CallF) : RF := rg [0, 1, 6] <| aX 6 (pM (cn (.int .i64 0))) <|
 aXZ
noncomputable def f40_r4 (c : CallF) : RF := rg [0, 1, 6, 30, 31, 32] <| aX 30 (pM 1) <|
 aX 31 (pLen 24 30) <|
 aX 32 (pM (cn (.int .i64 0))) <|
 aXZ
noncomputable def f40_r5 (c : CallF) : RF := rg [0, 1, 6, 30, 31, 32, 33] <| aX 33 (pB .lss 3 32 31) <|
 aXZ
noncomputable def f40_r6 (c : CallF) : RF := rg [0, 1, 6, 8, 30, 31, 32] <| aX 34 (pI 1 30 32) <|
 aX 35 (pL false 1 34) <|
 aX 8 (pM 35) <|
 aXZ
noncomputable def f40_r7 (c : CallF) : RF := rg [0, 1, 6, 8, 30, 31, 32, 41] <| aX 36 (pM 8) <|
 aX 37 (pB .lss 2 36 (cn (.int .i64 0))) <|
 aX 38 (pM 37) <|
 aX 39 (pG 38 false (pM 8)) <|
 aX 40 (pG 38 false (pB .gtr 2 39 (cn (.int .i64 1000000)))) <|
 aX 41 (pP 38 (cn (.bool true)) 40) <|
 aXZ
noncomputable def f40_r8 (c : CallF) : RF := rg [4, 5] <| aX 4 (pM (cn .nils)) <|
 aX 5 (pM (cn (.int .i64 2))) <|
 aXZ
noncomputable def f40_r9 (c : CallF) : RF := rg [0, 1, 6, 30, 31, 32] <| aX 42 (pM 6) <|
 aX 43 (pM 8) <|
 aX 44 (pB .add 2 42 43) <|
 aX 6 (pM 44) <|
 aXZ
noncomputable def f40_r10 (c : CallF) : RF := rg [0, 1, 6, 30, 31, 32] <| aX 45 (pB .add 3 32 (cn (.int .i64 1))) <|
 aX 32 (pM 45) <|
 aXZ
noncomputable def f40_r11 (c : CallF) : RF := rg [0, 1, 6, 47] <| aX 46 (pM 6) <|
 aX 47 (pB .eql 2 46 (cn (.int .i64 0))) <|
 aXZ
noncomputable def f40_r12 (c : CallF) : RF := rg [4, 5] <| aX 4 (pM (cn .nils)) <|
 aX 5 (pM (cn (.int .i64 2))) <|
 aXZ
noncomputable def f40_r13 (c : CallF) : RF := rg [0, 1, 6, 9, 10, 11] <| aX 48 (fun n e M => aLitO false n 2 1 [] M) <|
 aX 49 (fun n e M => aLitO false n 2 1 [] M) <|
 aX 50 (pM 0) <|
 aX 9 (pM 48) <|
 aX 10 (pM 49) <|
 aX 11 (pM 50) <|
 aXZ
noncomputable def f40_r14 (c : CallF) : RF := rg [0, 6, 9, 10, 11, 51, 52, 53] <| aX 51 (pM 1) <|
 aX 52 (pLen 24 51) <|
 aX 53 (pM (cn (.int .i64 0))) <|
 aXZ
noncomputable def f40_r15 (c : CallF) : RF := rg [0, 6, 9, 10, 11, 51, 52, 53, 54] <| aX 54 (pB .lss 3 53 52) <|
 aXZ
noncomputable def f40_r16 (c : CallF) : RF := rg [0, 6, 9, 10, 11, 13, 51, 52, 53] <| aX 55 (pI 1 51 53) <|
 aX 56 (pL false 1 55) <|
 aX 13 (pM 56) <|
 aXZ
noncomputable def f40_r17 (c : CallF) : RF := rg [0, 6, 9, 10, 11, 13, 51, 52, 53] <| aX 57 (pM 9) <|
 aX 58 (pM 0) <|
 aX 59 (pM 13) <|
 aX 60 (pB .mul 2 58 59) <|
 aX 61 (pM 6) <|
 aX 62 (pB .quo 2 60 61) <|
 aX 63 (fun n e M => keep (aLitI 2 1 [(eget e 62)] M)) <|
 aX 64 (fun n e M => aAppO n 2 1 8 (eget e 57) (eget e 63) M) <|
 aX 9 (pM 64) <|
 aXZ
noncomputable def f40_r18 (c : CallF) : RF := rg [0, 6, 9, 10, 11, 13, 51, 52, 53] <| aX 65 (pM 10) <|
 aX 66 (pM 0) <|
 aX 67 (pM 13) <|
 aX 68 (pB .mul 2 66 67) <|
 aX 69 (pM 6) <|
 aX 70 (pB .rem 2 68 69) <|
 aX 71 (fun n e M => keep (aLitI 2 1 [(eget e 70)] M)) <|
 aX 72 (fun n e M => aAppO n 2 1 8 (eget e 65) (eget e 71) M) <|
 aX 10 (pM 72) <|
 aXZ
noncomputable def f40_r19 (c : CallF) : RF := rg [0, 6, 9, 10, 11, 51, 52, 53] <| aX 73 (pM 11) <|
 aX 74 (pM 0) <|
 aX 75 (pM 13) <|
 aX 76 (pB .mul 2 74 75) <|
 aX 77 (pM 6) <|
 aX 78 (pB .quo 2 76 77) <|
 aX 79 (pB .sub 2 73 78) <|
 aX 11 (pM 79) <|
 aXZ
noncomputable def f40_r20 (c : CallF) : RF := rg [0, 6, 9, 10, 11, 51, 52, 53] <| aX 80 (pB .add 3 53 (cn (.int .i64 1))) <|
 aX 53 (pM 80) <|
 aXZ
noncomputable def f40_r21 (c : CallF) : RF := rg [9, 10, 81, 82] <| aX 81 (pM 11) <|
 aX 82 (pM (cn (.int .i64 0))) <|
 aXZ
noncomputable def f40_r22 (c : CallF) : RF := rg [9, 10, 81, 82, 83] <| aX 83 (pB .lss 2 82 81) <|
 aXZ
noncomputable def f40_r23 (c : CallF) : RF := rg [9, 10, 14, 81, 82] <| aX 14 (pM (cn (.int .i64 0))) <|
 aXZ
noncomputable def f40_r24 (c : CallF) : RF := rg [9, 10, 14, 81, 82, 84, 85, 86] <| aX 84 (pM 10) <|
 aX 85 (pLen 24 84) <|
 aX 86 (pM (cn (.int .i64 0))) <|
 aXZ
noncomputable def f40_r25 (c : CallF) : RF := rg [9, 10, 14, 81, 82, 84, 85, 86, 87] <| aX 87 (pB .lss 3 86 85) <|
 aXZ
noncomputable def f40_r26 (c : CallF) : RF := rg [9, 10, 14, 15, 16, 81, 82, 84, 85, 86] <| aX 88 (pM 86) <|
 aX 89 (pI 1 84 86) <|
 aX 90 (pL false 1 89) <|
 aX 15 (pM 88) <|
 aX 16 (pM 90) <|
 aXZ
noncomputable def f40_r27 (c : CallF) : RF := rg [9, 10, 14, 15, 81, 82, 84, 85, 86, 96] <| aX 91 (pM 16) <|
 aX 92 (pM 10) <|
 aX 93 (pM 14) <|
 aX 94 (pI 1 92 93) <|
 aX 95 (pL false 1 94) <|
 aX 96 (pB .gtr 2 91 95) <|
 aXZ
noncomputable def f40_r28 (c : CallF) : RF := rg [9, 10, 14, 81, 82, 84, 85, 86] <| aX 97 (pM 15) <|
 aX 14 (pM 97) <|
 aXZ
noncomputable def f40_r29 (c : CallF) : RF := rg [9, 10, 14, 81, 82, 84, 85, 86] <| aX 98 (pB .add 3 86 (cn (.int .i64 1))) <|
 aX 86 (pM 98) <|
 aXZ
noncomputable def f40_r30 (c : CallF) : RF := rg [9, 10, 14, 81, 82] <| aX 99 (pM 9) <|
 aX 100 (pM 14) <|
 aX 101 (pI 1 99 100) <|
 aX 102 (pL false 1 101) <|
 aX 103 (pB .add 2 102 (cn (.int .i64 1))) <|
 aX 104 (pI 1 99 100) <|
 aX0 (pS 1 104 103) <|
 aXZ
noncomputable def f40_r31 (c : CallF) : RF := rg [9, 10, 81, 82] <| aX 105 (pM 10) <|
 aX 106 (pM 14) <|
 aX 107 (pI 1 105 106) <|
 aX0 (pS 1 107 (cn (.int .i64 (-1)))) <|
 aXZ
noncomputable def f40_r32 (c : CallF) : RF := rg [9, 10, 81, 82] <| aX 108 (pB .add 2 82 (cn (.int .i64 1))) <|
 aX 82 (pM 108) <|
 aXZ
noncomputable def f40_r33 (c : CallF) : RF := rg [4, 5] <| aX 109 (pM 9) <|
 aX 4 (pM 109) <|
 aX 5 (pM (cn (.int .i64 0))) <|
 aXZ
noncomputable def f40_l5 (c : CallF) (k : Nat) : St :=
 (bSeq (bReg (f40_r5 c))
 (bSeq (bCond (.tmp 33) (bEx .nrm) (bEx (.ext 0)))
 (bSeq (bBlock 1 (bSeq (bReg (f40_r6 c))
 (bSeq (bSeq (bReg (f40_r7 c))
 (bCond (.tmp 41) (bSeq (bReg (f40_r8 c))
 (bEx .ret)) (bEx .nrm)))
 (bReg (f40_r9 c)))))
 (bReg (f40_r10 c)))))
noncomputable def f40_l15 (c : CallF) (k : Nat) : St :=
 (bSeq (bReg (f40_r15 c))
 (bSeq (bCond (.tmp 54) (bEx .nrm) (bEx (.ext 2)))
 (bSeq (bBlock 3 (bSeq (bReg (f40_r16 c))
 (bSeq (bReg (f40_r17 c))
 (bSeq (bReg (f40_r18 c))
 (bReg (f40_r19 c))))))
 (bReg (f40_r20 c)))))
noncomputable def f40_l25 (c : CallF) (k : Nat) : St :=
 (bSeq (bReg (f40_r25 c))
 (bSeq (bCond (.tmp 87) (bEx .nrm) (bEx (.ext 6)))
 (bSeq (bBlock 7 (bSeq (bReg (f40_r26 c))
 (bSeq (bReg (f40_r27 c))
 (bCond (.tmp 96) (bReg (f40_r28 c)) (bEx .nrm)))))
 (bReg (f40_r29 c)))))
noncomputable def f40_l22 (c : CallF) (k : Nat) : St :=
 (bSeq (bReg (f40_r22 c))
 (bSeq (bCond (.tmp 83) (bEx .nrm) (bEx (.ext 4)))
 (bSeq (bBlock 5 (bSeq (bReg (f40_r23 c))
 (bSeq (bSeq (bReg (f40_r24 c))
 (bBlock 6 (bLoop [9, 10, 14, 81, 82, 84, 85, 86] (f40_l25 c k) k)))
 (bSeq (bReg (f40_r30 c))
 (bReg (f40_r31 c))))))
 (bReg (f40_r32 c)))))
noncomputable def f40 (c : CallF) (k : Nat) : St :=
 (bSeq (bReg (f40_r0 c))
 (bSeq (bSeq (bReg (f40_r1 c))
 (bCond (.tmp 29) (bSeq (bReg (f40_r2 c))
 (bEx .ret)) (bEx .nrm)))
 (bSeq (bReg (f40_r3 c))
 (bSeq (bSeq (bReg (f40_r4 c))
 (bBlock 0 (bLoop [0, 1, 6, 30, 31, 32] (f40_l5 c k) k)))
 (bSeq (bSeq (bReg (f40_r11 c))
 (bCond (.tmp 47) (bSeq (bReg (f40_r12 c))
 (bEx .ret)) (bEx .nrm)))
 (bSeq (bReg (f40_r13 c))
 (bSeq (bSeq (bReg (f40_r14 c))
 (bBlock 2 (bLoop [0, 6, 9, 10, 11, 51, 52, 53] (f40_l15 c k) k)))
 (bSeq (bSeq (bReg (f40_r21 c))
 (bBlock 4 (bLoop [9, 10, 81, 82] (f40_l22 c k) k)))
 (bSeq (bReg (f40_r33 c))
 (bEx .ret))))))))))
theorem f40_eq (c : CallF) (k : Nat) : exec cx c 110 f40_an k (Try.f40.body.getD .skip) = f40 c k := by kernel_rfl
def f41_an : Ann := ⟨[(0, r0 [0, 1]), (1, r0 [0, 1, 6]), (2, r0 [0, 1, 6, 7]), (3, r0 [0, 1, 6, 7, 8]), (4, r0 [0, 1, 6, 7, 8, 28]), (5, r0 [0, 1, 6, 7, 8]), (6, r0 [0, 1, 6, 7, 8]), (7, r0 [0, 1, 6, 7, 8]), (8, r0 [0, 1, 7, 47]), (9, r0 [4, 5]), (10, ⟨[0], [], [], [], [0, 1, 7, 9], none, []⟩), (11, ⟨[0], [], [], [], [0, 1, 7, 9, 10], none, []⟩), (12, r0 [0, 1, 7, 9, 10, 11]), (13, r0 [0, 1, 7, 9, 10, 11, 12]), (14, r0 [0, 1, 7, 9, 10, 11, 12, 55]), (15, r0 [0, 1, 7, 9, 10, 11, 12]), (16, ⟨[10], [], [], [], [0, 1, 7, 9, 10, 11, 12], none, []⟩), (17, ⟨[10], [], [], [], [0, 1, 7, 9, 10, 11, 12], none, []⟩), (18, r0 [0, 1, 7, 9, 10, 11, 12]), (19, r0 [9, 10, 11, 87]), (20, r0 [9, 10, 11, 13]), (21, r0 [9, 10, 11, 13, 14]), (22, r0 [9, 10, 11, 13, 14, 91]), (23, r0 [9, 10, 11, 13, 14]), (24, r0 [9, 10, 11, 13, 14, 102]), (25, r0 [9, 10, 11, 13, 14]), (26, r0 [9, 10, 11, 13]), (27, r0 [9, 10, 11]), (28, r0 [9, 10, 11]), (29, r0 [4, 5])], [(4, [0, 1, 6, 7, 8]), (14, [0, 1, 7, 9, 10, 11, 12]), (22, [9, 10, 11, 13, 14]), (19, [9, 10, 11])]⟩
noncomputable def f41_r0 (c : CallF) : RF := rg [0, 1] <| aX 4 (pM (cn .nils)) <|
 aX 5 (pM (cn (.int .i64 0))) <|
 aXZ
noncomputable def f41_r1 (c : CallF) : RF := rg [0, 1, 6] <| aX 15 (pM 0) <|
 aX 16 (pK c false 89 [15]) <|
 aX 17 (pM 16) <|
 aX 18 (pG 17 true (pM 1)) <|
 aX 19 (pG 17 true (pLen 24 18)) <|
 aX 20 (pG 17 true (pK c false 90 [19, (cn (.int .i64 1)), (cn (.int .i64 20))])) <|
 aX 21 (pP 17 20 (cn (.bool false))) <|
 aX 6 (pM 21) <|
 aXZ
noncomputable def f41_r2 (c : CallF) : RF := rg [0, 1, 6, 7] <| aX 7 (pM (cn (.int .i64 0))) <|
 aXZ
noncomputable def f41_r3 (c : CallF) : RF := rg [0, 1, 6, 7, 8] <| aX 8 (pM (cn (.int .i64 0))) <|
 aXZ
noncomputable def f41_r4 (c : CallF) : RF := rg [0, 1, 6, 7, 8, 28] <| aX 22 (pM 8) <|
 aX 23 (pM 1) <|
 aX 24 (pLen 24 23) <|
 aX 25 (pB .lss 3 22 24) <|
 aX 26 (pM 25) <|
 aX 27 (pG 26 true (pM 6)) <|
 aX 28 (pP 26 27 (cn (.bool false))) <|
 aXZ
noncomputable def f41_r5 (c : CallF) : RF := rg [0, 1, 6, 7, 8] <| aX 29 (pM 8) <|
 aX 30 (pB .add 3 29 (cn (.int .i64 1))) <|
 aX 8 (pM 30) <|
 aXZ
noncomputable def f41_r6 (c : CallF) : RF := rg [0, 1, 6, 7, 8] <| aX 31 (pM 1) <|
 aX 32 (pM 8) <|
 aX 33 (pI 1 31 32) <|
 aX 34 (pL false 1 33) <|
 aX 35 (pK c false 90 [34, (cn (.int .i64 0)), (cn (.int .i64 1000000))]) <|
 aX 6 (pM 35) <|
 aXZ
noncomputable def f41_r7 (c : CallF) : RF := rg [0, 1, 6, 7, 8] <| aX 36 (pM 7) <|
 aX 37 (pM 1) <|
 aX 38 (pM 8) <|
 aX 39 (pI 1 37 38) <|
 aX 40 (pL false 1 39) <|
 aX 41 (pB .add 2 36 40) <|
 aX 7 (pM 41) <|
 aXZ
noncomputable def f41_r8 (c : CallF) : RF := rg [0, 1, 7, 47] <| aX 42 (pM 6) <|
 aX 43 (pU .not 42) <|
 aX 44 (pM 43) <|
 aX 45 (pG 44 false (pM 7)) <|
 aX 46 (pG 44 false (pB .eql 2 45 (cn (.int .i64 0)))) <|
 aX 47 (pP 44 (cn (.bool true)) 46) <|
 aXZ
noncomputable def f41_r9 (c : CallF) : RF := rg [4, 5] <| aX 48 (fun n e M => keep (aLitI 2 1 [] M)) <|
 aX 4 (pM 48) <|
 aX 5 (pM (cn (.int .i64 2))) <|
 aXZ
noncomputable def f41_r10 (c : CallF) : RF := rg [0, 1, 7, 9] <| aX 49 (fun n e M => aLitO false n 2 1 [] M) <|
 aX 9 (pM 49) <|
 aXZ
noncomputable def f41_r11 (c : CallF) : RF := rg [0, 1, 7, 9, 10] <| aX 50 (fun n e M => aLitO false n 2 1 [] M) <|
 aX 10 (pM 50) <|
 aXZ
noncomputable def f41_r12 (c : CallF) : RF := rg [0, 1, 7, 9, 10, 11] <| aX 51 (pM 0) <|
 aX 11 (pM 51) <|
 aXZ
noncomputable def f41_r13 (c : CallF) : RF := rg [0, 1, 7, 9, 10, 11, 12] <| aX 12 (pM (cn (.int .i64 0))) <|
 aXZ
noncomputable def f41_r14 (c : CallF) : RF := rg [0, 1, 7, 9, 10, 11, 12, 55] <| aX 52 (pM 12) <|
 aX 53 (pM 1) <|
 aX 54 (pLen 24 53) <|
 aX 55 (pB .lss 3 52 54) <|
 aXZ
noncomputable def f41_r15 (c : CallF) : RF := rg [0, 1, 7, 9, 10, 11, 12] <| aX 56 (pM 12) <|
 aX 57 (pB .add 3 56 (cn (.int .i64 1))) <|
 aX 12 (pM 57) <|
 aXZ
noncomputable def f41_r16 (c : CallF) : RF := rg [0, 1, 7, 9, 10, 11, 12] <| aX 58 (pM 9) <|
 aX 59 (pM 0) <|
 aX 60 (pM 1) <|
 aX 61 (pM 12) <|
 aX 62 (pI 1 60 61) <|
 aX 63 (pL false 1 62) <|
 aX 64 (pB .mul 2 59 63) <|
 aX 65 (pM 7) <|
 aX 66 (pB .quo 2 64 65) <|
 aX 67 (fun n e M => keep (aLitI 2 1 [(eget e 66)] M)) <|
 aX 68 (fun n e M => aAppO n 2 1 8 (eget e 58) (eget e 67) M) <|
 aX 9 (pM 68) <|
 aXZ
noncomputable def f41_r17 (c : CallF) : RF := rg [0, 1, 7, 9, 10, 11, 12] <| aX 69 (pM 10) <|
 aX 70 (pM 0) <|
 aX 71 (pM 1) <|
 aX 72 (pM 12) <|
 aX 73 (pI 1 71 72) <|
 aX 74 (pL false 1 73) <|
 aX 75 (pB .mul 2 70 74) <|
 aX 76 (pM 7) <|
 aX 77 (pB .rem 2 75 76) <|
 aX 78 (fun n e M => keep (aLitI 2 1 [(eget e 77)] M)) <|
 aX 79 (fun n e M => aAppO n 2 1 8 (eget e 69) (eget e 78) M) <|
 aX 10 (pM 79) <|
 aXZ
noncomputable def f41_r18 (c : CallF) : RF := rg [0, 1, 7, 9, 10, 11, 12] <| aX 80 (pM 11) <|
 aX 81 (pM 9) <|
 aX 82 (pM 12) <|
 aX 83 (pI 1 81 82) <|
 aX 84 (pL false 1 83) <|
 aX 85 (pB .sub 2 80 84) <|
 aX 11 (pM 85) <|
 aXZ
noncomputable def f41_r19 (c : CallF) : RF := rg [9, 10, 11, 87] <| aX 86 (pM 11) <|
 aX 87 (pB .gtr 2 86 (cn (.int .i64 0))) <|
 aXZ
noncomputable def f41_r20 (c : CallF) : RF := rg [9, 10, 11, 13] <| aX 13 (pM (cn (.int .i64 0))) <|
 aXZ
noncomputable def f41_r21 (c : CallF) : RF := rg [9, 10, 11, 13, 14] <| aX 14 (pM (cn (.int .i64 1))) <|
 aXZ
noncomputable def f41_r22 (c : CallF) : RF := rg [9, 10, 11, 13, 14, 91] <| aX 88 (pM 14) <|
 aX 89 (pM 10) <|
 aX 90 (pLen 24 89) <|
 aX 91 (pB .lss 3 88 90) <|
 aXZ
noncomputable def f41_r23 (c : CallF) : RF := rg [9, 10, 11, 13, 14] <| aX 92 (pM 14) <|
 aX 93 (pB .add 3 92 (cn (.int .i64 1))) <|
 aX 14 (pM 93) <|
 aXZ
noncomputable def f41_r24 (c : CallF) : RF := rgD [9, 10, 11, 13, 14, 102] (aY 94 (pM 10) <|
 aY 95 (pM 14) <|
 aY 96 (pI 1 94 95) <|
 aY 97 (pL false 1 96) <|
 aY 98 (pM 10) <|
 aY 99 (pM 13) <|
 aY 100 (pI 1 98 99) <|
 aY 101 (pL false 1 100) <|
 aY 102 (pB .gtr 2 97 101) <|
 aYZ)
 (aXZ)
noncomputable def f41_r25 (c : CallF) : RF := rg [9, 10, 11, 13, 14] <| aX 103 (pM 14) <|
 aX 13 (pM 103) <|
 aXZ
noncomputable def f41_r26 (c : CallF) : RF := rg [9, 10, 11, 13] <| aX 104 (pM 9) <|
 aX 105 (pM 13) <|
 aX 106 (pI 1 104 105) <|
 aX 107 (pL false 1 106) <|
 aX 108 (pB .add 2 107 (cn (.int .i64 1))) <|
 aX 109 (pI 1 104 105) <|
 aX0 (pS 1 109 108) <|
 aXZ
noncomputable def f41_r27 (c : CallF) : RF := rg [9, 10, 11] <| aX 110 (pM 10) <|
 aX 111 (pM 13) <|
 aX 112 (pI 1 110 111) <|
 aX0 (pS 1 112 (cn (.int .i64 (-1)))) <|
 aXZ
noncomputable def f41_r28 (c : CallF) : RF := rg [9, 10, 11] <| aX 113 (pM 11) <|
 aX 114 (pB .sub 2 113 (cn (.int .i64 1))) <|
 aX 11 (pM 114) <|
 aXZ
noncomputable def f41_r29 (c : CallF) : RF := rg [4, 5] <| aX 115 (pM 9) <|
 aX 4 (pM 115) <|
 aX 5 (pM (cn (.int .i64 0))) <|
 aXZ
noncomputable def f41_l4 (c : CallF) (k : Nat) : St :=
 (bSeq (bSeq (bReg (f41_r4 c))
 (bCond (.tmp 28) (bEx .nrm) (bEx (.ext 0))))
 (bSeq (bBlock 1 (bSeq (bReg (f41_r6 c))
 (bReg (f41_r7 c))))
 (bReg (f41_r5 c))))
noncomputable def f41_l14 (c : CallF) (k : Nat) : St :=
 (bSeq (bSeq (bReg (f41_r14 c))
 (bCond (.tmp 55) (bEx .nrm) (bEx (.ext 2))))
 (bSeq (bBlock 3 (bSeq (bReg (f41_r16 c))
 (bSeq (bReg (f41_r17 c))
 (bReg (f41_r18 c)))))
 (bReg (f41_r15 c))))
noncomputable def f41_l22 (c : CallF) (k : Nat) : St :=
 (bSeq (bSeq (bReg (f41_r22 c))
 (bCond (.tmp 91) (bEx .nrm) (bEx (.ext 6))))
 (bSeq (bBlock 7 (bSeq (bReg (f41_r24 c))
 (bCond (.tmp 102) (bReg (f41_r25 c)) (bEx .nrm))))
 (bReg (f41_r23 c))))
noncomputable def f41_l19 (c : CallF) (k : Nat) : St :=
 (bSeq (bSeq (bReg (f41_r19 c))
 (bCond (.tmp 87) (bEx .nrm) (bEx (.ext 4))))
 (bBlock 5 (bSeq (bReg (f41_r20 c))
 (bSeq (bSeq (bReg (f41_r21 c))
 (bBlock 6 (bLoop [9, 10, 11, 13, 14] (f41_l22 c k) k)))
 (bSeq (bReg (f41_r26 c))
 (bSeq (bReg (f41_r27 c))
 (bReg (f41_r28 c))))))))
noncomputable def f41 (c : CallF) (k : Nat) : St :=
 (bSeq (bReg (f41_r0 c))
 (bSeq (bReg (f41_r1 c))
 (bSeq (bReg (f41_r2 c))
 (bSeq (bSeq (bReg (f41_r3 c))
 (bBlock 0 (bLoop [0, 1, 6, 7, 8] (f41_l4 c k) k)))
 (bSeq (bSeq (bReg (f41_r8 c))
 (bCond (.tmp 47) (bSeq (bReg (f41_r9 c))
 (bEx .ret)) (bEx .nrm)))
 (bSeq (bReg (f41_r10 c))
 (bSeq (bReg (f41_r11 c))
 (bSeq (bReg (f41_r12 c))
 (bSeq (bSeq (bReg (f41_r13 c))
 (bBlock 2 (bLoop [0, 1, 7, 9, 10, 11, 12] (f41_l14 c k) k)))
 (bSeq (bBlock 4 (bLoop [9, 10, 11] (f41_l19 c k) k))
 (bSeq (bReg (f41_r29 c))
 (bEx .ret))))))))))))
theorem f41_eq (c : CallF) (k : Nat) : exec cx c 116 f41_an k (Try.f41.body.getD .skip) = f41 c k := by kernel_rfl
def f42_an : Ann := ⟨[(0, r0 [0, 1]), (1, r0 [4])], []⟩
noncomputable def f42_r0 (c : CallF) : RF := rg [0, 1] <| aX 4 (pM (cn (.bool false))) <|
 aXZ
noncomputable def f42_r1 (c : CallF) : RF := rg [4] <| aX 5 (pM 0) <|
 aX 6 (pM 1) <|
 aX 7 (pK c false 60 [5, 6]) <|
 aX 4 (pM 7) <|
 aXZ
noncomputable def f42 (c : CallF) (k : Nat) : St :=
 (bSeq (bReg (f42_r0 c))
 (bSeq (bReg (f42_r1 c))
 (bEx .ret)))
theorem f42_eq (c : CallF) (k : Nat) : exec cx c 8 f42_an k (Try.f42.body.getD .skip) = f42 c k := by kernel_rfl
def f43_an : Ann := ⟨[(0, r0 [0, 2]), (1, r0 [2])], []⟩
noncomputable def f43_r0 (c : CallF) : RF := rg [0, 2] <| aX 2 (pAl 73 20) <|
 aXZ
noncomputable def f43_r1 (c : CallF) : RF := rg [2] <| aX 3 (pM 0) <|
 aX 4 (pK c false 51 [3]) <|
 aX 5 (pK c false 91 [4]) <|
 aX0 (pS 20 2 5) <|
 aXZ
noncomputable def f43 (c : CallF) (k : Nat) : St :=
 (bSeq (bReg (f43_r0 c))
 (bSeq (bReg (f43_r1 c))
 (bEx .ret)))
theorem f43_eq (c : CallF) (k : Nat) : exec cx c 6 f43_an k (Try.f43.body.getD .skip) = f43 c k := by kernel_rfl
def f44_an : Ann := ⟨[(0, r0 [1]), (1, r0 [1, 5]), (2, r0 [2, 3]), (3, r0 [2, 3])], []⟩
noncomputable def f44_r0 (c : CallF) : RF := rg [1] <| aX 1 (pBox 18 0) <|
 aX 2 (pM (cn (.int .i64 0))) <|
 aX 3 (pM (cn (.int .i64 0))) <|
 aXZ
noncomputable def f44_r1 (c : CallF) : RF := rg [1, 5] <| aX 4 (pK c false 92 [1]) <|
 aX 5 (pU .not 4) <|
 aXZ
noncomputable def f44_r2 (c : CallF) : RF := rg [2, 3] <| aX 2 (pM (cn (.int .i64 0))) <|
 aX 3 (pM (cn (.int .i64 1))) <|
 aXZ
noncomputable def f44_r3 (c : CallF) : RF := rg [2, 3] <| aX 6 (pF 1 1 1) <|
 aX 7 (pL false 1 6) <|
 aX 8 (pK c false 93 [7]) <|
 aX 2 (pM 8) <|
 aX 3 (pM (cn (.int .i64 0))) <|
 aXZ
noncomputable def f44 (c : CallF) (k : Nat) : St :=
 (bSeq (bReg (f44_r0 c))
 (bSeq (bSeq (bReg (f44_r1 c))
 (bCond (.tmp 5) (bSeq (bReg (f44_r2 c))
 (bEx .ret)) (bEx .nrm)))
 (bSeq (bReg (f44_r3 c))
 (bEx .ret))))
theorem f44_eq (c : CallF) (k : Nat) : exec cx c 9 f44_an k (Try.f44.body.getD .skip) = f44 c k := by kernel_rfl
def f45_an : Ann := ⟨[(0, r0 [1, 2, 3]), (1, r0 [1, 2, 3, 24]), (2, r0 [6, 7, 8, 9]), (3, r0 [1, 2, 3, 32]), (4, r0 [6, 7, 8, 9]), (5, r0 [1, 2, 3, 10]), (6, r0 [1, 2, 3, 10, 33, 34, 35]), (7, r0 [1, 2, 3, 10, 33, 34, 35, 36]), (8, r0 [1, 2, 3, 10, 12, 33, 34, 35]), (9, r0 [1, 2, 3, 10, 12, 33, 34, 35, 41]), (10, r0 [6, 7, 8, 9]), (11, r0 [1, 2, 3, 10, 33, 34, 35]), (12, r0 [1, 2, 3, 10, 33, 34, 35]), (13, r0 [1, 2, 50]), (14, r0 [6, 7, 8, 9]), (15, ⟨[0, 1], [], [], [], [1, 2, 13, 14], none, []⟩), (16, r0 [2, 13, 14, 53, 54, 55]), (17, r0 [2, 13, 14, 53, 54, 55, 56]), (18, r0 [2, 13, 14, 16, 53, 54, 55]), (19, r0 [13, 14, 16, 17, 18, 53, 54, 55]), (20, r0 [2, 13, 14, 16, 17, 53, 54, 55]), (21, r0 [2, 13, 14, 19, 20, 21, 53, 54, 55]), (22, r0 [2, 13, 14, 19, 20, 21, 53, 54, 55, 73]), (23, r0 [6, 7, 8, 9]), (24, ⟨[3], [], [], [], [2, 13, 14, 20, 53, 54, 55], none, []⟩), (25, ⟨[3], [], [], [], [2, 13, 14, 53, 54, 55], none, []⟩), (26, r0 [2, 13, 14, 53, 54, 55]), (27, r0 [6, 7, 8, 9])], [(7, [1, 2, 3, 10, 33, 34, 35]), (17, [2, 13, 14, 53, 54, 55])]⟩
noncomputable def f45_r0 (c : CallF) : RF := rg [1, 2, 3] <| aX 3 (pBox 20 0) <|
 aX 6 (pM (cn .nils)) <|
 aX 7 (pM (cn .nils)) <|
 aX 8 (pM (cn (.int .u32 0))) <|
 aX 9 (pM (cn (.int .i64 0))) <|
 aXZ
noncomputable def f45_r1 (c : CallF) : RF := rg [1, 2, 3, 24] <| aX 22 (pL true 20 3) <|
 aX 23 (pK c false 94 [22]) <|
 aX 24 (pU .not 23) <|
 aXZ
noncomputable def f45_r2 (c : CallF) : RF := rg [6, 7, 8, 9] <| aX 6 (pM (cn .nils)) <|
 aX 7 (pM (cn .nils)) <|
 aX 8 (pM (cn (.int .u32 0))) <|
 aX 9 (pM (cn (.int .i64 1))) <|
 aXZ
noncomputable def f45_r3 (c : CallF) : RF := rg [1, 2, 3, 32] <| aX 25 (pM 1) <|
 aX 26 (pLen 24 25) <|
 aX 27 (pB .lss 3 26 (cn (.int .i64 1))) <|
 aX 28 (pM 27) <|
 aX 29 (pG 28 false (pM 1)) <|
 aX 30 (pG 28 false (pLen 24 29)) <|
 aX 31 (pG 28 false (pB .gtr 3 30 (cn (.int .i64 20)))) <|
 aX 32 (pP 28 (cn (.bool true)) 31) <|
 aXZ
noncomputable def f45_r4 (c : CallF) : RF := rg [6, 7, 8, 9] <| aX 6 (pM (cn .nils)) <|
 aX 7 (pM (cn .nils)) <|
 aX 8 (pM (cn (.int .u32 0))) <|
 aX 9 (pM (cn (.int .i64 2))) <|
 aXZ
noncomputable def f45_r5 (c : CallF) : RF := rg [1, 2, 3, 10] <| aX 10 (pM (cn (.int .i64 0))) <|
 aXZ
noncomputable def f45_r6 (c : CallF) : RF := rg [1, 2, 3, 10, 33, 34, 35] <| aX 33 (pM 1) <|
 aX 34 (pLen 24 33) <|
 aX 35 (pM (cn (.int .i64 0))) <|
 aXZ
noncomputable def f45_r7 (c : CallF) : RF := rg [1, 2, 3, 10, 33, 34, 35, 36] <| aX 36 (pB .lss 3 35 34) <|
 aXZ
noncomputable def f45_r8 (c : CallF) : RF := rg [1, 2, 3, 10, 12, 33, 34, 35] <| aX 37 (pI 1 33 35) <|
 aX 38 (pL false 1 37) <|
 aX 12 (pM 38) <|
 aXZ
noncomputable def f45_r9 (c : CallF) : RF := rg [1, 2, 3, 10, 12, 33, 34, 35, 41] <| aX 39 (pM 12) <|
 aX 40 (pK c false 74 [39]) <|
 aX 41 (pU .not 40) <|
 aXZ
noncomputable def f45_r10 (c : CallF) : RF := rg [6, 7, 8, 9] <| aX 6 (pM (cn .nils)) <|
 aX 7 (pM (cn .nils)) <|
 aX 8 (pM (cn (.int .u32 0))) <|
 aX 9 (pM (cn (.int .i64 2))) <|
 aXZ
noncomputable def f45_r11 (c : CallF) : RF := rg [1, 2, 3, 10, 33, 34, 35] <| aX 42 (pM 10) <|
 aX 43 (pM 12) <|
 aX 44 (pB .add 2 42 43) <|
 aX 10 (pM 44) <|
 aXZ
noncomputable def f45_r12 (c : CallF) : RF := rg [1, 2, 3, 10, 33, 34, 35] <| aX 45 (pB .add 3 35 (cn (.int .i64 1))) <|
 aX 35 (pM 45) <|
 aXZ
noncomputable def f45_r13 (c : CallF) : RF := rg [1, 2, 50] <| aX 46 (pM 10) <|
 aX 47 (pF 1 18 3) <|
 aX 48 (pL true 18 47) <|
 aX 49 (pK c false 95 [48]) <|
 aX 50 (pB .neq 2 46 49) <|
 aXZ
noncomputable def f45_r14 (c : CallF) : RF := rg [6, 7, 8, 9] <| aX 6 (pM (cn .nils)) <|
 aX 7 (pM (cn .nils)) <|
 aX 8 (pM (cn (.int .u32 0))) <|
 aX 9 (pM (cn (.int .i64 4))) <|
 aXZ
noncomputable def f45_r15 (c : CallF) : RF := rg [1, 2, 13, 14] <| aX 51 (fun n e M => aLitO false n 70 18 [] M) <|
 aX 52 (fun n e M => aLitO false n 70 18 [] M) <|
 aX 13 (pM 51) <|
 aX 14 (pM 52) <|
 aXZ
noncomputable def f45_r16 (c : CallF) : RF := rg [2, 13, 14, 53, 54, 55] <| aX 53 (pM 1) <|
 aX 54 (pLen 24 53) <|
 aX 55 (pM (cn (.int .i64 0))) <|
 aXZ
noncomputable def f45_r17 (c : CallF) : RF := rg [2, 13, 14, 53, 54, 55, 56] <| aX 56 (pB .lss 3 55 54) <|
 aXZ
noncomputable def f45_r18 (c : CallF) : RF := rg [2, 13, 14, 16, 53, 54, 55] <| aX 57 (pI 1 53 55) <|
 aX 58 (pL false 1 57) <|
 aX 16 (pM 58) <|
 aXZ
noncomputable def f45_r19 (c : CallF) : RF := rg [13, 14, 16, 17, 18, 53, 54, 55] <| aX 60 (pM 2) <|
 aX 61 (pK c false 96 [60]) <|
 aX 59 (pM 61) <|
 aX 62 (pE 0 59) <|
 aX 63 (pE 1 59) <|
 aX 17 (pAl 68 16) <|
 aX0 (pS 16 17 62) <|
 aX 18 (pM 63) <|
 aXZ
noncomputable def f45_r20 (c : CallF) : RF := rg [2, 13, 14, 16, 17, 53, 54, 55] <| aX 64 (pM 18) <|
 aX 2 (pM 64) <|
 aXZ
noncomputable def f45_r21 (c : CallF) : RF := rg [2, 13, 14, 19, 20, 21, 53, 54, 55] <| aX 66 (pM 16) <|
 aX 67 (pL true 16 17) <|
 aX 68 (pK c false 97 [66, 67]) <|
 aX 65 (pM 68) <|
 aX 69 (pE 0 65) <|
 aX 70 (pE 1 65) <|
 aX 71 (pE 2 65) <|
 aX 19 (pAl 70 18) <|
 aX 20 (pAl 70 18) <|
 aX0 (pS 18 19 69) <|
 aX0 (pS 18 20 70) <|
 aX 21 (pM 71) <|
 aXZ
noncomputable def f45_r22 (c : CallF) : RF := rg [2, 13, 14, 19, 20, 21, 53, 54, 55, 73] <| aX 72 (pM 21) <|
 aX 73 (pB .neq 2 72 (cn (.int .i64 0))) <|
 aXZ
noncomputable def f45_r23 (c : CallF) : RF := rg [6, 7, 8, 9] <| aX 74 (pM 21) <|
 aX 6 (pM (cn .nils)) <|
 aX 7 (pM (cn .nils)) <|
 aX 8 (pM (cn (.int .u32 0))) <|
 aX 9 (pM 74) <|
 aXZ
noncomputable def f45_r24 (c : CallF) : RF := rg [2, 13, 14, 20, 53, 54, 55] <| aX 75 (pM 13) <|
 aX 76 (pL true 18 19) <|
 aX 77 (fun n e M => keep (aLitI 70 18 [(eget e 76)] M)) <|
 aX 78 (fun n e M => aAppO n 70 18 48 (eget e 75) (eget e 77) M) <|
 aX 13 (pM 78) <|
 aXZ
noncomputable def f45_r25 (c : CallF) : RF := rg [2, 13, 14, 53, 54, 55] <| aX 79 (pM 14) <|
 aX 80 (pL true 18 20) <|
 aX 81 (fun n e M => keep (aLitI 70 18 [(eget e 80)] M)) <|
 aX 82 (fun n e M => aAppO n 70 18 48 (eget e 79) (eget e 81) M) <|
 aX 14 (pM 82) <|
 aXZ
noncomputable def f45_r26 (c : CallF) : RF := rg [2, 13, 14, 53, 54, 55] <| aX 83 (pB .add 3 55 (cn (.int .i64 1))) <|
 aX 55 (pM 83) <|
 aXZ
noncomputable def f45_r27 (c : CallF) : RF := rg [6, 7, 8, 9] <| aX 84 (pM 13) <|
 aX 85 (pM 14) <|
 aX 86 (pM 2) <|
 aX 6 (pM 84) <|
 aX 7 (pM 85) <|
 aX 8 (pM 86) <|
 aX 9 (pM (cn (.int .i64 0))) <|
 aXZ
noncomputable def f45_l7 (c : CallF) (k : Nat) : St :=
 (bSeq (bReg (f45_r7 c))
 (bSeq (bCond (.tmp 36) (bEx .nrm) (bEx (.ext 0)))
 (bSeq (bBlock 1 (bSeq (bReg (f45_r8 c))
 (bSeq (bSeq (bReg (f45_r9 c))
 (bCond (.tmp 41) (bSeq (bReg (f45_r10 c))
 (bEx .ret)) (bEx .nrm)))
 (bReg (f45_r11 c)))))
 (bReg (f45_r12 c)))))
noncomputable def f45_l17 (c : CallF) (k : Nat) : St :=
 (bSeq (bReg (f45_r17 c))
 (bSeq (bCond (.tmp 56) (bEx .nrm) (bEx (.ext 2)))
 (bSeq (bBlock 3 (bSeq (bReg (f45_r18 c))
 (bSeq (bReg (f45_r19 c))
 (bSeq (bReg (f45_r20 c))
 (bSeq (bReg (f45_r21 c))
 (bSeq (bSeq (bReg (f45_r22 c))
 (bCond (.tmp 73) (bSeq (bReg (f45_r23 c))
 (bEx .ret)) (bEx .nrm)))
 (bSeq (bReg (f45_r24 c))
 (bReg (f45_r25 c)))))))))
 (bReg (f45_r26 c)))))
noncomputable def f45 (c : CallF) (k : Nat) : St :=
 (bSeq (bReg (f45_r0 c))
 (bSeq (bSeq (bReg (f45_r1 c))
 (bCond (.tmp 24) (bSeq (bReg (f45_r2 c))
 (bEx .ret)) (bEx .nrm)))
 (bSeq (bSeq (bReg (f45_r3 c))
 (bCond (.tmp 32) (bSeq (bReg (f45_r4 c))
 (bEx .ret)) (bEx .nrm)))
 (bSeq (bReg (f45_r5 c))
 (bSeq (bSeq (bReg (f45_r6 c))
 (bBlock 0 (bLoop [1, 2, 3, 10, 33, 34, 35] (f45_l7 c k) k)))
 (bSeq (bSeq (bReg (f45_r13 c))
 (bCond (.tmp 50) (bSeq (bReg (f45_r14 c))
 (bEx .ret)) (bEx .nrm)))
 (bSeq (bReg (f45_r15 c))
 (bSeq (bSeq (bReg (f45_r16 c))
 (bBlock 2 (bLoop [2, 13, 14, 53, 54, 55] (f45_l17 c k) k)))
 (bSeq (bReg (f45_r27 c))
 (bEx .ret))))))))))
theorem f45_eq (c : CallF) (k : Nat) : exec cx c 87 f45_an k (Try.f45.body.getD .skip) = f45 c k := by kernel_rfl
def f46_an : Ann := ⟨[(0, r0 [1, 2, 3]), (1, r0 [1, 2, 3, 22]), (2, r0 [6, 7, 8, 9]), (3, r0 [1, 2, 3, 10]), (4, r0 [1, 2, 3, 10, 11]), (5, r0 [1, 2, 3, 10, 11, 12]), (6, r0 [1, 2, 3, 10, 11, 12, 34]), (7, r0 [1, 2, 3, 10, 11, 12]), (8, r0 [1, 2, 3, 10, 11, 12]), (9, r0 [1, 2, 3, 10, 11, 12]), (10, r0 [1, 2, 3, 11, 49]), (11, r0 [6, 7, 8, 9]), (12, r0 [1, 2, 57]), (13, r0 [6, 7, 8, 9]), (14, ⟨[0], [], [], [], [1, 2, 13], none, []⟩), (15, ⟨[0], [], [], [], [1, 2, 13, 14], none, []⟩), (16, r0 [1, 2, 13, 14, 15]), (17, r0 [1, 2, 13, 14, 15, 65]), (18, r0 [1, 2, 13, 14, 15]), (19, r0 [1, 13, 14, 15, 16, 17]), (20, r0 [1, 2, 13, 14, 15, 16]), (21, ⟨[], [], [8, 9], [12, 13, 14], [1, 2, 13, 14, 15, 18, 19, 20], none, []⟩), (22, r0 [1, 2, 13, 14, 15, 18, 19, 20, 85]), (23, r0 [6, 7, 8, 9]), (24, ⟨[3], [], [], [], [1, 2, 13, 14, 15, 19], none, []⟩), (25, ⟨[3], [], [], [], [1, 2, 13, 14, 15], none, []⟩), (26, r0 [6, 7, 8, 9])], [(6, [1, 2, 3, 10, 11, 12]), (17, [1, 2, 13, 14, 15])]⟩
noncomputable def f46_r0 (c : CallF) : RF := rg [1, 2, 3] <| aX 3 (pBox 20 0) <|
 aX 6 (pM (cn .nils)) <|
 aX 7 (pM (cn .nils)) <|
 aX 8 (pM (cn (.int .u32 0))) <|
 aX 9 (pM (cn (.int .i64 0))) <|
 aXZ
noncomputable def f46_r1 (c : CallF) : RF := rg [1, 2, 3, 22] <| aX 21 (pK c false 98 [3]) <|
 aX 22 (pU .not 21) <|
 aXZ
noncomputable def f46_r2 (c : CallF) : RF := rg [6, 7, 8, 9] <| aX 23 (fun n e M => keep (aLitI 70 18 [] M)) <|
 aX 24 (fun n e M => keep (aLitI 70 18 [] M)) <|
 aX 6 (pM 23) <|
 aX 7 (pM 24) <|
 aX 8 (pM (cn (.int .u32 0))) <|
 aX 9 (pM (cn (.int .i64 1))) <|
 aXZ
noncomputable def f46_r3 (c : CallF) : RF := rg [1, 2, 3, 10] <| aX 25 (pM 1) <|
 aX 26 (pLen 24 25) <|
 aX 27 (pK c false 90 [26, (cn (.int .i64 1)), (cn (.int .i64 20))]) <|
 aX 10 (pM 27) <|
 aXZ
noncomputable def f46_r4 (c : CallF) : RF := rg [1, 2, 3, 10, 11] <| aX 11 (pM (cn (.int .i64 0))) <|
 aXZ
noncomputable def f46_r5 (c : CallF) : RF := rg [1, 2, 3, 10, 11, 12] <| aX 12 (pM (cn (.int .i64 0))) <|
 aXZ
noncomputable def f46_r6 (c : CallF) : RF := rg [1, 2, 3, 10, 11, 12, 34] <| aX 28 (pM 12) <|
 aX 29 (pM 1) <|
 aX 30 (pLen 24 29) <|
 aX 31 (pB .lss 3 28 30) <|
 aX 32 (pM 31) <|
 aX 33 (pG 32 true (pM 10)) <|
 aX 34 (pP 32 33 (cn (.bool false))) <|
 aXZ
noncomputable def f46_r7 (c : CallF) : RF := rg [1, 2, 3, 10, 11, 12] <| aX 35 (pM 12) <|
 aX 36 (pB .add 3 35 (cn (.int .i64 1))) <|
 aX 12 (pM 36) <|
 aXZ
noncomputable def f46_r8 (c : CallF) : RF := rg [1, 2, 3, 10, 11, 12] <| aX 37 (pM 1) <|
 aX 38 (pM 12) <|
 aX 39 (pI 1 37 38) <|
 aX 40 (pL false 1 39) <|
 aX 41 (pK c false 89 [40]) <|
 aX 10 (pM 41) <|
 aXZ
noncomputable def f46_r9 (c : CallF) : RF := rg [1, 2, 3, 10, 11, 12] <| aX 42 (pM 11) <|
 aX 43 (pM 1) <|
 aX 44 (pM 12) <|
 aX 45 (pI 1 43 44) <|
 aX 46 (pL false 1 45) <|
 aX 47 (pB .add 2 42 46) <|
 aX 11 (pM 47) <|
 aXZ
noncomputable def f46_r10 (c : CallF) : RF := rg [1, 2, 3, 11, 49] <| aX 48 (pM 10) <|
 aX 49 (pU .not 48) <|
 aXZ
noncomputable def f46_r11 (c : CallF) : RF := rg [6, 7, 8, 9] <| aX 50 (fun n e M => keep (aLitI 70 18 [] M)) <|
 aX 51 (fun n e M => keep (aLitI 70 18 [] M)) <|
 aX 6 (pM 50) <|
 aX 7 (pM 51) <|
 aX 8 (pM (cn (.int .u32 0))) <|
 aX 9 (pM (cn (.int .i64 2))) <|
 aXZ
noncomputable def f46_r12 (c : CallF) : RF := rg [1, 2, 57] <| aX 52 (pM 11) <|
 aX 53 (pF 1 18 3) <|
 aX 54 (pF 1 1 53) <|
 aX 55 (pL false 1 54) <|
 aX 56 (pK c false 93 [55]) <|
 aX 57 (pB .neq 2 52 56) <|
 aXZ
noncomputable def f46_r13 (c : CallF) : RF := rg [6, 7, 8, 9] <| aX 58 (fun n e M => keep (aLitI 70 18 [] M)) <|
 aX 59 (fun n e M => keep (aLitI 70 18 [] M)) <|
 aX 6 (pM 58) <|
 aX 7 (pM 59) <|
 aX 8 (pM (cn (.int .u32 0))) <|
 aX 9 (pM (cn (.int .i64 4))) <|
 aXZ
noncomputable def f46_r14 (c : CallF) : RF := rg [1, 2, 13] <| aX 60 (fun n e M => aLitO false n 70 18 [] M) <|
 aX 13 (pM 60) <|
 aXZ
noncomputable def f46_r15 (c : CallF) : RF := rg [1, 2, 13, 14] <| aX 61 (fun n e M => aLitO false n 70 18 [] M) <|
 aX 14 (pM 61) <|
 aXZ
noncomputable def f46_r16 (c : CallF) : RF := rg [1, 2, 13, 14, 15] <| aX 15 (pM (cn (.int .i64 0))) <|
 aXZ
noncomputable def f46_r17 (c : CallF) : RF := rg [1, 2, 13, 14, 15, 65] <| aX 62 (pM 15) <|
 aX 63 (pM 1) <|
 aX 64 (pLen 24 63) <|
 aX 65 (pB .lss 3 62 64) <|
 aXZ
noncomputable def f46_r18 (c : CallF) : RF := rg [1, 2, 13, 14, 15] <| aX 66 (pM 15) <|
 aX 67 (pB .add 3 66 (cn (.int .i64 1))) <|
 aX 15 (pM 67) <|
 aXZ
noncomputable def f46_r19 (c : CallF) : RF := rg [1, 13, 14, 15, 16, 17] <| aX 69 (pM 2) <|
 aX 70 (pK c false 99 [69]) <|
 aX 68 (pM 70) <|
 aX 71 (pE 0 68) <|
 aX 72 (pE 1 68) <|
 aX 16 (pAl 68 16) <|
 aX0 (pS 16 16 71) <|
 aX 17 (pM 72) <|
 aXZ
noncomputable def f46_r20 (c : CallF) : RF := rg [1, 2, 13, 14, 15, 16] <| aX 73 (pM 17) <|
 aX 2 (pM 73) <|
 aXZ
noncomputable def f46_r21 (c : CallF) : RF := rgD [1, 2, 13, 14, 15, 18, 19, 20] (aY 75 (pM 1) <|
 aY 76 (pM 15) <|
 aY 77 (pI 1 75 76) <|
 aY 78 (pL false 1 77) <|
 aY 79 (pL true 16 16) <|
 aY 80 (pK c false 100 [78, 79]) <|
 aY 74 (pM 80) <|
 aY 81 (pE 0 74) <|
 aYc 82 (pE 1 74) <|
 aYc 83 (pE 2 74) <|
 aY 18 (pAl 70 18) <|
 aY 19 (pAl 70 18) <|
 aYZ)
 (aX0 (pS 18 18 81) <|
 aX0 (pS 18 19 82) <|
 aX 20 (pM 83) <|
 aXZ)
noncomputable def f46_r22 (c : CallF) : RF := rg [1, 2, 13, 14, 15, 18, 19, 20, 85] <| aX 84 (pM 20) <|
 aX 85 (pB .neq 2 84 (cn (.int .i64 0))) <|
 aXZ
noncomputable def f46_r23 (c : CallF) : RF := rg [6, 7, 8, 9] <| aX 86 (fun n e M => keep (aLitI 70 18 [] M)) <|
 aX 87 (fun n e M => keep (aLitI 70 18 [] M)) <|
 aX 88 (pM 20) <|
 aX 6 (pM 86) <|
 aX 7 (pM 87) <|
 aX 8 (pM (cn (.int .u32 0))) <|
 aX 9 (pM 88) <|
 aXZ
noncomputable def f46_r24 (c : CallF) : RF := rg [1, 2, 13, 14, 15, 19] <| aX 89 (pM 13) <|
 aX 90 (pL true 18 18) <|
 aX 91 (fun n e M => keep (aLitI 70 18 [(eget e 90)] M)) <|
 aX 92 (fun n e M => aAppO n 70 18 48 (eget e 89) (eget e 91) M) <|
 aX 13 (pM 92) <|
 aXZ
noncomputable def f46_r25 (c : CallF) : RF := rg [1, 2, 13, 14, 15] <| aX 93 (pM 14) <|
 aX 94 (pL true 18 19) <|
 aX 95 (fun n e M => keep (aLitI 70 18 [(eget e 94)] M)) <|
 aX 96 (fun n e M => aAppO n 70 18 48 (eget e 93) (eget e 95) M) <|
 aX 14 (pM 96) <|
 aXZ
noncomputable def f46_r26 (c : CallF) : RF := rg [6, 7, 8, 9] <| aX 97 (pM 13) <|
 aX 98 (pM 14) <|
 aX 99 (pM 2) <|
 aX 6 (pM 97) <|
 aX 7 (pM 98) <|
 aX 8 (pM 99) <|
 aX 9 (pM (cn (.int .i64 0))) <|
 aXZ
noncomputable def f46_l6 (c : CallF) (k : Nat) : St :=
 (bSeq (bSeq (bReg (f46_r6 c))
 (bCond (.tmp 34) (bEx .nrm) (bEx (.ext 0))))
 (bSeq (bBlock 1 (bSeq (bReg (f46_r8 c))
 (bReg (f46_r9 c))))
 (bReg (f46_r7 c))))
noncomputable def f46_l17 (c : CallF) (k : Nat) : St :=
 (bSeq (bSeq (bReg (f46_r17 c))
 (bCond (.tmp 65) (bEx .nrm) (bEx (.ext 2))))
 (bSeq (bBlock 3 (bSeq (bReg (f46_r19 c))
 (bSeq (bReg (f46_r20 c))
 (bSeq (bReg (f46_r21 c))
 (bSeq (bSeq (bReg (f46_r22 c))
 (bCond (.tmp 85) (bSeq (bReg (f46_r23 c))
 (bEx .ret)) (bEx .nrm)))
 (bSeq (bReg (f46_r24 c))
 (bReg (f46_r25 c))))))))
 (bReg (f46_r18 c))))
noncomputable def f46 (c : CallF) (k : Nat) : St :=
 (bSeq (bReg (f46_r0 c))
 (bSeq (bSeq (bReg (f46_r1 c))
 (bCond (.tmp 22) (bSeq (bReg (f46_r2 c))
 (bEx .ret)) (bEx .nrm)))
 (bSeq (bReg (f46_r3 c))
 (bSeq (bReg (f46_r4 c))
 (bSeq (bSeq (bReg (f46_r5 c))
 (bBlock 0 (bLoop [1, 2, 3, 10, 11, 12] (f46_l6 c k) k)))
 (bSeq (bSeq (bReg (f46_r10 c))
 (bCond (.tmp 49) (bSeq (bReg (f46_r11 c))
 (bEx .ret)) (bEx .nrm)))
 (bSeq (bSeq (bReg (f46_r12 c))
 (bCond (.tmp 57) (bSeq (bReg (f46_r13 c))
 (bEx .ret)) (bEx .nrm)))
 (bSeq (bReg (f46_r14 c))
 (bSeq (bReg (f46_r15 c))
 (bSeq (bSeq (bReg (f46_r16 c))
 (bBlock 2 (bLoop [1, 2, 13, 14, 15] (f46_l17 c k) k)))
 (bSeq (bReg (f46_r26 c))
 (bEx .ret))))))))))))
theorem f46_eq (c : CallF) (k : Nat) : exec cx c 100 f46_an k (Try.f46.body.getD .skip) = f46 c k := by kernel_rfl
def f47_an : Ann := ⟨[(0, r0 [2, 3, 4]), (1, r0 [2, 3, 4, 8]), (2, r0 [6, 7]), (3, r0 [2, 3, 4, 17]), (4, r0 [6, 7]), (5, r0 [2, 3, 4, 21]), (6, r0 [6, 7]), (7, r0 [6, 7])], []⟩
noncomputable def f47_r0 (c : CallF) : RF := rg [2, 3, 4] <| aX 3 (pBox 18 0) <|
 aX 4 (pBox 18 1) <|
 aX 6 (pM (cn (.bool false))) <|
 aX 7 (pM (cn (.int .i64 0))) <|
 aXZ
noncomputable def f47_r1 (c : CallF) : RF := rg [2, 3, 4, 8] <| aX 9 (pL true 18 3) <|
 aX 10 (pK c false 101 [9]) <|
 aX 11 (pU .not 10) <|
 aX 12 (pM 11) <|
 aX 13 (pG 12 false (pL true 18 4)) <|
 aX 14 (pG 12 false (pK c false 101 [13])) <|
 aX 15 (pG 12 false (pU .not 14)) <|
 aX 16 (pP 12 (cn (.bool true)) 15) <|
 aX 8 (pM 16) <|
 aXZ
noncomputable def f47_r2 (c : CallF) : RF := rg [6, 7] <| aX 6 (pM (cn (.bool false))) <|
 aX 7 (pM (cn (.int .i64 1))) <|
 aXZ
noncomputable def f47_r3 (c : CallF) : RF := rg [2, 3, 4, 17] <| aX 18 (pM 2) <|
 aX 19 (pK c false 102 [18]) <|
 aX 20 (pU .not 19) <|
 aX 17 (pM 20) <|
 aXZ
noncomputable def f47_r4 (c : CallF) : RF := rg [6, 7] <| aX 6 (pM (cn (.bool false))) <|
 aX 7 (pM (cn (.int .i64 2))) <|
 aXZ
noncomputable def f47_r5 (c : CallF) : RF := rg [2, 3, 4, 21] <| aX 22 (pF 0 1 3) <|
 aX 23 (pL false 1 22) <|
 aX 24 (pU .not 23) <|
 aX 25 (pM 24) <|
 aX 26 (pG 25 false (pF 0 1 4)) <|
 aX 27 (pG 25 false (pL false 1 26)) <|
 aX 28 (pP 25 (cn (.bool true)) 27) <|
 aX 21 (pM 28) <|
 aXZ
noncomputable def f47_r6 (c : CallF) : RF := rg [6, 7] <| aX 6 (pM (cn (.bool false))) <|
 aX 7 (pM (cn (.int .i64 4))) <|
 aXZ
noncomputable def f47_r7 (c : CallF) : RF := rg [6, 7] <| aX 29 (pL true 18 3) <|
 aX 30 (pL true 18 4) <|
 aX 31 (pM 2) <|
 aX 32 (pK c false 103 [29, 30, 31]) <|
 aX 6 (pM 32) <|
 aX 7 (pM (cn (.int .i64 0))) <|
 aXZ
noncomputable def f47 (c : CallF) (k : Nat) : St :=
 (bSeq (bReg (f47_r0 c))
 (bSeq (bBlock 0 (bSeq (bReg (f47_r1 c))
 (bCond (.tmp 8) (bSeq (bReg (f47_r2 c))
 (bEx .ret)) (bSeq (bReg (f47_r3 c))
 (bCond (.tmp 17) (bSeq (bReg (f47_r4 c))
 (bEx .ret)) (bSeq (bReg (f47_r5 c))
 (bCond (.tmp 21) (bSeq (bReg (f47_r6 c))
 (bEx .ret)) (bEx .nrm))))))))
 (bSeq (bReg (f47_r7 c))
 (bEx .ret))))
theorem f47_eq (c : CallF) (k : Nat) : exec cx c 33 f47_an k (Try.f47.body.getD .skip) = f47 c k := by kernel_rfl
def f48_an : Ann := ⟨[(0, r0 [1]), (1, r0 [1, 6]), (2, r0 [2, 3]), (3, r0 [2, 3])], []⟩
noncomputable def f48_r0 (c : CallF) : RF := rg [1] <| aX 1 (pBox 18 0) <|
 aX 2 (pM (cn (.int .i64 0))) <|
 aX 3 (pM (cn (.int .i64 0))) <|
 aXZ
noncomputable def f48_r1 (c : CallF) : RF := rg [1, 6] <| aX 4 (pL true 18 1) <|
 aX 5 (pK c false 101 [4]) <|
 aX 6 (pU .not 5) <|
 aXZ
noncomputable def f48_r2 (c : CallF) : RF := rg [2, 3] <| aX 2 (pM (cn (.int .i64 0))) <|
 aX 3 (pM (cn (.int .i64 1))) <|
 aXZ
noncomputable def f48_r3 (c : CallF) : RF := rg [2, 3] <| aX 7 (pL true 18 1) <|
 aX 8 (pK c false 95 [7]) <|
 aX 2 (pM 8) <|
 aX 3 (pM (cn (.int .i64 0))) <|
 aXZ
noncomputable def f48 (c : CallF) (k : Nat) : St :=
 (bSeq (bReg (f48_r0 c))
 (bSeq (bSeq (bReg (f48_r1 c))
 (bCond (.tmp 6) (bSeq (bReg (f48_r2 c))
 (bEx .ret)) (bEx .nrm)))
 (bSeq (bReg (f48_r3 c))
 (bEx .ret))))
theorem f48_eq (c : CallF) (k : Nat) : exec cx c 9 f48_an k (Try.f48.body.getD .skip) = f48 c k := by kernel_rfl
def f49_an : Ann := ⟨[(0, r0 [2, 3]), (1, r0 [4])], []⟩
noncomputable def f49_r0 (c : CallF) : RF := rg [2, 3] <| aX 2 (pBox 18 0) <|
 aX 3 (pBox 18 1) <|
 aX 4 (pM (cn (.bool false))) <|
 aXZ
noncomputable def f49_r1 (c : CallF) : RF := rg [4] <| aX 5 (pK c false 104 [2, 3]) <|
 aX 4 (pM 5) <|
 aXZ
noncomputable def f49 (c : CallF) (k : Nat) : St :=
 (bSeq (bReg (f49_r0 c))
 (bSeq (bReg (f49_r1 c))
 (bEx .ret)))
theorem f49_eq (c : CallF) (k : Nat) : exec cx c 6 f49_an k (Try.f49.body.getD .skip) = f49 c k := by kernel_rfl
def f51_an : Ann := ⟨[(0, r0 [0]), (1, ⟨[2], [], [], [], [2], none, []⟩)], []⟩
noncomputable def f51_r0 (c : CallF) : RF := rg [0] <| aX 2 (pM (cn .nilp)) <|
 aXZ
noncomputable def f51_r1 (c : CallF) : RF := rg [2] <| aX 3 (pM 0) <|
 aX 4 (fun n e M => keep (aBuild (zeroOf cx.P 142) [(0, 1, (eget e 3))] M)) <|
 aX 5 (fun n e M => aBoxO n 142 3 (eget e 4) M) <|
 aX 2 (pM 5) <|
 aXZ
noncomputable def f51 (c : CallF) (k : Nat) : St :=
 (bSeq (bReg (f51_r0 c))
 (bSeq (bReg (f51_r1 c))
 (bEx .ret)))
theorem f51_eq (c : CallF) (k : Nat) : exec cx c 6 f51_an k (Try.f51.body.getD .skip) = f51 c k := by kernel_rfl
def f60_an : Ann := ⟨[(0, r0 [0, 1]), (1, r0 [0, 1, 10]), (2, r0 [4]), (3, r0 [0, 1, 5]), (4, r0 [0, 1, 5, 14]), (5, r0 [0, 1, 5]), (6, r0 [0, 1, 5, 25]), (7, r0 [4]), (8, r0 [4])], [(4, [0, 1, 5])]⟩
noncomputable def f60_r0 (c : CallF) : RF := rg [0, 1] <| aX 4 (pM (cn (.bool false))) <|
 aXZ
noncomputable def f60_r1 (c : CallF) : RF := rg [0, 1, 10] <| aX 6 (pM 0) <|
 aX 7 (pLen 24 6) <|
 aX 8 (pM 1) <|
 aX 9 (pLen 24 8) <|
 aX 10 (pB .neq 3 7 9) <|
 aXZ
noncomputable def f60_r2 (c : CallF) : RF := rg [4] <| aX 4 (pM (cn (.bool false))) <|
 aXZ
noncomputable def f60_r3 (c : CallF) : RF := rg [0, 1, 5] <| aX 5 (pM (cn (.int .i64 0))) <|
 aXZ
noncomputable def f60_r4 (c : CallF) : RF := rg [0, 1, 5, 14] <| aX 11 (pM 5) <|
 aX 12 (pM 0) <|
 aX 13 (pLen 24 12) <|
 aX 14 (pB .lss 3 11 13) <|
 aXZ
noncomputable def f60_r5 (c : CallF) : RF := rg [0, 1, 5] <| aX 15 (pM 5) <|
 aX 16 (pB .add 3 15 (cn (.int .i64 1))) <|
 aX 5 (pM 16) <|
 aXZ
noncomputable def f60_r6 (c : CallF) : RF := rgD [0, 1, 5, 25] (aY 17 (pM 0) <|
 aY 18 (pM 5) <|
 aY 19 (pI 1 17 18) <|
 aY 20 (pL false 1 19) <|
 aY 21 (pM 1) <|
 aY 22 (pM 5) <|
 aY 23 (pI 1 21 22) <|
 aY 24 (pL false 1 23) <|
 aY 25 (pB .neq 2 20 24) <|
 aYZ)
 (aXZ)
noncomputable def f60_r7 (c : CallF) : RF := rg [4] <| aX 4 (pM (cn (.bool false))) <|
 aXZ
noncomputable def f60_r8 (c : CallF) : RF := rg [4] <| aX 4 (pM (cn (.bool true))) <|
 aXZ
noncomputable def f60_l4 (c : CallF) (k : Nat) : St :=
 (bSeq (bSeq (bReg (f60_r4 c))
 (bCond (.tmp 14) (bEx .nrm) (bEx (.ext 0))))
 (bSeq (bBlock 1 (bSeq (bReg (f60_r6 c))
 (bCond (.tmp 25) (bSeq (bReg (f60_r7 c))
 (bEx .ret)) (bEx .nrm))))
 (bReg (f60_r5 c))))
noncomputable def f60 (c : CallF) (k : Nat) : St :=
 (bSeq (bReg (f60_r0 c))
 (bSeq (bSeq (bReg (f60_r1 c))
 (bCond (.tmp 10) (bSeq (bReg (f60_r2 c))
 (bEx .ret)) (bEx .nrm)))
 (bSeq (bSeq (bReg (f60_r3 c))
 (bBlock 0 (bLoop [0, 1, 5] (f60_l4 c k) k)))
 (bSeq (bReg (f60_r8 c))
 (bEx .ret)))))
theorem f60_eq (c : CallF) (k : Nat) : exec cx c 26 f60_an k (Try.f60.body.getD .skip) = f60 c k := by kernel_rfl
def f74_an : Ann := ⟨[(0, r0 [0]), (1, r0 [2])], []⟩
noncomputable def f74_r0 (c : CallF) : RF := rg [0] <| aX 2 (pM (cn (.bool false))) <|
 aXZ
noncomputable def f74_r1 (c : CallF) : RF := rg [2] <| aX 3 (pM 0) <|
 aX 4 (pB .geq 2 3 (cn (.int .i64 0))) <|
 aX 5 (pM 4) <|
 aX 6 (pG 5 true (pM 0)) <|
 aX 7 (pG 5 true (pB .leq 2 6 (cn (.int .i64 100000000)))) <|
 aX 8 (pP 5 7 (cn (.bool false))) <|
 aX 2 (pM 8) <|
 aXZ
noncomputable def f74 (c : CallF) (k : Nat) : St :=
 (bSeq (bReg (f74_r0 c))
 (bSeq (bReg (f74_r1 c))
 (bEx .ret)))
theorem f74_eq (c : CallF) (k : Nat) : exec cx c 9 f74_an k (Try.f74.body.getD .skip) = f74 c k := by kernel_rfl
def f88_an : Ann := ⟨[(0, r0 [0, 1]), (1, r0 [0, 1, 7]), (2, r0 [4]), (3, r0 [0, 1, 5]), (4, r0 [0, 1, 5, 11]), (5, r0 [1, 5]), (6, r0 [4])], []⟩
noncomputable def f88_r0 (c : CallF) : RF := rg [0, 1] <| aX 4 (pM (cn (.int .i64 0))) <|
 aXZ
noncomputable def f88_r1 (c : CallF) : RF := rg [0, 1, 7] <| aX 6 (pM 1) <|
 aX 7 (pB .leq 2 6 (cn (.int .i64 1))) <|
 aXZ
noncomputable def f88_r2 (c : CallF) : RF := rg [4] <| aX 4 (pM (cn (.int .i64 0))) <|
 aXZ
noncomputable def f88_r3 (c : CallF) : RF := rg [0, 1, 5] <| aX 8 (pM 0) <|
 aX 9 (pK c false 117 [8]) <|
 aX 5 (pM 9) <|
 aXZ
noncomputable def f88_r4 (c : CallF) : RF := rg [0, 1, 5, 11] <| aX 10 (pM 1) <|
 aX 11 (pB .gtr 2 10 (cn (.int .i64 200))) <|
 aXZ
noncomputable def f88_r5 (c : CallF) : RF := rg [1, 5] <| aX 12 (pM 5) <|
 aX 13 (pB .mul 2 12 (cn (.int .i64 256))) <|
 aX 14 (pM 0) <|
 aX 15 (pK c false 117 [14]) <|
 aX 16 (pB .add 2 13 15) <|
 aX 5 (pM 16) <|
 aXZ
noncomputable def f88_r6 (c : CallF) : RF := rg [4] <| aX 17 (pM 5) <|
 aX 18 (pM 1) <|
 aX 19 (pB .rem 2 17 18) <|
 aX 4 (pM 19) <|
 aXZ
noncomputable def f88 (c : CallF) (k : Nat) : St :=
 (bSeq (bReg (f88_r0 c))
 (bSeq (bSeq (bReg (f88_r1 c))
 (bCond (.tmp 7) (bSeq (bReg (f88_r2 c))
 (bEx .ret)) (bEx .nrm)))
 (bSeq (bReg (f88_r3 c))
 (bSeq (bSeq (bReg (f88_r4 c))
 (bCond (.tmp 11) (bReg (f88_r5 c)) (bEx .nrm)))
 (bSeq (bReg (f88_r6 c))
 (bEx .ret))))))
theorem f88_eq (c : CallF) (k : Nat) : exec cx c 20 f88_an k (Try.f88.body.getD .skip) = f88 c k := by kernel_rfl
def f89_an : Ann := ⟨[(0, r0 [0]), (1, r0 [2])], []⟩
noncomputable def f89_r0 (c : CallF) : RF := rg [0] <| aX 2 (pM (cn (.bool false))) <|
 aXZ
noncomputable def f89_r1 (c : CallF) : RF := rg [2] <| aX 3 (pM 0) <|
 aX 4 (pK c false 90 [3, (cn (.int .i64 0)), (cn (.int .i64 100000000))]) <|
 aX 2 (pM 4) <|
 aXZ
noncomputable def f89 (c : CallF) (k : Nat) : St :=
 (bSeq (bReg (f89_r0 c))
 (bSeq (bReg (f89_r1 c))
 (bEx .ret)))
theorem f89_eq (c : CallF) (k : Nat) : exec cx c 5 f89_an k (Try.f89.body.getD .skip) = f89 c k := by kernel_rfl
def f90_an : Ann := ⟨[(0, r0 [0, 1, 2]), (1, r0 [6])], []⟩
noncomputable def f90_r0 (c : CallF) : RF := rg [0, 1, 2] <| aX 6 (pM (cn (.bool false))) <|
 aXZ
noncomputable def f90_r1 (c : CallF) : RF := rg [6] <| aX 7 (pM 0) <|
 aX 8 (pM 1) <|
 aX 9 (pB .geq 2 7 8) <|
 aX 10 (pM 9) <|
 aX 11 (pG 10 true (pM 0)) <|
 aX 12 (pG 10 true (pM 2)) <|
 aX 13 (pG 10 true (pB .leq 2 11 12)) <|
 aX 14 (pP 10 13 (cn (.bool false))) <|
 aX 6 (pM 14) <|
 aXZ
noncomputable def f90 (c : CallF) (k : Nat) : St :=
 (bSeq (bReg (f90_r0 c))
 (bSeq (bReg (f90_r1 c))
 (bEx .ret)))
theorem f90_eq (c : CallF) (k : Nat) : exec cx c 15 f90_an k (Try.f90.body.getD .skip) = f90 c k := by kernel_rfl
def f91_an : Ann := ⟨[(0, r0 [0, 2]), (1, r0 [0, 2, 3]), (2, r0 [0, 2, 3, 4]), (3, ⟨[], [1], [], [], [0, 2, 3, 4, 5], none, []⟩), (4, r0 [0, 2, 3, 4, 5]), (5, r0 [0, 2, 3, 4, 5, 6]), (6, r0 [0, 2, 3, 4, 5, 6, 7]), (7, ⟨[], [], [13], [15, 16], [0, 2, 3, 4, 7, 8], none, []⟩), (8, r0 [0, 2, 3, 4, 7, 8, 10]), (9, r0 [0, 2, 3, 4, 7, 8, 10, 47]), (10, r0 [0, 2, 3, 4, 7, 8, 10]), (11, r0 [0, 2, 3, 4, 7, 8, 10, 11]), (12, ⟨[], [], [13], [14], [0, 2, 3, 4, 8, 10, 11], none, []⟩), (13, r0 [0, 2, 3, 4, 7, 8, 10]), (14, r0 [2])], [(9, [0, 2, 3, 4, 7, 8, 10])]⟩
noncomputable def f91_r0 (c : CallF) : RF := rg [0, 2] <| aX 2 (pAl 73 20) <|
 aXZ
noncomputable def f91_r1 (c : CallF) : RF := rg [0, 2, 3] <| aX 12 (pK c false 118 []) <|
 aX 3 (pM 12) <|
 aXZ
noncomputable def f91_r2 (c : CallF) : RF := rg [0, 2, 3, 4] <| aX 13 (pM 3) <|
 aX 14 (pLen 157 13) <|
 aX 4 (pM 14) <|
 aXZ
noncomputable def f91_r3 (c : CallF) : RF := rg [0, 2, 3, 4, 5] <| aX 15 (pM 0) <|
 aX 16 (pK c true 119 [15]) <|
 aX 5 (pAl 70 18) <|
 aX0 (pS 18 5 16) <|
 aXZ
noncomputable def f91_r4 (c : CallF) : RF := rg [0, 2, 3, 4, 5] <| aX 17 (pF 0 1 5) <|
 aX0 (pS 1 17 (cn (.bool true))) <|
 aXZ
noncomputable def f91_r5 (c : CallF) : RF := rg [0, 2, 3, 4, 5, 6] <| aX 18 (pM 0) <|
 aX 19 (pM 4) <|
 aX 20 (pK c false 88 [18, 19]) <|
 aX 6 (pM 20) <|
 aXZ
noncomputable def f91_r6 (c : CallF) : RF := rg [0, 2, 3, 4, 5, 6, 7] <| aX 21 (pM 6) <|
 aX 22 (pB .add 2 21 (cn (.int .i64 1))) <|
 aX 23 (pM 0) <|
 aX 24 (pM 4) <|
 aX 25 (pB .sub 2 24 (cn (.int .i64 1))) <|
 aX 26 (pK c false 88 [23, 25]) <|
 aX 27 (pB .add 2 22 26) <|
 aX 28 (pM 4) <|
 aX 29 (pB .rem 2 27 28) <|
 aX 7 (pM 29) <|
 aXZ
noncomputable def f91_r7 (c : CallF) : RF := rgD [0, 2, 3, 4, 7, 8] (aY 31 (pL true 18 5) <|
 aY 32 (pM 3) <|
 aY 33 (pM 6) <|
 aY 34 (pI 2 32 33) <|
 aY 35 (pL true 2 34) <|
 aY 36 (pM 3) <|
 aY 37 (pM 7) <|
 aY 38 (pI 2 36 37) <|
 aY 39 (pF 0 1 38) <|
 aY 40 (pL false 1 39) <|
 aY 41 (pK c false 120 [31, 35, 40]) <|
 aY 30 (pM 41) <|
 aY 42 (pE 0 30) <|
 aYc 43 (pE 1 30) <|
 aY 8 (pAl 73 20) <|
 aYZ)
 (aX0 (pS 20 8 42) <|
 aX 9 (pM 43) <|
 aXZ)
noncomputable def f91_r8 (c : CallF) : RF := rg [0, 2, 3, 4, 7, 8, 10] <| aX 44 (pM 0) <|
 aX 45 (pK c false 88 [44, (cn (.int .i64 5))]) <|
 aX 10 (pM 45) <|
 aXZ
noncomputable def f91_r9 (c : CallF) : RF := rg [0, 2, 3, 4, 7, 8, 10, 47] <| aX 46 (pM 10) <|
 aX 47 (pB .gtr 2 46 (cn (.int .i64 0))) <|
 aXZ
noncomputable def f91_r10 (c : CallF) : RF := rg [0, 2, 3, 4, 7, 8, 10] <| aX 48 (pM 10) <|
 aX 49 (pB .sub 2 48 (cn (.int .i64 1))) <|
 aX 10 (pM 49) <|
 aXZ
noncomputable def f91_r11 (c : CallF) : RF := rg [0, 2, 3, 4, 7, 8, 10, 11] <| aX 50 (pM 7) <|
 aX 51 (pB .add 2 50 (cn (.int .i64 1))) <|
 aX 52 (pM 0) <|
 aX 53 (pM 4) <|
 aX 54 (pB .sub 2 53 (cn (.int .i64 1))) <|
 aX 55 (pK c false 88 [52, 54]) <|
 aX 56 (pB .add 2 51 55) <|
 aX 57 (pM 4) <|
 aX 58 (pB .rem 2 56 57) <|
 aX 11 (pM 58) <|
 aXZ
noncomputable def f91_r12 (c : CallF) : RF := rgD [0, 2, 3, 4, 8, 10, 11] (aY 60 (pL true 20 8) <|
 aY 61 (pM 3) <|
 aY 62 (pM 7) <|
 aY 63 (pI 2 61 62) <|
 aY 64 (pL true 2 63) <|
 aY 65 (pM 3) <|
 aY 66 (pM 11) <|
 aY 67 (pI 2 65 66) <|
 aY 68 (pF 0 1 67) <|
 aY 69 (pL false 1 68) <|
 aY 70 (pK c false 121 [60, 64, 69]) <|
 aY 59 (pM 70) <|
 aY 71 (pE 0 59) <|
 aYc 72 (pE 1 59) <|
 aYZ)
 (aX0 (pS 20 8 71) <|
 aXZ)
noncomputable def f91_r13 (c : CallF) : RF := rg [0, 2, 3, 4, 7, 8, 10] <| aX 73 (pM 11) <|
 aX 7 (pM 73) <|
 aXZ
noncomputable def f91_r14 (c : CallF) : RF := rg [2] <| aX 74 (pL true 20 8) <|
 aX0 (pS 20 2 74) <|
 aXZ
noncomputable def f91_l9 (c : CallF) (k : Nat) : St :=
 (bSeq (bSeq (bReg (f91_r9 c))
 (bCond (.tmp 47) (bEx .nrm) (bEx (.ext 0))))
 (bSeq (bBlock 1 (bSeq (bReg (f91_r11 c))
 (bSeq (bReg (f91_r12 c))
 (bReg (f91_r13 c)))))
 (bReg (f91_r10 c))))
noncomputable def f91 (c : CallF) (k : Nat) : St :=
 (bSeq (bReg (f91_r0 c))
 (bSeq (bReg (f91_r1 c))
 (bSeq (bReg (f91_r2 c))
 (bSeq (bReg (f91_r3 c))
 (bSeq (bReg (f91_r4 c))
 (bSeq (bReg (f91_r5 c))
 (bSeq (bReg (f91_r6 c))
 (bSeq (bReg (f91_r7 c))
 (bSeq (bSeq (bReg (f91_r8 c))
 (bBlock 0 (bLoop [0, 2, 3, 4, 7, 8, 10] (f91_l9 c k) k)))
 (bSeq (bReg (f91_r14 c))
 (bEx .ret)))))))))))
theorem f91_eq (c : CallF) (k : Nat) : exec cx c 75 f91_an k (Try.f91.body.getD .skip) = f91 c k := by kernel_rfl
def f92_an : Ann := ⟨[(0, r0 [0]), (1, r0 [2])], []⟩
noncomputable def f92_r0 (c : CallF) : RF := rg [0] <| aX 2 (pM (cn (.bool false))) <|
 aXZ
noncomputable def f92_r1 (c : CallF) : RF := rg [2] <| aX 3 (pM 0) <|
 aX 4 (pN 3) <|
 aX 5 (pF 1 1 4) <|
 aX 6 (pL false 1 5) <|
 aX 7 (pK c false 122 [6]) <|
 aX 8 (pM 7) <|
 aX 9 (pG 8 true (pM 0)) <|
 aX 10 (pG 8 true (pN 9)) <|
 aX 11 (pG 8 true (pF 2 16 10)) <|
 aX 12 (pG 8 true (pL true 16 11)) <|
 aX 13 (pG 8 true (pK c false 123 [12])) <|
 aX 14 (pP 8 13 (cn (.bool false))) <|
 aX 2 (pM 14) <|
 aXZ
noncomputable def f92 (c : CallF) (k : Nat) : St :=
 (bSeq (bReg (f92_r0 c))
 (bSeq (bReg (f92_r1 c))
 (bEx .ret)))
theorem f92_eq (c : CallF) (k : Nat) : exec cx c 15 f92_an k (Try.f92.body.getD .skip) = f92 c k := by kernel_rfl
def f93_an : Ann := ⟨[(0, r0 [0]), (1, r0 [0, 3]), (2, r0 [0, 3, 4]), (3, r0 [0, 3, 4, 8]), (4, r0 [0, 3, 4]), (5, r0 [0, 3, 4]), (6, r0 [2])], [(3, [0, 3, 4])]⟩
noncomputable def f93_r0 (c : CallF) : RF := rg [0] <| aX 2 (pM (cn (.int .i64 0))) <|
 aXZ
noncomputable def f93_r1 (c : CallF) : RF := rg [0, 3] <| aX 3 (pM (cn (.int .i64 0))) <|
 aXZ
noncomputable def f93_r2 (c : CallF) : RF := rg [0, 3, 4] <| aX 4 (pM (cn (.int .i64 0))) <|
 aXZ
noncomputable def f93_r3 (c : CallF) : RF := rg [0, 3, 4, 8] <| aX 5 (pM 4) <|
 aX 6 (pM 0) <|
 aX 7 (pLen 66 6) <|
 aX 8 (pB .lss 3 5 7) <|
 aXZ
noncomputable def f93_r4 (c : CallF) : RF := rg [0, 3, 4] <| aX 9 (pM 4) <|
 aX 10 (pB .add 3 9 (cn (.int .i64 1))) <|
 aX 4 (pM 10) <|
 aXZ
noncomputable def f93_r5 (c : CallF) : RF := rgD [0, 3, 4] (aY 11 (pM 3) <|
 aY 12 (pK c false 124 []) <|
 aY 13 (pM 0) <|
 aY 14 (pM 4) <|
 aY 15 (pI 2 13 14) <|
 aY 16 (pF 0 1 15) <|
 aY 17 (pL false 1 16) <|
 aY 18 (pI 1 12 17) <|
 aY 19 (pL false 1 18) <|
 aY 20 (pB .add 2 11 19) <|
 aY 3 (pM 20) <|
 aYZ)
 (aXZ)
noncomputable def f93_r6 (c : CallF) : RF := rg [2] <| aX 21 (pM 3) <|
 aX 2 (pM 21) <|
 aXZ
noncomputable def f93_l3 (c : CallF) (k : Nat) : St :=
 (bSeq (bSeq (bReg (f93_r3 c))
 (bCond (.tmp 8) (bEx .nrm) (bEx (.ext 0))))
 (bSeq (bBlock 1 (bReg (f93_r5 c)))
 (bReg (f93_r4 c))))
noncomputable def f93 (c : CallF) (k : Nat) : St :=
 (bSeq (bReg (f93_r0 c))
 (bSeq (bReg (f93_r1 c))
 (bSeq (bSeq (bReg (f93_r2 c))
 (bBlock 0 (bLoop [0, 3, 4] (f93_l3 c k) k)))
 (bSeq (bReg (f93_r6 c))
 (bEx .ret)))))
theorem f93_eq (c : CallF) (k : Nat) : exec cx c 22 f93_an k (Try.f93.body.getD .skip) = f93 c k := by kernel_rfl
def f94_an : Ann := ⟨[(0, r0 [1]), (1, r0 [1, 33]), (2, r0 [2]), (3, r0 [1, 3]), (4, r0 [3, 37, 38, 39]), (5, r0 [3, 37, 38, 39, 40]), (6, r0 [3, 5, 37, 38, 39]), (7, r0 [5, 37, 38, 39, 52]), (8, r0 [2]), (9, r0 [3, 37, 38, 39]), (10, r0 [3, 37, 38, 39]), (11, r0 [2])], [(5, [3, 37, 38, 39])]⟩
noncomputable def f94_r0 (c : CallF) : RF := rg [1] <| aX 1 (pBox 20 0) <|
 aX 2 (pM (cn (.bool false))) <|
 aXZ
noncomputable def f94_r1 (c : CallF) : RF := rg [1, 33] <| aX 6 (pF 0 1 1) <|
 aX 7 (pL false 1 6) <|
 aX 8 (pK c false 125 [7]) <|
 aX 9 (pU .not 8) <|
 aX 10 (pM 9) <|
 aX 11 (pG 10 false (pF 1 18 1)) <|
 aX 12 (pG 10 false (pL true 18 11)) <|
 aX 13 (pG 10 false (pK c false 101 [12])) <|
 aX 14 (pG 10 false (pU .not 13)) <|
 aX 15 (pP 10 (cn (.bool true)) 14) <|
 aX 16 (pM 15) <|
 aX 17 (pG 16 false (pF 1 18 1)) <|
 aX 18 (pG 16 false (pF 0 1 17)) <|
 aX 19 (pG 16 false (pL false 1 18)) <|
 aX 20 (pG 16 false (pU .not 19)) <|
 aX 21 (pP 16 (cn (.bool true)) 20) <|
 aX 22 (pM 21) <|
 aX 23 (pG 22 false (pF 19 1 1)) <|
 aX 24 (pG 22 false (pL false 1 23)) <|
 aX 25 (pG 22 false (pLen 71 24)) <|
 aX 26 (pG 22 false (pB .lss 3 25 (cn (.int .i64 1)))) <|
 aX 27 (pP 22 (cn (.bool true)) 26) <|
 aX 28 (pM 27) <|
 aX 29 (pG 28 false (pF 19 1 1)) <|
 aX 30 (pG 28 false (pL false 1 29)) <|
 aX 31 (pG 28 false (pLen 71 30)) <|
 aX 32 (pG 28 false (pB .gtr 3 31 (cn (.int .i64 30)))) <|
 aX 33 (pP 28 (cn (.bool true)) 32) <|
 aXZ
noncomputable def f94_r2 (c : CallF) : RF := rg [2] <| aX 2 (pM (cn (.bool false))) <|
 aXZ
noncomputable def f94_r3 (c : CallF) : RF := rg [1, 3] <| aX 34 (pF 0 1 1) <|
 aX 35 (pL false 1 34) <|
 aX 3 (pM 35) <|
 aXZ
noncomputable def f94_r4 (c : CallF) : RF := rg [3, 37, 38, 39] <| aX 36 (pF 19 1 1) <|
 aX 37 (pL false 1 36) <|
 aX 38 (pLen 71 37) <|
 aX 39 (pM (cn (.int .i64 0))) <|
 aXZ
noncomputable def f94_r5 (c : CallF) : RF := rg [3, 37, 38, 39, 40] <| aX 40 (pB .lss 3 39 38) <|
 aXZ
noncomputable def f94_r6 (c : CallF) : RF := rg [3, 5, 37, 38, 39] <| aX 41 (pI 2 37 39) <|
 aX 42 (pL true 2 41) <|
 aX 5 (pAl 173 2) <|
 aX0 (pS 2 5 42) <|
 aXZ
noncomputable def f94_r7 (c : CallF) : RF := rg [5, 37, 38, 39, 52] <| aX 43 (pF 0 1 5) <|
 aX 44 (pL false 1 43) <|
 aX 45 (pK c false 125 [44]) <|
 aX 46 (pU .not 45) <|
 aX 47 (pM 46) <|
 aX 48 (pG 47 false (pF 0 1 5)) <|
 aX 49 (pG 47 false (pL false 1 48)) <|
 aX 50 (pG 47 false (pM 3)) <|
 aX 51 (pG 47 false (pB .eql 9 49 50)) <|
 aX 52 (pP 47 (cn (.bool true)) 51) <|
 aXZ
noncomputable def f94_r8 (c : CallF) : RF := rg [2] <| aX 2 (pM (cn (.bool false))) <|
 aXZ
noncomputable def f94_r9 (c : CallF) : RF := rg [3, 37, 38, 39] <| aX 53 (pF 0 1 5) <|
 aX 54 (pL false 1 53) <|
 aX 3 (pM 54) <|
 aXZ
noncomputable def f94_r10 (c : CallF) : RF := rg [3, 37, 38, 39] <| aX 55 (pB .add 3 39 (cn (.int .i64 1))) <|
 aX 39 (pM 55) <|
 aXZ
noncomputable def f94_r11 (c : CallF) : RF := rg [2] <| aX 2 (pM (cn (.bool true))) <|
 aXZ
noncomputable def f94_l5 (c : CallF) (k : Nat) : St :=
 (bSeq (bReg (f94_r5 c))
 (bSeq (bCond (.tmp 40) (bEx .nrm) (bEx (.ext 0)))
 (bSeq (bBlock 1 (bSeq (bReg (f94_r6 c))
 (bSeq (bSeq (bReg (f94_r7 c))
 (bCond (.tmp 52) (bSeq (bReg (f94_r8 c))
 (bEx .ret)) (bEx .nrm)))
 (bReg (f94_r9 c)))))
 (bReg (f94_r10 c)))))
noncomputable def f94 (c : CallF) (k : Nat) : St :=
 (bSeq (bReg (f94_r0 c))
 (bSeq (bSeq (bReg (f94_r1 c))
 (bCond (.tmp 33) (bSeq (bReg (f94_r2 c))
 (bEx .ret)) (bEx .nrm)))
 (bSeq (bReg (f94_r3 c))
 (bSeq (bSeq (bReg (f94_r4 c))
 (bBlock 0 (bLoop [3, 37, 38, 39] (f94_l5 c k) k)))
 (bSeq (bReg (f94_r11 c))
 (bEx .ret))))))
theorem f94_eq (c : CallF) (k : Nat) : exec cx c 56 f94_an k (Try.f94.body.getD .skip) = f94 c k := by kernel_rfl
def f95_an : Ann := ⟨[(0, r0 [1]), (1, r0 [1, 3]), (2, r0 [3, 7, 8, 9]), (3, r0 [3, 7, 8, 9, 10]), (4, r0 [3, 5, 7, 8, 9]), (5, r0 [3, 7, 8, 9]), (6, r0 [3, 7, 8, 9]), (7, r0 [2])], [(3, [3, 7, 8, 9])]⟩
noncomputable def f95_r0 (c : CallF) : RF := rg [1] <| aX 1 (pBox 18 0) <|
 aX 2 (pM (cn (.int .i64 0))) <|
 aXZ
noncomputable def f95_r1 (c : CallF) : RF := rg [1, 3] <| aX 3 (pM (cn (.int .i64 0))) <|
 aXZ
noncomputable def f95_r2 (c : CallF) : RF := rg [3, 7, 8, 9] <| aX 6 (pF 1 1 1) <|
 aX 7 (pL false 1 6) <|
 aX 8 (pLen 66 7) <|
 aX 9 (pM (cn (.int .i64 0))) <|
 aXZ
noncomputable def f95_r3 (c : CallF) : RF := rg [3, 7, 8, 9, 10] <| aX 10 (pB .lss 3 9 8) <|
 aXZ
noncomputable def f95_r4 (c : CallF) : RF := rg [3, 5, 7, 8, 9] <| aX 11 (pI 2 7 9) <|
 aX 12 (pL true 2 11) <|
 aX 5 (pAl 170 2) <|
 aX0 (pS 2 5 12) <|
 aXZ
noncomputable def f95_r5 (c : CallF) : RF := rg [3, 7, 8, 9] <| aX 13 (pM 3) <|
 aX 14 (pF 0 1 5) <|
 aX 15 (pL false 1 14) <|
 aX 16 (fun n e M => keep (aConvI .i64 (eget e 15))) <|
 aX 17 (pK c false 126 [16]) <|
 aX 18 (pB .add 2 13 17) <|
 aX 3 (pM 18) <|
 aXZ
noncomputable def f95_r6 (c : CallF) : RF := rg [3, 7, 8, 9] <| aX 19 (pB .add 3 9 (cn (.int .i64 1))) <|
 aX 9 (pM 19) <|
 aXZ
noncomputable def f95_r7 (c : CallF) : RF := rg [2] <| aX 20 (pM 3) <|
 aX 2 (pM 20) <|
 aXZ
noncomputable def f95_l3 (c : CallF) (k : Nat) : St :=
 (bSeq (bReg (f95_r3 c))
 (bSeq (bCond (.tmp 10) (bEx .nrm) (bEx (.ext 0)))
 (bSeq (bBlock 1 (bSeq (bReg (f95_r4 c))
 (bReg (f95_r5 c))))
 (bReg (f95_r6 c)))))
noncomputable def f95 (c : CallF) (k : Nat) : St :=
 (bSeq (bReg (f95_r0 c))
 (bSeq (bReg (f95_r1 c))
 (bSeq (bSeq (bReg (f95_r2 c))
 (bBlock 0 (bLoop [3, 7, 8, 9] (f95_l3 c k) k)))
 (bSeq (bReg (f95_r7 c))
 (bEx .ret)))))
theorem f95_eq (c : CallF) (k : Nat) : exec cx c 21 f95_an k (Try.f95.body.getD .skip) = f95 c k := by kernel_rfl
def f96_an : Ann := ⟨[(0, r0 [0, 2]), (1, r0 [0, 2, 4]), (2, r0 [0, 2, 4, 7]), (3, r0 [0, 2, 4, 7, 8]), (4, r0 [0, 2, 4, 5, 7]), (5, r0 [0, 2, 4, 5, 7]), (6, r0 [0, 2, 4, 7]), (7, r0 [0, 2, 4, 7]), (8, r0 [2, 3])], [(3, [0, 2, 4, 7])]⟩
noncomputable def f96_r0 (c : CallF) : RF := rg [0, 2] <| aX 2 (pAl 68 16) <|
 aX 3 (pM (cn (.int .u32 0))) <|
 aXZ
noncomputable def f96_r1 (c : CallF) : RF := rg [0, 2, 4] <| aX 6 (fun n e M => keep (aBuild (zeroOf cx.P 68) [] M)) <|
 aX 4 (pAl 68 16) <|
 aX0 (pS 16 4 6) <|
 aXZ
noncomputable def f96_r2 (c : CallF) : RF := rg [0, 2, 4, 7] <| aX 7 (pM (cn (.int .i64 0))) <|
 aXZ
noncomputable def f96_r3 (c : CallF) : RF := rg [0, 2, 4, 7, 8] <| aX 8 (pB .lss 3 7 (cn (.int .i64 16))) <|
 aXZ
noncomputable def f96_r4 (c : CallF) : RF := rg [0, 2, 4, 5, 7] <| aX 9 (pM 7) <|
 aX 5 (pM 9) <|
 aXZ
noncomputable def f96_r5 (c : CallF) : RF := rg [0, 2, 4, 5, 7] <| aX 10 (pM 0) <|
 aX 11 (pK c false 127 [10]) <|
 aX 0 (pM 11) <|
 aXZ
noncomputable def f96_r6 (c : CallF) : RF := rg [0, 2, 4, 7] <| aX 12 (pM 5) <|
 aX 13 (pM 0) <|
 aX 14 (pB .shr 77 13 (cn (.int .u64 16))) <|
 aX 15 (pB .rem 77 14 (cn (.int .u32 7))) <|
 aX 16 (fun n e M => keep (aConvI .i8 (eget e 15))) <|
 aX 17 (pB .sub 34 16 (cn (.int .i8 3))) <|
 aX 18 (fun n e M => keep (aIndexP 16 1 (eget e 4) (eget e 12) M)) <|
 aX0 (pS 1 18 17) <|
 aXZ
noncomputable def f96_r7 (c : CallF) : RF := rg [0, 2, 4, 7] <| aX 19 (pB .add 3 7 (cn (.int .i64 1))) <|
 aX 7 (pM 19) <|
 aXZ
noncomputable def f96_r8 (c : CallF) : RF := rg [2, 3] <| aX 20 (pL true 16 4) <|
 aX 21 (pM 0) <|
 aX0 (pS 16 2 20) <|
 aX 3 (pM 21) <|
 aXZ
noncomputable def f96_l3 (c : CallF) (k : Nat) : St :=
 (bSeq (bReg (f96_r3 c))
 (bSeq (bCond (.tmp 8) (bEx .nrm) (bEx (.ext 0)))
 (bSeq (bBlock 1 (bSeq (bReg (f96_r4 c))
 (bSeq (bReg (f96_r5 c))
 (bReg (f96_r6 c)))))
 (bReg (f96_r7 c)))))
noncomputable def f96 (c : CallF) (k : Nat) : St :=
 (bSeq (bReg (f96_r0 c))
 (bSeq (bReg (f96_r1 c))
 (bSeq (bSeq (bReg (f96_r2 c))
 (bBlock 0 (bLoop [0, 2, 4, 7] (f96_l3 c k) k)))
 (bSeq (bReg (f96_r8 c))
 (bEx .ret)))))
theorem f96_eq (c : CallF) (k : Nat) : exec cx c 22 f96_an k (Try.f96.body.getD .skip) = f96 c k := by kernel_rfl
def f97_an : Ann := ⟨[(0, r0 [0, 3, 4, 5]), (1, r0 [0, 3, 4, 5, 11]), (2, r0 [4, 5, 6]), (3, r0 [3, 4, 5, 7, 8]), (4, r0 [3, 4, 5, 7, 8, 20]), (5, r0 [4, 5, 6]), (6, ⟨[], [], [7], [8, 9, 10], [4, 5, 6], none, []⟩)], []⟩
noncomputable def f97_r0 (c : CallF) : RF := rg [0, 3, 4, 5] <| aX 3 (pBox 16 1) <|
 aX 4 (pAl 70 18) <|
 aX 5 (pAl 70 18) <|
 aX 6 (pM (cn (.int .i64 0))) <|
 aXZ
noncomputable def f97_r1 (c : CallF) : RF := rg [0, 3, 4, 5, 11] <| aX 9 (pL true 16 3) <|
 aX 10 (pK c false 128 [9]) <|
 aX 11 (pU .not 10) <|
 aXZ
noncomputable def f97_r2 (c : CallF) : RF := rg [4, 5, 6] <| aX 12 (fun n e M => keep (aBuild (zeroOf cx.P 70) [] M)) <|
 aX 13 (fun n e M => keep (aBuild (zeroOf cx.P 70) [] M)) <|
 aX0 (pS 18 4 12) <|
 aX0 (pS 18 5 13) <|
 aX 6 (pM (cn (.int .i64 1))) <|
 aXZ
noncomputable def f97_r3 (c : CallF) : RF := rg [3, 4, 5, 7, 8] <| aX 15 (pM 0) <|
 aX 16 (pK c false 129 [15]) <|
 aX 14 (pM 16) <|
 aX 17 (pE 0 14) <|
 aX 18 (pE 1 14) <|
 aX 7 (pM 17) <|
 aX 8 (pM 18) <|
 aXZ
noncomputable def f97_r4 (c : CallF) : RF := rg [3, 4, 5, 7, 8, 20] <| aX 19 (pM 8) <|
 aX 20 (pB .neq 2 19 (cn (.int .i64 0))) <|
 aXZ
noncomputable def f97_r5 (c : CallF) : RF := rg [4, 5, 6] <| aX 21 (fun n e M => keep (aBuild (zeroOf cx.P 70) [] M)) <|
 aX 22 (fun n e M => keep (aBuild (zeroOf cx.P 70) [] M)) <|
 aX 23 (pM 8) <|
 aX0 (pS 18 4 21) <|
 aX0 (pS 18 5 22) <|
 aX 6 (pM 23) <|
 aXZ
noncomputable def f97_r6 (c : CallF) : RF := rgD [4, 5, 6] (aY 24 (pM 7) <|
 aY 25 (pL true 16 3) <|
 aY 26 (fun n e M => keep (aBuild (zeroOf cx.P 70) [(0, 1, (.bool true)), (1, 1, (eget e 24)), (2, 16, (eget e 25))] M)) <|
 aY 27 (pM 7) <|
 aY 28 (pK c false 130 [27]) <|
 aY 29 (pL true 16 3) <|
 aY 30 (pK c false 131 [29]) <|
 aYc 31 (fun n e M => keep (aBuild (zeroOf cx.P 70) [(1, 1, (eget e 28)), (2, 16, (eget e 30))] M)) <|
 aYZ)
 (aX0 (pS 18 4 26) <|
 aX0 (pS 18 5 31) <|
 aX 6 (pM (cn (.int .i64 0))) <|
 aXZ)
noncomputable def f97 (c : CallF) (k : Nat) : St :=
 (bSeq (bReg (f97_r0 c))
 (bSeq (bSeq (bReg (f97_r1 c))
 (bCond (.tmp 11) (bSeq (bReg (f97_r2 c))
 (bEx .ret)) (bEx .nrm)))
 (bSeq (bReg (f97_r3 c))
 (bSeq (bSeq (bReg (f97_r4 c))
 (bCond (.tmp 20) (bSeq (bReg (f97_r5 c))
 (bEx .ret)) (bEx .nrm)))
 (bSeq (bReg (f97_r6 c))
 (bEx .ret))))))
theorem f97_eq (c : CallF) (k : Nat) : exec cx c 32 f97_an k (Try.f97.body.getD .skip) = f97 c k := by kernel_rfl
def f98_an : Ann := ⟨[(0, r0 [0]), (1, r0 [0, 34]), (2, r0 [2]), (3, r0 [0, 3]), (4, r0 [0, 3, 4]), (5, r0 [0, 3, 4, 45]), (6, r0 [0, 3, 4]), (7, r0 [0, 4, 69]), (8, r0 [2]), (9, r0 [0, 3, 4]), (10, r0 [2])], [(5, [0, 3, 4])]⟩
noncomputable def f98_r0 (c : CallF) : RF := rg [0] <| aX 2 (pM (cn (.bool false))) <|
 aXZ
noncomputable def f98_r1 (c : CallF) : RF := rg [0, 34] <| aX 5 (pM 0) <|
 aX 6 (pN 5) <|
 aX 7 (pF 0 1 6) <|
 aX 8 (pL false 1 7) <|
 aX 9 (pK c false 132 [8]) <|
 aX 10 (pU .not 9) <|
 aX 11 (pM 10) <|
 aX 12 (pG 11 false (pM 0)) <|
 aX 13 (pG 11 false (pN 12)) <|
 aX 14 (pG 11 false (pF 1 18 13)) <|
 aX 15 (pG 11 false (pK c false 92 [14])) <|
 aX 16 (pG 11 false (pU .not 15)) <|
 aX 17 (pP 11 (cn (.bool true)) 16) <|
 aX 18 (pM 17) <|
 aX 19 (pG 18 false (pM 0)) <|
 aX 20 (pG 18 false (pN 19)) <|
 aX 21 (pG 18 false (pF 1 18 20)) <|
 aX 22 (pG 18 false (pF 0 1 21)) <|
 aX 23 (pG 18 false (pL false 1 22)) <|
 aX 24 (pG 18 false (pU .not 23)) <|
 aX 25 (pP 18 (cn (.bool true)) 24) <|
 aX 26 (pM 25) <|
 aX 27 (pG 26 false (pM 0)) <|
 aX 28 (pG 26 false (pN 27)) <|
 aX 29 (pG 26 false (pF 19 1 28)) <|
 aX 30 (pG 26 false (pL false 1 29)) <|
 aX 31 (pG 26 false (pLen 71 30)) <|
 aX 32 (pG 26 false (pK c false 90 [31, (cn (.int .i64 1)), (cn (.int .i64 30))])) <|
 aX 33 (pG 26 false (pU .not 32)) <|
 aX 34 (pP 26 (cn (.bool true)) 33) <|
 aXZ
noncomputable def f98_r2 (c : CallF) : RF := rg [2] <| aX 2 (pM (cn (.bool false))) <|
 aXZ
noncomputable def f98_r3 (c : CallF) : RF := rg [0, 3] <| aX 35 (pM 0) <|
 aX 36 (pN 35) <|
 aX 37 (pF 0 1 36) <|
 aX 38 (pL false 1 37) <|
 aX 3 (pM 38) <|
 aXZ
noncomputable def f98_r4 (c : CallF) : RF := rg [0, 3, 4] <| aX 4 (pM (cn (.int .i64 0))) <|
 aXZ
noncomputable def f98_r5 (c : CallF) : RF := rg [0, 3, 4, 45] <| aX 39 (pM 4) <|
 aX 40 (pM 0) <|
 aX 41 (pN 40) <|
 aX 42 (pF 19 1 41) <|
 aX 43 (pL false 1 42) <|
 aX 44 (pLen 71 43) <|
 aX 45 (pB .lss 3 39 44) <|
 aXZ
noncomputable def f98_r6 (c : CallF) : RF := rg [0, 3, 4] <| aX 46 (pM 4) <|
 aX 47 (pB .add 3 46 (cn (.int .i64 1))) <|
 aX 4 (pM 47) <|
 aXZ
noncomputable def f98_r7 (c : CallF) : RF := rg [0, 4, 69] <| aX 48 (pM 0) <|
 aX 49 (pN 48) <|
 aX 50 (pF 19 1 49) <|
 aX 51 (pL false 1 50) <|
 aX 52 (pM 4) <|
 aX 53 (pI 2 51 52) <|
 aX 54 (pF 0 1 53) <|
 aX 55 (pL false 1 54) <|
 aX 56 (pK c false 132 [55]) <|
 aX 57 (pU .not 56) <|
 aX 58 (pM 57) <|
 aX 59 (pG 58 false (pM 0)) <|
 aX 60 (pG 58 false (pN 59)) <|
 aX 61 (pG 58 false (pF 19 1 60)) <|
 aX 62 (pG 58 false (pL false 1 61)) <|
 aX 63 (pG 58 false (pM 4)) <|
 aX 64 (pG 58 false (pI 2 62 63)) <|
 aX 65 (pG 58 false (pF 0 1 64)) <|
 aX 66 (pG 58 false (pL false 1 65)) <|
 aX 67 (pG 58 false (pM 3)) <|
 aX 68 (pG 58 false (pB .eql 9 66 67)) <|
 aX 69 (pP 58 (cn (.bool true)) 68) <|
 aXZ
noncomputable def f98_r8 (c : CallF) : RF := rg [2] <| aX 2 (pM (cn (.bool false))) <|
 aXZ
noncomputable def f98_r9 (c : CallF) : RF := rg [0, 3, 4] <| aX 70 (pM 0) <|
 aX 71 (pN 70) <|
 aX 72 (pF 19 1 71) <|
 aX 73 (pL false 1 72) <|
 aX 74 (pM 4) <|
 aX 75 (pI 2 73 74) <|
 aX 76 (pF 0 1 75) <|
 aX 77 (pL false 1 76) <|
 aX 3 (pM 77) <|
 aXZ
noncomputable def f98_r10 (c : CallF) : RF := rg [2] <| aX 2 (pM (cn (.bool true))) <|
 aXZ
noncomputable def f98_l5 (c : CallF) (k : Nat) : St :=
 (bSeq (bSeq (bReg (f98_r5 c))
 (bCond (.tmp 45) (bEx .nrm) (bEx (.ext 0))))
 (bSeq (bBlock 1 (bSeq (bSeq (bReg (f98_r7 c))
 (bCond (.tmp 69) (bSeq (bReg (f98_r8 c))
 (bEx .ret)) (bEx .nrm)))
 (bReg (f98_r9 c))))
 (bReg (f98_r6 c))))
noncomputable def f98 (c : CallF) (k : Nat) : St :=
 (bSeq (bReg (f98_r0 c))
 (bSeq (bSeq (bReg (f98_r1 c))
 (bCond (.tmp 34) (bSeq (bReg (f98_r2 c))
 (bEx .ret)) (bEx .nrm)))
 (bSeq (bReg (f98_r3 c))
 (bSeq (bSeq (bReg (f98_r4 c))
 (bBlock 0 (bLoop [0, 3, 4] (f98_l5 c k) k)))
 (bSeq (bReg (f98_r10 c))
 (bEx .ret))))))
theorem f98_eq (c : CallF) (k : Nat) : exec cx c 78 f98_an k (Try.f98.body.getD .skip) = f98 c k := by kernel_rfl
def f99_an : Ann := ⟨[(0, r0 [0, 2]), (1, r0 [0, 2, 4]), (2, r0 [0, 2, 4, 5]), (3, r0 [0, 2, 4, 5, 8]), (4, r0 [0, 2, 4, 5]), (5, r0 [0, 2, 4, 5]), (6, r0 [0, 2, 4, 5]), (7, r0 [2, 3])], [(3, [0, 2, 4, 5])]⟩
noncomputable def f99_r0 (c : CallF) : RF := rg [0, 2] <| aX 2 (pAl 68 16) <|
 aX 3 (pM (cn (.int .u32 0))) <|
 aXZ
noncomputable def f99_r1 (c : CallF) : RF := rg [0, 2, 4] <| aX 6 (fun n e M => keep (aBuild (zeroOf cx.P 68) [] M)) <|
 aX 4 (pAl 68 16) <|
 aX0 (pS 16 4 6) <|
 aXZ
noncomputable def f99_r2 (c : CallF) : RF := rg [0, 2, 4, 5] <| aX 5 (pM (cn (.int .i64 0))) <|
 aXZ
noncomputable def f99_r3 (c : CallF) : RF := rg [0, 2, 4, 5, 8] <| aX 7 (pM 5) <|
 aX 8 (pB .lss 3 7 (cn (.int .i64 16))) <|
 aXZ
noncomputable def f99_r4 (c : CallF) : RF := rg [0, 2, 4, 5] <| aX 9 (pM 5) <|
 aX 10 (pB .add 3 9 (cn (.int .i64 1))) <|
 aX 5 (pM 10) <|
 aXZ
noncomputable def f99_r5 (c : CallF) : RF := rg [0, 2, 4, 5] <| aX 11 (pM 0) <|
 aX 12 (pB .mul 77 (cn (.int .u32 1664525)) 11) <|
 aX 13 (pB .add 77 12 (cn (.int .u32 1013904223))) <|
 aX 0 (pM 13) <|
 aXZ
noncomputable def f99_r6 (c : CallF) : RF := rg [0, 2, 4, 5] <| aX 14 (pM 5) <|
 aX 15 (pM 0) <|
 aX 16 (pB .quo 77 15 (cn (.int .u32 65536))) <|
 aX 17 (pB .rem 77 16 (cn (.int .u32 7))) <|
 aX 18 (fun n e M => keep (aConvI .i8 (eget e 17))) <|
 aX 19 (pB .sub 34 18 (cn (.int .i8 3))) <|
 aX 20 (fun n e M => keep (aIndexP 16 1 (eget e 4) (eget e 14) M)) <|
 aX0 (pS 1 20 19) <|
 aXZ
noncomputable def f99_r7 (c : CallF) : RF := rg [2, 3] <| aX 21 (pL true 16 4) <|
 aX 22 (pM 0) <|
 aX0 (pS 16 2 21) <|
 aX 3 (pM 22) <|
 aXZ
noncomputable def f99_l3 (c : CallF) (k : Nat) : St :=
 (bSeq (bSeq (bReg (f99_r3 c))
 (bCond (.tmp 8) (bEx .nrm) (bEx (.ext 0))))
 (bSeq (bBlock 1 (bSeq (bReg (f99_r5 c))
 (bReg (f99_r6 c))))
 (bReg (f99_r4 c))))
noncomputable def f99 (c : CallF) (k : Nat) : St :=
 (bSeq (bReg (f99_r0 c))
 (bSeq (bReg (f99_r1 c))
 (bSeq (bSeq (bReg (f99_r2 c))
 (bBlock 0 (bLoop [0, 2, 4, 5] (f99_l3 c k) k)))
 (bSeq (bReg (f99_r7 c))
 (bEx .ret)))))
theorem f99_eq (c : CallF) (k : Nat) : exec cx c 23 f99_an k (Try.f99.body.getD .skip) = f99 c k := by kernel_rfl
def f100_an : Ann := ⟨[(0, r0 [0, 3, 4, 5]), (1, r0 [0, 3, 4, 5, 11]), (2, r0 [4, 5, 6]), (3, r0 [3, 4, 5, 7, 8]), (4, r0 [3, 4, 5, 7, 8, 20]), (5, r0 [4, 5, 6]), (6, ⟨[], [], [7], [8, 9, 10], [4, 5, 6], none, []⟩)], []⟩
noncomputable def f100_r0 (c : CallF) : RF := rg [0, 3, 4, 5] <| aX 3 (pBox 16 1) <|
 aX 4 (pAl 70 18) <|
 aX 5 (pAl 70 18) <|
 aX 6 (pM (cn (.int .i64 0))) <|
 aXZ
noncomputable def f100_r1 (c : CallF) : RF := rg [0, 3, 4, 5, 11] <| aX 9 (pL true 16 3) <|
 aX 10 (pK c false 123 [9]) <|
 aX 11 (pU .not 10) <|
 aXZ
noncomputable def f100_r2 (c : CallF) : RF := rg [4, 5, 6] <| aX 12 (fun n e M => keep (aBuild (zeroOf cx.P 70) [] M)) <|
 aX 13 (fun n e M => keep (aBuild (zeroOf cx.P 70) [] M)) <|
 aX0 (pS 18 4 12) <|
 aX0 (pS 18 5 13) <|
 aX 6 (pM (cn (.int .i64 1))) <|
 aXZ
noncomputable def f100_r3 (c : CallF) : RF := rg [3, 4, 5, 7, 8] <| aX 15 (pM 0) <|
 aX 16 (pK c false 133 [15]) <|
 aX 14 (pM 16) <|
 aX 17 (pE 0 14) <|
 aX 18 (pE 1 14) <|
 aX 7 (pM 17) <|
 aX 8 (pM 18) <|
 aXZ
noncomputable def f100_r4 (c : CallF) : RF := rg [3, 4, 5, 7, 8, 20] <| aX 19 (pM 8) <|
 aX 20 (pB .neq 2 19 (cn (.int .i64 0))) <|
 aXZ
noncomputable def f100_r5 (c : CallF) : RF := rg [4, 5, 6] <| aX 21 (fun n e M => keep (aBuild (zeroOf cx.P 70) [] M)) <|
 aX 22 (fun n e M => keep (aBuild (zeroOf cx.P 70) [] M)) <|
 aX 23 (pM 8) <|
 aX0 (pS 18 4 21) <|
 aX0 (pS 18 5 22) <|
 aX 6 (pM 23) <|
 aXZ
noncomputable def f100_r6 (c : CallF) : RF := rgD [4, 5, 6] (aY 24 (pM 7) <|
 aY 25 (pL true 16 3) <|
 aY 26 (fun n e M => keep (aBuild (zeroOf cx.P 70) [(0, 1, (.bool true)), (1, 1, (eget e 24)), (2, 16, (eget e 25))] M)) <|
 aY 27 (pM 7) <|
 aY 28 (pK c false 134 [27]) <|
 aY 29 (pL true 16 3) <|
 aY 30 (pK c false 135 [29]) <|
 aYc 31 (fun n e M => keep (aBuild (zeroOf cx.P 70) [(1, 1, (eget e 28)), (2, 16, (eget e 30))] M)) <|
 aYZ)
 (aX0 (pS 18 4 26) <|
 aX0 (pS 18 5 31) <|
 aX 6 (pM (cn (.int .i64 0))) <|
 aXZ)
noncomputable def f100 (c : CallF) (k : Nat) : St :=
 (bSeq (bReg (f100_r0 c))
 (bSeq (bSeq (bReg (f100_r1 c))
 (bCond (.tmp 11) (bSeq (bReg (f100_r2 c))
 (bEx .ret)) (bEx .nrm)))
 (bSeq (bReg (f100_r3 c))
 (bSeq (bSeq (bReg (f100_r4 c))
 (bCond (.tmp 20) (bSeq (bReg (f100_r5 c))
 (bEx .ret)) (bEx .nrm)))
 (bSeq (bReg (f100_r6 c))
 (bEx .ret))))))
theorem f100_eq (c : CallF) (k : Nat) : exec cx c 32 f100_an k (Try.f100.body.getD .skip) = f100 c k := by kernel_rfl
def f101_an : Ann := ⟨[(0, r0 [1]), (1, r0 [1, 14]), (2, r0 [2]), (3, r0 [1, 16, 17, 18]), (4, r0 [1, 16, 17, 18, 19]), (5, r0 [1, 3, 4, 16, 17, 18]), (6, r0 [1, 3, 4, 16, 17, 18, 37]), (7, r0 [2]), (8, r0 [1, 16, 17, 18, 64]), (9, r0 [2]), (10, r0 [1, 16, 17, 18]), (11, r0 [2])], [(4, [1, 16, 17, 18])]⟩
noncomputable def f101_r0 (c : CallF) : RF := rg [1] <| aX 1 (pBox 18 0) <|
 aX 2 (pM (cn (.bool false))) <|
 aXZ
noncomputable def f101_r1 (c : CallF) : RF := rg [1, 14] <| aX 5 (pF 1 1 1) <|
 aX 6 (pL false 1 5) <|
 aX 7 (pLen 66 6) <|
 aX 8 (pB .gtr 3 7 (cn (.int .i64 60))) <|
 aX 9 (pM 8) <|
 aX 10 (pG 9 false (pF 2 16 1)) <|
 aX 11 (pG 9 false (pL true 16 10)) <|
 aX 12 (pG 9 false (pK c false 128 [11])) <|
 aX 13 (pG 9 false (pU .not 12)) <|
 aX 14 (pP 9 (cn (.bool true)) 13) <|
 aXZ
noncomputable def f101_r2 (c : CallF) : RF := rg [2] <| aX 2 (pM (cn (.bool false))) <|
 aXZ
noncomputable def f101_r3 (c : CallF) : RF := rg [1, 16, 17, 18] <| aX 15 (pF 1 1 1) <|
 aX 16 (pL false 1 15) <|
 aX 17 (pLen 66 16) <|
 aX 18 (pM (cn (.int .i64 0))) <|
 aXZ
noncomputable def f101_r4 (c : CallF) : RF := rg [1, 16, 17, 18, 19] <| aX 19 (pB .lss 3 18 17) <|
 aXZ
noncomputable def f101_r5 (c : CallF) : RF := rg [1, 3, 4, 16, 17, 18] <| aX 20 (pM 18) <|
 aX 21 (pI 2 16 18) <|
 aX 22 (pL true 2 21) <|
 aX 4 (pAl 170 2) <|
 aX 3 (pM 20) <|
 aX0 (pS 2 4 22) <|
 aXZ
noncomputable def f101_r6 (c : CallF) : RF := rg [1, 3, 4, 16, 17, 18, 37] <| aX 23 (pF 0 1 4) <|
 aX 24 (pL false 1 23) <|
 aX 25 (fun n e M => keep (aConvI .i64 (eget e 24))) <|
 aX 26 (pK c false 136 [25]) <|
 aX 27 (pU .not 26) <|
 aX 28 (pM 27) <|
 aX 29 (pG 28 false (pF 1 1 4)) <|
 aX 30 (pG 28 false (pL false 1 29)) <|
 aX 31 (pG 28 false (pB .lss 168 30 (cn (.int .i16 0)))) <|
 aX 32 (pP 28 (cn (.bool true)) 31) <|
 aX 33 (pM 32) <|
 aX 34 (pG 33 false (pL true 2 4)) <|
 aX 35 (pG 33 false (pK c false 137 [34])) <|
 aX 36 (pG 33 false (pB .gtr 2 35 (cn (.int .i64 200)))) <|
 aX 37 (pP 33 (cn (.bool true)) 36) <|
 aXZ
noncomputable def f101_r7 (c : CallF) : RF := rg [2] <| aX 2 (pM (cn (.bool false))) <|
 aXZ
noncomputable def f101_r8 (c : CallF) : RF := rgD [1, 16, 17, 18, 64] (aY 38 (pM 3) <|
 aY 39 (pB .gtr 3 38 (cn (.int .i64 0))) <|
 aY 40 (pM 39) <|
 aY 41 (pG 40 true (pF 1 1 4)) <|
 aY 42 (pG 40 true (pL false 1 41)) <|
 aY 43 (pG 40 true (fun n e M => keep (aConvI .i64 (eget e 42)))) <|
 aY 44 (pG 40 true (pF 1 1 1)) <|
 aY 45 (pG 40 true (pL false 1 44)) <|
 aY 46 (pG 40 true (pM 3)) <|
 aY 47 (pG 40 true (pB .sub 3 46 (cn (.int .i64 1)))) <|
 aY 48 (pG 40 true (pI 2 45 47)) <|
 aY 49 (pG 40 true (pL true 2 48)) <|
 aY 50 (pG 40 true (pK c false 137 [49])) <|
 aY 51 (pG 40 true (pB .leq 2 43 50)) <|
 aY 52 (pG 40 true (pM 51)) <|
 aY 53 (pG 52 false (pF 0 1 4)) <|
 aY 54 (pG 52 false (pL false 1 53)) <|
 aY 55 (pG 52 false (pF 1 1 1)) <|
 aY 56 (pG 52 false (pL false 1 55)) <|
 aY 57 (pG 52 false (pM 3)) <|
 aY 58 (pG 52 false (pB .sub 3 57 (cn (.int .i64 1)))) <|
 aY 59 (pG 52 false (pI 2 56 58)) <|
 aY 60 (pG 52 false (pF 0 1 59)) <|
 aY 61 (pG 52 false (pL false 1 60)) <|
 aY 62 (pG 52 false (pB .gtr 34 54 61)) <|
 aY 63 (pG 40 true (pP 52 (cn (.bool true)) 62)) <|
 aY 64 (pP 40 63 (cn (.bool false))) <|
 aYZ)
 (aXZ)
noncomputable def f101_r9 (c : CallF) : RF := rg [2] <| aX 2 (pM (cn (.bool false))) <|
 aXZ
noncomputable def f101_r10 (c : CallF) : RF := rg [1, 16, 17, 18] <| aX 65 (pB .add 3 18 (cn (.int .i64 1))) <|
 aX 18 (pM 65) <|
 aXZ
noncomputable def f101_r11 (c : CallF) : RF := rg [2] <| aX 2 (pM (cn (.bool true))) <|
 aXZ
noncomputable def f101_l4 (c : CallF) (k : Nat) : St :=
 (bSeq (bReg (f101_r4 c))
 (bSeq (bCond (.tmp 19) (bEx .nrm) (bEx (.ext 0)))
 (bSeq (bBlock 1 (bSeq (bReg (f101_r5 c))
 (bSeq (bSeq (bReg (f101_r6 c))
 (bCond (.tmp 37) (bSeq (bReg (f101_r7 c))
 (bEx .ret)) (bEx .nrm)))
 (bSeq (bReg (f101_r8 c))
 (bCond (.tmp 64) (bSeq (bReg (f101_r9 c))
 (bEx .ret)) (bEx .nrm))))))
 (bReg (f101_r10 c)))))
noncomputable def f101 (c : CallF) (k : Nat) : St :=
 (bSeq (bReg (f101_r0 c))
 (bSeq (bSeq (bReg (f101_r1 c))
 (bCond (.tmp 14) (bSeq (bReg (f101_r2 c))
 (bEx .ret)) (bEx .nrm)))
 (bSeq (bSeq (bReg (f101_r3 c))
 (bBlock 0 (bLoop [1, 16, 17, 18] (f101_l4 c k) k)))
 (bSeq (bReg (f101_r11 c))
 (bEx .ret)))))
theorem f101_eq (c : CallF) (k : Nat) : exec cx c 66 f101_an k (Try.f101.body.getD .skip) = f101 c k := by kernel_rfl
def f102_an : Ann := ⟨[(0, r0 [0]), (1, r0 [2])], []⟩
noncomputable def f102_r0 (c : CallF) : RF := rg [0] <| aX 2 (pM (cn (.bool false))) <|
 aXZ
noncomputable def f102_r1 (c : CallF) : RF := rg [2] <| aX 3 (pM 0) <|
 aX 4 (pB .geq 2 3 (cn (.int .i64 0))) <|
 aX 5 (pM 4) <|
 aX 6 (pG 5 true (pM 0)) <|
 aX 7 (pG 5 true (pB .leq 2 6 (cn (.int .i64 16)))) <|
 aX 8 (pP 5 7 (cn (.bool false))) <|
 aX 2 (pM 8) <|
 aXZ
noncomputable def f102 (c : CallF) (k : Nat) : St :=
 (bSeq (bReg (f102_r0 c))
 (bSeq (bReg (f102_r1 c))
 (bEx .ret)))
theorem f102_eq (c : CallF) (k : Nat) : exec cx c 9 f102_an k (Try.f102.body.getD .skip) = f102 c k := by kernel_rfl
def f103_an : Ann := ⟨[(0, r0 [2, 3, 4]), (1, r0 [6])], []⟩
noncomputable def f103_r0 (c : CallF) : RF := rg [2, 3, 4] <| aX 3 (pBox 18 0) <|
 aX 4 (pBox 18 1) <|
 aX 6 (pM (cn (.bool false))) <|
 aXZ
noncomputable def f103_r1 (c : CallF) : RF := rg [6] <| aX 7 (pF 1 1 3) <|
 aX 8 (pL false 1 7) <|
 aX 9 (pF 1 1 4) <|
 aX 10 (pL false 1 9) <|
 aX 11 (pK c false 138 [8, 10]) <|
 aX 12 (pM 11) <|
 aX 13 (pG 12 true (pF 2 16 3)) <|
 aX 14 (pG 12 true (pL true 16 13)) <|
 aX 15 (pG 12 true (pF 2 16 4)) <|
 aX 16 (pG 12 true (pL true 16 15)) <|
 aX 17 (pG 12 true (pM 2)) <|
 aX 18 (pG 12 true (pK c false 139 [14, 16, 17])) <|
 aX 19 (pP 12 18 (cn (.bool false))) <|
 aX 6 (pM 19) <|
 aXZ
noncomputable def f103 (c : CallF) (k : Nat) : St :=
 (bSeq (bReg (f103_r0 c))
 (bSeq (bReg (f103_r1 c))
 (bEx .ret)))
theorem f103_eq (c : CallF) (k : Nat) : exec cx c 20 f103_an k (Try.f103.body.getD .skip) = f103 c k := by kernel_rfl
def f104_an : Ann := ⟨[(0, r0 [0, 1]), (1, r0 [4])], []⟩
noncomputable def f104_r0 (c : CallF) : RF := rg [0, 1] <| aX 4 (pM (cn (.bool false))) <|
 aXZ
noncomputable def f104_r1 (c : CallF) : RF := rgD [4] (aY 5 (pM 0) <|
 aY 6 (pN 5) <|
 aY 7 (pF 0 1 6) <|
 aY 8 (pL false 1 7) <|
 aY 9 (pM 1) <|
 aY 10 (pN 9) <|
 aY 11 (pF 0 1 10) <|
 aY 12 (pL false 1 11) <|
 aY 13 (pB .eql 4 8 12) <|
 aY 14 (pM 13) <|
 aY 15 (pG 14 true (pM 0)) <|
 aY 16 (pG 14 true (pN 15)) <|
 aY 17 (pG 14 true (pF 2 16 16)) <|
 aY 18 (pG 14 true (pL true 16 17)) <|
 aY 19 (pG 14 true (pM 1)) <|
 aY 20 (pG 14 true (pN 19)) <|
 aY 21 (pG 14 true (pF 2 16 20)) <|
 aY 22 (pG 14 true (pL true 16 21)) <|
 aY 23 (pG 14 true (pB .eql 68 18 22)) <|
 aY 24 (pP 14 23 (cn (.bool false))) <|
 aY 25 (pM 24) <|
 aY 26 (pG 25 true (pM 0)) <|
 aY 27 (pG 25 true (pN 26)) <|
 aY 28 (pG 25 true (pF 1 1 27)) <|
 aY 29 (pG 25 true (pL false 1 28)) <|
 aY 30 (pG 25 true (pM 1)) <|
 aY 31 (pG 25 true (pN 30)) <|
 aY 32 (pG 25 true (pF 1 1 31)) <|
 aY 33 (pG 25 true (pL false 1 32)) <|
 aY 34 (pG 25 true (pK c false 140 [29, 33])) <|
 aY 35 (pP 25 34 (cn (.bool false))) <|
 aY 4 (pM 35) <|
 aYZ)
 (aXZ)
noncomputable def f104 (c : CallF) (k : Nat) : St :=
 (bSeq (bReg (f104_r0 c))
 (bSeq (bReg (f104_r1 c))
 (bEx .ret)))
theorem f104_eq (c : CallF) (k : Nat) : exec cx c 36 f104_an k (Try.f104.body.getD .skip) = f104 c k := by kernel_rfl
def f117_an : Ann := ⟨[(0, r0 [0]), (1, r0 [0, 3]), (2, r0 [0, 3, 13]), (3, r0 [0, 3]), (4, r0 [0, 3]), (5, r0 [0, 3]), (6, r0 [0, 3, 53]), (7, r0 [2]), (8, r0 [2])], []⟩
noncomputable def f117_r0 (c : CallF) : RF := rg [0] <| aX 2 (pM (cn (.int .i64 0))) <|
 aXZ
noncomputable def f117_r1 (c : CallF) : RF := rg [0, 3] <| aX 3 (pM (cn (.int .i64 0))) <|
 aXZ
noncomputable def f117_r2 (c : CallF) : RF := rgD [0, 3, 13] (aY 4 (pM 0) <|
 aY 5 (pN 4) <|
 aY 6 (pF 1 1 5) <|
 aY 7 (pL false 1 6) <|
 aY 8 (pM 0) <|
 aY 9 (pN 8) <|
 aY 10 (pF 0 1 9) <|
 aY 11 (pL false 1 10) <|
 aY 12 (pLen 22 11) <|
 aY 13 (pB .lss 3 7 12) <|
 aYZ)
 (aXZ)
noncomputable def f117_r3 (c : CallF) : RF := rgD [0, 3] (aY 14 (pM 0) <|
 aY 15 (pN 14) <|
 aY 16 (pF 0 1 15) <|
 aY 17 (pL false 1 16) <|
 aY 18 (pM 0) <|
 aY 19 (pN 18) <|
 aY 20 (pF 1 1 19) <|
 aY 21 (pL false 1 20) <|
 aY 22 (pI 1 17 21) <|
 aY 23 (pL false 1 22) <|
 aY 24 (fun n e M => keep (aConvI .i64 (eget e 23))) <|
 aY 3 (pM 24) <|
 aYZ)
 (aXZ)
noncomputable def f117_r4 (c : CallF) : RF := rg [0, 3] <| aX 25 (pM 0) <|
 aX 26 (pN 25) <|
 aX 27 (pF 1 1 26) <|
 aX 28 (pL false 1 27) <|
 aX 29 (pB .add 3 28 (cn (.int .i64 1))) <|
 aX 30 (pN 25) <|
 aX 31 (pF 1 1 30) <|
 aX0 (pS 1 31 29) <|
 aXZ
noncomputable def f117_r5 (c : CallF) : RF := rg [0, 3] <| aX 32 (pM 0) <|
 aX 33 (pM 0) <|
 aX 34 (pN 33) <|
 aX 35 (pF 2 1 34) <|
 aX 36 (pL false 1 35) <|
 aX 37 (pB .mul 140 36 (cn (.int .u64 6364136223846793005))) <|
 aX 38 (pM 3) <|
 aX 39 (fun n e M => keep (aConvI .u64 (eget e 38))) <|
 aX 40 (pB .add 140 37 39) <|
 aX 41 (pB .add 140 40 (cn (.int .u64 1442695040888963407))) <|
 aX 42 (pN 32) <|
 aX 43 (pF 2 1 42) <|
 aX0 (pS 1 43 41) <|
 aXZ
noncomputable def f117_r6 (c : CallF) : RF := rgD [0, 3, 53] (aY 44 (pM 0) <|
 aY 45 (pN 44) <|
 aY 46 (pF 1 1 45) <|
 aY 47 (pL false 1 46) <|
 aY 48 (pM 0) <|
 aY 49 (pN 48) <|
 aY 50 (pF 0 1 49) <|
 aY 51 (pL false 1 50) <|
 aY 52 (pLen 22 51) <|
 aY 53 (pB .leq 3 47 52) <|
 aYZ)
 (aXZ)
noncomputable def f117_r7 (c : CallF) : RF := rg [2] <| aX 54 (pM 3) <|
 aX 2 (pM 54) <|
 aXZ
noncomputable def f117_r8 (c : CallF) : RF := rg [2] <| aX 55 (pM 0) <|
 aX 56 (pN 55) <|
 aX 57 (pF 2 1 56) <|
 aX 58 (pL false 1 57) <|
 aX 59 (pB .shr 140 58 (cn (.int .u64 40))) <|
 aX 60 (pB .and 140 59 (cn (.int .u64 255))) <|
 aX 61 (fun n e M => keep (aConvI .i64 (eget e 60))) <|
 aX 2 (pM 61) <|
 aXZ
noncomputable def f117 (c : CallF) (k : Nat) : St :=
 (bSeq (bReg (f117_r0 c))
 (bSeq (bReg (f117_r1 c))
 (bSeq (bSeq (bReg (f117_r2 c))
 (bCond (.tmp 13) (bReg (f117_r3 c)) (bEx .nrm)))
 (bSeq (bReg (f117_r4 c))
 (bSeq (bReg (f117_r5 c))
 (bSeq (bSeq (bReg (f117_r6 c))
 (bCond (.tmp 53) (bSeq (bReg (f117_r7 c))
 (bEx .ret)) (bEx .nrm)))
 (bSeq (bReg (f117_r8 c))
 (bEx .ret))))))))
theorem f117_eq (c : CallF) (k : Nat) : exec cx c 62 f117_an k (Try.f117.body.getD .skip) = f117 c k := by kernel_rfl
def f118_an : Ann := ⟨[(0, r0 []), (1, r0 [1]), (2, ⟨[0], [], [], [], [1, 2], none, []⟩), (3, r0 [1, 2, 3]), (4, r0 [1, 2, 3, 9]), (5, r0 [1, 2, 3]), (6, ⟨[11], [], [], [], [1, 2, 3], none, []⟩), (7, r0 [0])], [(4, [1, 2, 3])]⟩
noncomputable def f118_r0 (c : CallF) : RF := rg [] <| aX 0 (pM (cn .nils)) <|
 aXZ
noncomputable def f118_r1 (c : CallF) : RF := rg [1] <| aX 4 (pK c false 146 []) <|
 aX 1 (pM 4) <|
 aXZ
noncomputable def f118_r2 (c : CallF) : RF := rg [1, 2] <| aX 5 (fun n e M => aLitO false n 163 2 [] M) <|
 aX 2 (pM 5) <|
 aXZ
noncomputable def f118_r3 (c : CallF) : RF := rg [1, 2, 3] <| aX 3 (pM (cn (.int .i64 0))) <|
 aXZ
noncomputable def f118_r4 (c : CallF) : RF := rg [1, 2, 3, 9] <| aX 6 (pM 3) <|
 aX 7 (pM 1) <|
 aX 8 (pLen 185 7) <|
 aX 9 (pB .lss 3 6 8) <|
 aXZ
noncomputable def f118_r5 (c : CallF) : RF := rg [1, 2, 3] <| aX 10 (pM 3) <|
 aX 11 (pB .add 3 10 (cn (.int .i64 1))) <|
 aX 3 (pM 11) <|
 aXZ
noncomputable def f118_r6 (c : CallF) : RF := rg [1, 2, 3] <| aX 12 (pM 2) <|
 aX 13 (pM 1) <|
 aX 14 (pM 3) <|
 aX 15 (pI 1 13 14) <|
 aX 16 (pL false 1 15) <|
 aX 17 (pM 3) <|
 aX 18 (pB .mul 3 (cn (.int .i64 1000003)) 17) <|
 aX 19 (pB .add 3 18 (cn (.int .i64 77))) <|
 aX 20 (fun n e M => keep (aConvI .u32 (eget e 19))) <|
 aX 21 (fun n e M => keep (aBuild (zeroOf cx.P 163) [(0, 1, (eget e 16)), (1, 1, (eget e 20))] M)) <|
 aX 22 (fun n e M => keep (aLitI 163 2 [(eget e 21)] M)) <|
 aX 23 (fun n e M => aAppO n 163 2 24 (eget e 12) (eget e 22) M) <|
 aX 2 (pM 23) <|
 aXZ
noncomputable def f118_r7 (c : CallF) : RF := rg [0] <| aX 24 (pM 2) <|
 aX 0 (pM 24) <|
 aXZ
noncomputable def f118_l4 (c : CallF) (k : Nat) : St :=
 (bSeq (bSeq (bReg (f118_r4 c))
 (bCond (.tmp 9) (bEx .nrm) (bEx (.ext 0))))
 (bSeq (bBlock 1 (bReg (f118_r6 c)))
 (bReg (f118_r5 c))))
noncomputable def f118 (c : CallF) (k : Nat) : St :=
 (bSeq (bReg (f118_r0 c))
 (bSeq (bReg (f118_r1 c))
 (bSeq (bReg (f118_r2 c))
 (bSeq (bSeq (bReg (f118_r3 c))
 (bBlock 0 (bLoop [1, 2, 3] (f118_l4 c k) k)))
 (bSeq (bReg (f118_r7 c))
 (bEx .ret))))))
theorem f118_eq (c : CallF) (k : Nat) : exec cx c 25 f118_an k (Try.f118.body.getD .skip) = f118 c k := by kernel_rfl
def f119_an : Ann := ⟨[(0, r0 [0, 2]), (1, ⟨[], [3, 4], [], [], [0, 2, 3], none, []⟩), (2, r0 [0, 2, 3, 4]), (3, r0 [0, 2, 3]), (4, r0 [0, 2, 3, 5]), (5, r0 [0, 2, 3, 5, 6]), (6, r0 [0, 2, 3, 5, 6, 7]), (7, r0 [0, 2, 3, 5, 6, 7, 28]), (8, r0 [0, 2, 3, 5, 6, 7]), (9, ⟨[7], [], [], [], [0, 2, 3, 5, 6, 7], none, []⟩), (10, ⟨[], [], [0, 2, 5], [7, 8, 9, 10], [0, 2, 3, 5, 6, 7], some [3, 4], []⟩), (11, r0 [0, 2, 3, 5, 6, 7, 55]), (12, r0 [0, 2, 3, 5, 6, 7]), (13, r0 [2])], [(7, [0, 2, 3, 5, 6, 7])]⟩
noncomputable def f119_r0 (c : CallF) : RF := rg [0, 2] <| aX 2 (pAl 70 18) <|
 aXZ
noncomputable def f119_r1 (c : CallF) : RF := rg [0, 2, 3] <| aX 8 (pM 0) <|
 aX 9 (pK c false 141 [8, (cn (.int .i64 2))]) <|
 aX 10 (fun n e M => keep (aBuild (zeroOf cx.P 70) [(0, 1, (eget e 9))] M)) <|
 aX 3 (fun n e M => gho cx.P true n (oAlloc cx.P n 70 18)) <|
 aX0 (fun n e M => oStoreG cx.P 70 false 18 (eget e 3) (eget e 10) M) <|
 aXZ
noncomputable def f119_r2 (c : CallF) : RF := rg [0, 2, 3, 4] <| aX 11 (pM 0) <|
 aX 12 (pK c false 88 [11, (cn (.int .i64 1073741824))]) <|
 aX 13 (fun n e M => keep (aConvI .u32 (eget e 12))) <|
 aX 4 (pM 13) <|
 aXZ
noncomputable def f119_r3 (c : CallF) : RF := rg [0, 2, 3] <| aX 15 (pM 4) <|
 aX 16 (pK c false 99 [15]) <|
 aX 14 (pM 16) <|
 aX 17 (pE 0 14) <|
 aX 18 (pE 1 14) <|
 aX 19 (pF 2 16 3) <|
 aX0 (pS 16 19 17) <|
 aX 4 (pM 18) <|
 aXZ
noncomputable def f119_r4 (c : CallF) : RF := rg [0, 2, 3, 5] <| aX 20 (pM 0) <|
 aX 21 (pK c false 88 [20, (cn (.int .i64 3))]) <|
 aX 5 (pM 21) <|
 aXZ
noncomputable def f119_r5 (c : CallF) : RF := rg [0, 2, 3, 5, 6] <| aX 22 (pM 0) <|
 aX 23 (pK c false 88 [22, (cn (.int .i64 5))]) <|
 aX 24 (fun n e M => keep (aConvI .i8 (eget e 23))) <|
 aX 6 (pM 24) <|
 aXZ
noncomputable def f119_r6 (c : CallF) : RF := rg [0, 2, 3, 5, 6, 7] <| aX 25 (pM 0) <|
 aX 26 (pK c false 88 [25, (cn (.int .i64 6))]) <|
 aX 7 (pM 26) <|
 aXZ
noncomputable def f119_r7 (c : CallF) : RF := rg [0, 2, 3, 5, 6, 7, 28] <| aX 27 (pM 7) <|
 aX 28 (pB .gtr 2 27 (cn (.int .i64 0))) <|
 aXZ
noncomputable def f119_r8 (c : CallF) : RF := rg [0, 2, 3, 5, 6, 7] <| aX 29 (pM 7) <|
 aX 30 (pB .sub 2 29 (cn (.int .i64 1))) <|
 aX 7 (pM 30) <|
 aXZ
noncomputable def f119_r9 (c : CallF) : RF := rg [0, 2, 3, 5, 6, 7] <| aX 31 (pF 1 1 3) <|
 aX 32 (pL false 1 31) <|
 aX 33 (pM 6) <|
 aX 34 (pM 5) <|
 aX 35 (fun n e M => keep (aConvI .i16 (eget e 34))) <|
 aX 36 (fun n e M => keep (aBuild (zeroOf cx.P 170) [(0, 1, (eget e 33)), (1, 1, (eget e 35))] M)) <|
 aX 37 (fun n e M => keep (aLitI 170 2 [(eget e 36)] M)) <|
 aX 38 (fun n e M => aAppO n 170 2 4 (eget e 32) (eget e 37) M) <|
 aX 39 (pF 1 1 3) <|
 aX0 (pS 1 39 38) <|
 aXZ
noncomputable def f119_r10 (c : CallF) : RF := rgS [0, 2, 3, 5, 6, 7] (aQc 0 false (some 40) (pM 5) <|
 aQ 1 false (some 41) (pK c false 147 []) <|
 aQc 2 false (some 42) (pM 6) <|
 aQs 3 false (some 43) (pI 1 41 42) <|
 aQs 4 false (some 44) (pL false 1 43) <|
 aQc 5 false (some 45) (pB .add 2 44 (cn (.int .i64 1))) <|
 aQ 6 false (some 46) (pM 0) <|
 aQZ)
 (aW [1, 6] (some 47) (pK c false 88 [46, (cn (.int .i64 6))]) <|
 aW [1, 2, 3, 4, 5, 6, 7] (some 48) (pB .add 2 45 47) <|
 aW [0, 1, 2, 3, 4, 5, 6, 7, 8] (some 49) (pB .add 2 40 48) <|
 aW [0, 1, 2, 3, 4, 5, 6, 7, 8, 9] (some 5) (pM 49) <|
 aWZ)
noncomputable def f119_r11 (c : CallF) : RF := rg [0, 2, 3, 5, 6, 7, 55] <| aX 50 (pM 6) <|
 aX 51 (pB .gtr 34 50 (cn (.int .i8 0))) <|
 aX 52 (pM 51) <|
 aX 53 (pG 52 true (pM 0)) <|
 aX 54 (pG 52 true (pK c false 141 [53, (cn (.int .i64 2))])) <|
 aX 55 (pP 52 54 (cn (.bool false))) <|
 aXZ
noncomputable def f119_r12 (c : CallF) : RF := rg [0, 2, 3, 5, 6, 7] <| aX 56 (pM 6) <|
 aX 57 (pB .sub 34 56 (cn (.int .i8 1))) <|
 aX 6 (pM 57) <|
 aXZ
noncomputable def f119_r13 (c : CallF) : RF := rg [2] <| aX 58 (pL true 18 3) <|
 aX0 (pS 18 2 58) <|
 aXZ
noncomputable def f119_l7 (c : CallF) (k : Nat) : St :=
 (bSeq (bSeq (bReg (f119_r7 c))
 (bCond (.tmp 28) (bEx .nrm) (bEx (.ext 0))))
 (bSeq (bBlock 1 (bSeq (bReg (f119_r9 c))
 (bSeq (bReg (f119_r10 c))
 (bSeq (bReg (f119_r11 c))
 (bCond (.tmp 55) (bReg (f119_r12 c)) (bEx .nrm))))))
 (bReg (f119_r8 c))))
noncomputable def f119 (c : CallF) (k : Nat) : St :=
 (bSeq (bReg (f119_r0 c))
 (bSeq (bReg (f119_r1 c))
 (bSeq (bReg (f119_r2 c))
 (bSeq (bReg (f119_r3 c))
 (bSeq (bReg (f119_r4 c))
 (bSeq (bReg (f119_r5 c))
 (bSeq (bSeq (bReg (f119_r6 c))
 (bBlock 0 (bLoop [0, 2, 3, 5, 6, 7] (f119_l7 c k) k)))
 (bSeq (bReg (f119_r13 c))
 (bEx .ret)))))))))
theorem f119_eq (c : CallF) (k : Nat) : exec cx c 59 f119_an k (Try.f119.body.getD .skip) = f119 c k := by kernel_rfl
def f120_an : Ann := ⟨[(0, r0 [2, 3, 4, 6]), (1, r0 [2, 3, 4, 6, 10]), (2, r0 [6, 7]), (3, r0 [2, 3, 4, 6, 14]), (4, r0 [6, 7]), (5, r0 [2, 3, 4, 6, 30]), (6, r0 [6, 7]), (7, r0 [2, 3, 4, 6, 8]), (8, ⟨[], [], [], [8, 9], [6, 7], none, []⟩)], []⟩
noncomputable def f120_r0 (c : CallF) : RF := rg [2, 3, 4, 6] <| aX 3 (pBox 18 0) <|
 aX 4 (pBox 2 1) <|
 aX 6 (pAl 73 20) <|
 aX 7 (pM (cn (.int .i64 0))) <|
 aXZ
noncomputable def f120_r1 (c : CallF) : RF := rg [2, 3, 4, 6, 10] <| aX 9 (pK c false 92 [3]) <|
 aX 10 (pU .not 9) <|
 aXZ
noncomputable def f120_r2 (c : CallF) : RF := rg [6, 7] <| aX 11 (fun n e M => keep (aBuild (zeroOf cx.P 73) [] M)) <|
 aX0 (pS 20 6 11) <|
 aX 7 (pM (cn (.int .i64 1))) <|
 aXZ
noncomputable def f120_r3 (c : CallF) : RF := rg [2, 3, 4, 6, 14] <| aX 12 (pF 0 1 3) <|
 aX 13 (pL false 1 12) <|
 aX 14 (pU .not 13) <|
 aXZ
noncomputable def f120_r4 (c : CallF) : RF := rg [6, 7] <| aX 15 (fun n e M => keep (aBuild (zeroOf cx.P 73) [] M)) <|
 aX0 (pS 20 6 15) <|
 aX 7 (pM (cn (.int .i64 4))) <|
 aXZ
noncomputable def f120_r5 (c : CallF) : RF := rg [2, 3, 4, 6, 30] <| aX 16 (pF 0 1 4) <|
 aX 17 (pL false 1 16) <|
 aX 18 (pK c false 132 [17]) <|
 aX 19 (pU .not 18) <|
 aX 20 (pM 19) <|
 aX 21 (pG 20 false (pM 2)) <|
 aX 22 (pG 20 false (pK c false 132 [21])) <|
 aX 23 (pG 20 false (pU .not 22)) <|
 aX 24 (pP 20 (cn (.bool true)) 23) <|
 aX 25 (pM 24) <|
 aX 26 (pG 25 false (pF 0 1 4)) <|
 aX 27 (pG 25 false (pL false 1 26)) <|
 aX 28 (pG 25 false (pM 2)) <|
 aX 29 (pG 25 false (pB .eql 9 27 28)) <|
 aX 30 (pP 25 (cn (.bool true)) 29) <|
 aXZ
noncomputable def f120_r6 (c : CallF) : RF := rg [6, 7] <| aX 31 (fun n e M => keep (aBuild (zeroOf cx.P 73) [] M)) <|
 aX0 (pS 20 6 31) <|
 aX 7 (pM (cn (.int .i64 2))) <|
 aXZ
noncomputable def f120_r7 (c : CallF) : RF := rg [2, 3, 4, 6, 8] <| aX 32 (pM 2) <|
 aX 33 (pF 1 1 4) <|
 aX 34 (pL false 1 33) <|
 aX 35 (pK c false 148 [3, (cn (.int .u32 0)), 32, 34]) <|
 aX 8 (pM 35) <|
 aXZ
noncomputable def f120_r8 (c : CallF) : RF := rgD [6, 7] (aY 36 (pF 0 1 4) <|
 aY 37 (pL false 1 36) <|
 aY 38 (pK c false 149 [3]) <|
 aY 39 (pM 2) <|
 aY 40 (pM 8) <|
 aY 41 (fun n e M => keep (aBuild (zeroOf cx.P 173) [(0, 1, (eget e 39)), (1, 1, (eget e 40))] M)) <|
 aY 42 (fun n e M => keep (aLitI 173 2 [(eget e 41)] M)) <|
 aY 43 (fun n e M => keep (aBuild (zeroOf cx.P 73) [(0, 1, (eget e 37)), (1, 18, (eget e 38)), (19, 1, (eget e 42))] M)) <|
 aYZ)
 (aX0 (pS 20 6 43) <|
 aX 7 (pM (cn (.int .i64 0))) <|
 aXZ)
noncomputable def f120 (c : CallF) (k : Nat) : St :=
 (bSeq (bReg (f120_r0 c))
 (bSeq (bSeq (bReg (f120_r1 c))
 (bCond (.tmp 10) (bSeq (bReg (f120_r2 c))
 (bEx .ret)) (bEx .nrm)))
 (bSeq (bSeq (bReg (f120_r3 c))
 (bCond (.tmp 14) (bSeq (bReg (f120_r4 c))
 (bEx .ret)) (bEx .nrm)))
 (bSeq (bSeq (bReg (f120_r5 c))
 (bCond (.tmp 30) (bSeq (bReg (f120_r6 c))
 (bEx .ret)) (bEx .nrm)))
 (bSeq (bReg (f120_r7 c))
 (bSeq (bReg (f120_r8 c))
 (bEx .ret)))))))
theorem f120_eq (c : CallF) (k : Nat) : exec cx c 44 f120_an k (Try.f120.body.getD .skip) = f120 c k := by kernel_rfl
def f121_an : Ann := ⟨[(0, r0 [2, 3, 4, 6]), (1, r0 [2, 3, 4, 6, 11]), (2, r0 [6, 7]), (3, r0 [2, 3, 4, 6, 8]), (4, r0 [2, 3, 4, 6, 8, 18]), (5, r0 [6, 7]), (6, r0 [2, 3, 4, 6, 8, 28]), (7, r0 [6, 7]), (8, r0 [2, 3, 4, 6, 8, 33]), (9, r0 [6, 7]), (10, r0 [3, 6, 9]), (11, ⟨[4, 7, 10], [3], [0, 1, 9], [7, 10, 11, 12, 13], [6, 7], some [8], []⟩)], []⟩
noncomputable def f121_r0 (c : CallF) : RF := rg [2, 3, 4, 6] <| aX 3 (pBox 20 0) <|
 aX 4 (pBox 2 1) <|
 aX 6 (pAl 73 20) <|
 aX 7 (pM (cn (.int .i64 0))) <|
 aXZ
noncomputable def f121_r1 (c : CallF) : RF := rg [2, 3, 4, 6, 11] <| aX 10 (pK c false 98 [3]) <|
 aX 11 (pU .not 10) <|
 aXZ
noncomputable def f121_r2 (c : CallF) : RF := rg [6, 7] <| aX 12 (fun n e M => keep (aBuild (zeroOf cx.P 73) [] M)) <|
 aX0 (pS 20 6 12) <|
 aX 7 (pM (cn (.int .i64 1))) <|
 aXZ
noncomputable def f121_r3 (c : CallF) : RF := rg [2, 3, 4, 6, 8] <| aX 13 (pK c false 150 [3]) <|
 aX 8 (pAl 173 2) <|
 aX0 (pS 2 8 13) <|
 aXZ
noncomputable def f121_r4 (c : CallF) : RF := rg [2, 3, 4, 6, 8, 18] <| aX 14 (pF 0 1 4) <|
 aX 15 (pL false 1 14) <|
 aX 16 (pF 0 1 8) <|
 aX 17 (pL false 1 16) <|
 aX 18 (pB .neq 9 15 17) <|
 aXZ
noncomputable def f121_r5 (c : CallF) : RF := rg [6, 7] <| aX 19 (fun n e M => keep (aBuild (zeroOf cx.P 73) [] M)) <|
 aX0 (pS 20 6 19) <|
 aX 7 (pM (cn (.int .i64 4))) <|
 aXZ
noncomputable def f121_r6 (c : CallF) : RF := rg [2, 3, 4, 6, 8, 28] <| aX 20 (pM 2) <|
 aX 21 (pK c false 132 [20]) <|
 aX 22 (pU .not 21) <|
 aX 23 (pM 22) <|
 aX 24 (pG 23 false (pM 2)) <|
 aX 25 (pG 23 false (pF 0 1 4)) <|
 aX 26 (pG 23 false (pL false 1 25)) <|
 aX 27 (pG 23 false (pB .eql 9 24 26)) <|
 aX 28 (pP 23 (cn (.bool true)) 27) <|
 aXZ
noncomputable def f121_r7 (c : CallF) : RF := rg [6, 7] <| aX 29 (fun n e M => keep (aBuild (zeroOf cx.P 73) [] M)) <|
 aX0 (pS 20 6 29) <|
 aX 7 (pM (cn (.int .i64 2))) <|
 aXZ
noncomputable def f121_r8 (c : CallF) : RF := rg [2, 3, 4, 6, 8, 33] <| aX 30 (pF 19 1 3) <|
 aX 31 (pL false 1 30) <|
 aX 32 (pLen 71 31) <|
 aX 33 (pB .geq 3 32 (cn (.int .i64 30))) <|
 aXZ
noncomputable def f121_r9 (c : CallF) : RF := rg [6, 7] <| aX 34 (fun n e M => keep (aBuild (zeroOf cx.P 73) [] M)) <|
 aX0 (pS 20 6 34) <|
 aX 7 (pM (cn (.int .i64 3))) <|
 aXZ
noncomputable def f121_r10 (c : CallF) : RF := rg [3, 6, 9] <| aX 35 (pM 2) <|
 aX 36 (pF 1 18 3) <|
 aX 37 (pF 1 1 8) <|
 aX 38 (pL false 1 37) <|
 aX 39 (pM 2) <|
 aX 40 (pF 1 1 4) <|
 aX 41 (pL false 1 40) <|
 aX 42 (pK c false 148 [36, 38, 39, 41]) <|
 aX 43 (fun n e M => keep (aBuild (zeroOf cx.P 173) [(0, 1, (eget e 35)), (1, 1, (eget e 42))] M)) <|
 aX 9 (pAl 173 2) <|
 aX0 (pS 2 9 43) <|
 aXZ
noncomputable def f121_r11 (c : CallF) : RF := rgS [6, 7] (aQc 0 false (some 44) (pF 0 1 3) <|
 aQc 1 false (some 45) (pL false 1 44) <|
 aQ 2 false (some 46) (pF 1 18 3) <|
 aQ 3 false (some 47) (pK c true 149 [46]) <|
 aQ 4 false (some 48) (fun n e M => aLitO false n 173 2 [] M) <|
 aQ 5 false (some 49) (pF 19 1 3) <|
 aQ 6 false (some 50) (pL false 1 49) <|
 aQs 8 false (some 52) (pL true 2 9) <|
 aQc 9 false (some 53) (fun n e M => keep (aLitI 173 2 [(eget e 52)] M)) <|
 aQZ)
 (aW [2, 3, 4, 5, 6] (some 51) (fun n e M => aAppO n 173 2 24 (eget e 48) (eget e 50) M) <|
 aW [2, 3, 4, 5, 6, 7, 8, 9] (some 54) (fun n e M => aAppO n 173 2 24 (eget e 51) (eget e 53) M) <|
 aW [0, 1, 2, 3, 4, 5, 6, 7, 8, 9, 10] (some 55) (fun n e M => keep (aBuild (zeroOf cx.P 73) [(0, 1, (eget e 45)), (1, 18, (eget e 47)), (19, 1, (eget e 54))] M)) <|
 aW [0, 1, 2, 3, 4, 5, 6, 7, 8, 9, 10, 11] none (pS 20 6 55) <|
 aW [0, 1, 2, 3, 4, 5, 6, 7, 8, 9, 10, 11, 12] (some 7) (pM (cn (.int .i64 0))) <|
 aWZ)
noncomputable def f121 (c : CallF) (k : Nat) : St :=
 (bSeq (bReg (f121_r0 c))
 (bSeq (bSeq (bReg (f121_r1 c))
 (bCond (.tmp 11) (bSeq (bReg (f121_r2 c))
 (bEx .ret)) (bEx .nrm)))
 (bSeq (bReg (f121_r3 c))
 (bSeq (bSeq (bReg (f121_r4 c))
 (bCond (.tmp 18) (bSeq (bReg (f121_r5 c))
 (bEx .ret)) (bEx .nrm)))
 (bSeq (bSeq (bReg (f121_r6 c))
 (bCond (.tmp 28) (bSeq (bReg (f121_r7 c))
 (bEx .ret)) (bEx .nrm)))
 (bSeq (bSeq (bReg (f121_r8 c))
 (bCond (.tmp 33) (bSeq (bReg (f121_r9 c))
 (bEx .ret)) (bEx .nrm)))
 (bSeq (bReg (f121_r10 c))
 (bSeq (bReg (f121_r11 c))
 (bEx .ret)))))))))
theorem f121_eq (c : CallF) (k : Nat) : exec cx c 56 f121_an k (Try.f121.body.getD .skip) = f121 c k := by kernel_rfl
def f122_an : Ann := ⟨[(0, r0 [0]), (1, r0 [0, 7]), (2, r0 [2]), (3, r0 [0, 3]), (4, r0 [0, 3, 11]), (5, r0 [0, 3]), (6, r0 [0, 3, 4]), (7, r0 [0, 3, 4, 32]), (8, r0 [2]), (9, r0 [0, 3, 57]), (10, r0 [2]), (11, r0 [2])], [(4, [0, 3])]⟩
noncomputable def f122_r0 (c : CallF) : RF := rg [0] <| aX 2 (pM (cn (.bool false))) <|
 aXZ
noncomputable def f122_r1 (c : CallF) : RF := rg [0, 7] <| aX 5 (pM 0) <|
 aX 6 (pLen 66 5) <|
 aX 7 (pB .gtr 3 6 (cn (.int .i64 60))) <|
 aXZ
noncomputable def f122_r2 (c : CallF) : RF := rg [2] <| aX 2 (pM (cn (.bool false))) <|
 aXZ
noncomputable def f122_r3 (c : CallF) : RF := rg [0, 3] <| aX 3 (pM (cn (.int .i64 0))) <|
 aXZ
noncomputable def f122_r4 (c : CallF) : RF := rg [0, 3, 11] <| aX 8 (pM 3) <|
 aX 9 (pM 0) <|
 aX 10 (pLen 66 9) <|
 aX 11 (pB .lss 3 8 10) <|
 aXZ
noncomputable def f122_r5 (c : CallF) : RF := rg [0, 3] <| aX 12 (pM 3) <|
 aX 13 (pB .add 3 12 (cn (.int .i64 1))) <|
 aX 3 (pM 13) <|
 aXZ
noncomputable def f122_r6 (c : CallF) : RF := rg [0, 3, 4] <| aX 14 (pM 0) <|
 aX 15 (pM 3) <|
 aX 16 (pI 2 14 15) <|
 aX 17 (pL true 2 16) <|
 aX 4 (pAl 170 2) <|
 aX0 (pS 2 4 17) <|
 aXZ
noncomputable def f122_r7 (c : CallF) : RF := rg [0, 3, 4, 32] <| aX 18 (pF 0 1 4) <|
 aX 19 (pL false 1 18) <|
 aX 20 (fun n e M => keep (aConvI .i64 (eget e 19))) <|
 aX 21 (pK c false 151 [20]) <|
 aX 22 (pU .not 21) <|
 aX 23 (pM 22) <|
 aX 24 (pG 23 false (pF 1 1 4)) <|
 aX 25 (pG 23 false (pL false 1 24)) <|
 aX 26 (pG 23 false (pB .lss 168 25 (cn (.int .i16 0)))) <|
 aX 27 (pP 23 (cn (.bool true)) 26) <|
 aX 28 (pM 27) <|
 aX 29 (pG 28 false (pL true 2 4)) <|
 aX 30 (pG 28 false (pK c false 152 [29])) <|
 aX 31 (pG 28 false (pB .gtr 2 30 (cn (.int .i64 200)))) <|
 aX 32 (pP 28 (cn (.bool true)) 31) <|
 aXZ
noncomputable def f122_r8 (c : CallF) : RF := rg [2] <| aX 2 (pM (cn (.bool false))) <|
 aXZ
noncomputable def f122_r9 (c : CallF) : RF := rgD [0, 3, 57] (aY 33 (pM 3) <|
 aY 34 (pB .gtr 3 33 (cn (.int .i64 0))) <|
 aY 35 (pM 34) <|
 aY 36 (pG 35 true (pF 0 1 4)) <|
 aY 37 (pG 35 true (pL false 1 36)) <|
 aY 38 (pG 35 true (pM 0)) <|
 aY 39 (pG 35 true (pM 3)) <|
 aY 40 (pG 35 true (pB .sub 3 39 (cn (.int .i64 1)))) <|
 aY 41 (pG 35 true (pI 2 38 40)) <|
 aY 42 (pG 35 true (pF 0 1 41)) <|
 aY 43 (pG 35 true (pL false 1 42)) <|
 aY 44 (pG 35 true (pB .gtr 34 37 43)) <|
 aY 45 (pG 35 true (pM 44)) <|
 aY 46 (pG 45 false (pF 1 1 4)) <|
 aY 47 (pG 45 false (pL false 1 46)) <|
 aY 48 (pG 45 false (fun n e M => keep (aConvI .i64 (eget e 47)))) <|
 aY 49 (pG 45 false (pM 0)) <|
 aY 50 (pG 45 false (pM 3)) <|
 aY 51 (pG 45 false (pB .sub 3 50 (cn (.int .i64 1)))) <|
 aY 52 (pG 45 false (pI 2 49 51)) <|
 aY 53 (pG 45 false (pL true 2 52)) <|
 aY 54 (pG 45 false (pK c false 152 [53])) <|
 aY 55 (pG 45 false (pB .leq 2 48 54)) <|
 aY 56 (pG 35 true (pP 45 (cn (.bool true)) 55)) <|
 aY 57 (pP 35 56 (cn (.bool false))) <|
 aYZ)
 (aXZ)
noncomputable def f122_r10 (c : CallF) : RF := rg [2] <| aX 2 (pM (cn (.bool false))) <|
 aXZ
noncomputable def f122_r11 (c : CallF) : RF := rg [2] <| aX 2 (pM (cn (.bool true))) <|
 aXZ
noncomputable def f122_l4 (c : CallF) (k : Nat) : St :=
 (bSeq (bSeq (bReg (f122_r4 c))
 (bCond (.tmp 11) (bEx .nrm) (bEx (.ext 0))))
 (bSeq (bBlock 1 (bSeq (bReg (f122_r6 c))
 (bSeq (bSeq (bReg (f122_r7 c))
 (bCond (.tmp 32) (bSeq (bReg (f122_r8 c))
 (bEx .ret)) (bEx .nrm)))
 (bSeq (bReg (f122_r9 c))
 (bCond (.tmp 57) (bSeq (bReg (f122_r10 c))
 (bEx .ret)) (bEx .nrm))))))
 (bReg (f122_r5 c))))
noncomputable def f122 (c : CallF) (k : Nat) : St :=
 (bSeq (bReg (f122_r0 c))
 (bSeq (bSeq (bReg (f122_r1 c))
 (bCond (.tmp 7) (bSeq (bReg (f122_r2 c))
 (bEx .ret)) (bEx .nrm)))
 (bSeq (bSeq (bReg (f122_r3 c))
 (bBlock 0 (bLoop [0, 3] (f122_l4 c k) k)))
 (bSeq (bReg (f122_r11 c))
 (bEx .ret)))))
theorem f122_eq (c : CallF) (k : Nat) : exec cx c 58 f122_an k (Try.f122.body.getD .skip) = f122 c k := by kernel_rfl
def f123_an : Ann := ⟨[(0, r0 [1]), (1, r0 [1, 3]), (2, r0 [1, 3, 5]), (3, r0 [1, 3]), (4, r0 [1, 3, 17]), (5, r0 [2]), (6, r0 [2])], [(2, [1, 3])]⟩
noncomputable def f123_r0 (c : CallF) : RF := rg [1] <| aX 1 (pBox 16 0) <|
 aX 2 (pM (cn (.bool false))) <|
 aXZ
noncomputable def f123_r1 (c : CallF) : RF := rg [1, 3] <| aX 3 (pM (cn (.int .i64 0))) <|
 aXZ
noncomputable def f123_r2 (c : CallF) : RF := rg [1, 3, 5] <| aX 4 (pM 3) <|
 aX 5 (pB .lss 3 4 (cn (.int .i64 16))) <|
 aXZ
noncomputable def f123_r3 (c : CallF) : RF := rg [1, 3] <| aX 6 (pM 3) <|
 aX 7 (pB .add 3 6 (cn (.int .i64 1))) <|
 aX 3 (pM 7) <|
 aXZ
noncomputable def f123_r4 (c : CallF) : RF := rg [1, 3, 17] <| aX 8 (pM 3) <|
 aX 9 (fun n e M => keep (aIndexP 16 1 (eget e 1) (eget e 8) M)) <|
 aX 10 (pL false 1 9) <|
 aX 11 (pB .lss 34 10 (cn (.int .i8 (-3)))) <|
 aX 12 (pM 11) <|
 aX 13 (pG 12 false (pM 3)) <|
 aX 14 (pG 12 false (fun n e M => keep (aIndexP 16 1 (eget e 1) (eget e 13) M))) <|
 aX 15 (pG 12 false (pL false 1 14)) <|
 aX 16 (pG 12 false (pB .gtr 34 15 (cn (.int .i8 3)))) <|
 aX 17 (pP 12 (cn (.bool true)) 16) <|
 aXZ
noncomputable def f123_r5 (c : CallF) : RF := rg [2] <| aX 2 (pM (cn (.bool false))) <|
 aXZ
noncomputable def f123_r6 (c : CallF) : RF := rg [2] <| aX 2 (pM (cn (.bool true))) <|
 aXZ
noncomputable def f123_l2 (c : CallF) (k : Nat) : St :=
 (bSeq (bSeq (bReg (f123_r2 c))
 (bCond (.tmp 5) (bEx .nrm) (bEx (.ext 0))))
 (bSeq (bBlock 1 (bSeq (bReg (f123_r4 c))
 (bCond (.tmp 17) (bSeq (bReg (f123_r5 c))
 (bEx .ret)) (bEx .nrm))))
 (bReg (f123_r3 c))))
noncomputable def f123 (c : CallF) (k : Nat) : St :=
 (bSeq (bReg (f123_r0 c))
 (bSeq (bSeq (bReg (f123_r1 c))
 (bBlock 0 (bLoop [1, 3] (f123_l2 c k) k)))
 (bSeq (bReg (f123_r6 c))
 (bEx .ret))))
theorem f123_eq (c : CallF) (k : Nat) : exec cx c 18 f123_an k (Try.f123.body.getD .skip) = f123 c k := by kernel_rfl
def f124_an : Ann := ⟨[(0, r0 []), (1, r0 [0])], []⟩
noncomputable def f124_r0 (c : CallF) : RF := rg [] <| aX 0 (pM (cn .nils)) <|
 aXZ
noncomputable def f124_r1 (c : CallF) : RF := rg [0] <| aX 1 (fun n e M => keep (aLitI 2 1 [(.int .i64 1), (.int .i64 12), (.int .i64 240), (.int .i64 4800), (.int .i64 24000), (.int .i64 240000)] M)) <|
 aX 0 (pM 1) <|
 aXZ
noncomputable def f124 (c : CallF) (k : Nat) : St :=
 (bSeq (bReg (f124_r0 c))
 (bSeq (bReg (f124_r1 c))
 (bEx .ret)))
theorem f124_eq (c : CallF) (k : Nat) : exec cx c 2 f124_an k (Try.f124.body.getD .skip) = f124 c k := by kernel_rfl
def f125_an : Ann := ⟨[(0, r0 [0]), (1, r0 [2])], []⟩
noncomputable def f125_r0 (c : CallF) : RF := rg [0] <| aX 2 (pM (cn (.bool false))) <|
 aXZ
noncomputable def f125_r1 (c : CallF) : RF := rg [2] <| aX 3 (pM 0) <|
 aX 4 (pK c false 153 [3, (cn (.int .i64 12))]) <|
 aX 2 (pM 4) <|
 aXZ
noncomputable def f125 (c : CallF) (k : Nat) : St :=
 (bSeq (bReg (f125_r0 c))
 (bSeq (bReg (f125_r1 c))
 (bEx .ret)))
theorem f125_eq (c : CallF) (k : Nat) : exec cx c 5 f125_an k (Try.f125.body.getD .skip) = f125 c k := by kernel_rfl
def f126_an : Ann := ⟨[(0, r0 [0]), (1, r0 [2])], []⟩
noncomputable def f126_r0 (c : CallF) : RF := rg [0] <| aX 2 (pM (cn (.int .i64 0))) <|
 aXZ
noncomputable def f126_r1 (c : CallF) : RF := rg [2] <| aX 3 (fun n e M => keep (aLitI 2 1 [(.int .i64 1), (.int .i64 12), (.int .i64 240), (.int .i64 4800), (.int .i64 24000), (.int .i64 240000)] M)) <|
 aX 4 (pM 0) <|
 aX 5 (pI 1 3 4) <|
 aX 6 (pL false 1 5) <|
 aX 2 (pM 6) <|
 aXZ
noncomputable def f126 (c : CallF) (k : Nat) : St :=
 (bSeq (bReg (f126_r0 c))
 (bSeq (bReg (f126_r1 c))
 (bEx .ret)))
theorem f126_eq (c : CallF) (k : Nat) : exec cx c 7 f126_an k (Try.f126.body.getD .skip) = f126 c k := by kernel_rfl
def f127_an : Ann := ⟨[(0, r0 [0]), (1, r0 [2])], []⟩
noncomputable def f127_r0 (c : CallF) : RF := rg [0] <| aX 2 (pM (cn (.int .u32 0))) <|
 aXZ
noncomputable def f127_r1 (c : CallF) : RF := rg [2] <| aX 3 (pM 0) <|
 aX 4 (pB .mul 77 (cn (.int .u32 1664525)) 3) <|
 aX 5 (pB .add 77 4 (cn (.int .u32 1013904223))) <|
 aX 2 (pM 5) <|
 aXZ
noncomputable def f127 (c : CallF) (k : Nat) : St :=
 (bSeq (bReg (f127_r0 c))
 (bSeq (bReg (f127_r1 c))
 (bEx .ret)))
theorem f127_eq (c : CallF) (k : Nat) : exec cx c 6 f127_an k (Try.f127.body.getD .skip) = f127 c k := by kernel_rfl
def f128_an : Ann := ⟨[(0, r0 [1]), (1, r0 [5, 6]), (2, r0 [5, 6, 7]), (3, r0 [4, 5, 6]), (4, r0 [5, 6, 14]), (5, r0 [2]), (6, r0 [5, 6]), (7, r0 [2])], [(2, [5, 6])]⟩
noncomputable def f128_r0 (c : CallF) : RF := rg [1] <| aX 1 (pBox 16 0) <|
 aX 2 (pM (cn (.bool false))) <|
 aXZ
noncomputable def f128_r1 (c : CallF) : RF := rg [5, 6] <| aX 5 (pL true 16 1) <|
 aX 6 (pM (cn (.int .i64 0))) <|
 aXZ
noncomputable def f128_r2 (c : CallF) : RF := rg [5, 6, 7] <| aX 7 (pB .lss 3 6 (cn (.int .i64 16))) <|
 aXZ
noncomputable def f128_r3 (c : CallF) : RF := rg [4, 5, 6] <| aX 8 (fun n e M => keep (aIndexA false 16 1 (eget e 5) (eget e 6))) <|
 aX 4 (pM 8) <|
 aXZ
noncomputable def f128_r4 (c : CallF) : RF := rg [5, 6, 14] <| aX 9 (pM 4) <|
 aX 10 (pB .lss 34 9 (cn (.int .i8 (-3)))) <|
 aX 11 (pM 10) <|
 aX 12 (pG 11 false (pM 4)) <|
 aX 13 (pG 11 false (pB .gtr 34 12 (cn (.int .i8 3)))) <|
 aX 14 (pP 11 (cn (.bool true)) 13) <|
 aXZ
noncomputable def f128_r5 (c : CallF) : RF := rg [2] <| aX 2 (pM (cn (.bool false))) <|
 aXZ
noncomputable def f128_r6 (c : CallF) : RF := rg [5, 6] <| aX 15 (pB .add 3 6 (cn (.int .i64 1))) <|
 aX 6 (pM 15) <|
 aXZ
noncomputable def f128_r7 (c : CallF) : RF := rg [2] <| aX 2 (pM (cn (.bool true))) <|
 aXZ
noncomputable def f128_l2 (c : CallF) (k : Nat) : St :=
 (bSeq (bReg (f128_r2 c))
 (bSeq (bCond (.tmp 7) (bEx .nrm) (bEx (.ext 0)))
 (bSeq (bBlock 1 (bSeq (bReg (f128_r3 c))
 (bSeq (bReg (f128_r4 c))
 (bCond (.tmp 14) (bSeq (bReg (f128_r5 c))
 (bEx .ret)) (bEx .nrm)))))
 (bReg (f128_r6 c)))))
noncomputable def f128 (c : CallF) (k : Nat) : St :=
 (bSeq (bReg (f128_r0 c))
 (bSeq (bSeq (bReg (f128_r1 c))
 (bBlock 0 (bLoop [5, 6] (f128_l2 c k) k)))
 (bSeq (bReg (f128_r7 c))
 (bEx .ret))))
theorem f128_eq (c : CallF) (k : Nat) : exec cx c 16 f128_an k (Try.f128.body.getD .skip) = f128 c k := by kernel_rfl
def f129_an : Ann := ⟨[(0, r0 [0]), (1, r0 [0, 9]), (2, r0 [2, 3]), (3, ⟨[0], [], [], [], [0, 4, 5], none, []⟩), (4, r0 [0, 4, 5, 6]), (5, r0 [0, 4, 5, 6, 12]), (6, r0 [0, 4, 5, 6]), (7, r0 [0, 4, 5, 6, 18]), (8, r0 [0, 4, 5, 6]), (9, ⟨[7], [], [], [], [0, 4, 5, 6], none, []⟩), (10, r0 [0, 4, 5, 6]), (11, r0 [0, 4, 5, 6, 38]), (12, r0 [2, 3]), (13, r0 [4, 42]), (14, r0 [2, 3]), (15, r0 [2, 3])], [(7, [0, 4, 5, 6]), (5, [0, 4, 5, 6])]⟩
noncomputable def f129_r0 (c : CallF) : RF := rg [0] <| aX 2 (pM (cn .nils)) <|
 aX 3 (pM (cn (.int .i64 0))) <|
 aXZ
noncomputable def f129_r1 (c : CallF) : RF := rg [0, 9] <| aX 7 (pM 0) <|
 aX 8 (pK c false 74 [7]) <|
 aX 9 (pU .not 8) <|
 aXZ
noncomputable def f129_r2 (c : CallF) : RF := rg [2, 3] <| aX 2 (pM (cn .nils)) <|
 aX 3 (pM (cn (.int .i64 2))) <|
 aXZ
noncomputable def f129_r3 (c : CallF) : RF := rg [0, 4, 5] <| aX 10 (fun n e M => aLitO false n 170 2 [] M) <|
 aX 4 (pM 10) <|
 aX 5 (pM (cn (.int .i64 0))) <|
 aXZ
noncomputable def f129_r4 (c : CallF) : RF := rg [0, 4, 5, 6] <| aX 6 (pM (cn (.int .i64 5))) <|
 aXZ
noncomputable def f129_r5 (c : CallF) : RF := rg [0, 4, 5, 6, 12] <| aX 11 (pM 6) <|
 aX 12 (pB .geq 2 11 (cn (.int .i64 0))) <|
 aXZ
noncomputable def f129_r6 (c : CallF) : RF := rg [0, 4, 5, 6] <| aX 13 (pM 6) <|
 aX 14 (pB .sub 2 13 (cn (.int .i64 1))) <|
 aX 6 (pM 14) <|
 aXZ
noncomputable def f129_r7 (c : CallF) : RF := rg [0, 4, 5, 6, 18] <| aX 15 (pM 0) <|
 aX 16 (pM 6) <|
 aX 17 (pK c false 126 [16]) <|
 aX 18 (pB .geq 2 15 17) <|
 aXZ
noncomputable def f129_r8 (c : CallF) : RF := rg [0, 4, 5, 6] <| aX 19 (pM 0) <|
 aX 20 (pM 6) <|
 aX 21 (pK c false 126 [20]) <|
 aX 22 (pB .sub 2 19 21) <|
 aX 0 (pM 22) <|
 aXZ
noncomputable def f129_r9 (c : CallF) : RF := rg [0, 4, 5, 6] <| aX 23 (pM 4) <|
 aX 24 (pM 6) <|
 aX 25 (fun n e M => keep (aConvI .i8 (eget e 24))) <|
 aX 26 (pM 5) <|
 aX 27 (fun n e M => keep (aConvI .i16 (eget e 26))) <|
 aX 28 (fun n e M => keep (aBuild (zeroOf cx.P 170) [(0, 1, (eget e 25)), (1, 1, (eget e 27))] M)) <|
 aX 29 (fun n e M => keep (aLitI 170 2 [(eget e 28)] M)) <|
 aX 30 (fun n e M => aAppO n 170 2 4 (eget e 23) (eget e 29) M) <|
 aX 4 (pM 30) <|
 aXZ
noncomputable def f129_r10 (c : CallF) : RF := rg [0, 4, 5, 6] <| aX 31 (pM 5) <|
 aX 32 (pM 6) <|
 aX 33 (pK c false 154 [32]) <|
 aX 34 (pB .add 2 33 (cn (.int .i64 1))) <|
 aX 35 (pB .add 2 31 34) <|
 aX 5 (pM 35) <|
 aXZ
noncomputable def f129_r11 (c : CallF) : RF := rg [0, 4, 5, 6, 38] <| aX 36 (pM 4) <|
 aX 37 (pLen 66 36) <|
 aX 38 (pB .gtr 3 37 (cn (.int .i64 60))) <|
 aXZ
noncomputable def f129_r12 (c : CallF) : RF := rg [2, 3] <| aX 2 (pM (cn .nils)) <|
 aX 3 (pM (cn (.int .i64 3))) <|
 aXZ
noncomputable def f129_r13 (c : CallF) : RF := rg [4, 42] <| aX 39 (pM 4) <|
 aX 40 (fun n e M => keep (aBuild (zeroOf cx.P 70) [(1, 1, (eget e 39))] M)) <|
 aX 41 (pK c false 101 [40]) <|
 aX 42 (pU .not 41) <|
 aXZ
noncomputable def f129_r14 (c : CallF) : RF := rg [2, 3] <| aX 2 (pM (cn .nils)) <|
 aX 3 (pM (cn (.int .i64 3))) <|
 aXZ
noncomputable def f129_r15 (c : CallF) : RF := rg [2, 3] <| aX 43 (pM 4) <|
 aX 2 (pM 43) <|
 aX 3 (pM (cn (.int .i64 0))) <|
 aXZ
noncomputable def f129_l7 (c : CallF) (k : Nat) : St :=
 (bSeq (bSeq (bReg (f129_r7 c))
 (bCond (.tmp 18) (bEx .nrm) (bEx (.ext 2))))
 (bSeq (bBlock 3 (bSeq (bReg (f129_r9 c))
 (bSeq (bReg (f129_r10 c))
 (bSeq (bReg (f129_r11 c))
 (bCond (.tmp 38) (bSeq (bReg (f129_r12 c))
 (bEx .ret)) (bEx .nrm))))))
 (bReg (f129_r8 c))))
noncomputable def f129_l5 (c : CallF) (k : Nat) : St :=
 (bSeq (bSeq (bReg (f129_r5 c))
 (bCond (.tmp 12) (bEx .nrm) (bEx (.ext 0))))
 (bSeq (bBlock 1 (bBlock 2 (bLoop [0, 4, 5, 6] (f129_l7 c k) k)))
 (bReg (f129_r6 c))))
noncomputable def f129 (c : CallF) (k : Nat) : St :=
 (bSeq (bReg (f129_r0 c))
 (bSeq (bSeq (bReg (f129_r1 c))
 (bCond (.tmp 9) (bSeq (bReg (f129_r2 c))
 (bEx .ret)) (bEx .nrm)))
 (bSeq (bReg (f129_r3 c))
 (bSeq (bSeq (bReg (f129_r4 c))
 (bBlock 0 (bLoop [0, 4, 5, 6] (f129_l5 c k) k)))
 (bSeq (bSeq (bReg (f129_r13 c))
 (bCond (.tmp 42) (bSeq (bReg (f129_r14 c))
 (bEx .ret)) (bEx .nrm)))
 (bSeq (bReg (f129_r15 c))
 (bEx .ret)))))))
theorem f129_eq (c : CallF) (k : Nat) : exec cx c 44 f129_an k (Try.f129.body.getD .skip) = f129 c k := by kernel_rfl
def f130_an : Ann := ⟨[(0, r0 [0]), (1, r0 [0, 4]), (2, r0 [2]), (3, r0 [2])], []⟩
noncomputable def f130_r0 (c : CallF) : RF := rg [0] <| aX 2 (pM (cn .nils)) <|
 aXZ
noncomputable def f130_r1 (c : CallF) : RF := rg [0, 4] <| aX 3 (pM 0) <|
 aX 4 (pB .eql 66 3 (cn .nils)) <|
 aXZ
noncomputable def f130_r2 (c : CallF) : RF := rg [2] <| aX 2 (pM (cn .nils)) <|
 aXZ
noncomputable def f130_r3 (c : CallF) : RF := rg [2] <| aX 5 (fun n e M => keep (aLitI 170 2 [] M)) <|
 aX 6 (pM 0) <|
 aX 7 (fun n e M => aAppI 170 2 4 (eget e 5) (eget e 6) M) <|
 aX 2 (pM 7) <|
 aXZ
noncomputable def f130 (c : CallF) (k : Nat) : St :=
 (bSeq (bReg (f130_r0 c))
 (bSeq (bSeq (bReg (f130_r1 c))
 (bCond (.tmp 4) (bSeq (bReg (f130_r2 c))
 (bEx .ret)) (bEx .nrm)))
 (bSeq (bReg (f130_r3 c))
 (bEx .ret))))
theorem f130_eq (c : CallF) (k : Nat) : exec cx c 8 f130_an k (Try.f130.body.getD .skip) = f130 c k := by kernel_rfl
def f131_an : Ann := ⟨[(0, ⟨[0], [], [], [], [1, 2], none, []⟩), (1, r0 [1, 2, 4]), (2, r0 [1, 2, 4, 5]), (3, r0 [1, 2, 3, 4]), (4, r0 [1, 2, 4]), (5, r0 [1, 2, 4]), (6, r0 [2])], [(2, [1, 2, 4])]⟩
noncomputable def f131_r0 (c : CallF) : RF := rg [1, 2] <| aX 1 (fun n e M => aBoxO n 68 16 (eget e 0) M) <|
 aX 2 (pAl 68 16) <|
 aXZ
noncomputable def f131_r1 (c : CallF) : RF := rg [1, 2, 4] <| aX 4 (pM (cn (.int .i64 0))) <|
 aXZ
noncomputable def f131_r2 (c : CallF) : RF := rg [1, 2, 4, 5] <| aX 5 (pB .lss 3 4 (cn (.int .i64 16))) <|
 aXZ
noncomputable def f131_r3 (c : CallF) : RF := rg [1, 2, 3, 4] <| aX 6 (pM 4) <|
 aX 3 (pM 6) <|
 aXZ
noncomputable def f131_r4 (c : CallF) : RF := rg [1, 2, 4] <| aX 7 (pM 3) <|
 aX 8 (pM 3) <|
 aX 9 (fun n e M => keep (aIndexP 16 1 (eget e 1) (eget e 8) M)) <|
 aX 10 (pL false 1 9) <|
 aX 11 (pU .neg 10) <|
 aX 12 (fun n e M => keep (aIndexP 16 1 (eget e 1) (eget e 7) M)) <|
 aX0 (pS 1 12 11) <|
 aXZ
noncomputable def f131_r5 (c : CallF) : RF := rg [1, 2, 4] <| aX 13 (pB .add 3 4 (cn (.int .i64 1))) <|
 aX 4 (pM 13) <|
 aXZ
noncomputable def f131_r6 (c : CallF) : RF := rg [2] <| aX 14 (pL true 16 1) <|
 aX0 (pS 16 2 14) <|
 aXZ
noncomputable def f131_l2 (c : CallF) (k : Nat) : St :=
 (bSeq (bReg (f131_r2 c))
 (bSeq (bCond (.tmp 5) (bEx .nrm) (bEx (.ext 0)))
 (bSeq (bBlock 1 (bSeq (bReg (f131_r3 c))
 (bReg (f131_r4 c))))
 (bReg (f131_r5 c)))))
noncomputable def f131 (c : CallF) (k : Nat) : St :=
 (bSeq (bReg (f131_r0 c))
 (bSeq (bSeq (bReg (f131_r1 c))
 (bBlock 0 (bLoop [1, 2, 4] (f131_l2 c k) k)))
 (bSeq (bReg (f131_r6 c))
 (bEx .ret))))
theorem f131_eq (c : CallF) (k : Nat) : exec cx c 15 f131_an k (Try.f131.body.getD .skip) = f131 c k := by kernel_rfl
def f132_an : Ann := ⟨[(0, r0 [0]), (1, r0 [0, 3]), (2, r0 [0, 3, 7]), (3, r0 [0, 3]), (4, r0 [0, 3, 19]), (5, r0 [2]), (6, r0 [2])], [(2, [0, 3])]⟩
noncomputable def f132_r0 (c : CallF) : RF := rg [0] <| aX 2 (pM (cn (.bool false))) <|
 aXZ
noncomputable def f132_r1 (c : CallF) : RF := rg [0, 3] <| aX 3 (pM (cn (.int .i64 0))) <|
 aXZ
noncomputable def f132_r2 (c : CallF) : RF := rg [0, 3, 7] <| aX 4 (pM 3) <|
 aX 5 (pM 0) <|
 aX 6 (pLen 9 5) <|
 aX 7 (pB .lss 3 4 6) <|
 aXZ
noncomputable def f132_r3 (c : CallF) : RF := rg [0, 3] <| aX 8 (pM 3) <|
 aX 9 (pB .add 3 8 (cn (.int .i64 1))) <|
 aX 3 (pM 9) <|
 aXZ
noncomputable def f132_r4 (c : CallF) : RF := rg [0, 3, 19] <| aX 10 (pM 0) <|
 aX 11 (pM 3) <|
 aX 12 (fun n e M => keep (aIndexB (eget e 10) (eget e 11))) <|
 aX 13 (pB .lss 5 12 (cn (.int .u8 97))) <|
 aX 14 (pM 13) <|
 aX 15 (pG 14 false (pM 0)) <|
 aX 16 (pG 14 false (pM 3)) <|
 aX 17 (pG 14 false (fun n e M => keep (aIndexB (eget e 15) (eget e 16)))) <|
 aX 18 (pG 14 false (pB .gtr 5 17 (cn (.int .u8 122)))) <|
 aX 19 (pP 14 (cn (.bool true)) 18) <|
 aXZ
noncomputable def f132_r5 (c : CallF) : RF := rg [2] <| aX 2 (pM (cn (.bool false))) <|
 aXZ
noncomputable def f132_r6 (c : CallF) : RF := rg [2] <| aX 20 (pM 0) <|
 aX 21 (pB .neq 9 20 (cn (.str []))) <|
 aX 22 (pM 21) <|
 aX 23 (pG 22 true (pM 0)) <|
 aX 24 (pG 22 true (pLen 9 23)) <|
 aX 25 (pG 22 true (pB .leq 3 24 (cn (.int .i64 12)))) <|
 aX 26 (pP 22 25 (cn (.bool false))) <|
 aX 2 (pM 26) <|
 aXZ
noncomputable def f132_l2 (c : CallF) (k : Nat) : St :=
 (bSeq (bSeq (bReg (f132_r2 c))
 (bCond (.tmp 7) (bEx .nrm) (bEx (.ext 0))))
 (bSeq (bBlock 1 (bSeq (bReg (f132_r4 c))
 (bCond (.tmp 19) (bSeq (bReg (f132_r5 c))
 (bEx .ret)) (bEx .nrm))))
 (bReg (f132_r3 c))))
noncomputable def f132 (c : CallF) (k : Nat) : St :=
 (bSeq (bReg (f132_r0 c))
 (bSeq (bSeq (bReg (f132_r1 c))
 (bBlock 0 (bLoop [0, 3] (f132_l2 c k) k)))
 (bSeq (bReg (f132_r6 c))
 (bEx .ret))))
theorem f132_eq (c : CallF) (k : Nat) : exec cx c 27 f132_an k (Try.f132.body.getD .skip) = f132 c k := by kernel_rfl
def f133_an : Ann := ⟨[(0, r0 [0]), (1, r0 [0, 8]), (2, r0 [2, 3]), (3, r0 [4, 5]), (4, r0 [4, 16]), (5, r0 [2, 3]), (6, r0 [2, 3])], []⟩
noncomputable def f133_r0 (c : CallF) : RF := rg [0] <| aX 2 (pM (cn .nils)) <|
 aX 3 (pM (cn (.int .i64 0))) <|
 aXZ
noncomputable def f133_r1 (c : CallF) : RF := rg [0, 8] <| aX 6 (pM 0) <|
 aX 7 (pK c false 89 [6]) <|
 aX 8 (pU .not 7) <|
 aXZ
noncomputable def f133_r2 (c : CallF) : RF := rg [2, 3] <| aX 9 (fun n e M => keep (aLitI 170 2 [] M)) <|
 aX 2 (pM 9) <|
 aX 3 (pM (cn (.int .i64 2))) <|
 aXZ
noncomputable def f133_r3 (c : CallF) : RF := rg [4, 5] <| aX 11 (pM 0) <|
 aX 12 (pK c false 155 [11]) <|
 aX 10 (pM 12) <|
 aX 13 (pE 0 10) <|
 aX 14 (pE 1 10) <|
 aX 4 (pM 13) <|
 aX 5 (pM 14) <|
 aXZ
noncomputable def f133_r4 (c : CallF) : RF := rg [4, 16] <| aX 15 (pM 5) <|
 aX 16 (pU .not 15) <|
 aXZ
noncomputable def f133_r5 (c : CallF) : RF := rg [2, 3] <| aX 17 (fun n e M => keep (aLitI 170 2 [] M)) <|
 aX 2 (pM 17) <|
 aX 3 (pM (cn (.int .i64 3))) <|
 aXZ
noncomputable def f133_r6 (c : CallF) : RF := rg [2, 3] <| aX 18 (pM 4) <|
 aX 2 (pM 18) <|
 aX 3 (pM (cn (.int .i64 0))) <|
 aXZ
noncomputable def f133 (c : CallF) (k : Nat) : St :=
 (bSeq (bReg (f133_r0 c))
 (bSeq (bSeq (bReg (f133_r1 c))
 (bCond (.tmp 8) (bSeq (bReg (f133_r2 c))
 (bEx .ret)) (bEx .nrm)))
 (bSeq (bReg (f133_r3 c))
 (bSeq (bSeq (bReg (f133_r4 c))
 (bCond (.tmp 16) (bSeq (bReg (f133_r5 c))
 (bEx .ret)) (bEx .nrm)))
 (bSeq (bReg (f133_r6 c))
 (bEx .ret))))))
theorem f133_eq (c : CallF) (k : Nat) : exec cx c 19 f133_an k (Try.f133.body.getD .skip) = f133 c k := by kernel_rfl
def f134_an : Ann := ⟨[(0, r0 [0]), (1, r0 [2])], []⟩
noncomputable def f134_r0 (c : CallF) : RF := rg [0] <| aX 2 (pM (cn .nils)) <|
 aXZ
noncomputable def f134_r1 (c : CallF) : RF := rg [2] <| aX 3 (fun n e M => keep (aLitI 170 2 [] M)) <|
 aX 4 (pM 0) <|
 aX 5 (fun n e M => aAppI 170 2 4 (eget e 3) (eget e 4) M) <|
 aX 2 (pM 5) <|
 aXZ
noncomputable def f134 (c : CallF) (k : Nat) : St :=
 (bSeq (bReg (f134_r0 c))
 (bSeq (bReg (f134_r1 c))
 (bEx .ret)))
theorem f134_eq (c : CallF) (k : Nat) : exec cx c 6 f134_an k (Try.f134.body.getD .skip) = f134 c k := by kernel_rfl
def f135_an : Ann := ⟨[(0, ⟨[0], [], [], [], [1, 2], none, []⟩), (1, r0 [1, 2, 3]), (2, r0 [1, 2, 3, 5]), (3, r0 [1, 2, 3]), (4, r0 [1, 2, 3]), (5, r0 [2])], [(2, [1, 2, 3])]⟩
noncomputable def f135_r0 (c : CallF) : RF := rg [1, 2] <| aX 1 (fun n e M => aBoxO n 68 16 (eget e 0) M) <|
 aX 2 (pAl 68 16) <|
 aXZ
noncomputable def f135_r1 (c : CallF) : RF := rg [1, 2, 3] <| aX 3 (pM (cn (.int .i64 0))) <|
 aXZ
noncomputable def f135_r2 (c : CallF) : RF := rg [1, 2, 3, 5] <| aX 4 (pM 3) <|
 aX 5 (pB .lss 3 4 (cn (.int .i64 16))) <|
 aXZ
noncomputable def f135_r3 (c : CallF) : RF := rg [1, 2, 3] <| aX 6 (pM 3) <|
 aX 7 (pB .add 3 6 (cn (.int .i64 1))) <|
 aX 3 (pM 7) <|
 aXZ
noncomputable def f135_r4 (c : CallF) : RF := rg [1, 2, 3] <| aX 8 (pM 3) <|
 aX 9 (pM 3) <|
 aX 10 (fun n e M => keep (aIndexP 16 1 (eget e 1) (eget e 9) M)) <|
 aX 11 (pL false 1 10) <|
 aX 12 (pU .neg 11) <|
 aX 13 (fun n e M => keep (aIndexP 16 1 (eget e 1) (eget e 8) M)) <|
 aX0 (pS 1 13 12) <|
 aXZ
noncomputable def f135_r5 (c : CallF) : RF := rg [2] <| aX 14 (pL true 16 1) <|
 aX0 (pS 16 2 14) <|
 aXZ
noncomputable def f135_l2 (c : CallF) (k : Nat) : St :=
 (bSeq (bSeq (bReg (f135_r2 c))
 (bCond (.tmp 5) (bEx .nrm) (bEx (.ext 0))))
 (bSeq (bBlock 1 (bReg (f135_r4 c)))
 (bReg (f135_r3 c))))
noncomputable def f135 (c : CallF) (k : Nat) : St :=
 (bSeq (bReg (f135_r0 c))
 (bSeq (bSeq (bReg (f135_r1 c))
 (bBlock 0 (bLoop [1, 2, 3] (f135_l2 c k) k)))
 (bSeq (bReg (f135_r5 c))
 (bEx .ret))))
theorem f135_eq (c : CallF) (k : Nat) : exec cx c 15 f135_an k (Try.f135.body.getD .skip) = f135 c k := by kernel_rfl
def f136_an : Ann := ⟨[(0, r0 [0]), (1, r0 [2])], []⟩
noncomputable def f136_r0 (c : CallF) : RF := rg [0] <| aX 2 (pM (cn (.bool false))) <|
 aXZ
noncomputable def f136_r1 (c : CallF) : RF := rg [2] <| aX 3 (pM 0) <|
 aX 4 (pB .geq 2 3 (cn (.int .i64 0))) <|
 aX 5 (pM 4) <|
 aX 6 (pG 5 true (pM 0)) <|
 aX 7 (pG 5 true (pB .leq 2 6 (cn (.int .i64 5)))) <|
 aX 8 (pP 5 7 (cn (.bool false))) <|
 aX 2 (pM 8) <|
 aXZ
noncomputable def f136 (c : CallF) (k : Nat) : St :=
 (bSeq (bReg (f136_r0 c))
 (bSeq (bReg (f136_r1 c))
 (bEx .ret)))
theorem f136_eq (c : CallF) (k : Nat) : exec cx c 9 f136_an k (Try.f136.body.getD .skip) = f136 c k := by kernel_rfl
def f137_an : Ann := ⟨[(0, r0 [1]), (1, r0 [2])], []⟩
noncomputable def f137_r0 (c : CallF) : RF := rg [1] <| aX 1 (pBox 2 0) <|
 aX 2 (pM (cn (.int .i64 0))) <|
 aXZ
noncomputable def f137_r1 (c : CallF) : RF := rgD [2] (aY 3 (pF 1 1 1) <|
 aY 4 (pL false 1 3) <|
 aY 5 (fun n e M => keep (aConvI .i64 (eget e 4))) <|
 aY 6 (pF 0 1 1) <|
 aY 7 (pL false 1 6) <|
 aY 8 (fun n e M => keep (aConvI .i64 (eget e 7))) <|
 aY 9 (pK c false 154 [8]) <|
 aY 10 (pB .add 2 5 9) <|
 aY 2 (pM 10) <|
 aYZ)
 (aXZ)
noncomputable def f137 (c : CallF) (k : Nat) : St :=
 (bSeq (bReg (f137_r0 c))
 (bSeq (bReg (f137_r1 c))
 (bEx .ret)))
theorem f137_eq (c : CallF) (k : Nat) : exec cx c 11 f137_an k (Try.f137.body.getD .skip) = f137 c k := by kernel_rfl
def f138_an : Ann := ⟨[(0, r0 [0, 1]), (1, r0 [0, 1, 10]), (2, r0 [4]), (3, r0 [0, 1, 12, 13]), (4, r0 [0, 1, 12, 13, 14]), (5, r0 [0, 1, 5, 12, 13]), (6, r0 [0, 1, 12, 13, 24]), (7, r0 [4]), (8, r0 [0, 1, 12, 13]), (9, r0 [4])], [(4, [0, 1, 12, 13])]⟩
noncomputable def f138_r0 (c : CallF) : RF := rg [0, 1] <| aX 4 (pM (cn (.bool false))) <|
 aXZ
noncomputable def f138_r1 (c : CallF) : RF := rg [0, 1, 10] <| aX 6 (pM 0) <|
 aX 7 (pLen 66 6) <|
 aX 8 (pM 1) <|
 aX 9 (pLen 66 8) <|
 aX 10 (pB .neq 3 7 9) <|
 aXZ
noncomputable def f138_r2 (c : CallF) : RF := rg [4] <| aX 4 (pM (cn (.bool false))) <|
 aXZ
noncomputable def f138_r3 (c : CallF) : RF := rg [0, 1, 12, 13] <| aX 11 (pM 0) <|
 aX 12 (pLen 66 11) <|
 aX 13 (pM (cn (.int .i64 0))) <|
 aXZ
noncomputable def f138_r4 (c : CallF) : RF := rg [0, 1, 12, 13, 14] <| aX 14 (pB .lss 3 13 12) <|
 aXZ
noncomputable def f138_r5 (c : CallF) : RF := rg [0, 1, 5, 12, 13] <| aX 15 (pM 13) <|
 aX 5 (pM 15) <|
 aXZ
noncomputable def f138_r6 (c : CallF) : RF := rgD [0, 1, 12, 13, 24] (aY 16 (pM 0) <|
 aY 17 (pM 5) <|
 aY 18 (pI 2 16 17) <|
 aY 19 (pL true 2 18) <|
 aY 20 (pM 1) <|
 aY 21 (pM 5) <|
 aY 22 (pI 2 20 21) <|
 aY 23 (pL true 2 22) <|
 aY 24 (pB .neq 170 19 23) <|
 aYZ)
 (aXZ)
noncomputable def f138_r7 (c : CallF) : RF := rg [4] <| aX 4 (pM (cn (.bool false))) <|
 aXZ
noncomputable def f138_r8 (c : CallF) : RF := rg [0, 1, 12, 13] <| aX 25 (pB .add 3 13 (cn (.int .i64 1))) <|
 aX 13 (pM 25) <|
 aXZ
noncomputable def f138_r9 (c : CallF) : RF := rg [4] <| aX 4 (pM (cn (.bool true))) <|
 aXZ
noncomputable def f138_l4 (c : CallF) (k : Nat) : St :=
 (bSeq (bReg (f138_r4 c))
 (bSeq (bCond (.tmp 14) (bEx .nrm) (bEx (.ext 0)))
 (bSeq (bBlock 1 (bSeq (bReg (f138_r5 c))
 (bSeq (bReg (f138_r6 c))
 (bCond (.tmp 24) (bSeq (bReg (f138_r7 c))
 (bEx .ret)) (bEx .nrm)))))
 (bReg (f138_r8 c)))))
noncomputable def f138 (c : CallF) (k : Nat) : St :=
 (bSeq (bReg (f138_r0 c))
 (bSeq (bSeq (bReg (f138_r1 c))
 (bCond (.tmp 10) (bSeq (bReg (f138_r2 c))
 (bEx .ret)) (bEx .nrm)))
 (bSeq (bSeq (bReg (f138_r3 c))
 (bBlock 0 (bLoop [0, 1, 12, 13] (f138_l4 c k) k)))
 (bSeq (bReg (f138_r9 c))
 (bEx .ret)))))
theorem f138_eq (c : CallF) (k : Nat) : exec cx c 26 f138_an k (Try.f138.body.getD .skip) = f138 c k := by kernel_rfl
def f139_an : Ann := ⟨[(0, r0 [2, 3, 4]), (1, r0 [2, 3, 4, 9]), (2, r0 [2, 3, 4, 9, 10]), (3, r0 [2, 3, 4, 7, 9]), (4, r0 [2, 3, 4, 8, 9]), (5, r0 [2, 3, 4, 9, 24]), (6, r0 [6]), (7, r0 [2, 3, 4, 9]), (8, r0 [6])], [(2, [2, 3, 4, 9])]⟩
noncomputable def f139_r0 (c : CallF) : RF := rg [2, 3, 4] <| aX 3 (pBox 16 0) <|
 aX 4 (pBox 16 1) <|
 aX 6 (pM (cn (.bool false))) <|
 aXZ
noncomputable def f139_r1 (c : CallF) : RF := rg [2, 3, 4, 9] <| aX 9 (pM (cn (.int .i64 0))) <|
 aXZ
noncomputable def f139_r2 (c : CallF) : RF := rg [2, 3, 4, 9, 10] <| aX 10 (pB .lss 3 9 (cn (.int .i64 16))) <|
 aXZ
noncomputable def f139_r3 (c : CallF) : RF := rg [2, 3, 4, 7, 9] <| aX 11 (pM 9) <|
 aX 7 (pM 11) <|
 aXZ
noncomputable def f139_r4 (c : CallF) : RF := rgD [2, 3, 4, 8, 9] (aY 12 (pM 7) <|
 aY 13 (fun n e M => keep (aIndexP 16 1 (eget e 3) (eget e 12) M)) <|
 aY 14 (pL false 1 13) <|
 aY 15 (pM 7) <|
 aY 16 (fun n e M => keep (aIndexP 16 1 (eget e 4) (eget e 15) M)) <|
 aY 17 (pL false 1 16) <|
 aY 18 (pB .add 34 14 17) <|
 aY 8 (pM 18) <|
 aYZ)
 (aXZ)
noncomputable def f139_r5 (c : CallF) : RF := rg [2, 3, 4, 9, 24] <| aX 19 (pM 8) <|
 aX 20 (pB .lss 34 19 (cn (.int .i8 (-1)))) <|
 aX 21 (pM 20) <|
 aX 22 (pG 21 false (pM 8)) <|
 aX 23 (pG 21 false (pB .gtr 34 22 (cn (.int .i8 1)))) <|
 aX 24 (pP 21 (cn (.bool true)) 23) <|
 aXZ
noncomputable def f139_r6 (c : CallF) : RF := rg [6] <| aX 6 (pM (cn (.bool false))) <|
 aXZ
noncomputable def f139_r7 (c : CallF) : RF := rg [2, 3, 4, 9] <| aX 25 (pB .add 3 9 (cn (.int .i64 1))) <|
 aX 9 (pM 25) <|
 aXZ
noncomputable def f139_r8 (c : CallF) : RF := rg [6] <| aX 26 (pL true 16 3) <|
 aX 27 (pL true 16 4) <|
 aX 28 (pK c false 156 [26, 27]) <|
 aX 29 (pLen 24 28) <|
 aX 30 (pM 2) <|
 aX 31 (pB .leq 2 29 30) <|
 aX 6 (pM 31) <|
 aXZ
noncomputable def f139_l2 (c : CallF) (k : Nat) : St :=
 (bSeq (bReg (f139_r2 c))
 (bSeq (bCond (.tmp 10) (bEx .nrm) (bEx (.ext 0)))
 (bSeq (bBlock 1 (bSeq (bReg (f139_r3 c))
 (bSeq (bReg (f139_r4 c))
 (bSeq (bReg (f139_r5 c))
 (bCond (.tmp 24) (bSeq (bReg (f139_r6 c))
 (bEx .ret)) (bEx .nrm))))))
 (bReg (f139_r7 c)))))
noncomputable def f139 (c : CallF) (k : Nat) : St :=
 (bSeq (bReg (f139_r0 c))
 (bSeq (bSeq (bReg (f139_r1 c))
 (bBlock 0 (bLoop [2, 3, 4, 9] (f139_l2 c k) k)))
 (bSeq (bReg (f139_r8 c))
 (bEx .ret))))
theorem f139_eq (c : CallF) (k : Nat) : exec cx c 32 f139_an k (Try.f139.body.getD .skip) = f139 c k := by kernel_rfl
def f140_an : Ann := ⟨[(0, r0 [0, 1]), (1, r0 [0, 1, 10]), (2, r0 [4]), (3, r0 [0, 1, 5]), (4, r0 [0, 1, 5, 14]), (5, r0 [0, 1, 5]), (6, r0 [0, 1, 5, 25]), (7, r0 [4]), (8, r0 [4])], [(4, [0, 1, 5])]⟩
noncomputable def f140_r0 (c : CallF) : RF := rg [0, 1] <| aX 4 (pM (cn (.bool false))) <|
 aXZ
noncomputable def f140_r1 (c : CallF) : RF := rg [0, 1, 10] <| aX 6 (pM 0) <|
 aX 7 (pLen 66 6) <|
 aX 8 (pM 1) <|
 aX 9 (pLen 66 8) <|
 aX 10 (pB .neq 3 7 9) <|
 aXZ
noncomputable def f140_r2 (c : CallF) : RF := rg [4] <| aX 4 (pM (cn (.bool false))) <|
 aXZ
noncomputable def f140_r3 (c : CallF) : RF := rg [0, 1, 5] <| aX 5 (pM (cn (.int .i64 0))) <|
 aXZ
noncomputable def f140_r4 (c : CallF) : RF := rg [0, 1, 5, 14] <| aX 11 (pM 5) <|
 aX 12 (pM 0) <|
 aX 13 (pLen 66 12) <|
 aX 14 (pB .lss 3 11 13) <|
 aXZ
noncomputable def f140_r5 (c : CallF) : RF := rg [0, 1, 5] <| aX 15 (pM 5) <|
 aX 16 (pB .add 3 15 (cn (.int .i64 1))) <|
 aX 5 (pM 16) <|
 aXZ
noncomputable def f140_r6 (c : CallF) : RF := rgD [0, 1, 5, 25] (aY 17 (pM 0) <|
 aY 18 (pM 5) <|
 aY 19 (pI 2 17 18) <|
 aY 20 (pL true 2 19) <|
 aY 21 (pM 1) <|
 aY 22 (pM 5) <|
 aY 23 (pI 2 21 22) <|
 aY 24 (pL true 2 23) <|
 aY 25 (pB .neq 170 20 24) <|
 aYZ)
 (aXZ)
noncomputable def f140_r7 (c : CallF) : RF := rg [4] <| aX 4 (pM (cn (.bool false))) <|
 aXZ
noncomputable def f140_r8 (c : CallF) : RF := rg [4] <| aX 4 (pM (cn (.bool true))) <|
 aXZ
noncomputable def f140_l4 (c : CallF) (k : Nat) : St :=
 (bSeq (bSeq (bReg (f140_r4 c))
 (bCond (.tmp 14) (bEx .nrm) (bEx (.ext 0))))
 (bSeq (bBlock 1 (bSeq (bReg (f140_r6 c))
 (bCond (.tmp 25) (bSeq (bReg (f140_r7 c))
 (bEx .ret)) (bEx .nrm))))
 (bReg (f140_r5 c))))
noncomputable def f140 (c : CallF) (k : Nat) : St :=
 (bSeq (bReg (f140_r0 c))
 (bSeq (bSeq (bReg (f140_r1 c))
 (bCond (.tmp 10) (bSeq (bReg (f140_r2 c))
 (bEx .ret)) (bEx .nrm)))
 (bSeq (bSeq (bReg (f140_r3 c))
 (bBlock 0 (bLoop [0, 1, 5] (f140_l4 c k) k)))
 (bSeq (bReg (f140_r8 c))
 (bEx .ret)))))
theorem f140_eq (c : CallF) (k : Nat) : exec cx c 26 f140_an k (Try.f140.body.getD .skip) = f140 c k := by kernel_rfl
def f141_an : Ann := ⟨[(0, r0 [0, 1]), (1, r0 [4])], []⟩
noncomputable def f141_r0 (c : CallF) : RF := rg [0, 1] <| aX 4 (pM (cn (.bool false))) <|
 aXZ
noncomputable def f141_r1 (c : CallF) : RF := rg [4] <| aX 5 (pM 0) <|
 aX 6 (pM 1) <|
 aX 7 (pK c false 88 [5, 6]) <|
 aX 8 (pB .eql 2 7 (cn (.int .i64 0))) <|
 aX 4 (pM 8) <|
 aXZ
noncomputable def f141 (c : CallF) (k : Nat) : St :=
 (bSeq (bReg (f141_r0 c))
 (bSeq (bReg (f141_r1 c))
 (bEx .ret)))
theorem f141_eq (c : CallF) (k : Nat) : exec cx c 9 f141_an k (Try.f141.body.getD .skip) = f141 c k := by kernel_rfl
def f146_an : Ann := ⟨[(0, r0 []), (1, r0 [0])], []⟩
noncomputable def f146_r0 (c : CallF) : RF := rg [] <| aX 0 (pM (cn .nils)) <|
 aXZ
noncomputable def f146_r1 (c : CallF) : RF := rg [0] <| aX 1 (fun n e M => keep (aLitI 9 1 [(.str [107, 105, 110, 103]), (.str [97, 110, 110]), (.str [98, 111, 98]), (.str [99, 105, 100]), (.str [100, 97, 110]), (.str [101, 118, 101])] M)) <|
 aX 0 (pM 1) <|
 aXZ
noncomputable def f146 (c : CallF) (k : Nat) : St :=
 (bSeq (bReg (f146_r0 c))
 (bSeq (bReg (f146_r1 c))
 (bEx .ret)))
theorem f146_eq (c : CallF) (k : Nat) : exec cx c 2 f146_an k (Try.f146.body.getD .skip) = f146 c k := by kernel_rfl
def f147_an : Ann := ⟨[(0, r0 []), (1, r0 [0])], []⟩
noncomputable def f147_r0 (c : CallF) : RF := rg [] <| aX 0 (pM (cn .nils)) <|
 aXZ
noncomputable def f147_r1 (c : CallF) : RF := rg [0] <| aX 1 (fun n e M => keep (aLitI 2 1 [(.int .i64 1), (.int .i64 2), (.int .i64 4), (.int .i64 6), (.int .i64 9), (.int .i64 12)] M)) <|
 aX 0 (pM 1) <|
 aXZ
noncomputable def f147 (c : CallF) (k : Nat) : St :=
 (bSeq (bReg (f147_r0 c))
 (bSeq (bReg (f147_r1 c))
 (bEx .ret)))
theorem f147_eq (c : CallF) (k : Nat) : exec cx c 2 f147_an k (Try.f147.body.getD .skip) = f147 c k := by kernel_rfl
def f148_an : Ann := ⟨[(0, r0 [0, 1, 2, 3]), (1, r0 [1, 2, 3, 9]), (2, r0 [2, 3, 9]), (3, r0 [3, 9]), (4, r0 [8])], []⟩
noncomputable def f148_r0 (c : CallF) : RF := rg [0, 1, 2, 3] <| aX 8 (pM (cn (.int .u32 0))) <|
 aXZ
noncomputable def f148_r1 (c : CallF) : RF := rg [1, 2, 3, 9] <| aX 10 (pM 0) <|
 aX 11 (pK c false 158 [10]) <|
 aX 12 (pK c false 157 [(cn (.int .u32 2166136261)), 11]) <|
 aX 9 (pM 12) <|
 aXZ
noncomputable def f148_r2 (c : CallF) : RF := rg [2, 3, 9] <| aX 13 (pM 9) <|
 aX 14 (pM 1) <|
 aX 15 (pK c false 159 [13, 14]) <|
 aX 9 (pM 15) <|
 aXZ
noncomputable def f148_r3 (c : CallF) : RF := rg [3, 9] <| aX 16 (pM 9) <|
 aX 17 (pM 2) <|
 aX 18 (pK c false 157 [16, 17]) <|
 aX 9 (pM 18) <|
 aXZ
noncomputable def f148_r4 (c : CallF) : RF := rg [8] <| aX 19 (pM 9) <|
 aX 20 (pM 3) <|
 aX 21 (pK c false 159 [19, 20]) <|
 aX 8 (pM 21) <|
 aXZ
noncomputable def f148 (c : CallF) (k : Nat) : St :=
 (bSeq (bReg (f148_r0 c))
 (bSeq (bReg (f148_r1 c))
 (bSeq (bReg (f148_r2 c))
 (bSeq (bReg (f148_r3 c))
 (bSeq (bReg (f148_r4 c))
 (bEx .ret))))))
theorem f148_eq (c : CallF) (k : Nat) : exec cx c 22 f148_an k (Try.f148.body.getD .skip) = f148 c k := by kernel_rfl
def f149_an : Ann := ⟨[(0, r0 [0, 2]), (1, ⟨[14], [], [], [14], [2], none, []⟩)], []⟩
noncomputable def f149_r0 (c : CallF) : RF := rg [0, 2] <| aX 2 (pAl 70 18) <|
 aXZ
noncomputable def f149_r1 (c : CallF) : RF := rgD [2] (aY 3 (pM 0) <|
 aY 4 (pN 3) <|
 aY 5 (pF 0 1 4) <|
 aY 6 (pL false 1 5) <|
 aY 7 (pM 0) <|
 aY 8 (pN 7) <|
 aY 9 (pF 1 1 8) <|
 aY 10 (pL false 1 9) <|
 aY 11 (pK c false 134 [10]) <|
 aY 12 (pM 0) <|
 aY 13 (pN 12) <|
 aY 14 (pF 2 16 13) <|
 aY 15 (pL true 16 14) <|
 aY 16 (fun n e M => keep (aBuild (zeroOf cx.P 70) [(0, 1, (eget e 6)), (1, 1, (eget e 11)), (2, 16, (eget e 15))] M)) <|
 aYZ)
 (aX0 (pSK 18 2 16) <|
 aXZ)
noncomputable def f149 (c : CallF) (k : Nat) : St :=
 (bSeq (bReg (f149_r0 c))
 (bSeq (bReg (f149_r1 c))
 (bEx .ret)))
theorem f149_eq (c : CallF) (k : Nat) : exec cx c 17 f149_an k (Try.f149.body.getD .skip) = f149 c k := by kernel_rfl
def f150_an : Ann := ⟨[(0, r0 [0, 2]), (1, ⟨[], [], [], [12], [2], none, []⟩)], []⟩
noncomputable def f150_r0 (c : CallF) : RF := rg [0, 2] <| aX 2 (pAl 173 2) <|
 aXZ
noncomputable def f150_r1 (c : CallF) : RF := rgD [2] (aY 3 (pM 0) <|
 aY 4 (pN 3) <|
 aY 5 (pF 19 1 4) <|
 aY 6 (pL false 1 5) <|
 aY 7 (pM 0) <|
 aY 8 (pN 7) <|
 aY 9 (pF 19 1 8) <|
 aY 10 (pL false 1 9) <|
 aY 11 (pLen 71 10) <|
 aY 12 (pB .sub 3 11 (cn (.int .i64 1))) <|
 aY 13 (pI 2 6 12) <|
 aY 14 (pL true 2 13) <|
 aYZ)
 (aX0 (pS 2 2 14) <|
 aXZ)
noncomputable def f150 (c : CallF) (k : Nat) : St :=
 (bSeq (bReg (f150_r0 c))
 (bSeq (bReg (f150_r1 c))
 (bEx .ret)))
theorem f150_eq (c : CallF) (k : Nat) : exec cx c 15 f150_an k (Try.f150.body.getD .skip) = f150 c k := by kernel_rfl
def f151_an : Ann := ⟨[(0, r0 [0]), (1, r0 [2])], []⟩
noncomputable def f151_r0 (c : CallF) : RF := rg [0] <| aX 2 (pM (cn (.bool false))) <|
 aXZ
noncomputable def f151_r1 (c : CallF) : RF := rg [2] <| aX 3 (pM 0) <|
 aX 4 (pK c false 90 [3, (cn (.int .i64 0)), (cn (.int .i64 5))]) <|
 aX 2 (pM 4) <|
 aXZ
noncomputable def f151 (c : CallF) (k : Nat) : St :=
 (bSeq (bReg (f151_r0 c))
 (bSeq (bReg (f151_r1 c))
 (bEx .ret)))
theorem f151_eq (c : CallF) (k : Nat) : exec cx c 5 f151_an k (Try.f151.body.getD .skip) = f151 c k := by kernel_rfl
def f152_an : Ann := ⟨[(0, r0 [1]), (1, r0 [2])], []⟩
noncomputable def f152_r0 (c : CallF) : RF := rg [1] <| aX 1 (pBox 2 0) <|
 aX 2 (pM (cn (.int .i64 0))) <|
 aXZ
noncomputable def f152_r1 (c : CallF) : RF := rgD [2] (aY 3 (pF 1 1 1) <|
 aY 4 (pL false 1 3) <|
 aY 5 (fun n e M => keep (aConvI .i64 (eget e 4))) <|
 aY 6 (pK c false 147 []) <|
 aY 7 (pF 0 1 1) <|
 aY 8 (pL false 1 7) <|
 aY 9 (pI 1 6 8) <|
 aY 10 (pL false 1 9) <|
 aY 11 (pB .add 2 5 10) <|
 aY 2 (pM 11) <|
 aYZ)
 (aXZ)
noncomputable def f152 (c : CallF) (k : Nat) : St :=
 (bSeq (bReg (f152_r0 c))
 (bSeq (bReg (f152_r1 c))
 (bEx .ret)))
theorem f152_eq (c : CallF) (k : Nat) : exec cx c 12 f152_an k (Try.f152.body.getD .skip) = f152 c k := by kernel_rfl
def f153_an : Ann := ⟨[(0, r0 [0, 1]), (1, r0 [0, 1, 7, 8]), (2, r0 [0, 1, 7, 8, 9]), (3, r0 [0, 1, 5, 7, 8]), (4, r0 [0, 1, 7, 8, 20]), (5, r0 [4]), (6, r0 [0, 1, 7, 8]), (7, r0 [4])], [(2, [0, 1, 7, 8])]⟩
noncomputable def f153_r0 (c : CallF) : RF := rg [0, 1] <| aX 4 (pM (cn (.bool false))) <|
 aXZ
noncomputable def f153_r1 (c : CallF) : RF := rg [0, 1, 7, 8] <| aX 6 (pM 0) <|
 aX 7 (pLen 9 6) <|
 aX 8 (pM (cn (.int .i64 0))) <|
 aXZ
noncomputable def f153_r2 (c : CallF) : RF := rg [0, 1, 7, 8, 9] <| aX 9 (pB .lss 3 8 7) <|
 aXZ
noncomputable def f153_r3 (c : CallF) : RF := rg [0, 1, 5, 7, 8] <| aX 10 (pM 8) <|
 aX 5 (pM 10) <|
 aXZ
noncomputable def f153_r4 (c : CallF) : RF := rg [0, 1, 7, 8, 20] <| aX 11 (pM 0) <|
 aX 12 (pM 5) <|
 aX 13 (fun n e M => keep (aIndexB (eget e 11) (eget e 12))) <|
 aX 14 (pB .lss 5 13 (cn (.int .u8 97))) <|
 aX 15 (pM 14) <|
 aX 16 (pG 15 false (pM 0)) <|
 aX 17 (pG 15 false (pM 5)) <|
 aX 18 (pG 15 false (fun n e M => keep (aIndexB (eget e 16) (eget e 17)))) <|
 aX 19 (pG 15 false (pB .gtr 5 18 (cn (.int .u8 122)))) <|
 aX 20 (pP 15 (cn (.bool true)) 19) <|
 aXZ
noncomputable def f153_r5 (c : CallF) : RF := rg [4] <| aX 4 (pM (cn (.bool false))) <|
 aXZ
noncomputable def f153_r6 (c : CallF) : RF := rg [0, 1, 7, 8] <| aX 21 (pB .add 3 8 (cn (.int .i64 1))) <|
 aX 8 (pM 21) <|
 aXZ
noncomputable def f153_r7 (c : CallF) : RF := rg [4] <| aX 22 (pM 0) <|
 aX 23 (pLen 9 22) <|
 aX 24 (pB .geq 3 23 (cn (.int .i64 1))) <|
 aX 25 (pM 24) <|
 aX 26 (pG 25 true (pM 0)) <|
 aX 27 (pG 25 true (pLen 9 26)) <|
 aX 28 (pG 25 true (pM 1)) <|
 aX 29 (pG 25 true (pB .leq 3 27 28)) <|
 aX 30 (pP 25 29 (cn (.bool false))) <|
 aX 4 (pM 30) <|
 aXZ
noncomputable def f153_l2 (c : CallF) (k : Nat) : St :=
 (bSeq (bReg (f153_r2 c))
 (bSeq (bCond (.tmp 9) (bEx .nrm) (bEx (.ext 0)))
 (bSeq (bBlock 1 (bSeq (bReg (f153_r3 c))
 (bSeq (bReg (f153_r4 c))
 (bCond (.tmp 20) (bSeq (bReg (f153_r5 c))
 (bEx .ret)) (bEx .nrm)))))
 (bReg (f153_r6 c)))))
noncomputable def f153 (c : CallF) (k : Nat) : St :=
 (bSeq (bReg (f153_r0 c))
 (bSeq (bSeq (bReg (f153_r1 c))
 (bBlock 0 (bLoop [0, 1, 7, 8] (f153_l2 c k) k)))
 (bSeq (bReg (f153_r7 c))
 (bEx .ret))))
theorem f153_eq (c : CallF) (k : Nat) : exec cx c 31 f153_an k (Try.f153.body.getD .skip) = f153 c k := by kernel_rfl
def f154_an : Ann := ⟨[(0, r0 [0]), (1, r0 [2])], []⟩
noncomputable def f154_r0 (c : CallF) : RF := rg [0] <| aX 2 (pM (cn (.int .i64 0))) <|
 aXZ
noncomputable def f154_r1 (c : CallF) : RF := rg [2] <| aX 3 (fun n e M => keep (aLitI 2 1 [(.int .i64 1), (.int .i64 2), (.int .i64 4), (.int .i64 6), (.int .i64 9), (.int .i64 12)] M)) <|
 aX 4 (pM 0) <|
 aX 5 (pI 1 3 4) <|
 aX 6 (pL false 1 5) <|
 aX 2 (pM 6) <|
 aXZ
noncomputable def f154 (c : CallF) (k : Nat) : St :=
 (bSeq (bReg (f154_r0 c))
 (bSeq (bReg (f154_r1 c))
 (bEx .ret)))
theorem f154_eq (c : CallF) (k : Nat) : exec cx c 7 f154_an k (Try.f154.body.getD .skip) = f154 c k := by kernel_rfl
def f155_an : Ann := ⟨[(0, r0 [0]), (1, ⟨[0], [], [], [], [0, 4], none, []⟩), (2, r0 [0, 4, 5]), (3, r0 [0, 4, 5, 6]), (4, r0 [0, 4, 5, 6, 10]), (5, r0 [0, 4, 5, 6]), (6, r0 [0, 4, 5, 6, 7]), (7, r0 [0, 4, 5, 6, 7, 19]), (8, r0 [0, 4, 5, 6, 7, 21]), (9, r0 [2, 3]), (10, ⟨[7], [], [], [], [0, 4, 5, 6, 7], none, []⟩), (11, r0 [0, 4, 5, 6, 7]), (12, r0 [0, 4, 5, 6, 7]), (13, r0 [2, 3])], [(7, [0, 4, 5, 6, 7]), (4, [0, 4, 5, 6])]⟩
noncomputable def f155_r0 (c : CallF) : RF := rg [0] <| aX 2 (pM (cn .nils)) <|
 aX 3 (pM (cn (.bool false))) <|
 aXZ
noncomputable def f155_r1 (c : CallF) : RF := rg [0, 4] <| aX 8 (fun n e M => aLitO false n 170 2 [] M) <|
 aX 4 (pM 8) <|
 aXZ
noncomputable def f155_r2 (c : CallF) : RF := rg [0, 4, 5] <| aX 5 (pM (cn (.int .i64 0))) <|
 aXZ
noncomputable def f155_r3 (c : CallF) : RF := rg [0, 4, 5, 6] <| aX 6 (pM (cn (.int .i64 5))) <|
 aXZ
noncomputable def f155_r4 (c : CallF) : RF := rg [0, 4, 5, 6, 10] <| aX 9 (pM 6) <|
 aX 10 (pB .geq 2 9 (cn (.int .i64 0))) <|
 aXZ
noncomputable def f155_r5 (c : CallF) : RF := rg [0, 4, 5, 6] <| aX 11 (pM 6) <|
 aX 12 (pB .sub 2 11 (cn (.int .i64 1))) <|
 aX 6 (pM 12) <|
 aXZ
noncomputable def f155_r6 (c : CallF) : RF := rg [0, 4, 5, 6, 7] <| aX 13 (pK c false 124 []) <|
 aX 14 (pM 6) <|
 aX 15 (pI 1 13 14) <|
 aX 16 (pL false 1 15) <|
 aX 7 (pM 16) <|
 aXZ
noncomputable def f155_r7 (c : CallF) : RF := rg [0, 4, 5, 6, 7, 19] <| aX 17 (pM 0) <|
 aX 18 (pM 7) <|
 aX 19 (pB .geq 2 17 18) <|
 aXZ
noncomputable def f155_r8 (c : CallF) : RF := rg [0, 4, 5, 6, 7, 21] <| aX 20 (pM 5) <|
 aX 21 (pB .gtr 2 20 (cn (.int .i64 200))) <|
 aXZ
noncomputable def f155_r9 (c : CallF) : RF := rg [2, 3] <| aX 22 (pM 4) <|
 aX 2 (pM 22) <|
 aX 3 (pM (cn (.bool false))) <|
 aXZ
noncomputable def f155_r10 (c : CallF) : RF := rg [0, 4, 5, 6, 7] <| aX 23 (pM 4) <|
 aX 24 (pM 6) <|
 aX 25 (fun n e M => keep (aConvI .i8 (eget e 24))) <|
 aX 26 (pM 5) <|
 aX 27 (fun n e M => keep (aConvI .i16 (eget e 26))) <|
 aX 28 (fun n e M => keep (aBuild (zeroOf cx.P 170) [(0, 1, (eget e 25)), (1, 1, (eget e 27))] M)) <|
 aX 29 (fun n e M => keep (aLitI 170 2 [(eget e 28)] M)) <|
 aX 30 (fun n e M => aAppO n 170 2 4 (eget e 23) (eget e 29) M) <|
 aX 4 (pM 30) <|
 aXZ
noncomputable def f155_r11 (c : CallF) : RF := rg [0, 4, 5, 6, 7] <| aX 31 (pM 5) <|
 aX 32 (pK c false 147 []) <|
 aX 33 (pM 6) <|
 aX 34 (pI 1 32 33) <|
 aX 35 (pL false 1 34) <|
 aX 36 (pB .add 2 35 (cn (.int .i64 1))) <|
 aX 37 (pB .add 2 31 36) <|
 aX 5 (pM 37) <|
 aXZ
noncomputable def f155_r12 (c : CallF) : RF := rg [0, 4, 5, 6, 7] <| aX 38 (pM 0) <|
 aX 39 (pM 7) <|
 aX 40 (pB .sub 2 38 39) <|
 aX 0 (pM 40) <|
 aXZ
noncomputable def f155_r13 (c : CallF) : RF := rg [2, 3] <| aX 41 (pM 4) <|
 aX 42 (pM 4) <|
 aX 43 (pK c false 122 [42]) <|
 aX 2 (pM 41) <|
 aX 3 (pM 43) <|
 aXZ
noncomputable def f155_l7 (c : CallF) (k : Nat) : St :=
 (bSeq (bSeq (bReg (f155_r7 c))
 (bCond (.tmp 19) (bEx .nrm) (bEx (.ext 2))))
 (bBlock 3 (bSeq (bSeq (bReg (f155_r8 c))
 (bCond (.tmp 21) (bSeq (bReg (f155_r9 c))
 (bEx .ret)) (bEx .nrm)))
 (bSeq (bReg (f155_r10 c))
 (bSeq (bReg (f155_r11 c))
 (bReg (f155_r12 c)))))))
noncomputable def f155_l4 (c : CallF) (k : Nat) : St :=
 (bSeq (bSeq (bReg (f155_r4 c))
 (bCond (.tmp 10) (bEx .nrm) (bEx (.ext 0))))
 (bSeq (bBlock 1 (bSeq (bReg (f155_r6 c))
 (bBlock 2 (bLoop [0, 4, 5, 6, 7] (f155_l7 c k) k))))
 (bReg (f155_r5 c))))
noncomputable def f155 (c : CallF) (k : Nat) : St :=
 (bSeq (bReg (f155_r0 c))
 (bSeq (bReg (f155_r1 c))
 (bSeq (bReg (f155_r2 c))
 (bSeq (bSeq (bReg (f155_r3 c))
 (bBlock 0 (bLoop [0, 4, 5, 6] (f155_l4 c k) k)))
 (bSeq (bReg (f155_r13 c))
 (bEx .ret))))))
theorem f155_eq (c : CallF) (k : Nat) : exec cx c 44 f155_an k (Try.f155.body.getD .skip) = f155 c k := by kernel_rfl
def f156_an : Ann := ⟨[(0, r0 [2, 3]), (1, ⟨[0], [], [], [], [2, 3, 5], none, []⟩), (2, r0 [2, 3, 5, 8]), (3, r0 [2, 3, 5, 8, 9]), (4, r0 [2, 3, 5, 6, 8]), (5, r0 [2, 3, 5, 6, 8, 18]), (6, ⟨[3], [], [], [], [2, 3, 5, 8], none, []⟩), (7, r0 [2, 3, 5, 8]), (8, r0 [4])], [(3, [2, 3, 5, 8])]⟩
noncomputable def f156_r0 (c : CallF) : RF := rg [2, 3] <| aX 2 (pBox 16 0) <|
 aX 3 (pBox 16 1) <|
 aX 4 (pM (cn .nils)) <|
 aXZ
noncomputable def f156_r1 (c : CallF) : RF := rg [2, 3, 5] <| aX 7 (fun n e M => aLitO false n 2 1 [] M) <|
 aX 5 (pM 7) <|
 aXZ
noncomputable def f156_r2 (c : CallF) : RF := rg [2, 3, 5, 8] <| aX 8 (pM (cn (.int .i64 0))) <|
 aXZ
noncomputable def f156_r3 (c : CallF) : RF := rg [2, 3, 5, 8, 9] <| aX 9 (pB .lss 3 8 (cn (.int .i64 16))) <|
 aXZ
noncomputable def f156_r4 (c : CallF) : RF := rg [2, 3, 5, 6, 8] <| aX 10 (pM 8) <|
 aX 6 (pM 10) <|
 aXZ
noncomputable def f156_r5 (c : CallF) : RF := rgD [2, 3, 5, 6, 8, 18] (aY 11 (pM 6) <|
 aY 12 (fun n e M => keep (aIndexP 16 1 (eget e 2) (eget e 11) M)) <|
 aY 13 (pL false 1 12) <|
 aY 14 (pM 6) <|
 aY 15 (fun n e M => keep (aIndexP 16 1 (eget e 3) (eget e 14) M)) <|
 aY 16 (pL false 1 15) <|
 aY 17 (pB .add 34 13 16) <|
 aY 18 (pB .neq 34 17 (cn (.int .i8 0))) <|
 aYZ)
 (aXZ)
noncomputable def f156_r6 (c : CallF) : RF := rg [2, 3, 5, 8] <| aX 19 (pM 5) <|
 aX 20 (pM 6) <|
 aX 21 (fun n e M => keep (aLitI 2 1 [(eget e 20)] M)) <|
 aX 22 (fun n e M => aAppO n 2 1 8 (eget e 19) (eget e 21) M) <|
 aX 5 (pM 22) <|
 aXZ
noncomputable def f156_r7 (c : CallF) : RF := rg [2, 3, 5, 8] <| aX 23 (pB .add 3 8 (cn (.int .i64 1))) <|
 aX 8 (pM 23) <|
 aXZ
noncomputable def f156_r8 (c : CallF) : RF := rg [4] <| aX 24 (pM 5) <|
 aX 4 (pM 24) <|
 aXZ
noncomputable def f156_l3 (c : CallF) (k : Nat) : St :=
 (bSeq (bReg (f156_r3 c))
 (bSeq (bCond (.tmp 9) (bEx .nrm) (bEx (.ext 0)))
 (bSeq (bBlock 1 (bSeq (bReg (f156_r4 c))
 (bSeq (bReg (f156_r5 c))
 (bCond (.tmp 18) (bReg (f156_r6 c)) (bEx .nrm)))))
 (bReg (f156_r7 c)))))
noncomputable def f156 (c : CallF) (k : Nat) : St :=
 (bSeq (bReg (f156_r0 c))
 (bSeq (bReg (f156_r1 c))
 (bSeq (bSeq (bReg (f156_r2 c))
 (bBlock 0 (bLoop [2, 3, 5, 8] (f156_l3 c k) k)))
 (bSeq (bReg (f156_r8 c))
 (bEx .ret)))))
theorem f156_eq (c : CallF) (k : Nat) : exec cx c 25 f156_an k (Try.f156.body.getD .skip) = f156 c k := by kernel_rfl
def f157_an : Ann := ⟨[(0, r0 [0, 1]), (1, r0 [0, 1, 5]), (2, r0 [0, 1, 5, 9]), (3, r0 [0, 1, 5]), (4, r0 [0, 1, 5]), (5, r0 [4])], [(2, [0, 1, 5])]⟩
noncomputable def f157_r0 (c : CallF) : RF := rg [0, 1] <| aX 4 (pM (cn (.int .u32 0))) <|
 aXZ
noncomputable def f157_r1 (c : CallF) : RF := rg [0, 1, 5] <| aX 5 (pM (cn (.int .i64 0))) <|
 aXZ
noncomputable def f157_r2 (c : CallF) : RF := rg [0, 1, 5, 9] <| aX 6 (pM 5) <|
 aX 7 (pM 1) <|
 aX 8 (pLen 9 7) <|
 aX 9 (pB .lss 3 6 8) <|
 aXZ
noncomputable def f157_r3 (c : CallF) : RF := rg [0, 1, 5] <| aX 10 (pM 5) <|
 aX 11 (pB .add 3 10 (cn (.int .i64 1))) <|
 aX 5 (pM 11) <|
 aXZ
noncomputable def f157_r4 (c : CallF) : RF := rg [0, 1, 5] <| aX 12 (pM 0) <|
 aX 13 (pM 1) <|
 aX 14 (pM 5) <|
 aX 15 (fun n e M => keep (aIndexB (eget e 13) (eget e 14))) <|
 aX 16 (fun n e M => keep (aConvI .u32 (eget e 15))) <|
 aX 17 (pB .xor 77 12 16) <|
 aX 18 (pB .mul 77 17 (cn (.int .u32 16777619))) <|
 aX 0 (pM 18) <|
 aXZ
noncomputable def f157_r5 (c : CallF) : RF := rg [4] <| aX 19 (pM 0) <|
 aX 4 (pM 19) <|
 aXZ
noncomputable def f157_l2 (c : CallF) (k : Nat) : St :=
 (bSeq (bSeq (bReg (f157_r2 c))
 (bCond (.tmp 9) (bEx .nrm) (bEx (.ext 0))))
 (bSeq (bBlock 1 (bReg (f157_r4 c)))
 (bReg (f157_r3 c))))
noncomputable def f157 (c : CallF) (k : Nat) : St :=
 (bSeq (bReg (f157_r0 c))
 (bSeq (bSeq (bReg (f157_r1 c))
 (bBlock 0 (bLoop [0, 1, 5] (f157_l2 c k) k)))
 (bSeq (bReg (f157_r5 c))
 (bEx .ret))))
theorem f157_eq (c : CallF) (k : Nat) : exec cx c 20 f157_an k (Try.f157.body.getD .skip) = f157 c k := by kernel_rfl
def f158_an : Ann := ⟨[(0, r0 [0]), (1, r0 [0, 3]), (2, r0 [0, 3, 10]), (3, r0 [0, 3]), (4, r0 [0, 3, 4]), (5, r0 [0, 3, 4, 12]), (6, r0 [0, 3, 4]), (7, r0 [0, 3, 4]), (8, r0 [0, 3, 5]), (9, r0 [0, 3, 5, 34]), (10, r0 [0, 3, 5]), (11, r0 [0, 3, 5, 6]), (12, r0 [0, 3, 5]), (13, r0 [2])], [(5, [0, 3, 4]), (9, [0, 3, 5])]⟩
noncomputable def f158_r0 (c : CallF) : RF := rg [0] <| aX 2 (pM (cn (.str []))) <|
 aXZ
noncomputable def f158_r1 (c : CallF) : RF := rg [0, 3] <| aX 3 (pM (cn (.str [102, 111, 105, 108, 32]))) <|
 aXZ
noncomputable def f158_r2 (c : CallF) : RF := rg [0, 3, 10] <| aX 7 (pM 0) <|
 aX 8 (pN 7) <|
 aX 9 (pF 0 1 8) <|
 aX 10 (pL false 1 9) <|
 aXZ
noncomputable def f158_r3 (c : CallF) : RF := rg [0, 3] <| aX 3 (pM (cn (.str [115, 116, 111, 99, 107, 32]))) <|
 aXZ
noncomputable def f158_r4 (c : CallF) : RF := rg [0, 3, 4] <| aX 4 (pM (cn (.int .i64 0))) <|
 aXZ
noncomputable def f158_r5 (c : CallF) : RF := rg [0, 3, 4, 12] <| aX 11 (pM 4) <|
 aX 12 (pB .lss 3 11 (cn (.int .i64 16))) <|
 aXZ
noncomputable def f158_r6 (c : CallF) : RF := rg [0, 3, 4] <| aX 13 (pM 4) <|
 aX 14 (pB .add 3 13 (cn (.int .i64 1))) <|
 aX 4 (pM 14) <|
 aXZ
noncomputable def f158_r7 (c : CallF) : RF := rg [0, 3, 4] <| aX 15 (pM 3) <|
 aX 16 (pM 0) <|
 aX 17 (pM 4) <|
 aX 18 (pN 16) <|
 aX 19 (pF 2 16 18) <|
 aX 20 (fun n e M => keep (aIndexP 16 1 (eget e 19) (eget e 17) M)) <|
 aX 21 (pL false 1 20) <|
 aX 22 (fun n e M => keep (aConvI .i64 (eget e 21))) <|
 aX 23 (pB .add 3 (cn (.int .i64 100)) 22) <|
 aX 24 (fun n e M => keep (aConvI .u8 (eget e 23))) <|
 aX 25 (fun n e M => keep (aLitI 5 1 [(eget e 24)] M)) <|
 aX 26 (fun n e M => keep (aConvB (eget e 25) M)) <|
 aX 27 (pB .add 9 15 26) <|
 aX 3 (pM 27) <|
 aXZ
noncomputable def f158_r8 (c : CallF) : RF := rg [0, 3, 5] <| aX 5 (pM (cn (.int .i64 0))) <|
 aXZ
noncomputable def f158_r9 (c : CallF) : RF := rg [0, 3, 5, 34] <| aX 28 (pM 5) <|
 aX 29 (pM 0) <|
 aX 30 (pN 29) <|
 aX 31 (pF 1 1 30) <|
 aX 32 (pL false 1 31) <|
 aX 33 (pLen 66 32) <|
 aX 34 (pB .lss 3 28 33) <|
 aXZ
noncomputable def f158_r10 (c : CallF) : RF := rg [0, 3, 5] <| aX 35 (pM 5) <|
 aX 36 (pB .add 3 35 (cn (.int .i64 1))) <|
 aX 5 (pM 36) <|
 aXZ
noncomputable def f158_r11 (c : CallF) : RF := rg [0, 3, 5, 6] <| aX 37 (pM 0) <|
 aX 38 (pN 37) <|
 aX 39 (pF 1 1 38) <|
 aX 40 (pL false 1 39) <|
 aX 41 (pM 5) <|
 aX 42 (pI 2 40 41) <|
 aX 43 (pL true 2 42) <|
 aX 6 (pAl 170 2) <|
 aX0 (pS 2 6 43) <|
 aXZ
noncomputable def f158_r12 (c : CallF) : RF := rgD [0, 3, 5] (aY 44 (pM 3) <|
 aY 45 (pK c false 160 []) <|
 aY 46 (pF 0 1 6) <|
 aY 47 (pL false 1 46) <|
 aY 48 (pF 0 1 6) <|
 aY 49 (pL false 1 48) <|
 aY 50 (pB .add 34 49 (cn (.int .i8 1))) <|
 aY 51 (fun n e M => keep (aSliceS (some (eget e 47)) (some (eget e 50)) (eget e 45))) <|
 aY 52 (pB .add 9 (cn (.str [32])) 51) <|
 aY 53 (pF 1 1 6) <|
 aY 54 (pL false 1 53) <|
 aY 55 (fun n e M => keep (aConvI .i64 (eget e 54))) <|
 aY 56 (pK c false 161 [55]) <|
 aY 57 (pB .add 9 52 56) <|
 aY 58 (pB .add 9 44 57) <|
 aY 3 (pM 58) <|
 aYZ)
 (aXZ)
noncomputable def f158_r13 (c : CallF) : RF := rg [2] <| aX 59 (pM 3) <|
 aX 2 (pM 59) <|
 aXZ
noncomputable def f158_l5 (c : CallF) (k : Nat) : St :=
 (bSeq (bSeq (bReg (f158_r5 c))
 (bCond (.tmp 12) (bEx .nrm) (bEx (.ext 0))))
 (bSeq (bBlock 1 (bReg (f158_r7 c)))
 (bReg (f158_r6 c))))
noncomputable def f158_l9 (c : CallF) (k : Nat) : St :=
 (bSeq (bSeq (bReg (f158_r9 c))
 (bCond (.tmp 34) (bEx .nrm) (bEx (.ext 2))))
 (bSeq (bBlock 3 (bSeq (bReg (f158_r11 c))
 (bReg (f158_r12 c))))
 (bReg (f158_r10 c))))
noncomputable def f158 (c : CallF) (k : Nat) : St :=
 (bSeq (bReg (f158_r0 c))
 (bSeq (bReg (f158_r1 c))
 (bSeq (bSeq (bReg (f158_r2 c))
 (bCond (.tmp 10) (bReg (f158_r3 c)) (bEx .nrm)))
 (bSeq (bSeq (bReg (f158_r4 c))
 (bBlock 0 (bLoop [0, 3, 4] (f158_l5 c k) k)))
 (bSeq (bSeq (bReg (f158_r8 c))
 (bBlock 2 (bLoop [0, 3, 5] (f158_l9 c k) k)))
 (bSeq (bReg (f158_r13 c))
 (bEx .ret)))))))
theorem f158_eq (c : CallF) (k : Nat) : exec cx c 60 f158_an k (Try.f158.body.getD .skip) = f158 c k := by kernel_rfl
def f159_an : Ann := ⟨[(0, r0 [0, 1]), (1, r0 [0, 1, 5]), (2, r0 [0, 1, 5, 7]), (3, r0 [0, 1, 5]), (4, r0 [0, 1, 5]), (5, r0 [4])], [(2, [0, 1, 5])]⟩
noncomputable def f159_r0 (c : CallF) : RF := rg [0, 1] <| aX 4 (pM (cn (.int .u32 0))) <|
 aXZ
noncomputable def f159_r1 (c : CallF) : RF := rg [0, 1, 5] <| aX 5 (pM (cn (.int .i64 24))) <|
 aXZ
noncomputable def f159_r2 (c : CallF) : RF := rg [0, 1, 5, 7] <| aX 6 (pM 5) <|
 aX 7 (pB .geq 3 6 (cn (.int .i64 0))) <|
 aXZ
noncomputable def f159_r3 (c : CallF) : RF := rg [0, 1, 5] <| aX 8 (pM 5) <|
 aX 9 (pB .sub 3 8 (cn (.int .i64 8))) <|
 aX 5 (pM 9) <|
 aXZ
noncomputable def f159_r4 (c : CallF) : RF := rg [0, 1, 5] <| aX 10 (pM 0) <|
 aX 11 (pM 1) <|
 aX 12 (pM 5) <|
 aX 13 (fun n e M => keep (aConvI .u64 (eget e 12))) <|
 aX 14 (pB .shr 77 11 13) <|
 aX 15 (pB .and 77 14 (cn (.int .u32 255))) <|
 aX 16 (pB .xor 77 10 15) <|
 aX 17 (pB .mul 77 16 (cn (.int .u32 16777619))) <|
 aX 0 (pM 17) <|
 aXZ
noncomputable def f159_r5 (c : CallF) : RF := rg [4] <| aX 18 (pM 0) <|
 aX 4 (pM 18) <|
 aXZ
noncomputable def f159_l2 (c : CallF) (k : Nat) : St :=
 (bSeq (bSeq (bReg (f159_r2 c))
 (bCond (.tmp 7) (bEx .nrm) (bEx (.ext 0))))
 (bSeq (bBlock 1 (bReg (f159_r4 c)))
 (bReg (f159_r3 c))))
noncomputable def f159 (c : CallF) (k : Nat) : St :=
 (bSeq (bReg (f159_r0 c))
 (bSeq (bSeq (bReg (f159_r1 c))
 (bBlock 0 (bLoop [0, 1, 5] (f159_l2 c k) k)))
 (bSeq (bReg (f159_r5 c))
 (bEx .ret))))
theorem f159_eq (c : CallF) (k : Nat) : exec cx c 19 f159_an k (Try.f159.body.getD .skip) = f159 c k := by kernel_rfl
def f160_an : Ann := ⟨[(0, r0 []), (1, r0 [0])], []⟩
noncomputable def f160_r0 (c : CallF) : RF := rg [] <| aX 0 (pM (cn (.str []))) <|
 aXZ
noncomputable def f160_r1 (c : CallF) : RF := rg [0] <| aX 0 (pM (cn (.str [100, 115, 108, 118, 99, 109]))) <|
 aXZ
noncomputable def f160 (c : CallF) (k : Nat) : St :=
 (bSeq (bReg (f160_r0 c))
 (bSeq (bReg (f160_r1 c))
 (bEx .ret)))
theorem f160_eq (c : CallF) (k : Nat) : exec cx c 1 f160_an k (Try.f160.body.getD .skip) = f160 c k := by kernel_rfl
def f161_an : Ann := ⟨[(0, r0 [0]), (1, r0 [0, 4]), (2, r0 [2]), (3, r0 [2])], []⟩
noncomputable def f161_r0 (c : CallF) : RF := rg [0] <| aX 2 (pM (cn (.str []))) <|
 aXZ
noncomputable def f161_r1 (c : CallF) : RF := rg [0, 4] <| aX 3 (pM 0) <|
 aX 4 (pB .lss 2 3 (cn (.int .i64 10))) <|
 aXZ
noncomputable def f161_r2 (c : CallF) : RF := rg [2] <| aX 5 (pM 0) <|
 aX 6 (pB .rem 2 5 (cn (.int .i64 10))) <|
 aX 7 (pB .add 2 (cn (.int .i64 48)) 6) <|
 aX 8 (fun n e M => keep (aConvI .u8 (eget e 7))) <|
 aX 9 (fun n e M => keep (aLitI 5 1 [(eget e 8)] M)) <|
 aX 10 (fun n e M => keep (aConvB (eget e 9) M)) <|
 aX 2 (pM 10) <|
 aXZ
noncomputable def f161_r3 (c : CallF) : RF := rgD [2] (aY 11 (pM 0) <|
 aY 12 (pB .quo 2 11 (cn (.int .i64 10))) <|
 aY 13 (pK c false 161 [12]) <|
 aY 14 (pM 0) <|
 aY 15 (pB .rem 2 14 (cn (.int .i64 10))) <|
 aY 16 (pB .add 2 (cn (.int .i64 48)) 15) <|
 aY 17 (fun n e M => keep (aConvI .u8 (eget e 16))) <|
 aY 18 (fun n e M => keep (aLitI 5 1 [(eget e 17)] M)) <|
 aY 19 (fun n e M => keep (aConvB (eget e 18) M)) <|
 aY 20 (pB .add 9 13 19) <|
 aY 2 (pM 20) <|
 aYZ)
 (aXZ)
noncomputable def f161 (c : CallF) (k : Nat) : St :=
 (bSeq (bReg (f161_r0 c))
 (bSeq (bSeq (bReg (f161_r1 c))
 (bCond (.tmp 4) (bSeq (bReg (f161_r2 c))
 (bEx .ret)) (bEx .nrm)))
 (bSeq (bReg (f161_r3 c))
 (bEx .ret))))
theorem f161_eq (c : CallF) (k : Nat) : exec cx c 21 f161_an k (Try.f161.body.getD .skip) = f161 c k := by kernel_rfl
def anns : List (Nat × Ann) := [(5, f5_an), (37, f37_an), (38, f38_an), (39, f39_an), (40, f40_an), (41, f41_an), (42, f42_an), (43, f43_an), (44, f44_an), (45, f45_an), (46, f46_an), (47, f47_an), (48, f48_an), (49, f49_an), (51, f51_an), (60, f60_an), (74, f74_an), (88, f88_an), (89, f89_an), (90, f90_an), (91, f91_an), (92, f92_an), (93, f93_an), (94, f94_an), (95, f95_an), (96, f96_an), (97, f97_an), (98, f98_an), (99, f99_an), (100, f100_an), (101, f101_an), (102, f102_an), (103, f103_an), (104, f104_an), (117, f117_an), (118, f118_an), (119, f119_an), (120, f120_an), (121, f121_an), (122, f122_an), (123, f123_an), (124, f124_an), (125, f125_an), (126, f126_an), (127, f127_an), (128, f128_an), (129, f129_an), (130, f130_an), (131, f131_an), (132, f132_an), (133, f133_an), (134, f134_an), (135, f135_an), (136, f136_an), (137, f137_an), (138, f138_an), (139, f139_an), (140, f140_an), (141, f141_an), (146, f146_an), (147, f147_an), (148, f148_an), (149, f149_an), (150, f150_an), (151, f151_an), (152, f152_an), (153, f153_an), (154, f154_an), (155, f155_an), (156, f156_an), (157, f157_an), (158, f158_an), (159, f159_an), (160, f160_an), (161, f161_an)]
noncomputable def CN0 : Nat → CallF := callN cx (Go.Ab.look anns) (fun _ _ _ => none) (fun _ => false)
def isP (f : Nat) : Bool := has [130] f
noncomputable def primF : CallF := splitNil (callN cx (Go.Ab.look anns) (fun _ _ _ => none) (fun _ => false) 3)
noncomputable def CN : Nat → CallF := callN cx (Go.Ab.look anns) primF isP
end Go.Proofs.Ytjlalepbhcekoaa

/- Printed by a program of ours (ext.py). -/
import Derived.Test.YtjlalepbhcekoaaAbGhL
import Derived.Test.YtjlalepbhcekoaaProg
set_option linter.unusedVariables false
set_option linter.unusedSimpArgs false
set_option maxRecDepth 100000
set_option maxHeartbeats 20000000
namespace Go.Proofs.Ytjlalepbhcekoaa
open Go Go.Ab
theorem E {α:Sort _} {a:α}:a=a:=rfl
noncomputable def cx:Cx:=⟨Try.prog,fun f=>has [50,51,69,88,105,117,141] f,fun f=>has [9,10,11,14,16,17,18,22] f⟩
noncomputable abbrev pB:=pB_ cx.P
noncomputable abbrev pLen:=pLen_ cx.P
noncomputable abbrev pAl:=pAl_ cx.P
noncomputable abbrev pK:=pK_ cx
def f3_an:Ann:=⟨[(0,r0 [0,1]),(1,r0 [0,1,41]),(2,r0 [4]),(3,r0 [1,5,6]),(4,r0 [1,5,6,7]),(5,r0 [1,5,6,7,8,9]),(6,r0 [1,5,6,7,8,9,10,11]),(7,r0 [1,5,6,7,8,9,10,11,12]),(8,r0 [1,5,6,7,8,9,10,11,12,78]),(9,r0 [1,5,6,7,8,9,10,11,12]),(10,⟨[],[],[7],[9,10],[1,5,6,7,8,9,10,11,13,14],none,[]⟩),(11,r0 [1,5,6,7,10,128]),(12,r0 [4]),(13,r0 [1,5,6,7,10,15]),(14,r0 [1,5,6,10,15,16,17]),(15,r0 [1,5,6,16,17,18,19]),(16,r0 [1,5,6,168]),(17,r0 [4]),(18,r0 [1,5,6,20,21]),(19,r0 [1,5,6,20,21,182]),(20,r0 [4]),(21,r0 [5,6,20,22]),(22,r0 [5,6,20,22,23,24]),(23,r0 [5,6,20,22,23,24,25,26]),(24,r0 [5,6,20,22,23,24,25,26,27,28]),(25,r0 [5,6,20,22,23,24,25,26,27,28,29,30,31]),(26,r0 [5,6,20,22,23,24,25,26,27,28,29,30,31,32,33,34]),(27,r0 [5,6,20,22,25,27,287]),(28,r0 [4]),(29,r0 [5,6,20,22,25,27,35]),(30,r0 [5,6,20,22,25,27,35,291]),(31,r0 [5,6,20,22,25,27,35]),(32,r0 [5,6,20,22,25,27,35,36]),(33,r0 [5,6,20,22,25,27,35,325]),(34,r0 [4]),(35,r0 [20,22,37,38]),(36,r0 [4])],[(8,[1,5,6,7,8,9,10,11,12]),(30,[5,6,20,22,25,27,35])]⟩
noncomputable def f3_r0 (c:CallF):RF:=rg [0,1] <| aX 4 (pM (cn (.bool false)))<|aXZ
noncomputable def f3_r1 (c:CallF):RF:=rg [0,1,41] <| aX 39 (pM 0)<|aX 40 (pM 1)<|aX 41 (pK c false 6 [39,40])<|aXZ
noncomputable def f3_r2 (c:CallF):RF:=rg [4] <| aX 4 (pM (cn (.bool true)))<|aXZ
noncomputable def f3_r3 (c:CallF):RF:=rg [1,5,6] <| aX 43 (pM 0)<|aX 44 (pK c false 7 [43])<|aX 42 (pM 44)<|aX 45 (pE 0 42)<|aX 46 (pE 1 42)<|aX 5 (pAl 27 3)<|aX0 (pS 3 5 45)<|aX 6 (pM 46)<|aXZ
noncomputable def f3_r4 (c:CallF):RF:=rgD [1,5,6,7] (aY 47 (pF 0 1 5)<|aY 48 (pL false 1 47)<|aY 49 (pM 1)<|aY 50 (pK c false 8 [49,(cn (.int .i64 0)),(cn (.int .i64 20))])<|aY 51 (pB .add 2 48 50)<|aY 7 (pM 51)<|aYZ)
 (aXZ)
noncomputable def f3_r5 (c:CallF):RF:=rg [1,5,6,7,8,9] <| aX 53 (pL true 3 5)<|aX 54 (pM 6)<|aX 55 (pM 7)<|aX 56 (pK c false 9 [53,54,55])<|aX 52 (pM 56)<|aX 57 (pE 0 52)<|aX 58 (pE 1 52)<|aX 8 (pAl 27 3)<|aX0 (pS 3 8 57)<|aX 9 (pM 58)<|aXZ
noncomputable def f3_r6 (c:CallF):RF:=rg [1,5,6,7,8,9,10,11] <| aX 60 (pL true 3 5)<|aX 61 (pM 6)<|aX 62 (pM 7)<|aX 63 (pK c false 10 [60,61,62])<|aX 59 (pM 63)<|aX 64 (pE 0 59)<|aX 65 (pE 1 59)<|aX 10 (pAl 27 3)<|aX0 (pS 3 10 64)<|aX 11 (pM 65)<|aXZ
noncomputable def f3_r7 (c:CallF):RF:=rg [1,5,6,7,8,9,10,11,12] <| aX 12 (pM (cn (.int .i64 0)))<|aXZ
noncomputable def f3_r8 (c:CallF):RF:=rg [1,5,6,7,8,9,10,11,12,78] <| aX 66 (pM 12)<|aX 67 (pM 6)<|aX 68 (pLen 28 67)<|aX 69 (pB .lss 3 66 68)<|aX 70 (pM 69)<|aX 71 (pG 70 true (pM 6))<|aX 72 (pG 70 true (pM 12))<|aX 73 (pG 70 true (pI 6 71 72))<|aX 74 (pG 70 true (pF 0 1 73))<|aX 75 (pG 70 true (pL false 1 74))<|aX 76 (pG 70 true (pM 7))<|aX 77 (pG 70 true (pB .leq 2 75 76))<|aX 78 (pP 70 77 (cn (.bool false)))<|aXZ
noncomputable def f3_r9 (c:CallF):RF:=rg [1,5,6,7,8,9,10,11,12] <| aX 79 (pM 12)<|aX 80 (pB .add 3 79 (cn (.int .i64 1)))<|aX 12 (pM 80)<|aXZ
noncomputable def f3_r10 (c:CallF):RF:=rgD [1,5,6,7,8,9,10,11,13,14] (aY 82 (pL true 3 5)<|aY 83 (pM 6)<|aY 84 (pM 12)<|aY 85 (fun n e M=>keep (aSlice 6 none (some (eget e 84)) (eget e 83) M))<|aY 86 (pK c false 11 [82,85])<|aY 81 (pM 86)<|aY 87 (pE 0 81)<|aYc 88 (pE 1 81)<|aY 13 (pAl 27 3)<|aYZ)
 (aX0 (pS 3 13 87)<|aX 14 (pM 88)<|aXZ)
noncomputable def f3_r11 (c:CallF):RF:=rg [1,5,6,7,10,128] <| aX 89 (pM 9)<|aX 90 (pM 11)<|aX 91 (pB .neq 2 89 90)<|aX 92 (pM 91)<|aX 93 (pG 92 false (pM 9))<|aX 94 (pG 92 false (pB .neq 2 93 (cn (.int .i64 0))))<|aX 95 (pP 92 (cn (.bool true)) 94)<|aX 96 (pM 95)<|aX 97 (pG 96 false (pL true 3 8))<|aX 98 (pG 96 false (pL true 3 10))<|aX 99 (pG 96 false (pK c false 12 [97,98]))<|aX 100 (pG 96 false (pU .not 99))<|aX 101 (pP 96 (cn (.bool true)) 100)<|aX 102 (pM 101)<|aX 103 (pG 102 false (pF 0 1 10))<|aX 104 (pG 102 false (pL false 1 103))<|aX 105 (pG 102 false (pM 7))<|aX 106 (pG 102 false (pB .neq 2 104 105))<|aX 107 (pP 102 (cn (.bool true)) 106)<|aX 108 (pM 107)<|aX 109 (pG 108 false (pM 14))<|aX 110 (pG 108 false (pB .neq 2 109 (cn (.int .i64 0))))<|aX 111 (pP 108 (cn (.bool true)) 110)<|aX 112 (pM 111)<|aX 113 (pG 112 false (pF 1 1 13))<|aX 114 (pG 112 false (pL false 1 113))<|aX 115 (pG 112 false (pF 1 1 10))<|aX 116 (pG 112 false (pL false 1 115))<|aX 117 (pG 112 false (pK c false 13 [114,116]))<|aX 118 (pG 112 false (pU .not 117))<|aX 119 (pP 112 (cn (.bool true)) 118)<|aX 120 (pM 119)<|aX 121 (pG 120 false (pF 2 1 13))<|aX 122 (pG 120 false (pL false 1 121))<|aX 123 (pG 120 false (pLen 25 122))<|aX 124 (pG 120 false (pF 2 1 10))<|aX 125 (pG 120 false (pL false 1 124))<|aX 126 (pG 120 false (pLen 25 125))<|aX 127 (pG 120 false (pB .neq 3 123 126))<|aX 128 (pP 120 (cn (.bool true)) 127)<|aXZ
noncomputable def f3_r12 (c:CallF):RF:=rg [4] <| aX 4 (pM (cn (.bool false)))<|aXZ
noncomputable def f3_r13 (c:CallF):RF:=rg [1,5,6,7,10,15] <| aX 129 (pM 1)<|aX 130 (pF 1 1 5)<|aX 131 (pL false 1 130)<|aX 132 (pLen 24 131)<|aX 133 (pK c false 8 [129,(cn (.int .i64 1)),132])<|aX 15 (pM 133)<|aXZ
noncomputable def f3_r14 (c:CallF):RF:=rg [1,5,6,10,15,16,17] <| aX 135 (pL true 3 5)<|aX 136 (pM 6)<|aX 137 (pM 15)<|aX 138 (pM 7)<|aX 139 (pF 0 1 5)<|aX 140 (pL false 1 139)<|aX 141 (fun n e M=>keep (aLitI 2 1 [(eget e 138),(eget e 140)] M))<|aX 142 (pK c false 14 [135,136,137,141])<|aX 134 (pM 142)<|aX 143 (pE 0 134)<|aX 144 (pE 1 134)<|aX 16 (pM 143)<|aX 17 (pM 144)<|aXZ
noncomputable def f3_r15 (c:CallF):RF:=rg [1,5,6,16,17,18,19] <| aX 146 (pL true 3 10)<|aX 147 (pM 15)<|aX 148 (pK c false 15 [146,147])<|aX 145 (pM 148)<|aX 149 (pE 0 145)<|aX 150 (pE 1 145)<|aX 18 (pM 149)<|aX 19 (pM 150)<|aXZ
noncomputable def f3_r16 (c:CallF):RF:=rg [1,5,6,168] <| aX 151 (pM 17)<|aX 152 (pB .neq 2 151 (cn (.int .i64 0)))<|aX 153 (pM 152)<|aX 154 (pG 153 false (pM 16))<|aX 155 (pG 153 false (pLen 24 154))<|aX 156 (pG 153 false (pB .neq 3 155 (cn (.int .i64 2))))<|aX 157 (pP 153 (cn (.bool true)) 156)<|aX 158 (pM 157)<|aX 159 (pG 158 false (pM 19))<|aX 160 (pG 158 false (pB .neq 2 159 (cn (.int .i64 0))))<|aX 161 (pP 158 (cn (.bool true)) 160)<|aX 162 (pM 161)<|aX 163 (pG 162 false (pM 16))<|aX 164 (pG 162 false (pI 1 163 (cn (.int .i64 0))))<|aX 165 (pG 162 false (pL false 1 164))<|aX 166 (pG 162 false (pM 18))<|aX 167 (pG 162 false (pB .neq 2 165 166))<|aX 168 (pP 162 (cn (.bool true)) 167)<|aXZ
noncomputable def f3_r17 (c:CallF):RF:=rg [4] <| aX 4 (pM (cn (.bool false)))<|aXZ
noncomputable def f3_r18 (c:CallF):RF:=rg [1,5,6,20,21] <| aX 170 (pL true 3 5)<|aX 171 (pM 6)<|aX 172 (pK c false 16 [170,171])<|aX 169 (pM 172)<|aX 173 (pE 0 169)<|aX 174 (pE 1 169)<|aX 20 (pAl 27 3)<|aX0 (pS 3 20 173)<|aX 21 (pM 174)<|aXZ
noncomputable def f3_r19 (c:CallF):RF:=rg [1,5,6,20,21,182] <| aX 175 (pM 21)<|aX 176 (pB .neq 2 175 (cn (.int .i64 0)))<|aX 177 (pM 176)<|aX 178 (pG 177 false (pF 2 1 20))<|aX 179 (pG 177 false (pL false 1 178))<|aX 180 (pG 177 false (pLen 25 179))<|aX 181 (pG 177 false (pB .eql 3 180 (cn (.int .i64 0))))<|aX 182 (pP 177 (cn (.bool true)) 181)<|aXZ
noncomputable def f3_r20 (c:CallF):RF:=rg [4] <| aX 183 (pM 21)<|aX 184 (pB .eql 2 183 (cn (.int .i64 0)))<|aX 4 (pM 184)<|aXZ
noncomputable def f3_r21 (c:CallF):RF:=rg [5,6,20,22] <| aX 185 (pM 1)<|aX 186 (pF 2 1 20)<|aX 187 (pL false 1 186)<|aX 188 (pLen 25 187)<|aX 189 (pK c false 8 [185,(cn (.int .i64 2)),188])<|aX 22 (pM 189)<|aXZ
noncomputable def f3_r22 (c:CallF):RF:=rg [5,6,20,22,23,24] <| aX 191 (pL true 3 5)<|aX 192 (pM 6)<|aX 193 (pM 22)<|aX 194 (pK c false 17 [191,192,193])<|aX 190 (pM 194)<|aX 195 (pE 0 190)<|aX 196 (pE 1 190)<|aX 23 (pM 195)<|aX 24 (pM 196)<|aXZ
noncomputable def f3_r23 (c:CallF):RF:=rg [5,6,20,22,23,24,25,26] <| aX 198 (pL true 3 5)<|aX 199 (pM 6)<|aX 200 (pM 22)<|aX 201 (pK c false 18 [198,199,200])<|aX 197 (pM 201)<|aX 202 (pE 0 197)<|aX 203 (pE 1 197)<|aX 25 (pM 202)<|aX 26 (pM 203)<|aXZ
noncomputable def f3_r24 (c:CallF):RF:=rg [5,6,20,22,23,24,25,26,27,28] <| aX 205 (pL true 3 5)<|aX 206 (pM 6)<|aX 207 (pM 22)<|aX 208 (pF 0 1 20)<|aX 209 (pL false 1 208)<|aX 210 (pK c false 19 [205,206,207,209])<|aX 204 (pM 210)<|aX 211 (pE 0 204)<|aX 212 (pE 1 204)<|aX 27 (pM 211)<|aX 28 (pM 212)<|aXZ
noncomputable def f3_r25 (c:CallF):RF:=rg [5,6,20,22,23,24,25,26,27,28,29,30,31] <| aX 214 (pL true 3 5)<|aX 215 (pM 6)<|aX 216 (pM 22)<|aX 217 (pK c false 20 [214,215,216])<|aX 213 (pM 217)<|aX 218 (pE 0 213)<|aX 219 (pE 1 213)<|aX 220 (pE 2 213)<|aX 29 (pM 218)<|aX 30 (pM 219)<|aX 31 (pM 220)<|aXZ
noncomputable def f3_r26 (c:CallF):RF:=rg [5,6,20,22,23,24,25,26,27,28,29,30,31,32,33,34] <| aX 222 (pL true 3 5)<|aX 223 (pM 6)<|aX 224 (pM 22)<|aX 225 (pK c false 21 [222,223,224])<|aX 221 (pM 225)<|aX 226 (pE 0 221)<|aX 227 (pE 1 221)<|aX 228 (pE 2 221)<|aX 32 (pM 226)<|aX 33 (pM 227)<|aX 34 (pM 228)<|aXZ
noncomputable def f3_r27 (c:CallF):RF:=rg [5,6,20,22,25,27,287] <| aX 229 (pM 24)<|aX 230 (pM 26)<|aX 231 (pB .neq 2 229 230)<|aX 232 (pM 231)<|aX 233 (pG 232 false (pM 24))<|aX 234 (pG 232 false (pB .neq 2 233 (cn (.int .i64 0))))<|aX 235 (pP 232 (cn (.bool true)) 234)<|aX 236 (pM 235)<|aX 237 (pG 236 false (pM 23))<|aX 238 (pG 236 false (pM 25))<|aX 239 (pG 236 false (pK c false 13 [237,238]))<|aX 240 (pG 236 false (pU .not 239))<|aX 241 (pP 236 (cn (.bool true)) 240)<|aX 242 (pM 241)<|aX 243 (pG 242 false (pM 28))<|aX 244 (pG 242 false (pB .neq 2 243 (cn (.int .i64 0))))<|aX 245 (pP 242 (cn (.bool true)) 244)<|aX 246 (pM 245)<|aX 247 (pG 246 false (pM 27))<|aX 248 (pG 246 false (pF 2 1 20))<|aX 249 (pG 246 false (pL false 1 248))<|aX 250 (pG 246 false (pM 22))<|aX 251 (pG 246 false (pI 5 249 250))<|aX 252 (pG 246 false (pF 1 1 251))<|aX 253 (pG 246 false (pL false 1 252))<|aX 254 (pG 246 false (pB .neq 2 247 253))<|aX 255 (pP 246 (cn (.bool true)) 254)<|aX 256 (pM 255)<|aX 257 (pG 256 false (pM 31))<|aX 258 (pG 256 false (pM 34))<|aX 259 (pG 256 false (pB .neq 2 257 258))<|aX 260 (pP 256 (cn (.bool true)) 259)<|aX 261 (pM 260)<|aX 262 (pG 261 false (pM 31))<|aX 263 (pG 261 false (pB .neq 2 262 (cn (.int .i64 0))))<|aX 264 (pP 261 (cn (.bool true)) 263)<|aX 265 (pM 264)<|aX 266 (pG 265 false (pM 29))<|aX 267 (pG 265 false (pM 32))<|aX 268 (pG 265 false (pB .neq 2 266 267))<|aX 269 (pP 265 (cn (.bool true)) 268)<|aX 270 (pM 269)<|aX 271 (pG 270 false (pM 30))<|aX 272 (pG 270 false (pM 33))<|aX 273 (pG 270 false (pB .neq 2 271 272))<|aX 274 (pP 270 (cn (.bool true)) 273)<|aX 275 (pM 274)<|aX 276 (pG 275 false (pM 33))<|aX 277 (pG 275 false (pB .lss 2 276 (cn (.int .i64 0))))<|aX 278 (pP 275 (cn (.bool true)) 277)<|aX 279 (pM 278)<|aX 280 (pG 279 false (pM 33))<|aX 281 (pG 279 false (pF 0 1 20))<|aX 282 (pG 279 false (pL false 1 281))<|aX 283 (pG 279 false (pF 0 1 5))<|aX 284 (pG 279 false (pL false 1 283))<|aX 285 (pG 279 false (pB .sub 2 282 284))<|aX 286 (pG 279 false (pB .gtr 2 280 285))<|aX 287 (pP 279 (cn (.bool true)) 286)<|aXZ
noncomputable def f3_r28 (c:CallF):RF:=rg [4] <| aX 4 (pM (cn (.bool false)))<|aXZ
noncomputable def f3_r29 (c:CallF):RF:=rg [5,6,20,22,25,27,35] <| aX 35 (pM (cn (.int .i64 0)))<|aXZ
noncomputable def f3_r30 (c:CallF):RF:=rg [5,6,20,22,25,27,35,291] <| aX 288 (pM 35)<|aX 289 (pM 25)<|aX 290 (pLen 24 289)<|aX 291 (pB .lss 3 288 290)<|aXZ
noncomputable def f3_r31 (c:CallF):RF:=rg [5,6,20,22,25,27,35] <| aX 292 (pM 35)<|aX 293 (pB .add 3 292 (cn (.int .i64 1)))<|aX 35 (pM 293)<|aXZ
noncomputable def f3_r32 (c:CallF):RF:=rg [5,6,20,22,25,27,35,36] <| aX 294 (pM 6)<|aX 295 (pM 25)<|aX 296 (pM 35)<|aX 297 (pI 1 295 296)<|aX 298 (pL false 1 297)<|aX 299 (pI 6 294 298)<|aX 300 (pL true 6 299)<|aX 36 (pAl 36 6)<|aX0 (pS 6 36 300)<|aXZ
noncomputable def f3_r33 (c:CallF):RF:=rg [5,6,20,22,25,27,35,325] <| aX 301 (pF 1 1 36)<|aX 302 (pL false 1 301)<|aX 303 (pB .eql 34 302 (cn (.int .i8 1)))<|aX 304 (pM 303)<|aX 305 (pG 304 true (pM 35))<|aX 306 (pG 304 true (pB .gtr 3 305 (cn (.int .i64 0))))<|aX 307 (pG 304 true (pM 306))<|aX 308 (pG 307 false (pM 22))<|aX 309 (pG 307 false (pF 2 1 5))<|aX 310 (pG 307 false (pL false 1 309))<|aX 311 (pG 307 false (pLen 25 310))<|aX 312 (pG 307 false (pB .lss 2 308 311))<|aX 313 (pG 304 true (pP 307 (cn (.bool true)) 312))<|aX 314 (pP 304 313 (cn (.bool false)))<|aX 315 (pM 314)<|aX 316 (pG 315 false (pF 1 1 36))<|aX 317 (pG 315 false (pL false 1 316))<|aX 318 (pG 315 false (pB .neq 34 317 (cn (.int .i8 1))))<|aX 319 (pG 315 false (pM 318))<|aX 320 (pG 319 true (pF 2 1 36))<|aX 321 (pG 319 true (pL false 1 320))<|aX 322 (pG 319 true (pM 22))<|aX 323 (pG 319 true (pB .neq 2 321 322))<|aX 324 (pG 315 false (pP 319 323 (cn (.bool false))))<|aX 325 (pP 315 (cn (.bool true)) 324)<|aXZ
noncomputable def f3_r34 (c:CallF):RF:=rg [4] <| aX 4 (pM (cn (.bool false)))<|aXZ
noncomputable def f3_r35 (c:CallF):RF:=rg [20,22,37,38] <| aX 327 (pL true 3 20)<|aX 328 (pM 27)<|aX 329 (pK c false 22 [327,328])<|aX 326 (pM 329)<|aX 330 (pE 0 326)<|aX 331 (pE 1 326)<|aX 37 (pM 330)<|aX 38 (pM 331)<|aXZ
noncomputable def f3_r36 (c:CallF):RF:=rgD [4] (aY 332 (pM 38)<|aY 333 (pB .eql 2 332 (cn (.int .i64 0)))<|aY 334 (pM 333)<|aY 335 (pG 334 true (pM 37))<|aY 336 (pG 334 true (pM 22))<|aY 337 (pG 334 true (pK c false 23 [335,336]))<|aY 338 (pG 334 true (pF 2 1 20))<|aY 339 (pG 334 true (pL false 1 338))<|aY 340 (pG 334 true (pM 22))<|aY 341 (pG 334 true (pI 5 339 340))<|aY 342 (pG 334 true (pF 4 1 341))<|aY 343 (pG 334 true (pL false 1 342))<|aY 344 (pG 334 true (pB .gtr 2 343 (cn (.int .i64 0))))<|aY 345 (pG 334 true (pB .eql 4 337 344))<|aY 346 (pP 334 345 (cn (.bool false)))<|aY 4 (pM 346)<|aYZ)
 (aXZ)
noncomputable def f3_l8 (c:CallF) (k:Nat):St:=
 (bSeq (bSeq (bReg (f3_r8 c))
 (bCond (.tmp 78) (bEx .nrm) (bEx (.ext 0))))
 (bBlock 1 (bReg (f3_r9 c))))
noncomputable def f3_l30 (c:CallF) (k:Nat):St:=
 (bSeq (bSeq (bReg (f3_r30 c))
 (bCond (.tmp 291) (bEx .nrm) (bEx (.ext 2))))
 (bSeq (bBlock 3 (bSeq (bReg (f3_r32 c))
 (bSeq (bReg (f3_r33 c))
 (bCond (.tmp 325) (bSeq (bReg (f3_r34 c))
 (bEx .ret)) (bEx .nrm)))))
 (bReg (f3_r31 c))))
noncomputable def f3 (c:CallF) (k:Nat):St:=
 (bSeq (bReg (f3_r0 c))
 (bSeq (bSeq (bReg (f3_r1 c))
 (bCond (.tmp 41) (bSeq (bReg (f3_r2 c))
 (bEx .ret)) (bEx .nrm)))
 (bSeq (bReg (f3_r3 c))
 (bSeq (bReg (f3_r4 c))
 (bSeq (bReg (f3_r5 c))
 (bSeq (bReg (f3_r6 c))
 (bSeq (bReg (f3_r7 c))
 (bSeq (bBlock 0 (bLoop [1,5,6,7,8,9,10,11,12] (f3_l8 c k) k))
 (bSeq (bReg (f3_r10 c))
 (bSeq (bSeq (bReg (f3_r11 c))
 (bCond (.tmp 128) (bSeq (bReg (f3_r12 c))
 (bEx .ret)) (bEx .nrm)))
 (bSeq (bReg (f3_r13 c))
 (bSeq (bReg (f3_r14 c))
 (bSeq (bReg (f3_r15 c))
 (bSeq (bSeq (bReg (f3_r16 c))
 (bCond (.tmp 168) (bSeq (bReg (f3_r17 c))
 (bEx .ret)) (bEx .nrm)))
 (bSeq (bReg (f3_r18 c))
 (bSeq (bSeq (bReg (f3_r19 c))
 (bCond (.tmp 182) (bSeq (bReg (f3_r20 c))
 (bEx .ret)) (bEx .nrm)))
 (bSeq (bReg (f3_r21 c))
 (bSeq (bReg (f3_r22 c))
 (bSeq (bReg (f3_r23 c))
 (bSeq (bReg (f3_r24 c))
 (bSeq (bReg (f3_r25 c))
 (bSeq (bReg (f3_r26 c))
 (bSeq (bSeq (bReg (f3_r27 c))
 (bCond (.tmp 287) (bSeq (bReg (f3_r28 c))
 (bEx .ret)) (bEx .nrm)))
 (bSeq (bSeq (bReg (f3_r29 c))
 (bBlock 2 (bLoop [5,6,20,22,25,27,35] (f3_l30 c k) k)))
 (bSeq (bReg (f3_r35 c))
 (bSeq (bReg (f3_r36 c))
 (bEx .ret)))))))))))))))))))))))))))
theorem f3_eq (c:CallF) (k:Nat):exec cx c 347 f3_an k (Try.f3.body.getD .skip)=f3 c k:=by kernel_rfl
def f6_an:Ann:=⟨[(0,r0 [0,1]),(1,r0 [4])],[]⟩
noncomputable def f6_r0 (c:CallF):RF:=rg [0,1] <| aX 4 (pM (cn (.bool false)))<|aXZ
noncomputable def f6_r1 (c:CallF):RF:=rg [4] <| aX 5 (pM 0)<|aX 6 (pLen 22 5)<|aX 7 (pB .gtr 3 6 (cn (.int .i64 3000)))<|aX 8 (pM 7)<|aX 9 (pG 8 false (pM 1))<|aX 10 (pG 8 false (pLen 22 9))<|aX 11 (pG 8 false (pB .gtr 3 10 (cn (.int .i64 3000))))<|aX 12 (pP 8 (cn (.bool true)) 11)<|aX 4 (pM 12)<|aXZ
noncomputable def f6 (c:CallF) (k:Nat):St:=
 (bSeq (bReg (f6_r0 c))
 (bSeq (bReg (f6_r1 c))
 (bEx .ret)))
theorem f6_eq (c:CallF) (k:Nat):exec cx c 13 f6_an k (Try.f6.body.getD .skip)=f6 c k:=by kernel_rfl
def f7_an:Ann:=⟨[(0,r0 [0,2]),(1,r0 [2,3])],[]⟩
noncomputable def f7_r0 (c:CallF):RF:=rg [0,2] <| aX 2 (pAl 27 3)<|aX 3 (pM (cn .nils))<|aXZ
noncomputable def f7_r1 (c:CallF):RF:=rg [2,3] <| aX 4 (pM 0)<|aX 5 (pK c false 51 [4])<|aX 6 (pK c false 50 [5])<|aX 7 (pE 0 6)<|aX 8 (pE 1 6)<|aX0 (pS 3 2 7)<|aX 3 (pM 8)<|aXZ
noncomputable def f7 (c:CallF) (k:Nat):St:=
 (bSeq (bReg (f7_r0 c))
 (bSeq (bReg (f7_r1 c))
 (bEx .ret)))
theorem f7_eq (c:CallF) (k:Nat):exec cx c 9 f7_an k (Try.f7.body.getD .skip)=f7 c k:=by kernel_rfl
def f8_an:Ann:=⟨[(0,r0 [0,1,2]),(1,r0 [0,1,2,14]),(2,r0 [6]),(3,r0 [6])],[]⟩
noncomputable def f8_r0 (c:CallF):RF:=rg [0,1,2] <| aX 6 (pM (cn (.int .i64 0)))<|aXZ
noncomputable def f8_r1 (c:CallF):RF:=rg [0,1,2,14] <| aX 7 (pM 1)<|aX 8 (pM 0)<|aX 9 (pLen 22 8)<|aX 10 (pB .geq 2 7 9)<|aX 11 (pM 10)<|aX 12 (pG 11 false (pM 2))<|aX 13 (pG 11 false (pB .lss 2 12 (cn (.int .i64 1))))<|aX 14 (pP 11 (cn (.bool true)) 13)<|aXZ
noncomputable def f8_r2 (c:CallF):RF:=rg [6] <| aX 6 (pM (cn (.int .i64 0)))<|aXZ
noncomputable def f8_r3 (c:CallF):RF:=rg [6] <| aX 15 (pM 0)<|aX 16 (pM 1)<|aX 17 (pI 1 15 16)<|aX 18 (pL false 1 17)<|aX 19 (fun n e M=>keep (aConvI .i64 (eget e 18)))<|aX 20 (pM 2)<|aX 21 (pB .rem 2 19 20)<|aX 6 (pM 21)<|aXZ
noncomputable def f8 (c:CallF) (k:Nat):St:=
 (bSeq (bReg (f8_r0 c))
 (bSeq (bSeq (bReg (f8_r1 c))
 (bCond (.tmp 14) (bSeq (bReg (f8_r2 c))
 (bEx .ret)) (bEx .nrm)))
 (bSeq (bReg (f8_r3 c))
 (bEx .ret))))
theorem f8_eq (c:CallF) (k:Nat):exec cx c 22 f8_an k (Try.f8.body.getD .skip)=f8 c k:=by kernel_rfl
def f9_an:Ann:=⟨[(0,r0 [1,2,3,6]),(1,r0 [1,2,3,6,8]),(2,r0 [1,2,3,6,8,13]),(3,r0 [6,7]),(4,r0 [1,2,3,6,18]),(5,r0 [6,7]),(6,r0 [6,7])],[]⟩
noncomputable def f9_r0 (c:CallF):RF:=rg [1,2,3,6] <| aX 3 (pBox 3 0)<|aX 6 (pAl 27 3)<|aX 7 (pM (cn (.int .i64 0)))<|aXZ
noncomputable def f9_r1 (c:CallF):RF:=rg [1,2,3,6,8] <| aX 9 (pL true 3 3)<|aX 10 (pM 1)<|aX 11 (pK c false 52 [9,10])<|aX 8 (pM 11)<|aXZ
noncomputable def f9_r2 (c:CallF):RF:=rg [1,2,3,6,8,13] <| aX 12 (pM 8)<|aX 13 (pB .neq 2 12 (cn (.int .i64 0)))<|aXZ
noncomputable def f9_r3 (c:CallF):RF:=rg [6,7] <| aX 14 (fun n e M=>keep (aBuild (zeroOf cx.P 27) [] M))<|aX 15 (pM 8)<|aX0 (pS 3 6 14)<|aX 7 (pM 15)<|aXZ
noncomputable def f9_r4 (c:CallF):RF:=rg [1,2,3,6,18] <| aX 16 (pM 2)<|aX 17 (pK c false 53 [16])<|aX 18 (pU .not 17)<|aXZ
noncomputable def f9_r5 (c:CallF):RF:=rg [6,7] <| aX 19 (fun n e M=>keep (aBuild (zeroOf cx.P 27) [] M))<|aX0 (pS 3 6 19)<|aX 7 (pM (cn (.int .i64 2)))<|aXZ
noncomputable def f9_r6 (c:CallF):RF:=rg [6,7] <| aX 20 (pL true 3 3)<|aX 21 (pM 1)<|aX 22 (pM 2)<|aX 23 (pK c false 54 [20,21,22])<|aX 24 (pE 0 23)<|aX 25 (pE 1 23)<|aX0 (pS 3 6 24)<|aX 7 (pM 25)<|aXZ
noncomputable def f9 (c:CallF) (k:Nat):St:=
 (bSeq (bReg (f9_r0 c))
 (bSeq (bSeq (bReg (f9_r1 c))
 (bSeq (bReg (f9_r2 c))
 (bCond (.tmp 13) (bSeq (bReg (f9_r3 c))
 (bEx .ret)) (bEx .nrm))))
 (bSeq (bSeq (bReg (f9_r4 c))
 (bCond (.tmp 18) (bSeq (bReg (f9_r5 c))
 (bEx .ret)) (bEx .nrm)))
 (bSeq (bReg (f9_r6 c))
 (bEx .ret)))))
theorem f9_eq (c:CallF) (k:Nat):exec cx c 26 f9_an k (Try.f9.body.getD .skip)=f9 c k:=by kernel_rfl
def f10_an:Ann:=⟨[(0,r0 [1,2,3,6]),(1,r0 [1,2,3,6,8]),(2,r0 [1,2,3,6,8,12]),(3,r0 [6,7]),(4,r0 [1,2,3,6,17]),(5,r0 [6,7]),(6,r0 [6,7])],[]⟩
noncomputable def f10_r0 (c:CallF):RF:=rg [1,2,3,6] <| aX 3 (pBox 3 0)<|aX 6 (pAl 27 3)<|aX 7 (pM (cn (.int .i64 0)))<|aXZ
noncomputable def f10_r1 (c:CallF):RF:=rg [1,2,3,6,8] <| aX 9 (pM 1)<|aX 10 (pK c false 55 [3,9])<|aX 8 (pM 10)<|aXZ
noncomputable def f10_r2 (c:CallF):RF:=rg [1,2,3,6,8,12] <| aX 11 (pM 8)<|aX 12 (pB .neq 2 11 (cn (.int .i64 0)))<|aXZ
noncomputable def f10_r3 (c:CallF):RF:=rg [6,7] <| aX 13 (fun n e M=>keep (aBuild (zeroOf cx.P 27) [] M))<|aX 14 (pM 8)<|aX0 (pS 3 6 13)<|aX 7 (pM 14)<|aXZ
noncomputable def f10_r4 (c:CallF):RF:=rg [1,2,3,6,17] <| aX 15 (pM 2)<|aX 16 (pK c false 56 [15])<|aX 17 (pU .not 16)<|aXZ
noncomputable def f10_r5 (c:CallF):RF:=rg [6,7] <| aX 18 (fun n e M=>keep (aBuild (zeroOf cx.P 27) [] M))<|aX0 (pS 3 6 18)<|aX 7 (pM (cn (.int .i64 2)))<|aXZ
noncomputable def f10_r6 (c:CallF):RF:=rg [6,7] <| aX 19 (pM 1)<|aX 20 (pM 2)<|aX 21 (pK c false 57 [3,19,20])<|aX 22 (pE 0 21)<|aX 23 (pE 1 21)<|aX0 (pS 3 6 22)<|aX 7 (pM 23)<|aXZ
noncomputable def f10 (c:CallF) (k:Nat):St:=
 (bSeq (bReg (f10_r0 c))
 (bSeq (bSeq (bReg (f10_r1 c))
 (bSeq (bReg (f10_r2 c))
 (bCond (.tmp 12) (bSeq (bReg (f10_r3 c))
 (bEx .ret)) (bEx .nrm))))
 (bSeq (bSeq (bReg (f10_r4 c))
 (bCond (.tmp 17) (bSeq (bReg (f10_r5 c))
 (bEx .ret)) (bEx .nrm)))
 (bSeq (bReg (f10_r6 c))
 (bEx .ret)))))
theorem f10_eq (c:CallF) (k:Nat):exec cx c 24 f10_an k (Try.f10.body.getD .skip)=f10 c k:=by kernel_rfl
def f11_an:Ann:=⟨[(0,r0 [1,2,4]),(1,r0 [1,2,4,6]),(2,r0 [1,2,4,6,11]),(3,r0 [4,5]),(4,r0 [4,5])],[]⟩
noncomputable def f11_r0 (c:CallF):RF:=rg [1,2,4] <| aX 2 (pBox 3 0)<|aX 4 (pAl 27 3)<|aX 5 (pM (cn (.int .i64 0)))<|aXZ
noncomputable def f11_r1 (c:CallF):RF:=rg [1,2,4,6] <| aX 7 (pL true 3 2)<|aX 8 (pM 1)<|aX 9 (pK c false 52 [7,8])<|aX 6 (pM 9)<|aXZ
noncomputable def f11_r2 (c:CallF):RF:=rg [1,2,4,6,11] <| aX 10 (pM 6)<|aX 11 (pB .neq 2 10 (cn (.int .i64 0)))<|aXZ
noncomputable def f11_r3 (c:CallF):RF:=rg [4,5] <| aX 12 (fun n e M=>keep (aBuild (zeroOf cx.P 27) [] M))<|aX 13 (pM 6)<|aX0 (pS 3 4 12)<|aX 5 (pM 13)<|aXZ
noncomputable def f11_r4 (c:CallF):RF:=rg [4,5] <| aX 14 (pL true 3 2)<|aX 15 (pM 1)<|aX 16 (pK c false 58 [14,15])<|aX 17 (pE 0 16)<|aX 18 (pE 1 16)<|aX0 (pS 3 4 17)<|aX 5 (pM 18)<|aXZ
noncomputable def f11 (c:CallF) (k:Nat):St:=
 (bSeq (bReg (f11_r0 c))
 (bSeq (bSeq (bReg (f11_r1 c))
 (bSeq (bReg (f11_r2 c))
 (bCond (.tmp 11) (bSeq (bReg (f11_r3 c))
 (bEx .ret)) (bEx .nrm))))
 (bSeq (bReg (f11_r4 c))
 (bEx .ret))))
theorem f11_eq (c:CallF) (k:Nat):exec cx c 19 f11_an k (Try.f11.body.getD .skip)=f11 c k:=by kernel_rfl
def f12_an:Ann:=⟨[(0,r0 [2,3]),(1,r0 [4])],[]⟩
noncomputable def f12_r0 (c:CallF):RF:=rg [2,3] <| aX 2 (pBox 3 0)<|aX 3 (pBox 3 1)<|aX 4 (pM (cn (.bool false)))<|aXZ
noncomputable def f12_r1 (c:CallF):RF:=rg [4] <| aX 5 (pK c false 59 [2,3])<|aX 4 (pM 5)<|aXZ
noncomputable def f12 (c:CallF) (k:Nat):St:=
 (bSeq (bReg (f12_r0 c))
 (bSeq (bReg (f12_r1 c))
 (bEx .ret)))
theorem f12_eq (c:CallF) (k:Nat):exec cx c 6 f12_an k (Try.f12.body.getD .skip)=f12 c k:=by kernel_rfl
def f13_an:Ann:=⟨[(0,r0 [0,1]),(1,r0 [4])],[]⟩
noncomputable def f13_r0 (c:CallF):RF:=rg [0,1] <| aX 4 (pM (cn (.bool false)))<|aXZ
noncomputable def f13_r1 (c:CallF):RF:=rg [4] <| aX 5 (pM 0)<|aX 6 (pM 1)<|aX 7 (pK c false 60 [5,6])<|aX 4 (pM 7)<|aXZ
noncomputable def f13 (c:CallF) (k:Nat):St:=
 (bSeq (bReg (f13_r0 c))
 (bSeq (bReg (f13_r1 c))
 (bEx .ret)))
theorem f13_eq (c:CallF) (k:Nat):exec cx c 8 f13_an k (Try.f13.body.getD .skip)=f13 c k:=by kernel_rfl
def f14_an:Ann:=⟨[(0,r0 [1,2,3,4]),(1,r0 [1,2,3,4,10]),(2,r0 [1,2,3,4,10,22]),(3,r0 [8,9]),(4,r0 [1,2,3,4,26]),(5,r0 [8,9]),(6,r0 [1,2,3,4,33]),(7,r0 [8,9]),(8,r0 [1,2,3,4,34,35,36]),(9,r0 [1,2,3,4,34,35,36,37]),(10,r0 [1,2,3,4,12,34,35,36]),(11,r0 [1,2,3,4,34,35,36,42]),(12,r0 [8,9]),(13,r0 [1,2,3,4,34,35,36]),(14,⟨[0],[],[],[],[1,2,3,4,13],none,[]⟩),(15,r0 [1,2,4,13,45,46,47]),(16,r0 [1,2,4,13,45,46,47,48]),(17,r0 [1,2,4,13,15,45,46,47]),(18,r0 [1,2,4,13,16,17,45,46,47]),(19,r0 [1,2,4,13,16,17,45,46,47,59]),(20,r0 [8,9]),(21,⟨[5],[],[],[],[1,2,4,13,45,46,47],none,[]⟩),(22,r0 [1,2,4,13,45,46,47]),(23,r0 [8,9])],[(9,[1,2,3,4,34,35,36]),(16,[1,2,4,13,45,46,47])]⟩
noncomputable def f14_r0 (c:CallF):RF:=rg [1,2,3,4] <| aX 4 (pBox 3 0)<|aX 8 (pM (cn .nils))<|aX 9 (pM (cn (.int .i64 0)))<|aXZ
noncomputable def f14_r1 (c:CallF):RF:=rg [1,2,3,4,10] <| aX 18 (pL true 3 4)<|aX 19 (pM 1)<|aX 20 (pK c false 52 [18,19])<|aX 10 (pM 20)<|aXZ
noncomputable def f14_r2 (c:CallF):RF:=rg [1,2,3,4,10,22] <| aX 21 (pM 10)<|aX 22 (pB .neq 2 21 (cn (.int .i64 0)))<|aXZ
noncomputable def f14_r3 (c:CallF):RF:=rg [8,9] <| aX 23 (pM 10)<|aX 8 (pM (cn .nils))<|aX 9 (pM 23)<|aXZ
noncomputable def f14_r4 (c:CallF):RF:=rg [1,2,3,4,26] <| aX 24 (pM 3)<|aX 25 (pLen 24 24)<|aX 26 (pB .gtr 3 25 (cn (.int .i64 80)))<|aXZ
noncomputable def f14_r5 (c:CallF):RF:=rg [8,9] <| aX 8 (pM (cn .nils))<|aX 9 (pM (cn (.int .i64 3)))<|aXZ
noncomputable def f14_r6 (c:CallF):RF:=rg [1,2,3,4,33] <| aX 27 (pF 1 1 4)<|aX 28 (pL false 1 27)<|aX 29 (pLen 24 28)<|aX 30 (pM 2)<|aX 31 (fun n e M=>keep (aLitI 2 1 [(eget e 30)] M))<|aX 32 (pK c false 61 [29,31])<|aX 33 (pU .not 32)<|aXZ
noncomputable def f14_r7 (c:CallF):RF:=rg [8,9] <| aX 8 (pM (cn .nils))<|aX 9 (pM (cn (.int .i64 2)))<|aXZ
noncomputable def f14_r8 (c:CallF):RF:=rg [1,2,3,4,34,35,36] <| aX 34 (pM 3)<|aX 35 (pLen 24 34)<|aX 36 (pM (cn (.int .i64 0)))<|aXZ
noncomputable def f14_r9 (c:CallF):RF:=rg [1,2,3,4,34,35,36,37] <| aX 37 (pB .lss 3 36 35)<|aXZ
noncomputable def f14_r10 (c:CallF):RF:=rg [1,2,3,4,12,34,35,36] <| aX 38 (pI 1 34 36)<|aX 39 (pL false 1 38)<|aX 12 (pM 39)<|aXZ
noncomputable def f14_r11 (c:CallF):RF:=rg [1,2,3,4,34,35,36,42] <| aX 40 (pM 12)<|aX 41 (pK c false 53 [40])<|aX 42 (pU .not 41)<|aXZ
noncomputable def f14_r12 (c:CallF):RF:=rg [8,9] <| aX 8 (pM (cn .nils))<|aX 9 (pM (cn (.int .i64 2)))<|aXZ
noncomputable def f14_r13 (c:CallF):RF:=rg [1,2,3,4,34,35,36] <| aX 43 (pB .add 3 36 (cn (.int .i64 1)))<|aX 36 (pM 43)<|aXZ
noncomputable def f14_r14 (c:CallF):RF:=rg [1,2,3,4,13] <| aX 44 (fun n e M=>aLitO false n 2 1 [] M)<|aX 13 (pM 44)<|aXZ
noncomputable def f14_r15 (c:CallF):RF:=rg [1,2,4,13,45,46,47] <| aX 45 (pM 3)<|aX 46 (pLen 24 45)<|aX 47 (pM (cn (.int .i64 0)))<|aXZ
noncomputable def f14_r16 (c:CallF):RF:=rg [1,2,4,13,45,46,47,48] <| aX 48 (pB .lss 3 47 46)<|aXZ
noncomputable def f14_r17 (c:CallF):RF:=rg [1,2,4,13,15,45,46,47] <| aX 49 (pI 1 45 47)<|aX 50 (pL false 1 49)<|aX 15 (pM 50)<|aXZ
noncomputable def f14_r18 (c:CallF):RF:=rg [1,2,4,13,16,17,45,46,47] <| aX 52 (pL true 3 4)<|aX 53 (pM 1)<|aX 54 (pM 15)<|aX 55 (pK c false 54 [52,53,54])<|aX 51 (pM 55)<|aX 56 (pE 0 51)<|aX 57 (pE 1 51)<|aX 16 (pAl 27 3)<|aX0 (pS 3 16 56)<|aX 17 (pM 57)<|aXZ
noncomputable def f14_r19 (c:CallF):RF:=rg [1,2,4,13,16,17,45,46,47,59] <| aX 58 (pM 17)<|aX 59 (pB .neq 2 58 (cn (.int .i64 0)))<|aXZ
noncomputable def f14_r20 (c:CallF):RF:=rg [8,9] <| aX 60 (pM 17)<|aX 8 (pM (cn .nils))<|aX 9 (pM 60)<|aXZ
noncomputable def f14_r21 (c:CallF):RF:=rg [1,2,4,13,45,46,47] <| aX 61 (pM 13)<|aX 62 (pL true 3 16)<|aX 63 (pM 2)<|aX 64 (pK c false 62 [62,63])<|aX 65 (fun n e M=>keep (aLitI 2 1 [(eget e 64)] M))<|aX 66 (fun n e M=>aAppO n 2 1 8 (eget e 61) (eget e 65) M)<|aX 13 (pM 66)<|aXZ
noncomputable def f14_r22 (c:CallF):RF:=rg [1,2,4,13,45,46,47] <| aX 67 (pB .add 3 47 (cn (.int .i64 1)))<|aX 47 (pM 67)<|aXZ
noncomputable def f14_r23 (c:CallF):RF:=rg [8,9] <| aX 68 (pM 13)<|aX 8 (pM 68)<|aX 9 (pM (cn (.int .i64 0)))<|aXZ
noncomputable def f14_l9 (c:CallF) (k:Nat):St:=
 (bSeq (bReg (f14_r9 c))
 (bSeq (bCond (.tmp 37) (bEx .nrm) (bEx (.ext 0)))
 (bSeq (bBlock 1 (bSeq (bReg (f14_r10 c))
 (bSeq (bReg (f14_r11 c))
 (bCond (.tmp 42) (bSeq (bReg (f14_r12 c))
 (bEx .ret)) (bEx .nrm)))))
 (bReg (f14_r13 c)))))
noncomputable def f14_l16 (c:CallF) (k:Nat):St:=
 (bSeq (bReg (f14_r16 c))
 (bSeq (bCond (.tmp 48) (bEx .nrm) (bEx (.ext 2)))
 (bSeq (bBlock 3 (bSeq (bReg (f14_r17 c))
 (bSeq (bReg (f14_r18 c))
 (bSeq (bSeq (bReg (f14_r19 c))
 (bCond (.tmp 59) (bSeq (bReg (f14_r20 c))
 (bEx .ret)) (bEx .nrm)))
 (bReg (f14_r21 c))))))
 (bReg (f14_r22 c)))))
noncomputable def f14 (c:CallF) (k:Nat):St:=
 (bSeq (bReg (f14_r0 c))
 (bSeq (bSeq (bReg (f14_r1 c))
 (bSeq (bReg (f14_r2 c))
 (bCond (.tmp 22) (bSeq (bReg (f14_r3 c))
 (bEx .ret)) (bEx .nrm))))
 (bSeq (bSeq (bReg (f14_r4 c))
 (bCond (.tmp 26) (bSeq (bReg (f14_r5 c))
 (bEx .ret)) (bEx .nrm)))
 (bSeq (bSeq (bReg (f14_r6 c))
 (bCond (.tmp 33) (bSeq (bReg (f14_r7 c))
 (bEx .ret)) (bEx .nrm)))
 (bSeq (bSeq (bReg (f14_r8 c))
 (bBlock 0 (bLoop [1,2,3,4,34,35,36] (f14_l9 c k) k)))
 (bSeq (bReg (f14_r14 c))
 (bSeq (bSeq (bReg (f14_r15 c))
 (bBlock 2 (bLoop [1,2,4,13,45,46,47] (f14_l16 c k) k)))
 (bSeq (bReg (f14_r23 c))
 (bEx .ret)))))))))
theorem f14_eq (c:CallF) (k:Nat):exec cx c 69 f14_an k (Try.f14.body.getD .skip)=f14 c k:=by kernel_rfl
def f15_an:Ann:=⟨[(0,r0 [1,2]),(1,r0 [1,2,6]),(2,r0 [1,2,6,11]),(3,r0 [4,5]),(4,r0 [4,5])],[]⟩
noncomputable def f15_r0 (c:CallF):RF:=rg [1,2] <| aX 2 (pBox 3 0)<|aX 4 (pM (cn (.int .i64 0)))<|aX 5 (pM (cn (.int .i64 0)))<|aXZ
noncomputable def f15_r1 (c:CallF):RF:=rg [1,2,6] <| aX 7 (pL true 3 2)<|aX 8 (pM 1)<|aX 9 (pK c false 63 [7,8])<|aX 6 (pM 9)<|aXZ
noncomputable def f15_r2 (c:CallF):RF:=rg [1,2,6,11] <| aX 10 (pM 6)<|aX 11 (pB .neq 2 10 (cn (.int .i64 0)))<|aXZ
noncomputable def f15_r3 (c:CallF):RF:=rg [4,5] <| aX 12 (pM 6)<|aX 4 (pM (cn (.int .i64 0)))<|aX 5 (pM 12)<|aXZ
noncomputable def f15_r4 (c:CallF):RF:=rg [4,5] <| aX 13 (pL true 3 2)<|aX 14 (pM 1)<|aX 15 (pK c false 62 [13,14])<|aX 4 (pM 15)<|aX 5 (pM (cn (.int .i64 0)))<|aXZ
noncomputable def f15 (c:CallF) (k:Nat):St:=
 (bSeq (bReg (f15_r0 c))
 (bSeq (bSeq (bReg (f15_r1 c))
 (bSeq (bReg (f15_r2 c))
 (bCond (.tmp 11) (bSeq (bReg (f15_r3 c))
 (bEx .ret)) (bEx .nrm))))
 (bSeq (bReg (f15_r4 c))
 (bEx .ret))))
theorem f15_eq (c:CallF) (k:Nat):exec cx c 16 f15_an k (Try.f15.body.getD .skip)=f15 c k:=by kernel_rfl
def f16_an:Ann:=⟨[(0,r0 [1,2,4]),(1,r0 [1,2,4,6]),(2,r0 [1,2,4,6,13]),(3,r0 [4,5]),(4,r0 [2,4,7,8]),(5,r0 [2,4,7,8,23]),(6,r0 [4,5]),(7,r0 [2,4,7,28]),(8,r0 [4,5]),(9,r0 [4,5])],[]⟩
noncomputable def f16_r0 (c:CallF):RF:=rg [1,2,4] <| aX 2 (pBox 3 0)<|aX 4 (pAl 27 3)<|aX 5 (pM (cn (.int .i64 0)))<|aXZ
noncomputable def f16_r1 (c:CallF):RF:=rg [1,2,4,6] <| aX 10 (pM 1)<|aX 11 (pK c false 55 [2,10])<|aX 6 (pM 11)<|aXZ
noncomputable def f16_r2 (c:CallF):RF:=rg [1,2,4,6,13] <| aX 12 (pM 6)<|aX 13 (pB .neq 2 12 (cn (.int .i64 0)))<|aXZ
noncomputable def f16_r3 (c:CallF):RF:=rg [4,5] <| aX 14 (fun n e M=>keep (aBuild (zeroOf cx.P 27) [] M))<|aX 15 (pM 6)<|aX0 (pS 3 4 14)<|aX 5 (pM 15)<|aXZ
noncomputable def f16_r4 (c:CallF):RF:=rg [2,4,7,8] <| aX 17 (pM 1)<|aX 18 (pK c false 64 [2,17])<|aX 16 (pM 18)<|aX 19 (pE 0 16)<|aX 20 (pE 1 16)<|aX 21 (pE 2 16)<|aX 7 (pM 19)<|aX 8 (pM 20)<|aX 9 (pM 21)<|aXZ
noncomputable def f16_r5 (c:CallF):RF:=rg [2,4,7,8,23] <| aX 22 (pM 8)<|aX 23 (pB .neq 2 22 (cn (.int .i64 0)))<|aXZ
noncomputable def f16_r6 (c:CallF):RF:=rg [4,5] <| aX 24 (fun n e M=>keep (aBuild (zeroOf cx.P 27) [] M))<|aX 25 (pM 8)<|aX0 (pS 3 4 24)<|aX 5 (pM 25)<|aXZ
noncomputable def f16_r7 (c:CallF):RF:=rg [2,4,7,28] <| aX 26 (pM 7)<|aX 27 (pLen 94 26)<|aX 28 (pB .eql 3 27 (cn (.int .i64 0)))<|aXZ
noncomputable def f16_r8 (c:CallF):RF:=rg [4,5] <| aX 29 (pK c false 65 [2])<|aX0 (pS 3 4 29)<|aX 5 (pM (cn (.int .i64 0)))<|aXZ
noncomputable def f16_r9 (c:CallF):RF:=rg [4,5] <| aX 30 (pM 7)<|aX 31 (pM 7)<|aX 32 (pLen 94 31)<|aX 33 (pB .sub 3 32 (cn (.int .i64 1)))<|aX 34 (pI 3 30 33)<|aX 35 (pK c false 65 [34])<|aX0 (pS 3 4 35)<|aX 5 (pM (cn (.int .i64 0)))<|aXZ
noncomputable def f16 (c:CallF) (k:Nat):St:=
 (bSeq (bReg (f16_r0 c))
 (bSeq (bSeq (bReg (f16_r1 c))
 (bSeq (bReg (f16_r2 c))
 (bCond (.tmp 13) (bSeq (bReg (f16_r3 c))
 (bEx .ret)) (bEx .nrm))))
 (bSeq (bReg (f16_r4 c))
 (bSeq (bSeq (bReg (f16_r5 c))
 (bCond (.tmp 23) (bSeq (bReg (f16_r6 c))
 (bEx .ret)) (bEx .nrm)))
 (bSeq (bSeq (bReg (f16_r7 c))
 (bCond (.tmp 28) (bSeq (bReg (f16_r8 c))
 (bEx .ret)) (bEx .nrm)))
 (bSeq (bReg (f16_r9 c))
 (bEx .ret)))))))
theorem f16_eq (c:CallF) (k:Nat):exec cx c 36 f16_an k (Try.f16.body.getD .skip)=f16 c k:=by kernel_rfl
def f17_an:Ann:=⟨[(0,r0 [1,2,3]),(1,r0 [6,7])],[]⟩
noncomputable def f17_r0 (c:CallF):RF:=rg [1,2,3] <| aX 3 (pBox 3 0)<|aX 6 (pM (cn .nils))<|aX 7 (pM (cn (.int .i64 0)))<|aXZ
noncomputable def f17_r1 (c:CallF):RF:=rg [6,7] <| aX 8 (pL true 3 3)<|aX 9 (pM 1)<|aX 10 (pM 2)<|aX 11 (pK c false 66 [8,9,10])<|aX 12 (pE 0 11)<|aX 13 (pE 1 11)<|aX 6 (pM 12)<|aX 7 (pM 13)<|aXZ
noncomputable def f17 (c:CallF) (k:Nat):St:=
 (bSeq (bReg (f17_r0 c))
 (bSeq (bReg (f17_r1 c))
 (bEx .ret)))
theorem f17_eq (c:CallF) (k:Nat):exec cx c 14 f17_an k (Try.f17.body.getD .skip)=f17 c k:=by kernel_rfl
def f18_an:Ann:=⟨[(0,r0 [1,2,3]),(1,r0 [1,2,3,9]),(2,r0 [1,2,3,9,17]),(3,r0 [6,7]),(4,r0 [6,7])],[]⟩
noncomputable def f18_r0 (c:CallF):RF:=rg [1,2,3] <| aX 3 (pBox 3 0)<|aX 6 (pM (cn .nils))<|aX 7 (pM (cn (.int .i64 0)))<|aXZ
noncomputable def f18_r1 (c:CallF):RF:=rg [1,2,3,9] <| aX 11 (pM 1)<|aX 12 (pM 2)<|aX 13 (pK c false 67 [3,11,12])<|aX 10 (pM 13)<|aX 14 (pE 0 10)<|aX 15 (pE 1 10)<|aX 8 (pM 14)<|aX 9 (pM 15)<|aXZ
noncomputable def f18_r2 (c:CallF):RF:=rg [1,2,3,9,17] <| aX 16 (pM 9)<|aX 17 (pB .neq 2 16 (cn (.int .i64 0)))<|aXZ
noncomputable def f18_r3 (c:CallF):RF:=rg [6,7] <| aX 18 (fun n e M=>keep (aLitI 2 1 [] M))<|aX 19 (pM 9)<|aX 6 (pM 18)<|aX 7 (pM 19)<|aXZ
noncomputable def f18_r4 (c:CallF):RF:=rg [6,7] <| aX 20 (pM 1)<|aX 21 (pM 2)<|aX 22 (pK c false 68 [3,20,21])<|aX 6 (pM 22)<|aX 7 (pM (cn (.int .i64 0)))<|aXZ
noncomputable def f18 (c:CallF) (k:Nat):St:=
 (bSeq (bReg (f18_r0 c))
 (bSeq (bSeq (bReg (f18_r1 c))
 (bSeq (bReg (f18_r2 c))
 (bCond (.tmp 17) (bSeq (bReg (f18_r3 c))
 (bEx .ret)) (bEx .nrm))))
 (bSeq (bReg (f18_r4 c))
 (bEx .ret))))
theorem f18_eq (c:CallF) (k:Nat):exec cx c 23 f18_an k (Try.f18.body.getD .skip)=f18 c k:=by kernel_rfl
def f19_an:Ann:=⟨[(0,r0 [1,2,3,4]),(1,r0 [2,10,11]),(2,r0 [2,10,11,20]),(3,r0 [8,9]),(4,r0 [2,10,30]),(5,r0 [8,9]),(6,r0 [8,9])],[]⟩
noncomputable def f19_r0 (c:CallF):RF:=rg [1,2,3,4] <| aX 4 (pBox 3 0)<|aX 8 (pM (cn (.int .i64 0)))<|aX 9 (pM (cn (.int .i64 0)))<|aXZ
noncomputable def f19_r1 (c:CallF):RF:=rg [2,10,11] <| aX 13 (pL true 3 4)<|aX 14 (pM 1)<|aX 15 (pM 3)<|aX 16 (pK c false 9 [13,14,15])<|aX 12 (pM 16)<|aX 17 (pE 0 12)<|aX 18 (pE 1 12)<|aX 10 (pAl 27 3)<|aX0 (pS 3 10 17)<|aX 11 (pM 18)<|aXZ
noncomputable def f19_r2 (c:CallF):RF:=rg [2,10,11,20] <| aX 19 (pM 11)<|aX 20 (pB .neq 2 19 (cn (.int .i64 0)))<|aXZ
noncomputable def f19_r3 (c:CallF):RF:=rg [8,9] <| aX 21 (pM 11)<|aX 8 (pM (cn (.int .i64 0)))<|aX 9 (pM 21)<|aXZ
noncomputable def f19_r4 (c:CallF):RF:=rg [2,10,30] <| aX 22 (pM 2)<|aX 23 (pB .lss 2 22 (cn (.int .i64 0)))<|aX 24 (pM 23)<|aX 25 (pG 24 false (pM 2))<|aX 26 (pG 24 false (pF 2 1 10))<|aX 27 (pG 24 false (pL false 1 26))<|aX 28 (pG 24 false (pLen 25 27))<|aX 29 (pG 24 false (pB .geq 2 25 28))<|aX 30 (pP 24 (cn (.bool true)) 29)<|aXZ
noncomputable def f19_r5 (c:CallF):RF:=rg [8,9] <| aX 8 (pM (cn (.int .i64 0)))<|aX 9 (pM (cn (.int .i64 6)))<|aXZ
noncomputable def f19_r6 (c:CallF):RF:=rg [8,9] <| aX 31 (pF 2 1 10)<|aX 32 (pL false 1 31)<|aX 33 (pM 2)<|aX 34 (pI 5 32 33)<|aX 35 (pF 1 1 34)<|aX 36 (pL false 1 35)<|aX 8 (pM 36)<|aX 9 (pM (cn (.int .i64 0)))<|aXZ
noncomputable def f19 (c:CallF) (k:Nat):St:=
 (bSeq (bReg (f19_r0 c))
 (bSeq (bReg (f19_r1 c))
 (bSeq (bSeq (bReg (f19_r2 c))
 (bCond (.tmp 20) (bSeq (bReg (f19_r3 c))
 (bEx .ret)) (bEx .nrm)))
 (bSeq (bSeq (bReg (f19_r4 c))
 (bCond (.tmp 30) (bSeq (bReg (f19_r5 c))
 (bEx .ret)) (bEx .nrm)))
 (bSeq (bReg (f19_r6 c))
 (bEx .ret))))))
theorem f19_eq (c:CallF) (k:Nat):exec cx c 37 f19_an k (Try.f19.body.getD .skip)=f19 c k:=by kernel_rfl
def f20_an:Ann:=⟨[(0,r0 [1,2,3]),(1,r0 [1,2,3,9,10]),(2,r0 [1,2,3,9,10,31]),(3,r0 [6,7,8]),(4,r0 [1,2,3,9,11]),(5,r0 [1,2,3,9,11,37]),(6,r0 [1,2,3,9,11]),(7,r0 [1,2,3,9,11,12]),(8,r0 [1,2,3,9,11,12,13]),(9,⟨[],[],[0,1],[4,5],[1,2,3,9,11,12,13,14,15],none,[]⟩),(10,r0 [1,2,3,9,11,12,13,14,15,59]),(11,r0 [1,9,11,12,13,14,15]),(12,r0 [1,9,11,12,13,16]),(13,r0 [1,11,12,13,16,67,68,69]),(14,r0 [1,11,12,13,16,67,68,69,70]),(15,r0 [1,11,12,13,16,18,67,68,69]),(16,r0 [1,11,12,13,16,19,67,68,69]),(17,r0 [1,11,12,13,16,19,67,68,69,84]),(18,r0 [1,11,12,13,16,67,68,69]),(19,r0 [1,11,12,13,16,67,68,69]),(20,r0 [12,13]),(21,r0 [12,13,20]),(22,r0 [12,13,20,95,96,97]),(23,r0 [12,13,20,95,96,97,98]),(24,r0 [12,13,20,21,22,95,96,97]),(25,r0 [12,13,20,21,95,96,97,117]),(26,r0 [12,13,20,95,96,97]),(27,r0 [12,13,20,95,96,97]),(28,r0 [6,7,8])],[(14,[1,11,12,13,16,67,68,69]),(23,[12,13,20,95,96,97])]⟩
noncomputable def f20_r0 (c:CallF):RF:=rg [1,2,3] <| aX 3 (pBox 3 0)<|aX 6 (pM (cn (.int .i64 0)))<|aX 7 (pM (cn (.int .i64 0)))<|aX 8 (pM (cn (.int .i64 0)))<|aXZ
noncomputable def f20_r1 (c:CallF):RF:=rg [1,2,3,9,10] <| aX 24 (pL true 3 3)<|aX 25 (pM 1)<|aX 26 (pM 2)<|aX 27 (pK c false 66 [24,25,26])<|aX 23 (pM 27)<|aX 28 (pE 0 23)<|aX 29 (pE 1 23)<|aX 9 (pM 28)<|aX 10 (pM 29)<|aXZ
noncomputable def f20_r2 (c:CallF):RF:=rg [1,2,3,9,10,31] <| aX 30 (pM 10)<|aX 31 (pB .neq 2 30 (cn (.int .i64 0)))<|aXZ
noncomputable def f20_r3 (c:CallF):RF:=rg [6,7,8] <| aX 32 (pM 10)<|aX 6 (pM (cn (.int .i64 0)))<|aX 7 (pM (cn (.int .i64 0)))<|aX 8 (pM 32)<|aXZ
noncomputable def f20_r4 (c:CallF):RF:=rg [1,2,3,9,11] <| aX 33 (pF 0 1 3)<|aX 34 (pL false 1 33)<|aX 11 (pM 34)<|aXZ
noncomputable def f20_r5 (c:CallF):RF:=rg [1,2,3,9,11,37] <| aX 35 (pM 1)<|aX 36 (pLen 28 35)<|aX 37 (pB .gtr 3 36 (cn (.int .i64 0)))<|aXZ
noncomputable def f20_r6 (c:CallF):RF:=rg [1,2,3,9,11] <| aX 38 (pM 1)<|aX 39 (pM 1)<|aX 40 (pLen 28 39)<|aX 41 (pB .sub 3 40 (cn (.int .i64 1)))<|aX 42 (pI 6 38 41)<|aX 43 (pF 0 1 42)<|aX 44 (pL false 1 43)<|aX 11 (pM 44)<|aXZ
noncomputable def f20_r7 (c:CallF):RF:=rg [1,2,3,9,11,12] <| aX 45 (pF 1 1 3)<|aX 46 (pL false 1 45)<|aX 47 (pLen 24 46)<|aX 48 (fun n e M=>aMakeO n 2 1 8 (zeroOf cx.P 2) (eget e 47) (eget e 47))<|aX 12 (pAl 24 1)<|aX0 (pS 1 12 48)<|aXZ
noncomputable def f20_r8 (c:CallF):RF:=rg [1,2,3,9,11,12,13] <| aX 49 (pF 1 1 3)<|aX 50 (pL false 1 49)<|aX 51 (pLen 24 50)<|aX 52 (fun n e M=>aMakeO n 4 1 1 (zeroOf cx.P 4) (eget e 51) (eget e 51))<|aX 13 (pAl 101 1)<|aX0 (pS 1 13 52)<|aXZ
noncomputable def f20_r9 (c:CallF):RF:=rgD [1,2,3,9,11,12,13,14,15] (aYc 53 (pF 0 1 3)<|aYc 54 (pL false 1 53)<|aY 14 (pAl 2 1)<|aY 15 (pAl 2 1)<|aYZ)
 (aX0 (pS 1 14 (cn (.int .i64 (-1))))<|aX0 (pS 1 15 54)<|aXZ)
noncomputable def f20_r10 (c:CallF):RF:=rg [1,2,3,9,11,12,13,14,15,59] <| aX 55 (pM 2)<|aX 56 (pF 2 1 3)<|aX 57 (pL false 1 56)<|aX 58 (pLen 25 57)<|aX 59 (pB .lss 2 55 58)<|aXZ
noncomputable def f20_r11 (c:CallF):RF:=rg [1,9,11,12,13,14,15] <| aX 60 (pF 2 1 3)<|aX 61 (pL false 1 60)<|aX 62 (pM 2)<|aX 63 (pI 5 61 62)<|aX 64 (pF 1 1 63)<|aX 65 (pL false 1 64)<|aX0 (pS 1 14 65)<|aXZ
noncomputable def f20_r12 (c:CallF):RF:=rg [1,9,11,12,13,16] <| aX 66 (fun n e M=>oMv (.fn 69 [(eget e 14),(eget e 12),(eget e 15),(eget e 13)]))<|aX 16 (pM 66)<|aXZ
noncomputable def f20_r13 (c:CallF):RF:=rg [1,11,12,13,16,67,68,69] <| aX 67 (pM 9)<|aX 68 (pLen 24 67)<|aX 69 (pM (cn (.int .i64 0)))<|aXZ
noncomputable def f20_r14 (c:CallF):RF:=rg [1,11,12,13,16,67,68,69,70] <| aX 70 (pB .lss 3 69 68)<|aXZ
noncomputable def f20_r15 (c:CallF):RF:=rg [1,11,12,13,16,18,67,68,69] <| aX 71 (pI 1 67 69)<|aX 72 (pL false 1 71)<|aX 18 (pM 72)<|aXZ
noncomputable def f20_r16 (c:CallF):RF:=rg [1,11,12,13,16,19,67,68,69] <| aX 73 (pM 1)<|aX 74 (pM 18)<|aX 75 (pI 6 73 74)<|aX 76 (pL true 6 75)<|aX 19 (pAl 36 6)<|aX0 (pS 6 19 76)<|aXZ
noncomputable def f20_r17 (c:CallF):RF:=rg [1,11,12,13,16,19,67,68,69,84] <| aX 77 (pF 1 1 19)<|aX 78 (pL false 1 77)<|aX 79 (pB .eql 34 78 (cn (.int .i8 1)))<|aX 80 (pM 79)<|aX 81 (pG 80 false (pF 1 1 19))<|aX 82 (pG 80 false (pL false 1 81))<|aX 83 (pG 80 false (pB .eql 34 82 (cn (.int .i8 2))))<|aX 84 (pP 80 (cn (.bool true)) 83)<|aXZ
noncomputable def f20_r18 (c:CallF):RF:=rg [1,11,12,13,16,67,68,69] <| aX 85 (pM 16)<|aX 86 (pF 4 1 19)<|aX 87 (pL false 1 86)<|aX 88 (pF 0 1 19)<|aX 89 (pL false 1 88)<|aX 90 (fun n e M=>oCall cx c false n (eget e 85) [(eget e 87),(eget e 89)] M)<|aXZ
noncomputable def f20_r19 (c:CallF):RF:=rg [1,11,12,13,16,67,68,69] <| aX 91 (pB .add 3 69 (cn (.int .i64 1)))<|aX 69 (pM 91)<|aXZ
noncomputable def f20_r20 (c:CallF):RF:=rg [12,13] <| aX 92 (pM 16)<|aX 93 (pM 11)<|aX 94 (fun n e M=>oCall cx c false n (eget e 92) [(.int .i64 (-1)),(eget e 93)] M)<|aXZ
noncomputable def f20_r21 (c:CallF):RF:=rg [12,13,20] <| aX 20 (pM (cn (.int .i64 (-1))))<|aXZ
noncomputable def f20_r22 (c:CallF):RF:=rg [12,13,20,95,96,97] <| aX 95 (pL false 1 12)<|aX 96 (pLen 24 95)<|aX 97 (pM (cn (.int .i64 0)))<|aXZ
noncomputable def f20_r23 (c:CallF):RF:=rg [12,13,20,95,96,97,98] <| aX 98 (pB .lss 3 97 96)<|aXZ
noncomputable def f20_r24 (c:CallF):RF:=rg [12,13,20,21,22,95,96,97] <| aX 99 (pM 97)<|aX 100 (pI 1 95 97)<|aX 101 (pL false 1 100)<|aX 21 (pM 99)<|aX 22 (pM 101)<|aXZ
noncomputable def f20_r25 (c:CallF):RF:=rg [12,13,20,21,95,96,97,117] <| aX 102 (pL false 1 13)<|aX 103 (pM 21)<|aX 104 (pI 1 102 103)<|aX 105 (pL false 1 104)<|aX 106 (pM 105)<|aX 107 (pG 106 true (pM 20))<|aX 108 (pG 106 true (pB .lss 3 107 (cn (.int .i64 0))))<|aX 109 (pG 106 true (pM 108))<|aX 110 (pG 109 false (pM 22))<|aX 111 (pG 109 false (pL false 1 12))<|aX 112 (pG 109 false (pM 20))<|aX 113 (pG 109 false (pI 1 111 112))<|aX 114 (pG 109 false (pL false 1 113))<|aX 115 (pG 109 false (pB .gtr 2 110 114))<|aX 116 (pG 106 true (pP 109 (cn (.bool true)) 115))<|aX 117 (pP 106 116 (cn (.bool false)))<|aXZ
noncomputable def f20_r26 (c:CallF):RF:=rg [12,13,20,95,96,97] <| aX 118 (pM 21)<|aX 20 (pM 118)<|aXZ
noncomputable def f20_r27 (c:CallF):RF:=rg [12,13,20,95,96,97] <| aX 119 (pB .add 3 97 (cn (.int .i64 1)))<|aX 97 (pM 119)<|aXZ
noncomputable def f20_r28 (c:CallF):RF:=rgD [6,7,8] (aY 120 (pM 20)<|aY 121 (pL false 1 12)<|aY 122 (pM 20)<|aY 123 (pI 1 121 122)<|aY 124 (pL false 1 123)<|aY 6 (pM 120)<|aY 7 (pM 124)<|aY 8 (pM (cn (.int .i64 0)))<|aYZ)
 (aXZ)
noncomputable def f20_l14 (c:CallF) (k:Nat):St:=
 (bSeq (bReg (f20_r14 c))
 (bSeq (bCond (.tmp 70) (bEx .nrm) (bEx (.ext 0)))
 (bSeq (bBlock 1 (bSeq (bReg (f20_r15 c))
 (bSeq (bReg (f20_r16 c))
 (bSeq (bReg (f20_r17 c))
 (bCond (.tmp 84) (bReg (f20_r18 c)) (bEx .nrm))))))
 (bReg (f20_r19 c)))))
noncomputable def f20_l23 (c:CallF) (k:Nat):St:=
 (bSeq (bReg (f20_r23 c))
 (bSeq (bCond (.tmp 98) (bEx .nrm) (bEx (.ext 2)))
 (bSeq (bBlock 3 (bSeq (bReg (f20_r24 c))
 (bSeq (bReg (f20_r25 c))
 (bCond (.tmp 117) (bReg (f20_r26 c)) (bEx .nrm)))))
 (bReg (f20_r27 c)))))
noncomputable def f20 (c:CallF) (k:Nat):St:=
 (bSeq (bReg (f20_r0 c))
 (bSeq (bReg (f20_r1 c))
 (bSeq (bSeq (bReg (f20_r2 c))
 (bCond (.tmp 31) (bSeq (bReg (f20_r3 c))
 (bEx .ret)) (bEx .nrm)))
 (bSeq (bReg (f20_r4 c))
 (bSeq (bSeq (bReg (f20_r5 c))
 (bCond (.tmp 37) (bReg (f20_r6 c)) (bEx .nrm)))
 (bSeq (bReg (f20_r7 c))
 (bSeq (bReg (f20_r8 c))
 (bSeq (bReg (f20_r9 c))
 (bSeq (bSeq (bReg (f20_r10 c))
 (bCond (.tmp 59) (bReg (f20_r11 c)) (bEx .nrm)))
 (bSeq (bReg (f20_r12 c))
 (bSeq (bSeq (bReg (f20_r13 c))
 (bBlock 0 (bLoop [1,11,12,13,16,67,68,69] (f20_l14 c k) k)))
 (bSeq (bReg (f20_r20 c))
 (bSeq (bReg (f20_r21 c))
 (bSeq (bSeq (bReg (f20_r22 c))
 (bBlock 2 (bLoop [12,13,20,95,96,97] (f20_l23 c k) k)))
 (bSeq (bReg (f20_r28 c))
 (bEx .ret))))))))))))))))
theorem f20_eq (c:CallF) (k:Nat):exec cx c 125 f20_an k (Try.f20.body.getD .skip)=f20 c k:=by kernel_rfl
def f21_an:Ann:=⟨[(0,r0 [1,2,3]),(1,r0 [2,3,9,10]),(2,r0 [2,3,9,10,25]),(3,r0 [6,7,8]),(4,r0 [2,9,11]),(5,r0 [2,9,11,12]),(6,r0 [2,9,11,12,34]),(7,r0 [2,9,11,12]),(8,r0 [2,9,11,12,13]),(9,r0 [2,9,11,12,13,47]),(10,⟨[],[],[],[23],[2,9,11,12],none,[]⟩),(11,r0 [2,9,11,14]),(12,r0 [2,9,11,14,15]),(13,r0 [2,9,11,14,15,16]),(14,r0 [2,9,11,14,15,16,17]),(15,r0 [2,9,11,14,15,16,17,79]),(16,r0 [2,9,11,14,15,16,17]),(17,r0 [2,9,11,14,15,16,17,90]),(18,r0 [2,9,11,14,15,16,17]),(19,r0 [2,9,11,14,15,16,17]),(20,r0 [2,9,11,14,15,101]),(21,r0 [11,14]),(22,r0 [6,7,8])],[(6,[2,9,11,12]),(15,[2,9,11,14,15,16,17])]⟩
noncomputable def f21_r0 (c:CallF):RF:=rg [1,2,3] <| aX 3 (pBox 3 0)<|aX 6 (pM (cn (.int .i64 0)))<|aX 7 (pM (cn (.int .i64 0)))<|aX 8 (pM (cn (.int .i64 0)))<|aXZ
noncomputable def f21_r1 (c:CallF):RF:=rg [2,3,9,10] <| aX 19 (pM 1)<|aX 20 (pM 2)<|aX 21 (pK c false 67 [3,19,20])<|aX 18 (pM 21)<|aX 22 (pE 0 18)<|aX 23 (pE 1 18)<|aX 9 (pM 22)<|aX 10 (pM 23)<|aXZ
noncomputable def f21_r2 (c:CallF):RF:=rg [2,3,9,10,25] <| aX 24 (pM 10)<|aX 25 (pB .neq 2 24 (cn (.int .i64 0)))<|aXZ
noncomputable def f21_r3 (c:CallF):RF:=rg [6,7,8] <| aX 26 (pM 10)<|aX 6 (pM (cn (.int .i64 0)))<|aX 7 (pM (cn (.int .i64 0)))<|aX 8 (pM 26)<|aXZ
noncomputable def f21_r4 (c:CallF):RF:=rg [2,9,11] <| aX 27 (pF 1 1 3)<|aX 28 (pL false 1 27)<|aX 29 (pLen 24 28)<|aX 30 (fun n e M=>aMakeO n 2 1 8 (zeroOf cx.P 2) (eget e 29) (eget e 29))<|aX 11 (pM 30)<|aXZ
noncomputable def f21_r5 (c:CallF):RF:=rg [2,9,11,12] <| aX 12 (pM (cn (.int .i64 1)))<|aXZ
noncomputable def f21_r6 (c:CallF):RF:=rg [2,9,11,12,34] <| aX 31 (pM 12)<|aX 32 (pM 9)<|aX 33 (pLen 94 32)<|aX 34 (pB .lss 3 31 33)<|aXZ
noncomputable def f21_r7 (c:CallF):RF:=rg [2,9,11,12] <| aX 35 (pM 12)<|aX 36 (pB .add 3 35 (cn (.int .i64 1)))<|aX 12 (pM 36)<|aXZ
noncomputable def f21_r8 (c:CallF):RF:=rg [2,9,11,12,13] <| aX 37 (pM 9)<|aX 38 (pM 12)<|aX 39 (pB .sub 3 38 (cn (.int .i64 1)))<|aX 40 (pI 3 37 39)<|aX 13 (pM 40)<|aXZ
noncomputable def f21_r9 (c:CallF):RF:=rg [2,9,11,12,13,47] <| aX 41 (pM 2)<|aX 42 (pM 13)<|aX 43 (pN 42)<|aX 44 (pF 2 1 43)<|aX 45 (pL false 1 44)<|aX 46 (pLen 25 45)<|aX 47 (pB .lss 2 41 46)<|aXZ
noncomputable def f21_r10 (c:CallF):RF:=rgD [2,9,11,12] (aY 48 (pM 11)<|aY 49 (pM 13)<|aY 50 (pN 49)<|aY 51 (pF 2 1 50)<|aY 52 (pL false 1 51)<|aY 53 (pM 2)<|aY 54 (pI 5 52 53)<|aY 55 (pF 1 1 54)<|aY 56 (pL false 1 55)<|aY 57 (pI 1 48 56)<|aY 58 (pL false 1 57)<|aY 59 (pM 9)<|aY 60 (pM 12)<|aY 61 (pI 3 59 60)<|aY 62 (pF 0 1 61)<|aY 63 (pL false 1 62)<|aY 64 (pM 13)<|aY 65 (pN 64)<|aY 66 (pF 0 1 65)<|aY 67 (pL false 1 66)<|aY 68 (pB .sub 2 63 67)<|aY 69 (pB .add 2 58 68)<|aY 70 (pI 1 48 56)<|aYZ)
 (aX0 (pS 1 70 69)<|aXZ)
noncomputable def f21_r11 (c:CallF):RF:=rg [2,9,11,14] <| aX 14 (pM (cn (.int .i64 0)))<|aXZ
noncomputable def f21_r12 (c:CallF):RF:=rg [2,9,11,14,15] <| aX 71 (pM 9)<|aX 72 (pM 9)<|aX 73 (pLen 94 72)<|aX 74 (pB .sub 3 73 (cn (.int .i64 1)))<|aX 75 (pI 3 71 74)<|aX 15 (pM 75)<|aXZ
noncomputable def f21_r13 (c:CallF):RF:=rg [2,9,11,14,15,16] <| aX 16 (pM (cn (.bool false)))<|aXZ
noncomputable def f21_r14 (c:CallF):RF:=rg [2,9,11,14,15,16,17] <| aX 17 (pM (cn (.int .i64 0)))<|aXZ
noncomputable def f21_r15 (c:CallF):RF:=rg [2,9,11,14,15,16,17,79] <| aX 76 (pM 17)<|aX 77 (pM 11)<|aX 78 (pLen 24 77)<|aX 79 (pB .lss 3 76 78)<|aXZ
noncomputable def f21_r16 (c:CallF):RF:=rg [2,9,11,14,15,16,17] <| aX 80 (pM 17)<|aX 81 (pB .add 3 80 (cn (.int .i64 1)))<|aX 17 (pM 81)<|aXZ
noncomputable def f21_r17 (c:CallF):RF:=rgD [2,9,11,14,15,16,17,90] (aY 82 (pM 11)<|aY 83 (pM 17)<|aY 84 (pI 1 82 83)<|aY 85 (pL false 1 84)<|aY 86 (pM 11)<|aY 87 (pM 14)<|aY 88 (pI 1 86 87)<|aY 89 (pL false 1 88)<|aY 90 (pB .gtr 2 85 89)<|aYZ)
 (aXZ)
noncomputable def f21_r18 (c:CallF):RF:=rg [2,9,11,14,15,16,17] <| aX 91 (pM 17)<|aX 14 (pM 91)<|aXZ
noncomputable def f21_r19 (c:CallF):RF:=rg [2,9,11,14,15,16,17] <| aX 92 (pM 16)<|aX 93 (pM 92)<|aX 94 (pG 93 false (pM 11))<|aX 95 (pG 93 false (pM 17))<|aX 96 (pG 93 false (pI 1 94 95))<|aX 97 (pG 93 false (pL false 1 96))<|aX 98 (pG 93 false (pB .gtr 2 97 (cn (.int .i64 0))))<|aX 99 (pP 93 (cn (.bool true)) 98)<|aX 16 (pM 99)<|aXZ
noncomputable def f21_r20 (c:CallF):RF:=rg [2,9,11,14,15,101] <| aX 100 (pM 16)<|aX 101 (pU .not 100)<|aXZ
noncomputable def f21_r21 (c:CallF):RF:=rg [11,14] <| aX 102 (pM 9)<|aX 103 (pM 2)<|aX 104 (pM 15)<|aX 105 (pN 104)<|aX 106 (pF 2 1 105)<|aX 107 (pL false 1 106)<|aX 108 (pM 2)<|aX 109 (pI 5 107 108)<|aX 110 (pF 1 1 109)<|aX 111 (pL false 1 110)<|aX 112 (pK c false 70 [102,103,111])<|aX 14 (pM 112)<|aXZ
noncomputable def f21_r22 (c:CallF):RF:=rgD [6,7,8] (aY 113 (pM 14)<|aY 114 (pM 11)<|aY 115 (pM 14)<|aY 116 (pI 1 114 115)<|aY 117 (pL false 1 116)<|aY 6 (pM 113)<|aY 7 (pM 117)<|aY 8 (pM (cn (.int .i64 0)))<|aYZ)
 (aXZ)
noncomputable def f21_l6 (c:CallF) (k:Nat):St:=
 (bSeq (bSeq (bReg (f21_r6 c))
 (bCond (.tmp 34) (bEx .nrm) (bEx (.ext 0))))
 (bSeq (bBlock 1 (bSeq (bReg (f21_r8 c))
 (bSeq (bReg (f21_r9 c))
 (bCond (.tmp 47) (bReg (f21_r10 c)) (bEx .nrm)))))
 (bReg (f21_r7 c))))
noncomputable def f21_l15 (c:CallF) (k:Nat):St:=
 (bSeq (bSeq (bReg (f21_r15 c))
 (bCond (.tmp 79) (bEx .nrm) (bEx (.ext 2))))
 (bSeq (bBlock 3 (bSeq (bSeq (bReg (f21_r17 c))
 (bCond (.tmp 90) (bReg (f21_r18 c)) (bEx .nrm)))
 (bReg (f21_r19 c))))
 (bReg (f21_r16 c))))
noncomputable def f21 (c:CallF) (k:Nat):St:=
 (bSeq (bReg (f21_r0 c))
 (bSeq (bReg (f21_r1 c))
 (bSeq (bSeq (bReg (f21_r2 c))
 (bCond (.tmp 25) (bSeq (bReg (f21_r3 c))
 (bEx .ret)) (bEx .nrm)))
 (bSeq (bReg (f21_r4 c))
 (bSeq (bSeq (bReg (f21_r5 c))
 (bBlock 0 (bLoop [2,9,11,12] (f21_l6 c k) k)))
 (bSeq (bReg (f21_r11 c))
 (bSeq (bReg (f21_r12 c))
 (bSeq (bReg (f21_r13 c))
 (bSeq (bSeq (bReg (f21_r14 c))
 (bBlock 2 (bLoop [2,9,11,14,15,16,17] (f21_l15 c k) k)))
 (bSeq (bSeq (bReg (f21_r20 c))
 (bCond (.tmp 101) (bReg (f21_r21 c)) (bEx .nrm)))
 (bSeq (bReg (f21_r22 c))
 (bEx .ret))))))))))))
theorem f21_eq (c:CallF) (k:Nat):exec cx c 118 f21_an k (Try.f21.body.getD .skip)=f21 c k:=by kernel_rfl
def f22_an:Ann:=⟨[(0,r0 [1,2]),(1,r0 [1,2,6]),(2,r0 [1,2,6,14]),(3,r0 [4,5]),(4,⟨[0],[],[],[],[1,2,7],none,[]⟩),(5,r0 [1,7,18,19,20]),(6,r0 [1,7,18,19,20,21]),(7,r0 [1,7,8,9,18,19,20]),(8,r0 [1,7,8,18,19,20,33]),(9,⟨[3],[],[],[],[1,7,18,19,20],none,[]⟩),(10,r0 [1,7,18,19,20]),(11,r0 [4,5])],[(6,[1,7,18,19,20])]⟩
noncomputable def f22_r0 (c:CallF):RF:=rg [1,2] <| aX 2 (pBox 3 0)<|aX 4 (pM (cn .nils))<|aX 5 (pM (cn (.int .i64 0)))<|aXZ
noncomputable def f22_r1 (c:CallF):RF:=rg [1,2,6] <| aX 10 (pL true 3 2)<|aX 11 (pM 1)<|aX 12 (pK c false 63 [10,11])<|aX 6 (pM 12)<|aXZ
noncomputable def f22_r2 (c:CallF):RF:=rg [1,2,6,14] <| aX 13 (pM 6)<|aX 14 (pB .neq 2 13 (cn (.int .i64 0)))<|aXZ
noncomputable def f22_r3 (c:CallF):RF:=rg [4,5] <| aX 15 (pM 6)<|aX 4 (pM (cn .nils))<|aX 5 (pM 15)<|aXZ
noncomputable def f22_r4 (c:CallF):RF:=rg [1,2,7] <| aX 16 (fun n e M=>aLitO false n 2 1 [] M)<|aX 7 (pM 16)<|aXZ
noncomputable def f22_r5 (c:CallF):RF:=rg [1,7,18,19,20] <| aX 17 (pF 2 1 2)<|aX 18 (pL false 1 17)<|aX 19 (pLen 25 18)<|aX 20 (pM (cn (.int .i64 0)))<|aXZ
noncomputable def f22_r6 (c:CallF):RF:=rg [1,7,18,19,20,21] <| aX 21 (pB .lss 3 20 19)<|aXZ
noncomputable def f22_r7 (c:CallF):RF:=rg [1,7,8,9,18,19,20] <| aX 22 (pM 20)<|aX 23 (pI 5 18 20)<|aX 24 (pL true 5 23)<|aX 9 (pAl 49 5)<|aX 8 (pM 22)<|aX0 (pS 5 9 24)<|aXZ
noncomputable def f22_r8 (c:CallF):RF:=rg [1,7,8,18,19,20,33] <| aX 25 (pF 1 1 9)<|aX 26 (pL false 1 25)<|aX 27 (pM 1)<|aX 28 (pB .eql 2 26 27)<|aX 29 (pM 28)<|aX 30 (pG 29 true (pF 4 1 9))<|aX 31 (pG 29 true (pL false 1 30))<|aX 32 (pG 29 true (pB .gtr 2 31 (cn (.int .i64 0))))<|aX 33 (pP 29 32 (cn (.bool false)))<|aXZ
noncomputable def f22_r9 (c:CallF):RF:=rg [1,7,18,19,20] <| aX 34 (pM 7)<|aX 35 (pM 8)<|aX 36 (fun n e M=>keep (aLitI 2 1 [(eget e 35)] M))<|aX 37 (fun n e M=>aAppO n 2 1 8 (eget e 34) (eget e 36) M)<|aX 7 (pM 37)<|aXZ
noncomputable def f22_r10 (c:CallF):RF:=rg [1,7,18,19,20] <| aX 38 (pB .add 3 20 (cn (.int .i64 1)))<|aX 20 (pM 38)<|aXZ
noncomputable def f22_r11 (c:CallF):RF:=rg [4,5] <| aX 39 (pM 7)<|aX 4 (pM 39)<|aX 5 (pM (cn (.int .i64 0)))<|aXZ
noncomputable def f22_l6 (c:CallF) (k:Nat):St:=
 (bSeq (bReg (f22_r6 c))
 (bSeq (bCond (.tmp 21) (bEx .nrm) (bEx (.ext 0)))
 (bSeq (bBlock 1 (bSeq (bReg (f22_r7 c))
 (bSeq (bReg (f22_r8 c))
 (bCond (.tmp 33) (bReg (f22_r9 c)) (bEx .nrm)))))
 (bReg (f22_r10 c)))))
noncomputable def f22 (c:CallF) (k:Nat):St:=
 (bSeq (bReg (f22_r0 c))
 (bSeq (bSeq (bReg (f22_r1 c))
 (bSeq (bReg (f22_r2 c))
 (bCond (.tmp 14) (bSeq (bReg (f22_r3 c))
 (bEx .ret)) (bEx .nrm))))
 (bSeq (bReg (f22_r4 c))
 (bSeq (bSeq (bReg (f22_r5 c))
 (bBlock 0 (bLoop [1,7,18,19,20] (f22_l6 c k) k)))
 (bSeq (bReg (f22_r11 c))
 (bEx .ret))))))
theorem f22_eq (c:CallF) (k:Nat):exec cx c 40 f22_an k (Try.f22.body.getD .skip)=f22 c k:=by kernel_rfl
def f23_an:Ann:=⟨[(0,r0 [0,1]),(1,r0 [0,1,5]),(2,r0 [0,1,5,9]),(3,r0 [0,1,5]),(4,r0 [0,1,5,17]),(5,r0 [4]),(6,r0 [4])],[(2,[0,1,5])]⟩
noncomputable def f23_r0 (c:CallF):RF:=rg [0,1] <| aX 4 (pM (cn (.bool false)))<|aXZ
noncomputable def f23_r1 (c:CallF):RF:=rg [0,1,5] <| aX 5 (pM (cn (.int .i64 0)))<|aXZ
noncomputable def f23_r2 (c:CallF):RF:=rg [0,1,5,9] <| aX 6 (pM 5)<|aX 7 (pM 0)<|aX 8 (pLen 24 7)<|aX 9 (pB .lss 3 6 8)<|aXZ
noncomputable def f23_r3 (c:CallF):RF:=rg [0,1,5] <| aX 10 (pM 5)<|aX 11 (pB .add 3 10 (cn (.int .i64 1)))<|aX 5 (pM 11)<|aXZ
noncomputable def f23_r4 (c:CallF):RF:=rg [0,1,5,17] <| aX 12 (pM 0)<|aX 13 (pM 5)<|aX 14 (pI 1 12 13)<|aX 15 (pL false 1 14)<|aX 16 (pM 1)<|aX 17 (pB .eql 2 15 16)<|aXZ
noncomputable def f23_r5 (c:CallF):RF:=rg [4] <| aX 4 (pM (cn (.bool true)))<|aXZ
noncomputable def f23_r6 (c:CallF):RF:=rg [4] <| aX 4 (pM (cn (.bool false)))<|aXZ
noncomputable def f23_l2 (c:CallF) (k:Nat):St:=
 (bSeq (bSeq (bReg (f23_r2 c))
 (bCond (.tmp 9) (bEx .nrm) (bEx (.ext 0))))
 (bSeq (bBlock 1 (bSeq (bReg (f23_r4 c))
 (bCond (.tmp 17) (bSeq (bReg (f23_r5 c))
 (bEx .ret)) (bEx .nrm))))
 (bReg (f23_r3 c))))
noncomputable def f23 (c:CallF) (k:Nat):St:=
 (bSeq (bReg (f23_r0 c))
 (bSeq (bSeq (bReg (f23_r1 c))
 (bBlock 0 (bLoop [0,1,5] (f23_l2 c k) k)))
 (bSeq (bReg (f23_r6 c))
 (bEx .ret))))
theorem f23_eq (c:CallF) (k:Nat):exec cx c 18 f23_an k (Try.f23.body.getD .skip)=f23 c k:=by kernel_rfl
def f26_an:Ann:=⟨[(0,r0 [1]),(1,r0 [1,3]),(2,r0 [1,3,29]),(3,r0 [2]),(4,r0 [1,3,31,32,33]),(5,r0 [1,3,31,32,33,34]),(6,r0 [1,3,5,31,32,33]),(7,r0 [1,3,31,32,33,39]),(8,r0 [2]),(9,r0 [1,3,31,32,33]),(10,r0 [1,3,6]),(11,r0 [1,3,6,42,43,44]),(12,r0 [1,3,6,42,43,44,45]),(13,r0 [1,3,6,8,42,43,44]),(14,r0 [1,3,8,42,43,44,102]),(15,r0 [2]),(16,r0 [1,3,6,42,43,44]),(17,r0 [1,3,6,42,43,44]),(18,r0 [2])],[(5,[1,3,31,32,33]),(12,[1,3,6,42,43,44])]⟩
noncomputable def f26_r0 (c:CallF):RF:=rg [1] <| aX 1 (pBox 3 0)<|aX 2 (pM (cn (.bool false)))<|aXZ
noncomputable def f26_r1 (c:CallF):RF:=rg [1,3] <| aX 9 (pF 1 1 1)<|aX 10 (pL false 1 9)<|aX 11 (pLen 24 10)<|aX 3 (pM 11)<|aXZ
noncomputable def f26_r2 (c:CallF):RF:=rg [1,3,29] <| aX 12 (pF 0 1 1)<|aX 13 (pL false 1 12)<|aX 14 (pK c false 53 [13])<|aX 15 (pU .not 14)<|aX 16 (pM 15)<|aX 17 (pG 16 false (pM 3))<|aX 18 (pG 16 false (pB .lss 2 17 (cn (.int .i64 1))))<|aX 19 (pP 16 (cn (.bool true)) 18)<|aX 20 (pM 19)<|aX 21 (pG 20 false (pM 3))<|aX 22 (pG 20 false (pB .gtr 2 21 (cn (.int .i64 16))))<|aX 23 (pP 20 (cn (.bool true)) 22)<|aX 24 (pM 23)<|aX 25 (pG 24 false (pF 2 1 1))<|aX 26 (pG 24 false (pL false 1 25))<|aX 27 (pG 24 false (pLen 25 26))<|aX 28 (pG 24 false (pB .gtr 3 27 (cn (.int .i64 40))))<|aX 29 (pP 24 (cn (.bool true)) 28)<|aXZ
noncomputable def f26_r3 (c:CallF):RF:=rg [2] <| aX 2 (pM (cn (.bool false)))<|aXZ
noncomputable def f26_r4 (c:CallF):RF:=rg [1,3,31,32,33] <| aX 30 (pF 1 1 1)<|aX 31 (pL false 1 30)<|aX 32 (pLen 24 31)<|aX 33 (pM (cn (.int .i64 0)))<|aXZ
noncomputable def f26_r5 (c:CallF):RF:=rg [1,3,31,32,33,34] <| aX 34 (pB .lss 3 33 32)<|aXZ
noncomputable def f26_r6 (c:CallF):RF:=rg [1,3,5,31,32,33] <| aX 35 (pI 1 31 33)<|aX 36 (pL false 1 35)<|aX 5 (pM 36)<|aXZ
noncomputable def f26_r7 (c:CallF):RF:=rg [1,3,31,32,33,39] <| aX 37 (pM 5)<|aX 38 (pK c false 74 [37])<|aX 39 (pU .not 38)<|aXZ
noncomputable def f26_r8 (c:CallF):RF:=rg [2] <| aX 2 (pM (cn (.bool false)))<|aXZ
noncomputable def f26_r9 (c:CallF):RF:=rg [1,3,31,32,33] <| aX 40 (pB .add 3 33 (cn (.int .i64 1)))<|aX 33 (pM 40)<|aXZ
noncomputable def f26_r10 (c:CallF):RF:=rg [1,3,6] <| aX 6 (pM (cn (.int .i64 0)))<|aXZ
noncomputable def f26_r11 (c:CallF):RF:=rg [1,3,6,42,43,44] <| aX 41 (pF 2 1 1)<|aX 42 (pL false 1 41)<|aX 43 (pLen 25 42)<|aX 44 (pM (cn (.int .i64 0)))<|aXZ
noncomputable def f26_r12 (c:CallF):RF:=rg [1,3,6,42,43,44,45] <| aX 45 (pB .lss 3 44 43)<|aXZ
noncomputable def f26_r13 (c:CallF):RF:=rg [1,3,6,8,42,43,44] <| aX 46 (pI 5 42 44)<|aX 47 (pL true 5 46)<|aX 8 (pAl 49 5)<|aX0 (pS 5 8 47)<|aXZ
noncomputable def f26_r14 (c:CallF):RF:=rg [1,3,8,42,43,44,102] <| aX 48 (pM 3)<|aX 49 (pF 0 1 8)<|aX 50 (pL false 1 49)<|aX 51 (pF 1 1 8)<|aX 52 (pL false 1 51)<|aX 53 (fun n e M=>keep (aLitI 2 1 [(eget e 50),(eget e 52)] M))<|aX 54 (pK c false 61 [48,53])<|aX 55 (pU .not 54)<|aX 56 (pM 55)<|aX 57 (pG 56 false (pF 2 1 8))<|aX 58 (pG 56 false (pL false 1 57))<|aX 59 (pG 56 false (pM 6))<|aX 60 (pG 56 false (pB .lss 2 58 59))<|aX 61 (pP 56 (cn (.bool true)) 60)<|aX 62 (pM 61)<|aX 63 (pG 62 false (pF 2 1 8))<|aX 64 (pG 62 false (pL false 1 63))<|aX 65 (pG 62 false (pF 0 1 1))<|aX 66 (pG 62 false (pL false 1 65))<|aX 67 (pG 62 false (pB .gtr 2 64 66))<|aX 68 (pP 62 (cn (.bool true)) 67)<|aX 69 (pM 68)<|aX 70 (pG 69 false (pF 3 1 8))<|aX 71 (pG 69 false (pL false 1 70))<|aX 72 (pG 69 false (pB .lss 2 71 (cn (.int .i64 1))))<|aX 73 (pP 69 (cn (.bool true)) 72)<|aX 74 (pM 73)<|aX 75 (pG 74 false (pF 3 1 8))<|aX 76 (pG 74 false (pL false 1 75))<|aX 77 (pG 74 false (pB .gtr 2 76 (cn (.int .i64 100000000))))<|aX 78 (pP 74 (cn (.bool true)) 77)<|aX 79 (pM 78)<|aX 80 (pG 79 false (pF 4 1 8))<|aX 81 (pG 79 false (pL false 1 80))<|aX 82 (pG 79 false (pB .lss 2 81 (cn (.int .i64 0))))<|aX 83 (pP 79 (cn (.bool true)) 82)<|aX 84 (pM 83)<|aX 85 (pG 84 false (pF 4 1 8))<|aX 86 (pG 84 false (pL false 1 85))<|aX 87 (pG 84 false (pF 3 1 8))<|aX 88 (pG 84 false (pL false 1 87))<|aX 89 (pG 84 false (pB .gtr 2 86 88))<|aX 90 (pP 84 (cn (.bool true)) 89)<|aX 91 (pM 90)<|aX 92 (pG 91 false (pF 0 1 8))<|aX 93 (pG 91 false (pL false 1 92))<|aX 94 (pG 91 false (pF 1 1 8))<|aX 95 (pG 91 false (pL false 1 94))<|aX 96 (pG 91 false (pB .eql 2 93 95))<|aX 97 (pG 91 false (pM 96))<|aX 98 (pG 97 true (pF 4 1 8))<|aX 99 (pG 97 true (pL false 1 98))<|aX 100 (pG 97 true (pB .neq 2 99 (cn (.int .i64 0))))<|aX 101 (pG 91 false (pP 97 100 (cn (.bool false))))<|aX 102 (pP 91 (cn (.bool true)) 101)<|aXZ
noncomputable def f26_r15 (c:CallF):RF:=rg [2] <| aX 2 (pM (cn (.bool false)))<|aXZ
noncomputable def f26_r16 (c:CallF):RF:=rg [1,3,6,42,43,44] <| aX 103 (pF 2 1 8)<|aX 104 (pL false 1 103)<|aX 6 (pM 104)<|aXZ
noncomputable def f26_r17 (c:CallF):RF:=rg [1,3,6,42,43,44] <| aX 105 (pB .add 3 44 (cn (.int .i64 1)))<|aX 44 (pM 105)<|aXZ
noncomputable def f26_r18 (c:CallF):RF:=rg [2] <| aX 2 (pM (cn (.bool true)))<|aXZ
noncomputable def f26_l5 (c:CallF) (k:Nat):St:=
 (bSeq (bReg (f26_r5 c))
 (bSeq (bCond (.tmp 34) (bEx .nrm) (bEx (.ext 0)))
 (bSeq (bBlock 1 (bSeq (bReg (f26_r6 c))
 (bSeq (bReg (f26_r7 c))
 (bCond (.tmp 39) (bSeq (bReg (f26_r8 c))
 (bEx .ret)) (bEx .nrm)))))
 (bReg (f26_r9 c)))))
noncomputable def f26_l12 (c:CallF) (k:Nat):St:=
 (bSeq (bReg (f26_r12 c))
 (bSeq (bCond (.tmp 45) (bEx .nrm) (bEx (.ext 2)))
 (bSeq (bBlock 3 (bSeq (bReg (f26_r13 c))
 (bSeq (bSeq (bReg (f26_r14 c))
 (bCond (.tmp 102) (bSeq (bReg (f26_r15 c))
 (bEx .ret)) (bEx .nrm)))
 (bReg (f26_r16 c)))))
 (bReg (f26_r17 c)))))
noncomputable def f26 (c:CallF) (k:Nat):St:=
 (bSeq (bReg (f26_r0 c))
 (bSeq (bReg (f26_r1 c))
 (bSeq (bSeq (bReg (f26_r2 c))
 (bCond (.tmp 29) (bSeq (bReg (f26_r3 c))
 (bEx .ret)) (bEx .nrm)))
 (bSeq (bSeq (bReg (f26_r4 c))
 (bBlock 0 (bLoop [1,3,31,32,33] (f26_l5 c k) k)))
 (bSeq (bReg (f26_r10 c))
 (bSeq (bSeq (bReg (f26_r11 c))
 (bBlock 2 (bLoop [1,3,6,42,43,44] (f26_l12 c k) k)))
 (bSeq (bReg (f26_r18 c))
 (bEx .ret))))))))
theorem f26_eq (c:CallF) (k:Nat):exec cx c 106 f26_an k (Try.f26.body.getD .skip)=f26 c k:=by kernel_rfl
def f30_an:Ann:=⟨[(0,r0 [1]),(1,r0 [1,21]),(2,r0 [2]),(3,r0 [1,3]),(4,r0 [1,3,4,5,6,7]),(5,r0 [2])],[]⟩
noncomputable def f30_r0 (c:CallF):RF:=rg [1] <| aX 1 (pBox 6 0)<|aX 2 (pM (cn (.bool false)))<|aXZ
noncomputable def f30_r1 (c:CallF):RF:=rg [1,21] <| aX 8 (pF 1 1 1)<|aX 9 (pL false 1 8)<|aX 10 (pB .lss 34 9 (cn (.int .i8 1)))<|aX 11 (pM 10)<|aX 12 (pG 11 false (pF 1 1 1))<|aX 13 (pG 11 false (pL false 1 12))<|aX 14 (pG 11 false (pB .gtr 34 13 (cn (.int .i8 4))))<|aX 15 (pP 11 (cn (.bool true)) 14)<|aX 16 (pM 15)<|aX 17 (pG 16 false (pF 0 1 1))<|aX 18 (pG 16 false (pL false 1 17))<|aX 19 (pG 16 false (pK c false 53 [18]))<|aX 20 (pG 16 false (pU .not 19))<|aX 21 (pP 16 (cn (.bool true)) 20)<|aXZ
noncomputable def f30_r2 (c:CallF):RF:=rg [2] <| aX 2 (pM (cn (.bool false)))<|aXZ
noncomputable def f30_r3 (c:CallF):RF:=rg [1,3] <| aX 3 (pM (cn (.fn 79 [])))<|aXZ
noncomputable def f30_r4 (c:CallF):RF:=rg [1,3,4,5,6,7] <| aX 23 (pF 1 1 1)<|aX 24 (pL false 1 23)<|aX 25 (pK c false 80 [24])<|aX 22 (pM 25)<|aX 26 (pE 0 22)<|aX 27 (pE 1 22)<|aX 28 (pE 2 22)<|aX 29 (pE 3 22)<|aX 4 (pM 26)<|aX 5 (pM 27)<|aX 6 (pM 28)<|aX 7 (pM 29)<|aXZ
noncomputable def f30_r5 (c:CallF):RF:=rg [2] <| aX 30 (pM 3)<|aX 31 (pM 4)<|aX 32 (pF 2 1 1)<|aX 33 (pL false 1 32)<|aX 34 (fun n e M=>oCall cx c false n (eget e 30) [(eget e 31),(eget e 33),(.int .i64 0),(.int .i64 39)] M)<|aX 35 (pM 34)<|aX 36 (pG 35 true (pM 3))<|aX 37 (pG 35 true (pM 5))<|aX 38 (pG 35 true (pF 3 1 1))<|aX 39 (pG 35 true (pL false 1 38))<|aX 40 (pG 35 true (fun n e M=>oCall cx c false n (eget e 36) [(eget e 37),(eget e 39),(.int .i64 0),(.int .i64 15)] M))<|aX 41 (pP 35 40 (cn (.bool false)))<|aX 42 (pM 41)<|aX 43 (pG 42 true (pM 3))<|aX 44 (pG 42 true (pM 6))<|aX 45 (pG 42 true (pF 4 1 1))<|aX 46 (pG 42 true (pL false 1 45))<|aX 47 (pG 42 true (fun n e M=>oCall cx c false n (eget e 43) [(eget e 44),(eget e 46),(.int .i64 0),(.int .i64 15)] M))<|aX 48 (pP 42 47 (cn (.bool false)))<|aX 49 (pM 48)<|aX 50 (pG 49 true (pM 3))<|aX 51 (pG 49 true (pM 7))<|aX 52 (pG 49 true (pF 5 1 1))<|aX 53 (pG 49 true (pL false 1 52))<|aX 54 (pG 49 true (fun n e M=>oCall cx c false n (eget e 50) [(eget e 51),(eget e 53),(.int .i64 1),(.int .i64 100000000)] M))<|aX 55 (pP 49 54 (cn (.bool false)))<|aX 2 (pM 55)<|aXZ
noncomputable def f30 (c:CallF) (k:Nat):St:=
 (bSeq (bReg (f30_r0 c))
 (bSeq (bSeq (bReg (f30_r1 c))
 (bCond (.tmp 21) (bSeq (bReg (f30_r2 c))
 (bEx .ret)) (bEx .nrm)))
 (bSeq (bReg (f30_r3 c))
 (bSeq (bReg (f30_r4 c))
 (bSeq (bReg (f30_r5 c))
 (bEx .ret))))))
theorem f30_eq (c:CallF) (k:Nat):exec cx c 56 f30_an k (Try.f30.body.getD .skip)=f30 c k:=by kernel_rfl
def f50_an:Ann:=⟨[(0,r0 [0,2]),(1,⟨[],[1,2],[],[],[0,2,4],none,[]⟩),(2,r0 [0,2,4,5]),(3,r0 [0,2,4,5,21]),(4,r0 [0,2,4,5]),(5,⟨[5],[],[],[3,4,5,6,7],[0,2,4,5],some [0,1],[]⟩),(6,⟨[],[],[],[],[0,2,4,6],none,[4]⟩),(7,r0 [0,2,4,6,34]),(8,r0 [0,2,4,6]),(9,r0 [0,2,4,6,7]),(10,r0 [0,2,4,6,8,9]),(11,r0 [0,2,4,6,8,44]),(12,r0 [0,2,4,6]),(13,⟨[0],[],[],[],[0,2,4,10],none,[]⟩),(14,r0 [0,2,4,10,11]),(15,r0 [0,2,4,10,11,12]),(16,r0 [0,2,4,10,11,12,51]),(17,r0 [0,2,4,10,11,12]),(18,r0 [0,2,4,10,11,12,13]),(19,r0 [0,2,4,10,11,12,13,14,15]),(20,r0 [0,2,4,10,11,12,13,14,61]),(21,r0 [0,2,4,10,11,12,13]),(22,⟨[3],[],[],[],[0,2,4,10,11,12],none,[]⟩),(23,r0 [2,3])],[(3,[0,2,4,5]),(7,[0,2,4,6]),(16,[0,2,4,10,11,12])]⟩
noncomputable def f50_r0 (c:CallF):RF:=rg [0,2] <| aX 2 (pAl 27 3)<|aX 3 (pM (cn .nils))<|aXZ
noncomputable def f50_r1 (c:CallF):RF:=rg [0,2,4] <| aX 16 (fun n e M=>keep (aBuild (zeroOf cx.P 27) [] M))<|aX 4 (fun n e M=>gho cx.P true n (oAlloc cx.P n 27 3))<|aX0 (fun n e M=>oStoreG cx.P 27 false 3 (eget e 4) (eget e 16) M)<|aXZ
noncomputable def f50_r2 (c:CallF):RF:=rg [0,2,4,5] <| aX 17 (pM 0)<|aX 18 (pK c false 88 [17,(cn (.int .i64 3))])<|aX 19 (pB .add 2 (cn (.int .i64 2)) 18)<|aX 5 (pM 19)<|aXZ
noncomputable def f50_r3 (c:CallF):RF:=rg [0,2,4,5,21] <| aX 20 (pM 5)<|aX 21 (pB .gtr 2 20 (cn (.int .i64 0)))<|aXZ
noncomputable def f50_r4 (c:CallF):RF:=rg [0,2,4,5] <| aX 22 (pM 5)<|aX 23 (pB .sub 2 22 (cn (.int .i64 1)))<|aX 5 (pM 23)<|aXZ
noncomputable def f50_r5 (c:CallF):RF:=rgS [0,2,4,5] (aQs 0 false (some 24) (pF 1 1 4)<|aQs 1 false (some 25) (pL false 1 24)<|aQ 2 false (some 26) (pM 0)<|aQZ)
 (aW [2] (some 27) (pK c false 88 [26,(cn (.int .i64 100))])<|aW [2,3] (some 28) (fun n e M=>keep (aLitI 2 1 [(eget e 27)] M))<|aW [0,1,2,3,4] (some 29) (fun n e M=>aAppO n 2 1 8 (eget e 25) (eget e 28) M)<|aW [0,1,2,3,4,5] (some 30) (pF 1 1 4)<|aW [0,1,2,3,4,5,6] none (pS 1 30 29)<|aWZ)
noncomputable def f50_r6 (c:CallF):RF:=rgF [4] (rg [0,2,4,6] <| aX 31 (pM 0)<|aX 32 (pK c false 88 [31,(cn (.int .i64 4))])<|aX 6 (pM 32)<|aXZ)
noncomputable def f50_r7 (c:CallF):RF:=rg [0,2,4,6,34] <| aX 33 (pM 6)<|aX 34 (pB .gtr 2 33 (cn (.int .i64 0)))<|aXZ
noncomputable def f50_r8 (c:CallF):RF:=rg [0,2,4,6] <| aX 35 (pM 6)<|aX 36 (pB .sub 2 35 (cn (.int .i64 1)))<|aX 6 (pM 36)<|aXZ
noncomputable def f50_r9 (c:CallF):RF:=rg [0,2,4,6,7] <| aX 37 (pM 0)<|aX 38 (pK c false 105 [37,4])<|aX 7 (pAl 36 6)<|aX0 (pS 6 7 38)<|aXZ
noncomputable def f50_r10 (c:CallF):RF:=rg [0,2,4,6,8,9] <| aX 40 (pK c false 78 [4,7])<|aX 39 (pM 40)<|aX 41 (pE 0 39)<|aX 42 (pE 1 39)<|aX 8 (pAl 27 3)<|aX0 (pS 3 8 41)<|aX 9 (pM 42)<|aXZ
noncomputable def f50_r11 (c:CallF):RF:=rg [0,2,4,6,8,44] <| aX 43 (pM 9)<|aX 44 (pB .eql 2 43 (cn (.int .i64 0)))<|aXZ
noncomputable def f50_r12 (c:CallF):RF:=rg [0,2,4,6] <| aX 45 (pL true 3 8)<|aX0 (pS 3 4 45)<|aXZ
noncomputable def f50_r13 (c:CallF):RF:=rg [0,2,4,10] <| aX 46 (fun n e M=>aLitO false n 36 6 [] M)<|aX 10 (pM 46)<|aXZ
noncomputable def f50_r14 (c:CallF):RF:=rg [0,2,4,10,11] <| aX 47 (pK c false 65 [4])<|aX 11 (pAl 27 3)<|aX0 (pS 3 11 47)<|aXZ
noncomputable def f50_r15 (c:CallF):RF:=rg [0,2,4,10,11,12] <| aX 48 (pM 0)<|aX 49 (pK c false 88 [48,(cn (.int .i64 9))])<|aX 12 (pM 49)<|aXZ
noncomputable def f50_r16 (c:CallF):RF:=rg [0,2,4,10,11,12,51] <| aX 50 (pM 12)<|aX 51 (pB .gtr 2 50 (cn (.int .i64 0)))<|aXZ
noncomputable def f50_r17 (c:CallF):RF:=rg [0,2,4,10,11,12] <| aX 52 (pM 12)<|aX 53 (pB .sub 2 52 (cn (.int .i64 1)))<|aX 12 (pM 53)<|aXZ
noncomputable def f50_r18 (c:CallF):RF:=rg [0,2,4,10,11,12,13] <| aX 54 (pM 0)<|aX 55 (pK c false 105 [54,11])<|aX 13 (pAl 36 6)<|aX0 (pS 6 13 55)<|aXZ
noncomputable def f50_r19 (c:CallF):RF:=rg [0,2,4,10,11,12,13,14,15] <| aX 57 (pK c false 78 [11,13])<|aX 56 (pM 57)<|aX 58 (pE 0 56)<|aX 59 (pE 1 56)<|aX 14 (pAl 27 3)<|aX0 (pS 3 14 58)<|aX 15 (pM 59)<|aXZ
noncomputable def f50_r20 (c:CallF):RF:=rg [0,2,4,10,11,12,13,14,61] <| aX 60 (pM 15)<|aX 61 (pB .eql 2 60 (cn (.int .i64 0)))<|aXZ
noncomputable def f50_r21 (c:CallF):RF:=rg [0,2,4,10,11,12,13] <| aX 62 (pL true 3 14)<|aX0 (pS 3 11 62)<|aXZ
noncomputable def f50_r22 (c:CallF):RF:=rg [0,2,4,10,11,12] <| aX 63 (pM 10)<|aX 64 (pL true 6 13)<|aX 65 (fun n e M=>keep (aLitI 36 6 [(eget e 64)] M))<|aX 66 (fun n e M=>aAppO n 36 6 48 (eget e 63) (eget e 65) M)<|aX 10 (pM 66)<|aXZ
noncomputable def f50_r23 (c:CallF):RF:=rg [2,3] <| aX 67 (pL true 3 4)<|aX 68 (pM 10)<|aX0 (pS 3 2 67)<|aX 3 (pM 68)<|aXZ
noncomputable def f50_l3 (c:CallF) (k:Nat):St:=
 (bSeq (bSeq (bReg (f50_r3 c))
 (bCond (.tmp 21) (bEx .nrm) (bEx (.ext 0))))
 (bSeq (bBlock 1 (bReg (f50_r5 c)))
 (bReg (f50_r4 c))))
noncomputable def f50_l7 (c:CallF) (k:Nat):St:=
 (bSeq (bSeq (bReg (f50_r7 c))
 (bCond (.tmp 34) (bEx .nrm) (bEx (.ext 2))))
 (bSeq (bBlock 3 (bSeq (bReg (f50_r9 c))
 (bSeq (bReg (f50_r10 c))
 (bSeq (bReg (f50_r11 c))
 (bCond (.tmp 44) (bReg (f50_r12 c)) (bEx .nrm))))))
 (bReg (f50_r8 c))))
noncomputable def f50_l16 (c:CallF) (k:Nat):St:=
 (bSeq (bSeq (bReg (f50_r16 c))
 (bCond (.tmp 51) (bEx .nrm) (bEx (.ext 4))))
 (bSeq (bBlock 5 (bSeq (bReg (f50_r18 c))
 (bSeq (bReg (f50_r19 c))
 (bSeq (bReg (f50_r20 c))
 (bCond (.tmp 61) (bSeq (bReg (f50_r21 c))
 (bReg (f50_r22 c))) (bEx .nrm))))))
 (bReg (f50_r17 c))))
noncomputable def f50 (c:CallF) (k:Nat):St:=
 (bSeq (bReg (f50_r0 c))
 (bSeq (bReg (f50_r1 c))
 (bSeq (bSeq (bReg (f50_r2 c))
 (bBlock 0 (bLoop [0,2,4,5] (f50_l3 c k) k)))
 (bSeq (bSeq (bReg (f50_r6 c))
 (bBlock 2 (bLoop [0,2,4,6] (f50_l7 c k) k)))
 (bSeq (bReg (f50_r13 c))
 (bSeq (bReg (f50_r14 c))
 (bSeq (bSeq (bReg (f50_r15 c))
 (bBlock 4 (bLoop [0,2,4,10,11,12] (f50_l16 c k) k)))
 (bSeq (bReg (f50_r23 c))
 (bEx .ret)))))))))
theorem f50_eq (c:CallF) (k:Nat):exec cx c 69 f50_an k (Try.f50.body.getD .skip)=f50 c k:=by kernel_rfl
def f51_an:Ann:=⟨[(0,r0 [0]),(1,⟨[2],[],[],[],[2],none,[]⟩)],[]⟩
noncomputable def f51_r0 (c:CallF):RF:=rg [0] <| aX 2 (pM (cn .nilp))<|aXZ
noncomputable def f51_r1 (c:CallF):RF:=rg [2] <| aX 3 (pM 0)<|aX 4 (fun n e M=>keep (aBuild (zeroOf cx.P 142) [(0,1,(eget e 3))] M))<|aX 5 (fun n e M=>aBoxO n 142 3 (eget e 4) M)<|aX 2 (pM 5)<|aXZ
noncomputable def f51 (c:CallF) (k:Nat):St:=
 (bSeq (bReg (f51_r0 c))
 (bSeq (bReg (f51_r1 c))
 (bEx .ret)))
theorem f51_eq (c:CallF) (k:Nat):exec cx c 6 f51_an k (Try.f51.body.getD .skip)=f51 c k:=by kernel_rfl
def f52_an:Ann:=⟨[(0,r0 [1,2]),(1,r0 [1,5]),(2,r0 [4]),(3,r0 [14]),(4,r0 [4]),(5,r0 [4])],[]⟩
noncomputable def f52_r0 (c:CallF):RF:=rg [1,2] <| aX 2 (pBox 3 0)<|aX 4 (pM (cn (.int .i64 0)))<|aXZ
noncomputable def f52_r1 (c:CallF):RF:=rg [1,5] <| aX 6 (pL true 3 2)<|aX 7 (pK c false 26 [6])<|aX 8 (pU .not 7)<|aX 9 (pM 8)<|aX 10 (pG 9 false (pM 1))<|aX 11 (pG 9 false (pK c false 106 [10]))<|aX 12 (pG 9 false (pU .not 11))<|aX 13 (pP 9 (cn (.bool true)) 12)<|aX 5 (pM 13)<|aXZ
noncomputable def f52_r2 (c:CallF):RF:=rg [4] <| aX 4 (pM (cn (.int .i64 1)))<|aXZ
noncomputable def f52_r3 (c:CallF):RF:=rg [14] <| aX 15 (pM 1)<|aX 16 (pLen 28 15)<|aX 17 (pB .gtr 3 16 (cn (.int .i64 80)))<|aX 14 (pM 17)<|aXZ
noncomputable def f52_r4 (c:CallF):RF:=rg [4] <| aX 4 (pM (cn (.int .i64 3)))<|aXZ
noncomputable def f52_r5 (c:CallF):RF:=rg [4] <| aX 4 (pM (cn (.int .i64 0)))<|aXZ
noncomputable def f52 (c:CallF) (k:Nat):St:=
 (bSeq (bReg (f52_r0 c))
 (bSeq (bBlock 0 (bSeq (bReg (f52_r1 c))
 (bCond (.tmp 5) (bSeq (bReg (f52_r2 c))
 (bEx .ret)) (bSeq (bReg (f52_r3 c))
 (bCond (.tmp 14) (bSeq (bReg (f52_r4 c))
 (bEx .ret)) (bEx .nrm))))))
 (bSeq (bReg (f52_r5 c))
 (bEx .ret))))
theorem f52_eq (c:CallF) (k:Nat):exec cx c 18 f52_an k (Try.f52.body.getD .skip)=f52 c k:=by kernel_rfl
def f53_an:Ann:=⟨[(0,r0 [0]),(1,r0 [2])],[]⟩
noncomputable def f53_r0 (c:CallF):RF:=rg [0] <| aX 2 (pM (cn (.bool false)))<|aXZ
noncomputable def f53_r1 (c:CallF):RF:=rg [2] <| aX 3 (pM 0)<|aX 4 (pB .geq 2 3 (cn (.int .i64 0)))<|aX 5 (pM 4)<|aX 6 (pG 5 true (pM 0))<|aX 7 (pG 5 true (pB .leq 2 6 (cn (.int .i64 100000))))<|aX 8 (pP 5 7 (cn (.bool false)))<|aX 2 (pM 8)<|aXZ
noncomputable def f53 (c:CallF) (k:Nat):St:=
 (bSeq (bReg (f53_r0 c))
 (bSeq (bReg (f53_r1 c))
 (bEx .ret)))
theorem f53_eq (c:CallF) (k:Nat):exec cx c 9 f53_an k (Try.f53.body.getD .skip)=f53 c k:=by kernel_rfl
def f54_an:Ann:=⟨[(0,r0 [1,3,5,6]),(1,r0 [1,3,5,6,14]),(2,r0 [6,7]),(3,r0 [1,3,5,6,8]),(4,r0 [1,3,5,6,8,20]),(5,r0 [1,3,5,6,8]),(6,⟨[],[],[7],[9,10],[5,6,9,10],none,[]⟩),(7,r0 [5,6,9,10,32]),(8,r0 [6,7]),(9,r0 [6,9]),(10,r0 [6,7])],[]⟩
noncomputable def f54_r0 (c:CallF):RF:=rg [1,3,5,6] <| aX 3 (pBox 3 0)<|aX 5 (pBox 1 2)<|aX 6 (pAl 27 3)<|aX 7 (pM (cn (.int .i64 0)))<|aXZ
noncomputable def f54_r1 (c:CallF):RF:=rg [1,3,5,6,14] <| aX 11 (pL false 1 5)<|aX 12 (pF 0 1 3)<|aX 13 (pL false 1 12)<|aX 14 (pB .lss 2 11 13)<|aXZ
noncomputable def f54_r2 (c:CallF):RF:=rg [6,7] <| aX 15 (fun n e M=>keep (aBuild (zeroOf cx.P 27) [] M))<|aX0 (pS 3 6 15)<|aX 7 (pM (cn (.int .i64 4)))<|aXZ
noncomputable def f54_r3 (c:CallF):RF:=rg [1,3,5,6,8] <| aX 16 (pM 1)<|aX 17 (pM (fun e=>(.fn 108 [(eget e 5)])))<|aX 18 (pK c false 107 [16,17])<|aX 8 (pM 18)<|aXZ
noncomputable def f54_r4 (c:CallF):RF:=rg [1,3,5,6,8,20] <| aX 19 (pM 8)<|aX 20 (pB .lss 3 19 (cn (.int .i64 0)))<|aXZ
noncomputable def f54_r5 (c:CallF):RF:=rg [1,3,5,6,8] <| aX 21 (pM 1)<|aX 22 (pLen 28 21)<|aX 8 (pM 22)<|aXZ
noncomputable def f54_r6 (c:CallF):RF:=rgD [5,6,9,10] (aY 24 (pL true 3 3)<|aY 25 (pM 1)<|aY 26 (pM 8)<|aY 27 (fun n e M=>keep (aSlice 6 none (some (eget e 26)) (eget e 25) M))<|aY 28 (pK c false 58 [24,27])<|aY 23 (pM 28)<|aY 29 (pE 0 23)<|aYc 30 (pE 1 23)<|aY 9 (pAl 27 3)<|aYZ)
 (aX0 (pS 3 9 29)<|aX 10 (pM 30)<|aXZ)
noncomputable def f54_r7 (c:CallF):RF:=rg [5,6,9,10,32] <| aX 31 (pM 10)<|aX 32 (pB .neq 2 31 (cn (.int .i64 0)))<|aXZ
noncomputable def f54_r8 (c:CallF):RF:=rg [6,7] <| aX 33 (fun n e M=>keep (aBuild (zeroOf cx.P 27) [] M))<|aX 34 (pM 10)<|aX0 (pS 3 6 33)<|aX 7 (pM 34)<|aXZ
noncomputable def f54_r9 (c:CallF):RF:=rg [6,9] <| aX 35 (pL false 1 5)<|aX 36 (pF 0 1 9)<|aX0 (pS 1 36 35)<|aXZ
noncomputable def f54_r10 (c:CallF):RF:=rg [6,7] <| aX 37 (pL true 3 9)<|aX0 (pS 3 6 37)<|aX 7 (pM (cn (.int .i64 0)))<|aXZ
noncomputable def f54 (c:CallF) (k:Nat):St:=
 (bSeq (bReg (f54_r0 c))
 (bSeq (bSeq (bReg (f54_r1 c))
 (bCond (.tmp 14) (bSeq (bReg (f54_r2 c))
 (bEx .ret)) (bEx .nrm)))
 (bSeq (bReg (f54_r3 c))
 (bSeq (bSeq (bReg (f54_r4 c))
 (bCond (.tmp 20) (bReg (f54_r5 c)) (bEx .nrm)))
 (bSeq (bReg (f54_r6 c))
 (bSeq (bSeq (bReg (f54_r7 c))
 (bCond (.tmp 32) (bSeq (bReg (f54_r8 c))
 (bEx .ret)) (bEx .nrm)))
 (bSeq (bReg (f54_r9 c))
 (bSeq (bReg (f54_r10 c))
 (bEx .ret)))))))))
theorem f54_eq (c:CallF) (k:Nat):exec cx c 38 f54_an k (Try.f54.body.getD .skip)=f54 c k:=by kernel_rfl
def f55_an:Ann:=⟨[(0,r0 [0,1]),(1,r0 [1,12]),(2,r0 [4]),(3,r0 [15]),(4,r0 [4]),(5,r0 [4])],[]⟩
noncomputable def f55_r0 (c:CallF):RF:=rg [0,1] <| aX 4 (pM (cn (.int .i64 0)))<|aXZ
noncomputable def f55_r1 (c:CallF):RF:=rg [1,12] <| aX 5 (pM 0)<|aX 6 (pK c false 76 [5])<|aX 7 (pU .not 6)<|aX 8 (pM 7)<|aX 9 (pG 8 false (pM 1))<|aX 10 (pG 8 false (pK c false 109 [9]))<|aX 11 (pG 8 false (pU .not 10))<|aX 12 (pP 8 (cn (.bool true)) 11)<|aXZ
noncomputable def f55_r2 (c:CallF):RF:=rg [4] <| aX 4 (pM (cn (.int .i64 1)))<|aXZ
noncomputable def f55_r3 (c:CallF):RF:=rg [15] <| aX 13 (pM 1)<|aX 14 (pLen 28 13)<|aX 15 (pB .gtr 3 14 (cn (.int .i64 80)))<|aXZ
noncomputable def f55_r4 (c:CallF):RF:=rg [4] <| aX 4 (pM (cn (.int .i64 3)))<|aXZ
noncomputable def f55_r5 (c:CallF):RF:=rg [4] <| aX 4 (pM (cn (.int .i64 0)))<|aXZ
noncomputable def f55 (c:CallF) (k:Nat):St:=
 (bSeq (bReg (f55_r0 c))
 (bSeq (bSeq (bReg (f55_r1 c))
 (bCond (.tmp 12) (bSeq (bReg (f55_r2 c))
 (bEx .ret)) (bEx .nrm)))
 (bSeq (bSeq (bReg (f55_r3 c))
 (bCond (.tmp 15) (bSeq (bReg (f55_r4 c))
 (bEx .ret)) (bEx .nrm)))
 (bSeq (bReg (f55_r5 c))
 (bEx .ret)))))
theorem f55_eq (c:CallF) (k:Nat):exec cx c 16 f55_an k (Try.f55.body.getD .skip)=f55 c k:=by kernel_rfl
def f56_an:Ann:=⟨[(0,r0 [0]),(1,r0 [2])],[]⟩
noncomputable def f56_r0 (c:CallF):RF:=rg [0] <| aX 2 (pM (cn (.bool false)))<|aXZ
noncomputable def f56_r1 (c:CallF):RF:=rg [2] <| aX 3 (pM 0)<|aX 4 (pK c false 90 [3,(cn (.int .i64 0)),(cn (.int .i64 100000))])<|aX 2 (pM 4)<|aXZ
noncomputable def f56 (c:CallF) (k:Nat):St:=
 (bSeq (bReg (f56_r0 c))
 (bSeq (bReg (f56_r1 c))
 (bEx .ret)))
theorem f56_eq (c:CallF) (k:Nat):exec cx c 5 f56_an k (Try.f56.body.getD .skip)=f56 c k:=by kernel_rfl
def f57_an:Ann:=⟨[(0,r0 [0,1,2,6]),(1,r0 [0,1,2,6,18]),(2,r0 [6,7]),(3,r0 [0,1,2,6,8]),(4,r0 [0,1,2,6,8,32]),(5,r0 [0,1,2,6,8]),(6,r0 [0,2,6,8,9,10]),(7,r0 [0,2,6,8,9,10,45]),(8,r0 [6,7]),(9,r0 [2,6,8,9,12]),(10,r0 [2,6,8,9,12,51]),(11,r0 [2,6,12]),(12,r0 [6,12]),(13,r0 [6,7])],[(4,[0,1,2,6,8])]⟩
noncomputable def f57_r0 (c:CallF):RF:=rg [0,1,2,6] <| aX 6 (pAl 27 3)<|aX 7 (pM (cn (.int .i64 0)))<|aXZ
noncomputable def f57_r1 (c:CallF):RF:=rg [0,1,2,6,18] <| aX 13 (pM 2)<|aX 14 (pM 0)<|aX 15 (pN 14)<|aX 16 (pF 0 1 15)<|aX 17 (pL false 1 16)<|aX 18 (pB .lss 2 13 17)<|aXZ
noncomputable def f57_r2 (c:CallF):RF:=rg [6,7] <| aX 19 (fun n e M=>keep (aBuild (zeroOf cx.P 27) [] M))<|aX0 (pS 3 6 19)<|aX 7 (pM (cn (.int .i64 4)))<|aXZ
noncomputable def f57_r3 (c:CallF):RF:=rg [0,1,2,6,8] <| aX 8 (pM (cn (.int .i64 0)))<|aXZ
noncomputable def f57_r4 (c:CallF):RF:=rg [0,1,2,6,8,32] <| aX 20 (pM 8)<|aX 21 (pM 1)<|aX 22 (pLen 28 21)<|aX 23 (pB .lss 3 20 22)<|aX 24 (pM 23)<|aX 25 (pG 24 true (pM 1))<|aX 26 (pG 24 true (pM 8))<|aX 27 (pG 24 true (pI 6 25 26))<|aX 28 (pG 24 true (pF 0 1 27))<|aX 29 (pG 24 true (pL false 1 28))<|aX 30 (pG 24 true (pM 2))<|aX 31 (pG 24 true (pB .leq 2 29 30))<|aX 32 (pP 24 31 (cn (.bool false)))<|aXZ
noncomputable def f57_r5 (c:CallF):RF:=rg [0,1,2,6,8] <| aX 33 (pM 8)<|aX 34 (pB .add 3 33 (cn (.int .i64 1)))<|aX 8 (pM 34)<|aXZ
noncomputable def f57_r6 (c:CallF):RF:=rg [0,2,6,8,9,10] <| aX 36 (pM 0)<|aX 37 (pM 1)<|aX 38 (pM 8)<|aX 39 (fun n e M=>keep (aSlice 6 none (some (eget e 38)) (eget e 37) M))<|aX 40 (pK c false 64 [36,39])<|aX 35 (pM 40)<|aX 41 (pE 0 35)<|aX 42 (pE 1 35)<|aX 43 (pE 2 35)<|aX 9 (pM 41)<|aX 10 (pM 42)<|aX 11 (pM 43)<|aXZ
noncomputable def f57_r7 (c:CallF):RF:=rg [0,2,6,8,9,10,45] <| aX 44 (pM 10)<|aX 45 (pB .neq 2 44 (cn (.int .i64 0)))<|aXZ
noncomputable def f57_r8 (c:CallF):RF:=rg [6,7] <| aX 46 (fun n e M=>keep (aBuild (zeroOf cx.P 27) [] M))<|aX 47 (pM 10)<|aX0 (pS 3 6 46)<|aX 7 (pM 47)<|aXZ
noncomputable def f57_r9 (c:CallF):RF:=rg [2,6,8,9,12] <| aX 48 (pM 0)<|aX 49 (pK c false 65 [48])<|aX 12 (pAl 27 3)<|aX0 (pS 3 12 49)<|aXZ
noncomputable def f57_r10 (c:CallF):RF:=rg [2,6,8,9,12,51] <| aX 50 (pM 8)<|aX 51 (pB .gtr 3 50 (cn (.int .i64 0)))<|aXZ
noncomputable def f57_r11 (c:CallF):RF:=rg [2,6,12] <| aX 52 (pM 9)<|aX 53 (pM 8)<|aX 54 (pB .sub 3 53 (cn (.int .i64 1)))<|aX 55 (pI 3 52 54)<|aX 56 (pK c false 65 [55])<|aX0 (pS 3 12 56)<|aXZ
noncomputable def f57_r12 (c:CallF):RF:=rg [6,12] <| aX 57 (pM 2)<|aX 58 (pF 0 1 12)<|aX0 (pS 1 58 57)<|aXZ
noncomputable def f57_r13 (c:CallF):RF:=rg [6,7] <| aX 59 (pL true 3 12)<|aX0 (pS 3 6 59)<|aX 7 (pM (cn (.int .i64 0)))<|aXZ
noncomputable def f57_l4 (c:CallF) (k:Nat):St:=
 (bSeq (bSeq (bReg (f57_r4 c))
 (bCond (.tmp 32) (bEx .nrm) (bEx (.ext 0))))
 (bBlock 1 (bReg (f57_r5 c))))
noncomputable def f57 (c:CallF) (k:Nat):St:=
 (bSeq (bReg (f57_r0 c))
 (bSeq (bSeq (bReg (f57_r1 c))
 (bCond (.tmp 18) (bSeq (bReg (f57_r2 c))
 (bEx .ret)) (bEx .nrm)))
 (bSeq (bReg (f57_r3 c))
 (bSeq (bBlock 0 (bLoop [0,1,2,6,8] (f57_l4 c k) k))
 (bSeq (bReg (f57_r6 c))
 (bSeq (bSeq (bReg (f57_r7 c))
 (bCond (.tmp 45) (bSeq (bReg (f57_r8 c))
 (bEx .ret)) (bEx .nrm)))
 (bSeq (bReg (f57_r9 c))
 (bSeq (bSeq (bReg (f57_r10 c))
 (bCond (.tmp 51) (bReg (f57_r11 c)) (bEx .nrm)))
 (bSeq (bReg (f57_r12 c))
 (bSeq (bReg (f57_r13 c))
 (bEx .ret)))))))))))
theorem f57_eq (c:CallF) (k:Nat):exec cx c 60 f57_an k (Try.f57.body.getD .skip)=f57 c k:=by kernel_rfl
def f58_an:Ann:=⟨[(0,r0 [1,2,4]),(1,r0 [2,4,6,7]),(2,r0 [2,4,6,7,14]),(3,r0 [4,5]),(4,r0 [2,4,6,19]),(5,r0 [4,5]),(6,r0 [4,5])],[]⟩
noncomputable def f58_r0 (c:CallF):RF:=rg [1,2,4] <| aX 2 (pBox 3 0)<|aX 4 (pAl 27 3)<|aX 5 (pM (cn (.int .i64 0)))<|aXZ
noncomputable def f58_r1 (c:CallF):RF:=rg [2,4,6,7] <| aX 9 (pL true 3 2)<|aX 10 (pM 1)<|aX 11 (pK c false 71 [9,10])<|aX 8 (pM 11)<|aX 12 (pE 0 8)<|aX 13 (pE 1 8)<|aX 6 (pM 12)<|aX 7 (pM 13)<|aXZ
noncomputable def f58_r2 (c:CallF):RF:=rg [2,4,6,7,14] <| aX 15 (pM 7)<|aX 16 (pB .neq 2 15 (cn (.int .i64 0)))<|aX 14 (pM 16)<|aXZ
noncomputable def f58_r3 (c:CallF):RF:=rg [4,5] <| aX 17 (fun n e M=>keep (aBuild (zeroOf cx.P 27) [] M))<|aX 18 (pM 7)<|aX0 (pS 3 4 17)<|aX 5 (pM 18)<|aXZ
noncomputable def f58_r4 (c:CallF):RF:=rg [2,4,6,19] <| aX 20 (pM 6)<|aX 21 (pLen 94 20)<|aX 22 (pB .eql 3 21 (cn (.int .i64 0)))<|aX 19 (pM 22)<|aXZ
noncomputable def f58_r5 (c:CallF):RF:=rg [4,5] <| aX 23 (pL true 3 2)<|aX 24 (pK c false 110 [23])<|aX0 (pS 3 4 24)<|aX 5 (pM (cn (.int .i64 0)))<|aXZ
noncomputable def f58_r6 (c:CallF):RF:=rg [4,5] <| aX 25 (pM 6)<|aX 26 (pM 6)<|aX 27 (pLen 94 26)<|aX 28 (pB .sub 3 27 (cn (.int .i64 1)))<|aX 29 (pI 3 25 28)<|aX 30 (pL true 3 29)<|aX0 (pS 3 4 30)<|aX 5 (pM (cn (.int .i64 0)))<|aXZ
noncomputable def f58 (c:CallF) (k:Nat):St:=
 (bSeq (bReg (f58_r0 c))
 (bSeq (bReg (f58_r1 c))
 (bSeq (bBlock 0 (bSeq (bReg (f58_r2 c))
 (bCond (.tmp 14) (bSeq (bReg (f58_r3 c))
 (bEx .ret)) (bSeq (bReg (f58_r4 c))
 (bCond (.tmp 19) (bSeq (bReg (f58_r5 c))
 (bEx .ret)) (bEx .nrm))))))
 (bSeq (bReg (f58_r6 c))
 (bEx .ret)))))
theorem f58_eq (c:CallF) (k:Nat):exec cx c 31 f58_an k (Try.f58.body.getD .skip)=f58 c k:=by kernel_rfl
def f59_an:Ann:=⟨[(0,r0 [0,1]),(1,r0 [0,1,39]),(2,r0 [4]),(3,r0 [0,1,5]),(4,r0 [0,1,5,46]),(5,r0 [0,1,5]),(6,r0 [0,1,5,63]),(7,r0 [4]),(8,r0 [4])],[(4,[0,1,5])]⟩
noncomputable def f59_r0 (c:CallF):RF:=rg [0,1] <| aX 4 (pM (cn (.bool false)))<|aXZ
noncomputable def f59_r1 (c:CallF):RF:=rgD [0,1,39] (aY 6 (pM 0)<|aY 7 (pN 6)<|aY 8 (pF 0 1 7)<|aY 9 (pL false 1 8)<|aY 10 (pM 1)<|aY 11 (pN 10)<|aY 12 (pF 0 1 11)<|aY 13 (pL false 1 12)<|aY 14 (pB .neq 2 9 13)<|aY 15 (pM 14)<|aY 16 (pG 15 false (pM 0))<|aY 17 (pG 15 false (pN 16))<|aY 18 (pG 15 false (pF 1 1 17))<|aY 19 (pG 15 false (pL false 1 18))<|aY 20 (pG 15 false (pM 1))<|aY 21 (pG 15 false (pN 20))<|aY 22 (pG 15 false (pF 1 1 21))<|aY 23 (pG 15 false (pL false 1 22))<|aY 24 (pG 15 false (pK c false 60 [19,23]))<|aY 25 (pG 15 false (pU .not 24))<|aY 26 (pP 15 (cn (.bool true)) 25)<|aY 27 (pM 26)<|aY 28 (pG 27 false (pM 0))<|aY 29 (pG 27 false (pN 28))<|aY 30 (pG 27 false (pF 2 1 29))<|aY 31 (pG 27 false (pL false 1 30))<|aY 32 (pG 27 false (pLen 25 31))<|aY 33 (pG 27 false (pM 1))<|aY 34 (pG 27 false (pN 33))<|aY 35 (pG 27 false (pF 2 1 34))<|aY 36 (pG 27 false (pL false 1 35))<|aY 37 (pG 27 false (pLen 25 36))<|aY 38 (pG 27 false (pB .neq 3 32 37))<|aY 39 (pP 27 (cn (.bool true)) 38)<|aYZ)
 (aXZ)
noncomputable def f59_r2 (c:CallF):RF:=rg [4] <| aX 4 (pM (cn (.bool false)))<|aXZ
noncomputable def f59_r3 (c:CallF):RF:=rg [0,1,5] <| aX 5 (pM (cn (.int .i64 0)))<|aXZ
noncomputable def f59_r4 (c:CallF):RF:=rg [0,1,5,46] <| aX 40 (pM 5)<|aX 41 (pM 0)<|aX 42 (pN 41)<|aX 43 (pF 2 1 42)<|aX 44 (pL false 1 43)<|aX 45 (pLen 25 44)<|aX 46 (pB .lss 3 40 45)<|aXZ
noncomputable def f59_r5 (c:CallF):RF:=rg [0,1,5] <| aX 47 (pM 5)<|aX 48 (pB .add 3 47 (cn (.int .i64 1)))<|aX 5 (pM 48)<|aXZ
noncomputable def f59_r6 (c:CallF):RF:=rgD [0,1,5,63] (aY 49 (pM 0)<|aY 50 (pN 49)<|aY 51 (pF 2 1 50)<|aY 52 (pL false 1 51)<|aY 53 (pM 5)<|aY 54 (pI 5 52 53)<|aY 55 (pL true 5 54)<|aY 56 (pM 1)<|aY 57 (pN 56)<|aY 58 (pF 2 1 57)<|aY 59 (pL false 1 58)<|aY 60 (pM 5)<|aY 61 (pI 5 59 60)<|aY 62 (pL true 5 61)<|aY 63 (pB .neq 49 55 62)<|aYZ)
 (aXZ)
noncomputable def f59_r7 (c:CallF):RF:=rg [4] <| aX 4 (pM (cn (.bool false)))<|aXZ
noncomputable def f59_r8 (c:CallF):RF:=rg [4] <| aX 4 (pM (cn (.bool true)))<|aXZ
noncomputable def f59_l4 (c:CallF) (k:Nat):St:=
 (bSeq (bSeq (bReg (f59_r4 c))
 (bCond (.tmp 46) (bEx .nrm) (bEx (.ext 0))))
 (bSeq (bBlock 1 (bSeq (bReg (f59_r6 c))
 (bCond (.tmp 63) (bSeq (bReg (f59_r7 c))
 (bEx .ret)) (bEx .nrm))))
 (bReg (f59_r5 c))))
noncomputable def f59 (c:CallF) (k:Nat):St:=
 (bSeq (bReg (f59_r0 c))
 (bSeq (bSeq (bReg (f59_r1 c))
 (bCond (.tmp 39) (bSeq (bReg (f59_r2 c))
 (bEx .ret)) (bEx .nrm)))
 (bSeq (bSeq (bReg (f59_r3 c))
 (bBlock 0 (bLoop [0,1,5] (f59_l4 c k) k)))
 (bSeq (bReg (f59_r8 c))
 (bEx .ret)))))
theorem f59_eq (c:CallF) (k:Nat):exec cx c 64 f59_an k (Try.f59.body.getD .skip)=f59 c k:=by kernel_rfl
def f60_an:Ann:=⟨[(0,r0 [0,1]),(1,r0 [0,1,10]),(2,r0 [4]),(3,r0 [0,1,5]),(4,r0 [0,1,5,14]),(5,r0 [0,1,5]),(6,r0 [0,1,5,25]),(7,r0 [4]),(8,r0 [4])],[(4,[0,1,5])]⟩
noncomputable def f60_r0 (c:CallF):RF:=rg [0,1] <| aX 4 (pM (cn (.bool false)))<|aXZ
noncomputable def f60_r1 (c:CallF):RF:=rg [0,1,10] <| aX 6 (pM 0)<|aX 7 (pLen 24 6)<|aX 8 (pM 1)<|aX 9 (pLen 24 8)<|aX 10 (pB .neq 3 7 9)<|aXZ
noncomputable def f60_r2 (c:CallF):RF:=rg [4] <| aX 4 (pM (cn (.bool false)))<|aXZ
noncomputable def f60_r3 (c:CallF):RF:=rg [0,1,5] <| aX 5 (pM (cn (.int .i64 0)))<|aXZ
noncomputable def f60_r4 (c:CallF):RF:=rg [0,1,5,14] <| aX 11 (pM 5)<|aX 12 (pM 0)<|aX 13 (pLen 24 12)<|aX 14 (pB .lss 3 11 13)<|aXZ
noncomputable def f60_r5 (c:CallF):RF:=rg [0,1,5] <| aX 15 (pM 5)<|aX 16 (pB .add 3 15 (cn (.int .i64 1)))<|aX 5 (pM 16)<|aXZ
noncomputable def f60_r6 (c:CallF):RF:=rgD [0,1,5,25] (aY 17 (pM 0)<|aY 18 (pM 5)<|aY 19 (pI 1 17 18)<|aY 20 (pL false 1 19)<|aY 21 (pM 1)<|aY 22 (pM 5)<|aY 23 (pI 1 21 22)<|aY 24 (pL false 1 23)<|aY 25 (pB .neq 2 20 24)<|aYZ)
 (aXZ)
noncomputable def f60_r7 (c:CallF):RF:=rg [4] <| aX 4 (pM (cn (.bool false)))<|aXZ
noncomputable def f60_r8 (c:CallF):RF:=rg [4] <| aX 4 (pM (cn (.bool true)))<|aXZ
noncomputable def f60_l4 (c:CallF) (k:Nat):St:=
 (bSeq (bSeq (bReg (f60_r4 c))
 (bCond (.tmp 14) (bEx .nrm) (bEx (.ext 0))))
 (bSeq (bBlock 1 (bSeq (bReg (f60_r6 c))
 (bCond (.tmp 25) (bSeq (bReg (f60_r7 c))
 (bEx .ret)) (bEx .nrm))))
 (bReg (f60_r5 c))))
noncomputable def f60 (c:CallF) (k:Nat):St:=
 (bSeq (bReg (f60_r0 c))
 (bSeq (bSeq (bReg (f60_r1 c))
 (bCond (.tmp 10) (bSeq (bReg (f60_r2 c))
 (bEx .ret)) (bEx .nrm)))
 (bSeq (bSeq (bReg (f60_r3 c))
 (bBlock 0 (bLoop [0,1,5] (f60_l4 c k) k)))
 (bSeq (bReg (f60_r8 c))
 (bEx .ret)))))
theorem f60_eq (c:CallF) (k:Nat):exec cx c 26 f60_an k (Try.f60.body.getD .skip)=f60 c k:=by kernel_rfl
def f61_an:Ann:=⟨[(0,r0 [0,1]),(1,r0 [0,7,8,9]),(2,r0 [0,7,8,9,10]),(3,r0 [0,6,7,8,9]),(4,r0 [0,7,8,9,19]),(5,r0 [4]),(6,r0 [0,7,8,9]),(7,r0 [4])],[(2,[0,7,8,9])]⟩
noncomputable def f61_r0 (c:CallF):RF:=rg [0,1] <| aX 4 (pM (cn (.bool false)))<|aXZ
noncomputable def f61_r1 (c:CallF):RF:=rg [0,7,8,9] <| aX 7 (pM 1)<|aX 8 (pLen 24 7)<|aX 9 (pM (cn (.int .i64 0)))<|aXZ
noncomputable def f61_r2 (c:CallF):RF:=rg [0,7,8,9,10] <| aX 10 (pB .lss 3 9 8)<|aXZ
noncomputable def f61_r3 (c:CallF):RF:=rg [0,6,7,8,9] <| aX 11 (pI 1 7 9)<|aX 12 (pL false 1 11)<|aX 6 (pM 12)<|aXZ
noncomputable def f61_r4 (c:CallF):RF:=rg [0,7,8,9,19] <| aX 13 (pM 6)<|aX 14 (pB .lss 2 13 (cn (.int .i64 0)))<|aX 15 (pM 14)<|aX 16 (pG 15 false (pM 6))<|aX 17 (pG 15 false (pM 0))<|aX 18 (pG 15 false (pB .geq 2 16 17))<|aX 19 (pP 15 (cn (.bool true)) 18)<|aXZ
noncomputable def f61_r5 (c:CallF):RF:=rg [4] <| aX 4 (pM (cn (.bool false)))<|aXZ
noncomputable def f61_r6 (c:CallF):RF:=rg [0,7,8,9] <| aX 20 (pB .add 3 9 (cn (.int .i64 1)))<|aX 9 (pM 20)<|aXZ
noncomputable def f61_r7 (c:CallF):RF:=rg [4] <| aX 4 (pM (cn (.bool true)))<|aXZ
noncomputable def f61_l2 (c:CallF) (k:Nat):St:=
 (bSeq (bReg (f61_r2 c))
 (bSeq (bCond (.tmp 10) (bEx .nrm) (bEx (.ext 0)))
 (bSeq (bBlock 1 (bSeq (bReg (f61_r3 c))
 (bSeq (bReg (f61_r4 c))
 (bCond (.tmp 19) (bSeq (bReg (f61_r5 c))
 (bEx .ret)) (bEx .nrm)))))
 (bReg (f61_r6 c)))))
noncomputable def f61 (c:CallF) (k:Nat):St:=
 (bSeq (bReg (f61_r0 c))
 (bSeq (bSeq (bReg (f61_r1 c))
 (bBlock 0 (bLoop [0,7,8,9] (f61_l2 c k) k)))
 (bSeq (bReg (f61_r7 c))
 (bEx .ret))))
theorem f61_eq (c:CallF) (k:Nat):exec cx c 21 f61_an k (Try.f61.body.getD .skip)=f61 c k:=by kernel_rfl
def f62_an:Ann:=⟨[(0,r0 [1,2]),(1,r0 [1,2,5,6]),(2,r0 [4])],[]⟩
noncomputable def f62_r0 (c:CallF):RF:=rg [1,2] <| aX 2 (pBox 3 0)<|aX 4 (pM (cn (.int .i64 0)))<|aXZ
noncomputable def f62_r1 (c:CallF):RF:=rg [1,2,5,6] <| aX 8 (pL true 3 2)<|aX 9 (pM 1)<|aX 10 (pK c false 87 [8,9])<|aX 7 (pM 10)<|aX 11 (pE 0 7)<|aX 12 (pE 1 7)<|aX 5 (pM 11)<|aX 6 (pM 12)<|aXZ
noncomputable def f62_r2 (c:CallF):RF:=rg [4] <| aX 13 (pF 1 1 2)<|aX 14 (pL false 1 13)<|aX 15 (pM 1)<|aX 16 (pI 1 14 15)<|aX 17 (pL false 1 16)<|aX 18 (pM 5)<|aX 19 (pB .add 2 17 18)<|aX 20 (pM 6)<|aX 21 (pB .sub 2 19 20)<|aX 4 (pM 21)<|aXZ
noncomputable def f62 (c:CallF) (k:Nat):St:=
 (bSeq (bReg (f62_r0 c))
 (bSeq (bReg (f62_r1 c))
 (bSeq (bReg (f62_r2 c))
 (bEx .ret))))
theorem f62_eq (c:CallF) (k:Nat):exec cx c 22 f62_an k (Try.f62.body.getD .skip)=f62 c k:=by kernel_rfl
def f63_an:Ann:=⟨[(0,r0 [1,2]),(1,r0 [1,2,5]),(2,r0 [4]),(3,r0 [9]),(4,r0 [4]),(5,r0 [4])],[]⟩
noncomputable def f63_r0 (c:CallF):RF:=rg [1,2] <| aX 2 (pBox 3 0)<|aX 4 (pM (cn (.int .i64 0)))<|aXZ
noncomputable def f63_r1 (c:CallF):RF:=rg [1,2,5] <| aX 6 (pL true 3 2)<|aX 7 (pK c false 26 [6])<|aX 8 (pU .not 7)<|aX 5 (pM 8)<|aXZ
noncomputable def f63_r2 (c:CallF):RF:=rg [4] <| aX 4 (pM (cn (.int .i64 1)))<|aXZ
noncomputable def f63_r3 (c:CallF):RF:=rg [9] <| aX 10 (pF 1 1 2)<|aX 11 (pL false 1 10)<|aX 12 (pLen 24 11)<|aX 13 (pM 1)<|aX 14 (fun n e M=>keep (aLitI 2 1 [(eget e 13)] M))<|aX 15 (pK c false 61 [12,14])<|aX 16 (pU .not 15)<|aX 9 (pM 16)<|aXZ
noncomputable def f63_r4 (c:CallF):RF:=rg [4] <| aX 4 (pM (cn (.int .i64 2)))<|aXZ
noncomputable def f63_r5 (c:CallF):RF:=rg [4] <| aX 4 (pM (cn (.int .i64 0)))<|aXZ
noncomputable def f63 (c:CallF) (k:Nat):St:=
 (bSeq (bReg (f63_r0 c))
 (bSeq (bBlock 0 (bSeq (bReg (f63_r1 c))
 (bCond (.tmp 5) (bSeq (bReg (f63_r2 c))
 (bEx .ret)) (bSeq (bReg (f63_r3 c))
 (bCond (.tmp 9) (bSeq (bReg (f63_r4 c))
 (bEx .ret)) (bEx .nrm))))))
 (bSeq (bReg (f63_r5 c))
 (bEx .ret))))
theorem f63_eq (c:CallF) (k:Nat):exec cx c 17 f63_an k (Try.f63.body.getD .skip)=f63 c k:=by kernel_rfl
def f64_an:Ann:=⟨[(0,r0 [0,1]),(1,⟨[0],[],[],[],[0,1,7],none,[]⟩),(2,r0 [1,7,8]),(3,r0 [1,7,8,9]),(4,r0 [1,7,8,9,18]),(5,r0 [1,7,8,9]),(6,r0 [1,7,8,9,10,11]),(7,r0 [1,7,8,9,10,11,29]),(8,r0 [4,5,6]),(9,r0 [1,7,8,9]),(10,⟨[3],[],[],[],[1,7,8,9],none,[]⟩),(11,r0 [4,5,6])],[(4,[1,7,8,9])]⟩
noncomputable def f64_r0 (c:CallF):RF:=rg [0,1] <| aX 4 (pM (cn .nils))<|aX 5 (pM (cn (.int .i64 0)))<|aX 6 (pM (cn (.int .i64 0)))<|aXZ
noncomputable def f64_r1 (c:CallF):RF:=rg [0,1,7] <| aX 12 (fun n e M=>aLitO false n 27 3 [] M)<|aX 7 (pM 12)<|aXZ
noncomputable def f64_r2 (c:CallF):RF:=rg [1,7,8] <| aX 13 (pM 0)<|aX 14 (pK c false 65 [13])<|aX 8 (pAl 27 3)<|aX0 (pS 3 8 14)<|aXZ
noncomputable def f64_r3 (c:CallF):RF:=rg [1,7,8,9] <| aX 9 (pM (cn (.int .i64 0)))<|aXZ
noncomputable def f64_r4 (c:CallF):RF:=rg [1,7,8,9,18] <| aX 15 (pM 9)<|aX 16 (pM 1)<|aX 17 (pLen 28 16)<|aX 18 (pB .lss 3 15 17)<|aXZ
noncomputable def f64_r5 (c:CallF):RF:=rg [1,7,8,9] <| aX 19 (pM 9)<|aX 20 (pB .add 3 19 (cn (.int .i64 1)))<|aX 9 (pM 20)<|aXZ
noncomputable def f64_r6 (c:CallF):RF:=rg [1,7,8,9,10,11] <| aX 22 (pM 1)<|aX 23 (pM 9)<|aX 24 (pI 6 22 23)<|aX 25 (pK c false 78 [8,24])<|aX 21 (pM 25)<|aX 26 (pE 0 21)<|aX 27 (pE 1 21)<|aX 10 (pAl 27 3)<|aX0 (pS 3 10 26)<|aX 11 (pM 27)<|aXZ
noncomputable def f64_r7 (c:CallF):RF:=rg [1,7,8,9,10,11,29] <| aX 28 (pM 11)<|aX 29 (pB .neq 2 28 (cn (.int .i64 0)))<|aXZ
noncomputable def f64_r8 (c:CallF):RF:=rg [4,5,6] <| aX 30 (fun n e M=>keep (aLitI 27 3 [] M))<|aX 31 (pM 11)<|aX 32 (pM 9)<|aX 4 (pM 30)<|aX 5 (pM 31)<|aX 6 (pM 32)<|aXZ
noncomputable def f64_r9 (c:CallF):RF:=rg [1,7,8,9] <| aX 33 (pL true 3 10)<|aX0 (pS 3 8 33)<|aXZ
noncomputable def f64_r10 (c:CallF):RF:=rg [1,7,8,9] <| aX 34 (pM 7)<|aX 35 (pL true 3 8)<|aX 36 (fun n e M=>keep (aLitI 27 3 [(eget e 35)] M))<|aX 37 (fun n e M=>aAppO n 27 3 56 (eget e 34) (eget e 36) M)<|aX 7 (pM 37)<|aXZ
noncomputable def f64_r11 (c:CallF):RF:=rg [4,5,6] <| aX 38 (pM 7)<|aX 4 (pM 38)<|aX 5 (pM (cn (.int .i64 0)))<|aX 6 (pM (cn (.int .i64 0)))<|aXZ
noncomputable def f64_l4 (c:CallF) (k:Nat):St:=
 (bSeq (bSeq (bReg (f64_r4 c))
 (bCond (.tmp 18) (bEx .nrm) (bEx (.ext 0))))
 (bSeq (bBlock 1 (bSeq (bReg (f64_r6 c))
 (bSeq (bSeq (bReg (f64_r7 c))
 (bCond (.tmp 29) (bSeq (bReg (f64_r8 c))
 (bEx .ret)) (bEx .nrm)))
 (bSeq (bReg (f64_r9 c))
 (bReg (f64_r10 c))))))
 (bReg (f64_r5 c))))
noncomputable def f64 (c:CallF) (k:Nat):St:=
 (bSeq (bReg (f64_r0 c))
 (bSeq (bReg (f64_r1 c))
 (bSeq (bReg (f64_r2 c))
 (bSeq (bSeq (bReg (f64_r3 c))
 (bBlock 0 (bLoop [1,7,8,9] (f64_l4 c k) k)))
 (bSeq (bReg (f64_r11 c))
 (bEx .ret))))))
theorem f64_eq (c:CallF) (k:Nat):exec cx c 39 f64_an k (Try.f64.body.getD .skip)=f64 c k:=by kernel_rfl
def f65_an:Ann:=⟨[(0,r0 [0,2]),(1,⟨[17],[],[],[17],[2],none,[]⟩)],[]⟩
noncomputable def f65_r0 (c:CallF):RF:=rg [0,2] <| aX 2 (pAl 27 3)<|aXZ
noncomputable def f65_r1 (c:CallF):RF:=rgD [2] (aY 3 (pM 0)<|aY 4 (pN 3)<|aY 5 (pF 0 1 4)<|aY 6 (pL false 1 5)<|aY 7 (fun n e M=>keep (aLitI 2 1 [] M))<|aY 8 (pM 0)<|aY 9 (pN 8)<|aY 10 (pF 1 1 9)<|aY 11 (pL false 1 10)<|aY 12 (fun n e M=>aAppI 2 1 8 (eget e 7) (eget e 11) M)<|aY 13 (fun n e M=>keep (aLitI 49 5 [] M))<|aY 14 (pM 0)<|aY 15 (pN 14)<|aY 16 (pF 2 1 15)<|aY 17 (pL false 1 16)<|aY 18 (fun n e M=>aAppI 49 5 40 (eget e 13) (eget e 17) M)<|aY 19 (fun n e M=>keep (aBuild (zeroOf cx.P 27) [(0,1,(eget e 6)),(1,1,(eget e 12)),(2,1,(eget e 18))] M))<|aYZ)
 (aX0 (pSK 3 2 19)<|aXZ)
noncomputable def f65 (c:CallF) (k:Nat):St:=
 (bSeq (bReg (f65_r0 c))
 (bSeq (bReg (f65_r1 c))
 (bEx .ret)))
theorem f65_eq (c:CallF) (k:Nat):exec cx c 20 f65_an k (Try.f65.body.getD .skip)=f65 c k:=by kernel_rfl
def f66_an:Ann:=⟨[(0,r0 [1,2,3]),(1,r0 [1,2,3,8]),(2,r0 [1,2,3,8,19]),(3,r0 [6,7]),(4,r0 [1,2,3,9,10]),(5,r0 [1,2,3,9,10,28]),(6,r0 [6,7]),(7,r0 [1,2,3,38]),(8,r0 [6,7]),(9,⟨[0],[],[],[],[1,2,11,12],none,[]⟩),(10,r0 [2,11,12,43,44,45]),(11,r0 [2,11,12,43,44,45,46]),(12,r0 [2,11,12,13,14,43,44,45]),(13,r0 [2,11,12,13,14,43,44,45,68]),(14,⟨[3],[],[],[],[2,11,12,14,43,44,45],none,[]⟩),(15,r0 [2,11,12,43,44,45,75]),(16,r0 [2,11,12,43,44,45]),(17,r0 [2,11,12,43,44,45]),(18,r0 [6,7])],[(11,[2,11,12,43,44,45])]⟩
noncomputable def f66_r0 (c:CallF):RF:=rg [1,2,3] <| aX 3 (pBox 3 0)<|aX 6 (pM (cn .nils))<|aX 7 (pM (cn (.int .i64 0)))<|aXZ
noncomputable def f66_r1 (c:CallF):RF:=rg [1,2,3,8] <| aX 15 (pL true 3 3)<|aX 16 (pM 1)<|aX 17 (pK c false 52 [15,16])<|aX 8 (pM 17)<|aXZ
noncomputable def f66_r2 (c:CallF):RF:=rg [1,2,3,8,19] <| aX 18 (pM 8)<|aX 19 (pB .neq 2 18 (cn (.int .i64 0)))<|aXZ
noncomputable def f66_r3 (c:CallF):RF:=rg [6,7] <| aX 20 (pM 8)<|aX 6 (pM (cn .nils))<|aX 7 (pM 20)<|aXZ
noncomputable def f66_r4 (c:CallF):RF:=rg [1,2,3,9,10] <| aX 22 (pL true 3 3)<|aX 23 (pM 1)<|aX 24 (pK c false 58 [22,23])<|aX 21 (pM 24)<|aX 25 (pE 0 21)<|aX 26 (pE 1 21)<|aX 9 (pAl 27 3)<|aX0 (pS 3 9 25)<|aX 10 (pM 26)<|aXZ
noncomputable def f66_r5 (c:CallF):RF:=rg [1,2,3,9,10,28] <| aX 27 (pM 10)<|aX 28 (pB .neq 2 27 (cn (.int .i64 0)))<|aXZ
noncomputable def f66_r6 (c:CallF):RF:=rg [6,7] <| aX 29 (pM 10)<|aX 6 (pM (cn .nils))<|aX 7 (pM 29)<|aXZ
noncomputable def f66_r7 (c:CallF):RF:=rg [1,2,3,38] <| aX 30 (pM 2)<|aX 31 (pB .lss 2 30 (cn (.int .i64 0)))<|aX 32 (pM 31)<|aX 33 (pG 32 false (pM 2))<|aX 34 (pG 32 false (pF 2 1 9))<|aX 35 (pG 32 false (pL false 1 34))<|aX 36 (pG 32 false (pLen 25 35))<|aX 37 (pG 32 false (pB .geq 2 33 36))<|aX 38 (pP 32 (cn (.bool true)) 37)<|aXZ
noncomputable def f66_r8 (c:CallF):RF:=rg [6,7] <| aX 6 (pM (cn .nils))<|aX 7 (pM (cn (.int .i64 6)))<|aXZ
noncomputable def f66_r9 (c:CallF):RF:=rgD [1,2,11,12] (aY 39 (fun n e M=>aLitO false n 2 1 [] M)<|aY 40 (pF 2 1 3)<|aY 41 (pL false 1 40)<|aY 42 (pLen 25 41)<|aY 11 (pM 39)<|aY 12 (pM 42)<|aYZ)
 (aXZ)
noncomputable def f66_r10 (c:CallF):RF:=rg [2,11,12,43,44,45] <| aX 43 (pM 1)<|aX 44 (pLen 28 43)<|aX 45 (pM (cn (.int .i64 0)))<|aXZ
noncomputable def f66_r11 (c:CallF):RF:=rg [2,11,12,43,44,45,46] <| aX 46 (pB .lss 3 45 44)<|aXZ
noncomputable def f66_r12 (c:CallF):RF:=rg [2,11,12,13,14,43,44,45] <| aX 47 (pM 45)<|aX 48 (pI 6 43 45)<|aX 49 (pL true 6 48)<|aX 14 (pAl 36 6)<|aX 13 (pM 47)<|aX0 (pS 6 14 49)<|aXZ
noncomputable def f66_r13 (c:CallF):RF:=rg [2,11,12,13,14,43,44,45,68] <| aX 50 (pF 1 1 14)<|aX 51 (pL false 1 50)<|aX 52 (pB .eql 34 51 (cn (.int .i8 1)))<|aX 53 (pM 52)<|aX 54 (pG 53 true (pM 12))<|aX 55 (pG 53 true (pM 2))<|aX 56 (pG 53 true (pB .eql 2 54 55))<|aX 57 (pP 53 56 (cn (.bool false)))<|aX 58 (pM 57)<|aX 59 (pG 58 false (pF 1 1 14))<|aX 60 (pG 58 false (pL false 1 59))<|aX 61 (pG 58 false (pB .neq 34 60 (cn (.int .i8 1))))<|aX 62 (pG 58 false (pM 61))<|aX 63 (pG 62 true (pF 2 1 14))<|aX 64 (pG 62 true (pL false 1 63))<|aX 65 (pG 62 true (pM 2))<|aX 66 (pG 62 true (pB .eql 2 64 65))<|aX 67 (pG 58 false (pP 62 66 (cn (.bool false))))<|aX 68 (pP 58 (cn (.bool true)) 67)<|aXZ
noncomputable def f66_r14 (c:CallF):RF:=rg [2,11,12,14,43,44,45] <| aX 69 (pM 11)<|aX 70 (pM 13)<|aX 71 (fun n e M=>keep (aLitI 2 1 [(eget e 70)] M))<|aX 72 (fun n e M=>aAppO n 2 1 8 (eget e 69) (eget e 71) M)<|aX 11 (pM 72)<|aXZ
noncomputable def f66_r15 (c:CallF):RF:=rg [2,11,12,43,44,45,75] <| aX 73 (pF 1 1 14)<|aX 74 (pL false 1 73)<|aX 75 (pB .eql 34 74 (cn (.int .i8 1)))<|aXZ
noncomputable def f66_r16 (c:CallF):RF:=rg [2,11,12,43,44,45] <| aX 76 (pM 12)<|aX 77 (pB .add 2 76 (cn (.int .i64 1)))<|aX 12 (pM 77)<|aXZ
noncomputable def f66_r17 (c:CallF):RF:=rg [2,11,12,43,44,45] <| aX 78 (pB .add 3 45 (cn (.int .i64 1)))<|aX 45 (pM 78)<|aXZ
noncomputable def f66_r18 (c:CallF):RF:=rg [6,7] <| aX 79 (pM 11)<|aX 6 (pM 79)<|aX 7 (pM (cn (.int .i64 0)))<|aXZ
noncomputable def f66_l11 (c:CallF) (k:Nat):St:=
 (bSeq (bReg (f66_r11 c))
 (bSeq (bCond (.tmp 46) (bEx .nrm) (bEx (.ext 0)))
 (bSeq (bBlock 1 (bSeq (bReg (f66_r12 c))
 (bSeq (bSeq (bReg (f66_r13 c))
 (bCond (.tmp 68) (bReg (f66_r14 c)) (bEx .nrm)))
 (bSeq (bReg (f66_r15 c))
 (bCond (.tmp 75) (bReg (f66_r16 c)) (bEx .nrm))))))
 (bReg (f66_r17 c)))))
noncomputable def f66 (c:CallF) (k:Nat):St:=
 (bSeq (bReg (f66_r0 c))
 (bSeq (bSeq (bReg (f66_r1 c))
 (bSeq (bReg (f66_r2 c))
 (bCond (.tmp 19) (bSeq (bReg (f66_r3 c))
 (bEx .ret)) (bEx .nrm))))
 (bSeq (bReg (f66_r4 c))
 (bSeq (bSeq (bReg (f66_r5 c))
 (bCond (.tmp 28) (bSeq (bReg (f66_r6 c))
 (bEx .ret)) (bEx .nrm)))
 (bSeq (bSeq (bReg (f66_r7 c))
 (bCond (.tmp 38) (bSeq (bReg (f66_r8 c))
 (bEx .ret)) (bEx .nrm)))
 (bSeq (bReg (f66_r9 c))
 (bSeq (bSeq (bReg (f66_r10 c))
 (bBlock 0 (bLoop [2,11,12,43,44,45] (f66_l11 c k) k)))
 (bSeq (bReg (f66_r18 c))
 (bEx .ret)))))))))
theorem f66_eq (c:CallF) (k:Nat):exec cx c 80 f66_an k (Try.f66.body.getD .skip)=f66 c k:=by kernel_rfl
def f67_an:Ann:=⟨[(0,r0 [0,1,2]),(1,r0 [0,1,2,8]),(2,r0 [0,1,2,8,16]),(3,r0 [6,7]),(4,r0 [0,2,9,10]),(5,r0 [0,2,9,10,27]),(6,r0 [6,7]),(7,r0 [2,9]),(8,r0 [9,46]),(9,r0 [6,7]),(10,r0 [6,7])],[]⟩
noncomputable def f67_r0 (c:CallF):RF:=rg [0,1,2] <| aX 6 (pM (cn .nils))<|aX 7 (pM (cn (.int .i64 0)))<|aXZ
noncomputable def f67_r1 (c:CallF):RF:=rg [0,1,2,8] <| aX 12 (pM 0)<|aX 13 (pM 1)<|aX 14 (pK c false 55 [12,13])<|aX 8 (pM 14)<|aXZ
noncomputable def f67_r2 (c:CallF):RF:=rg [0,1,2,8,16] <| aX 15 (pM 8)<|aX 16 (pB .neq 2 15 (cn (.int .i64 0)))<|aXZ
noncomputable def f67_r3 (c:CallF):RF:=rg [6,7] <| aX 17 (fun n e M=>keep (aLitI 27 3 [] M))<|aX 18 (pM 8)<|aX 6 (pM 17)<|aX 7 (pM 18)<|aXZ
noncomputable def f67_r4 (c:CallF):RF:=rg [0,2,9,10] <| aX 20 (pM 0)<|aX 21 (pM 1)<|aX 22 (pK c false 64 [20,21])<|aX 19 (pM 22)<|aX 23 (pE 0 19)<|aX 24 (pE 1 19)<|aX 25 (pE 2 19)<|aX 9 (pM 23)<|aX 10 (pM 24)<|aX 11 (pM 25)<|aXZ
noncomputable def f67_r5 (c:CallF):RF:=rg [0,2,9,10,27] <| aX 26 (pM 10)<|aX 27 (pB .neq 2 26 (cn (.int .i64 0)))<|aXZ
noncomputable def f67_r6 (c:CallF):RF:=rg [6,7] <| aX 28 (fun n e M=>keep (aLitI 27 3 [] M))<|aX 29 (pM 10)<|aX 6 (pM 28)<|aX 7 (pM 29)<|aXZ
noncomputable def f67_r7 (c:CallF):RF:=rg [2,9] <| aX 30 (pM 0)<|aX 31 (pK c false 65 [30])<|aX 32 (fun n e M=>keep (aLitI 27 3 [(eget e 31)] M))<|aX 33 (pM 9)<|aX 34 (fun n e M=>aAppI 27 3 56 (eget e 32) (eget e 33) M)<|aX 9 (pM 34)<|aXZ
noncomputable def f67_r8 (c:CallF):RF:=rg [9,46] <| aX 35 (pM 2)<|aX 36 (pM 9)<|aX 37 (pM 9)<|aX 38 (pLen 94 37)<|aX 39 (pB .sub 3 38 (cn (.int .i64 1)))<|aX 40 (pI 3 36 39)<|aX 41 (pF 2 1 40)<|aX 42 (pL false 1 41)<|aX 43 (pLen 25 42)<|aX 44 (pB .sub 2 43 (cn (.int .i64 1)))<|aX 45 (pK c false 90 [35,(cn (.int .i64 0)),44])<|aX 46 (pU .not 45)<|aXZ
noncomputable def f67_r9 (c:CallF):RF:=rg [6,7] <| aX 47 (fun n e M=>keep (aLitI 27 3 [] M))<|aX 6 (pM 47)<|aX 7 (pM (cn (.int .i64 6)))<|aXZ
noncomputable def f67_r10 (c:CallF):RF:=rg [6,7] <| aX 48 (pM 9)<|aX 6 (pM 48)<|aX 7 (pM (cn (.int .i64 0)))<|aXZ
noncomputable def f67 (c:CallF) (k:Nat):St:=
 (bSeq (bReg (f67_r0 c))
 (bSeq (bSeq (bReg (f67_r1 c))
 (bSeq (bReg (f67_r2 c))
 (bCond (.tmp 16) (bSeq (bReg (f67_r3 c))
 (bEx .ret)) (bEx .nrm))))
 (bSeq (bReg (f67_r4 c))
 (bSeq (bSeq (bReg (f67_r5 c))
 (bCond (.tmp 27) (bSeq (bReg (f67_r6 c))
 (bEx .ret)) (bEx .nrm)))
 (bSeq (bReg (f67_r7 c))
 (bSeq (bSeq (bReg (f67_r8 c))
 (bCond (.tmp 46) (bSeq (bReg (f67_r9 c))
 (bEx .ret)) (bEx .nrm)))
 (bSeq (bReg (f67_r10 c))
 (bEx .ret))))))))
theorem f67_eq (c:CallF) (k:Nat):exec cx c 49 f67_an k (Try.f67.body.getD .skip)=f67 c k:=by kernel_rfl
def f68_an:Ann:=⟨[(0,r0 [0,1,2]),(1,⟨[0],[],[],[],[0,1,2,7],none,[]⟩),(2,r0 [1,2,7,8]),(3,r0 [1,2,7,8,9]),(4,r0 [1,2,7,8,9,20]),(5,r0 [1,2,7,8,9]),(6,r0 [1,2,7,8,9,10]),(7,r0 [1,2,7,8,9,10,33]),(8,r0 [1,2,7,8,9,10]),(9,r0 [1,2,7,8,9,10]),(10,r0 [1,2,7,8,9,39]),(11,⟨[3],[],[],[],[1,2,7,8,9],none,[]⟩),(12,r0 [6])],[(4,[1,2,7,8,9])]⟩
noncomputable def f68_r0 (c:CallF):RF:=rg [0,1,2] <| aX 6 (pM (cn .nils))<|aXZ
noncomputable def f68_r1 (c:CallF):RF:=rg [0,1,2,7] <| aX 11 (fun n e M=>aLitO false n 2 1 [] M)<|aX 7 (pM 11)<|aXZ
noncomputable def f68_r2 (c:CallF):RF:=rg [1,2,7,8] <| aX 12 (pM 0)<|aX 13 (pN 12)<|aX 14 (pF 2 1 13)<|aX 15 (pL false 1 14)<|aX 16 (pLen 25 15)<|aX 8 (pM 16)<|aXZ
noncomputable def f68_r3 (c:CallF):RF:=rg [1,2,7,8,9] <| aX 9 (pM (cn (.int .i64 0)))<|aXZ
noncomputable def f68_r4 (c:CallF):RF:=rg [1,2,7,8,9,20] <| aX 17 (pM 9)<|aX 18 (pM 1)<|aX 19 (pLen 28 18)<|aX 20 (pB .lss 3 17 19)<|aXZ
noncomputable def f68_r5 (c:CallF):RF:=rg [1,2,7,8,9] <| aX 21 (pM 9)<|aX 22 (pB .add 3 21 (cn (.int .i64 1)))<|aX 9 (pM 22)<|aXZ
noncomputable def f68_r6 (c:CallF):RF:=rg [1,2,7,8,9,10] <| aX 23 (pM 1)<|aX 24 (pM 9)<|aX 25 (pI 6 23 24)<|aX 26 (pF 2 1 25)<|aX 27 (pL false 1 26)<|aX 10 (pM 27)<|aXZ
noncomputable def f68_r7 (c:CallF):RF:=rg [1,2,7,8,9,10,33] <| aX 28 (pM 1)<|aX 29 (pM 9)<|aX 30 (pI 6 28 29)<|aX 31 (pF 1 1 30)<|aX 32 (pL false 1 31)<|aX 33 (pB .eql 34 32 (cn (.int .i8 1)))<|aXZ
noncomputable def f68_r8 (c:CallF):RF:=rg [1,2,7,8,9,10] <| aX 34 (pM 8)<|aX 10 (pM 34)<|aXZ
noncomputable def f68_r9 (c:CallF):RF:=rg [1,2,7,8,9,10] <| aX 35 (pM 8)<|aX 36 (pB .add 2 35 (cn (.int .i64 1)))<|aX 8 (pM 36)<|aXZ
noncomputable def f68_r10 (c:CallF):RF:=rg [1,2,7,8,9,39] <| aX 37 (pM 10)<|aX 38 (pM 2)<|aX 39 (pB .eql 2 37 38)<|aXZ
noncomputable def f68_r11 (c:CallF):RF:=rg [1,2,7,8,9] <| aX 40 (pM 7)<|aX 41 (pM 9)<|aX 42 (fun n e M=>keep (aLitI 2 1 [(eget e 41)] M))<|aX 43 (fun n e M=>aAppO n 2 1 8 (eget e 40) (eget e 42) M)<|aX 7 (pM 43)<|aXZ
noncomputable def f68_r12 (c:CallF):RF:=rg [6] <| aX 44 (pM 7)<|aX 6 (pM 44)<|aXZ
noncomputable def f68_l4 (c:CallF) (k:Nat):St:=
 (bSeq (bSeq (bReg (f68_r4 c))
 (bCond (.tmp 20) (bEx .nrm) (bEx (.ext 0))))
 (bSeq (bBlock 1 (bSeq (bReg (f68_r6 c))
 (bSeq (bSeq (bReg (f68_r7 c))
 (bCond (.tmp 33) (bSeq (bReg (f68_r8 c))
 (bReg (f68_r9 c))) (bEx .nrm)))
 (bSeq (bReg (f68_r10 c))
 (bCond (.tmp 39) (bReg (f68_r11 c)) (bEx .nrm))))))
 (bReg (f68_r5 c))))
noncomputable def f68 (c:CallF) (k:Nat):St:=
 (bSeq (bReg (f68_r0 c))
 (bSeq (bReg (f68_r1 c))
 (bSeq (bReg (f68_r2 c))
 (bSeq (bSeq (bReg (f68_r3 c))
 (bBlock 0 (bLoop [1,2,7,8,9] (f68_l4 c k) k)))
 (bSeq (bReg (f68_r12 c))
 (bEx .ret))))))
theorem f68_eq (c:CallF) (k:Nat):exec cx c 45 f68_an k (Try.f68.body.getD .skip)=f68 c k:=by kernel_rfl
def f69_an:Ann:=⟨[(0,r0 [0,1,2,3,4,5,9]),(1,⟨[],[],[],[9],[0,1,2,4,5],none,[]⟩),(2,r0 [0,1,2,4]),(3,r0 [1,4]),(4,r0 [])],[]⟩
noncomputable def f69_r0 (c:CallF):RF:=rg [0,1,2,3,4,5,9] <| aX 8 (pL false 1 2)<|aX 9 (pB .geq 2 8 (cn (.int .i64 0)))<|aXZ
noncomputable def f69_r1 (c:CallF):RF:=rgD [0,1,2,4,5] (aY 10 (pL false 1 3)<|aY 11 (pL false 1 2)<|aY 12 (pI 1 10 11)<|aY 13 (pL false 1 12)<|aY 14 (pM 1)<|aY 15 (pL false 1 4)<|aY 16 (pB .sub 2 14 15)<|aY 17 (pB .add 2 13 16)<|aY 18 (pI 1 10 11)<|aYZ)
 (aX0 (pS 1 18 17)<|aXZ)
noncomputable def f69_r2 (c:CallF):RF:=rg [0,1,2,4] <| aX 19 (pL false 1 5)<|aX 20 (pL false 1 2)<|aX 21 (pI 1 19 20)<|aX0 (pS 1 21 (cn (.bool true)))<|aXZ
noncomputable def f69_r3 (c:CallF):RF:=rg [1,4] <| aX 22 (pM 0)<|aX0 (pS 1 2 22)<|aXZ
noncomputable def f69_r4 (c:CallF):RF:=rg [] <| aX 23 (pM 1)<|aX0 (pS 1 4 23)<|aXZ
noncomputable def f69 (c:CallF) (k:Nat):St:=
 (bSeq (bSeq (bReg (f69_r0 c))
 (bCond (.tmp 9) (bSeq (bReg (f69_r1 c))
 (bReg (f69_r2 c))) (bEx .nrm)))
 (bSeq (bReg (f69_r3 c))
 (bReg (f69_r4 c))))
theorem f69_eq (c:CallF) (k:Nat):exec cx c 24 f69_an k (Try.f69.body.getD .skip)=f69 c k:=by kernel_rfl
def f70_an:Ann:=⟨[(0,r0 [0,1,2]),(1,r0 [0,1,2,7]),(2,r0 [0,1,2,7,11]),(3,r0 [0,1,2,7]),(4,r0 [0,1,2,7,34]),(5,r0 [0,1,2,7]),(6,r0 [6])],[(2,[0,1,2,7])]⟩
noncomputable def f70_r0 (c:CallF):RF:=rg [0,1,2] <| aX 6 (pM (cn (.int .i64 0)))<|aXZ
noncomputable def f70_r1 (c:CallF):RF:=rg [0,1,2,7] <| aX 7 (pM (cn (.int .i64 0)))<|aXZ
noncomputable def f70_r2 (c:CallF):RF:=rg [0,1,2,7,11] <| aX 8 (pM 7)<|aX 9 (pM 0)<|aX 10 (pLen 94 9)<|aX 11 (pB .lss 3 8 10)<|aXZ
noncomputable def f70_r3 (c:CallF):RF:=rg [0,1,2,7] <| aX 12 (pM 7)<|aX 13 (pB .add 3 12 (cn (.int .i64 1)))<|aX 7 (pM 13)<|aXZ
noncomputable def f70_r4 (c:CallF):RF:=rg [0,1,2,7,34] <| aX 14 (pM 1)<|aX 15 (pM 0)<|aX 16 (pM 7)<|aX 17 (pI 3 15 16)<|aX 18 (pF 2 1 17)<|aX 19 (pL false 1 18)<|aX 20 (pLen 25 19)<|aX 21 (pB .lss 2 14 20)<|aX 22 (pM 21)<|aX 23 (pG 22 true (pM 0))<|aX 24 (pG 22 true (pM 7))<|aX 25 (pG 22 true (pI 3 23 24))<|aX 26 (pG 22 true (pF 2 1 25))<|aX 27 (pG 22 true (pL false 1 26))<|aX 28 (pG 22 true (pM 1))<|aX 29 (pG 22 true (pI 5 27 28))<|aX 30 (pG 22 true (pF 1 1 29))<|aX 31 (pG 22 true (pL false 1 30))<|aX 32 (pG 22 true (pM 2))<|aX 33 (pG 22 true (pB .lss 3 31 32))<|aX 34 (pP 22 33 (cn (.bool false)))<|aXZ
noncomputable def f70_r5 (c:CallF):RF:=rg [0,1,2,7] <| aX 35 (pM 0)<|aX 36 (pM 7)<|aX 37 (pI 3 35 36)<|aX 38 (pF 2 1 37)<|aX 39 (pL false 1 38)<|aX 40 (pM 1)<|aX 41 (pI 5 39 40)<|aX 42 (pF 1 1 41)<|aX 43 (pL false 1 42)<|aX 2 (pM 43)<|aXZ
noncomputable def f70_r6 (c:CallF):RF:=rg [6] <| aX 44 (pM 2)<|aX 6 (pM 44)<|aXZ
noncomputable def f70_l2 (c:CallF) (k:Nat):St:=
 (bSeq (bSeq (bReg (f70_r2 c))
 (bCond (.tmp 11) (bEx .nrm) (bEx (.ext 0))))
 (bSeq (bBlock 1 (bSeq (bReg (f70_r4 c))
 (bCond (.tmp 34) (bReg (f70_r5 c)) (bEx .nrm))))
 (bReg (f70_r3 c))))
noncomputable def f70 (c:CallF) (k:Nat):St:=
 (bSeq (bReg (f70_r0 c))
 (bSeq (bSeq (bReg (f70_r1 c))
 (bBlock 0 (bLoop [0,1,2,7] (f70_l2 c k) k)))
 (bSeq (bReg (f70_r6 c))
 (bEx .ret))))
theorem f70_eq (c:CallF) (k:Nat):exec cx c 45 f70_an k (Try.f70.body.getD .skip)=f70 c k:=by kernel_rfl
def f71_an:Ann:=⟨[(0,⟨[0],[],[],[],[1,2],none,[]⟩),(1,⟨[0],[],[],[],[1,2,6],none,[]⟩),(2,r0 [2,6,12,13,14]),(3,r0 [2,6,12,13,14,15]),(4,r0 [2,6,8,12,13,14]),(5,r0 [2,6,9,10,12,13,14]),(6,r0 [2,6,9,10,12,13,14,25]),(7,r0 [4,5]),(8,r0 [2,6,12,13,14]),(9,⟨[3],[],[],[],[2,6,12,13,14],none,[]⟩),(10,r0 [2,6,12,13,14]),(11,r0 [4,5])],[(3,[2,6,12,13,14])]⟩
noncomputable def f71_r0 (c:CallF):RF:=rg [1,2] <| aX 2 (fun n e M=>aBoxO n 27 3 (eget e 0) M)<|aX 4 (pM (cn .nils))<|aX 5 (pM (cn (.int .i64 0)))<|aXZ
noncomputable def f71_r1 (c:CallF):RF:=rg [1,2,6] <| aX 11 (fun n e M=>aLitO false n 27 3 [] M)<|aX 6 (pM 11)<|aXZ
noncomputable def f71_r2 (c:CallF):RF:=rg [2,6,12,13,14] <| aX 12 (pM 1)<|aX 13 (pLen 28 12)<|aX 14 (pM (cn (.int .i64 0)))<|aXZ
noncomputable def f71_r3 (c:CallF):RF:=rg [2,6,12,13,14,15] <| aX 15 (pB .lss 3 14 13)<|aXZ
noncomputable def f71_r4 (c:CallF):RF:=rg [2,6,8,12,13,14] <| aX 16 (pI 6 12 14)<|aX 17 (pL true 6 16)<|aX 8 (pAl 36 6)<|aX0 (pS 6 8 17)<|aXZ
noncomputable def f71_r5 (c:CallF):RF:=rg [2,6,9,10,12,13,14] <| aX 19 (pL true 3 2)<|aX 20 (pL true 6 8)<|aX 21 (pK c false 75 [19,20])<|aX 18 (pM 21)<|aX 22 (pE 0 18)<|aX 23 (pE 1 18)<|aX 9 (pAl 27 3)<|aX0 (pS 3 9 22)<|aX 10 (pM 23)<|aXZ
noncomputable def f71_r6 (c:CallF):RF:=rg [2,6,9,10,12,13,14,25] <| aX 24 (pM 10)<|aX 25 (pB .neq 2 24 (cn (.int .i64 0)))<|aXZ
noncomputable def f71_r7 (c:CallF):RF:=rg [4,5] <| aX 26 (pM 6)<|aX 27 (pM 10)<|aX 4 (pM 26)<|aX 5 (pM 27)<|aXZ
noncomputable def f71_r8 (c:CallF):RF:=rg [2,6,12,13,14] <| aX 28 (pL true 3 9)<|aX0 (pS 3 2 28)<|aXZ
noncomputable def f71_r9 (c:CallF):RF:=rg [2,6,12,13,14] <| aX 29 (pM 6)<|aX 30 (pL true 3 2)<|aX 31 (fun n e M=>keep (aLitI 27 3 [(eget e 30)] M))<|aX 32 (fun n e M=>aAppO n 27 3 56 (eget e 29) (eget e 31) M)<|aX 6 (pM 32)<|aXZ
noncomputable def f71_r10 (c:CallF):RF:=rg [2,6,12,13,14] <| aX 33 (pB .add 3 14 (cn (.int .i64 1)))<|aX 14 (pM 33)<|aXZ
noncomputable def f71_r11 (c:CallF):RF:=rg [4,5] <| aX 34 (pM 6)<|aX 4 (pM 34)<|aX 5 (pM (cn (.int .i64 0)))<|aXZ
noncomputable def f71_l3 (c:CallF) (k:Nat):St:=
 (bSeq (bReg (f71_r3 c))
 (bSeq (bCond (.tmp 15) (bEx .nrm) (bEx (.ext 0)))
 (bSeq (bBlock 1 (bSeq (bReg (f71_r4 c))
 (bSeq (bReg (f71_r5 c))
 (bSeq (bSeq (bReg (f71_r6 c))
 (bCond (.tmp 25) (bSeq (bReg (f71_r7 c))
 (bEx .ret)) (bEx .nrm)))
 (bSeq (bReg (f71_r8 c))
 (bReg (f71_r9 c)))))))
 (bReg (f71_r10 c)))))
noncomputable def f71 (c:CallF) (k:Nat):St:=
 (bSeq (bReg (f71_r0 c))
 (bSeq (bReg (f71_r1 c))
 (bSeq (bSeq (bReg (f71_r2 c))
 (bBlock 0 (bLoop [2,6,12,13,14] (f71_l3 c k) k)))
 (bSeq (bReg (f71_r11 c))
 (bEx .ret)))))
theorem f71_eq (c:CallF) (k:Nat):exec cx c 35 f71_an k (Try.f71.body.getD .skip)=f71 c k:=by kernel_rfl
def f74_an:Ann:=⟨[(0,r0 [0]),(1,r0 [2])],[]⟩
noncomputable def f74_r0 (c:CallF):RF:=rg [0] <| aX 2 (pM (cn (.bool false)))<|aXZ
noncomputable def f74_r1 (c:CallF):RF:=rg [2] <| aX 3 (pM 0)<|aX 4 (pB .geq 2 3 (cn (.int .i64 0)))<|aX 5 (pM 4)<|aX 6 (pG 5 true (pM 0))<|aX 7 (pG 5 true (pB .leq 2 6 (cn (.int .i64 100000000))))<|aX 8 (pP 5 7 (cn (.bool false)))<|aX 2 (pM 8)<|aXZ
noncomputable def f74 (c:CallF) (k:Nat):St:=
 (bSeq (bReg (f74_r0 c))
 (bSeq (bReg (f74_r1 c))
 (bEx .ret)))
theorem f74_eq (c:CallF) (k:Nat):exec cx c 9 f74_an k (Try.f74.body.getD .skip)=f74 c k:=by kernel_rfl
def f75_an:Ann:=⟨[(0,⟨[0],[],[],[],[2,3,4],none,[]⟩),(1,r0 [2,3,4,16]),(2,r0 [4,5]),(3,r0 [2,3,4,6,7,8]),(4,r0 [2,3,4,6,7,8,10]),(5,r0 [2,3,4,7,8,55]),(6,r0 [4,5]),(7,r0 [2,3,4,7,67]),(8,r0 [4,5]),(9,⟨[],[1],[],[],[2,3,4,7],none,[]⟩),(10,r0 [2,3,4,7]),(11,r0 [2,3,4,7,76]),(12,r0 [2,3,4,80]),(13,r0 [4,5]),(14,⟨[14],[],[],[],[2,4],none,[]⟩),(15,r0 [4,5]),(16,r0 [2,3,4,7,11]),(17,r0 [2,3,4,11,134]),(18,r0 [4,5]),(19,r0 [2,3,4,11,137]),(20,r0 [2,3,4,11,137,138]),(21,r0 [2,3,4,11]),(22,r0 [2,4,11,151]),(23,r0 [2,4]),(24,r0 [2,3,4,11,137,155]),(25,r0 [2,3,4,11,167]),(26,r0 [4,5]),(27,⟨[],[],[],[12],[2,3,4,11],none,[]⟩),(28,⟨[],[],[],[12],[2,3,4,11],none,[]⟩),(29,⟨[],[],[],[9],[2,4,11],none,[]⟩),(30,r0 [2,4,210]),(31,r0 [4,5]),(32,r0 [2,4,11,212]),(33,r0 [2,4]),(34,r0 [4,5])],[]⟩
noncomputable def f75_r0 (c:CallF):RF:=rg [2,3,4] <| aX 2 (fun n e M=>aBoxO n 27 3 (eget e 0) M)<|aX 3 (pBox 6 1)<|aX 4 (pAl 27 3)<|aX 5 (pM (cn (.int .i64 0)))<|aXZ
noncomputable def f75_r1 (c:CallF):RF:=rg [2,3,4,16] <| aX 12 (pF 0 1 3)<|aX 13 (pL false 1 12)<|aX 14 (pF 0 1 2)<|aX 15 (pL false 1 14)<|aX 16 (pB .lss 2 13 15)<|aXZ
noncomputable def f75_r2 (c:CallF):RF:=rg [4,5] <| aX 17 (fun n e M=>keep (aBuild (zeroOf cx.P 27) [] M))<|aX0 (pS 3 4 17)<|aX 5 (pM (cn (.int .i64 4)))<|aXZ
noncomputable def f75_r3 (c:CallF):RF:=rg [2,3,4,6,7,8] <| aX 19 (pF 1 1 3)<|aX 20 (pL false 1 19)<|aX 21 (pK c false 80 [20])<|aX 18 (pM 21)<|aX 22 (pE 0 18)<|aX 23 (pE 1 18)<|aX 24 (pE 2 18)<|aX 25 (pE 3 18)<|aX 6 (pM 22)<|aX 7 (pM 23)<|aX 8 (pM 24)<|aX 9 (pM 25)<|aXZ
noncomputable def f75_r4 (c:CallF):RF:=rg [2,3,4,6,7,8,10] <| aX 26 (pF 1 1 2)<|aX 27 (pL false 1 26)<|aX 28 (pLen 24 27)<|aX 10 (pM 28)<|aXZ
noncomputable def f75_r5 (c:CallF):RF:=rg [2,3,4,7,8,55] <| aX 29 (pM 7)<|aX 30 (pM 29)<|aX 31 (pG 30 true (pF 3 1 3))<|aX 32 (pG 30 true (pL false 1 31))<|aX 33 (pG 30 true (pM 10))<|aX 34 (pG 30 true (pB .geq 2 32 33))<|aX 35 (pP 30 34 (cn (.bool false)))<|aX 36 (pM 35)<|aX 37 (pG 36 false (pM 8))<|aX 38 (pG 36 false (pM 37))<|aX 39 (pG 38 true (pF 4 1 3))<|aX 40 (pG 38 true (pL false 1 39))<|aX 41 (pG 38 true (pM 10))<|aX 42 (pG 38 true (pB .geq 2 40 41))<|aX 43 (pG 36 false (pP 38 42 (cn (.bool false))))<|aX 44 (pP 36 (cn (.bool true)) 43)<|aX 45 (pM 44)<|aX 46 (pG 45 false (pM 6))<|aX 47 (pG 45 false (pM 46))<|aX 48 (pG 47 true (pF 2 1 3))<|aX 49 (pG 47 true (pL false 1 48))<|aX 50 (pG 47 true (pF 2 1 2))<|aX 51 (pG 47 true (pL false 1 50))<|aX 52 (pG 47 true (pLen 25 51))<|aX 53 (pG 47 true (pB .geq 2 49 52))<|aX 54 (pG 45 false (pP 47 53 (cn (.bool false))))<|aX 55 (pP 45 (cn (.bool true)) 54)<|aXZ
noncomputable def f75_r6 (c:CallF):RF:=rg [4,5] <| aX 56 (fun n e M=>keep (aBuild (zeroOf cx.P 27) [] M))<|aX0 (pS 3 4 56)<|aX 5 (pM (cn (.int .i64 2)))<|aXZ
noncomputable def f75_r7 (c:CallF):RF:=rg [2,3,4,7,67] <| aX 57 (pM 7)<|aX 58 (pM 57)<|aX 59 (pG 58 true (pM 8))<|aX 60 (pP 58 59 (cn (.bool false)))<|aX 61 (pM 60)<|aX 62 (pG 61 true (pF 3 1 3))<|aX 63 (pG 61 true (pL false 1 62))<|aX 64 (pG 61 true (pF 4 1 3))<|aX 65 (pG 61 true (pL false 1 64))<|aX 66 (pG 61 true (pB .eql 2 63 65))<|aX 67 (pP 61 66 (cn (.bool false)))<|aXZ
noncomputable def f75_r8 (c:CallF):RF:=rg [4,5] <| aX 68 (fun n e M=>keep (aBuild (zeroOf cx.P 27) [] M))<|aX0 (pS 3 4 68)<|aX 5 (pM (cn (.int .i64 4)))<|aXZ
noncomputable def f75_r9 (c:CallF):RF:=rg [2,3,4,7] <| aX 69 (pL true 3 2)<|aX 70 (pK c true 110 [69])<|aX0 (pS 3 2 70)<|aXZ
noncomputable def f75_r10 (c:CallF):RF:=rg [2,3,4,7] <| aX 71 (pF 0 1 3)<|aX 72 (pL false 1 71)<|aX 73 (pF 0 1 2)<|aX0 (pS 1 73 72)<|aXZ
noncomputable def f75_r11 (c:CallF):RF:=rg [2,3,4,7,76] <| aX 74 (pF 1 1 3)<|aX 75 (pL false 1 74)<|aX 76 (pB .eql 34 75 (cn (.int .i8 1)))<|aXZ
noncomputable def f75_r12 (c:CallF):RF:=rg [2,3,4,80] <| aX 77 (pF 2 1 2)<|aX 78 (pL false 1 77)<|aX 79 (pLen 25 78)<|aX 80 (pB .eql 3 79 (cn (.int .i64 40)))<|aXZ
noncomputable def f75_r13 (c:CallF):RF:=rg [4,5] <| aX 81 (fun n e M=>keep (aBuild (zeroOf cx.P 27) [] M))<|aX0 (pS 3 4 81)<|aX 5 (pM (cn (.int .i64 3)))<|aXZ
noncomputable def f75_r14 (c:CallF):RF:=rg [2,4] <| aX 82 (pF 2 1 2)<|aX 83 (pL false 1 82)<|aX 84 (pF 3 1 3)<|aX 85 (pL false 1 84)<|aX 86 (pF 4 1 3)<|aX 87 (pL false 1 86)<|aX 88 (pF 0 1 3)<|aX 89 (pL false 1 88)<|aX 90 (pF 5 1 3)<|aX 91 (pL false 1 90)<|aX 92 (pF 5 1 3)<|aX 93 (pL false 1 92)<|aX 94 (fun n e M=>keep (aBuild (zeroOf cx.P 49) [(0,1,(eget e 85)),(1,1,(eget e 87)),(2,1,(eget e 89)),(3,1,(eget e 91)),(4,1,(eget e 93))] M))<|aX 95 (fun n e M=>keep (aLitI 49 5 [(eget e 94)] M))<|aX 96 (fun n e M=>aAppO n 49 5 40 (eget e 83) (eget e 95) M)<|aX 97 (pF 2 1 2)<|aX0 (pS 1 97 96)<|aXZ
noncomputable def f75_r15 (c:CallF):RF:=rg [4,5] <| aX 98 (pL true 3 2)<|aX0 (pS 3 4 98)<|aX 5 (pM (cn (.int .i64 0)))<|aXZ
noncomputable def f75_r16 (c:CallF):RF:=rg [2,3,4,7,11] <| aX 99 (pF 2 1 2)<|aX 100 (pL false 1 99)<|aX 101 (pF 2 1 3)<|aX 102 (pL false 1 101)<|aX 103 (pI 5 100 102)<|aX 11 (pM 103)<|aXZ
noncomputable def f75_r17 (c:CallF):RF:=rgD [2,3,4,11,134] (aY 104 (pM 7)<|aY 105 (pM 104)<|aY 106 (pG 105 true (pF 3 1 3))<|aY 107 (pG 105 true (pL false 1 106))<|aY 108 (pG 105 true (pM 11))<|aY 109 (pG 105 true (pN 108))<|aY 110 (pG 105 true (pF 1 1 109))<|aY 111 (pG 105 true (pL false 1 110))<|aY 112 (pG 105 true (pB .neq 2 107 111))<|aY 113 (pP 105 112 (cn (.bool false)))<|aY 114 (pM 113)<|aY 115 (pG 114 false (pM 11))<|aY 116 (pG 114 false (pN 115))<|aY 117 (pG 114 false (pF 4 1 116))<|aY 118 (pG 114 false (pL false 1 117))<|aY 119 (pG 114 false (pB .eql 2 118 (cn (.int .i64 0))))<|aY 120 (pP 114 (cn (.bool true)) 119)<|aY 121 (pM 120)<|aY 122 (pG 121 false (pF 1 1 3))<|aY 123 (pG 121 false (pL false 1 122))<|aY 124 (pG 121 false (pB .eql 34 123 (cn (.int .i8 3))))<|aY 125 (pG 121 false (pM 124))<|aY 126 (pG 125 true (pF 5 1 3))<|aY 127 (pG 125 true (pL false 1 126))<|aY 128 (pG 125 true (pM 11))<|aY 129 (pG 125 true (pN 128))<|aY 130 (pG 125 true (pF 4 1 129))<|aY 131 (pG 125 true (pL false 1 130))<|aY 132 (pG 125 true (pB .gtr 2 127 131))<|aY 133 (pG 121 false (pP 125 132 (cn (.bool false))))<|aY 134 (pP 121 (cn (.bool true)) 133)<|aYZ)
 (aXZ)
noncomputable def f75_r18 (c:CallF):RF:=rg [4,5] <| aX 135 (fun n e M=>keep (aBuild (zeroOf cx.P 27) [] M))<|aX0 (pS 3 4 135)<|aX 5 (pM (cn (.int .i64 4)))<|aXZ
noncomputable def f75_r19 (c:CallF):RF:=rg [2,3,4,11,137] <| aX 136 (pF 1 1 3)<|aX 137 (pL false 1 136)<|aXZ
noncomputable def f75_r20 (c:CallF):RF:=rg [2,3,4,11,137,138] <| aX 139 (pB .eql 34 137 (cn (.int .i8 2)))<|aX 138 (pM 139)<|aXZ
noncomputable def f75_r21 (c:CallF):RF:=rg [2,3,4,11] <| aX 140 (pM 11)<|aX 141 (pF 4 1 3)<|aX 142 (pL false 1 141)<|aX 143 (pN 140)<|aX 144 (pF 1 1 143)<|aX0 (pS 1 144 142)<|aXZ
noncomputable def f75_r22 (c:CallF):RF:=rgD [2,4,11,151] (aY 145 (pF 4 1 3)<|aY 146 (pL false 1 145)<|aY 147 (pM 11)<|aY 148 (pN 147)<|aY 149 (pF 0 1 148)<|aY 150 (pL false 1 149)<|aY 151 (pB .eql 2 146 150)<|aYZ)
 (aXZ)
noncomputable def f75_r23 (c:CallF):RF:=rg [2,4] <| aX 152 (pM 11)<|aX 153 (pN 152)<|aX 154 (pF 4 1 153)<|aX0 (pS 1 154 (cn (.int .i64 0)))<|aXZ
noncomputable def f75_r24 (c:CallF):RF:=rg [2,3,4,11,137,155] <| aX 156 (pB .eql 34 137 (cn (.int .i8 3)))<|aX 155 (pM 156)<|aXZ
noncomputable def f75_r25 (c:CallF):RF:=rgD [2,3,4,11,167] (aY 157 (pF 1 1 2)<|aY 158 (pL false 1 157)<|aY 159 (pM 11)<|aY 160 (pN 159)<|aY 161 (pF 0 1 160)<|aY 162 (pL false 1 161)<|aY 163 (pI 1 158 162)<|aY 164 (pL false 1 163)<|aY 165 (pF 5 1 3)<|aY 166 (pL false 1 165)<|aY 167 (pB .lss 2 164 166)<|aYZ)
 (aXZ)
noncomputable def f75_r26 (c:CallF):RF:=rg [4,5] <| aX 168 (fun n e M=>keep (aBuild (zeroOf cx.P 27) [] M))<|aX0 (pS 3 4 168)<|aX 5 (pM (cn (.int .i64 8)))<|aXZ
noncomputable def f75_r27 (c:CallF):RF:=rgD [2,3,4,11] (aY 169 (pF 1 1 2)<|aY 170 (pL false 1 169)<|aY 171 (pM 11)<|aY 172 (pN 171)<|aY 173 (pF 0 1 172)<|aY 174 (pL false 1 173)<|aY 175 (pI 1 170 174)<|aY 176 (pL false 1 175)<|aY 177 (pF 5 1 3)<|aY 178 (pL false 1 177)<|aY 179 (pB .sub 2 176 178)<|aY 180 (pI 1 170 174)<|aYZ)
 (aX0 (pS 1 180 179)<|aXZ)
noncomputable def f75_r28 (c:CallF):RF:=rgD [2,3,4,11] (aY 181 (pF 1 1 2)<|aY 182 (pL false 1 181)<|aY 183 (pM 11)<|aY 184 (pN 183)<|aY 185 (pF 1 1 184)<|aY 186 (pL false 1 185)<|aY 187 (pI 1 182 186)<|aY 188 (pL false 1 187)<|aY 189 (pF 5 1 3)<|aY 190 (pL false 1 189)<|aY 191 (pB .add 2 188 190)<|aY 192 (pI 1 182 186)<|aYZ)
 (aX0 (pS 1 192 191)<|aXZ)
noncomputable def f75_r29 (c:CallF):RF:=rgD [2,4,11] (aY 193 (pM 11)<|aY 194 (pN 193)<|aY 195 (pF 4 1 194)<|aY 196 (pL false 1 195)<|aY 197 (pF 5 1 3)<|aY 198 (pL false 1 197)<|aY 199 (pB .sub 2 196 198)<|aY 200 (pN 193)<|aY 201 (pF 4 1 200)<|aYZ)
 (aX0 (pS 1 201 199)<|aXZ)
noncomputable def f75_r30 (c:CallF):RF:=rgD [2,4,210] (aY 202 (pF 1 1 2)<|aY 203 (pL false 1 202)<|aY 204 (pM 11)<|aY 205 (pN 204)<|aY 206 (pF 1 1 205)<|aY 207 (pL false 1 206)<|aY 208 (pI 1 203 207)<|aY 209 (pL false 1 208)<|aY 210 (pB .gtr 2 209 (cn (.int .i64 100000000)))<|aYZ)
 (aXZ)
noncomputable def f75_r31 (c:CallF):RF:=rg [4,5] <| aX 211 (fun n e M=>keep (aBuild (zeroOf cx.P 27) [] M))<|aX0 (pS 3 4 211)<|aX 5 (pM (cn (.int .i64 3)))<|aXZ
noncomputable def f75_r32 (c:CallF):RF:=rg [2,4,11,212] <| aX 213 (pB .eql 34 137 (cn (.int .i8 4)))<|aX 212 (pM 213)<|aXZ
noncomputable def f75_r33 (c:CallF):RF:=rg [2,4] <| aX 214 (pM 11)<|aX 215 (pN 214)<|aX 216 (pF 4 1 215)<|aX0 (pS 1 216 (cn (.int .i64 0)))<|aXZ
noncomputable def f75_r34 (c:CallF):RF:=rg [4,5] <| aX 217 (pL true 3 2)<|aX0 (pS 3 4 217)<|aX 5 (pM (cn (.int .i64 0)))<|aXZ
noncomputable def f75 (c:CallF) (k:Nat):St:=
 (bSeq (bReg (f75_r0 c))
 (bSeq (bSeq (bReg (f75_r1 c))
 (bCond (.tmp 16) (bSeq (bReg (f75_r2 c))
 (bEx .ret)) (bEx .nrm)))
 (bSeq (bReg (f75_r3 c))
 (bSeq (bReg (f75_r4 c))
 (bSeq (bSeq (bReg (f75_r5 c))
 (bCond (.tmp 55) (bSeq (bReg (f75_r6 c))
 (bEx .ret)) (bEx .nrm)))
 (bSeq (bSeq (bReg (f75_r7 c))
 (bCond (.tmp 67) (bSeq (bReg (f75_r8 c))
 (bEx .ret)) (bEx .nrm)))
 (bSeq (bReg (f75_r9 c))
 (bSeq (bReg (f75_r10 c))
 (bSeq (bSeq (bReg (f75_r11 c))
 (bCond (.tmp 76) (bSeq (bSeq (bReg (f75_r12 c))
 (bCond (.tmp 80) (bSeq (bReg (f75_r13 c))
 (bEx .ret)) (bEx .nrm)))
 (bSeq (bReg (f75_r14 c))
 (bSeq (bReg (f75_r15 c))
 (bEx .ret)))) (bEx .nrm)))
 (bSeq (bReg (f75_r16 c))
 (bSeq (bSeq (bReg (f75_r17 c))
 (bCond (.tmp 134) (bSeq (bReg (f75_r18 c))
 (bEx .ret)) (bEx .nrm)))
 (bSeq (bSeq (bReg (f75_r19 c))
 (bBlock 0 (bSeq (bReg (f75_r20 c))
 (bCond (.tmp 138) (bSeq (bReg (f75_r21 c))
 (bSeq (bReg (f75_r22 c))
 (bCond (.tmp 151) (bReg (f75_r23 c)) (bEx .nrm)))) (bSeq (bReg (f75_r24 c))
 (bCond (.tmp 155) (bSeq (bSeq (bReg (f75_r25 c))
 (bCond (.tmp 167) (bSeq (bReg (f75_r26 c))
 (bEx .ret)) (bEx .nrm)))
 (bSeq (bReg (f75_r27 c))
 (bSeq (bReg (f75_r28 c))
 (bSeq (bReg (f75_r29 c))
 (bSeq (bReg (f75_r30 c))
 (bCond (.tmp 210) (bSeq (bReg (f75_r31 c))
 (bEx .ret)) (bEx .nrm))))))) (bSeq (bReg (f75_r32 c))
 (bCond (.tmp 212) (bReg (f75_r33 c)) (bEx .nrm)))))))))
 (bSeq (bReg (f75_r34 c))
 (bEx .ret))))))))))))))
theorem f75_eq (c:CallF) (k:Nat):exec cx c 218 f75_an k (Try.f75.body.getD .skip)=f75 c k:=by kernel_rfl
def f76_an:Ann:=⟨[(0,r0 [0]),(1,r0 [0,27]),(2,r0 [2]),(3,r0 [0,3]),(4,r0 [0,3,4]),(5,r0 [0,3,4,39]),(6,r0 [0,3,4]),(7,r0 [0,3,4,5]),(8,r0 [0,3,4,5,95]),(9,r0 [2]),(10,r0 [0,3,4,131]),(11,r0 [2]),(12,r0 [2])],[(5,[0,3,4])]⟩
noncomputable def f76_r0 (c:CallF):RF:=rg [0] <| aX 2 (pM (cn (.bool false)))<|aXZ
noncomputable def f76_r1 (c:CallF):RF:=rg [0,27] <| aX 6 (pM 0)<|aX 7 (pN 6)<|aX 8 (pF 0 1 7)<|aX 9 (pL false 1 8)<|aX 10 (pK c false 56 [9])<|aX 11 (pU .not 10)<|aX 12 (pM 11)<|aX 13 (pG 12 false (pM 0))<|aX 14 (pG 12 false (pN 13))<|aX 15 (pG 12 false (pF 1 1 14))<|aX 16 (pG 12 false (pL false 1 15))<|aX 17 (pG 12 false (pK c false 111 [16]))<|aX 18 (pG 12 false (pU .not 17))<|aX 19 (pP 12 (cn (.bool true)) 18)<|aX 20 (pM 19)<|aX 21 (pG 20 false (pM 0))<|aX 22 (pG 20 false (pN 21))<|aX 23 (pG 20 false (pF 2 1 22))<|aX 24 (pG 20 false (pL false 1 23))<|aX 25 (pG 20 false (pLen 25 24))<|aX 26 (pG 20 false (pB .gtr 3 25 (cn (.int .i64 40))))<|aX 27 (pP 20 (cn (.bool true)) 26)<|aXZ
noncomputable def f76_r2 (c:CallF):RF:=rg [2] <| aX 2 (pM (cn (.bool false)))<|aXZ
noncomputable def f76_r3 (c:CallF):RF:=rg [0,3] <| aX 28 (pM 0)<|aX 29 (pN 28)<|aX 30 (pF 1 1 29)<|aX 31 (pL false 1 30)<|aX 32 (pLen 24 31)<|aX 3 (pM 32)<|aXZ
noncomputable def f76_r4 (c:CallF):RF:=rg [0,3,4] <| aX 4 (pM (cn (.int .i64 0)))<|aXZ
noncomputable def f76_r5 (c:CallF):RF:=rg [0,3,4,39] <| aX 33 (pM 4)<|aX 34 (pM 0)<|aX 35 (pN 34)<|aX 36 (pF 2 1 35)<|aX 37 (pL false 1 36)<|aX 38 (pLen 25 37)<|aX 39 (pB .lss 3 33 38)<|aXZ
noncomputable def f76_r6 (c:CallF):RF:=rg [0,3,4] <| aX 40 (pM 4)<|aX 41 (pB .add 3 40 (cn (.int .i64 1)))<|aX 4 (pM 41)<|aXZ
noncomputable def f76_r7 (c:CallF):RF:=rg [0,3,4,5] <| aX 42 (pM 0)<|aX 43 (pN 42)<|aX 44 (pF 2 1 43)<|aX 45 (pL false 1 44)<|aX 46 (pM 4)<|aX 47 (pI 5 45 46)<|aX 5 (pM 47)<|aXZ
noncomputable def f76_r8 (c:CallF):RF:=rgD [0,3,4,5,95] (aY 48 (pM 3)<|aY 49 (pM 5)<|aY 50 (pN 49)<|aY 51 (pF 0 1 50)<|aY 52 (pL false 1 51)<|aY 53 (pK c false 112 [48,52])<|aY 54 (pU .not 53)<|aY 55 (pM 54)<|aY 56 (pG 55 false (pM 3))<|aY 57 (pG 55 false (pM 5))<|aY 58 (pG 55 false (pN 57))<|aY 59 (pG 55 false (pF 1 1 58))<|aY 60 (pG 55 false (pL false 1 59))<|aY 61 (pG 55 false (pK c false 112 [56,60]))<|aY 62 (pG 55 false (pU .not 61))<|aY 63 (pP 55 (cn (.bool true)) 62)<|aY 64 (pM 63)<|aY 65 (pG 64 false (pM 5))<|aY 66 (pG 64 false (pN 65))<|aY 67 (pG 64 false (pF 2 1 66))<|aY 68 (pG 64 false (pL false 1 67))<|aY 69 (pG 64 false (pM 0))<|aY 70 (pG 64 false (pN 69))<|aY 71 (pG 64 false (pF 0 1 70))<|aY 72 (pG 64 false (pL false 1 71))<|aY 73 (pG 64 false (pK c false 90 [68,(cn (.int .i64 0)),72]))<|aY 74 (pG 64 false (pU .not 73))<|aY 75 (pP 64 (cn (.bool true)) 74)<|aY 76 (pM 75)<|aY 77 (pG 76 false (pM 5))<|aY 78 (pG 76 false (pN 77))<|aY 79 (pG 76 false (pF 3 1 78))<|aY 80 (pG 76 false (pL false 1 79))<|aY 81 (pG 76 false (pK c false 90 [80,(cn (.int .i64 1)),(cn (.int .i64 100000000))]))<|aY 82 (pG 76 false (pU .not 81))<|aY 83 (pP 76 (cn (.bool true)) 82)<|aY 84 (pM 83)<|aY 85 (pG 84 false (pM 5))<|aY 86 (pG 84 false (pN 85))<|aY 87 (pG 84 false (pF 4 1 86))<|aY 88 (pG 84 false (pL false 1 87))<|aY 89 (pG 84 false (pM 5))<|aY 90 (pG 84 false (pN 89))<|aY 91 (pG 84 false (pF 3 1 90))<|aY 92 (pG 84 false (pL false 1 91))<|aY 93 (pG 84 false (pK c false 90 [88,(cn (.int .i64 0)),92]))<|aY 94 (pG 84 false (pU .not 93))<|aY 95 (pP 84 (cn (.bool true)) 94)<|aYZ)
 (aXZ)
noncomputable def f76_r9 (c:CallF):RF:=rg [2] <| aX 2 (pM (cn (.bool false)))<|aXZ
noncomputable def f76_r10 (c:CallF):RF:=rgD [0,3,4,131] (aY 96 (pM 5)<|aY 97 (pN 96)<|aY 98 (pF 0 1 97)<|aY 99 (pL false 1 98)<|aY 100 (pM 5)<|aY 101 (pN 100)<|aY 102 (pF 1 1 101)<|aY 103 (pL false 1 102)<|aY 104 (pB .eql 2 99 103)<|aY 105 (pM 104)<|aY 106 (pG 105 true (pM 5))<|aY 107 (pG 105 true (pN 106))<|aY 108 (pG 105 true (pF 4 1 107))<|aY 109 (pG 105 true (pL false 1 108))<|aY 110 (pG 105 true (pB .neq 2 109 (cn (.int .i64 0))))<|aY 111 (pP 105 110 (cn (.bool false)))<|aY 112 (pM 111)<|aY 113 (pG 112 false (pM 4))<|aY 114 (pG 112 false (pB .gtr 3 113 (cn (.int .i64 0))))<|aY 115 (pG 112 false (pM 114))<|aY 116 (pG 115 true (pM 5))<|aY 117 (pG 115 true (pN 116))<|aY 118 (pG 115 true (pF 2 1 117))<|aY 119 (pG 115 true (pL false 1 118))<|aY 120 (pG 115 true (pM 0))<|aY 121 (pG 115 true (pN 120))<|aY 122 (pG 115 true (pF 2 1 121))<|aY 123 (pG 115 true (pL false 1 122))<|aY 124 (pG 115 true (pM 4))<|aY 125 (pG 115 true (pB .sub 3 124 (cn (.int .i64 1))))<|aY 126 (pG 115 true (pI 5 123 125))<|aY 127 (pG 115 true (pF 2 1 126))<|aY 128 (pG 115 true (pL false 1 127))<|aY 129 (pG 115 true (pB .lss 2 119 128))<|aY 130 (pG 112 false (pP 115 129 (cn (.bool false))))<|aY 131 (pP 112 (cn (.bool true)) 130)<|aYZ)
 (aXZ)
noncomputable def f76_r11 (c:CallF):RF:=rg [2] <| aX 2 (pM (cn (.bool false)))<|aXZ
noncomputable def f76_r12 (c:CallF):RF:=rg [2] <| aX 2 (pM (cn (.bool true)))<|aXZ
noncomputable def f76_l5 (c:CallF) (k:Nat):St:=
 (bSeq (bSeq (bReg (f76_r5 c))
 (bCond (.tmp 39) (bEx .nrm) (bEx (.ext 0))))
 (bSeq (bBlock 1 (bSeq (bReg (f76_r7 c))
 (bSeq (bSeq (bReg (f76_r8 c))
 (bCond (.tmp 95) (bSeq (bReg (f76_r9 c))
 (bEx .ret)) (bEx .nrm)))
 (bSeq (bReg (f76_r10 c))
 (bCond (.tmp 131) (bSeq (bReg (f76_r11 c))
 (bEx .ret)) (bEx .nrm))))))
 (bReg (f76_r6 c))))
noncomputable def f76 (c:CallF) (k:Nat):St:=
 (bSeq (bReg (f76_r0 c))
 (bSeq (bSeq (bReg (f76_r1 c))
 (bCond (.tmp 27) (bSeq (bReg (f76_r2 c))
 (bEx .ret)) (bEx .nrm)))
 (bSeq (bReg (f76_r3 c))
 (bSeq (bSeq (bReg (f76_r4 c))
 (bBlock 0 (bLoop [0,3,4] (f76_l5 c k) k)))
 (bSeq (bReg (f76_r12 c))
 (bEx .ret))))))
theorem f76_eq (c:CallF) (k:Nat):exec cx c 132 f76_an k (Try.f76.body.getD .skip)=f76 c k:=by kernel_rfl
def f77_an:Ann:=⟨[(0,r0 [0]),(1,r0 [0,3]),(2,r0 [0,3,4]),(3,r0 [0,3,4,5]),(4,r0 [0,3,4,5,6]),(5,r0 [0,3,4,5,6,32]),(6,r0 [2]),(7,r0 [0,3,4,5,6,36]),(8,r0 [0,3,4,5,6,36,37]),(9,r0 [2]),(10,r0 [0,3,4,5,6,36,53]),(11,r0 [2]),(12,r0 [0,3,4,6,36,69]),(13,r0 [2]),(14,r0 [0,3,4,89]),(15,r0 [2]),(16,r0 [2])],[]⟩
noncomputable def f77_r0 (c:CallF):RF:=rg [0] <| aX 2 (pM (cn (.bool false)))<|aXZ
noncomputable def f77_r1 (c:CallF):RF:=rg [0,3] <| aX 7 (pM 0)<|aX 8 (pN 7)<|aX 9 (pF 2 1 8)<|aX 10 (pL false 1 9)<|aX 11 (pK c false 90 [10,(cn (.int .i64 0)),(cn (.int .i64 39))])<|aX 3 (pM 11)<|aXZ
noncomputable def f77_r2 (c:CallF):RF:=rg [0,3,4] <| aX 12 (pM 0)<|aX 13 (pN 12)<|aX 14 (pF 3 1 13)<|aX 15 (pL false 1 14)<|aX 16 (pK c false 90 [15,(cn (.int .i64 0)),(cn (.int .i64 15))])<|aX 4 (pM 16)<|aXZ
noncomputable def f77_r3 (c:CallF):RF:=rg [0,3,4,5] <| aX 17 (pM 0)<|aX 18 (pN 17)<|aX 19 (pF 4 1 18)<|aX 20 (pL false 1 19)<|aX 21 (pK c false 90 [20,(cn (.int .i64 0)),(cn (.int .i64 15))])<|aX 5 (pM 21)<|aXZ
noncomputable def f77_r4 (c:CallF):RF:=rg [0,3,4,5,6] <| aX 22 (pM 0)<|aX 23 (pN 22)<|aX 24 (pF 5 1 23)<|aX 25 (pL false 1 24)<|aX 26 (pK c false 90 [25,(cn (.int .i64 1)),(cn (.int .i64 100000000))])<|aX 6 (pM 26)<|aXZ
noncomputable def f77_r5 (c:CallF):RF:=rg [0,3,4,5,6,32] <| aX 27 (pM 0)<|aX 28 (pN 27)<|aX 29 (pF 0 1 28)<|aX 30 (pL false 1 29)<|aX 31 (pK c false 56 [30])<|aX 32 (pU .not 31)<|aXZ
noncomputable def f77_r6 (c:CallF):RF:=rg [2] <| aX 2 (pM (cn (.bool false)))<|aXZ
noncomputable def f77_r7 (c:CallF):RF:=rg [0,3,4,5,6,36] <| aX 33 (pM 0)<|aX 34 (pN 33)<|aX 35 (pF 1 1 34)<|aX 36 (pL false 1 35)<|aXZ
noncomputable def f77_r8 (c:CallF):RF:=rg [0,3,4,5,6,36,37] <| aX 38 (pB .eql 34 36 (cn (.int .i8 1)))<|aX 37 (pM 38)<|aXZ
noncomputable def f77_r9 (c:CallF):RF:=rg [2] <| aX 39 (pM 0)<|aX 40 (pN 39)<|aX 41 (pF 2 1 40)<|aX 42 (pL false 1 41)<|aX 43 (pB .eql 2 42 (cn (.int .i64 0)))<|aX 44 (pM 43)<|aX 45 (pG 44 true (pM 4))<|aX 46 (pP 44 45 (cn (.bool false)))<|aX 47 (pM 46)<|aX 48 (pG 47 true (pM 5))<|aX 49 (pP 47 48 (cn (.bool false)))<|aX 50 (pM 49)<|aX 51 (pG 50 true (pM 6))<|aX 52 (pP 50 51 (cn (.bool false)))<|aX 2 (pM 52)<|aXZ
noncomputable def f77_r10 (c:CallF):RF:=rg [0,3,4,5,6,36,53] <| aX 54 (pB .eql 34 36 (cn (.int .i8 2)))<|aX 53 (pM 54)<|aXZ
noncomputable def f77_r11 (c:CallF):RF:=rg [2] <| aX 55 (pM 3)<|aX 56 (pM 55)<|aX 57 (pG 56 true (pM 4))<|aX 58 (pP 56 57 (cn (.bool false)))<|aX 59 (pM 58)<|aX 60 (pG 59 true (pM 5))<|aX 61 (pP 59 60 (cn (.bool false)))<|aX 62 (pM 61)<|aX 63 (pG 62 true (pM 0))<|aX 64 (pG 62 true (pN 63))<|aX 65 (pG 62 true (pF 5 1 64))<|aX 66 (pG 62 true (pL false 1 65))<|aX 67 (pG 62 true (pB .eql 2 66 (cn (.int .i64 0))))<|aX 68 (pP 62 67 (cn (.bool false)))<|aX 2 (pM 68)<|aXZ
noncomputable def f77_r12 (c:CallF):RF:=rg [0,3,4,6,36,69] <| aX 70 (pB .eql 34 36 (cn (.int .i8 3)))<|aX 69 (pM 70)<|aXZ
noncomputable def f77_r13 (c:CallF):RF:=rg [2] <| aX 71 (pM 3)<|aX 72 (pM 71)<|aX 73 (pG 72 true (pM 0))<|aX 74 (pG 72 true (pN 73))<|aX 75 (pG 72 true (pF 3 1 74))<|aX 76 (pG 72 true (pL false 1 75))<|aX 77 (pG 72 true (pB .eql 2 76 (cn (.int .i64 0))))<|aX 78 (pP 72 77 (cn (.bool false)))<|aX 79 (pM 78)<|aX 80 (pG 79 true (pM 0))<|aX 81 (pG 79 true (pN 80))<|aX 82 (pG 79 true (pF 4 1 81))<|aX 83 (pG 79 true (pL false 1 82))<|aX 84 (pG 79 true (pB .eql 2 83 (cn (.int .i64 0))))<|aX 85 (pP 79 84 (cn (.bool false)))<|aX 86 (pM 85)<|aX 87 (pG 86 true (pM 6))<|aX 88 (pP 86 87 (cn (.bool false)))<|aX 2 (pM 88)<|aXZ
noncomputable def f77_r14 (c:CallF):RF:=rg [0,3,4,89] <| aX 90 (pB .eql 34 36 (cn (.int .i8 4)))<|aX 89 (pM 90)<|aXZ
noncomputable def f77_r15 (c:CallF):RF:=rg [2] <| aX 91 (pM 3)<|aX 92 (pM 91)<|aX 93 (pG 92 true (pM 4))<|aX 94 (pP 92 93 (cn (.bool false)))<|aX 95 (pM 94)<|aX 96 (pG 95 true (pM 0))<|aX 97 (pG 95 true (pN 96))<|aX 98 (pG 95 true (pF 4 1 97))<|aX 99 (pG 95 true (pL false 1 98))<|aX 100 (pG 95 true (pB .eql 2 99 (cn (.int .i64 0))))<|aX 101 (pP 95 100 (cn (.bool false)))<|aX 102 (pM 101)<|aX 103 (pG 102 true (pM 0))<|aX 104 (pG 102 true (pN 103))<|aX 105 (pG 102 true (pF 5 1 104))<|aX 106 (pG 102 true (pL false 1 105))<|aX 107 (pG 102 true (pB .eql 2 106 (cn (.int .i64 0))))<|aX 108 (pP 102 107 (cn (.bool false)))<|aX 2 (pM 108)<|aXZ
noncomputable def f77_r16 (c:CallF):RF:=rg [2] <| aX 2 (pM (cn (.bool false)))<|aXZ
noncomputable def f77 (c:CallF) (k:Nat):St:=
 (bSeq (bReg (f77_r0 c))
 (bSeq (bReg (f77_r1 c))
 (bSeq (bReg (f77_r2 c))
 (bSeq (bReg (f77_r3 c))
 (bSeq (bReg (f77_r4 c))
 (bSeq (bSeq (bReg (f77_r5 c))
 (bCond (.tmp 32) (bSeq (bReg (f77_r6 c))
 (bEx .ret)) (bEx .nrm)))
 (bSeq (bSeq (bReg (f77_r7 c))
 (bBlock 0 (bSeq (bReg (f77_r8 c))
 (bCond (.tmp 37) (bSeq (bReg (f77_r9 c))
 (bEx .ret)) (bSeq (bReg (f77_r10 c))
 (bCond (.tmp 53) (bSeq (bReg (f77_r11 c))
 (bEx .ret)) (bSeq (bReg (f77_r12 c))
 (bCond (.tmp 69) (bSeq (bReg (f77_r13 c))
 (bEx .ret)) (bSeq (bReg (f77_r14 c))
 (bCond (.tmp 89) (bSeq (bReg (f77_r15 c))
 (bEx .ret)) (bEx .nrm)))))))))))
 (bSeq (bReg (f77_r16 c))
 (bEx .ret)))))))))
theorem f77_eq (c:CallF) (k:Nat):exec cx c 109 f77_an k (Try.f77.body.getD .skip)=f77 c k:=by kernel_rfl
def f78_an:Ann:=⟨[(0,r0 [0,1,4]),(1,r0 [0,1,4,6]),(2,r0 [0,1,4,6,13]),(3,⟨[2],[],[],[],[4,5],none,[]⟩),(4,⟨[3],[1],[],[],[1,4,7],none,[]⟩),(5,r0 [1,4,7]),(6,r0 [1,4,7,27]),(7,⟨[24,26],[],[],[24,25,26],[4,7],none,[]⟩),(8,⟨[1],[],[],[],[4,5],none,[]⟩),(9,r0 [1,4,7,8]),(10,r0 [1,4,7,8,65]),(11,r0 [1,4,7,8,65,66]),(12,r0 [4,7,8]),(13,r0 [4,7,8,83]),(14,r0 [4,7]),(15,r0 [1,4,7,8,65,87]),(16,⟨[],[],[],[14],[1,4,7,8],none,[]⟩),(17,⟨[],[],[],[14],[1,4,7,8],none,[]⟩),(18,⟨[],[],[],[11],[4,7],none,[]⟩),(19,r0 [4,7,8,128]),(20,r0 [4,7]),(21,⟨[1],[],[],[],[4,5],none,[]⟩)],[]⟩
noncomputable def f78_r0 (c:CallF):RF:=rg [0,1,4] <| aX 4 (pAl 27 3)<|aX 5 (pM (cn (.int .i64 0)))<|aXZ
noncomputable def f78_r1 (c:CallF):RF:=rg [0,1,4,6] <| aX 9 (pM 0)<|aX 10 (pM 1)<|aX 11 (pK c false 113 [9,10])<|aX 6 (pM 11)<|aXZ
noncomputable def f78_r2 (c:CallF):RF:=rg [0,1,4,6,13] <| aX 12 (pM 6)<|aX 13 (pB .neq 2 12 (cn (.int .i64 0)))<|aXZ
noncomputable def f78_r3 (c:CallF):RF:=rg [4,5] <| aX 14 (fun n e M=>keep (aBuild (zeroOf cx.P 27) [] M))<|aX 15 (pM 6)<|aX0 (pSK 3 4 14)<|aX 5 (pM 15)<|aXZ
noncomputable def f78_r4 (c:CallF):RF:=rg [1,4,7] <| aX 16 (pM 0)<|aX 17 (pK c true 65 [16])<|aX 7 (pAl 27 3)<|aX0 (pSK 3 7 17)<|aXZ
noncomputable def f78_r5 (c:CallF):RF:=rg [1,4,7] <| aX 18 (pM 1)<|aX 19 (pN 18)<|aX 20 (pF 0 1 19)<|aX 21 (pL false 1 20)<|aX 22 (pF 0 1 7)<|aX0 (pS 1 22 21)<|aXZ
noncomputable def f78_r6 (c:CallF):RF:=rg [1,4,7,27] <| aX 23 (pM 1)<|aX 24 (pN 23)<|aX 25 (pF 1 1 24)<|aX 26 (pL false 1 25)<|aX 27 (pB .eql 34 26 (cn (.int .i8 1)))<|aXZ
noncomputable def f78_r7 (c:CallF):RF:=rgD [4,7] (aY 28 (pF 2 1 7)<|aY 29 (pL false 1 28)<|aY 30 (pM 1)<|aY 31 (pN 30)<|aY 32 (pF 3 1 31)<|aY 33 (pL false 1 32)<|aY 34 (pM 1)<|aY 35 (pN 34)<|aY 36 (pF 4 1 35)<|aY 37 (pL false 1 36)<|aY 38 (pM 1)<|aY 39 (pN 38)<|aY 40 (pF 0 1 39)<|aY 41 (pL false 1 40)<|aY 42 (pM 1)<|aY 43 (pN 42)<|aY 44 (pF 5 1 43)<|aY 45 (pL false 1 44)<|aY 46 (pM 1)<|aY 47 (pN 46)<|aY 48 (pF 5 1 47)<|aY 49 (pL false 1 48)<|aY 50 (fun n e M=>keep (aBuild (zeroOf cx.P 49) [(0,1,(eget e 33)),(1,1,(eget e 37)),(2,1,(eget e 41)),(3,1,(eget e 45)),(4,1,(eget e 49))] M))<|aY 51 (fun n e M=>keep (aLitI 49 5 [(eget e 50)] M))<|aYZ)
 (aX 52 (fun n e M=>aAppO n 49 5 40 (eget e 29) (eget e 51) M)<|aX 53 (pF 2 1 7)<|aX0 (pSK 1 53 52)<|aXZ)
noncomputable def f78_r8 (c:CallF):RF:=rg [4,5] <| aX 54 (pL true 3 7)<|aX0 (pSK 3 4 54)<|aX 5 (pM (cn (.int .i64 0)))<|aXZ
noncomputable def f78_r9 (c:CallF):RF:=rgD [1,4,7,8] (aY 55 (pF 2 1 7)<|aY 56 (pL false 1 55)<|aY 57 (pM 1)<|aY 58 (pN 57)<|aY 59 (pF 2 1 58)<|aY 60 (pL false 1 59)<|aY 61 (pI 5 56 60)<|aY 8 (pM 61)<|aYZ)
 (aXZ)
noncomputable def f78_r10 (c:CallF):RF:=rg [1,4,7,8,65] <| aX 62 (pM 1)<|aX 63 (pN 62)<|aX 64 (pF 1 1 63)<|aX 65 (pL false 1 64)<|aXZ
noncomputable def f78_r11 (c:CallF):RF:=rg [1,4,7,8,65,66] <| aX 67 (pB .eql 34 65 (cn (.int .i8 2)))<|aX 66 (pM 67)<|aXZ
noncomputable def f78_r12 (c:CallF):RF:=rg [4,7,8] <| aX 68 (pM 8)<|aX 69 (pM 1)<|aX 70 (pN 69)<|aX 71 (pF 4 1 70)<|aX 72 (pL false 1 71)<|aX 73 (pN 68)<|aX 74 (pF 1 1 73)<|aX0 (pS 1 74 72)<|aXZ
noncomputable def f78_r13 (c:CallF):RF:=rgD [4,7,8,83] (aY 75 (pM 8)<|aY 76 (pN 75)<|aY 77 (pF 1 1 76)<|aY 78 (pL false 1 77)<|aY 79 (pM 8)<|aY 80 (pN 79)<|aY 81 (pF 0 1 80)<|aY 82 (pL false 1 81)<|aY 83 (pB .eql 2 78 82)<|aYZ)
 (aXZ)
noncomputable def f78_r14 (c:CallF):RF:=rg [4,7] <| aX 84 (pM 8)<|aX 85 (pN 84)<|aX 86 (pF 4 1 85)<|aX0 (pS 1 86 (cn (.int .i64 0)))<|aXZ
noncomputable def f78_r15 (c:CallF):RF:=rg [1,4,7,8,65,87] <| aX 88 (pB .eql 34 65 (cn (.int .i8 3)))<|aX 87 (pM 88)<|aXZ
noncomputable def f78_r16 (c:CallF):RF:=rgD [1,4,7,8] (aY 89 (pF 1 1 7)<|aY 90 (pL false 1 89)<|aY 91 (pM 8)<|aY 92 (pN 91)<|aY 93 (pF 0 1 92)<|aY 94 (pL false 1 93)<|aY 95 (pI 1 90 94)<|aY 96 (pL false 1 95)<|aY 97 (pM 1)<|aY 98 (pN 97)<|aY 99 (pF 5 1 98)<|aY 100 (pL false 1 99)<|aY 101 (pB .sub 2 96 100)<|aY 102 (pI 1 90 94)<|aYZ)
 (aX0 (pS 1 102 101)<|aXZ)
noncomputable def f78_r17 (c:CallF):RF:=rgD [1,4,7,8] (aY 103 (pF 1 1 7)<|aY 104 (pL false 1 103)<|aY 105 (pM 8)<|aY 106 (pN 105)<|aY 107 (pF 1 1 106)<|aY 108 (pL false 1 107)<|aY 109 (pI 1 104 108)<|aY 110 (pL false 1 109)<|aY 111 (pM 1)<|aY 112 (pN 111)<|aY 113 (pF 5 1 112)<|aY 114 (pL false 1 113)<|aY 115 (pB .add 2 110 114)<|aY 116 (pI 1 104 108)<|aYZ)
 (aX0 (pS 1 116 115)<|aXZ)
noncomputable def f78_r18 (c:CallF):RF:=rgD [4,7] (aY 117 (pM 8)<|aY 118 (pN 117)<|aY 119 (pF 4 1 118)<|aY 120 (pL false 1 119)<|aY 121 (pM 1)<|aY 122 (pN 121)<|aY 123 (pF 5 1 122)<|aY 124 (pL false 1 123)<|aY 125 (pB .sub 2 120 124)<|aY 126 (pN 117)<|aY 127 (pF 4 1 126)<|aYZ)
 (aX0 (pS 1 127 125)<|aXZ)
noncomputable def f78_r19 (c:CallF):RF:=rg [4,7,8,128] <| aX 129 (pB .eql 34 65 (cn (.int .i8 4)))<|aX 128 (pM 129)<|aXZ
noncomputable def f78_r20 (c:CallF):RF:=rg [4,7] <| aX 130 (pM 8)<|aX 131 (pN 130)<|aX 132 (pF 4 1 131)<|aX0 (pS 1 132 (cn (.int .i64 0)))<|aXZ
noncomputable def f78_r21 (c:CallF):RF:=rg [4,5] <| aX 133 (pL true 3 7)<|aX0 (pSK 3 4 133)<|aX 5 (pM (cn (.int .i64 0)))<|aXZ
noncomputable def f78 (c:CallF) (k:Nat):St:=
 (bSeq (bReg (f78_r0 c))
 (bSeq (bSeq (bReg (f78_r1 c))
 (bSeq (bReg (f78_r2 c))
 (bCond (.tmp 13) (bSeq (bReg (f78_r3 c))
 (bEx .ret)) (bEx .nrm))))
 (bSeq (bReg (f78_r4 c))
 (bSeq (bReg (f78_r5 c))
 (bSeq (bSeq (bReg (f78_r6 c))
 (bCond (.tmp 27) (bSeq (bReg (f78_r7 c))
 (bSeq (bReg (f78_r8 c))
 (bEx .ret))) (bEx .nrm)))
 (bSeq (bReg (f78_r9 c))
 (bSeq (bSeq (bReg (f78_r10 c))
 (bBlock 0 (bSeq (bReg (f78_r11 c))
 (bCond (.tmp 66) (bSeq (bReg (f78_r12 c))
 (bSeq (bReg (f78_r13 c))
 (bCond (.tmp 83) (bReg (f78_r14 c)) (bEx .nrm)))) (bSeq (bReg (f78_r15 c))
 (bCond (.tmp 87) (bSeq (bReg (f78_r16 c))
 (bSeq (bReg (f78_r17 c))
 (bReg (f78_r18 c)))) (bSeq (bReg (f78_r19 c))
 (bCond (.tmp 128) (bReg (f78_r20 c)) (bEx .nrm)))))))))
 (bSeq (bReg (f78_r21 c))
 (bEx .ret)))))))))
theorem f78_eq (c:CallF) (k:Nat):exec cx c 134 f78_an k (Try.f78.body.getD .skip)=f78 c k:=by kernel_rfl
def f79_an:Ann:=⟨[(0,r0 [0,1,2,3]),(1,r0 [8])],[]⟩
noncomputable def f79_r0 (c:CallF):RF:=rg [0,1,2,3] <| aX 8 (pM (cn (.bool false)))<|aXZ
noncomputable def f79_r1 (c:CallF):RF:=rg [8] <| aX 9 (pM 0)<|aX 10 (pM 9)<|aX 11 (pG 10 true (pM 1))<|aX 12 (pG 10 true (pM 2))<|aX 13 (pG 10 true (pB .geq 2 11 12))<|aX 14 (pP 10 13 (cn (.bool false)))<|aX 15 (pM 14)<|aX 16 (pG 15 true (pM 1))<|aX 17 (pG 15 true (pM 3))<|aX 18 (pG 15 true (pB .leq 2 16 17))<|aX 19 (pP 15 18 (cn (.bool false)))<|aX 20 (pM 19)<|aX 21 (pG 20 false (pM 0))<|aX 22 (pG 20 false (pU .not 21))<|aX 23 (pG 20 false (pM 22))<|aX 24 (pG 23 true (pM 1))<|aX 25 (pG 23 true (pB .eql 2 24 (cn (.int .i64 0))))<|aX 26 (pG 20 false (pP 23 25 (cn (.bool false))))<|aX 27 (pP 20 (cn (.bool true)) 26)<|aX 8 (pM 27)<|aXZ
noncomputable def f79 (c:CallF) (k:Nat):St:=
 (bSeq (bReg (f79_r0 c))
 (bSeq (bReg (f79_r1 c))
 (bEx .ret)))
theorem f79_eq (c:CallF) (k:Nat):exec cx c 28 f79_an k (Try.f79.body.getD .skip)=f79 c k:=by kernel_rfl
def f80_an:Ann:=⟨[(0,r0 [0]),(1,r0 [6]),(2,r0 [6,7]),(3,r0 [2,3,4,5]),(4,r0 [6,9]),(5,r0 [2,3,4,5]),(6,r0 [11]),(7,r0 [2,3,4,5]),(8,r0 [2,3,4,5])],[]⟩
noncomputable def f80_r0 (c:CallF):RF:=rg [0] <| aX 2 (pM (cn (.bool false)))<|aX 3 (pM (cn (.bool false)))<|aX 4 (pM (cn (.bool false)))<|aX 5 (pM (cn (.bool false)))<|aXZ
noncomputable def f80_r1 (c:CallF):RF:=rg [6] <| aX 6 (pM 0)<|aXZ
noncomputable def f80_r2 (c:CallF):RF:=rg [6,7] <| aX 8 (pB .eql 34 6 (cn (.int .i8 1)))<|aX 7 (pM 8)<|aXZ
noncomputable def f80_r3 (c:CallF):RF:=rg [2,3,4,5] <| aX 2 (pM (cn (.bool false)))<|aX 3 (pM (cn (.bool true)))<|aX 4 (pM (cn (.bool true)))<|aX 5 (pM (cn (.bool true)))<|aXZ
noncomputable def f80_r4 (c:CallF):RF:=rg [6,9] <| aX 10 (pB .eql 34 6 (cn (.int .i8 2)))<|aX 9 (pM 10)<|aXZ
noncomputable def f80_r5 (c:CallF):RF:=rg [2,3,4,5] <| aX 2 (pM (cn (.bool true)))<|aX 3 (pM (cn (.bool true)))<|aX 4 (pM (cn (.bool true)))<|aX 5 (pM (cn (.bool false)))<|aXZ
noncomputable def f80_r6 (c:CallF):RF:=rg [11] <| aX 12 (pB .eql 34 6 (cn (.int .i8 3)))<|aX 11 (pM 12)<|aXZ
noncomputable def f80_r7 (c:CallF):RF:=rg [2,3,4,5] <| aX 2 (pM (cn (.bool true)))<|aX 3 (pM (cn (.bool false)))<|aX 4 (pM (cn (.bool false)))<|aX 5 (pM (cn (.bool true)))<|aXZ
noncomputable def f80_r8 (c:CallF):RF:=rg [2,3,4,5] <| aX 2 (pM (cn (.bool true)))<|aX 3 (pM (cn (.bool true)))<|aX 4 (pM (cn (.bool false)))<|aX 5 (pM (cn (.bool false)))<|aXZ
noncomputable def f80 (c:CallF) (k:Nat):St:=
 (bSeq (bReg (f80_r0 c))
 (bSeq (bSeq (bReg (f80_r1 c))
 (bBlock 0 (bSeq (bReg (f80_r2 c))
 (bCond (.tmp 7) (bSeq (bReg (f80_r3 c))
 (bEx .ret)) (bSeq (bReg (f80_r4 c))
 (bCond (.tmp 9) (bSeq (bReg (f80_r5 c))
 (bEx .ret)) (bSeq (bReg (f80_r6 c))
 (bCond (.tmp 11) (bSeq (bReg (f80_r7 c))
 (bEx .ret)) (bEx .nrm)))))))))
 (bSeq (bReg (f80_r8 c))
 (bEx .ret))))
theorem f80_eq (c:CallF) (k:Nat):exec cx c 13 f80_an k (Try.f80.body.getD .skip)=f80 c k:=by kernel_rfl
def f87_an:Ann:=⟨[(0,r0 [1,2]),(1,r0 [1,2,6,7]),(2,r0 [1,6,7,11,12,13]),(3,r0 [1,6,7,11,12,13,14]),(4,r0 [1,6,7,9,11,12,13]),(5,r0 [1,6,7,9,11,12,13,20]),(6,r0 [1,6,7,9,11,12,13]),(7,r0 [1,6,7,9,11,12,13,28]),(8,r0 [1,6,7,11,12,13]),(9,r0 [1,6,7,11,12,13]),(10,r0 [4,5])],[(3,[1,6,7,11,12,13])]⟩
noncomputable def f87_r0 (c:CallF):RF:=rg [1,2] <| aX 2 (pBox 3 0)<|aX 4 (pM (cn (.int .i64 0)))<|aX 5 (pM (cn (.int .i64 0)))<|aXZ
noncomputable def f87_r1 (c:CallF):RF:=rg [1,2,6,7] <| aX 6 (pM (cn (.int .i64 0)))<|aX 7 (pM (cn (.int .i64 0)))<|aXZ
noncomputable def f87_r2 (c:CallF):RF:=rg [1,6,7,11,12,13] <| aX 10 (pF 2 1 2)<|aX 11 (pL false 1 10)<|aX 12 (pLen 25 11)<|aX 13 (pM (cn (.int .i64 0)))<|aXZ
noncomputable def f87_r3 (c:CallF):RF:=rg [1,6,7,11,12,13,14] <| aX 14 (pB .lss 3 13 12)<|aXZ
noncomputable def f87_r4 (c:CallF):RF:=rg [1,6,7,9,11,12,13] <| aX 15 (pI 5 11 13)<|aX 16 (pL true 5 15)<|aX 9 (pAl 49 5)<|aX0 (pS 5 9 16)<|aXZ
noncomputable def f87_r5 (c:CallF):RF:=rg [1,6,7,9,11,12,13,20] <| aX 17 (pF 1 1 9)<|aX 18 (pL false 1 17)<|aX 19 (pM 1)<|aX 20 (pB .eql 2 18 19)<|aXZ
noncomputable def f87_r6 (c:CallF):RF:=rg [1,6,7,9,11,12,13] <| aX 21 (pM 6)<|aX 22 (pF 4 1 9)<|aX 23 (pL false 1 22)<|aX 24 (pB .add 2 21 23)<|aX 6 (pM 24)<|aXZ
noncomputable def f87_r7 (c:CallF):RF:=rg [1,6,7,9,11,12,13,28] <| aX 25 (pF 0 1 9)<|aX 26 (pL false 1 25)<|aX 27 (pM 1)<|aX 28 (pB .eql 2 26 27)<|aXZ
noncomputable def f87_r8 (c:CallF):RF:=rg [1,6,7,11,12,13] <| aX 29 (pM 7)<|aX 30 (pF 4 1 9)<|aX 31 (pL false 1 30)<|aX 32 (pB .add 2 29 31)<|aX 7 (pM 32)<|aXZ
noncomputable def f87_r9 (c:CallF):RF:=rg [1,6,7,11,12,13] <| aX 33 (pB .add 3 13 (cn (.int .i64 1)))<|aX 13 (pM 33)<|aXZ
noncomputable def f87_r10 (c:CallF):RF:=rg [4,5] <| aX 34 (pM 6)<|aX 35 (pM 7)<|aX 4 (pM 34)<|aX 5 (pM 35)<|aXZ
noncomputable def f87_l3 (c:CallF) (k:Nat):St:=
 (bSeq (bReg (f87_r3 c))
 (bSeq (bCond (.tmp 14) (bEx .nrm) (bEx (.ext 0)))
 (bSeq (bBlock 1 (bSeq (bReg (f87_r4 c))
 (bSeq (bSeq (bReg (f87_r5 c))
 (bCond (.tmp 20) (bReg (f87_r6 c)) (bEx .nrm)))
 (bSeq (bReg (f87_r7 c))
 (bCond (.tmp 28) (bReg (f87_r8 c)) (bEx .nrm))))))
 (bReg (f87_r9 c)))))
noncomputable def f87 (c:CallF) (k:Nat):St:=
 (bSeq (bReg (f87_r0 c))
 (bSeq (bReg (f87_r1 c))
 (bSeq (bSeq (bReg (f87_r2 c))
 (bBlock 0 (bLoop [1,6,7,11,12,13] (f87_l3 c k) k)))
 (bSeq (bReg (f87_r10 c))
 (bEx .ret)))))
theorem f87_eq (c:CallF) (k:Nat):exec cx c 36 f87_an k (Try.f87.body.getD .skip)=f87 c k:=by kernel_rfl
def f88_an:Ann:=⟨[(0,r0 [0,1]),(1,r0 [0,1,7]),(2,r0 [4]),(3,r0 [0,1,5]),(4,r0 [0,1,5,11]),(5,r0 [1,5]),(6,r0 [4])],[]⟩
noncomputable def f88_r0 (c:CallF):RF:=rg [0,1] <| aX 4 (pM (cn (.int .i64 0)))<|aXZ
noncomputable def f88_r1 (c:CallF):RF:=rg [0,1,7] <| aX 6 (pM 1)<|aX 7 (pB .leq 2 6 (cn (.int .i64 1)))<|aXZ
noncomputable def f88_r2 (c:CallF):RF:=rg [4] <| aX 4 (pM (cn (.int .i64 0)))<|aXZ
noncomputable def f88_r3 (c:CallF):RF:=rg [0,1,5] <| aX 8 (pM 0)<|aX 9 (pK c false 117 [8])<|aX 5 (pM 9)<|aXZ
noncomputable def f88_r4 (c:CallF):RF:=rg [0,1,5,11] <| aX 10 (pM 1)<|aX 11 (pB .gtr 2 10 (cn (.int .i64 200)))<|aXZ
noncomputable def f88_r5 (c:CallF):RF:=rg [1,5] <| aX 12 (pM 5)<|aX 13 (pB .mul 2 12 (cn (.int .i64 256)))<|aX 14 (pM 0)<|aX 15 (pK c false 117 [14])<|aX 16 (pB .add 2 13 15)<|aX 5 (pM 16)<|aXZ
noncomputable def f88_r6 (c:CallF):RF:=rg [4] <| aX 17 (pM 5)<|aX 18 (pM 1)<|aX 19 (pB .rem 2 17 18)<|aX 4 (pM 19)<|aXZ
noncomputable def f88 (c:CallF) (k:Nat):St:=
 (bSeq (bReg (f88_r0 c))
 (bSeq (bSeq (bReg (f88_r1 c))
 (bCond (.tmp 7) (bSeq (bReg (f88_r2 c))
 (bEx .ret)) (bEx .nrm)))
 (bSeq (bReg (f88_r3 c))
 (bSeq (bSeq (bReg (f88_r4 c))
 (bCond (.tmp 11) (bReg (f88_r5 c)) (bEx .nrm)))
 (bSeq (bReg (f88_r6 c))
 (bEx .ret))))))
theorem f88_eq (c:CallF) (k:Nat):exec cx c 20 f88_an k (Try.f88.body.getD .skip)=f88 c k:=by kernel_rfl
def f89_an:Ann:=⟨[(0,r0 [0]),(1,r0 [2])],[]⟩
noncomputable def f89_r0 (c:CallF):RF:=rg [0] <| aX 2 (pM (cn (.bool false)))<|aXZ
noncomputable def f89_r1 (c:CallF):RF:=rg [2] <| aX 3 (pM 0)<|aX 4 (pK c false 90 [3,(cn (.int .i64 0)),(cn (.int .i64 100000000))])<|aX 2 (pM 4)<|aXZ
noncomputable def f89 (c:CallF) (k:Nat):St:=
 (bSeq (bReg (f89_r0 c))
 (bSeq (bReg (f89_r1 c))
 (bEx .ret)))
theorem f89_eq (c:CallF) (k:Nat):exec cx c 5 f89_an k (Try.f89.body.getD .skip)=f89 c k:=by kernel_rfl
def f90_an:Ann:=⟨[(0,r0 [0,1,2]),(1,r0 [6])],[]⟩
noncomputable def f90_r0 (c:CallF):RF:=rg [0,1,2] <| aX 6 (pM (cn (.bool false)))<|aXZ
noncomputable def f90_r1 (c:CallF):RF:=rg [6] <| aX 7 (pM 0)<|aX 8 (pM 1)<|aX 9 (pB .geq 2 7 8)<|aX 10 (pM 9)<|aX 11 (pG 10 true (pM 0))<|aX 12 (pG 10 true (pM 2))<|aX 13 (pG 10 true (pB .leq 2 11 12))<|aX 14 (pP 10 13 (cn (.bool false)))<|aX 6 (pM 14)<|aXZ
noncomputable def f90 (c:CallF) (k:Nat):St:=
 (bSeq (bReg (f90_r0 c))
 (bSeq (bReg (f90_r1 c))
 (bEx .ret)))
theorem f90_eq (c:CallF) (k:Nat):exec cx c 15 f90_an k (Try.f90.body.getD .skip)=f90 c k:=by kernel_rfl
def f105_an:Ann:=⟨[(0,r0 [0,1,4]),(1,r0 [0,1,4,5]),(2,⟨[],[],[0,8],[5,6,7,9],[0,1,4,5,6],some [1,2,3],[]⟩),(3,r0 [0,1,4,5,6,30]),(4,r0 [0,4,5,6]),(5,r0 [0,4,5,6]),(6,⟨[],[],[2,8],[6,7,9,10,11],[0,4,6],some [0,1],[]⟩),(7,r0 [4,6]),(8,r0 [4]),(9,r0 [0,1,4,5,6]),(10,r0 [0,1,4,5,6,7]),(11,r0 [0,1,4,5,6,7,68]),(12,r0 [0,1,4,6,7]),(13,⟨[],[],[],[17,18,19,20],[4,6],none,[]⟩),(14,r0 [0,1,4,5,6,7,68,90]),(15,r0 [0,1,4,5,6,7,68,90]),(16,r0 [0,4,5,6,7]),(17,r0 [0,4,5,6]),(18,⟨[],[],[2,8],[6,7,9,10,11],[4,6],some [0,1],[]⟩),(19,r0 [0,1,4,6,7,110]),(20,r0 [4,6,7]),(21,r0 [4,6]),(22,r0 [4])],[]⟩
noncomputable def f105_r0 (c:CallF):RF:=rg [0,1,4] <| aX 4 (pAl 36 6)<|aXZ
noncomputable def f105_r1 (c:CallF):RF:=rg [0,1,4,5] <| aX 8 (pM 1)<|aX 9 (pN 8)<|aX 10 (pF 1 1 9)<|aX 11 (pL false 1 10)<|aX 12 (pLen 24 11)<|aX 5 (pM 12)<|aXZ
noncomputable def f105_r2 (c:CallF):RF:=rgS [0,1,4,5,6] (aQc 0 false (some 13) (pM 1)<|aQs 1 false (some 14) (pN 13)<|aQs 2 false (some 15) (pF 0 1 14)<|aQs 3 false (some 16) (pL false 1 15)<|aQ 4 false (some 17) (pM 0)<|aQc 8 true (some 6) (pAl 36 6)<|aQZ)
 (aW [4] (some 18) (pK c false 88 [17,(cn (.int .i64 4))])<|aW [0,1,2,3,4,5] (some 19) (pB .add 2 16 18)<|aW [0,1,2,3,4,5,6] (some 20) (fun n e M=>keep (aBuild (zeroOf cx.P 36) [(0,1,(eget e 19))] M))<|aW [0,1,2,3,4,5,6,7,8] none (pS 6 6 20)<|aWZ)
noncomputable def f105_r3 (c:CallF):RF:=rg [0,1,4,5,6,30] <| aX 21 (pM 1)<|aX 22 (pN 21)<|aX 23 (pF 2 1 22)<|aX 24 (pL false 1 23)<|aX 25 (pLen 25 24)<|aX 26 (pB .eql 3 25 (cn (.int .i64 0)))<|aX 27 (pM 26)<|aX 28 (pG 27 false (pM 0))<|aX 29 (pG 27 false (pK c false 141 [28,(cn (.int .i64 3))]))<|aX 30 (pP 27 (cn (.bool true)) 29)<|aXZ
noncomputable def f105_r4 (c:CallF):RF:=rg [0,4,5,6] <| aX 31 (pF 1 1 6)<|aX0 (pS 1 31 (cn (.int .i8 1)))<|aXZ
noncomputable def f105_r5 (c:CallF):RF:=rg [0,4,5,6] <| aX 32 (pM 0)<|aX 33 (pM 5)<|aX 34 (pK c false 88 [32,33])<|aX 35 (pF 3 1 6)<|aX0 (pS 1 35 34)<|aXZ
noncomputable def f105_r6 (c:CallF):RF:=rgS [0,4,6] (aQs 0 false (some 36) (pF 3 1 6)<|aQs 1 false (some 37) (pL false 1 36)<|aQc 2 false (some 38) (pB .add 2 37 (cn (.int .i64 1)))<|aQ 3 false (some 39) (pM 0)<|aQ 4 false (some 40) (pM 5)<|aQ 5 false (some 41) (pB .sub 2 40 (cn (.int .i64 1)))<|aQc 8 false (some 44) (pM 5)<|aQZ)
 (aW [3,4,5] (some 42) (pK c false 88 [39,41])<|aW [0,1,2,3,4,5,6] (some 43) (pB .add 2 38 42)<|aW [0,1,2,3,4,5,6,7,8] (some 45) (pB .rem 2 43 44)<|aW [0,1,2,3,4,5,6,7,8,9] (some 46) (pF 4 1 6)<|aW [0,1,2,3,4,5,6,7,8,9,10] none (pS 1 46 45)<|aWZ)
noncomputable def f105_r7 (c:CallF):RF:=rg [4,6] <| aX 47 (pM 0)<|aX 48 (pK c false 88 [47,(cn (.int .i64 60))])<|aX 49 (pB .add 2 (cn (.int .i64 1)) 48)<|aX 50 (pF 5 1 6)<|aX0 (pS 1 50 49)<|aXZ
noncomputable def f105_r8 (c:CallF):RF:=rg [4] <| aX 51 (pL true 6 6)<|aX0 (pS 6 4 51)<|aXZ
noncomputable def f105_r9 (c:CallF):RF:=rg [0,1,4,5,6] <| aX 52 (pM 0)<|aX 53 (pM 1)<|aX 54 (pN 53)<|aX 55 (pF 2 1 54)<|aX 56 (pL false 1 55)<|aX 57 (pLen 25 56)<|aX 58 (pK c false 88 [52,57])<|aX 59 (pF 2 1 6)<|aX0 (pS 1 59 58)<|aXZ
noncomputable def f105_r10 (c:CallF):RF:=rgD [0,1,4,5,6,7] (aY 60 (pM 1)<|aY 61 (pN 60)<|aY 62 (pF 2 1 61)<|aY 63 (pL false 1 62)<|aY 64 (pF 2 1 6)<|aY 65 (pL false 1 64)<|aY 66 (pI 5 63 65)<|aY 7 (pM 66)<|aYZ)
 (aXZ)
noncomputable def f105_r11 (c:CallF):RF:=rg [0,1,4,5,6,7,68] <| aX 67 (pM 0)<|aX 68 (pK c false 88 [67,(cn (.int .i64 5))])<|aXZ
noncomputable def f105_r12 (c:CallF):RF:=rg [0,1,4,6,7] <| aX 69 (pF 1 1 6)<|aX0 (pS 1 69 (cn (.int .i8 3)))<|aXZ
noncomputable def f105_r13 (c:CallF):RF:=rgD [4,6] (aY 70 (pM 0)<|aY 71 (pM 7)<|aY 72 (pN 71)<|aY 73 (pF 4 1 72)<|aY 74 (pL false 1 73)<|aY 75 (pM 1)<|aY 76 (pN 75)<|aY 77 (pF 1 1 76)<|aY 78 (pL false 1 77)<|aY 79 (pM 7)<|aY 80 (pN 79)<|aY 81 (pF 0 1 80)<|aY 82 (pL false 1 81)<|aY 83 (pI 1 78 82)<|aY 84 (pL false 1 83)<|aY 85 (pK c false 143 [74,84])<|aY 86 (pK c false 142 [85,(cn (.int .i64 1))])<|aYZ)
 (aX 87 (pK c false 88 [70,86])<|aX 88 (pB .add 2 (cn (.int .i64 1)) 87)<|aX 89 (pF 5 1 6)<|aX0 (pS 1 89 88)<|aXZ)
noncomputable def f105_r14 (c:CallF):RF:=rg [0,1,4,5,6,7,68,90] <| aX 91 (pB .eql 2 68 (cn (.int .i64 0)))<|aX 90 (pM 91)<|aXZ
noncomputable def f105_r15 (c:CallF):RF:=rg [0,1,4,5,6,7,68,90] <| aX 92 (pB .eql 2 68 (cn (.int .i64 1)))<|aX 90 (pM 92)<|aXZ
noncomputable def f105_r16 (c:CallF):RF:=rg [0,4,5,6,7] <| aX 93 (pF 1 1 6)<|aX0 (pS 1 93 (cn (.int .i8 2)))<|aXZ
noncomputable def f105_r17 (c:CallF):RF:=rg [0,4,5,6] <| aX 94 (pM 7)<|aX 95 (pN 94)<|aX 96 (pF 1 1 95)<|aX 97 (pL false 1 96)<|aX 98 (pF 3 1 6)<|aX0 (pS 1 98 97)<|aXZ
noncomputable def f105_r18 (c:CallF):RF:=rgS [4,6] (aQs 0 false (some 99) (pF 3 1 6)<|aQs 1 false (some 100) (pL false 1 99)<|aQc 2 false (some 101) (pB .add 2 100 (cn (.int .i64 1)))<|aQ 3 false (some 102) (pM 0)<|aQ 4 false (some 103) (pM 5)<|aQ 5 false (some 104) (pB .sub 2 103 (cn (.int .i64 1)))<|aQc 8 false (some 107) (pM 5)<|aQZ)
 (aW [3,4,5] (some 105) (pK c false 88 [102,104])<|aW [0,1,2,3,4,5,6] (some 106) (pB .add 2 101 105)<|aW [0,1,2,3,4,5,6,7,8] (some 108) (pB .rem 2 106 107)<|aW [0,1,2,3,4,5,6,7,8,9] (some 109) (pF 4 1 6)<|aW [0,1,2,3,4,5,6,7,8,9,10] none (pS 1 109 108)<|aWZ)
noncomputable def f105_r19 (c:CallF):RF:=rg [0,1,4,6,7,110] <| aX 111 (pB .eql 2 68 (cn (.int .i64 2)))<|aX 110 (pM 111)<|aXZ
noncomputable def f105_r20 (c:CallF):RF:=rg [4,6,7] <| aX 112 (pF 1 1 6)<|aX0 (pS 1 112 (cn (.int .i8 4)))<|aXZ
noncomputable def f105_r21 (c:CallF):RF:=rg [4,6] <| aX 113 (pM 7)<|aX 114 (pN 113)<|aX 115 (pF 1 1 114)<|aX 116 (pL false 1 115)<|aX 117 (pF 3 1 6)<|aX0 (pS 1 117 116)<|aXZ
noncomputable def f105_r22 (c:CallF):RF:=rg [4] <| aX 118 (pL true 6 6)<|aX0 (pS 6 4 118)<|aXZ
noncomputable def f105 (c:CallF) (k:Nat):St:=
 (bSeq (bReg (f105_r0 c))
 (bSeq (bReg (f105_r1 c))
 (bSeq (bReg (f105_r2 c))
 (bSeq (bSeq (bReg (f105_r3 c))
 (bCond (.tmp 30) (bSeq (bReg (f105_r4 c))
 (bSeq (bReg (f105_r5 c))
 (bSeq (bReg (f105_r6 c))
 (bSeq (bReg (f105_r7 c))
 (bSeq (bReg (f105_r8 c))
 (bEx .ret)))))) (bEx .nrm)))
 (bSeq (bReg (f105_r9 c))
 (bSeq (bReg (f105_r10 c))
 (bSeq (bSeq (bReg (f105_r11 c))
 (bBlock 0 (bSeq (bSeq (bReg (f105_r14 c))
 (bCond (.tmp 90) (bEx .nrm) (bReg (f105_r15 c))))
 (bCond (.tmp 90) (bSeq (bReg (f105_r16 c))
 (bSeq (bReg (f105_r17 c))
 (bReg (f105_r18 c)))) (bSeq (bReg (f105_r19 c))
 (bCond (.tmp 110) (bSeq (bReg (f105_r20 c))
 (bReg (f105_r21 c))) (bSeq (bReg (f105_r12 c))
 (bReg (f105_r13 c)))))))))
 (bSeq (bReg (f105_r22 c))
 (bEx .ret)))))))))
theorem f105_eq (c:CallF) (k:Nat):exec cx c 119 f105_an k (Try.f105.body.getD .skip)=f105 c k:=by kernel_rfl
def f106_an:Ann:=⟨[(0,r0 [0]),(1,r0 [5,6,7]),(2,r0 [5,6,7,8]),(3,r0 [4,5,6,7]),(4,r0 [5,6,7,13]),(5,r0 [2]),(6,r0 [5,6,7]),(7,r0 [2])],[(2,[5,6,7])]⟩
noncomputable def f106_r0 (c:CallF):RF:=rg [0] <| aX 2 (pM (cn (.bool false)))<|aXZ
noncomputable def f106_r1 (c:CallF):RF:=rg [5,6,7] <| aX 5 (pM 0)<|aX 6 (pLen 28 5)<|aX 7 (pM (cn (.int .i64 0)))<|aXZ
noncomputable def f106_r2 (c:CallF):RF:=rg [5,6,7,8] <| aX 8 (pB .lss 3 7 6)<|aXZ
noncomputable def f106_r3 (c:CallF):RF:=rg [4,5,6,7] <| aX 9 (pI 6 5 7)<|aX 10 (pL true 6 9)<|aX 4 (pAl 36 6)<|aX0 (pS 6 4 10)<|aXZ
noncomputable def f106_r4 (c:CallF):RF:=rg [5,6,7,13] <| aX 11 (pL true 6 4)<|aX 12 (pK c false 30 [11])<|aX 13 (pU .not 12)<|aXZ
noncomputable def f106_r5 (c:CallF):RF:=rg [2] <| aX 2 (pM (cn (.bool false)))<|aXZ
noncomputable def f106_r6 (c:CallF):RF:=rg [5,6,7] <| aX 14 (pB .add 3 7 (cn (.int .i64 1)))<|aX 7 (pM 14)<|aXZ
noncomputable def f106_r7 (c:CallF):RF:=rg [2] <| aX 2 (pM (cn (.bool true)))<|aXZ
noncomputable def f106_l2 (c:CallF) (k:Nat):St:=
 (bSeq (bReg (f106_r2 c))
 (bSeq (bCond (.tmp 8) (bEx .nrm) (bEx (.ext 0)))
 (bSeq (bBlock 1 (bSeq (bReg (f106_r3 c))
 (bSeq (bReg (f106_r4 c))
 (bCond (.tmp 13) (bSeq (bReg (f106_r5 c))
 (bEx .ret)) (bEx .nrm)))))
 (bReg (f106_r6 c)))))
noncomputable def f106 (c:CallF) (k:Nat):St:=
 (bSeq (bReg (f106_r0 c))
 (bSeq (bSeq (bReg (f106_r1 c))
 (bBlock 0 (bLoop [5,6,7] (f106_l2 c k) k)))
 (bSeq (bReg (f106_r7 c))
 (bEx .ret))))
theorem f106_eq (c:CallF) (k:Nat):exec cx c 15 f106_an k (Try.f106.body.getD .skip)=f106 c k:=by kernel_rfl
def f107_an:Ann:=⟨[(0,r0 [0,1]),(1,r0 [0,1,7,8]),(2,r0 [0,1,7,8,9]),(3,r0 [0,1,5,7,8]),(4,r0 [0,1,5,7,8,16]),(5,r0 [4]),(6,r0 [0,1,7,8]),(7,r0 [4])],[(2,[0,1,7,8])]⟩
noncomputable def f107_r0 (c:CallF):RF:=rg [0,1] <| aX 4 (pM (cn (.int .i64 0)))<|aXZ
noncomputable def f107_r1 (c:CallF):RF:=rg [0,1,7,8] <| aX 6 (pM 0)<|aX 7 (pLen 28 6)<|aX 8 (pM (cn (.int .i64 0)))<|aXZ
noncomputable def f107_r2 (c:CallF):RF:=rg [0,1,7,8,9] <| aX 9 (pB .lss 3 8 7)<|aXZ
noncomputable def f107_r3 (c:CallF):RF:=rg [0,1,5,7,8] <| aX 10 (pM 8)<|aX 5 (pM 10)<|aXZ
noncomputable def f107_r4 (c:CallF):RF:=rg [0,1,5,7,8,16] <| aX 11 (pM 1)<|aX 12 (pM 0)<|aX 13 (pM 5)<|aX 14 (pI 6 12 13)<|aX 15 (pL true 6 14)<|aX 16 (fun n e M=>oCall cx c false n (eget e 11) [(eget e 15)] M)<|aXZ
noncomputable def f107_r5 (c:CallF):RF:=rg [4] <| aX 17 (pM 5)<|aX 4 (pM 17)<|aXZ
noncomputable def f107_r6 (c:CallF):RF:=rg [0,1,7,8] <| aX 18 (pB .add 3 8 (cn (.int .i64 1)))<|aX 8 (pM 18)<|aXZ
noncomputable def f107_r7 (c:CallF):RF:=rg [4] <| aX 4 (pM (cn (.int .i64 (-1))))<|aXZ
noncomputable def f107_l2 (c:CallF) (k:Nat):St:=
 (bSeq (bReg (f107_r2 c))
 (bSeq (bCond (.tmp 9) (bEx .nrm) (bEx (.ext 0)))
 (bSeq (bBlock 1 (bSeq (bReg (f107_r3 c))
 (bSeq (bReg (f107_r4 c))
 (bCond (.tmp 16) (bSeq (bReg (f107_r5 c))
 (bEx .ret)) (bEx .nrm)))))
 (bReg (f107_r6 c)))))
noncomputable def f107 (c:CallF) (k:Nat):St:=
 (bSeq (bReg (f107_r0 c))
 (bSeq (bSeq (bReg (f107_r1 c))
 (bBlock 0 (bLoop [0,1,7,8] (f107_l2 c k) k)))
 (bSeq (bReg (f107_r7 c))
 (bEx .ret))))
theorem f107_eq (c:CallF) (k:Nat):exec cx c 19 f107_an k (Try.f107.body.getD .skip)=f107 c k:=by kernel_rfl
def f108_an:Ann:=⟨[(0,r0 [1,2]),(1,r0 [3])],[]⟩
noncomputable def f108_r0 (c:CallF):RF:=rg [1,2] <| aX 2 (pBox 6 0)<|aX 3 (pM (cn (.bool false)))<|aXZ
noncomputable def f108_r1 (c:CallF):RF:=rg [3] <| aX 4 (pF 0 1 2)<|aX 5 (pL false 1 4)<|aX 6 (pL false 1 1)<|aX 7 (pB .gtr 2 5 6)<|aX 3 (pM 7)<|aXZ
noncomputable def f108 (c:CallF) (k:Nat):St:=
 (bSeq (bReg (f108_r0 c))
 (bSeq (bReg (f108_r1 c))
 (bEx .ret)))
theorem f108_eq (c:CallF) (k:Nat):exec cx c 8 f108_an k (Try.f108.body.getD .skip)=f108 c k:=by kernel_rfl
def f109_an:Ann:=⟨[(0,r0 [0]),(1,r0 [0,3]),(2,r0 [0,3,7]),(3,r0 [0,3]),(4,r0 [0,3,14]),(5,r0 [2]),(6,r0 [2])],[(2,[0,3])]⟩
noncomputable def f109_r0 (c:CallF):RF:=rg [0] <| aX 2 (pM (cn (.bool false)))<|aXZ
noncomputable def f109_r1 (c:CallF):RF:=rg [0,3] <| aX 3 (pM (cn (.int .i64 0)))<|aXZ
noncomputable def f109_r2 (c:CallF):RF:=rg [0,3,7] <| aX 4 (pM 3)<|aX 5 (pM 0)<|aX 6 (pLen 28 5)<|aX 7 (pB .lss 3 4 6)<|aXZ
noncomputable def f109_r3 (c:CallF):RF:=rg [0,3] <| aX 8 (pM 3)<|aX 9 (pB .add 3 8 (cn (.int .i64 1)))<|aX 3 (pM 9)<|aXZ
noncomputable def f109_r4 (c:CallF):RF:=rg [0,3,14] <| aX 10 (pM 0)<|aX 11 (pM 3)<|aX 12 (pI 6 10 11)<|aX 13 (pK c false 77 [12])<|aX 14 (pU .not 13)<|aXZ
noncomputable def f109_r5 (c:CallF):RF:=rg [2] <| aX 2 (pM (cn (.bool false)))<|aXZ
noncomputable def f109_r6 (c:CallF):RF:=rg [2] <| aX 2 (pM (cn (.bool true)))<|aXZ
noncomputable def f109_l2 (c:CallF) (k:Nat):St:=
 (bSeq (bSeq (bReg (f109_r2 c))
 (bCond (.tmp 7) (bEx .nrm) (bEx (.ext 0))))
 (bSeq (bBlock 1 (bSeq (bReg (f109_r4 c))
 (bCond (.tmp 14) (bSeq (bReg (f109_r5 c))
 (bEx .ret)) (bEx .nrm))))
 (bReg (f109_r3 c))))
noncomputable def f109 (c:CallF) (k:Nat):St:=
 (bSeq (bReg (f109_r0 c))
 (bSeq (bSeq (bReg (f109_r1 c))
 (bBlock 0 (bLoop [0,3] (f109_l2 c k) k)))
 (bSeq (bReg (f109_r6 c))
 (bEx .ret))))
theorem f109_eq (c:CallF) (k:Nat):exec cx c 15 f109_an k (Try.f109.body.getD .skip)=f109 c k:=by kernel_rfl
def f110_an:Ann:=⟨[(0,⟨[0],[],[],[],[1,2],none,[]⟩),(1,⟨[4],[],[],[],[1,2],none,[]⟩),(2,⟨[4],[],[],[],[1,2],none,[]⟩),(3,⟨[1],[],[],[],[2],none,[]⟩)],[]⟩
noncomputable def f110_r0 (c:CallF):RF:=rg [1,2] <| aX 1 (fun n e M=>aBoxO n 27 3 (eget e 0) M)<|aX 2 (pAl 27 3)<|aXZ
noncomputable def f110_r1 (c:CallF):RF:=rg [1,2] <| aX 3 (pF 1 1 1)<|aX 4 (pL false 1 3)<|aX 5 (pK c false 144 [4])<|aX 6 (pF 1 1 1)<|aX0 (pSK 1 6 5)<|aXZ
noncomputable def f110_r2 (c:CallF):RF:=rg [1,2] <| aX 7 (pF 2 1 1)<|aX 8 (pL false 1 7)<|aX 9 (pK c false 145 [8])<|aX 10 (pF 2 1 1)<|aX0 (pSK 1 10 9)<|aXZ
noncomputable def f110_r3 (c:CallF):RF:=rg [2] <| aX 11 (pL true 3 1)<|aX0 (pSK 3 2 11)<|aXZ
noncomputable def f110 (c:CallF) (k:Nat):St:=
 (bSeq (bReg (f110_r0 c))
 (bSeq (bReg (f110_r1 c))
 (bSeq (bReg (f110_r2 c))
 (bSeq (bReg (f110_r3 c))
 (bEx .ret)))))
theorem f110_eq (c:CallF) (k:Nat):exec cx c 12 f110_an k (Try.f110.body.getD .skip)=f110 c k:=by kernel_rfl
def f111_an:Ann:=⟨[(0,r0 [0]),(1,r0 [0,3]),(2,r0 [0,3,7]),(3,r0 [0,3]),(4,r0 [0,3,15]),(5,r0 [2]),(6,r0 [2])],[(2,[0,3])]⟩
noncomputable def f111_r0 (c:CallF):RF:=rg [0] <| aX 2 (pM (cn (.bool false)))<|aXZ
noncomputable def f111_r1 (c:CallF):RF:=rg [0,3] <| aX 3 (pM (cn (.int .i64 0)))<|aXZ
noncomputable def f111_r2 (c:CallF):RF:=rg [0,3,7] <| aX 4 (pM 3)<|aX 5 (pM 0)<|aX 6 (pLen 24 5)<|aX 7 (pB .lss 3 4 6)<|aXZ
noncomputable def f111_r3 (c:CallF):RF:=rg [0,3] <| aX 8 (pM 3)<|aX 9 (pB .add 3 8 (cn (.int .i64 1)))<|aX 3 (pM 9)<|aXZ
noncomputable def f111_r4 (c:CallF):RF:=rg [0,3,15] <| aX 10 (pM 0)<|aX 11 (pM 3)<|aX 12 (pI 1 10 11)<|aX 13 (pL false 1 12)<|aX 14 (pK c false 89 [13])<|aX 15 (pU .not 14)<|aXZ
noncomputable def f111_r5 (c:CallF):RF:=rg [2] <| aX 2 (pM (cn (.bool false)))<|aXZ
noncomputable def f111_r6 (c:CallF):RF:=rg [2] <| aX 16 (pM 0)<|aX 17 (pLen 24 16)<|aX 18 (pK c false 90 [17,(cn (.int .i64 1)),(cn (.int .i64 16))])<|aX 2 (pM 18)<|aXZ
noncomputable def f111_l2 (c:CallF) (k:Nat):St:=
 (bSeq (bSeq (bReg (f111_r2 c))
 (bCond (.tmp 7) (bEx .nrm) (bEx (.ext 0))))
 (bSeq (bBlock 1 (bSeq (bReg (f111_r4 c))
 (bCond (.tmp 15) (bSeq (bReg (f111_r5 c))
 (bEx .ret)) (bEx .nrm))))
 (bReg (f111_r3 c))))
noncomputable def f111 (c:CallF) (k:Nat):St:=
 (bSeq (bReg (f111_r0 c))
 (bSeq (bSeq (bReg (f111_r1 c))
 (bBlock 0 (bLoop [0,3] (f111_l2 c k) k)))
 (bSeq (bReg (f111_r6 c))
 (bEx .ret))))
theorem f111_eq (c:CallF) (k:Nat):exec cx c 19 f111_an k (Try.f111.body.getD .skip)=f111 c k:=by kernel_rfl
def f112_an:Ann:=⟨[(0,r0 [0,1]),(1,r0 [4])],[]⟩
noncomputable def f112_r0 (c:CallF):RF:=rg [0,1] <| aX 4 (pM (cn (.bool false)))<|aXZ
noncomputable def f112_r1 (c:CallF):RF:=rg [4] <| aX 5 (pM 1)<|aX 6 (pM 0)<|aX 7 (pB .sub 2 6 (cn (.int .i64 1)))<|aX 8 (pK c false 90 [5,(cn (.int .i64 0)),7])<|aX 4 (pM 8)<|aXZ
noncomputable def f112 (c:CallF) (k:Nat):St:=
 (bSeq (bReg (f112_r0 c))
 (bSeq (bReg (f112_r1 c))
 (bEx .ret)))
theorem f112_eq (c:CallF) (k:Nat):exec cx c 9 f112_an k (Try.f112.body.getD .skip)=f112 c k:=by kernel_rfl
def f113_an:Ann:=⟨[(0,r0 [0,1]),(1,r0 [0,1,5]),(2,r0 [0,1,5,20]),(3,r0 [4]),(4,r0 [0,1,55]),(5,r0 [4]),(6,r0 [0,1,60]),(7,r0 [0,69]),(8,r0 [4]),(9,r0 [75]),(10,r0 [4]),(11,r0 [4]),(12,r0 [0,1,6]),(13,r0 [0,1,6,136]),(14,r0 [4]),(15,r0 [0,1,6,158]),(16,r0 [4]),(17,r0 [181]),(18,r0 [4]),(19,r0 [4])],[]⟩
noncomputable def f113_r0 (c:CallF):RF:=rg [0,1] <| aX 4 (pM (cn (.int .i64 0)))<|aXZ
noncomputable def f113_r1 (c:CallF):RF:=rg [0,1,5] <| aX 7 (pM 0)<|aX 8 (pN 7)<|aX 9 (pF 1 1 8)<|aX 10 (pL false 1 9)<|aX 11 (pLen 24 10)<|aX 5 (pM 11)<|aXZ
noncomputable def f113_r2 (c:CallF):RF:=rgD [0,1,5,20] (aY 12 (pM 1)<|aY 13 (pN 12)<|aY 14 (pF 0 1 13)<|aY 15 (pL false 1 14)<|aY 16 (pM 0)<|aY 17 (pN 16)<|aY 18 (pF 0 1 17)<|aY 19 (pL false 1 18)<|aY 20 (pB .lss 2 15 19)<|aYZ)
 (aXZ)
noncomputable def f113_r3 (c:CallF):RF:=rg [4] <| aX 4 (pM (cn (.int .i64 4)))<|aXZ
noncomputable def f113_r4 (c:CallF):RF:=rgD [0,1,55] (aY 21 (pM 5)<|aY 22 (pM 1)<|aY 23 (pN 22)<|aY 24 (pF 3 1 23)<|aY 25 (pL false 1 24)<|aY 26 (pK c false 112 [21,25])<|aY 27 (pU .not 26)<|aY 28 (pM 27)<|aY 29 (pG 28 false (pM 5))<|aY 30 (pG 28 false (pM 1))<|aY 31 (pG 28 false (pN 30))<|aY 32 (pG 28 false (pF 4 1 31))<|aY 33 (pG 28 false (pL false 1 32))<|aY 34 (pG 28 false (pK c false 112 [29,33]))<|aY 35 (pG 28 false (pU .not 34))<|aY 36 (pP 28 (cn (.bool true)) 35)<|aY 37 (pM 36)<|aY 38 (pG 37 false (pM 1))<|aY 39 (pG 37 false (pN 38))<|aY 40 (pG 37 false (pF 1 1 39))<|aY 41 (pG 37 false (pL false 1 40))<|aY 42 (pG 37 false (pB .neq 34 41 (cn (.int .i8 1))))<|aY 43 (pG 37 false (pM 42))<|aY 44 (pG 43 true (pM 1))<|aY 45 (pG 43 true (pN 44))<|aY 46 (pG 43 true (pF 2 1 45))<|aY 47 (pG 43 true (pL false 1 46))<|aY 48 (pG 43 true (pM 0))<|aY 49 (pG 43 true (pN 48))<|aY 50 (pG 43 true (pF 2 1 49))<|aY 51 (pG 43 true (pL false 1 50))<|aY 52 (pG 43 true (pLen 25 51))<|aY 53 (pG 43 true (pB .geq 2 47 52))<|aY 54 (pG 37 false (pP 43 53 (cn (.bool false))))<|aY 55 (pP 37 (cn (.bool true)) 54)<|aYZ)
 (aXZ)
noncomputable def f113_r5 (c:CallF):RF:=rg [4] <| aX 4 (pM (cn (.int .i64 2)))<|aXZ
noncomputable def f113_r6 (c:CallF):RF:=rg [0,1,60] <| aX 56 (pM 1)<|aX 57 (pN 56)<|aX 58 (pF 1 1 57)<|aX 59 (pL false 1 58)<|aX 60 (pB .eql 34 59 (cn (.int .i8 1)))<|aXZ
noncomputable def f113_r7 (c:CallF):RF:=rgD [0,69] (aY 61 (pM 1)<|aY 62 (pN 61)<|aY 63 (pF 3 1 62)<|aY 64 (pL false 1 63)<|aY 65 (pM 1)<|aY 66 (pN 65)<|aY 67 (pF 4 1 66)<|aY 68 (pL false 1 67)<|aY 69 (pB .eql 2 64 68)<|aYZ)
 (aXZ)
noncomputable def f113_r8 (c:CallF):RF:=rg [4] <| aX 4 (pM (cn (.int .i64 4)))<|aXZ
noncomputable def f113_r9 (c:CallF):RF:=rg [75] <| aX 70 (pM 0)<|aX 71 (pN 70)<|aX 72 (pF 2 1 71)<|aX 73 (pL false 1 72)<|aX 74 (pLen 25 73)<|aX 75 (pB .eql 3 74 (cn (.int .i64 40)))<|aXZ
noncomputable def f113_r10 (c:CallF):RF:=rg [4] <| aX 4 (pM (cn (.int .i64 3)))<|aXZ
noncomputable def f113_r11 (c:CallF):RF:=rg [4] <| aX 4 (pM (cn (.int .i64 0)))<|aXZ
noncomputable def f113_r12 (c:CallF):RF:=rgD [0,1,6] (aY 76 (pM 0)<|aY 77 (pN 76)<|aY 78 (pF 2 1 77)<|aY 79 (pL false 1 78)<|aY 80 (pM 1)<|aY 81 (pN 80)<|aY 82 (pF 2 1 81)<|aY 83 (pL false 1 82)<|aY 84 (pI 5 79 83)<|aY 6 (pM 84)<|aYZ)
 (aXZ)
noncomputable def f113_r13 (c:CallF):RF:=rgD [0,1,6,136] (aY 85 (pM 1)<|aY 86 (pN 85)<|aY 87 (pF 1 1 86)<|aY 88 (pL false 1 87)<|aY 89 (pB .eql 34 88 (cn (.int .i8 2)))<|aY 90 (pM 89)<|aY 91 (pG 90 true (pM 1))<|aY 92 (pG 90 true (pN 91))<|aY 93 (pG 90 true (pF 3 1 92))<|aY 94 (pG 90 true (pL false 1 93))<|aY 95 (pG 90 true (pM 1))<|aY 96 (pG 90 true (pN 95))<|aY 97 (pG 90 true (pF 4 1 96))<|aY 98 (pG 90 true (pL false 1 97))<|aY 99 (pG 90 true (pB .eql 2 94 98))<|aY 100 (pP 90 99 (cn (.bool false)))<|aY 101 (pM 100)<|aY 102 (pG 101 false (pM 1))<|aY 103 (pG 101 false (pN 102))<|aY 104 (pG 101 false (pF 1 1 103))<|aY 105 (pG 101 false (pL false 1 104))<|aY 106 (pG 101 false (pB .neq 34 105 (cn (.int .i8 3))))<|aY 107 (pG 101 false (pM 106))<|aY 108 (pG 107 true (pM 1))<|aY 109 (pG 107 true (pN 108))<|aY 110 (pG 107 true (pF 3 1 109))<|aY 111 (pG 107 true (pL false 1 110))<|aY 112 (pG 107 true (pM 6))<|aY 113 (pG 107 true (pN 112))<|aY 114 (pG 107 true (pF 1 1 113))<|aY 115 (pG 107 true (pL false 1 114))<|aY 116 (pG 107 true (pB .neq 2 111 115))<|aY 117 (pG 101 false (pP 107 116 (cn (.bool false))))<|aY 118 (pP 101 (cn (.bool true)) 117)<|aY 119 (pM 118)<|aY 120 (pG 119 false (pM 6))<|aY 121 (pG 119 false (pN 120))<|aY 122 (pG 119 false (pF 4 1 121))<|aY 123 (pG 119 false (pL false 1 122))<|aY 124 (pG 119 false (pB .eql 2 123 (cn (.int .i64 0))))<|aY 125 (pP 119 (cn (.bool true)) 124)<|aY 126 (pM 125)<|aY 127 (pG 126 false (pM 1))<|aY 128 (pG 126 false (pN 127))<|aY 129 (pG 126 false (pF 5 1 128))<|aY 130 (pG 126 false (pL false 1 129))<|aY 131 (pG 126 false (pM 6))<|aY 132 (pG 126 false (pN 131))<|aY 133 (pG 126 false (pF 4 1 132))<|aY 134 (pG 126 false (pL false 1 133))<|aY 135 (pG 126 false (pB .gtr 2 130 134))<|aY 136 (pP 126 (cn (.bool true)) 135)<|aYZ)
 (aXZ)
noncomputable def f113_r14 (c:CallF):RF:=rg [4] <| aX 4 (pM (cn (.int .i64 4)))<|aXZ
noncomputable def f113_r15 (c:CallF):RF:=rgD [0,1,6,158] (aY 137 (pM 1)<|aY 138 (pN 137)<|aY 139 (pF 1 1 138)<|aY 140 (pL false 1 139)<|aY 141 (pB .eql 34 140 (cn (.int .i8 3)))<|aY 142 (pM 141)<|aY 143 (pG 142 true (pM 0))<|aY 144 (pG 142 true (pN 143))<|aY 145 (pG 142 true (pF 1 1 144))<|aY 146 (pG 142 true (pL false 1 145))<|aY 147 (pG 142 true (pM 6))<|aY 148 (pG 142 true (pN 147))<|aY 149 (pG 142 true (pF 0 1 148))<|aY 150 (pG 142 true (pL false 1 149))<|aY 151 (pG 142 true (pI 1 146 150))<|aY 152 (pG 142 true (pL false 1 151))<|aY 153 (pG 142 true (pM 1))<|aY 154 (pG 142 true (pN 153))<|aY 155 (pG 142 true (pF 5 1 154))<|aY 156 (pG 142 true (pL false 1 155))<|aY 157 (pG 142 true (pB .lss 2 152 156))<|aY 158 (pP 142 157 (cn (.bool false)))<|aYZ)
 (aXZ)
noncomputable def f113_r16 (c:CallF):RF:=rg [4] <| aX 4 (pM (cn (.int .i64 8)))<|aXZ
noncomputable def f113_r17 (c:CallF):RF:=rgD [181] (aY 159 (pM 1)<|aY 160 (pN 159)<|aY 161 (pF 1 1 160)<|aY 162 (pL false 1 161)<|aY 163 (pB .eql 34 162 (cn (.int .i8 3)))<|aY 164 (pM 163)<|aY 165 (pG 164 true (pM 0))<|aY 166 (pG 164 true (pN 165))<|aY 167 (pG 164 true (pF 1 1 166))<|aY 168 (pG 164 true (pL false 1 167))<|aY 169 (pG 164 true (pM 6))<|aY 170 (pG 164 true (pN 169))<|aY 171 (pG 164 true (pF 1 1 170))<|aY 172 (pG 164 true (pL false 1 171))<|aY 173 (pG 164 true (pI 1 168 172))<|aY 174 (pG 164 true (pL false 1 173))<|aY 175 (pG 164 true (pM 1))<|aY 176 (pG 164 true (pN 175))<|aY 177 (pG 164 true (pF 5 1 176))<|aY 178 (pG 164 true (pL false 1 177))<|aY 179 (pG 164 true (pB .add 2 174 178))<|aY 180 (pG 164 true (pB .gtr 2 179 (cn (.int .i64 100000000))))<|aY 181 (pP 164 180 (cn (.bool false)))<|aYZ)
 (aXZ)
noncomputable def f113_r18 (c:CallF):RF:=rg [4] <| aX 4 (pM (cn (.int .i64 3)))<|aXZ
noncomputable def f113_r19 (c:CallF):RF:=rg [4] <| aX 4 (pM (cn (.int .i64 0)))<|aXZ
noncomputable def f113 (c:CallF) (k:Nat):St:=
 (bSeq (bReg (f113_r0 c))
 (bSeq (bReg (f113_r1 c))
 (bSeq (bSeq (bReg (f113_r2 c))
 (bCond (.tmp 20) (bSeq (bReg (f113_r3 c))
 (bEx .ret)) (bEx .nrm)))
 (bSeq (bSeq (bReg (f113_r4 c))
 (bCond (.tmp 55) (bSeq (bReg (f113_r5 c))
 (bEx .ret)) (bEx .nrm)))
 (bSeq (bSeq (bReg (f113_r6 c))
 (bCond (.tmp 60) (bSeq (bSeq (bReg (f113_r7 c))
 (bCond (.tmp 69) (bSeq (bReg (f113_r8 c))
 (bEx .ret)) (bEx .nrm)))
 (bSeq (bSeq (bReg (f113_r9 c))
 (bCond (.tmp 75) (bSeq (bReg (f113_r10 c))
 (bEx .ret)) (bEx .nrm)))
 (bSeq (bReg (f113_r11 c))
 (bEx .ret)))) (bEx .nrm)))
 (bSeq (bReg (f113_r12 c))
 (bSeq (bSeq (bReg (f113_r13 c))
 (bCond (.tmp 136) (bSeq (bReg (f113_r14 c))
 (bEx .ret)) (bEx .nrm)))
 (bSeq (bSeq (bReg (f113_r15 c))
 (bCond (.tmp 158) (bSeq (bReg (f113_r16 c))
 (bEx .ret)) (bEx .nrm)))
 (bSeq (bSeq (bReg (f113_r17 c))
 (bCond (.tmp 181) (bSeq (bReg (f113_r18 c))
 (bEx .ret)) (bEx .nrm)))
 (bSeq (bReg (f113_r19 c))
 (bEx .ret)))))))))))
theorem f113_eq (c:CallF) (k:Nat):exec cx c 182 f113_an k (Try.f113.body.getD .skip)=f113 c k:=by kernel_rfl
def f117_an:Ann:=⟨[(0,r0 [0]),(1,r0 [0,3]),(2,r0 [0,3,13]),(3,r0 [0,3]),(4,r0 [0,3]),(5,r0 [0,3]),(6,r0 [0,3,53]),(7,r0 [2]),(8,r0 [2])],[]⟩
noncomputable def f117_r0 (c:CallF):RF:=rg [0] <| aX 2 (pM (cn (.int .i64 0)))<|aXZ
noncomputable def f117_r1 (c:CallF):RF:=rg [0,3] <| aX 3 (pM (cn (.int .i64 0)))<|aXZ
noncomputable def f117_r2 (c:CallF):RF:=rgD [0,3,13] (aY 4 (pM 0)<|aY 5 (pN 4)<|aY 6 (pF 1 1 5)<|aY 7 (pL false 1 6)<|aY 8 (pM 0)<|aY 9 (pN 8)<|aY 10 (pF 0 1 9)<|aY 11 (pL false 1 10)<|aY 12 (pLen 22 11)<|aY 13 (pB .lss 3 7 12)<|aYZ)
 (aXZ)
noncomputable def f117_r3 (c:CallF):RF:=rgD [0,3] (aY 14 (pM 0)<|aY 15 (pN 14)<|aY 16 (pF 0 1 15)<|aY 17 (pL false 1 16)<|aY 18 (pM 0)<|aY 19 (pN 18)<|aY 20 (pF 1 1 19)<|aY 21 (pL false 1 20)<|aY 22 (pI 1 17 21)<|aY 23 (pL false 1 22)<|aY 24 (fun n e M=>keep (aConvI .i64 (eget e 23)))<|aY 3 (pM 24)<|aYZ)
 (aXZ)
noncomputable def f117_r4 (c:CallF):RF:=rg [0,3] <| aX 25 (pM 0)<|aX 26 (pN 25)<|aX 27 (pF 1 1 26)<|aX 28 (pL false 1 27)<|aX 29 (pB .add 3 28 (cn (.int .i64 1)))<|aX 30 (pN 25)<|aX 31 (pF 1 1 30)<|aX0 (pS 1 31 29)<|aXZ
noncomputable def f117_r5 (c:CallF):RF:=rg [0,3] <| aX 32 (pM 0)<|aX 33 (pM 0)<|aX 34 (pN 33)<|aX 35 (pF 2 1 34)<|aX 36 (pL false 1 35)<|aX 37 (pB .mul 140 36 (cn (.int .u64 6364136223846793005)))<|aX 38 (pM 3)<|aX 39 (fun n e M=>keep (aConvI .u64 (eget e 38)))<|aX 40 (pB .add 140 37 39)<|aX 41 (pB .add 140 40 (cn (.int .u64 1442695040888963407)))<|aX 42 (pN 32)<|aX 43 (pF 2 1 42)<|aX0 (pS 1 43 41)<|aXZ
noncomputable def f117_r6 (c:CallF):RF:=rgD [0,3,53] (aY 44 (pM 0)<|aY 45 (pN 44)<|aY 46 (pF 1 1 45)<|aY 47 (pL false 1 46)<|aY 48 (pM 0)<|aY 49 (pN 48)<|aY 50 (pF 0 1 49)<|aY 51 (pL false 1 50)<|aY 52 (pLen 22 51)<|aY 53 (pB .leq 3 47 52)<|aYZ)
 (aXZ)
noncomputable def f117_r7 (c:CallF):RF:=rg [2] <| aX 54 (pM 3)<|aX 2 (pM 54)<|aXZ
noncomputable def f117_r8 (c:CallF):RF:=rg [2] <| aX 55 (pM 0)<|aX 56 (pN 55)<|aX 57 (pF 2 1 56)<|aX 58 (pL false 1 57)<|aX 59 (pB .shr 140 58 (cn (.int .u64 40)))<|aX 60 (pB .and 140 59 (cn (.int .u64 255)))<|aX 61 (fun n e M=>keep (aConvI .i64 (eget e 60)))<|aX 2 (pM 61)<|aXZ
noncomputable def f117 (c:CallF) (k:Nat):St:=
 (bSeq (bReg (f117_r0 c))
 (bSeq (bReg (f117_r1 c))
 (bSeq (bSeq (bReg (f117_r2 c))
 (bCond (.tmp 13) (bReg (f117_r3 c)) (bEx .nrm)))
 (bSeq (bReg (f117_r4 c))
 (bSeq (bReg (f117_r5 c))
 (bSeq (bSeq (bReg (f117_r6 c))
 (bCond (.tmp 53) (bSeq (bReg (f117_r7 c))
 (bEx .ret)) (bEx .nrm)))
 (bSeq (bReg (f117_r8 c))
 (bEx .ret))))))))
theorem f117_eq (c:CallF) (k:Nat):exec cx c 62 f117_an k (Try.f117.body.getD .skip)=f117 c k:=by kernel_rfl
def f141_an:Ann:=⟨[(0,r0 [0,1]),(1,r0 [4])],[]⟩
noncomputable def f141_r0 (c:CallF):RF:=rg [0,1] <| aX 4 (pM (cn (.bool false)))<|aXZ
noncomputable def f141_r1 (c:CallF):RF:=rg [4] <| aX 5 (pM 0)<|aX 6 (pM 1)<|aX 7 (pK c false 88 [5,6])<|aX 8 (pB .eql 2 7 (cn (.int .i64 0)))<|aX 4 (pM 8)<|aXZ
noncomputable def f141 (c:CallF) (k:Nat):St:=
 (bSeq (bReg (f141_r0 c))
 (bSeq (bReg (f141_r1 c))
 (bEx .ret)))
theorem f141_eq (c:CallF) (k:Nat):exec cx c 9 f141_an k (Try.f141.body.getD .skip)=f141 c k:=by kernel_rfl
def f142_an:Ann:=⟨[(0,r0 [0,1]),(1,r0 [0,1,7]),(2,r0 [4]),(3,r0 [4])],[]⟩
noncomputable def f142_r0 (c:CallF):RF:=rg [0,1] <| aX 4 (pM (cn (.int .i64 0)))<|aXZ
noncomputable def f142_r1 (c:CallF):RF:=rg [0,1,7] <| aX 5 (pM 0)<|aX 6 (pM 1)<|aX 7 (pB .gtr 2 5 6)<|aXZ
noncomputable def f142_r2 (c:CallF):RF:=rg [4] <| aX 8 (pM 0)<|aX 4 (pM 8)<|aXZ
noncomputable def f142_r3 (c:CallF):RF:=rg [4] <| aX 9 (pM 1)<|aX 4 (pM 9)<|aXZ
noncomputable def f142 (c:CallF) (k:Nat):St:=
 (bSeq (bReg (f142_r0 c))
 (bSeq (bSeq (bReg (f142_r1 c))
 (bCond (.tmp 7) (bSeq (bReg (f142_r2 c))
 (bEx .ret)) (bEx .nrm)))
 (bSeq (bReg (f142_r3 c))
 (bEx .ret))))
theorem f142_eq (c:CallF) (k:Nat):exec cx c 10 f142_an k (Try.f142.body.getD .skip)=f142 c k:=by kernel_rfl
def f143_an:Ann:=⟨[(0,r0 [0,1]),(1,r0 [0,1,7]),(2,r0 [4]),(3,r0 [4])],[]⟩
noncomputable def f143_r0 (c:CallF):RF:=rg [0,1] <| aX 4 (pM (cn (.int .i64 0)))<|aXZ
noncomputable def f143_r1 (c:CallF):RF:=rg [0,1,7] <| aX 5 (pM 0)<|aX 6 (pM 1)<|aX 7 (pB .lss 2 5 6)<|aXZ
noncomputable def f143_r2 (c:CallF):RF:=rg [4] <| aX 8 (pM 0)<|aX 4 (pM 8)<|aXZ
noncomputable def f143_r3 (c:CallF):RF:=rg [4] <| aX 9 (pM 1)<|aX 4 (pM 9)<|aXZ
noncomputable def f143 (c:CallF) (k:Nat):St:=
 (bSeq (bReg (f143_r0 c))
 (bSeq (bSeq (bReg (f143_r1 c))
 (bCond (.tmp 7) (bSeq (bReg (f143_r2 c))
 (bEx .ret)) (bEx .nrm)))
 (bSeq (bReg (f143_r3 c))
 (bEx .ret))))
theorem f143_eq (c:CallF) (k:Nat):exec cx c 10 f143_an k (Try.f143.body.getD .skip)=f143 c k:=by kernel_rfl
def f144_an:Ann:=⟨[(0,r0 [0]),(1,r0 [0,4]),(2,r0 [2]),(3,r0 [2])],[]⟩
noncomputable def f144_r0 (c:CallF):RF:=rg [0] <| aX 2 (pM (cn .nils))<|aXZ
noncomputable def f144_r1 (c:CallF):RF:=rg [0,4] <| aX 3 (pM 0)<|aX 4 (pB .eql 24 3 (cn .nils))<|aXZ
noncomputable def f144_r2 (c:CallF):RF:=rg [2] <| aX 2 (pM (cn .nils))<|aXZ
noncomputable def f144_r3 (c:CallF):RF:=rg [2] <| aX 5 (fun n e M=>keep (aLitI 2 1 [] M))<|aX 6 (pM 0)<|aX 7 (fun n e M=>aAppI 2 1 8 (eget e 5) (eget e 6) M)<|aX 2 (pM 7)<|aXZ
noncomputable def f144 (c:CallF) (k:Nat):St:=
 (bSeq (bReg (f144_r0 c))
 (bSeq (bSeq (bReg (f144_r1 c))
 (bCond (.tmp 4) (bSeq (bReg (f144_r2 c))
 (bEx .ret)) (bEx .nrm)))
 (bSeq (bReg (f144_r3 c))
 (bEx .ret))))
theorem f144_eq (c:CallF) (k:Nat):exec cx c 8 f144_an k (Try.f144.body.getD .skip)=f144 c k:=by kernel_rfl
def f145_an:Ann:=⟨[(0,r0 [0]),(1,r0 [0,4]),(2,r0 [2]),(3,r0 [2])],[]⟩
noncomputable def f145_r0 (c:CallF):RF:=rg [0] <| aX 2 (pM (cn .nils))<|aXZ
noncomputable def f145_r1 (c:CallF):RF:=rg [0,4] <| aX 3 (pM 0)<|aX 4 (pB .eql 25 3 (cn .nils))<|aXZ
noncomputable def f145_r2 (c:CallF):RF:=rg [2] <| aX 2 (pM (cn .nils))<|aXZ
noncomputable def f145_r3 (c:CallF):RF:=rg [2] <| aX 5 (fun n e M=>keep (aLitI 49 5 [] M))<|aX 6 (pM 0)<|aX 7 (fun n e M=>aAppI 49 5 40 (eget e 5) (eget e 6) M)<|aX 2 (pM 7)<|aXZ
noncomputable def f145 (c:CallF) (k:Nat):St:=
 (bSeq (bReg (f145_r0 c))
 (bSeq (bSeq (bReg (f145_r1 c))
 (bCond (.tmp 4) (bSeq (bReg (f145_r2 c))
 (bEx .ret)) (bEx .nrm)))
 (bSeq (bReg (f145_r3 c))
 (bEx .ret))))
theorem f145_eq (c:CallF) (k:Nat):exec cx c 8 f145_an k (Try.f145.body.getD .skip)=f145 c k:=by kernel_rfl
def anns:List (Nat×Ann):=[(3,f3_an),(6,f6_an),(7,f7_an),(8,f8_an),(9,f9_an),(10,f10_an),(11,f11_an),(12,f12_an),(13,f13_an),(14,f14_an),(15,f15_an),(16,f16_an),(17,f17_an),(18,f18_an),(19,f19_an),(20,f20_an),(21,f21_an),(22,f22_an),(23,f23_an),(26,f26_an),(30,f30_an),(50,f50_an),(51,f51_an),(52,f52_an),(53,f53_an),(54,f54_an),(55,f55_an),(56,f56_an),(57,f57_an),(58,f58_an),(59,f59_an),(60,f60_an),(61,f61_an),(62,f62_an),(63,f63_an),(64,f64_an),(65,f65_an),(66,f66_an),(67,f67_an),(68,f68_an),(69,f69_an),(70,f70_an),(71,f71_an),(74,f74_an),(75,f75_an),(76,f76_an),(77,f77_an),(78,f78_an),(79,f79_an),(80,f80_an),(87,f87_an),(88,f88_an),(89,f89_an),(90,f90_an),(105,f105_an),(106,f106_an),(107,f107_an),(108,f108_an),(109,f109_an),(110,f110_an),(111,f111_an),(112,f112_an),(113,f113_an),(117,f117_an),(141,f141_an),(142,f142_an),(143,f143_an),(144,f144_an),(145,f145_an)]
noncomputable def CN0:Nat→CallF:=callN cx (Go.Ab.look anns) (fun _ _ _=>none) (fun _=>false)
def isP (f:Nat):Bool:=has [144,145] f
noncomputable def primF:CallF:=splitNil (callN cx (Go.Ab.look anns) (fun _ _ _=>none) (fun _=>false) 3)
noncomputable def CN:Nat→CallF:=callN cx (Go.Ab.look anns) primF isP
end Go.Proofs.Ytjlalepbhcekoaa

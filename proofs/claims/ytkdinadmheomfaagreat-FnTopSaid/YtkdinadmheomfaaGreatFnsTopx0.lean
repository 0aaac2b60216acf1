/- Printed by a program of ours (ext.py). -/
import Derived.Test.YtkdinadmheomfaaGreatAbGhL
import Derived.Test.YtkdinadmheomfaaGreatProg
set_option linter.unusedVariables false
set_option linter.unusedSimpArgs false
set_option maxRecDepth 100000
set_option maxHeartbeats 20000000
namespace Go.Proofs.YtkdinadmheomfaaGreat
open Go Go.Ab
theorem E {α:Sort _} {a:α}:a=a:=rfl
noncomputable def cx:Cx:=⟨Tryz.prog,fun f=>fg [31,32,47,48,51,53,59,87,101,102,105,115] f,fun f=>fg [7,8,9,11,12,13,14,16,19,47,51,61,101,102] f⟩
noncomputable abbrev pB:=pB_ cx.P
noncomputable abbrev dl:=pLen_ cx.P
noncomputable abbrev nG:=pAl_ cx.P
noncomputable abbrev pK:=pK_ cx
def Lr:Ann:=⟨[(0,r0 [0,1]),(1,r0 [0,1,49]),(2,r0 [4]),(3,r0 [0,1,5,6]),(4,r0 [0,1,5,6,7,8]),(5,r0 [0,1,5,6,7,8,9,10]),(6,r0 [0,1,7,8,9,10,11,12]),(7,r0 [0,1,9,97]),(8,r0 [4]),(9,r0 [0,1,9,13]),(10,r0 [0,1,9,13,14,15]),(11,r0 [0,1,9,13,14,15,16,17]),(12,r0 [0,1,9,13,14,15,16,17,18,20]),(13,r0 [0,1,9,13,14,15,16,17,18,20,21,23]),(14,r0 [0,1,9,13,21,152]),(15,r0 [4]),(16,r0 [0,1,9,13,24,25]),(17,r0 [0,1,9,13,24,166]),(18,r0 [4]),(19,r0 [0,1,9,13,24,26]),(20,r0 [0,1,9,13,24,26,169]),(21,r0 [0,1,9,13,24,26]),(22,r0 [0,1,9,13,24,26,27,28]),(23,r0 [0,1,9,13,24,26,193]),(24,r0 [4]),(25,r0 [0,29]),(26,r0 [29,30,31,32]),(27,r0 [29,30,31,32,205]),(28,r0 [4]),(29,r0 [29,30,31,33,34]),(30,r0 [29,30,31,33,34,35,36]),(31,r0 [29,30,31,33,34,35,36,37,38]),(32,r0 [29,30,31,33,34,35,36,37,38,39,40]),(33,r0 [29,31,33,34,35,36,37,38,39,40,41]),(34,r0 [29,33,34,35,36,37,38,39,40,41,43]),(35,r0 [29,33,34,35,36,38,39,40,41,43,45]),(36,r0 [29,33,34,35,36,38,39,40,256]),(37,r0 [4]),(38,r0 [4])],[(20,[0,1,9,13,24,26])]⟩
noncomputable def GK (c:bh) (k:Nat):St:=
 (ak (ak (ap (rg [0,1,9,13,24,26,169] <| aX 167 (pM 26)<|aX 168 (pM 13)<|aX 169 (pB .lss 2 167 168)<|aXZ))
 (bJ (.tmp 169) (bV .nrm) (bV (.ext 0))))
 (ak (bU 1 (ak (ap (rg [0,1,9,13,24,26,27,28] <| aX 173 (pL true 3 9)<|aX 174 (pM 26)<|aX 175 (pK c false 17 [173,174])<|aX 172 (pM 175)<|aX 176 (pE 0 172)<|aX 177 (pE 1 172)<|aX 27 (pM 176)<|aX 28 (pM 177)<|aXZ))
 (ak (ap (mM [0,1,9,13,24,26,193] (aY 178 (pM 28)<|aY 179 (pB .neq 2 178 (cnI 0))<|aY 180 (pM 179)<|aY 181 (pG 180 false (pM 27))<|aY 182 (pG 180 false (pF 1 1 9))<|aY 183 (pG 180 false (pL false 1 182))<|aY 184 (pG 180 false (pM 26))<|aY 185 (pG 180 false (pI 1 183 184))<|aY 186 (pG 180 false (pL false 1 185))<|aY 187 (pG 180 false (pM 24))<|aY 188 (pG 180 false (pM 26))<|aY 189 (pG 180 false (pI 1 187 188))<|aY 190 (pG 180 false (pL false 1 189))<|aY 191 (pG 180 false (pB .add 2 186 190))<|aY 192 (pG 180 false (pB .neq 2 181 191))<|aY 193 (pP 180 (cn (.bool true)) 192)<|aYZ) (aXZ)))
 (bJ (.tmp 193) (ak (ap (rg [4] <| aX 4 (pM (cn (.bool false)))<|aXZ))
 (bV .ret)) (bV .nrm)))))
 (ap (rg [0,1,9,13,24,26] <| aX 170 (pM 26)<|aX 171 (pB .add 2 170 (cnI 1))<|aX 26 (pM 171)<|aXZ))))
noncomputable def f3 (c:bh) (k:Nat):St:=
 (ak (ap (rg [0,1] <| aX 4 (pM (cn (.bool false)))<|aXZ))
 (ak (ak (ap (rg [0,1,49] <| aX 47 (pM 0)<|aX 48 (pM 1)<|aX 49 (pK c false 5 [47,48])<|aXZ))
 (bJ (.tmp 49) (ak (ap (rg [4] <| aX 4 (pM (cn (.bool true)))<|aXZ))
 (bV .ret)) (bV .nrm)))
 (ak (ap (rg [0,1,5,6] <| aX 51 (pM 0)<|aX 52 (pK c false 6 [51])<|aX 50 (pM 52)<|aX 53 (pE 0 50)<|aX 54 (pE 1 50)<|aX 5 (nG 27 3)<|aX0 (pS 3 5 53)<|aX 6 (pM 54)<|aXZ))
 (ak (ap (rg [0,1,5,6,7,8] <| aX 56 (pL true 3 5)<|aX 57 (pM 6)<|aX 58 (pK c false 7 [56,57])<|aX 55 (pM 58)<|aX 59 (pE 0 55)<|aX 60 (pE 1 55)<|aX 7 (nG 27 3)<|aX0 (pS 3 7 59)<|aX 8 (pM 60)<|aXZ))
 (ak (ap (rg [0,1,5,6,7,8,9,10] <| aX 62 (pL true 3 5)<|aX 63 (pM 6)<|aX 64 (pK c false 8 [62,63])<|aX 61 (pM 64)<|aX 65 (pE 0 61)<|aX 66 (pE 1 61)<|aX 9 (nG 27 3)<|aX0 (pS 3 9 65)<|aX 10 (pM 66)<|aXZ))
 (ak (ap (rg [0,1,7,8,9,10,11,12] <| aX 68 (pL true 3 5)<|aX 69 (pM 6)<|aX 70 (pF 0 1 9)<|aX 71 (pL false 1 70)<|aX 72 (pK c false 9 [68,69,71])<|aX 67 (pM 72)<|aX 73 (pE 0 67)<|aX 74 (pE 1 67)<|aX 11 (nG 27 3)<|aX0 (pS 3 11 73)<|aX 12 (pM 74)<|aXZ))
 (ak (ak (ap (rg [0,1,9,97] <| aX 75 (pM 8)<|aX 76 (pM 10)<|aX 77 (pB .neq 2 75 76)<|aX 78 (pM 77)<|aX 79 (pG 78 false (pM 8))<|aX 80 (pG 78 false (pB .neq 2 79 (cnI 0)))<|aX 81 (pP 78 (cn (.bool true)) 80)<|aX 82 (pM 81)<|aX 83 (pG 82 false (pL true 3 7))<|aX 84 (pG 82 false (pL true 3 9))<|aX 85 (pG 82 false (pK c false 10 [83,84]))<|aX 86 (pG 82 false (pU .not 85))<|aX 87 (pP 82 (cn (.bool true)) 86)<|aX 88 (pM 87)<|aX 89 (pG 88 false (pM 12))<|aX 90 (pG 88 false (pB .neq 2 89 (cnI 0)))<|aX 91 (pP 88 (cn (.bool true)) 90)<|aX 92 (pM 91)<|aX 93 (pG 92 false (pL true 3 11))<|aX 94 (pG 92 false (pL true 3 9))<|aX 95 (pG 92 false (pK c false 10 [93,94]))<|aX 96 (pG 92 false (pU .not 95))<|aX 97 (pP 92 (cn (.bool true)) 96)<|aXZ))
 (bJ (.tmp 97) (ak (ap (rg [4] <| aX 4 (pM (cn (.bool false)))<|aXZ))
 (bV .ret)) (bV .nrm)))
 (ak (ap (rg [0,1,9,13] <| aX 98 (pF 1 1 9)<|aX 99 (pL false 1 98)<|aX 100 (dl 24 99)<|aX 13 (pM 100)<|aXZ))
 (ak (ap (rg [0,1,9,13,14,15] <| aX 102 (pL true 3 9)<|aX 103 (pK c false 11 [102])<|aX 101 (pM 103)<|aX 104 (pE 0 101)<|aX 105 (pE 1 101)<|aX 14 (pM 104)<|aX 15 (pM 105)<|aXZ))
 (ak (ap (rg [0,1,9,13,14,15,16,17] <| aX 107 (pL true 3 9)<|aX 108 (pK c false 12 [107])<|aX 106 (pM 108)<|aX 109 (pE 0 106)<|aX 110 (pE 1 106)<|aX 16 (pM 109)<|aX 17 (pM 110)<|aXZ))
 (ak (ap (rg [0,1,9,13,14,15,16,17,18,20] <| aX 112 (pM 13)<|aX 113 (pM 16)<|aX 114 (pK c false 13 [112,113])<|aX 111 (pM 114)<|aX 115 (pE 0 111)<|aX 116 (pE 1 111)<|aX 117 (pE 2 111)<|aX 18 (pM 115)<|aX 19 (pM 116)<|aX 20 (pM 117)<|aXZ))
 (ak (ap (rg [0,1,9,13,14,15,16,17,18,20,21,23] <| aX 119 (pM 13)<|aX 120 (pM 16)<|aX 121 (pK c false 14 [119,120])<|aX 118 (pM 121)<|aX 122 (pE 0 118)<|aX 123 (pE 1 118)<|aX 124 (pE 2 118)<|aX 21 (pM 122)<|aX 22 (pM 123)<|aX 23 (pM 124)<|aXZ))
 (ak (ak (ap (rg [0,1,9,13,21,152] <| aX 125 (pM 15)<|aX 126 (pM 17)<|aX 127 (pB .neq 2 125 126)<|aX 128 (pM 127)<|aX 129 (pG 128 false (pM 15))<|aX 130 (pG 128 false (pB .neq 2 129 (cnI 0)))<|aX 131 (pP 128 (cn (.bool true)) 130)<|aX 132 (pM 131)<|aX 133 (pG 132 false (pM 14))<|aX 134 (pG 132 false (pM 16))<|aX 135 (pG 132 false (pK c false 15 [133,134]))<|aX 136 (pG 132 false (pU .not 135))<|aX 137 (pP 132 (cn (.bool true)) 136)<|aX 138 (pM 137)<|aX 139 (pG 138 false (pM 20))<|aX 140 (pG 138 false (pM 23))<|aX 141 (pG 138 false (pB .neq 2 139 140))<|aX 142 (pP 138 (cn (.bool true)) 141)<|aX 143 (pM 142)<|aX 144 (pG 143 false (pM 20))<|aX 145 (pG 143 false (pB .neq 2 144 (cnI 0)))<|aX 146 (pP 143 (cn (.bool true)) 145)<|aX 147 (pM 146)<|aX 148 (pG 147 false (pM 18))<|aX 149 (pG 147 false (pM 21))<|aX 150 (pG 147 false (pK c false 15 [148,149]))<|aX 151 (pG 147 false (pU .not 150))<|aX 152 (pP 147 (cn (.bool true)) 151)<|aXZ))
 (bJ (.tmp 152) (ak (ap (rg [4] <| aX 4 (pM (cn (.bool false)))<|aXZ))
 (bV .ret)) (bV .nrm)))
 (ak (ap (rg [0,1,9,13,24,25] <| aX 154 (pM 13)<|aX 155 (pM 21)<|aX 156 (pK c false 16 [154,155])<|aX 153 (pM 156)<|aX 157 (pE 0 153)<|aX 158 (pE 1 153)<|aX 24 (pM 157)<|aX 25 (pM 158)<|aXZ))
 (ak (ak (ap (rg [0,1,9,13,24,166] <| aX 159 (pM 25)<|aX 160 (pB .neq 2 159 (cnI 0))<|aX 161 (pM 160)<|aX 162 (pG 161 false (pM 24))<|aX 163 (pG 161 false (dl 24 162))<|aX 164 (pG 161 false (pM 13))<|aX 165 (pG 161 false (pB .neq 2 163 164))<|aX 166 (pP 161 (cn (.bool true)) 165)<|aXZ))
 (bJ (.tmp 166) (ak (ap (rg [4] <| aX 4 (pM (cn (.bool false)))<|aXZ))
 (bV .ret)) (bV .nrm)))
 (ak (ak (ap (rg [0,1,9,13,24,26] <| aX 26 (pM (cnI 0))<|aXZ))
 (bU 0 (cD [0,1,9,13,24,26] (GK c k) k)))
 (ak (ap (rg [0,29] <| aX 194 (pM 1)<|aX 195 (pK c false 18 [194])<|aX 29 (pM 195)<|aXZ))
 (ak (ap (rg [29,30,31,32] <| aX 197 (pM 29)<|aX 198 (pM 0)<|aX 199 (pK c false 20 [198])<|aX 200 (pK c false 19 [197,199])<|aX 196 (pM 200)<|aX 201 (pE 0 196)<|aX 202 (pE 1 196)<|aX 203 (pE 2 196)<|aX 30 (nG 51 18)<|aX 31 (nG 51 18)<|aX0 (pS 18 30 201)<|aX0 (pS 18 31 202)<|aX 32 (pM 203)<|aXZ))
 (ak (ak (ap (rg [29,30,31,32,205] <| aX 204 (pM 32)<|aX 205 (pB .neq 2 204 (cnI 0))<|aXZ))
 (bJ (.tmp 205) (ak (ap (rg [4] <| aX 206 (pM 32)<|aX 207 (pB .eql 2 206 (cnI 3))<|aX 4 (pM 207)<|aXZ))
 (bV .ret)) (bV .nrm)))
 (ak (ap (rg [29,30,31,33,34] <| aX 209 (pL true 18 30)<|aX 210 (pL true 18 31)<|aX 211 (pK c false 21 [209,210,(cnI 0)])<|aX 208 (pM 211)<|aX 212 (pE 0 208)<|aX 213 (pE 1 208)<|aX 33 (pM 212)<|aX 34 (pM 213)<|aXZ))
 (ak (ap (rg [29,30,31,33,34,35,36] <| aX 215 (pL true 18 31)<|aX 216 (pK c false 22 [215])<|aX 214 (pM 216)<|aX 217 (pE 0 214)<|aX 218 (pE 1 214)<|aX 35 (pM 217)<|aX 36 (pM 218)<|aXZ))
 (ak (ap (rg [29,30,31,33,34,35,36,37,38] <| aX 220 (pM 29)<|aX 221 (pK c false 23 [220])<|aX 219 (pM 221)<|aX 222 (pE 0 219)<|aX 223 (pE 1 219)<|aX 37 (nG 60 6)<|aX0 (pS 6 37 222)<|aX 38 (pM 223)<|aXZ))
 (ak (ap (rg [29,30,31,33,34,35,36,37,38,39,40] <| aX 225 (pL true 6 37)<|aX 226 (pK c false 24 [225])<|aX 224 (pM 226)<|aX 227 (pE 0 224)<|aX 228 (pE 1 224)<|aX 39 (pM 227)<|aX 40 (pM 228)<|aXZ))
 (ak (ap (rg [29,31,33,34,35,36,37,38,39,40,41] <| aX 230 (pL true 18 30)<|aX 231 (pL true 18 31)<|aX 232 (pK c false 25 [230,231,(cnI 0)])<|aX 229 (pM 232)<|aX 233 (pE 0 229)<|aX 234 (pE 1 229)<|aX 41 (pM 233)<|aX 42 (pM 234)<|aXZ))
 (ak (ap (rg [29,33,34,35,36,37,38,39,40,41,43] <| aX 236 (pL true 18 31)<|aX 237 (pK c false 26 [236])<|aX 235 (pM 237)<|aX 238 (pE 0 235)<|aX 239 (pE 1 235)<|aX 43 (pM 238)<|aX 44 (pM 239)<|aXZ))
 (ak (ap (rg [29,33,34,35,36,38,39,40,41,43,45] <| aX 241 (pL true 6 37)<|aX 242 (pK c false 27 [241])<|aX 240 (pM 242)<|aX 243 (pE 0 240)<|aX 244 (pE 1 240)<|aX 45 (pM 243)<|aX 46 (pM 244)<|aXZ))
 (ak (ak (ap (rg [29,33,34,35,36,38,39,40,256] <| aX 245 (pM 41)<|aX 246 (pU .not 245)<|aX 247 (pM 246)<|aX 248 (pG 247 false (pM 43))<|aX 249 (pG 247 false (pM 29))<|aX 250 (pG 247 false (pB .neq 2 248 249))<|aX 251 (pP 247 (cn (.bool true)) 250)<|aX 252 (pM 251)<|aX 253 (pG 252 false (pM 45))<|aX 254 (pG 252 false (pM 29))<|aX 255 (pG 252 false (pB .neq 2 253 254))<|aX 256 (pP 252 (cn (.bool true)) 255)<|aXZ))
 (bJ (.tmp 256) (ak (ap (rg [4] <| aX 4 (pM (cn (.bool false)))<|aXZ))
 (bV .ret)) (bV .nrm)))
 (ak (ap (rg [4] <| aX 257 (pM 34)<|aX 258 (pB .eql 2 257 (cnI 0))<|aX 259 (pM 258)<|aX 260 (pG 259 true (pM 33))<|aX 261 (pP 259 260 (cn (.bool false)))<|aX 262 (pM 261)<|aX 263 (pG 262 true (pM 36))<|aX 264 (pG 262 true (pB .eql 2 263 (cnI 0)))<|aX 265 (pP 262 264 (cn (.bool false)))<|aX 266 (pM 265)<|aX 267 (pG 266 true (pM 35))<|aX 268 (pG 266 true (pM 29))<|aX 269 (pG 266 true (pB .eql 2 267 268))<|aX 270 (pP 266 269 (cn (.bool false)))<|aX 271 (pM 270)<|aX 272 (pG 271 true (pM 38))<|aX 273 (pG 271 true (pB .eql 2 272 (cnI 0)))<|aX 274 (pP 271 273 (cn (.bool false)))<|aX 275 (pM 274)<|aX 276 (pG 275 true (pM 40))<|aX 277 (pG 275 true (pB .eql 2 276 (cnI 0)))<|aX 278 (pP 275 277 (cn (.bool false)))<|aX 279 (pM 278)<|aX 280 (pG 279 true (pM 39))<|aX 281 (pG 279 true (pM 29))<|aX 282 (pG 279 true (pB .eql 2 280 281))<|aX 283 (pP 279 282 (cn (.bool false)))<|aX 4 (pM 283)<|aXZ))
 (bV .ret)))))))))))))))))))))))))))))
theorem Oh (c:bh) (k:Nat):cf cx c 284 Lr k (Tryz.f3.body.getD .skip)=f3 c k:=by kernel_rfl
def Lp:Ann:=⟨[(0,r0 [0,1]),(1,r0 [4])],[]⟩
noncomputable def f5 (c:bh) (k:Nat):St:=
 (ak (ap (rg [0,1] <| aX 4 (pM (cn (.bool false)))<|aXZ))
 (ak (ap (rg [4] <| aX 5 (pM 0)<|aX 6 (dl 22 5)<|aX 7 (pB .gtr 3 6 (cnI 3000))<|aX 8 (pM 7)<|aX 9 (pG 8 false (pM 1))<|aX 10 (pG 8 false (dl 22 9))<|aX 11 (pG 8 false (pB .gtr 3 10 (cnI 3000)))<|aX 12 (pP 8 (cn (.bool true)) 11)<|aX 4 (pM 12)<|aXZ))
 (bV .ret)))
theorem N1 (c:bh) (k:Nat):cf cx c 13 Lp k (Tryz.f5.body.getD .skip)=f5 c k:=by kernel_rfl
def Lm:Ann:=⟨[(0,r0 [0,2]),(1,r0 [2,3])],[]⟩
noncomputable def f6 (c:bh) (k:Nat):St:=
 (ak (ap (rg [0,2] <| aX 2 (nG 27 3)<|aX 3 (pM (cn .nils))<|aXZ))
 (ak (ap (rg [2,3] <| aX 4 (pM 0)<|aX 5 (pK c false 32 [4])<|aX 6 (pK c false 31 [5])<|aX 7 (pE 0 6)<|aX 8 (pE 1 6)<|aX0 (pS 3 2 7)<|aX 3 (pM 8)<|aXZ))
 (bV .ret)))
theorem NY (c:bh) (k:Nat):cf cx c 9 Lm k (Tryz.f6.body.getD .skip)=f6 c k:=by kernel_rfl
def Lk:Ann:=⟨[(0,r0 [1,2,4]),(1,r0 [1,2,4,6]),(2,r0 [1,2,4,6,11]),(3,r0 [4,5]),(4,r0 [4,5])],[]⟩
noncomputable def f7 (c:bh) (k:Nat):St:=
 (ak (ap (rg [1,2,4] <| aX 2 (pBox 3 0)<|aX 4 (nG 27 3)<|aX 5 (pM (cnI 0))<|aXZ))
 (ak (ak (ap (rg [1,2,4,6] <| aX 7 (pL true 3 2)<|aX 8 (pM 1)<|aX 9 (pK c false 33 [7,8])<|aX 6 (pM 9)<|aXZ))
 (ak (ap (rg [1,2,4,6,11] <| aX 10 (pM 6)<|aX 11 (pB .neq 2 10 (cnI 0))<|aXZ))
 (bJ (.tmp 11) (ak (ap (rg [4,5] <| aX 12 (fun n e M=>keep (db (b5 cx.P 27) [] M))<|aX 13 (pM 6)<|aX0 (pS 3 4 12)<|aX 5 (pM 13)<|aXZ))
 (bV .ret)) (bV .nrm))))
 (ak (ap (rg [4,5] <| aX 14 (pL true 3 2)<|aX 15 (pM 1)<|aX 16 (pK c false 34 [14,15])<|aX 17 (pE 0 16)<|aX 18 (pE 1 16)<|aX0 (pS 3 4 17)<|aX 5 (pM 18)<|aXZ))
 (bV .ret))))
theorem NN (c:bh) (k:Nat):cf cx c 19 Lk k (Tryz.f7.body.getD .skip)=f7 c k:=by kernel_rfl
def Lq:Ann:=⟨[(0,r0 [1,2,4]),(1,r0 [1,2,4,6]),(2,r0 [1,2,4,6,13]),(3,r0 [4,5]),(4,r0 [2,4,7,8]),(5,r0 [2,4,7,8,23]),(6,r0 [4,5]),(7,r0 [2,4,7,28]),(8,r0 [4,5]),(9,r0 [4,5])],[]⟩
noncomputable def f8 (c:bh) (k:Nat):St:=
 (ak (ap (rg [1,2,4] <| aX 2 (pBox 3 0)<|aX 4 (nG 27 3)<|aX 5 (pM (cnI 0))<|aXZ))
 (ak (ak (ap (rg [1,2,4,6] <| aX 10 (pM 1)<|aX 11 (pK c false 35 [2,10])<|aX 6 (pM 11)<|aXZ))
 (ak (ap (rg [1,2,4,6,13] <| aX 12 (pM 6)<|aX 13 (pB .neq 2 12 (cnI 0))<|aXZ))
 (bJ (.tmp 13) (ak (ap (rg [4,5] <| aX 14 (fun n e M=>keep (db (b5 cx.P 27) [] M))<|aX 15 (pM 6)<|aX0 (pS 3 4 14)<|aX 5 (pM 15)<|aXZ))
 (bV .ret)) (bV .nrm))))
 (ak (ap (rg [2,4,7,8] <| aX 17 (pM 1)<|aX 18 (pK c false 36 [2,17])<|aX 16 (pM 18)<|aX 19 (pE 0 16)<|aX 20 (pE 1 16)<|aX 21 (pE 2 16)<|aX 7 (pM 19)<|aX 8 (pM 20)<|aX 9 (pM 21)<|aXZ))
 (ak (ak (ap (rg [2,4,7,8,23] <| aX 22 (pM 8)<|aX 23 (pB .neq 2 22 (cnI 0))<|aXZ))
 (bJ (.tmp 23) (ak (ap (rg [4,5] <| aX 24 (fun n e M=>keep (db (b5 cx.P 27) [] M))<|aX 25 (pM 8)<|aX0 (pS 3 4 24)<|aX 5 (pM 25)<|aXZ))
 (bV .ret)) (bV .nrm)))
 (ak (ak (ap (rg [2,4,7,28] <| aX 26 (pM 7)<|aX 27 (dl 73 26)<|aX 28 (pB .eql 3 27 (cnI 0))<|aXZ))
 (bJ (.tmp 28) (ak (ap (rg [4,5] <| aX 29 (pK c false 37 [2])<|aX0 (pS 3 4 29)<|aX 5 (pM (cnI 0))<|aXZ))
 (bV .ret)) (bV .nrm)))
 (ak (ap (rg [4,5] <| aX 30 (pM 7)<|aX 31 (pM 7)<|aX 32 (dl 73 31)<|aX 33 (pB .sub 3 32 (cnI 1))<|aX 34 (pI 3 30 33)<|aX 35 (pK c false 37 [34])<|aX0 (pS 3 4 35)<|aX 5 (pM (cnI 0))<|aXZ))
 (bV .ret)))))))
theorem N3 (c:bh) (k:Nat):cf cx c 36 Lq k (Tryz.f8.body.getD .skip)=f8 c k:=by kernel_rfl
def Ll:Ann:=⟨[(0,r0 [1,2,3,6]),(1,r0 [1,2,3,6,8]),(2,r0 [1,2,3,6,8,13]),(3,r0 [6,7]),(4,r0 [1,2,3,6,18]),(5,r0 [6,7]),(6,r0 [6,7])],[]⟩
noncomputable def f9 (c:bh) (k:Nat):St:=
 (ak (ap (rg [1,2,3,6] <| aX 3 (pBox 3 0)<|aX 6 (nG 27 3)<|aX 7 (pM (cnI 0))<|aXZ))
 (ak (ak (ap (rg [1,2,3,6,8] <| aX 9 (pL true 3 3)<|aX 10 (pM 1)<|aX 11 (pK c false 33 [9,10])<|aX 8 (pM 11)<|aXZ))
 (ak (ap (rg [1,2,3,6,8,13] <| aX 12 (pM 8)<|aX 13 (pB .neq 2 12 (cnI 0))<|aXZ))
 (bJ (.tmp 13) (ak (ap (rg [6,7] <| aX 14 (fun n e M=>keep (db (b5 cx.P 27) [] M))<|aX 15 (pM 8)<|aX0 (pS 3 6 14)<|aX 7 (pM 15)<|aXZ))
 (bV .ret)) (bV .nrm))))
 (ak (ak (ap (rg [1,2,3,6,18] <| aX 16 (pM 2)<|aX 17 (pK c false 38 [16])<|aX 18 (pU .not 17)<|aXZ))
 (bJ (.tmp 18) (ak (ap (rg [6,7] <| aX 19 (fun n e M=>keep (db (b5 cx.P 27) [] M))<|aX0 (pS 3 6 19)<|aX 7 (pM (cnI 2))<|aXZ))
 (bV .ret)) (bV .nrm)))
 (ak (ap (rg [6,7] <| aX 20 (pL true 3 3)<|aX 21 (pM 1)<|aX 22 (pM 2)<|aX 23 (pK c false 39 [20,21,22])<|aX 24 (pE 0 23)<|aX 25 (pE 1 23)<|aX0 (pS 3 6 24)<|aX 7 (pM 25)<|aXZ))
 (bV .ret)))))
theorem N2 (c:bh) (k:Nat):cf cx c 26 Ll k (Tryz.f9.body.getD .skip)=f9 c k:=by kernel_rfl
def Ht:Ann:=⟨[(0,r0 [2,3]),(1,r0 [4])],[]⟩
noncomputable def f10 (c:bh) (k:Nat):St:=
 (ak (ap (rg [2,3] <| aX 2 (pBox 3 0)<|aX 3 (pBox 3 1)<|aX 4 (pM (cn (.bool false)))<|aXZ))
 (ak (ap (rg [4] <| aX 5 (pK c false 40 [2,3])<|aX 4 (pM 5)<|aXZ))
 (bV .ret)))
theorem L8 (c:bh) (k:Nat):cf cx c 6 Ht k (Tryz.f10.body.getD .skip)=f10 c k:=by kernel_rfl
def H8:Ann:=⟨[(0,r0 [1]),(1,r0 [1,9]),(2,r0 [2,3]),(3,⟨[0],[],[],[],[1,4],none,[]⟩),(4,r0 [1,4,12,13,14]),(5,r0 [1,4,12,13,14,15]),(6,r0 [1,4,6,12,13,14]),(7,r0 [1,4,6,12,13,14,20]),(8,⟨[9],[],[],[],[1,4,12,13,14],none,[]⟩),(9,r0 [1,4,12,13,14]),(10,r0 [2,3])],[(5,[1,4,12,13,14])]⟩
noncomputable def G0 (c:bh) (k:Nat):St:=
 (ak (ap (rg [1,4,12,13,14,15] <| aX 15 (pB .lss 3 14 13)<|aXZ))
 (ak (bJ (.tmp 15) (bV .nrm) (bV (.ext 0)))
 (ak (bU 1 (ak (ap (rg [1,4,6,12,13,14] <| aX 16 (pI 5 12 14)<|aX 17 (pL true 5 16)<|aX 6 (nG 80 5)<|aX0 (pS 5 6 17)<|aXZ))
 (ak (ap (rg [1,4,6,12,13,14,20] <| aX 18 (pF 4 1 6)<|aX 19 (pL false 1 18)<|aX 20 (pB .gtr 2 19 (cnI 0))<|aXZ))
 (bJ (.tmp 20) (ap (rg [1,4,12,13,14] <| aX 21 (pM 4)<|aX 22 (pF 0 1 6)<|aX 23 (pL false 1 22)<|aX 24 (pF 1 1 6)<|aX 25 (pL false 1 24)<|aX 26 (pF 4 1 6)<|aX 27 (pL false 1 26)<|aX 28 (fun n e M=>keep (db (b5 cx.P 82) [(0,1,(a3 e 23)),(1,1,(a3 e 25)),(2,1,(a3 e 27))] M))<|aX 29 (fun n e M=>keep (eX 82 3 [(a3 e 28)] M))<|aX 30 (fun n e M=>ks n 82 3 24 (a3 e 21) (a3 e 29) M)<|aX 4 (pM 30)<|aXZ)) (bV .nrm)))))
 (ap (rg [1,4,12,13,14] <| aX 31 (pB .add 3 14 (cnI 1))<|aX 14 (pM 31)<|aXZ)))))
noncomputable def f11 (c:bh) (k:Nat):St:=
 (ak (ap (rg [1] <| aX 1 (pBox 3 0)<|aX 2 (pM (cn .nils))<|aX 3 (pM (cnI 0))<|aXZ))
 (ak (ak (ap (rg [1,9] <| aX 7 (pL true 3 1)<|aX 8 (pK c false 41 [7])<|aX 9 (pU .not 8)<|aXZ))
 (bJ (.tmp 9) (ak (ap (rg [2,3] <| aX 2 (pM (cn .nils))<|aX 3 (pM (cnI 1))<|aXZ))
 (bV .ret)) (bV .nrm)))
 (ak (ap (rg [1,4] <| aX 10 (fun n e M=>o8 false n 82 3 [] M)<|aX 4 (pM 10)<|aXZ))
 (ak (ak (ap (rg [1,4,12,13,14] <| aX 11 (pF 2 1 1)<|aX 12 (pL false 1 11)<|aX 13 (dl 25 12)<|aX 14 (pM (cnI 0))<|aXZ))
 (bU 0 (cD [1,4,12,13,14] (G0 c k) k)))
 (ak (ap (rg [2,3] <| aX 32 (pF 1 1 1)<|aX 33 (pL false 1 32)<|aX 34 (dl 24 33)<|aX 35 (pM 4)<|aX 36 (pK c false 42 [34,35])<|aX 37 (pE 0 36)<|aX 38 (pE 1 36)<|aX 2 (pM 37)<|aX 3 (pM 38)<|aXZ))
 (bV .ret))))))
theorem Mb (c:bh) (k:Nat):cf cx c 39 H8 k (Tryz.f11.body.getD .skip)=f11 c k:=by kernel_rfl
def Jn:Ann:=⟨[(0,r0 [1]),(1,r0 [1,8]),(2,r0 [2,3]),(3,⟨[0],[],[],[],[1,4],none,[]⟩),(4,r0 [1,4,5]),(5,r0 [1,4,5,15]),(6,r0 [1,4,5]),(7,r0 [1,4,5,6]),(8,r0 [1,4,5,6,26]),(9,⟨[15],[],[],[15,16],[1,4,5],none,[]⟩),(10,r0 [2,3])],[(5,[1,4,5])]⟩
noncomputable def H0 (c:bh) (k:Nat):St:=
 (ak (ak (ap (rg [1,4,5,15] <| aX 11 (pM 5)<|aX 12 (pF 2 1 1)<|aX 13 (pL false 1 12)<|aX 14 (dl 25 13)<|aX 15 (pB .lss 3 11 14)<|aXZ))
 (bJ (.tmp 15) (bV .nrm) (bV (.ext 0))))
 (ak (bU 1 (ak (ap (rg [1,4,5,6] <| aX 18 (pF 2 1 1)<|aX 19 (pL false 1 18)<|aX 20 (pM 5)<|aX 21 (pI 5 19 20)<|aX 6 (pM 21)<|aXZ))
 (ak (ap (rg [1,4,5,6,26] <| aX 22 (pM 6)<|aX 23 (pN 22)<|aX 24 (pF 4 1 23)<|aX 25 (pL false 1 24)<|aX 26 (pB .gtr 2 25 (cnI 0))<|aXZ))
 (bJ (.tmp 26) (ap (mM [1,4,5] (aY 27 (pM 4)<|aY 28 (pM 6)<|aY 29 (pN 28)<|aY 30 (pF 0 1 29)<|aY 31 (pL false 1 30)<|aY 32 (pM 6)<|aY 33 (pN 32)<|aY 34 (pF 1 1 33)<|aY 35 (pL false 1 34)<|aY 36 (pM 6)<|aY 37 (pN 36)<|aY 38 (pF 4 1 37)<|aY 39 (pL false 1 38)<|aY 40 (fun n e M=>keep (db (b5 cx.P 82) [(0,1,(a3 e 31)),(1,1,(a3 e 35)),(2,1,(a3 e 39))] M))<|aY 41 (fun n e M=>keep (eX 82 3 [(a3 e 40)] M))<|aYZ) (aX 42 (fun n e M=>ks n 82 3 24 (a3 e 27) (a3 e 41) M)<|aX 4 (pM 42)<|aXZ))) (bV .nrm)))))
 (ap (rg [1,4,5] <| aX 16 (pM 5)<|aX 17 (pB .add 3 16 (cnI 1))<|aX 5 (pM 17)<|aXZ))))
noncomputable def f12 (c:bh) (k:Nat):St:=
 (ak (ap (rg [1] <| aX 1 (pBox 3 0)<|aX 2 (pM (cn .nils))<|aX 3 (pM (cnI 0))<|aXZ))
 (ak (ak (ap (rg [1,8] <| aX 7 (pK c false 43 [1])<|aX 8 (pU .not 7)<|aXZ))
 (bJ (.tmp 8) (ak (ap (rg [2,3] <| aX 9 (fun n e M=>keep (eX 82 3 [] M))<|aX 2 (pM 9)<|aX 3 (pM (cnI 1))<|aXZ))
 (bV .ret)) (bV .nrm)))
 (ak (ap (rg [1,4] <| aX 10 (fun n e M=>o8 false n 82 3 [] M)<|aX 4 (pM 10)<|aXZ))
 (ak (ak (ap (rg [1,4,5] <| aX 5 (pM (cnI 0))<|aXZ))
 (bU 0 (cD [1,4,5] (H0 c k) k)))
 (ak (ap (rg [2,3] <| aX 43 (pM 4)<|aX 44 (pK c false 45 [43])<|aX 45 (pK c false 44 [44])<|aX 46 (pE 0 45)<|aX 47 (pE 1 45)<|aX 2 (pM 46)<|aX 3 (pM 47)<|aXZ))
 (bV .ret))))))
theorem Mr (c:bh) (k:Nat):cf cx c 48 Jn k (Tryz.f12.body.getD .skip)=f12 c k:=by kernel_rfl
def Hu:Ann:=⟨[(0,r0 [0,1]),(1,r0 [1,8]),(2,r0 [1,8,21]),(3,r0 [4,5,6]),(4,r0 [9,10]),(5,r0 [9,10,11]),(6,r0 [9,10,11,27]),(7,r0 [9,10,11]),(8,r0 [9,10]),(9,r0 [10,12,13]),(10,r0 [4,5,6])],[(6,[9,10,11])]⟩
noncomputable def D5 (c:bh) (k:Nat):St:=
 (ak (ak (ap (rg [9,10,11,27] <| aX 26 (pM 11)<|aX 27 (pB .neq 24 26 (cn .nils))<|aXZ))
 (bJ (.tmp 27) (bV .nrm) (bV (.ext 0))))
 (ak (bU 1 (ap (rg [9,10] <| aX 29 (pM 10)<|aX 30 (pM 11)<|aX 31 (pK c false 48 [9,30])<|aX 32 (pM 11)<|aX 33 (dl 24 32)<|aX 34 (pB .mul 2 31 33)<|aX 35 (pB .add 2 29 34)<|aX 10 (pM 35)<|aXZ)))
 (ap (rg [9,10,11] <| aX 28 (pK c false 47 [9])<|aX 11 (pM 28)<|aXZ))))
noncomputable def f13 (c:bh) (k:Nat):St:=
 (ak (ap (rg [0,1] <| aX 4 (pM (cn .nils))<|aX 5 (pM (cnI 0))<|aX 6 (pM (cnI 0))<|aXZ))
 (ak (ak (ap (rg [1,8] <| aX 15 (pM 0)<|aX 16 (pM 1)<|aX 17 (pK c false 42 [15,16])<|aX 14 (pM 17)<|aX 18 (pE 0 14)<|aX 19 (pE 1 14)<|aX 7 (pM 18)<|aX 8 (pM 19)<|aXZ))
 (ak (ap (rg [1,8,21] <| aX 20 (pM 8)<|aX 21 (pB .neq 2 20 (cnI 0))<|aXZ))
 (bJ (.tmp 21) (ak (ap (rg [4,5,6] <| aX 22 (pM 8)<|aX 4 (pM (cn .nils))<|aX 5 (pM (cnI 0))<|aX 6 (pM 22)<|aXZ))
 (bV .ret)) (bV .nrm))))
 (ak (ap (rg [9,10] <| aX 23 (pM 1)<|aX 24 (pK c false 46 [23])<|aX 9 (nG 91 256)<|aX0 (pS 256 9 24)<|aX 10 (pM (cnI 0))<|aXZ))
 (ak (ak (ap (rg [9,10,11] <| aX 25 (pK c false 47 [9])<|aX 11 (pM 25)<|aXZ))
 (bU 0 (cD [9,10,11] (D5 c k) k)))
 (ak (ap (rg [10,12,13] <| aX 37 (pL true 256 9)<|aX 38 (pK c false 49 [37])<|aX 36 (pM 38)<|aX 39 (pE 0 36)<|aX 40 (pE 1 36)<|aX 12 (pM 39)<|aX 13 (pM 40)<|aXZ))
 (ak (ap (rg [4,5,6] <| aX 41 (pM 12)<|aX 42 (pM 10)<|aX 43 (pM 13)<|aX 4 (pM 41)<|aX 5 (pM 42)<|aX 6 (pM 43)<|aXZ))
 (bV .ret)))))))
theorem MZ (c:bh) (k:Nat):cf cx c 44 Hu k (Tryz.f13.body.getD .skip)=f13 c k:=by kernel_rfl
def Jb:Ann:=⟨[(0,r0 [0,1]),(1,r0 [1,19]),(2,r0 [4,5,6]),(3,⟨[],[1],[],[],[7],none,[]⟩),(4,r0 [7,9]),(5,r0 [7,9,29]),(6,r0 [4,5,6]),(7,r0 [7,10]),(8,r0 [7,10,11,12]),(9,r0 [7,10,11,38]),(10,r0 [7,10,11,13]),(11,r0 [7,10,11,13]),(12,r0 [7,10]),(13,r0 [10,14,15]),(14,r0 [10,14,15,58]),(15,r0 [4,5,6]),(16,r0 [4,5,6])],[(8,[7,10])]⟩
noncomputable def GZ (c:bh) (k:Nat):St:=
 (bU 1 (ak (ap (rg [7,10,11,12] <| aX 33 (pM 7)<|aX 34 (pK c false 51 [33])<|aX 32 (pM 34)<|aX 35 (pE 0 32)<|aX 36 (pE 1 32)<|aX 11 (pM 35)<|aX 12 (pM 36)<|aXZ))
 (ak (ak (ap (rg [7,10,11,38] <| aX 37 (pM 12)<|aX 38 (pU .not 37)<|aXZ))
 (bJ (.tmp 38) (bV (.ext 0)) (bV .nrm)))
 (ak (ap (rg [7,10,11,13] <| aX 39 (pM 7)<|aX 40 (pM 11)<|aX 41 (pK c false 52 [39,40])<|aX 13 (pM 41)<|aXZ))
 (ak (ap (rg [7,10,11,13] <| aX 42 (pM 7)<|aX 43 (pM 11)<|aX 44 (pM 13)<|aX 45 (pK c false 53 [42,43,44])<|aXZ))
 (ap (rg [7,10] <| aX 46 (pM 10)<|aX 47 (pM 13)<|aX 48 (pM 11)<|aX 49 (dl 24 48)<|aX 50 (pB .mul 2 47 49)<|aX 51 (pB .add 2 46 50)<|aX 10 (pM 51)<|aXZ)))))))
noncomputable def f14 (c:bh) (k:Nat):St:=
 (ak (ap (rg [0,1] <| aX 4 (pM (cn .nils))<|aX 5 (pM (cnI 0))<|aX 6 (pM (cnI 0))<|aXZ))
 (ak (ak (ap (rg [1,19] <| aX 16 (pM 0)<|aX 17 (pM 1)<|aX 18 (pK c false 50 [16,17])<|aX 19 (pU .not 18)<|aXZ))
 (bJ (.tmp 19) (ak (ap (rg [4,5,6] <| aX 20 (fun n e M=>keep (eX 82 3 [] M))<|aX 4 (pM 20)<|aX 5 (pM (cnI 0))<|aX 6 (pM (cnI 1))<|aXZ))
 (bV .ret)) (bV .nrm)))
 (ak (ap (rg [7] <| aX 21 (pM 1)<|aX 22 (pK c true 45 [21])<|aX 7 (pM 22)<|aXZ))
 (ak (ak (ap (rg [7,9] <| aX 24 (pM 7)<|aX 25 (pK c false 44 [24])<|aX 23 (pM 25)<|aX 26 (pE 0 23)<|aX 27 (pE 1 23)<|aX 8 (pM 26)<|aX 9 (pM 27)<|aXZ))
 (ak (ap (rg [7,9,29] <| aX 28 (pM 9)<|aX 29 (pB .neq 2 28 (cnI 0))<|aXZ))
 (bJ (.tmp 29) (ak (ap (rg [4,5,6] <| aX 30 (fun n e M=>keep (eX 82 3 [] M))<|aX 31 (pM 9)<|aX 4 (pM 30)<|aX 5 (pM (cnI 0))<|aX 6 (pM 31)<|aXZ))
 (bV .ret)) (bV .nrm))))
 (ak (ap (rg [7,10] <| aX 10 (pM (cnI 0))<|aXZ))
 (ak (bU 0 (cD [7,10] (GZ c k) k))
 (ak (ap (rg [10,14,15] <| aX 53 (pM 7)<|aX 54 (pK c false 44 [53])<|aX 52 (pM 54)<|aX 55 (pE 0 52)<|aX 56 (pE 1 52)<|aX 14 (pM 55)<|aX 15 (pM 56)<|aXZ))
 (ak (ak (ap (rg [10,14,15,58] <| aX 57 (pM 15)<|aX 58 (pB .neq 2 57 (cnI 0))<|aXZ))
 (bJ (.tmp 58) (ak (ap (rg [4,5,6] <| aX 59 (fun n e M=>keep (eX 82 3 [] M))<|aX 60 (pM 15)<|aX 4 (pM 59)<|aX 5 (pM (cnI 0))<|aX 6 (pM 60)<|aXZ))
 (bV .ret)) (bV .nrm)))
 (ak (ap (rg [4,5,6] <| aX 61 (pM 14)<|aX 62 (pM 10)<|aX 4 (pM 61)<|aX 5 (pM 62)<|aX 6 (pM (cnI 0))<|aXZ))
 (bV .ret))))))))))
theorem L7 (c:bh) (k:Nat):cf cx c 63 Jb k (Tryz.f14.body.getD .skip)=f14 c k:=by kernel_rfl
def Je:Ann:=⟨[(0,r0 [0,1]),(1,r0 [4])],[]⟩
noncomputable def f15 (c:bh) (k:Nat):St:=
 (ak (ap (rg [0,1] <| aX 4 (pM (cn (.bool false)))<|aXZ))
 (ak (ap (rg [4] <| aX 5 (pM 0)<|aX 6 (pM 1)<|aX 7 (pK c false 54 [5,6])<|aX 4 (pM 7)<|aXZ))
 (bV .ret)))
theorem Nl (c:bh) (k:Nat):cf cx c 8 Je k (Tryz.f15.body.getD .skip)=f15 c k:=by kernel_rfl
def Jc:Ann:=⟨[(0,r0 [0,1]),(1,r0 [0,1,9]),(2,r0 [4,5]),(3,r0 [4,5])],[]⟩
noncomputable def f16 (c:bh) (k:Nat):St:=
 (ak (ap (rg [0,1] <| aX 4 (pM (cn .nils))<|aX 5 (pM (cnI 0))<|aXZ))
 (ak (ak (ap (rg [0,1,9] <| aX 6 (pM 0)<|aX 7 (pM 1)<|aX 8 (pK c false 55 [6,7])<|aX 9 (pU .not 8)<|aXZ))
 (bJ (.tmp 9) (ak (ap (rg [4,5] <| aX 4 (pM (cn .nils))<|aX 5 (pM (cnI 1))<|aXZ))
 (bV .ret)) (bV .nrm)))
 (ak (ap (rg [4,5] <| aX 10 (pM 0)<|aX 11 (pM 1)<|aX 12 (pK c false 56 [10,11])<|aX 4 (pM 12)<|aX 5 (pM (cnI 0))<|aXZ))
 (bV .ret))))
theorem LX (c:bh) (k:Nat):cf cx c 13 Jc k (Tryz.f16.body.getD .skip)=f16 c k:=by kernel_rfl
def IP:Ann:=⟨[(0,r0 [1,2]),(1,r0 [1,2,6]),(2,r0 [1,2,6,11]),(3,r0 [4,5]),(4,r0 [4,5])],[]⟩
noncomputable def f17 (c:bh) (k:Nat):St:=
 (ak (ap (rg [1,2] <| aX 2 (pBox 3 0)<|aX 4 (pM (cnI 0))<|aX 5 (pM (cnI 0))<|aXZ))
 (ak (ak (ap (rg [1,2,6] <| aX 7 (pL true 3 2)<|aX 8 (pM 1)<|aX 9 (pK c false 57 [7,8])<|aX 6 (pM 9)<|aXZ))
 (ak (ap (rg [1,2,6,11] <| aX 10 (pM 6)<|aX 11 (pB .neq 2 10 (cnI 0))<|aXZ))
 (bJ (.tmp 11) (ak (ap (rg [4,5] <| aX 12 (pM 6)<|aX 4 (pM (cnI 0))<|aX 5 (pM 12)<|aXZ))
 (bV .ret)) (bV .nrm))))
 (ak (ap (rg [4,5] <| aX 13 (pL true 3 2)<|aX 14 (pM 1)<|aX 15 (pK c false 58 [13,14])<|aX 4 (pM 15)<|aX 5 (pM (cnI 0))<|aXZ))
 (bV .ret))))
theorem LW (c:bh) (k:Nat):cf cx c 16 IP k (Tryz.f17.body.getD .skip)=f17 c k:=by kernel_rfl
def I6:Ann:=⟨[(0,r0 [0]),(1,r0 [2])],[]⟩
noncomputable def f18 (c:bh) (k:Nat):St:=
 (ak (ap (rg [0] <| aX 2 (pM (cnI 0))<|aXZ))
 (ak (ap (rg [2] <| aX 3 (pM 0)<|aX 4 (pK c false 32 [3])<|aX 5 (pK c false 59 [4,(cnI 6000)])<|aX 2 (pM 5)<|aXZ))
 (bV .ret)))
theorem Mw (c:bh) (k:Nat):cf cx c 6 I6 k (Tryz.f18.body.getD .skip)=f18 c k:=by kernel_rfl
def IC:Ann:=⟨[(0,r0 [0,3,4,5]),(1,r0 [0,3,4,5,11]),(2,r0 [4,5,6]),(3,r0 [3,4,5,7,8]),(4,r0 [3,4,5,7,8,20]),(5,r0 [4,5,6]),(6,⟨[],[],[7],[8,9,10],[4,5,6],none,[]⟩)],[]⟩
noncomputable def f19 (c:bh) (k:Nat):St:=
 (ak (ap (rg [0,3,4,5] <| aX 3 (pBox 16 1)<|aX 4 (nG 51 18)<|aX 5 (nG 51 18)<|aX 6 (pM (cnI 0))<|aXZ))
 (ak (ak (ap (rg [0,3,4,5,11] <| aX 9 (pL true 16 3)<|aX 10 (pK c false 60 [9])<|aX 11 (pU .not 10)<|aXZ))
 (bJ (.tmp 11) (ak (ap (rg [4,5,6] <| aX 12 (fun n e M=>keep (db (b5 cx.P 51) [] M))<|aX 13 (fun n e M=>keep (db (b5 cx.P 51) [] M))<|aX0 (pS 18 4 12)<|aX0 (pS 18 5 13)<|aX 6 (pM (cnI 1))<|aXZ))
 (bV .ret)) (bV .nrm)))
 (ak (ap (rg [3,4,5,7,8] <| aX 15 (pM 0)<|aX 16 (pK c false 61 [15])<|aX 14 (pM 16)<|aX 17 (pE 0 14)<|aX 18 (pE 1 14)<|aX 7 (pM 17)<|aX 8 (pM 18)<|aXZ))
 (ak (ak (ap (rg [3,4,5,7,8,20] <| aX 19 (pM 8)<|aX 20 (pB .neq 2 19 (cnI 0))<|aXZ))
 (bJ (.tmp 20) (ak (ap (rg [4,5,6] <| aX 21 (fun n e M=>keep (db (b5 cx.P 51) [] M))<|aX 22 (fun n e M=>keep (db (b5 cx.P 51) [] M))<|aX 23 (pM 8)<|aX0 (pS 18 4 21)<|aX0 (pS 18 5 22)<|aX 6 (pM 23)<|aXZ))
 (bV .ret)) (bV .nrm)))
 (ak (ap (mM [4,5,6] (aY 24 (pM 7)<|aY 25 (pL true 16 3)<|aY 26 (fun n e M=>keep (db (b5 cx.P 51) [(0,1,(.bool true)),(1,1,(a3 e 24)),(2,16,(a3 e 25))] M))<|aY 27 (pM 7)<|aY 28 (pK c false 62 [27])<|aY 29 (pL true 16 3)<|aY 30 (pK c false 63 [29])<|aYc 31 (fun n e M=>keep (db (b5 cx.P 51) [(1,1,(a3 e 28)),(2,16,(a3 e 30))] M))<|aYZ) (aX0 (pS 18 4 26)<|aX0 (pS 18 5 31)<|aX 6 (pM (cnI 0))<|aXZ)))
 (bV .ret))))))
theorem LU (c:bh) (k:Nat):cf cx c 32 IC k (Tryz.f19.body.getD .skip)=f19 c k:=by kernel_rfl
def GP:Ann:=⟨[(0,r0 [0,2]),(1,r0 [2,3]),(2,r0 [2])],[]⟩
noncomputable def f20 (c:bh) (k:Nat):St:=
 (ak (ap (rg [0,2] <| aX 2 (nG 49 16)<|aXZ))
 (ak (ap (rg [2,3] <| aX 6 (pM 0)<|aX 7 (pK c false 32 [6])<|aX 8 (pK c false 59 [7,(cnI 1048576)])<|aX 9 (fun n e M=>keep (ir .u32 (a3 e 8)))<|aX 10 (pK c false 64 [9])<|aX 5 (pM 10)<|aX 11 (pE 0 5)<|aX 12 (pE 1 5)<|aX 3 (nG 49 16)<|aX0 (pS 16 3 11)<|aX 4 (pM 12)<|aXZ))
 (ak (ap (rg [2] <| aX 13 (pL true 16 3)<|aX0 (pS 16 2 13)<|aXZ))
 (bV .ret))))
theorem Mm (c:bh) (k:Nat):cf cx c 14 GP k (Tryz.f20.body.getD .skip)=f20 c k:=by kernel_rfl
def JL:Ann:=⟨[(0,r0 [2,3,4]),(1,r0 [2,3,4,8]),(2,r0 [6,7]),(3,r0 [2,3,4,17]),(4,r0 [6,7]),(5,r0 [2,3,4,21]),(6,r0 [6,7]),(7,r0 [6,7])],[]⟩
noncomputable def f21 (c:bh) (k:Nat):St:=
 (ak (ap (rg [2,3,4] <| aX 3 (pBox 18 0)<|aX 4 (pBox 18 1)<|aX 6 (pM (cn (.bool false)))<|aX 7 (pM (cnI 0))<|aXZ))
 (ak (bU 0 (ak (ap (rg [2,3,4,8] <| aX 9 (pL true 18 3)<|aX 10 (pK c false 65 [9])<|aX 11 (pU .not 10)<|aX 12 (pM 11)<|aX 13 (pG 12 false (pL true 18 4))<|aX 14 (pG 12 false (pK c false 65 [13]))<|aX 15 (pG 12 false (pU .not 14))<|aX 16 (pP 12 (cn (.bool true)) 15)<|aX 8 (pM 16)<|aXZ))
 (bJ (.tmp 8) (ak (ap (rg [6,7] <| aX 6 (pM (cn (.bool false)))<|aX 7 (pM (cnI 1))<|aXZ))
 (bV .ret)) (ak (ap (rg [2,3,4,17] <| aX 18 (pM 2)<|aX 19 (pK c false 66 [18])<|aX 20 (pU .not 19)<|aX 17 (pM 20)<|aXZ))
 (bJ (.tmp 17) (ak (ap (rg [6,7] <| aX 6 (pM (cn (.bool false)))<|aX 7 (pM (cnI 2))<|aXZ))
 (bV .ret)) (ak (ap (rg [2,3,4,21] <| aX 22 (pF 0 1 3)<|aX 23 (pL false 1 22)<|aX 24 (pU .not 23)<|aX 25 (pM 24)<|aX 26 (pG 25 false (pF 0 1 4))<|aX 27 (pG 25 false (pL false 1 26))<|aX 28 (pP 25 (cn (.bool true)) 27)<|aX 21 (pM 28)<|aXZ))
 (bJ (.tmp 21) (ak (ap (rg [6,7] <| aX 6 (pM (cn (.bool false)))<|aX 7 (pM (cnI 4))<|aXZ))
 (bV .ret)) (bV .nrm))))))))
 (ak (ap (rg [6,7] <| aX 29 (pL true 18 3)<|aX 30 (pL true 18 4)<|aX 31 (pM 2)<|aX 32 (pK c false 67 [29,30,31])<|aX 6 (pM 32)<|aX 7 (pM (cnI 0))<|aXZ))
 (bV .ret))))
theorem MI (c:bh) (k:Nat):cf cx c 33 JL k (Tryz.f21.body.getD .skip)=f21 c k:=by kernel_rfl
def Ir:Ann:=⟨[(0,r0 [1]),(1,r0 [1,6]),(2,r0 [2,3]),(3,r0 [2,3])],[]⟩
noncomputable def f22 (c:bh) (k:Nat):St:=
 (ak (ap (rg [1] <| aX 1 (pBox 18 0)<|aX 2 (pM (cnI 0))<|aX 3 (pM (cnI 0))<|aXZ))
 (ak (ak (ap (rg [1,6] <| aX 4 (pL true 18 1)<|aX 5 (pK c false 65 [4])<|aX 6 (pU .not 5)<|aXZ))
 (bJ (.tmp 6) (ak (ap (rg [2,3] <| aX 2 (pM (cnI 0))<|aX 3 (pM (cnI 1))<|aXZ))
 (bV .ret)) (bV .nrm)))
 (ak (ap (rg [2,3] <| aX 7 (pL true 18 1)<|aX 8 (pK c false 68 [7])<|aX 2 (pM 8)<|aX 3 (pM (cnI 0))<|aXZ))
 (bV .ret))))
theorem MF (c:bh) (k:Nat):cf cx c 9 Ir k (Tryz.f22.body.getD .skip)=f22 c k:=by kernel_rfl
def Hn:Ann:=⟨[(0,r0 [0,2]),(1,r0 [0,2,8]),(2,r0 [2,3]),(3,r0 [0,2,4]),(4,r0 [0,2,4,5]),(5,r0 [0,2,4,5,12]),(6,r0 [0,2,4,5]),(7,r0 [0,2,4,5]),(8,r0 [0,2,4,5]),(9,r0 [2,3])],[(5,[0,2,4,5])]⟩
noncomputable def G3 (c:bh) (k:Nat):St:=
 (ak (ak (ap (rg [0,2,4,5,12] <| aX 11 (pM 5)<|aX 12 (pB .geq 2 11 (cnI 0))<|aXZ))
 (bJ (.tmp 12) (bV .nrm) (bV (.ext 0))))
 (ak (bU 1 (ak (ap (rg [0,2,4,5] <| aX 15 (pM 5)<|aX 16 (pM 0)<|aX 17 (pM 5)<|aX 18 (pK c false 70 [17])<|aX 19 (pB .quo 2 16 18)<|aX 20 (fun n e M=>keep (cb 6 1 (a3 e 4) (a3 e 15) M))<|aX0 (pS 1 20 19)<|aXZ))
 (ap (rg [0,2,4,5] <| aX 21 (pM 0)<|aX 22 (pM 5)<|aX 23 (pK c false 70 [22])<|aX 24 (pB .rem 2 21 23)<|aX 0 (pM 24)<|aXZ))))
 (ap (rg [0,2,4,5] <| aX 13 (pM 5)<|aX 14 (pB .sub 2 13 (cnI 1))<|aX 5 (pM 14)<|aXZ))))
noncomputable def f23 (c:bh) (k:Nat):St:=
 (ak (ap (rg [0,2] <| aX 2 (nG 60 6)<|aX 3 (pM (cnI 0))<|aXZ))
 (ak (ak (ap (rg [0,2,8] <| aX 6 (pM 0)<|aX 7 (pK c false 69 [6])<|aX 8 (pU .not 7)<|aXZ))
 (bJ (.tmp 8) (ak (ap (rg [2,3] <| aX 9 (fun n e M=>keep (db (b5 cx.P 60) [] M))<|aX0 (pS 6 2 9)<|aX 3 (pM (cnI 2))<|aXZ))
 (bV .ret)) (bV .nrm)))
 (ak (ap (rg [0,2,4] <| aX 10 (fun n e M=>keep (db (b5 cx.P 118) [] M))<|aX 4 (nG 118 6)<|aX0 (pS 6 4 10)<|aXZ))
 (ak (ak (ap (rg [0,2,4,5] <| aX 5 (pM (cnI 5))<|aXZ))
 (bU 0 (cD [0,2,4,5] (G3 c k) k)))
 (ak (ap (rg [2,3] <| aX 25 (pL true 6 4)<|aX 26 (pK c false 71 [25])<|aX 27 (pE 0 26)<|aX 28 (pE 1 26)<|aX0 (pS 6 2 27)<|aX 3 (pM 28)<|aXZ))
 (bV .ret))))))
theorem MA (c:bh) (k:Nat):cf cx c 29 Hn k (Tryz.f23.body.getD .skip)=f23 c k:=by kernel_rfl
def I3:Ann:=⟨[(0,r0 [1]),(1,r0 [1,6]),(2,r0 [2,3]),(3,r0 [2,3])],[]⟩
noncomputable def f24 (c:bh) (k:Nat):St:=
 (ak (ap (rg [1] <| aX 1 (pBox 6 0)<|aX 2 (pM (cnI 0))<|aX 3 (pM (cnI 0))<|aXZ))
 (ak (ak (ap (rg [1,6] <| aX 4 (pL true 6 1)<|aX 5 (pK c false 72 [4])<|aX 6 (pU .not 5)<|aXZ))
 (bJ (.tmp 6) (ak (ap (rg [2,3] <| aX 2 (pM (cnI 0))<|aX 3 (pM (cnI 1))<|aXZ))
 (bV .ret)) (bV .nrm)))
 (ak (ap (rg [2,3] <| aX 7 (pL true 6 1)<|aX 8 (pK c false 73 [7])<|aX 9 (pK c false 74 [8])<|aX 2 (pM 9)<|aX 3 (pM (cnI 0))<|aXZ))
 (bV .ret))))
theorem Ny (c:bh) (k:Nat):cf cx c 10 I3 k (Tryz.f24.body.getD .skip)=f24 c k:=by kernel_rfl
def Iz:Ann:=⟨[(0,r0 [2,3,4]),(1,r0 [2,3,4,8]),(2,r0 [2,3,4,8,12]),(3,r0 [6,7]),(4,r0 [6,7])],[]⟩
noncomputable def f25 (c:bh) (k:Nat):St:=
 (ak (ap (rg [2,3,4] <| aX 3 (pBox 18 0)<|aX 4 (pBox 18 1)<|aX 6 (pM (cn (.bool false)))<|aX 7 (pM (cnI 0))<|aXZ))
 (ak (ak (ap (rg [2,3,4,8] <| aX 9 (pM 2)<|aX 10 (pK c false 75 [3,4,9])<|aX 8 (pM 10)<|aXZ))
 (ak (ap (rg [2,3,4,8,12] <| aX 11 (pM 8)<|aX 12 (pB .neq 2 11 (cnI 0))<|aXZ))
 (bJ (.tmp 12) (ak (ap (rg [6,7] <| aX 13 (pM 8)<|aX 6 (pM (cn (.bool false)))<|aX 7 (pM 13)<|aXZ))
 (bV .ret)) (bV .nrm))))
 (ak (ap (rg [6,7] <| aX 14 (pF 1 1 3)<|aX 15 (pL false 1 14)<|aX 16 (pF 1 1 4)<|aX 17 (pL false 1 16)<|aX 18 (pK c false 76 [15,17])<|aX 19 (pM 18)<|aX 20 (pG 19 true (pF 2 16 3))<|aX 21 (pG 19 true (pL true 16 20))<|aX 22 (pG 19 true (pF 2 16 4))<|aX 23 (pG 19 true (pL true 16 22))<|aX 24 (pG 19 true (pM 2))<|aX 25 (pG 19 true (pK c false 77 [21,23,24]))<|aX 26 (pP 19 25 (cn (.bool false)))<|aX 6 (pM 26)<|aX 7 (pM (cnI 0))<|aXZ))
 (bV .ret))))
theorem Mc (c:bh) (k:Nat):cf cx c 27 Iz k (Tryz.f25.body.getD .skip)=f25 c k:=by kernel_rfl
def I7:Ann:=⟨[(0,r0 [1]),(1,r0 [1,5]),(2,r0 [2,3]),(3,r0 [2,3])],[]⟩
noncomputable def f26 (c:bh) (k:Nat):St:=
 (ak (ap (rg [1] <| aX 1 (pBox 18 0)<|aX 2 (pM (cnI 0))<|aX 3 (pM (cnI 0))<|aXZ))
 (ak (ak (ap (rg [1,5] <| aX 4 (pK c false 78 [1])<|aX 5 (pU .not 4)<|aXZ))
 (bJ (.tmp 5) (ak (ap (rg [2,3] <| aX 2 (pM (cnI 0))<|aX 3 (pM (cnI 1))<|aXZ))
 (bV .ret)) (bV .nrm)))
 (ak (ap (rg [2,3] <| aX 6 (pF 1 1 1)<|aX 7 (pL false 1 6)<|aX 8 (pK c false 79 [7])<|aX 2 (pM 8)<|aX 3 (pM (cnI 0))<|aXZ))
 (bV .ret))))
theorem LY (c:bh) (k:Nat):cf cx c 9 I7 k (Tryz.f26.body.getD .skip)=f26 c k:=by kernel_rfl
def Iv:Ann:=⟨[(0,r0 [1]),(1,r0 [1,6]),(2,r0 [2,3]),(3,r0 [2,3])],[]⟩
noncomputable def f27 (c:bh) (k:Nat):St:=
 (ak (ap (rg [1] <| aX 1 (pBox 6 0)<|aX 2 (pM (cnI 0))<|aX 3 (pM (cnI 0))<|aXZ))
 (ak (ak (ap (rg [1,6] <| aX 4 (pL true 6 1)<|aX 5 (pK c false 80 [4])<|aX 6 (pU .not 5)<|aXZ))
 (bJ (.tmp 6) (ak (ap (rg [2,3] <| aX 2 (pM (cnI 0))<|aX 3 (pM (cnI 1))<|aXZ))
 (bV .ret)) (bV .nrm)))
 (ak (ap (rg [2,3] <| aX 7 (pL true 6 1)<|aX 8 (pK c false 81 [7])<|aX 2 (pM 8)<|aX 3 (pM (cnI 0))<|aXZ))
 (bV .ret))))
theorem Mx (c:bh) (k:Nat):cf cx c 9 Iv k (Tryz.f27.body.getD .skip)=f27 c k:=by kernel_rfl
def Ig:Ann:=⟨[(0,r0 [0,2]),(1,⟨[],[1,2],[],[],[0,2,4],none,[]⟩),(2,r0 [0,2,4,5]),(3,r0 [0,2,4,5,21]),(4,r0 [0,2,4,5]),(5,⟨[5],[],[],[3,4,5,6,7],[0,2,4,5],some [0,1],[]⟩),(6,⟨[],[],[],[],[0,2,4,6],none,[4]⟩),(7,r0 [0,2,4,6,34]),(8,r0 [0,2,4,6]),(9,r0 [0,2,4,6,7]),(10,r0 [0,2,4,6,8,9]),(11,r0 [0,2,4,6,8,44]),(12,r0 [0,2,4,6]),(13,⟨[0],[],[],[],[0,2,4,10],none,[]⟩),(14,r0 [0,2,4,10,11]),(15,r0 [0,2,4,10,11,12]),(16,r0 [0,2,4,10,11,12,51]),(17,r0 [0,2,4,10,11,12]),(18,r0 [0,2,4,10,11,12,13]),(19,r0 [0,2,4,10,11,12,13,14,15]),(20,r0 [0,2,4,10,11,12,13,14,61]),(21,r0 [0,2,4,10,11,12,13]),(22,⟨[3],[],[],[],[0,2,4,10,11,12],none,[]⟩),(23,r0 [2,3])],[(3,[0,2,4,5]),(7,[0,2,4,6]),(16,[0,2,4,10,11,12])]⟩
noncomputable def Ih (c:bh) (k:Nat):St:=
 (ak (ak (ap (rg [0,2,4,5,21] <| aX 20 (pM 5)<|aX 21 (pB .gtr 2 20 (cnI 0))<|aXZ))
 (bJ (.tmp 21) (bV .nrm) (bV (.ext 0))))
 (ak (bU 1 (ap (ND [0,2,4,5] (aQs 0 false (some 24) (pF 1 1 4)<|aQs 1 false (some 25) (pL false 1 24)<|aQ 2 false (some 26) (pM 0)<|aQZ) (aW [2] (some 27) (pK c false 59 [26,(cnI 100)])<|aW [2,3] (some 28) (fun n e M=>keep (eX 2 1 [(a3 e 27)] M))<|aW [0,1,2,3,4] (some 29) (fun n e M=>ks n 2 1 8 (a3 e 25) (a3 e 28) M)<|aW [0,1,2,3,4,5] (some 30) (pF 1 1 4)<|aW [0,1,2,3,4,5,6] none (pS 1 30 29)<|aWZ))))
 (ap (rg [0,2,4,5] <| aX 22 (pM 5)<|aX 23 (pB .sub 2 22 (cnI 1))<|aX 5 (pM 23)<|aXZ))))
noncomputable def GR (c:bh) (k:Nat):St:=
 (ak (ak (ap (rg [0,2,4,6,34] <| aX 33 (pM 6)<|aX 34 (pB .gtr 2 33 (cnI 0))<|aXZ))
 (bJ (.tmp 34) (bV .nrm) (bV (.ext 2))))
 (ak (bU 3 (ak (ap (rg [0,2,4,6,7] <| aX 37 (pM 0)<|aX 38 (pK c false 87 [37,4])<|aX 7 (nG 132 6)<|aX0 (pS 6 7 38)<|aXZ))
 (ak (ap (rg [0,2,4,6,8,9] <| aX 40 (pK c false 88 [4,7])<|aX 39 (pM 40)<|aX 41 (pE 0 39)<|aX 42 (pE 1 39)<|aX 8 (nG 27 3)<|aX0 (pS 3 8 41)<|aX 9 (pM 42)<|aXZ))
 (ak (ap (rg [0,2,4,6,8,44] <| aX 43 (pM 9)<|aX 44 (pB .eql 2 43 (cnI 0))<|aXZ))
 (bJ (.tmp 44) (ap (rg [0,2,4,6] <| aX 45 (pL true 3 8)<|aX0 (pS 3 4 45)<|aXZ)) (bV .nrm))))))
 (ap (rg [0,2,4,6] <| aX 35 (pM 6)<|aX 36 (pB .sub 2 35 (cnI 1))<|aX 6 (pM 36)<|aXZ))))
noncomputable def Ee (c:bh) (k:Nat):St:=
 (ak (ak (ap (rg [0,2,4,10,11,12,51] <| aX 50 (pM 12)<|aX 51 (pB .gtr 2 50 (cnI 0))<|aXZ))
 (bJ (.tmp 51) (bV .nrm) (bV (.ext 4))))
 (ak (bU 5 (ak (ap (rg [0,2,4,10,11,12,13] <| aX 54 (pM 0)<|aX 55 (pK c false 87 [54,11])<|aX 13 (nG 132 6)<|aX0 (pS 6 13 55)<|aXZ))
 (ak (ap (rg [0,2,4,10,11,12,13,14,15] <| aX 57 (pK c false 88 [11,13])<|aX 56 (pM 57)<|aX 58 (pE 0 56)<|aX 59 (pE 1 56)<|aX 14 (nG 27 3)<|aX0 (pS 3 14 58)<|aX 15 (pM 59)<|aXZ))
 (ak (ap (rg [0,2,4,10,11,12,13,14,61] <| aX 60 (pM 15)<|aX 61 (pB .eql 2 60 (cnI 0))<|aXZ))
 (bJ (.tmp 61) (ak (ap (rg [0,2,4,10,11,12,13] <| aX 62 (pL true 3 14)<|aX0 (pS 3 11 62)<|aXZ))
 (ap (rg [0,2,4,10,11,12] <| aX 63 (pM 10)<|aX 64 (pL true 6 13)<|aX 65 (fun n e M=>keep (eX 132 6 [(a3 e 64)] M))<|aX 66 (fun n e M=>ks n 132 6 48 (a3 e 63) (a3 e 65) M)<|aX 10 (pM 66)<|aXZ))) (bV .nrm))))))
 (ap (rg [0,2,4,10,11,12] <| aX 52 (pM 12)<|aX 53 (pB .sub 2 52 (cnI 1))<|aX 12 (pM 53)<|aXZ))))
noncomputable def f31 (c:bh) (k:Nat):St:=
 (ak (ap (rg [0,2] <| aX 2 (nG 27 3)<|aX 3 (pM (cn .nils))<|aXZ))
 (ak (ap (rg [0,2,4] <| aX 16 (fun n e M=>keep (db (b5 cx.P 27) [] M))<|aX 4 (fun n e M=>Ki cx.P true n (D8 cx.P n 27 3))<|aX0 (fun n e M=>BD cx.P 27 false 3 (a3 e 4) (a3 e 16) M)<|aXZ))
 (ak (ak (ap (rg [0,2,4,5] <| aX 17 (pM 0)<|aX 18 (pK c false 59 [17,(cnI 3)])<|aX 19 (pB .add 2 (cnI 2) 18)<|aX 5 (pM 19)<|aXZ))
 (bU 0 (cD [0,2,4,5] (Ih c k) k)))
 (ak (ak (ap (OM [4] (rg [0,2,4,6] <| aX 31 (pM 0)<|aX 32 (pK c false 59 [31,(cnI 4)])<|aX 6 (pM 32)<|aXZ)))
 (bU 2 (cD [0,2,4,6] (GR c k) k)))
 (ak (ap (rg [0,2,4,10] <| aX 46 (fun n e M=>o8 false n 132 6 [] M)<|aX 10 (pM 46)<|aXZ))
 (ak (ap (rg [0,2,4,10,11] <| aX 47 (pK c false 37 [4])<|aX 11 (nG 27 3)<|aX0 (pS 3 11 47)<|aXZ))
 (ak (ak (ap (rg [0,2,4,10,11,12] <| aX 48 (pM 0)<|aX 49 (pK c false 59 [48,(cnI 9)])<|aX 12 (pM 49)<|aXZ))
 (bU 4 (cD [0,2,4,10,11,12] (Ee c k) k)))
 (ak (ap (rg [2,3] <| aX 67 (pL true 3 4)<|aX 68 (pM 10)<|aX0 (pS 3 2 67)<|aX 3 (pM 68)<|aXZ))
 (bV .ret)))))))))
theorem L9 (c:bh) (k:Nat):cf cx c 69 Ig k (Tryz.f31.body.getD .skip)=f31 c k:=by kernel_rfl
def Hb:Ann:=⟨[(0,r0 [0]),(1,⟨[2],[],[],[],[2],none,[]⟩)],[]⟩
noncomputable def f32 (c:bh) (k:Nat):St:=
 (ak (ap (rg [0] <| aX 2 (pM (cn .nilp))<|aXZ))
 (ak (ap (rg [2] <| aX 3 (pM 0)<|aX 4 (fun n e M=>keep (db (b5 cx.P 138) [(0,1,(a3 e 3))] M))<|aX 5 (fun n e M=>s3 n 138 3 (a3 e 4) M)<|aX 2 (pM 5)<|aXZ))
 (bV .ret)))
theorem ME (c:bh) (k:Nat):cf cx c 6 Hb k (Tryz.f32.body.getD .skip)=f32 c k:=by kernel_rfl
def Hi:Ann:=⟨[(0,r0 [1,2]),(1,r0 [1,5]),(2,r0 [4]),(3,r0 [14]),(4,r0 [4]),(5,r0 [4])],[]⟩
noncomputable def f33 (c:bh) (k:Nat):St:=
 (ak (ap (rg [1,2] <| aX 2 (pBox 3 0)<|aX 4 (pM (cnI 0))<|aXZ))
 (ak (bU 0 (ak (ap (rg [1,5] <| aX 6 (pL true 3 2)<|aX 7 (pK c false 41 [6])<|aX 8 (pU .not 7)<|aX 9 (pM 8)<|aX 10 (pG 9 false (pM 1))<|aX 11 (pG 9 false (pK c false 89 [10]))<|aX 12 (pG 9 false (pU .not 11))<|aX 13 (pP 9 (cn (.bool true)) 12)<|aX 5 (pM 13)<|aXZ))
 (bJ (.tmp 5) (ak (ap (rg [4] <| aX 4 (pM (cnI 1))<|aXZ))
 (bV .ret)) (ak (ap (rg [14] <| aX 15 (pM 1)<|aX 16 (dl 28 15)<|aX 17 (pB .gtr 3 16 (cnI 80))<|aX 14 (pM 17)<|aXZ))
 (bJ (.tmp 14) (ak (ap (rg [4] <| aX 4 (pM (cnI 3))<|aXZ))
 (bV .ret)) (bV .nrm))))))
 (ak (ap (rg [4] <| aX 4 (pM (cnI 0))<|aXZ))
 (bV .ret))))
theorem Ma (c:bh) (k:Nat):cf cx c 18 Hi k (Tryz.f33.body.getD .skip)=f33 c k:=by kernel_rfl
def H6:Ann:=⟨[(0,r0 [1,2,4]),(1,r0 [2,4,6,7]),(2,r0 [2,4,6,7,14]),(3,r0 [4,5]),(4,r0 [2,4,6,19]),(5,r0 [4,5]),(6,r0 [4,5])],[]⟩
noncomputable def f34 (c:bh) (k:Nat):St:=
 (ak (ap (rg [1,2,4] <| aX 2 (pBox 3 0)<|aX 4 (nG 27 3)<|aX 5 (pM (cnI 0))<|aXZ))
 (ak (ap (rg [2,4,6,7] <| aX 9 (pL true 3 2)<|aX 10 (pM 1)<|aX 11 (pK c false 90 [9,10])<|aX 8 (pM 11)<|aX 12 (pE 0 8)<|aX 13 (pE 1 8)<|aX 6 (pM 12)<|aX 7 (pM 13)<|aXZ))
 (ak (bU 0 (ak (ap (rg [2,4,6,7,14] <| aX 15 (pM 7)<|aX 16 (pB .neq 2 15 (cnI 0))<|aX 14 (pM 16)<|aXZ))
 (bJ (.tmp 14) (ak (ap (rg [4,5] <| aX 17 (fun n e M=>keep (db (b5 cx.P 27) [] M))<|aX 18 (pM 7)<|aX0 (pS 3 4 17)<|aX 5 (pM 18)<|aXZ))
 (bV .ret)) (ak (ap (rg [2,4,6,19] <| aX 20 (pM 6)<|aX 21 (dl 73 20)<|aX 22 (pB .eql 3 21 (cnI 0))<|aX 19 (pM 22)<|aXZ))
 (bJ (.tmp 19) (ak (ap (rg [4,5] <| aX 23 (pL true 3 2)<|aX 24 (pK c false 91 [23])<|aX0 (pS 3 4 24)<|aX 5 (pM (cnI 0))<|aXZ))
 (bV .ret)) (bV .nrm))))))
 (ak (ap (rg [4,5] <| aX 25 (pM 6)<|aX 26 (pM 6)<|aX 27 (dl 73 26)<|aX 28 (pB .sub 3 27 (cnI 1))<|aX 29 (pI 3 25 28)<|aX 30 (pL true 3 29)<|aX0 (pS 3 4 30)<|aX 5 (pM (cnI 0))<|aXZ))
 (bV .ret)))))
theorem Nj (c:bh) (k:Nat):cf cx c 31 H6 k (Tryz.f34.body.getD .skip)=f34 c k:=by kernel_rfl
def HX:Ann:=⟨[(0,r0 [0,1]),(1,r0 [1,12]),(2,r0 [4]),(3,r0 [15]),(4,r0 [4]),(5,r0 [4])],[]⟩
noncomputable def f35 (c:bh) (k:Nat):St:=
 (ak (ap (rg [0,1] <| aX 4 (pM (cnI 0))<|aXZ))
 (ak (ak (ap (rg [1,12] <| aX 5 (pM 0)<|aX 6 (pK c false 43 [5])<|aX 7 (pU .not 6)<|aX 8 (pM 7)<|aX 9 (pG 8 false (pM 1))<|aX 10 (pG 8 false (pK c false 92 [9]))<|aX 11 (pG 8 false (pU .not 10))<|aX 12 (pP 8 (cn (.bool true)) 11)<|aXZ))
 (bJ (.tmp 12) (ak (ap (rg [4] <| aX 4 (pM (cnI 1))<|aXZ))
 (bV .ret)) (bV .nrm)))
 (ak (ak (ap (rg [15] <| aX 13 (pM 1)<|aX 14 (dl 28 13)<|aX 15 (pB .gtr 3 14 (cnI 80))<|aXZ))
 (bJ (.tmp 15) (ak (ap (rg [4] <| aX 4 (pM (cnI 3))<|aXZ))
 (bV .ret)) (bV .nrm)))
 (ak (ap (rg [4] <| aX 4 (pM (cnI 0))<|aXZ))
 (bV .ret)))))
theorem LE (c:bh) (k:Nat):cf cx c 16 HX k (Tryz.f35.body.getD .skip)=f35 c k:=by kernel_rfl
def HJ:Ann:=⟨[(0,r0 [0,1]),(1,⟨[0],[],[],[],[0,1,7],none,[]⟩),(2,r0 [1,7,8]),(3,r0 [1,7,8,9]),(4,r0 [1,7,8,9,18]),(5,r0 [1,7,8,9]),(6,r0 [1,7,8,9,10,11]),(7,r0 [1,7,8,9,10,11,29]),(8,r0 [4,5,6]),(9,r0 [1,7,8,9]),(10,⟨[3],[],[],[],[1,7,8,9],none,[]⟩),(11,r0 [4,5,6])],[(4,[1,7,8,9])]⟩
noncomputable def Jq (c:bh) (k:Nat):St:=
 (ak (ak (ap (rg [1,7,8,9,18] <| aX 15 (pM 9)<|aX 16 (pM 1)<|aX 17 (dl 28 16)<|aX 18 (pB .lss 3 15 17)<|aXZ))
 (bJ (.tmp 18) (bV .nrm) (bV (.ext 0))))
 (ak (bU 1 (ak (ap (rg [1,7,8,9,10,11] <| aX 22 (pM 1)<|aX 23 (pM 9)<|aX 24 (pI 6 22 23)<|aX 25 (pK c false 88 [8,24])<|aX 21 (pM 25)<|aX 26 (pE 0 21)<|aX 27 (pE 1 21)<|aX 10 (nG 27 3)<|aX0 (pS 3 10 26)<|aX 11 (pM 27)<|aXZ))
 (ak (ak (ap (rg [1,7,8,9,10,11,29] <| aX 28 (pM 11)<|aX 29 (pB .neq 2 28 (cnI 0))<|aXZ))
 (bJ (.tmp 29) (ak (ap (rg [4,5,6] <| aX 30 (fun n e M=>keep (eX 27 3 [] M))<|aX 31 (pM 11)<|aX 32 (pM 9)<|aX 4 (pM 30)<|aX 5 (pM 31)<|aX 6 (pM 32)<|aXZ))
 (bV .ret)) (bV .nrm)))
 (ak (ap (rg [1,7,8,9] <| aX 33 (pL true 3 10)<|aX0 (pS 3 8 33)<|aXZ))
 (ap (rg [1,7,8,9] <| aX 34 (pM 7)<|aX 35 (pL true 3 8)<|aX 36 (fun n e M=>keep (eX 27 3 [(a3 e 35)] M))<|aX 37 (fun n e M=>ks n 27 3 56 (a3 e 34) (a3 e 36) M)<|aX 7 (pM 37)<|aXZ))))))
 (ap (rg [1,7,8,9] <| aX 19 (pM 9)<|aX 20 (pB .add 3 19 (cnI 1))<|aX 9 (pM 20)<|aXZ))))
noncomputable def f36 (c:bh) (k:Nat):St:=
 (ak (ap (rg [0,1] <| aX 4 (pM (cn .nils))<|aX 5 (pM (cnI 0))<|aX 6 (pM (cnI 0))<|aXZ))
 (ak (ap (rg [0,1,7] <| aX 12 (fun n e M=>o8 false n 27 3 [] M)<|aX 7 (pM 12)<|aXZ))
 (ak (ap (rg [1,7,8] <| aX 13 (pM 0)<|aX 14 (pK c false 37 [13])<|aX 8 (nG 27 3)<|aX0 (pS 3 8 14)<|aXZ))
 (ak (ak (ap (rg [1,7,8,9] <| aX 9 (pM (cnI 0))<|aXZ))
 (bU 0 (cD [1,7,8,9] (Jq c k) k)))
 (ak (ap (rg [4,5,6] <| aX 38 (pM 7)<|aX 4 (pM 38)<|aX 5 (pM (cnI 0))<|aX 6 (pM (cnI 0))<|aXZ))
 (bV .ret))))))
theorem L4 (c:bh) (k:Nat):cf cx c 39 HJ k (Tryz.f36.body.getD .skip)=f36 c k:=by kernel_rfl
def GI:Ann:=⟨[(0,r0 [0,2]),(1,⟨[17],[],[],[17],[2],none,[]⟩)],[]⟩
noncomputable def f37 (c:bh) (k:Nat):St:=
 (ak (ap (rg [0,2] <| aX 2 (nG 27 3)<|aXZ))
 (ak (ap (mM [2] (aY 3 (pM 0)<|aY 4 (pN 3)<|aY 5 (pF 0 1 4)<|aY 6 (pL false 1 5)<|aY 7 (fun n e M=>keep (eX 2 1 [] M))<|aY 8 (pM 0)<|aY 9 (pN 8)<|aY 10 (pF 1 1 9)<|aY 11 (pL false 1 10)<|aY 12 (fun n e M=>rB 2 1 8 (a3 e 7) (a3 e 11) M)<|aY 13 (fun n e M=>keep (eX 80 5 [] M))<|aY 14 (pM 0)<|aY 15 (pN 14)<|aY 16 (pF 2 1 15)<|aY 17 (pL false 1 16)<|aY 18 (fun n e M=>rB 80 5 40 (a3 e 13) (a3 e 17) M)<|aY 19 (fun n e M=>keep (db (b5 cx.P 27) [(0,1,(a3 e 6)),(1,1,(a3 e 12)),(2,1,(a3 e 18))] M))<|aYZ) (aX0 (pSK 3 2 19)<|aXZ)))
 (bV .ret)))
theorem LR (c:bh) (k:Nat):cf cx c 20 GI k (Tryz.f37.body.getD .skip)=f37 c k:=by kernel_rfl
def Iy:Ann:=⟨[(0,r0 [0]),(1,r0 [2])],[]⟩
noncomputable def f38 (c:bh) (k:Nat):St:=
 (ak (ap (rg [0] <| aX 2 (pM (cn (.bool false)))<|aXZ))
 (ak (ap (rg [2] <| aX 3 (pM 0)<|aX 4 (pB .geq 2 3 (cnI 0))<|aX 5 (pM 4)<|aX 6 (pG 5 true (pM 0))<|aX 7 (pG 5 true (pB .leq 2 6 (cnI 100000)))<|aX 8 (pP 5 7 (cn (.bool false)))<|aX 2 (pM 8)<|aXZ))
 (bV .ret)))
theorem Lx (c:bh) (k:Nat):cf cx c 9 Iy k (Tryz.f38.body.getD .skip)=f38 c k:=by kernel_rfl
def Ja:Ann:=⟨[(0,r0 [1,3,5,6]),(1,r0 [1,3,5,6,14]),(2,r0 [6,7]),(3,r0 [1,3,5,6,8]),(4,r0 [1,3,5,6,8,20]),(5,r0 [1,3,5,6,8]),(6,⟨[],[],[7],[9,10],[5,6,9,10],none,[]⟩),(7,r0 [5,6,9,10,32]),(8,r0 [6,7]),(9,r0 [6,9]),(10,r0 [6,7])],[]⟩
noncomputable def f39 (c:bh) (k:Nat):St:=
 (ak (ap (rg [1,3,5,6] <| aX 3 (pBox 3 0)<|aX 5 (pBox 1 2)<|aX 6 (nG 27 3)<|aX 7 (pM (cnI 0))<|aXZ))
 (ak (ak (ap (rg [1,3,5,6,14] <| aX 11 (pL false 1 5)<|aX 12 (pF 0 1 3)<|aX 13 (pL false 1 12)<|aX 14 (pB .lss 2 11 13)<|aXZ))
 (bJ (.tmp 14) (ak (ap (rg [6,7] <| aX 15 (fun n e M=>keep (db (b5 cx.P 27) [] M))<|aX0 (pS 3 6 15)<|aX 7 (pM (cnI 4))<|aXZ))
 (bV .ret)) (bV .nrm)))
 (ak (ap (rg [1,3,5,6,8] <| aX 16 (pM 1)<|aX 17 (pM (fun e=>(.fn 94 [(a3 e 5)])))<|aX 18 (pK c false 93 [16,17])<|aX 8 (pM 18)<|aXZ))
 (ak (ak (ap (rg [1,3,5,6,8,20] <| aX 19 (pM 8)<|aX 20 (pB .lss 3 19 (cnI 0))<|aXZ))
 (bJ (.tmp 20) (ap (rg [1,3,5,6,8] <| aX 21 (pM 1)<|aX 22 (dl 28 21)<|aX 8 (pM 22)<|aXZ)) (bV .nrm)))
 (ak (ap (mM [5,6,9,10] (aY 24 (pL true 3 3)<|aY 25 (pM 1)<|aY 26 (pM 8)<|aY 27 (fun n e M=>keep (vo 6 none (some (a3 e 26)) (a3 e 25) M))<|aY 28 (pK c false 34 [24,27])<|aY 23 (pM 28)<|aY 29 (pE 0 23)<|aYc 30 (pE 1 23)<|aY 9 (nG 27 3)<|aYZ) (aX0 (pS 3 9 29)<|aX 10 (pM 30)<|aXZ)))
 (ak (ak (ap (rg [5,6,9,10,32] <| aX 31 (pM 10)<|aX 32 (pB .neq 2 31 (cnI 0))<|aXZ))
 (bJ (.tmp 32) (ak (ap (rg [6,7] <| aX 33 (fun n e M=>keep (db (b5 cx.P 27) [] M))<|aX 34 (pM 10)<|aX0 (pS 3 6 33)<|aX 7 (pM 34)<|aXZ))
 (bV .ret)) (bV .nrm)))
 (ak (ap (rg [6,9] <| aX 35 (pL false 1 5)<|aX 36 (pF 0 1 9)<|aX0 (pS 1 36 35)<|aXZ))
 (ak (ap (rg [6,7] <| aX 37 (pL true 3 9)<|aX0 (pS 3 6 37)<|aX 7 (pM (cnI 0))<|aXZ))
 (bV .ret)))))))))
theorem LO (c:bh) (k:Nat):cf cx c 38 Ja k (Tryz.f39.body.getD .skip)=f39 c k:=by kernel_rfl
def Hg:Ann:=⟨[(0,r0 [0,1]),(1,r0 [0,1,39]),(2,r0 [4]),(3,r0 [0,1,5]),(4,r0 [0,1,5,46]),(5,r0 [0,1,5]),(6,r0 [0,1,5,63]),(7,r0 [4]),(8,r0 [4])],[(4,[0,1,5])]⟩
noncomputable def GG (c:bh) (k:Nat):St:=
 (ak (ak (ap (rg [0,1,5,46] <| aX 40 (pM 5)<|aX 41 (pM 0)<|aX 42 (pN 41)<|aX 43 (pF 2 1 42)<|aX 44 (pL false 1 43)<|aX 45 (dl 25 44)<|aX 46 (pB .lss 3 40 45)<|aXZ))
 (bJ (.tmp 46) (bV .nrm) (bV (.ext 0))))
 (ak (bU 1 (ak (ap (mM [0,1,5,63] (aY 49 (pM 0)<|aY 50 (pN 49)<|aY 51 (pF 2 1 50)<|aY 52 (pL false 1 51)<|aY 53 (pM 5)<|aY 54 (pI 5 52 53)<|aY 55 (pL true 5 54)<|aY 56 (pM 1)<|aY 57 (pN 56)<|aY 58 (pF 2 1 57)<|aY 59 (pL false 1 58)<|aY 60 (pM 5)<|aY 61 (pI 5 59 60)<|aY 62 (pL true 5 61)<|aY 63 (pB .neq 80 55 62)<|aYZ) (aXZ)))
 (bJ (.tmp 63) (ak (ap (rg [4] <| aX 4 (pM (cn (.bool false)))<|aXZ))
 (bV .ret)) (bV .nrm))))
 (ap (rg [0,1,5] <| aX 47 (pM 5)<|aX 48 (pB .add 3 47 (cnI 1))<|aX 5 (pM 48)<|aXZ))))
noncomputable def f40 (c:bh) (k:Nat):St:=
 (ak (ap (rg [0,1] <| aX 4 (pM (cn (.bool false)))<|aXZ))
 (ak (ak (ap (mM [0,1,39] (aY 6 (pM 0)<|aY 7 (pN 6)<|aY 8 (pF 0 1 7)<|aY 9 (pL false 1 8)<|aY 10 (pM 1)<|aY 11 (pN 10)<|aY 12 (pF 0 1 11)<|aY 13 (pL false 1 12)<|aY 14 (pB .neq 2 9 13)<|aY 15 (pM 14)<|aY 16 (pG 15 false (pM 0))<|aY 17 (pG 15 false (pN 16))<|aY 18 (pG 15 false (pF 1 1 17))<|aY 19 (pG 15 false (pL false 1 18))<|aY 20 (pG 15 false (pM 1))<|aY 21 (pG 15 false (pN 20))<|aY 22 (pG 15 false (pF 1 1 21))<|aY 23 (pG 15 false (pL false 1 22))<|aY 24 (pG 15 false (pK c false 95 [19,23]))<|aY 25 (pG 15 false (pU .not 24))<|aY 26 (pP 15 (cn (.bool true)) 25)<|aY 27 (pM 26)<|aY 28 (pG 27 false (pM 0))<|aY 29 (pG 27 false (pN 28))<|aY 30 (pG 27 false (pF 2 1 29))<|aY 31 (pG 27 false (pL false 1 30))<|aY 32 (pG 27 false (dl 25 31))<|aY 33 (pG 27 false (pM 1))<|aY 34 (pG 27 false (pN 33))<|aY 35 (pG 27 false (pF 2 1 34))<|aY 36 (pG 27 false (pL false 1 35))<|aY 37 (pG 27 false (dl 25 36))<|aY 38 (pG 27 false (pB .neq 3 32 37))<|aY 39 (pP 27 (cn (.bool true)) 38)<|aYZ) (aXZ)))
 (bJ (.tmp 39) (ak (ap (rg [4] <| aX 4 (pM (cn (.bool false)))<|aXZ))
 (bV .ret)) (bV .nrm)))
 (ak (ak (ap (rg [0,1,5] <| aX 5 (pM (cnI 0))<|aXZ))
 (bU 0 (cD [0,1,5] (GG c k) k)))
 (ak (ap (rg [4] <| aX 4 (pM (cn (.bool true)))<|aXZ))
 (bV .ret)))))
theorem MT (c:bh) (k:Nat):cf cx c 64 Hg k (Tryz.f40.body.getD .skip)=f40 c k:=by kernel_rfl
def G8:Ann:=⟨[(0,r0 [1]),(1,r0 [1,3]),(2,r0 [1,3,29]),(3,r0 [2]),(4,r0 [1,3,31,32,33]),(5,r0 [1,3,31,32,33,34]),(6,r0 [1,3,5,31,32,33]),(7,r0 [1,3,31,32,33,39]),(8,r0 [2]),(9,r0 [1,3,31,32,33]),(10,r0 [1,3,6]),(11,r0 [1,3,6,42,43,44]),(12,r0 [1,3,6,42,43,44,45]),(13,r0 [1,3,6,8,42,43,44]),(14,r0 [1,3,8,42,43,44,102]),(15,r0 [2]),(16,r0 [1,3,6,42,43,44]),(17,r0 [1,3,6,42,43,44]),(18,r0 [2])],[(5,[1,3,31,32,33]),(12,[1,3,6,42,43,44])]⟩
noncomputable def GL (c:bh) (k:Nat):St:=
 (ak (ap (rg [1,3,31,32,33,34] <| aX 34 (pB .lss 3 33 32)<|aXZ))
 (ak (bJ (.tmp 34) (bV .nrm) (bV (.ext 0)))
 (ak (bU 1 (ak (ap (rg [1,3,5,31,32,33] <| aX 35 (pI 1 31 33)<|aX 36 (pL false 1 35)<|aX 5 (pM 36)<|aXZ))
 (ak (ap (rg [1,3,31,32,33,39] <| aX 37 (pM 5)<|aX 38 (pK c false 69 [37])<|aX 39 (pU .not 38)<|aXZ))
 (bJ (.tmp 39) (ak (ap (rg [2] <| aX 2 (pM (cn (.bool false)))<|aXZ))
 (bV .ret)) (bV .nrm)))))
 (ap (rg [1,3,31,32,33] <| aX 40 (pB .add 3 33 (cnI 1))<|aX 33 (pM 40)<|aXZ)))))
noncomputable def Fc (c:bh) (k:Nat):St:=
 (ak (ap (rg [1,3,6,42,43,44,45] <| aX 45 (pB .lss 3 44 43)<|aXZ))
 (ak (bJ (.tmp 45) (bV .nrm) (bV (.ext 2)))
 (ak (bU 3 (ak (ap (rg [1,3,6,8,42,43,44] <| aX 46 (pI 5 42 44)<|aX 47 (pL true 5 46)<|aX 8 (nG 80 5)<|aX0 (pS 5 8 47)<|aXZ))
 (ak (ak (ap (rg [1,3,8,42,43,44,102] <| aX 48 (pM 3)<|aX 49 (pF 0 1 8)<|aX 50 (pL false 1 49)<|aX 51 (pF 1 1 8)<|aX 52 (pL false 1 51)<|aX 53 (fun n e M=>keep (eX 2 1 [(a3 e 50),(a3 e 52)] M))<|aX 54 (pK c false 96 [48,53])<|aX 55 (pU .not 54)<|aX 56 (pM 55)<|aX 57 (pG 56 false (pF 2 1 8))<|aX 58 (pG 56 false (pL false 1 57))<|aX 59 (pG 56 false (pM 6))<|aX 60 (pG 56 false (pB .lss 2 58 59))<|aX 61 (pP 56 (cn (.bool true)) 60)<|aX 62 (pM 61)<|aX 63 (pG 62 false (pF 2 1 8))<|aX 64 (pG 62 false (pL false 1 63))<|aX 65 (pG 62 false (pF 0 1 1))<|aX 66 (pG 62 false (pL false 1 65))<|aX 67 (pG 62 false (pB .gtr 2 64 66))<|aX 68 (pP 62 (cn (.bool true)) 67)<|aX 69 (pM 68)<|aX 70 (pG 69 false (pF 3 1 8))<|aX 71 (pG 69 false (pL false 1 70))<|aX 72 (pG 69 false (pB .lss 2 71 (cnI 1)))<|aX 73 (pP 69 (cn (.bool true)) 72)<|aX 74 (pM 73)<|aX 75 (pG 74 false (pF 3 1 8))<|aX 76 (pG 74 false (pL false 1 75))<|aX 77 (pG 74 false (pB .gtr 2 76 (cnI 100000000)))<|aX 78 (pP 74 (cn (.bool true)) 77)<|aX 79 (pM 78)<|aX 80 (pG 79 false (pF 4 1 8))<|aX 81 (pG 79 false (pL false 1 80))<|aX 82 (pG 79 false (pB .lss 2 81 (cnI 0)))<|aX 83 (pP 79 (cn (.bool true)) 82)<|aX 84 (pM 83)<|aX 85 (pG 84 false (pF 4 1 8))<|aX 86 (pG 84 false (pL false 1 85))<|aX 87 (pG 84 false (pF 3 1 8))<|aX 88 (pG 84 false (pL false 1 87))<|aX 89 (pG 84 false (pB .gtr 2 86 88))<|aX 90 (pP 84 (cn (.bool true)) 89)<|aX 91 (pM 90)<|aX 92 (pG 91 false (pF 0 1 8))<|aX 93 (pG 91 false (pL false 1 92))<|aX 94 (pG 91 false (pF 1 1 8))<|aX 95 (pG 91 false (pL false 1 94))<|aX 96 (pG 91 false (pB .eql 2 93 95))<|aX 97 (pG 91 false (pM 96))<|aX 98 (pG 97 true (pF 4 1 8))<|aX 99 (pG 97 true (pL false 1 98))<|aX 100 (pG 97 true (pB .neq 2 99 (cnI 0)))<|aX 101 (pG 91 false (pP 97 100 (cn (.bool false))))<|aX 102 (pP 91 (cn (.bool true)) 101)<|aXZ))
 (bJ (.tmp 102) (ak (ap (rg [2] <| aX 2 (pM (cn (.bool false)))<|aXZ))
 (bV .ret)) (bV .nrm)))
 (ap (rg [1,3,6,42,43,44] <| aX 103 (pF 2 1 8)<|aX 104 (pL false 1 103)<|aX 6 (pM 104)<|aXZ)))))
 (ap (rg [1,3,6,42,43,44] <| aX 105 (pB .add 3 44 (cnI 1))<|aX 44 (pM 105)<|aXZ)))))
noncomputable def f41 (c:bh) (k:Nat):St:=
 (ak (ap (rg [1] <| aX 1 (pBox 3 0)<|aX 2 (pM (cn (.bool false)))<|aXZ))
 (ak (ap (rg [1,3] <| aX 9 (pF 1 1 1)<|aX 10 (pL false 1 9)<|aX 11 (dl 24 10)<|aX 3 (pM 11)<|aXZ))
 (ak (ak (ap (rg [1,3,29] <| aX 12 (pF 0 1 1)<|aX 13 (pL false 1 12)<|aX 14 (pK c false 38 [13])<|aX 15 (pU .not 14)<|aX 16 (pM 15)<|aX 17 (pG 16 false (pM 3))<|aX 18 (pG 16 false (pB .lss 2 17 (cnI 1)))<|aX 19 (pP 16 (cn (.bool true)) 18)<|aX 20 (pM 19)<|aX 21 (pG 20 false (pM 3))<|aX 22 (pG 20 false (pB .gtr 2 21 (cnI 16)))<|aX 23 (pP 20 (cn (.bool true)) 22)<|aX 24 (pM 23)<|aX 25 (pG 24 false (pF 2 1 1))<|aX 26 (pG 24 false (pL false 1 25))<|aX 27 (pG 24 false (dl 25 26))<|aX 28 (pG 24 false (pB .gtr 3 27 (cnI 40)))<|aX 29 (pP 24 (cn (.bool true)) 28)<|aXZ))
 (bJ (.tmp 29) (ak (ap (rg [2] <| aX 2 (pM (cn (.bool false)))<|aXZ))
 (bV .ret)) (bV .nrm)))
 (ak (ak (ap (rg [1,3,31,32,33] <| aX 30 (pF 1 1 1)<|aX 31 (pL false 1 30)<|aX 32 (dl 24 31)<|aX 33 (pM (cnI 0))<|aXZ))
 (bU 0 (cD [1,3,31,32,33] (GL c k) k)))
 (ak (ap (rg [1,3,6] <| aX 6 (pM (cnI 0))<|aXZ))
 (ak (ak (ap (rg [1,3,6,42,43,44] <| aX 41 (pF 2 1 1)<|aX 42 (pL false 1 41)<|aX 43 (dl 25 42)<|aX 44 (pM (cnI 0))<|aXZ))
 (bU 2 (cD [1,3,6,42,43,44] (Fc c k) k)))
 (ak (ap (rg [2] <| aX 2 (pM (cn (.bool true)))<|aXZ))
 (bV .ret))))))))
theorem Nk (c:bh) (k:Nat):cf cx c 106 G8 k (Tryz.f41.body.getD .skip)=f41 c k:=by kernel_rfl
def IR:Ann:=⟨[(0,r0 [0,1]),(1,r0 [1,9]),(2,r0 [4,5]),(3,r0 [4,5])],[]⟩
noncomputable def f42 (c:bh) (k:Nat):St:=
 (ak (ap (rg [0,1] <| aX 4 (pM (cn .nils))<|aX 5 (pM (cnI 0))<|aXZ))
 (ak (ak (ap (rg [1,9] <| aX 6 (pM 0)<|aX 7 (pM 1)<|aX 8 (pK c false 55 [6,7])<|aX 9 (pU .not 8)<|aXZ))
 (bJ (.tmp 9) (ak (ap (rg [4,5] <| aX 4 (pM (cn .nils))<|aX 5 (pM (cnI 1))<|aXZ))
 (bV .ret)) (bV .nrm)))
 (ak (ap (rg [4,5] <| aX 10 (pM 1)<|aX 11 (pK c false 46 [10])<|aX 12 (pK c false 49 [11])<|aX 13 (pE 0 12)<|aX 14 (pE 1 12)<|aX 4 (pM 13)<|aX 5 (pM 14)<|aXZ))
 (bV .ret))))
theorem M6 (c:bh) (k:Nat):cf cx c 15 IR k (Tryz.f42.body.getD .skip)=f42 c k:=by kernel_rfl
def Jd:Ann:=⟨[(0,r0 [0]),(1,r0 [0,27]),(2,r0 [2]),(3,r0 [0,3]),(4,r0 [0,3,4]),(5,r0 [0,3,4,39]),(6,r0 [0,3,4]),(7,r0 [0,3,4,5]),(8,r0 [0,3,4,5,95]),(9,r0 [2]),(10,r0 [0,3,4,131]),(11,r0 [2]),(12,r0 [2])],[(5,[0,3,4])]⟩
noncomputable def Ia (c:bh) (k:Nat):St:=
 (ak (ak (ap (rg [0,3,4,39] <| aX 33 (pM 4)<|aX 34 (pM 0)<|aX 35 (pN 34)<|aX 36 (pF 2 1 35)<|aX 37 (pL false 1 36)<|aX 38 (dl 25 37)<|aX 39 (pB .lss 3 33 38)<|aXZ))
 (bJ (.tmp 39) (bV .nrm) (bV (.ext 0))))
 (ak (bU 1 (ak (ap (rg [0,3,4,5] <| aX 42 (pM 0)<|aX 43 (pN 42)<|aX 44 (pF 2 1 43)<|aX 45 (pL false 1 44)<|aX 46 (pM 4)<|aX 47 (pI 5 45 46)<|aX 5 (pM 47)<|aXZ))
 (ak (ak (ap (mM [0,3,4,5,95] (aY 48 (pM 3)<|aY 49 (pM 5)<|aY 50 (pN 49)<|aY 51 (pF 0 1 50)<|aY 52 (pL false 1 51)<|aY 53 (pK c false 99 [48,52])<|aY 54 (pU .not 53)<|aY 55 (pM 54)<|aY 56 (pG 55 false (pM 3))<|aY 57 (pG 55 false (pM 5))<|aY 58 (pG 55 false (pN 57))<|aY 59 (pG 55 false (pF 1 1 58))<|aY 60 (pG 55 false (pL false 1 59))<|aY 61 (pG 55 false (pK c false 99 [56,60]))<|aY 62 (pG 55 false (pU .not 61))<|aY 63 (pP 55 (cn (.bool true)) 62)<|aY 64 (pM 63)<|aY 65 (pG 64 false (pM 5))<|aY 66 (pG 64 false (pN 65))<|aY 67 (pG 64 false (pF 2 1 66))<|aY 68 (pG 64 false (pL false 1 67))<|aY 69 (pG 64 false (pM 0))<|aY 70 (pG 64 false (pN 69))<|aY 71 (pG 64 false (pF 0 1 70))<|aY 72 (pG 64 false (pL false 1 71))<|aY 73 (pG 64 false (pK c false 100 [68,(cnI 0),72]))<|aY 74 (pG 64 false (pU .not 73))<|aY 75 (pP 64 (cn (.bool true)) 74)<|aY 76 (pM 75)<|aY 77 (pG 76 false (pM 5))<|aY 78 (pG 76 false (pN 77))<|aY 79 (pG 76 false (pF 3 1 78))<|aY 80 (pG 76 false (pL false 1 79))<|aY 81 (pG 76 false (pK c false 100 [80,(cnI 1),(cnI 100000000)]))<|aY 82 (pG 76 false (pU .not 81))<|aY 83 (pP 76 (cn (.bool true)) 82)<|aY 84 (pM 83)<|aY 85 (pG 84 false (pM 5))<|aY 86 (pG 84 false (pN 85))<|aY 87 (pG 84 false (pF 4 1 86))<|aY 88 (pG 84 false (pL false 1 87))<|aY 89 (pG 84 false (pM 5))<|aY 90 (pG 84 false (pN 89))<|aY 91 (pG 84 false (pF 3 1 90))<|aY 92 (pG 84 false (pL false 1 91))<|aY 93 (pG 84 false (pK c false 100 [88,(cnI 0),92]))<|aY 94 (pG 84 false (pU .not 93))<|aY 95 (pP 84 (cn (.bool true)) 94)<|aYZ) (aXZ)))
 (bJ (.tmp 95) (ak (ap (rg [2] <| aX 2 (pM (cn (.bool false)))<|aXZ))
 (bV .ret)) (bV .nrm)))
 (ak (ap (mM [0,3,4,131] (aY 96 (pM 5)<|aY 97 (pN 96)<|aY 98 (pF 0 1 97)<|aY 99 (pL false 1 98)<|aY 100 (pM 5)<|aY 101 (pN 100)<|aY 102 (pF 1 1 101)<|aY 103 (pL false 1 102)<|aY 104 (pB .eql 2 99 103)<|aY 105 (pM 104)<|aY 106 (pG 105 true (pM 5))<|aY 107 (pG 105 true (pN 106))<|aY 108 (pG 105 true (pF 4 1 107))<|aY 109 (pG 105 true (pL false 1 108))<|aY 110 (pG 105 true (pB .neq 2 109 (cnI 0)))<|aY 111 (pP 105 110 (cn (.bool false)))<|aY 112 (pM 111)<|aY 113 (pG 112 false (pM 4))<|aY 114 (pG 112 false (pB .gtr 3 113 (cnI 0)))<|aY 115 (pG 112 false (pM 114))<|aY 116 (pG 115 true (pM 5))<|aY 117 (pG 115 true (pN 116))<|aY 118 (pG 115 true (pF 2 1 117))<|aY 119 (pG 115 true (pL false 1 118))<|aY 120 (pG 115 true (pM 0))<|aY 121 (pG 115 true (pN 120))<|aY 122 (pG 115 true (pF 2 1 121))<|aY 123 (pG 115 true (pL false 1 122))<|aY 124 (pG 115 true (pM 4))<|aY 125 (pG 115 true (pB .sub 3 124 (cnI 1)))<|aY 126 (pG 115 true (pI 5 123 125))<|aY 127 (pG 115 true (pF 2 1 126))<|aY 128 (pG 115 true (pL false 1 127))<|aY 129 (pG 115 true (pB .lss 2 119 128))<|aY 130 (pG 112 false (pP 115 129 (cn (.bool false))))<|aY 131 (pP 112 (cn (.bool true)) 130)<|aYZ) (aXZ)))
 (bJ (.tmp 131) (ak (ap (rg [2] <| aX 2 (pM (cn (.bool false)))<|aXZ))
 (bV .ret)) (bV .nrm))))))
 (ap (rg [0,3,4] <| aX 40 (pM 4)<|aX 41 (pB .add 3 40 (cnI 1))<|aX 4 (pM 41)<|aXZ))))
noncomputable def f43 (c:bh) (k:Nat):St:=
 (ak (ap (rg [0] <| aX 2 (pM (cn (.bool false)))<|aXZ))
 (ak (ak (ap (rg [0,27] <| aX 6 (pM 0)<|aX 7 (pN 6)<|aX 8 (pF 0 1 7)<|aX 9 (pL false 1 8)<|aX 10 (pK c false 97 [9])<|aX 11 (pU .not 10)<|aX 12 (pM 11)<|aX 13 (pG 12 false (pM 0))<|aX 14 (pG 12 false (pN 13))<|aX 15 (pG 12 false (pF 1 1 14))<|aX 16 (pG 12 false (pL false 1 15))<|aX 17 (pG 12 false (pK c false 98 [16]))<|aX 18 (pG 12 false (pU .not 17))<|aX 19 (pP 12 (cn (.bool true)) 18)<|aX 20 (pM 19)<|aX 21 (pG 20 false (pM 0))<|aX 22 (pG 20 false (pN 21))<|aX 23 (pG 20 false (pF 2 1 22))<|aX 24 (pG 20 false (pL false 1 23))<|aX 25 (pG 20 false (dl 25 24))<|aX 26 (pG 20 false (pB .gtr 3 25 (cnI 40)))<|aX 27 (pP 20 (cn (.bool true)) 26)<|aXZ))
 (bJ (.tmp 27) (ak (ap (rg [2] <| aX 2 (pM (cn (.bool false)))<|aXZ))
 (bV .ret)) (bV .nrm)))
 (ak (ap (rg [0,3] <| aX 28 (pM 0)<|aX 29 (pN 28)<|aX 30 (pF 1 1 29)<|aX 31 (pL false 1 30)<|aX 32 (dl 24 31)<|aX 3 (pM 32)<|aXZ))
 (ak (ak (ap (rg [0,3,4] <| aX 4 (pM (cnI 0))<|aXZ))
 (bU 0 (cD [0,3,4] (Ia c k) k)))
 (ak (ap (rg [2] <| aX 2 (pM (cn (.bool true)))<|aXZ))
 (bV .ret))))))
theorem Nr (c:bh) (k:Nat):cf cx c 132 Jd k (Tryz.f43.body.getD .skip)=f43 c k:=by kernel_rfl
def HH:Ann:=⟨[(0,r0 [0]),(1,⟨[0],[],[],[],[0,4],none,[]⟩),(2,r0 [0,4,5]),(3,r0 [0,4,5,9]),(4,r0 [0,4,5]),(5,r0 [0,4,5,6]),(6,r0 [0,4,5,6,13]),(7,r0 [0,4,5,6]),(8,r0 [0,4,5,6,23]),(9,r0 [2,3]),(10,r0 [0,4,5,6,32]),(11,⟨[12],[],[],[],[0,4,5,6],none,[]⟩),(12,r0 [4,48]),(13,r0 [2,3]),(14,r0 [2,3])],[(6,[0,4,5,6]),(3,[0,4,5])]⟩
noncomputable def Ju (c:bh) (k:Nat):St:=
 (ak (ak (ap (rg [0,4,5,6,13] <| aX 12 (pM 6)<|aX 13 (pB .lss 2 12 (cnI 16))<|aXZ))
 (bJ (.tmp 13) (bV .nrm) (bV (.ext 2))))
 (ak (bU 3 (ak (ak (ap (rg [0,4,5,6,23] <| aX 16 (pM 0)<|aX 17 (pM 5)<|aX 18 (pM 6)<|aX 19 (pN 16)<|aX 20 (fun n e M=>keep (cb 16 16 (a3 e 19) (a3 e 17) M))<|aX 21 (fun n e M=>keep (cb 16 1 (a3 e 20) (a3 e 18) M))<|aX 22 (pL false 1 21)<|aX 23 (pB .gtr 2 22 (cnI 100000000))<|aXZ))
 (bJ (.tmp 23) (ak (ap (rg [2,3] <| aX 24 (fun n e M=>keep (eX 82 3 [] M))<|aX 2 (pM 24)<|aX 3 (pM (cnI 3))<|aXZ))
 (bV .ret)) (bV .nrm)))
 (ak (ap (rg [0,4,5,6,32] <| aX 25 (pM 0)<|aX 26 (pM 5)<|aX 27 (pM 6)<|aX 28 (pN 25)<|aX 29 (fun n e M=>keep (cb 16 16 (a3 e 28) (a3 e 26) M))<|aX 30 (fun n e M=>keep (cb 16 1 (a3 e 29) (a3 e 27) M))<|aX 31 (pL false 1 30)<|aX 32 (pB .gtr 2 31 (cnI 0))<|aXZ))
 (bJ (.tmp 32) (ap (rg [0,4,5,6] <| aX 33 (pM 4)<|aX 34 (pM 5)<|aX 35 (pM 6)<|aX 36 (pM 0)<|aX 37 (pM 5)<|aX 38 (pM 6)<|aX 39 (pN 36)<|aX 40 (fun n e M=>keep (cb 16 16 (a3 e 39) (a3 e 37) M))<|aX 41 (fun n e M=>keep (cb 16 1 (a3 e 40) (a3 e 38) M))<|aX 42 (pL false 1 41)<|aX 43 (fun n e M=>keep (db (b5 cx.P 82) [(0,1,(a3 e 34)),(1,1,(a3 e 35)),(2,1,(a3 e 42))] M))<|aX 44 (fun n e M=>keep (eX 82 3 [(a3 e 43)] M))<|aX 45 (fun n e M=>ks n 82 3 24 (a3 e 33) (a3 e 44) M)<|aX 4 (pM 45)<|aXZ)) (bV .nrm)))))
 (ap (rg [0,4,5,6] <| aX 14 (pM 6)<|aX 15 (pB .add 2 14 (cnI 1))<|aX 6 (pM 15)<|aXZ))))
noncomputable def HI (c:bh) (k:Nat):St:=
 (ak (ak (ap (rg [0,4,5,9] <| aX 8 (pM 5)<|aX 9 (pB .lss 2 8 (cnI 16))<|aXZ))
 (bJ (.tmp 9) (bV .nrm) (bV (.ext 0))))
 (ak (bU 1 (ak (ap (rg [0,4,5,6] <| aX 6 (pM (cnI 0))<|aXZ))
 (bU 2 (cD [0,4,5,6] (Ju c k) k))))
 (ap (rg [0,4,5] <| aX 10 (pM 5)<|aX 11 (pB .add 2 10 (cnI 1))<|aX 5 (pM 11)<|aXZ))))
noncomputable def f44 (c:bh) (k:Nat):St:=
 (ak (ap (rg [0] <| aX 2 (pM (cn .nils))<|aX 3 (pM (cnI 0))<|aXZ))
 (ak (ap (rg [0,4] <| aX 7 (fun n e M=>o8 false n 82 3 [] M)<|aX 4 (pM 7)<|aXZ))
 (ak (ak (ap (rg [0,4,5] <| aX 5 (pM (cnI 0))<|aXZ))
 (bU 0 (cD [0,4,5] (HI c k) k)))
 (ak (ak (ap (rg [4,48] <| aX 46 (pM 4)<|aX 47 (dl 35 46)<|aX 48 (pB .gtr 3 47 (cnI 60))<|aXZ))
 (bJ (.tmp 48) (ak (ap (rg [2,3] <| aX 49 (fun n e M=>keep (eX 82 3 [] M))<|aX 2 (pM 49)<|aX 3 (pM (cnI 3))<|aXZ))
 (bV .ret)) (bV .nrm)))
 (ak (ap (rg [2,3] <| aX 50 (pM 4)<|aX 2 (pM 50)<|aX 3 (pM (cnI 0))<|aXZ))
 (bV .ret))))))
theorem Me (c:bh) (k:Nat):cf cx c 51 HH k (Tryz.f44.body.getD .skip)=f44 c k:=by kernel_rfl
def HY:Ann:=⟨[(0,r0 [0]),(1,⟨[1],[],[],[],[0,3],none,[]⟩),(2,r0 [0,3,4]),(3,r0 [0,3,4,10]),(4,r0 [0,3,4]),(5,⟨[],[],[],[24],[0,3,4],none,[]⟩),(6,r0 [2])],[(3,[0,3,4])]⟩
noncomputable def GD (c:bh) (k:Nat):St:=
 (ak (ak (ap (rg [0,3,4,10] <| aX 7 (pM 4)<|aX 8 (pM 0)<|aX 9 (dl 35 8)<|aX 10 (pB .lss 3 7 9)<|aXZ))
 (bJ (.tmp 10) (bV .nrm) (bV (.ext 0))))
 (ak (bU 1 (ap (mM [0,3,4] (aY 13 (pM 3)<|aY 14 (pM 0)<|aY 15 (pM 4)<|aY 16 (pI 3 14 15)<|aY 17 (pF 0 1 16)<|aY 18 (pL false 1 17)<|aY 19 (pM 0)<|aY 20 (pM 4)<|aY 21 (pI 3 19 20)<|aY 22 (pF 1 1 21)<|aY 23 (pL false 1 22)<|aY 24 (pN 13)<|aY 25 (fun n e M=>keep (cb 16 16 (a3 e 24) (a3 e 18) M))<|aY 26 (fun n e M=>keep (cb 16 1 (a3 e 25) (a3 e 23) M))<|aY 27 (pL false 1 26)<|aY 28 (pM 0)<|aY 29 (pM 4)<|aY 30 (pI 3 28 29)<|aY 31 (pF 2 1 30)<|aY 32 (pL false 1 31)<|aY 33 (pB .add 2 27 32)<|aY 34 (pN 13)<|aY 35 (fun n e M=>keep (cb 16 16 (a3 e 34) (a3 e 18) M))<|aY 36 (fun n e M=>keep (cb 16 1 (a3 e 35) (a3 e 23) M))<|aYZ) (aX0 (pS 1 36 33)<|aXZ))))
 (ap (rg [0,3,4] <| aX 11 (pM 4)<|aX 12 (pB .add 3 11 (cnI 1))<|aX 4 (pM 12)<|aXZ))))
noncomputable def f45 (c:bh) (k:Nat):St:=
 (ak (ap (rg [0] <| aX 2 (pM (cn .nilp))<|aXZ))
 (ak (ap (rg [0,3] <| aX 5 (fun n e M=>keep (db (b5 cx.P 150) [] M))<|aX 6 (fun n e M=>s3 n 150 256 (a3 e 5) M)<|aX 3 (pM 6)<|aXZ))
 (ak (ak (ap (rg [0,3,4] <| aX 4 (pM (cnI 0))<|aXZ))
 (bU 0 (cD [0,3,4] (GD c k) k)))
 (ak (ap (rg [2] <| aX 37 (pM 3)<|aX 2 (pM 37)<|aXZ))
 (bV .ret)))))
theorem L2 (c:bh) (k:Nat):cf cx c 38 HY k (Tryz.f45.body.getD .skip)=f45 c k:=by kernel_rfl
def JK:Ann:=⟨[(0,r0 [0,2]),(1,r0 [0,2,3]),(2,r0 [2,3,7,8,9]),(3,r0 [2,3,7,8,9,10]),(4,r0 [2,3,5,7,8,9]),(5,⟨[],[],[],[12],[2,3,7,8,9],none,[]⟩),(6,r0 [2,3,7,8,9]),(7,r0 [2])],[(3,[2,3,7,8,9])]⟩
noncomputable def I2 (c:bh) (k:Nat):St:=
 (ak (ap (rg [2,3,7,8,9,10] <| aX 10 (pB .lss 3 9 8)<|aXZ))
 (ak (bJ (.tmp 10) (bV .nrm) (bV (.ext 0)))
 (ak (bU 1 (ak (ap (rg [2,3,5,7,8,9] <| aX 11 (pI 3 7 9)<|aX 12 (pL true 3 11)<|aX 5 (nG 82 3)<|aX0 (pS 3 5 12)<|aXZ))
 (ap (mM [2,3,7,8,9] (aY 13 (pF 0 1 5)<|aY 14 (pL false 1 13)<|aY 15 (pF 1 1 5)<|aY 16 (pL false 1 15)<|aY 17 (fun n e M=>keep (cb 16 16 (a3 e 3) (a3 e 14) M))<|aY 18 (fun n e M=>keep (cb 16 1 (a3 e 17) (a3 e 16) M))<|aY 19 (pL false 1 18)<|aY 20 (pF 2 1 5)<|aY 21 (pL false 1 20)<|aY 22 (pB .add 2 19 21)<|aY 23 (fun n e M=>keep (cb 16 16 (a3 e 3) (a3 e 14) M))<|aY 24 (fun n e M=>keep (cb 16 1 (a3 e 23) (a3 e 16) M))<|aYZ) (aX0 (pS 1 24 22)<|aXZ)))))
 (ap (rg [2,3,7,8,9] <| aX 25 (pB .add 3 9 (cnI 1))<|aX 9 (pM 25)<|aXZ)))))
noncomputable def f46 (c:bh) (k:Nat):St:=
 (ak (ap (rg [0,2] <| aX 2 (nG 91 256)<|aXZ))
 (ak (ap (rg [0,2,3] <| aX 6 (fun n e M=>keep (db (b5 cx.P 91) [] M))<|aX 3 (nG 91 256)<|aX0 (pS 256 3 6)<|aXZ))
 (ak (ak (ap (rg [2,3,7,8,9] <| aX 7 (pM 0)<|aX 8 (dl 35 7)<|aX 9 (pM (cnI 0))<|aXZ))
 (bU 0 (cD [2,3,7,8,9] (I2 c k) k)))
 (ak (ap (rg [2] <| aX 26 (pL true 256 3)<|aX0 (pS 256 2 26)<|aXZ))
 (bV .ret)))))
theorem MC (c:bh) (k:Nat):cf cx c 27 JK k (Tryz.f46.body.getD .skip)=f46 c k:=by kernel_rfl
def H1:Ann:=⟨[(0,r0 [0]),(1,r0 [0,5]),(2,r0 [0,5,6]),(3,r0 [0,3,5]),(4,r0 [0,4,5]),(5,r0 [0,4,5,13]),(6,r0 [2]),(7,r0 [0,5]),(8,r0 [2])],[(2,[0,5])]⟩
noncomputable def Jr (c:bh) (k:Nat):St:=
 (ak (ap (rg [0,5,6] <| aX 6 (pB .lss 2 5 (cnI 16))<|aXZ))
 (ak (bJ (.tmp 6) (bV .nrm) (bV (.ext 0)))
 (ak (bU 1 (ak (ap (rg [0,3,5] <| aX 7 (pM 5)<|aX 3 (pM 7)<|aXZ))
 (ak (ap (rg [0,4,5] <| aX 8 (pM 0)<|aX 9 (pM 3)<|aX 10 (fun n e M=>keep (eX 2 1 [(a3 e 9)] M))<|aX 11 (pK c false 101 [8,10])<|aX 4 (pM 11)<|aXZ))
 (ak (ap (rg [0,4,5,13] <| aX 12 (pM 4)<|aX 13 (pB .neq 24 12 (cn .nils))<|aXZ))
 (bJ (.tmp 13) (ak (ap (rg [2] <| aX 14 (pM 4)<|aX 2 (pM 14)<|aXZ))
 (bV .ret)) (bV .nrm))))))
 (ap (rg [0,5] <| aX 15 (pB .add 2 5 (cnI 1))<|aX 5 (pM 15)<|aXZ)))))
noncomputable def f47 (c:bh) (k:Nat):St:=
 (ak (ap (rg [0] <| aX 2 (pM (cn .nils))<|aXZ))
 (ak (ak (ap (rg [0,5] <| aX 5 (pM (cnI 0))<|aXZ))
 (bU 0 (cD [0,5] (Jr c k) k)))
 (ak (ap (rg [2] <| aX 2 (pM (cn .nils))<|aXZ))
 (bV .ret))))
theorem Mf (c:bh) (k:Nat):cf cx c 16 H1 k (Tryz.f47.body.getD .skip)=f47 c k:=by kernel_rfl
def I4:Ann:=⟨[(0,r0 [0,1]),(1,r0 [0,1,5]),(2,r0 [0,1,5,11,12,13]),(3,r0 [0,1,5,11,12,13,14]),(4,r0 [0,1,5,6,7,11,12,13]),(5,r0 [0,1,5,8,11,12,13]),(6,r0 [0,1,5,8,11,12,13,38]),(7,r0 [0,1,5,11,12,13]),(8,r0 [0,1,5,11,12,13]),(9,r0 [0,1,5,41,42,43]),(10,r0 [0,1,5,41,42,43,44]),(11,r0 [0,1,5,9,10,41,42,43]),(12,⟨[],[],[],[19],[0,1,5,41,42,43],none,[]⟩),(13,r0 [0,1,5,41,42,43]),(14,r0 [4])],[(3,[0,1,5,11,12,13]),(10,[0,1,5,41,42,43])]⟩
noncomputable def GU (c:bh) (k:Nat):St:=
 (ak (ap (rg [0,1,5,11,12,13,14] <| aX 14 (pB .lss 3 13 12)<|aXZ))
 (ak (bJ (.tmp 14) (bV .nrm) (bV (.ext 0)))
 (ak (bU 1 (ak (ap (rg [0,1,5,6,7,11,12,13] <| aX 15 (pM 13)<|aX 16 (pI 1 11 13)<|aX 17 (pL false 1 16)<|aX 6 (pM 15)<|aX 7 (pM 17)<|aXZ))
 (ak (ap (mM [0,1,5,8,11,12,13] (aY 18 (pM 0)<|aY 19 (pM 7)<|aY 20 (pM 1)<|aY 21 (pM 6)<|aY 22 (pB .add 3 21 (cnI 1))<|aY 23 (pM 1)<|aY 24 (dl 24 23)<|aY 25 (pB .rem 3 22 24)<|aY 26 (pI 1 20 25)<|aY 27 (pL false 1 26)<|aY 28 (pN 18)<|aY 29 (fun n e M=>keep (cb 16 16 (a3 e 28) (a3 e 19) M))<|aY 30 (fun n e M=>keep (cb 16 1 (a3 e 29) (a3 e 27) M))<|aY 31 (pL false 1 30)<|aY 8 (pM 31)<|aYZ) (aXZ)))
 (ak (ap (rg [0,1,5,8,11,12,13,38] <| aX 32 (pM 5)<|aX 33 (pB .lss 2 32 (cnI 0))<|aX 34 (pM 33)<|aX 35 (pG 34 false (pM 8))<|aX 36 (pG 34 false (pM 5))<|aX 37 (pG 34 false (pB .lss 2 35 36))<|aX 38 (pP 34 (cn (.bool true)) 37)<|aXZ))
 (bJ (.tmp 38) (ap (rg [0,1,5,11,12,13] <| aX 39 (pM 8)<|aX 5 (pM 39)<|aXZ)) (bV .nrm))))))
 (ap (rg [0,1,5,11,12,13] <| aX 40 (pB .add 3 13 (cnI 1))<|aX 13 (pM 40)<|aXZ)))))
noncomputable def Ep (c:bh) (k:Nat):St:=
 (ak (ap (rg [0,1,5,41,42,43,44] <| aX 44 (pB .lss 3 43 42)<|aXZ))
 (ak (bJ (.tmp 44) (bV .nrm) (bV (.ext 2)))
 (ak (bU 3 (ak (ap (rg [0,1,5,9,10,41,42,43] <| aX 45 (pM 43)<|aX 46 (pI 1 41 43)<|aX 47 (pL false 1 46)<|aX 9 (pM 45)<|aX 10 (pM 47)<|aXZ))
 (ap (mM [0,1,5,41,42,43] (aY 48 (pM 0)<|aY 49 (pM 10)<|aY 50 (pM 1)<|aY 51 (pM 9)<|aY 52 (pB .add 3 51 (cnI 1))<|aY 53 (pM 1)<|aY 54 (dl 24 53)<|aY 55 (pB .rem 3 52 54)<|aY 56 (pI 1 50 55)<|aY 57 (pL false 1 56)<|aY 58 (pN 48)<|aY 59 (fun n e M=>keep (cb 16 16 (a3 e 58) (a3 e 49) M))<|aY 60 (fun n e M=>keep (cb 16 1 (a3 e 59) (a3 e 57) M))<|aY 61 (pL false 1 60)<|aY 62 (pM 5)<|aY 63 (pB .sub 2 61 62)<|aY 64 (pN 48)<|aY 65 (fun n e M=>keep (cb 16 16 (a3 e 64) (a3 e 49) M))<|aY 66 (fun n e M=>keep (cb 16 1 (a3 e 65) (a3 e 57) M))<|aYZ) (aX0 (pS 1 66 63)<|aXZ)))))
 (ap (rg [0,1,5,41,42,43] <| aX 67 (pB .add 3 43 (cnI 1))<|aX 43 (pM 67)<|aXZ)))))
noncomputable def f48 (c:bh) (k:Nat):St:=
 (ak (ap (rg [0,1] <| aX 4 (pM (cnI 0))<|aXZ))
 (ak (ap (rg [0,1,5] <| aX 5 (pM (cnI ((-1))))<|aXZ))
 (ak (ak (ap (rg [0,1,5,11,12,13] <| aX 11 (pM 1)<|aX 12 (dl 24 11)<|aX 13 (pM (cnI 0))<|aXZ))
 (bU 0 (cD [0,1,5,11,12,13] (GU c k) k)))
 (ak (ak (ap (rg [0,1,5,41,42,43] <| aX 41 (pM 1)<|aX 42 (dl 24 41)<|aX 43 (pM (cnI 0))<|aXZ))
 (bU 2 (cD [0,1,5,41,42,43] (Ep c k) k)))
 (ak (ap (rg [4] <| aX 68 (pM 5)<|aX 4 (pM 68)<|aXZ))
 (bV .ret))))))
theorem Md (c:bh) (k:Nat):cf cx c 69 I4 k (Tryz.f48.body.getD .skip)=f48 c k:=by kernel_rfl
def Jv:Ann:=⟨[(0,r0 [1]),(1,⟨[0],[],[],[],[1,4],none,[]⟩),(2,r0 [4,10,11]),(3,r0 [4,10,11,12]),(4,r0 [4,5,6,10,11]),(5,r0 [4,5,10,11,15,16]),(6,r0 [4,5,10,11,15,16,17]),(7,r0 [4,5,7,8,10,11,15,16]),(8,r0 [4,5,7,8,10,11,15,16,21]),(9,r0 [2,3]),(10,r0 [4,5,7,8,10,11,15,16,23]),(11,⟨[6],[],[],[],[4,5,10,11,15,16],none,[]⟩),(12,r0 [4,5,10,11,15,16]),(13,r0 [4,10,11]),(14,r0 [4,35]),(15,r0 [2,3]),(16,r0 [2,3])],[(6,[4,5,10,11,15,16]),(3,[4,10,11])]⟩
noncomputable def I9 (c:bh) (k:Nat):St:=
 (ak (ap (rg [4,5,10,11,15,16,17] <| aX 17 (pB .lss 3 16 (cnI 16))<|aXZ))
 (ak (bJ (.tmp 17) (bV .nrm) (bV (.ext 2)))
 (ak (bU 3 (ak (ap (rg [4,5,7,8,10,11,15,16] <| aX 18 (pM 16)<|aX 19 (fun n e M=>keep (lm false 16 1 (a3 e 15) (a3 e 16)))<|aX 7 (pM 18)<|aX 8 (pM 19)<|aXZ))
 (ak (ak (ap (rg [4,5,7,8,10,11,15,16,21] <| aX 20 (pM 8)<|aX 21 (pB .gtr 2 20 (cnI 100000000))<|aXZ))
 (bJ (.tmp 21) (ak (ap (rg [2,3] <| aX 2 (pM (cn .nils))<|aX 3 (pM (cnI 3))<|aXZ))
 (bV .ret)) (bV .nrm)))
 (ak (ap (rg [4,5,7,8,10,11,15,16,23] <| aX 22 (pM 8)<|aX 23 (pB .gtr 2 22 (cnI 0))<|aXZ))
 (bJ (.tmp 23) (ap (rg [4,5,10,11,15,16] <| aX 24 (pM 4)<|aX 25 (pM 5)<|aX 26 (pM 7)<|aX 27 (pM 8)<|aX 28 (fun n e M=>keep (db (b5 cx.P 82) [(0,1,(a3 e 25)),(1,1,(a3 e 26)),(2,1,(a3 e 27))] M))<|aX 29 (fun n e M=>keep (eX 82 3 [(a3 e 28)] M))<|aX 30 (fun n e M=>ks n 82 3 24 (a3 e 24) (a3 e 29) M)<|aX 4 (pM 30)<|aXZ)) (bV .nrm))))))
 (ap (rg [4,5,10,11,15,16] <| aX 31 (pB .add 3 16 (cnI 1))<|aX 16 (pM 31)<|aXZ)))))
noncomputable def Is (c:bh) (k:Nat):St:=
 (ak (ap (rg [4,10,11,12] <| aX 12 (pB .lss 3 11 (cnI 16))<|aXZ))
 (ak (bJ (.tmp 12) (bV .nrm) (bV (.ext 0)))
 (ak (bU 1 (ak (ap (rg [4,5,6,10,11] <| aX 13 (pM 11)<|aX 14 (fun n e M=>keep (lm true 16 16 (a3 e 10) (a3 e 11)))<|aX 6 (nG 89 16)<|aX 5 (pM 13)<|aX0 (pS 16 6 14)<|aXZ))
 (ak (ap (rg [4,5,10,11,15,16] <| aX 15 (pL true 16 6)<|aX 16 (pM (cnI 0))<|aXZ))
 (bU 2 (cD [4,5,10,11,15,16] (I9 c k) k)))))
 (ap (rg [4,10,11] <| aX 32 (pB .add 3 11 (cnI 1))<|aX 11 (pM 32)<|aXZ)))))
noncomputable def f49 (c:bh) (k:Nat):St:=
 (ak (ap (rg [1] <| aX 1 (pBox 256 0)<|aX 2 (pM (cn .nils))<|aX 3 (pM (cnI 0))<|aXZ))
 (ak (ap (rg [1,4] <| aX 9 (fun n e M=>o8 false n 82 3 [] M)<|aX 4 (pM 9)<|aXZ))
 (ak (ak (ap (rg [4,10,11] <| aX 10 (pL true 256 1)<|aX 11 (pM (cnI 0))<|aXZ))
 (bU 0 (cD [4,10,11] (Is c k) k)))
 (ak (ak (ap (rg [4,35] <| aX 33 (pM 4)<|aX 34 (dl 35 33)<|aX 35 (pB .gtr 3 34 (cnI 60))<|aXZ))
 (bJ (.tmp 35) (ak (ap (rg [2,3] <| aX 2 (pM (cn .nils))<|aX 3 (pM (cnI 3))<|aXZ))
 (bV .ret)) (bV .nrm)))
 (ak (ap (rg [2,3] <| aX 36 (pM 4)<|aX 2 (pM 36)<|aX 3 (pM (cnI 0))<|aXZ))
 (bV .ret))))))
theorem Lz (c:bh) (k:Nat):cf cx c 37 Jv k (Tryz.f49.body.getD .skip)=f49 c k:=by kernel_rfl
def Ha:Ann:=⟨[(0,r0 [0,1]),(1,r0 [0,1,14]),(2,r0 [4]),(3,r0 [0,1,5]),(4,r0 [0,1,5,18]),(5,r0 [0,1,5]),(6,r0 [0,1,5,6]),(7,r0 [0,1,5,58]),(8,r0 [4]),(9,r0 [4])],[(4,[0,1,5])]⟩
noncomputable def HQ (c:bh) (k:Nat):St:=
 (ak (ak (ap (rg [0,1,5,18] <| aX 15 (pM 5)<|aX 16 (pM 1)<|aX 17 (dl 35 16)<|aX 18 (pB .lss 3 15 17)<|aXZ))
 (bJ (.tmp 18) (bV .nrm) (bV (.ext 0))))
 (ak (bU 1 (ak (ap (rg [0,1,5,6] <| aX 21 (pM 1)<|aX 22 (pM 5)<|aX 23 (pI 3 21 22)<|aX 6 (pM 23)<|aXZ))
 (ak (ap (mM [0,1,5,58] (aY 24 (pM 0)<|aY 25 (pM 6)<|aY 26 (pN 25)<|aY 27 (pF 0 1 26)<|aY 28 (pL false 1 27)<|aY 29 (pK c false 99 [24,28])<|aY 30 (pU .not 29)<|aY 31 (pM 30)<|aY 32 (pG 31 false (pM 0))<|aY 33 (pG 31 false (pM 6))<|aY 34 (pG 31 false (pN 33))<|aY 35 (pG 31 false (pF 1 1 34))<|aY 36 (pG 31 false (pL false 1 35))<|aY 37 (pG 31 false (pK c false 99 [32,36]))<|aY 38 (pG 31 false (pU .not 37))<|aY 39 (pP 31 (cn (.bool true)) 38)<|aY 40 (pM 39)<|aY 41 (pG 40 false (pM 6))<|aY 42 (pG 40 false (pN 41))<|aY 43 (pG 40 false (pF 0 1 42))<|aY 44 (pG 40 false (pL false 1 43))<|aY 45 (pG 40 false (pM 6))<|aY 46 (pG 40 false (pN 45))<|aY 47 (pG 40 false (pF 1 1 46))<|aY 48 (pG 40 false (pL false 1 47))<|aY 49 (pG 40 false (pB .eql 2 44 48))<|aY 50 (pP 40 (cn (.bool true)) 49)<|aY 51 (pM 50)<|aY 52 (pG 51 false (pM 6))<|aY 53 (pG 51 false (pN 52))<|aY 54 (pG 51 false (pF 2 1 53))<|aY 55 (pG 51 false (pL false 1 54))<|aY 56 (pG 51 false (pK c false 100 [55,(cnI 1),(cnI 100000000)]))<|aY 57 (pG 51 false (pU .not 56))<|aY 58 (pP 51 (cn (.bool true)) 57)<|aYZ) (aXZ)))
 (bJ (.tmp 58) (ak (ap (rg [4] <| aX 4 (pM (cn (.bool false)))<|aXZ))
 (bV .ret)) (bV .nrm)))))
 (ap (rg [0,1,5] <| aX 19 (pM 5)<|aX 20 (pB .add 3 19 (cnI 1))<|aX 5 (pM 20)<|aXZ))))
noncomputable def f50 (c:bh) (k:Nat):St:=
 (ak (ap (rg [0,1] <| aX 4 (pM (cn (.bool false)))<|aXZ))
 (ak (ak (ap (rg [0,1,14] <| aX 7 (pM 0)<|aX 8 (pK c false 100 [7,(cnI 1),(cnI 16)])<|aX 9 (pU .not 8)<|aX 10 (pM 9)<|aX 11 (pG 10 false (pM 1))<|aX 12 (pG 10 false (dl 35 11))<|aX 13 (pG 10 false (pB .gtr 3 12 (cnI 60)))<|aX 14 (pP 10 (cn (.bool true)) 13)<|aXZ))
 (bJ (.tmp 14) (ak (ap (rg [4] <| aX 4 (pM (cn (.bool false)))<|aXZ))
 (bV .ret)) (bV .nrm)))
 (ak (ak (ap (rg [0,1,5] <| aX 5 (pM (cnI 0))<|aXZ))
 (bU 0 (cD [0,1,5] (HQ c k) k)))
 (ak (ap (rg [4] <| aX 4 (pM (cn (.bool true)))<|aXZ))
 (bV .ret)))))
theorem LZ (c:bh) (k:Nat):cf cx c 59 Ha k (Tryz.f50.body.getD .skip)=f50 c k:=by kernel_rfl
def HS:Ann:=⟨[(0,r0 [0]),(1,r0 [0,4]),(2,r0 [0,4,8]),(3,r0 [0,4]),(4,r0 [0,4,5,6]),(5,r0 [0,4,5,18]),(6,r0 [2,3]),(7,r0 [2,3])],[(2,[0,4])]⟩
noncomputable def Ip (c:bh) (k:Nat):St:=
 (ak (ak (ap (rg [0,4,8] <| aX 7 (pM 4)<|aX 8 (pB .lss 2 7 (cnI 16))<|aXZ))
 (bJ (.tmp 8) (bV .nrm) (bV (.ext 0))))
 (ak (bU 1 (ak (ap (rg [0,4,5,6] <| aX 12 (pM 0)<|aX 13 (pM 4)<|aX 14 (fun n e M=>keep (eX 2 1 [(a3 e 13)] M))<|aX 15 (pK c false 102 [12,14])<|aX 11 (pM 15)<|aX 16 (pE 0 11)<|aX 17 (pE 1 11)<|aX 5 (pM 16)<|aX 6 (pM 17)<|aXZ))
 (ak (ap (rg [0,4,5,18] <| aX 18 (pM 6)<|aXZ))
 (bJ (.tmp 18) (ak (ap (rg [2,3] <| aX 19 (pM 5)<|aX 2 (pM 19)<|aX 3 (pM (cn (.bool true)))<|aXZ))
 (bV .ret)) (bV .nrm)))))
 (ap (rg [0,4] <| aX 9 (pM 4)<|aX 10 (pB .add 2 9 (cnI 1))<|aX 4 (pM 10)<|aXZ))))
noncomputable def f51 (c:bh) (k:Nat):St:=
 (ak (ap (rg [0] <| aX 2 (pM (cn .nils))<|aX 3 (pM (cn (.bool false)))<|aXZ))
 (ak (ak (ap (rg [0,4] <| aX 4 (pM (cnI 0))<|aXZ))
 (bU 0 (cD [0,4] (Ip c k) k)))
 (ak (ap (rg [2,3] <| aX 20 (fun n e M=>keep (eX 2 1 [] M))<|aX 2 (pM 20)<|aX 3 (pM (cn (.bool false)))<|aXZ))
 (bV .ret))))
theorem LG (c:bh) (k:Nat):cf cx c 21 HS k (Tryz.f51.body.getD .skip)=f51 c k:=by kernel_rfl
def H3:Ann:=⟨[(0,r0 [0,1]),(1,r0 [0,1,5]),(2,r0 [0,1,5,6]),(3,r0 [0,1,5,6,7]),(4,r0 [0,1,5,6,7,26]),(5,r0 [0,1,5,6,7]),(6,r0 [0,1,5,6,7]),(7,r0 [4])],[(4,[0,1,5,6,7])]⟩
noncomputable def H4 (c:bh) (k:Nat):St:=
 (ak (ak (ap (rg [0,1,5,6,7,26] <| aX 23 (pM 7)<|aX 24 (pB .add 3 23 (cnI 1))<|aX 25 (pM 5)<|aX 26 (pB .lss 3 24 25)<|aXZ))
 (bJ (.tmp 26) (bV .nrm) (bV (.ext 0))))
 (ak (bU 1 (ap (mM [0,1,5,6,7] (aY 29 (pM 6)<|aY 30 (pM 0)<|aY 31 (pM 1)<|aY 32 (pM 7)<|aY 33 (pI 1 31 32)<|aY 34 (pL false 1 33)<|aY 35 (pM 1)<|aY 36 (pM 7)<|aY 37 (pB .add 3 36 (cnI 1))<|aY 38 (pI 1 35 37)<|aY 39 (pL false 1 38)<|aY 40 (pN 30)<|aY 41 (fun n e M=>keep (cb 16 16 (a3 e 40) (a3 e 34) M))<|aY 42 (fun n e M=>keep (cb 16 1 (a3 e 41) (a3 e 39) M))<|aY 43 (pL false 1 42)<|aY 44 (pK c false 103 [29,43])<|aY 6 (pM 44)<|aYZ) (aXZ))))
 (ap (rg [0,1,5,6,7] <| aX 27 (pM 7)<|aX 28 (pB .add 3 27 (cnI 1))<|aX 7 (pM 28)<|aXZ))))
noncomputable def f52 (c:bh) (k:Nat):St:=
 (ak (ap (rg [0,1] <| aX 4 (pM (cnI 0))<|aXZ))
 (ak (ap (rg [0,1,5] <| aX 8 (pM 1)<|aX 9 (dl 24 8)<|aX 5 (pM 9)<|aXZ))
 (ak (ap (mM [0,1,5,6] (aY 10 (pM 0)<|aY 11 (pM 1)<|aY 12 (pM 5)<|aY 13 (pB .sub 3 12 (cnI 1))<|aY 14 (pI 1 11 13)<|aY 15 (pL false 1 14)<|aY 16 (pM 1)<|aY 17 (pI 1 16 (cnI 0))<|aY 18 (pL false 1 17)<|aY 19 (pN 10)<|aY 20 (fun n e M=>keep (cb 16 16 (a3 e 19) (a3 e 15) M))<|aY 21 (fun n e M=>keep (cb 16 1 (a3 e 20) (a3 e 18) M))<|aY 22 (pL false 1 21)<|aY 6 (pM 22)<|aYZ) (aXZ)))
 (ak (ak (ap (rg [0,1,5,6,7] <| aX 7 (pM (cnI 0))<|aXZ))
 (bU 0 (cD [0,1,5,6,7] (H4 c k) k)))
 (ak (ap (rg [4] <| aX 45 (pM 6)<|aX 4 (pM 45)<|aXZ))
 (bV .ret))))))
theorem LC (c:bh) (k:Nat):cf cx c 46 H3 k (Tryz.f52.body.getD .skip)=f52 c k:=by kernel_rfl
def Js:Ann:=⟨[(0,r0 [0,1,2,6]),(1,r0 [0,1,2,6,7]),(2,r0 [0,1,2,6,7,12]),(3,r0 [0,1,2,6,7]),(4,⟨[],[],[],[21],[0,1,2,6,7],none,[]⟩)],[(2,[0,1,2,6,7])]⟩
noncomputable def Jt (c:bh) (k:Nat):St:=
 (ak (ak (ap (rg [0,1,2,6,7,12] <| aX 10 (pM 7)<|aX 11 (pM 6)<|aX 12 (pB .lss 3 10 11)<|aXZ))
 (bJ (.tmp 12) (bV .nrm) (bV (.ext 0))))
 (ak (bU 1 (ap (mM [0,1,2,6,7] (aY 15 (pM 0)<|aY 16 (pM 1)<|aY 17 (pM 7)<|aY 18 (pI 1 16 17)<|aY 19 (pL false 1 18)<|aY 20 (pM 1)<|aY 21 (pM 7)<|aY 22 (pB .add 3 21 (cnI 1))<|aY 23 (pM 6)<|aY 24 (pB .rem 3 22 23)<|aY 25 (pI 1 20 24)<|aY 26 (pL false 1 25)<|aY 27 (pN 15)<|aY 28 (fun n e M=>keep (cb 16 16 (a3 e 27) (a3 e 19) M))<|aY 29 (fun n e M=>keep (cb 16 1 (a3 e 28) (a3 e 26) M))<|aY 30 (pL false 1 29)<|aY 31 (pM 2)<|aY 32 (pB .sub 2 30 31)<|aY 33 (pN 15)<|aY 34 (fun n e M=>keep (cb 16 16 (a3 e 33) (a3 e 19) M))<|aY 35 (fun n e M=>keep (cb 16 1 (a3 e 34) (a3 e 26) M))<|aYZ) (aX0 (pS 1 35 32)<|aXZ))))
 (ap (rg [0,1,2,6,7] <| aX 13 (pM 7)<|aX 14 (pB .add 3 13 (cnI 1))<|aX 7 (pM 14)<|aXZ))))
noncomputable def f53 (c:bh) (k:Nat):St:=
 (ak (ap (rg [0,1,2,6] <| aX 8 (pM 1)<|aX 9 (dl 24 8)<|aX 6 (pM 9)<|aXZ))
 (ak (ap (rg [0,1,2,6,7] <| aX 7 (pM (cnI 0))<|aXZ))
 (bU 0 (cD [0,1,2,6,7] (Jt c k) k))))
theorem LN (c:bh) (k:Nat):cf cx c 36 Js k (Tryz.f53.body.getD .skip)=f53 c k:=by kernel_rfl
def G1:Ann:=⟨[(0,r0 [0,1]),(1,r0 [0,1,10]),(2,r0 [4]),(3,r0 [0,1,5]),(4,r0 [0,1,5,14]),(5,r0 [0,1,5]),(6,r0 [0,1,5,25]),(7,r0 [4]),(8,r0 [4])],[(4,[0,1,5])]⟩
noncomputable def JF (c:bh) (k:Nat):St:=
 (ak (ak (ap (rg [0,1,5,14] <| aX 11 (pM 5)<|aX 12 (pM 0)<|aX 13 (dl 35 12)<|aX 14 (pB .lss 3 11 13)<|aXZ))
 (bJ (.tmp 14) (bV .nrm) (bV (.ext 0))))
 (ak (bU 1 (ak (ap (mM [0,1,5,25] (aY 17 (pM 0)<|aY 18 (pM 5)<|aY 19 (pI 3 17 18)<|aY 20 (pL true 3 19)<|aY 21 (pM 1)<|aY 22 (pM 5)<|aY 23 (pI 3 21 22)<|aY 24 (pL true 3 23)<|aY 25 (pB .neq 82 20 24)<|aYZ) (aXZ)))
 (bJ (.tmp 25) (ak (ap (rg [4] <| aX 4 (pM (cn (.bool false)))<|aXZ))
 (bV .ret)) (bV .nrm))))
 (ap (rg [0,1,5] <| aX 15 (pM 5)<|aX 16 (pB .add 3 15 (cnI 1))<|aX 5 (pM 16)<|aXZ))))
noncomputable def f54 (c:bh) (k:Nat):St:=
 (ak (ap (rg [0,1] <| aX 4 (pM (cn (.bool false)))<|aXZ))
 (ak (ak (ap (rg [0,1,10] <| aX 6 (pM 0)<|aX 7 (dl 35 6)<|aX 8 (pM 1)<|aX 9 (dl 35 8)<|aX 10 (pB .neq 3 7 9)<|aXZ))
 (bJ (.tmp 10) (ak (ap (rg [4] <| aX 4 (pM (cn (.bool false)))<|aXZ))
 (bV .ret)) (bV .nrm)))
 (ak (ak (ap (rg [0,1,5] <| aX 5 (pM (cnI 0))<|aXZ))
 (bU 0 (cD [0,1,5] (JF c k) k)))
 (ak (ap (rg [4] <| aX 4 (pM (cn (.bool true)))<|aXZ))
 (bV .ret)))))
theorem LT (c:bh) (k:Nat):cf cx c 26 G1 k (Tryz.f54.body.getD .skip)=f54 c k:=by kernel_rfl
def Jj:Ann:=⟨[(0,r0 [0,1]),(1,r0 [0,1,17]),(2,r0 [4]),(3,r0 [0,18,19,20]),(4,r0 [0,18,19,20,21]),(5,r0 [0,6,18,19,20]),(6,r0 [0,18,19,20,60]),(7,r0 [4]),(8,r0 [0,18,19,20]),(9,r0 [4])],[(4,[0,18,19,20])]⟩
noncomputable def I5 (c:bh) (k:Nat):St:=
 (ak (ap (rg [0,18,19,20,21] <| aX 21 (pB .lss 3 20 19)<|aXZ))
 (ak (bJ (.tmp 21) (bV .nrm) (bV (.ext 0)))
 (ak (bU 1 (ak (ap (rg [0,6,18,19,20] <| aX 22 (pI 3 18 20)<|aX 23 (pL true 3 22)<|aX 6 (nG 82 3)<|aX0 (pS 3 6 23)<|aXZ))
 (ak (ap (rg [0,18,19,20,60] <| aX 24 (pF 0 1 6)<|aX 25 (pL false 1 24)<|aX 26 (pB .lss 2 25 (cnI 0))<|aX 27 (pM 26)<|aX 28 (pG 27 false (pF 0 1 6))<|aX 29 (pG 27 false (pL false 1 28))<|aX 30 (pG 27 false (pM 0))<|aX 31 (pG 27 false (pB .geq 2 29 30))<|aX 32 (pP 27 (cn (.bool true)) 31)<|aX 33 (pM 32)<|aX 34 (pG 33 false (pF 1 1 6))<|aX 35 (pG 33 false (pL false 1 34))<|aX 36 (pG 33 false (pB .lss 2 35 (cnI 0)))<|aX 37 (pP 33 (cn (.bool true)) 36)<|aX 38 (pM 37)<|aX 39 (pG 38 false (pF 1 1 6))<|aX 40 (pG 38 false (pL false 1 39))<|aX 41 (pG 38 false (pM 0))<|aX 42 (pG 38 false (pB .geq 2 40 41))<|aX 43 (pP 38 (cn (.bool true)) 42)<|aX 44 (pM 43)<|aX 45 (pG 44 false (pF 0 1 6))<|aX 46 (pG 44 false (pL false 1 45))<|aX 47 (pG 44 false (pF 1 1 6))<|aX 48 (pG 44 false (pL false 1 47))<|aX 49 (pG 44 false (pB .eql 2 46 48))<|aX 50 (pP 44 (cn (.bool true)) 49)<|aX 51 (pM 50)<|aX 52 (pG 51 false (pF 2 1 6))<|aX 53 (pG 51 false (pL false 1 52))<|aX 54 (pG 51 false (pB .lss 2 53 (cnI 1)))<|aX 55 (pP 51 (cn (.bool true)) 54)<|aX 56 (pM 55)<|aX 57 (pG 56 false (pF 2 1 6))<|aX 58 (pG 56 false (pL false 1 57))<|aX 59 (pG 56 false (pB .gtr 2 58 (cnI 100000000)))<|aX 60 (pP 56 (cn (.bool true)) 59)<|aXZ))
 (bJ (.tmp 60) (ak (ap (rg [4] <| aX 4 (pM (cn (.bool false)))<|aXZ))
 (bV .ret)) (bV .nrm)))))
 (ap (rg [0,18,19,20] <| aX 61 (pB .add 3 20 (cnI 1))<|aX 20 (pM 61)<|aXZ)))))
noncomputable def f55 (c:bh) (k:Nat):St:=
 (ak (ap (rg [0,1] <| aX 4 (pM (cn (.bool false)))<|aXZ))
 (ak (ak (ap (rg [0,1,17] <| aX 7 (pM 0)<|aX 8 (pB .lss 2 7 (cnI 1))<|aX 9 (pM 8)<|aX 10 (pG 9 false (pM 0))<|aX 11 (pG 9 false (pB .gtr 2 10 (cnI 16)))<|aX 12 (pP 9 (cn (.bool true)) 11)<|aX 13 (pM 12)<|aX 14 (pG 13 false (pM 1))<|aX 15 (pG 13 false (dl 35 14))<|aX 16 (pG 13 false (pB .gtr 3 15 (cnI 60)))<|aX 17 (pP 13 (cn (.bool true)) 16)<|aXZ))
 (bJ (.tmp 17) (ak (ap (rg [4] <| aX 4 (pM (cn (.bool false)))<|aXZ))
 (bV .ret)) (bV .nrm)))
 (ak (ak (ap (rg [0,18,19,20] <| aX 18 (pM 1)<|aX 19 (dl 35 18)<|aX 20 (pM (cnI 0))<|aXZ))
 (bU 0 (cD [0,18,19,20] (I5 c k) k)))
 (ak (ap (rg [4] <| aX 4 (pM (cn (.bool true)))<|aXZ))
 (bV .ret)))))
theorem Mj (c:bh) (k:Nat):cf cx c 62 Jj k (Tryz.f55.body.getD .skip)=f55 c k:=by kernel_rfl
def IL:Ann:=⟨[(0,r0 [0,1]),(1,r0 [1,5]),(2,r0 [5,10,11,12]),(3,r0 [5,10,11,12,13]),(4,r0 [5,7,10,11,12]),(5,⟨[],[],[],[9],[5,7,10,11,12],none,[]⟩),(6,⟨[],[],[],[9],[5,10,11,12],none,[]⟩),(7,r0 [5,10,11,12]),(8,r0 [4])],[(3,[5,10,11,12])]⟩
noncomputable def GB (c:bh) (k:Nat):St:=
 (ak (ap (rg [5,10,11,12,13] <| aX 13 (pB .lss 3 12 11)<|aXZ))
 (ak (bJ (.tmp 13) (bV .nrm) (bV (.ext 0)))
 (ak (bU 1 (ak (ap (rg [5,7,10,11,12] <| aX 14 (pI 3 10 12)<|aX 15 (pL true 3 14)<|aX 7 (nG 82 3)<|aX0 (pS 3 7 15)<|aXZ))
 (ak (ap (mM [5,7,10,11,12] (aY 16 (pM 5)<|aY 17 (pF 0 1 7)<|aY 18 (pL false 1 17)<|aY 19 (pI 1 16 18)<|aY 20 (pL false 1 19)<|aY 21 (pF 2 1 7)<|aY 22 (pL false 1 21)<|aY 23 (pB .sub 2 20 22)<|aY 24 (pI 1 16 18)<|aYZ) (aX0 (pS 1 24 23)<|aXZ)))
 (ap (mM [5,10,11,12] (aY 25 (pM 5)<|aY 26 (pF 1 1 7)<|aY 27 (pL false 1 26)<|aY 28 (pI 1 25 27)<|aY 29 (pL false 1 28)<|aY 30 (pF 2 1 7)<|aY 31 (pL false 1 30)<|aY 32 (pB .add 2 29 31)<|aY 33 (pI 1 25 27)<|aYZ) (aX0 (pS 1 33 32)<|aXZ))))))
 (ap (rg [5,10,11,12] <| aX 34 (pB .add 3 12 (cnI 1))<|aX 12 (pM 34)<|aXZ)))))
noncomputable def f56 (c:bh) (k:Nat):St:=
 (ak (ap (rg [0,1] <| aX 4 (pM (cn .nils))<|aXZ))
 (ak (ap (rg [1,5] <| aX 8 (pM 0)<|aX 9 (fun n e M=>v9 n 2 1 8 (b5 cx.P 2) (a3 e 8) (a3 e 8))<|aX 5 (pM 9)<|aXZ))
 (ak (ak (ap (rg [5,10,11,12] <| aX 10 (pM 1)<|aX 11 (dl 35 10)<|aX 12 (pM (cnI 0))<|aXZ))
 (bU 0 (cD [5,10,11,12] (GB c k) k)))
 (ak (ap (rg [4] <| aX 35 (pM 5)<|aX 4 (pM 35)<|aXZ))
 (bV .ret)))))
theorem Mn (c:bh) (k:Nat):cf cx c 36 IL k (Tryz.f56.body.getD .skip)=f56 c k:=by kernel_rfl
def HN:Ann:=⟨[(0,r0 [1,2]),(1,r0 [1,2,5]),(2,r0 [4]),(3,r0 [9]),(4,r0 [4]),(5,r0 [4])],[]⟩
noncomputable def f57 (c:bh) (k:Nat):St:=
 (ak (ap (rg [1,2] <| aX 2 (pBox 3 0)<|aX 4 (pM (cnI 0))<|aXZ))
 (ak (bU 0 (ak (ap (rg [1,2,5] <| aX 6 (pL true 3 2)<|aX 7 (pK c false 41 [6])<|aX 8 (pU .not 7)<|aX 5 (pM 8)<|aXZ))
 (bJ (.tmp 5) (ak (ap (rg [4] <| aX 4 (pM (cnI 1))<|aXZ))
 (bV .ret)) (ak (ap (rg [9] <| aX 10 (pF 1 1 2)<|aX 11 (pL false 1 10)<|aX 12 (dl 24 11)<|aX 13 (pM 1)<|aX 14 (fun n e M=>keep (eX 2 1 [(a3 e 13)] M))<|aX 15 (pK c false 96 [12,14])<|aX 16 (pU .not 15)<|aX 9 (pM 16)<|aXZ))
 (bJ (.tmp 9) (ak (ap (rg [4] <| aX 4 (pM (cnI 2))<|aXZ))
 (bV .ret)) (bV .nrm))))))
 (ak (ap (rg [4] <| aX 4 (pM (cnI 0))<|aXZ))
 (bV .ret))))
theorem M8 (c:bh) (k:Nat):cf cx c 17 HN k (Tryz.f57.body.getD .skip)=f57 c k:=by kernel_rfl
def IS:Ann:=⟨[(0,r0 [1,2]),(1,r0 [1,2,5,6]),(2,r0 [4])],[]⟩
noncomputable def f58 (c:bh) (k:Nat):St:=
 (ak (ap (rg [1,2] <| aX 2 (pBox 3 0)<|aX 4 (pM (cnI 0))<|aXZ))
 (ak (ap (rg [1,2,5,6] <| aX 8 (pL true 3 2)<|aX 9 (pM 1)<|aX 10 (pK c false 104 [8,9])<|aX 7 (pM 10)<|aX 11 (pE 0 7)<|aX 12 (pE 1 7)<|aX 5 (pM 11)<|aX 6 (pM 12)<|aXZ))
 (ak (ap (rg [4] <| aX 13 (pF 1 1 2)<|aX 14 (pL false 1 13)<|aX 15 (pM 1)<|aX 16 (pI 1 14 15)<|aX 17 (pL false 1 16)<|aX 18 (pM 5)<|aX 19 (pB .add 2 17 18)<|aX 20 (pM 6)<|aX 21 (pB .sub 2 19 20)<|aX 4 (pM 21)<|aXZ))
 (bV .ret))))
theorem LV (c:bh) (k:Nat):cf cx c 22 IS k (Tryz.f58.body.getD .skip)=f58 c k:=by kernel_rfl
def Ho:Ann:=⟨[(0,r0 [0,1]),(1,r0 [0,1,7]),(2,r0 [4]),(3,r0 [0,1,5]),(4,r0 [0,1,5,11]),(5,r0 [1,5]),(6,r0 [4])],[]⟩
noncomputable def f59 (c:bh) (k:Nat):St:=
 (ak (ap (rg [0,1] <| aX 4 (pM (cnI 0))<|aXZ))
 (ak (ak (ap (rg [0,1,7] <| aX 6 (pM 1)<|aX 7 (pB .leq 2 6 (cnI 1))<|aXZ))
 (bJ (.tmp 7) (ak (ap (rg [4] <| aX 4 (pM (cnI 0))<|aXZ))
 (bV .ret)) (bV .nrm)))
 (ak (ap (rg [0,1,5] <| aX 8 (pM 0)<|aX 9 (pK c false 105 [8])<|aX 5 (pM 9)<|aXZ))
 (ak (ak (ap (rg [0,1,5,11] <| aX 10 (pM 1)<|aX 11 (pB .gtr 2 10 (cnI 200))<|aXZ))
 (bJ (.tmp 11) (ap (rg [1,5] <| aX 12 (pM 5)<|aX 13 (pB .mul 2 12 (cnI 256))<|aX 14 (pM 0)<|aX 15 (pK c false 105 [14])<|aX 16 (pB .add 2 13 15)<|aX 5 (pM 16)<|aXZ)) (bV .nrm)))
 (ak (ap (rg [4] <| aX 17 (pM 5)<|aX 18 (pM 1)<|aX 19 (pB .rem 2 17 18)<|aX 4 (pM 19)<|aXZ))
 (bV .ret))))))
theorem Mt (c:bh) (k:Nat):cf cx c 20 Ho k (Tryz.f59.body.getD .skip)=f59 c k:=by kernel_rfl
def GE:Ann:=⟨[(0,r0 [1]),(1,r0 [5,6]),(2,r0 [5,6,7]),(3,r0 [4,5,6]),(4,r0 [5,6,14]),(5,r0 [2]),(6,r0 [5,6]),(7,r0 [2])],[(2,[5,6])]⟩
noncomputable def I1 (c:bh) (k:Nat):St:=
 (ak (ap (rg [5,6,7] <| aX 7 (pB .lss 3 6 (cnI 16))<|aXZ))
 (ak (bJ (.tmp 7) (bV .nrm) (bV (.ext 0)))
 (ak (bU 1 (ak (ap (rg [4,5,6] <| aX 8 (fun n e M=>keep (lm false 16 1 (a3 e 5) (a3 e 6)))<|aX 4 (pM 8)<|aXZ))
 (ak (ap (rg [5,6,14] <| aX 9 (pM 4)<|aX 10 (pB .lss 47 9 (cn (.int .i8 (-3))))<|aX 11 (pM 10)<|aX 12 (pG 11 false (pM 4))<|aX 13 (pG 11 false (pB .gtr 47 12 (cn (.int .i8 3))))<|aX 14 (pP 11 (cn (.bool true)) 13)<|aXZ))
 (bJ (.tmp 14) (ak (ap (rg [2] <| aX 2 (pM (cn (.bool false)))<|aXZ))
 (bV .ret)) (bV .nrm)))))
 (ap (rg [5,6] <| aX 15 (pB .add 3 6 (cnI 1))<|aX 6 (pM 15)<|aXZ)))))
noncomputable def f60 (c:bh) (k:Nat):St:=
 (ak (ap (rg [1] <| aX 1 (pBox 16 0)<|aX 2 (pM (cn (.bool false)))<|aXZ))
 (ak (ak (ap (rg [5,6] <| aX 5 (pL true 16 1)<|aX 6 (pM (cnI 0))<|aXZ))
 (bU 0 (cD [5,6] (I1 c k) k)))
 (ak (ap (rg [2] <| aX 2 (pM (cn (.bool true)))<|aXZ))
 (bV .ret))))
theorem M5 (c:bh) (k:Nat):cf cx c 16 GE k (Tryz.f60.body.getD .skip)=f60 c k:=by kernel_rfl
def Ib:Ann:=⟨[(0,r0 [0]),(1,r0 [0,9]),(2,r0 [2,3]),(3,⟨[0],[],[],[],[0,4,5],none,[]⟩),(4,r0 [0,4,5,6]),(5,r0 [0,4,5,6,12]),(6,r0 [0,4,5,6]),(7,r0 [0,4,5,6,18]),(8,r0 [0,4,5,6]),(9,⟨[7],[],[],[],[0,4,5,6],none,[]⟩),(10,r0 [0,4,5,6]),(11,r0 [0,4,5,6,38]),(12,r0 [2,3]),(13,r0 [4,42]),(14,r0 [2,3]),(15,r0 [2,3])],[(7,[0,4,5,6]),(5,[0,4,5,6])]⟩
noncomputable def IA (c:bh) (k:Nat):St:=
 (ak (ak (ap (rg [0,4,5,6,18] <| aX 15 (pM 0)<|aX 16 (pM 6)<|aX 17 (pK c false 70 [16])<|aX 18 (pB .geq 2 15 17)<|aXZ))
 (bJ (.tmp 18) (bV .nrm) (bV (.ext 2))))
 (ak (bU 3 (ak (ap (rg [0,4,5,6] <| aX 23 (pM 4)<|aX 24 (pM 6)<|aX 25 (fun n e M=>keep (ir .i8 (a3 e 24)))<|aX 26 (pM 5)<|aX 27 (fun n e M=>keep (ir .i16 (a3 e 26)))<|aX 28 (fun n e M=>keep (db (b5 cx.P 109) [(0,1,(a3 e 25)),(1,1,(a3 e 27))] M))<|aX 29 (fun n e M=>keep (eX 109 2 [(a3 e 28)] M))<|aX 30 (fun n e M=>ks n 109 2 4 (a3 e 23) (a3 e 29) M)<|aX 4 (pM 30)<|aXZ))
 (ak (ap (rg [0,4,5,6] <| aX 31 (pM 5)<|aX 32 (pM 6)<|aX 33 (pK c false 106 [32])<|aX 34 (pB .add 2 33 (cnI 1))<|aX 35 (pB .add 2 31 34)<|aX 5 (pM 35)<|aXZ))
 (ak (ap (rg [0,4,5,6,38] <| aX 36 (pM 4)<|aX 37 (dl 46 36)<|aX 38 (pB .gtr 3 37 (cnI 60))<|aXZ))
 (bJ (.tmp 38) (ak (ap (rg [2,3] <| aX 2 (pM (cn .nils))<|aX 3 (pM (cnI 3))<|aXZ))
 (bV .ret)) (bV .nrm))))))
 (ap (rg [0,4,5,6] <| aX 19 (pM 0)<|aX 20 (pM 6)<|aX 21 (pK c false 70 [20])<|aX 22 (pB .sub 2 19 21)<|aX 0 (pM 22)<|aXZ))))
noncomputable def ID (c:bh) (k:Nat):St:=
 (ak (ak (ap (rg [0,4,5,6,12] <| aX 11 (pM 6)<|aX 12 (pB .geq 2 11 (cnI 0))<|aXZ))
 (bJ (.tmp 12) (bV .nrm) (bV (.ext 0))))
 (ak (bU 1 (bU 2 (cD [0,4,5,6] (IA c k) k)))
 (ap (rg [0,4,5,6] <| aX 13 (pM 6)<|aX 14 (pB .sub 2 13 (cnI 1))<|aX 6 (pM 14)<|aXZ))))
noncomputable def f61 (c:bh) (k:Nat):St:=
 (ak (ap (rg [0] <| aX 2 (pM (cn .nils))<|aX 3 (pM (cnI 0))<|aXZ))
 (ak (ak (ap (rg [0,9] <| aX 7 (pM 0)<|aX 8 (pK c false 69 [7])<|aX 9 (pU .not 8)<|aXZ))
 (bJ (.tmp 9) (ak (ap (rg [2,3] <| aX 2 (pM (cn .nils))<|aX 3 (pM (cnI 2))<|aXZ))
 (bV .ret)) (bV .nrm)))
 (ak (ap (rg [0,4,5] <| aX 10 (fun n e M=>o8 false n 109 2 [] M)<|aX 4 (pM 10)<|aX 5 (pM (cnI 0))<|aXZ))
 (ak (ak (ap (rg [0,4,5,6] <| aX 6 (pM (cnI 5))<|aXZ))
 (bU 0 (cD [0,4,5,6] (ID c k) k)))
 (ak (ak (ap (rg [4,42] <| aX 39 (pM 4)<|aX 40 (fun n e M=>keep (db (b5 cx.P 51) [(1,1,(a3 e 39))] M))<|aX 41 (pK c false 65 [40])<|aX 42 (pU .not 41)<|aXZ))
 (bJ (.tmp 42) (ak (ap (rg [2,3] <| aX 2 (pM (cn .nils))<|aX 3 (pM (cnI 3))<|aXZ))
 (bV .ret)) (bV .nrm)))
 (ak (ap (rg [2,3] <| aX 43 (pM 4)<|aX 2 (pM 43)<|aX 3 (pM (cnI 0))<|aXZ))
 (bV .ret)))))))
theorem Mq (c:bh) (k:Nat):cf cx c 44 Ib k (Tryz.f61.body.getD .skip)=f61 c k:=by kernel_rfl
def Jm:Ann:=⟨[(0,r0 [0]),(1,r0 [0,4]),(2,r0 [2]),(3,r0 [2])],[]⟩
noncomputable def f62 (c:bh) (k:Nat):St:=
 (ak (ap (rg [0] <| aX 2 (pM (cn .nils))<|aXZ))
 (ak (ak (ap (rg [0,4] <| aX 3 (pM 0)<|aX 4 (pB .eql 46 3 (cn .nils))<|aXZ))
 (bJ (.tmp 4) (ak (ap (rg [2] <| aX 2 (pM (cn .nils))<|aXZ))
 (bV .ret)) (bV .nrm)))
 (ak (ap (rg [2] <| aX 5 (fun n e M=>keep (eX 109 2 [] M))<|aX 6 (pM 0)<|aX 7 (fun n e M=>rB 109 2 4 (a3 e 5) (a3 e 6) M)<|aX 2 (pM 7)<|aXZ))
 (bV .ret))))
theorem Ns (c:bh) (k:Nat):cf cx c 8 Jm k (Tryz.f62.body.getD .skip)=f62 c k:=by kernel_rfl
def H7:Ann:=⟨[(0,⟨[0],[],[],[],[1,2],none,[]⟩),(1,r0 [1,2,4]),(2,r0 [1,2,4,5]),(3,r0 [1,2,3,4]),(4,r0 [1,2,4]),(5,r0 [1,2,4]),(6,r0 [2])],[(2,[1,2,4])]⟩
noncomputable def Jf (c:bh) (k:Nat):St:=
 (ak (ap (rg [1,2,4,5] <| aX 5 (pB .lss 3 4 (cnI 16))<|aXZ))
 (ak (bJ (.tmp 5) (bV .nrm) (bV (.ext 0)))
 (ak (bU 1 (ak (ap (rg [1,2,3,4] <| aX 6 (pM 4)<|aX 3 (pM 6)<|aXZ))
 (ap (rg [1,2,4] <| aX 7 (pM 3)<|aX 8 (pM 3)<|aX 9 (fun n e M=>keep (cb 16 1 (a3 e 1) (a3 e 8) M))<|aX 10 (pL false 1 9)<|aX 11 (pU .neg 10)<|aX 12 (fun n e M=>keep (cb 16 1 (a3 e 1) (a3 e 7) M))<|aX0 (pS 1 12 11)<|aXZ))))
 (ap (rg [1,2,4] <| aX 13 (pB .add 3 4 (cnI 1))<|aX 4 (pM 13)<|aXZ)))))
noncomputable def f63 (c:bh) (k:Nat):St:=
 (ak (ap (rg [1,2] <| aX 1 (fun n e M=>s3 n 49 16 (a3 e 0) M)<|aX 2 (nG 49 16)<|aXZ))
 (ak (ak (ap (rg [1,2,4] <| aX 4 (pM (cnI 0))<|aXZ))
 (bU 0 (cD [1,2,4] (Jf c k) k)))
 (ak (ap (rg [2] <| aX 14 (pL true 16 1)<|aX0 (pS 16 2 14)<|aXZ))
 (bV .ret))))
theorem Nc (c:bh) (k:Nat):cf cx c 15 H7 k (Tryz.f63.body.getD .skip)=f63 c k:=by kernel_rfl
def Hf:Ann:=⟨[(0,r0 [0,2]),(1,r0 [0,2,4]),(2,r0 [0,2,4,5]),(3,r0 [0,2,4,5,8]),(4,r0 [0,2,4,5]),(5,r0 [0,2,4,5]),(6,r0 [0,2,4,5]),(7,r0 [2,3])],[(3,[0,2,4,5])]⟩
noncomputable def If (c:bh) (k:Nat):St:=
 (ak (ak (ap (rg [0,2,4,5,8] <| aX 7 (pM 5)<|aX 8 (pB .lss 3 7 (cnI 16))<|aXZ))
 (bJ (.tmp 8) (bV .nrm) (bV (.ext 0))))
 (ak (bU 1 (ak (ap (rg [0,2,4,5] <| aX 11 (pM 0)<|aX 12 (pB .mul 111 (cn (.int .u32 1664525)) 11)<|aX 13 (pB .add 111 12 (cn (.int .u32 1013904223)))<|aX 0 (pM 13)<|aXZ))
 (ap (rg [0,2,4,5] <| aX 14 (pM 5)<|aX 15 (pM 0)<|aX 16 (pB .quo 111 15 (cn (.int .u32 65536)))<|aX 17 (pB .rem 111 16 (cn (.int .u32 7)))<|aX 18 (fun n e M=>keep (ir .i8 (a3 e 17)))<|aX 19 (pB .sub 47 18 (cn (.int .i8 3)))<|aX 20 (fun n e M=>keep (cb 16 1 (a3 e 4) (a3 e 14) M))<|aX0 (pS 1 20 19)<|aXZ))))
 (ap (rg [0,2,4,5] <| aX 9 (pM 5)<|aX 10 (pB .add 3 9 (cnI 1))<|aX 5 (pM 10)<|aXZ))))
noncomputable def f64 (c:bh) (k:Nat):St:=
 (ak (ap (rg [0,2] <| aX 2 (nG 49 16)<|aX 3 (pM (cn (.int .u32 0)))<|aXZ))
 (ak (ap (rg [0,2,4] <| aX 6 (fun n e M=>keep (db (b5 cx.P 49) [] M))<|aX 4 (nG 49 16)<|aX0 (pS 16 4 6)<|aXZ))
 (ak (ak (ap (rg [0,2,4,5] <| aX 5 (pM (cnI 0))<|aXZ))
 (bU 0 (cD [0,2,4,5] (If c k) k)))
 (ak (ap (rg [2,3] <| aX 21 (pL true 16 4)<|aX 22 (pM 0)<|aX0 (pS 16 2 21)<|aX 3 (pM 22)<|aXZ))
 (bV .ret)))))
theorem Na (c:bh) (k:Nat):cf cx c 23 Hf k (Tryz.f64.body.getD .skip)=f64 c k:=by kernel_rfl
def Ie:Ann:=⟨[(0,r0 [1]),(1,r0 [1,14]),(2,r0 [2]),(3,r0 [1,16,17,18]),(4,r0 [1,16,17,18,19]),(5,r0 [1,3,4,16,17,18]),(6,r0 [1,3,4,16,17,18,37]),(7,r0 [2]),(8,r0 [1,16,17,18,64]),(9,r0 [2]),(10,r0 [1,16,17,18]),(11,r0 [2])],[(4,[1,16,17,18])]⟩
noncomputable def HK (c:bh) (k:Nat):St:=
 (ak (ap (rg [1,16,17,18,19] <| aX 19 (pB .lss 3 18 17)<|aXZ))
 (ak (bJ (.tmp 19) (bV .nrm) (bV (.ext 0)))
 (ak (bU 1 (ak (ap (rg [1,3,4,16,17,18] <| aX 20 (pM 18)<|aX 21 (pI 2 16 18)<|aX 22 (pL true 2 21)<|aX 4 (nG 109 2)<|aX 3 (pM 20)<|aX0 (pS 2 4 22)<|aXZ))
 (ak (ak (ap (rg [1,3,4,16,17,18,37] <| aX 23 (pF 0 1 4)<|aX 24 (pL false 1 23)<|aX 25 (fun n e M=>keep (ir .i64 (a3 e 24)))<|aX 26 (pK c false 107 [25])<|aX 27 (pU .not 26)<|aX 28 (pM 27)<|aX 29 (pG 28 false (pF 1 1 4))<|aX 30 (pG 28 false (pL false 1 29))<|aX 31 (pG 28 false (pB .lss 58 30 (cn (.int .i16 0))))<|aX 32 (pP 28 (cn (.bool true)) 31)<|aX 33 (pM 32)<|aX 34 (pG 33 false (pL true 2 4))<|aX 35 (pG 33 false (pK c false 108 [34]))<|aX 36 (pG 33 false (pB .gtr 2 35 (cnI 200)))<|aX 37 (pP 33 (cn (.bool true)) 36)<|aXZ))
 (bJ (.tmp 37) (ak (ap (rg [2] <| aX 2 (pM (cn (.bool false)))<|aXZ))
 (bV .ret)) (bV .nrm)))
 (ak (ap (mM [1,16,17,18,64] (aY 38 (pM 3)<|aY 39 (pB .gtr 3 38 (cnI 0))<|aY 40 (pM 39)<|aY 41 (pG 40 true (pF 1 1 4))<|aY 42 (pG 40 true (pL false 1 41))<|aY 43 (pG 40 true (fun n e M=>keep (ir .i64 (a3 e 42))))<|aY 44 (pG 40 true (pF 1 1 1))<|aY 45 (pG 40 true (pL false 1 44))<|aY 46 (pG 40 true (pM 3))<|aY 47 (pG 40 true (pB .sub 3 46 (cnI 1)))<|aY 48 (pG 40 true (pI 2 45 47))<|aY 49 (pG 40 true (pL true 2 48))<|aY 50 (pG 40 true (pK c false 108 [49]))<|aY 51 (pG 40 true (pB .leq 2 43 50))<|aY 52 (pG 40 true (pM 51))<|aY 53 (pG 52 false (pF 0 1 4))<|aY 54 (pG 52 false (pL false 1 53))<|aY 55 (pG 52 false (pF 1 1 1))<|aY 56 (pG 52 false (pL false 1 55))<|aY 57 (pG 52 false (pM 3))<|aY 58 (pG 52 false (pB .sub 3 57 (cnI 1)))<|aY 59 (pG 52 false (pI 2 56 58))<|aY 60 (pG 52 false (pF 0 1 59))<|aY 61 (pG 52 false (pL false 1 60))<|aY 62 (pG 52 false (pB .gtr 47 54 61))<|aY 63 (pG 40 true (pP 52 (cn (.bool true)) 62))<|aY 64 (pP 40 63 (cn (.bool false)))<|aYZ) (aXZ)))
 (bJ (.tmp 64) (ak (ap (rg [2] <| aX 2 (pM (cn (.bool false)))<|aXZ))
 (bV .ret)) (bV .nrm))))))
 (ap (rg [1,16,17,18] <| aX 65 (pB .add 3 18 (cnI 1))<|aX 18 (pM 65)<|aXZ)))))
noncomputable def f65 (c:bh) (k:Nat):St:=
 (ak (ap (rg [1] <| aX 1 (pBox 18 0)<|aX 2 (pM (cn (.bool false)))<|aXZ))
 (ak (ak (ap (rg [1,14] <| aX 5 (pF 1 1 1)<|aX 6 (pL false 1 5)<|aX 7 (dl 46 6)<|aX 8 (pB .gtr 3 7 (cnI 60))<|aX 9 (pM 8)<|aX 10 (pG 9 false (pF 2 16 1))<|aX 11 (pG 9 false (pL true 16 10))<|aX 12 (pG 9 false (pK c false 60 [11]))<|aX 13 (pG 9 false (pU .not 12))<|aX 14 (pP 9 (cn (.bool true)) 13)<|aXZ))
 (bJ (.tmp 14) (ak (ap (rg [2] <| aX 2 (pM (cn (.bool false)))<|aXZ))
 (bV .ret)) (bV .nrm)))
 (ak (ak (ap (rg [1,16,17,18] <| aX 15 (pF 1 1 1)<|aX 16 (pL false 1 15)<|aX 17 (dl 46 16)<|aX 18 (pM (cnI 0))<|aXZ))
 (bU 0 (cD [1,16,17,18] (HK c k) k)))
 (ak (ap (rg [2] <| aX 2 (pM (cn (.bool true)))<|aXZ))
 (bV .ret)))))
theorem Mz (c:bh) (k:Nat):cf cx c 66 Ie k (Tryz.f65.body.getD .skip)=f65 c k:=by kernel_rfl
def GN:Ann:=⟨[(0,r0 [0]),(1,r0 [2])],[]⟩
noncomputable def f66 (c:bh) (k:Nat):St:=
 (ak (ap (rg [0] <| aX 2 (pM (cn (.bool false)))<|aXZ))
 (ak (ap (rg [2] <| aX 3 (pM 0)<|aX 4 (pB .geq 2 3 (cnI 0))<|aX 5 (pM 4)<|aX 6 (pG 5 true (pM 0))<|aX 7 (pG 5 true (pB .leq 2 6 (cnI 16)))<|aX 8 (pP 5 7 (cn (.bool false)))<|aX 2 (pM 8)<|aXZ))
 (bV .ret)))
theorem Np (c:bh) (k:Nat):cf cx c 9 GN k (Tryz.f66.body.getD .skip)=f66 c k:=by kernel_rfl
def Jw:Ann:=⟨[(0,r0 [2,3,4]),(1,r0 [6])],[]⟩
noncomputable def f67 (c:bh) (k:Nat):St:=
 (ak (ap (rg [2,3,4] <| aX 3 (pBox 18 0)<|aX 4 (pBox 18 1)<|aX 6 (pM (cn (.bool false)))<|aXZ))
 (ak (ap (rg [6] <| aX 7 (pF 1 1 3)<|aX 8 (pL false 1 7)<|aX 9 (pF 1 1 4)<|aX 10 (pL false 1 9)<|aX 11 (pK c false 109 [8,10])<|aX 12 (pM 11)<|aX 13 (pG 12 true (pF 2 16 3))<|aX 14 (pG 12 true (pL true 16 13))<|aX 15 (pG 12 true (pF 2 16 4))<|aX 16 (pG 12 true (pL true 16 15))<|aX 17 (pG 12 true (pM 2))<|aX 18 (pG 12 true (pK c false 110 [14,16,17]))<|aX 19 (pP 12 18 (cn (.bool false)))<|aX 6 (pM 19)<|aXZ))
 (bV .ret)))
theorem MV (c:bh) (k:Nat):cf cx c 20 Jw k (Tryz.f67.body.getD .skip)=f67 c k:=by kernel_rfl
def IY:Ann:=⟨[(0,r0 [1]),(1,r0 [1,3]),(2,r0 [3,7,8,9]),(3,r0 [3,7,8,9,10]),(4,r0 [3,5,7,8,9]),(5,r0 [3,7,8,9]),(6,r0 [3,7,8,9]),(7,r0 [2])],[(3,[3,7,8,9])]⟩
noncomputable def HG (c:bh) (k:Nat):St:=
 (ak (ap (rg [3,7,8,9,10] <| aX 10 (pB .lss 3 9 8)<|aXZ))
 (ak (bJ (.tmp 10) (bV .nrm) (bV (.ext 0)))
 (ak (bU 1 (ak (ap (rg [3,5,7,8,9] <| aX 11 (pI 2 7 9)<|aX 12 (pL true 2 11)<|aX 5 (nG 109 2)<|aX0 (pS 2 5 12)<|aXZ))
 (ap (rg [3,7,8,9] <| aX 13 (pM 3)<|aX 14 (pF 0 1 5)<|aX 15 (pL false 1 14)<|aX 16 (fun n e M=>keep (ir .i64 (a3 e 15)))<|aX 17 (pK c false 70 [16])<|aX 18 (pB .add 2 13 17)<|aX 3 (pM 18)<|aXZ))))
 (ap (rg [3,7,8,9] <| aX 19 (pB .add 3 9 (cnI 1))<|aX 9 (pM 19)<|aXZ)))))
noncomputable def f68 (c:bh) (k:Nat):St:=
 (ak (ap (rg [1] <| aX 1 (pBox 18 0)<|aX 2 (pM (cnI 0))<|aXZ))
 (ak (ap (rg [1,3] <| aX 3 (pM (cnI 0))<|aXZ))
 (ak (ak (ap (rg [3,7,8,9] <| aX 6 (pF 1 1 1)<|aX 7 (pL false 1 6)<|aX 8 (dl 46 7)<|aX 9 (pM (cnI 0))<|aXZ))
 (bU 0 (cD [3,7,8,9] (HG c k) k)))
 (ak (ap (rg [2] <| aX 20 (pM 3)<|aX 2 (pM 20)<|aXZ))
 (bV .ret)))))
theorem M2 (c:bh) (k:Nat):cf cx c 21 IY k (Tryz.f68.body.getD .skip)=f68 c k:=by kernel_rfl
def Hm:Ann:=⟨[(0,r0 [0]),(1,r0 [2])],[]⟩
noncomputable def f69 (c:bh) (k:Nat):St:=
 (ak (ap (rg [0] <| aX 2 (pM (cn (.bool false)))<|aXZ))
 (ak (ap (rg [2] <| aX 3 (pM 0)<|aX 4 (pB .geq 2 3 (cnI 0))<|aX 5 (pM 4)<|aX 6 (pG 5 true (pM 0))<|aX 7 (pG 5 true (pB .leq 2 6 (cnI 100000000)))<|aX 8 (pP 5 7 (cn (.bool false)))<|aX 2 (pM 8)<|aXZ))
 (bV .ret)))
theorem Nd (c:bh) (k:Nat):cf cx c 9 Hm k (Tryz.f69.body.getD .skip)=f69 c k:=by kernel_rfl
def JJ:Ann:=⟨[(0,r0 [0]),(1,r0 [2])],[]⟩
noncomputable def f70 (c:bh) (k:Nat):St:=
 (ak (ap (rg [0] <| aX 2 (pM (cnI 0))<|aXZ))
 (ak (ap (rg [2] <| aX 3 (fun n e M=>keep (eX 2 1 [(.int .i64 1),(.int .i64 12),(.int .i64 240),(.int .i64 4800),(.int .i64 24000),(.int .i64 240000)] M))<|aX 4 (pM 0)<|aX 5 (pI 1 3 4)<|aX 6 (pL false 1 5)<|aX 2 (pM 6)<|aXZ))
 (bV .ret)))
theorem MG (c:bh) (k:Nat):cf cx c 7 JJ k (Tryz.f70.body.getD .skip)=f70 c k:=by kernel_rfl
def GQ:Ann:=⟨[(0,r0 [1,2]),(1,r0 [1,2,4]),(2,r0 [2,4,8,9]),(3,r0 [2,4,8,9,10]),(4,r0 [2,4,5,6,8,9]),(5,r0 [2,4,5,6,8,9,14]),(6,r0 [2,3]),(7,r0 [2,4,8,9]),(8,r0 [2,4,8,9]),(9,r0 [2,3])],[(3,[2,4,8,9])]⟩
noncomputable def IX (c:bh) (k:Nat):St:=
 (ak (ap (rg [2,4,8,9,10] <| aX 10 (pB .lss 3 9 (cnI 6))<|aXZ))
 (ak (bJ (.tmp 10) (bV .nrm) (bV (.ext 0)))
 (ak (bU 1 (ak (ap (rg [2,4,5,6,8,9] <| aX 11 (pM 9)<|aX 12 (fun n e M=>keep (lm false 6 1 (a3 e 8) (a3 e 9)))<|aX 5 (pM 11)<|aX 6 (pM 12)<|aXZ))
 (ak (ak (ap (rg [2,4,5,6,8,9,14] <| aX 13 (pM 6)<|aX 14 (pB .gtr 2 13 (cnI 1000))<|aXZ))
 (bJ (.tmp 14) (ak (ap (rg [2,3] <| aX 15 (fun n e M=>keep (db (b5 cx.P 60) [] M))<|aX0 (pS 6 2 15)<|aX 3 (pM (cnI 3))<|aXZ))
 (bV .ret)) (bV .nrm)))
 (ap (rg [2,4,8,9] <| aX 16 (pM 5)<|aX 17 (pM 6)<|aX 18 (fun n e M=>keep (ir .i16 (a3 e 17)))<|aX 19 (fun n e M=>keep (cb 6 1 (a3 e 4) (a3 e 16) M))<|aX0 (pS 1 19 18)<|aXZ)))))
 (ap (rg [2,4,8,9] <| aX 20 (pB .add 3 9 (cnI 1))<|aX 9 (pM 20)<|aXZ)))))
noncomputable def f71 (c:bh) (k:Nat):St:=
 (ak (ap (rg [1,2] <| aX 1 (pBox 6 0)<|aX 2 (nG 60 6)<|aX 3 (pM (cnI 0))<|aXZ))
 (ak (ap (rg [1,2,4] <| aX 7 (fun n e M=>keep (db (b5 cx.P 60) [] M))<|aX 4 (nG 60 6)<|aX0 (pS 6 4 7)<|aXZ))
 (ak (ak (ap (rg [2,4,8,9] <| aX 8 (pL true 6 1)<|aX 9 (pM (cnI 0))<|aXZ))
 (bU 0 (cD [2,4,8,9] (IX c k) k)))
 (ak (ap (rg [2,3] <| aX 21 (pL true 6 4)<|aX0 (pS 6 2 21)<|aX 3 (pM (cnI 0))<|aXZ))
 (bV .ret)))))
theorem MN (c:bh) (k:Nat):cf cx c 22 GQ k (Tryz.f71.body.getD .skip)=f71 c k:=by kernel_rfl
def Jl:Ann:=⟨[(0,r0 [1]),(1,r0 [5,6]),(2,r0 [5,6,7]),(3,r0 [4,5,6]),(4,r0 [5,6,14]),(5,r0 [2]),(6,r0 [5,6]),(7,r0 [2])],[(2,[5,6])]⟩
noncomputable def HE (c:bh) (k:Nat):St:=
 (ak (ap (rg [5,6,7] <| aX 7 (pB .lss 3 6 (cnI 6))<|aXZ))
 (ak (bJ (.tmp 7) (bV .nrm) (bV (.ext 0)))
 (ak (bU 1 (ak (ap (rg [4,5,6] <| aX 8 (fun n e M=>keep (lm false 6 1 (a3 e 5) (a3 e 6)))<|aX 4 (pM 8)<|aXZ))
 (ak (ap (rg [5,6,14] <| aX 9 (pM 4)<|aX 10 (pB .lss 58 9 (cn (.int .i16 0)))<|aX 11 (pM 10)<|aX 12 (pG 11 false (pM 4))<|aX 13 (pG 11 false (pB .gtr 58 12 (cn (.int .i16 1000))))<|aX 14 (pP 11 (cn (.bool true)) 13)<|aXZ))
 (bJ (.tmp 14) (ak (ap (rg [2] <| aX 2 (pM (cn (.bool false)))<|aXZ))
 (bV .ret)) (bV .nrm)))))
 (ap (rg [5,6] <| aX 15 (pB .add 3 6 (cnI 1))<|aX 6 (pM 15)<|aXZ)))))
noncomputable def f72 (c:bh) (k:Nat):St:=
 (ak (ap (rg [1] <| aX 1 (pBox 6 0)<|aX 2 (pM (cn (.bool false)))<|aXZ))
 (ak (ak (ap (rg [5,6] <| aX 5 (pL true 6 1)<|aX 6 (pM (cnI 0))<|aXZ))
 (bU 0 (cD [5,6] (HE c k) k)))
 (ak (ap (rg [2] <| aX 2 (pM (cn (.bool true)))<|aXZ))
 (bV .ret))))
theorem L6 (c:bh) (k:Nat):cf cx c 16 Jl k (Tryz.f72.body.getD .skip)=f72 c k:=by kernel_rfl
def JG:Ann:=⟨[(0,r0 [1,2]),(1,r0 [1,2,3]),(2,r0 [2,3,7,8]),(3,r0 [2,3,7,8,9]),(4,r0 [2,3,4,5,7,8]),(5,r0 [2,3,7,8]),(6,r0 [2,3,7,8]),(7,r0 [2])],[(3,[2,3,7,8])]⟩
noncomputable def Hq (c:bh) (k:Nat):St:=
 (ak (ap (rg [2,3,7,8,9] <| aX 9 (pB .lss 3 8 (cnI 6))<|aXZ))
 (ak (bJ (.tmp 9) (bV .nrm) (bV (.ext 0)))
 (ak (bU 1 (ak (ap (rg [2,3,4,5,7,8] <| aX 10 (pM 8)<|aX 11 (fun n e M=>keep (lm false 6 1 (a3 e 7) (a3 e 8)))<|aX 4 (pM 10)<|aX 5 (pM 11)<|aXZ))
 (ap (rg [2,3,7,8] <| aX 12 (pM 4)<|aX 13 (pM 5)<|aX 14 (fun n e M=>keep (ir .i64 (a3 e 13)))<|aX 15 (fun n e M=>keep (cb 6 1 (a3 e 3) (a3 e 12) M))<|aX0 (pS 1 15 14)<|aXZ))))
 (ap (rg [2,3,7,8] <| aX 16 (pB .add 3 8 (cnI 1))<|aX 8 (pM 16)<|aXZ)))))
noncomputable def f73 (c:bh) (k:Nat):St:=
 (ak (ap (rg [1,2] <| aX 1 (pBox 6 0)<|aX 2 (nG 118 6)<|aXZ))
 (ak (ap (rg [1,2,3] <| aX 6 (fun n e M=>keep (db (b5 cx.P 118) [] M))<|aX 3 (nG 118 6)<|aX0 (pS 6 3 6)<|aXZ))
 (ak (ak (ap (rg [2,3,7,8] <| aX 7 (pL true 6 1)<|aX 8 (pM (cnI 0))<|aXZ))
 (bU 0 (cD [2,3,7,8] (Hq c k) k)))
 (ak (ap (rg [2] <| aX 17 (pL true 6 3)<|aX0 (pS 6 2 17)<|aXZ))
 (bV .ret)))))
theorem Mu (c:bh) (k:Nat):cf cx c 18 JG k (Tryz.f73.body.getD .skip)=f73 c k:=by kernel_rfl
def Jy:Ann:=⟨[(0,r0 [1]),(1,r0 [1,3]),(2,r0 [3,6,7]),(3,r0 [3,6,7,8]),(4,r0 [3,4,5,6,7]),(5,r0 [3,6,7]),(6,r0 [3,6,7]),(7,r0 [2])],[(3,[3,6,7])]⟩
noncomputable def IE (c:bh) (k:Nat):St:=
 (ak (ap (rg [3,6,7,8] <| aX 8 (pB .lss 3 7 (cnI 6))<|aXZ))
 (ak (bJ (.tmp 8) (bV .nrm) (bV (.ext 0)))
 (ak (bU 1 (ak (ap (rg [3,4,5,6,7] <| aX 9 (pM 7)<|aX 10 (fun n e M=>keep (lm false 6 1 (a3 e 6) (a3 e 7)))<|aX 4 (pM 9)<|aX 5 (pM 10)<|aXZ))
 (ap (rg [3,6,7] <| aX 11 (pM 3)<|aX 12 (pM 5)<|aX 13 (pM 4)<|aX 14 (pK c false 70 [13])<|aX 15 (pB .mul 2 12 14)<|aX 16 (pB .add 2 11 15)<|aX 3 (pM 16)<|aXZ))))
 (ap (rg [3,6,7] <| aX 17 (pB .add 3 7 (cnI 1))<|aX 7 (pM 17)<|aXZ)))))
noncomputable def f74 (c:bh) (k:Nat):St:=
 (ak (ap (rg [1] <| aX 1 (pBox 6 0)<|aX 2 (pM (cnI 0))<|aXZ))
 (ak (ap (rg [1,3] <| aX 3 (pM (cnI 0))<|aXZ))
 (ak (ak (ap (rg [3,6,7] <| aX 6 (pL true 6 1)<|aX 7 (pM (cnI 0))<|aXZ))
 (bU 0 (cD [3,6,7] (IE c k) k)))
 (ak (ap (rg [2] <| aX 18 (pM 3)<|aX 2 (pM 18)<|aXZ))
 (bV .ret)))))
theorem LK (c:bh) (k:Nat):cf cx c 19 Jy k (Tryz.f74.body.getD .skip)=f74 c k:=by kernel_rfl
def HF:Ann:=⟨[(0,r0 [0,1,2]),(1,r0 [0,1,2,14]),(2,r0 [6]),(3,r0 [0,1,17]),(4,r0 [6]),(5,r0 [28]),(6,r0 [6]),(7,r0 [6])],[]⟩
noncomputable def f75 (c:bh) (k:Nat):St:=
 (ak (ap (rg [0,1,2] <| aX 6 (pM (cnI 0))<|aXZ))
 (ak (ak (ap (rg [0,1,2,14] <| aX 7 (pM 0)<|aX 8 (pK c false 78 [7])<|aX 9 (pU .not 8)<|aX 10 (pM 9)<|aX 11 (pG 10 false (pM 1))<|aX 12 (pG 10 false (pK c false 78 [11]))<|aX 13 (pG 10 false (pU .not 12))<|aX 14 (pP 10 (cn (.bool true)) 13)<|aXZ))
 (bJ (.tmp 14) (ak (ap (rg [6] <| aX 6 (pM (cnI 1))<|aXZ))
 (bV .ret)) (bV .nrm)))
 (ak (ak (ap (rg [0,1,17] <| aX 15 (pM 2)<|aX 16 (pK c false 100 [15,(cnI 0),(cnI 16)])<|aX 17 (pU .not 16)<|aXZ))
 (bJ (.tmp 17) (ak (ap (rg [6] <| aX 6 (pM (cnI 2))<|aXZ))
 (bV .ret)) (bV .nrm)))
 (ak (ak (ap (rg [28] <| aX 18 (pM 0)<|aX 19 (pN 18)<|aX 20 (pF 0 1 19)<|aX 21 (pL false 1 20)<|aX 22 (pU .not 21)<|aX 23 (pM 22)<|aX 24 (pG 23 false (pM 1))<|aX 25 (pG 23 false (pN 24))<|aX 26 (pG 23 false (pF 0 1 25))<|aX 27 (pG 23 false (pL false 1 26))<|aX 28 (pP 23 (cn (.bool true)) 27)<|aXZ))
 (bJ (.tmp 28) (ak (ap (rg [6] <| aX 6 (pM (cnI 4))<|aXZ))
 (bV .ret)) (bV .nrm)))
 (ak (ap (rg [6] <| aX 6 (pM (cnI 0))<|aXZ))
 (bV .ret))))))
theorem LM (c:bh) (k:Nat):cf cx c 29 HF k (Tryz.f75.body.getD .skip)=f75 c k:=by kernel_rfl
def G6:Ann:=⟨[(0,r0 [0,1]),(1,r0 [0,1,10]),(2,r0 [4]),(3,r0 [0,1,5]),(4,r0 [0,1,5,14]),(5,r0 [0,1,5]),(6,r0 [0,1,5,25]),(7,r0 [4]),(8,r0 [4])],[(4,[0,1,5])]⟩
noncomputable def Jk (c:bh) (k:Nat):St:=
 (ak (ak (ap (rg [0,1,5,14] <| aX 11 (pM 5)<|aX 12 (pM 0)<|aX 13 (dl 46 12)<|aX 14 (pB .lss 3 11 13)<|aXZ))
 (bJ (.tmp 14) (bV .nrm) (bV (.ext 0))))
 (ak (bU 1 (ak (ap (mM [0,1,5,25] (aY 17 (pM 0)<|aY 18 (pM 5)<|aY 19 (pI 2 17 18)<|aY 20 (pL true 2 19)<|aY 21 (pM 1)<|aY 22 (pM 5)<|aY 23 (pI 2 21 22)<|aY 24 (pL true 2 23)<|aY 25 (pB .neq 109 20 24)<|aYZ) (aXZ)))
 (bJ (.tmp 25) (ak (ap (rg [4] <| aX 4 (pM (cn (.bool false)))<|aXZ))
 (bV .ret)) (bV .nrm))))
 (ap (rg [0,1,5] <| aX 15 (pM 5)<|aX 16 (pB .add 3 15 (cnI 1))<|aX 5 (pM 16)<|aXZ))))
noncomputable def f76 (c:bh) (k:Nat):St:=
 (ak (ap (rg [0,1] <| aX 4 (pM (cn (.bool false)))<|aXZ))
 (ak (ak (ap (rg [0,1,10] <| aX 6 (pM 0)<|aX 7 (dl 46 6)<|aX 8 (pM 1)<|aX 9 (dl 46 8)<|aX 10 (pB .neq 3 7 9)<|aXZ))
 (bJ (.tmp 10) (ak (ap (rg [4] <| aX 4 (pM (cn (.bool false)))<|aXZ))
 (bV .ret)) (bV .nrm)))
 (ak (ak (ap (rg [0,1,5] <| aX 5 (pM (cnI 0))<|aXZ))
 (bU 0 (cD [0,1,5] (Jk c k) k)))
 (ak (ap (rg [4] <| aX 4 (pM (cn (.bool true)))<|aXZ))
 (bV .ret)))))
theorem Nt (c:bh) (k:Nat):cf cx c 26 G6 k (Tryz.f76.body.getD .skip)=f76 c k:=by kernel_rfl
def Jh:Ann:=⟨[(0,r0 [2,3,4]),(1,r0 [2,3,4,7]),(2,r0 [2,3,4,7,8]),(3,r0 [2,3,4,7,8,11]),(4,r0 [2,3,4,7,8]),(5,r0 [2,3,4,7,8,9]),(6,r0 [2,3,4,7,8,9,26]),(7,r0 [6]),(8,r0 [2,3,4,7,8,28]),(9,r0 [2,3,4,7,8]),(10,r0 [6])],[(3,[2,3,4,7,8])]⟩
noncomputable def Iu (c:bh) (k:Nat):St:=
 (ak (ak (ap (rg [2,3,4,7,8,11] <| aX 10 (pM 8)<|aX 11 (pB .lss 3 10 (cnI 16))<|aXZ))
 (bJ (.tmp 11) (bV .nrm) (bV (.ext 0))))
 (ak (bU 1 (ak (ap (mM [2,3,4,7,8,9] (aY 14 (pM 8)<|aY 15 (fun n e M=>keep (cb 16 1 (a3 e 3) (a3 e 14) M))<|aY 16 (pL false 1 15)<|aY 17 (pM 8)<|aY 18 (fun n e M=>keep (cb 16 1 (a3 e 4) (a3 e 17) M))<|aY 19 (pL false 1 18)<|aY 20 (pB .add 47 16 19)<|aY 9 (pM 20)<|aYZ) (aXZ)))
 (ak (ak (ap (rg [2,3,4,7,8,9,26] <| aX 21 (pM 9)<|aX 22 (pB .lss 47 21 (cn (.int .i8 (-1))))<|aX 23 (pM 22)<|aX 24 (pG 23 false (pM 9))<|aX 25 (pG 23 false (pB .gtr 47 24 (cn (.int .i8 1))))<|aX 26 (pP 23 (cn (.bool true)) 25)<|aXZ))
 (bJ (.tmp 26) (ak (ap (rg [6] <| aX 6 (pM (cn (.bool false)))<|aXZ))
 (bV .ret)) (bV .nrm)))
 (ak (ap (rg [2,3,4,7,8,28] <| aX 27 (pM 9)<|aX 28 (pB .neq 47 27 (cn (.int .i8 0)))<|aXZ))
 (bJ (.tmp 28) (ap (rg [2,3,4,7,8] <| aX 29 (pM 7)<|aX 30 (pB .add 2 29 (cnI 1))<|aX 7 (pM 30)<|aXZ)) (bV .nrm))))))
 (ap (rg [2,3,4,7,8] <| aX 12 (pM 8)<|aX 13 (pB .add 3 12 (cnI 1))<|aX 8 (pM 13)<|aXZ))))
noncomputable def f77 (c:bh) (k:Nat):St:=
 (ak (ap (rg [2,3,4] <| aX 3 (pBox 16 0)<|aX 4 (pBox 16 1)<|aX 6 (pM (cn (.bool false)))<|aXZ))
 (ak (ap (rg [2,3,4,7] <| aX 7 (pM (cnI 0))<|aXZ))
 (ak (ak (ap (rg [2,3,4,7,8] <| aX 8 (pM (cnI 0))<|aXZ))
 (bU 0 (cD [2,3,4,7,8] (Iu c k) k)))
 (ak (ap (rg [6] <| aX 31 (pM 7)<|aX 32 (pM 2)<|aX 33 (pB .leq 2 31 32)<|aX 6 (pM 33)<|aXZ))
 (bV .ret)))))
theorem MO (c:bh) (k:Nat):cf cx c 34 Jh k (Tryz.f77.body.getD .skip)=f77 c k:=by kernel_rfl
def GT:Ann:=⟨[(0,r0 [0]),(1,r0 [2])],[]⟩
noncomputable def f78 (c:bh) (k:Nat):St:=
 (ak (ap (rg [0] <| aX 2 (pM (cn (.bool false)))<|aXZ))
 (ak (ap (rg [2] <| aX 3 (pM 0)<|aX 4 (pN 3)<|aX 5 (pF 1 1 4)<|aX 6 (pL false 1 5)<|aX 7 (pK c false 111 [6])<|aX 8 (pM 7)<|aX 9 (pG 8 true (pM 0))<|aX 10 (pG 8 true (pN 9))<|aX 11 (pG 8 true (pF 2 16 10))<|aX 12 (pG 8 true (pL true 16 11))<|aX 13 (pG 8 true (pK c false 82 [12]))<|aX 14 (pP 8 13 (cn (.bool false)))<|aX 2 (pM 14)<|aXZ))
 (bV .ret)))
theorem Nx (c:bh) (k:Nat):cf cx c 15 GT k (Tryz.f78.body.getD .skip)=f78 c k:=by kernel_rfl
def JA:Ann:=⟨[(0,r0 [0]),(1,r0 [0,3]),(2,r0 [0,3,4]),(3,r0 [0,3,4,8]),(4,r0 [0,3,4]),(5,r0 [0,3,4]),(6,r0 [2])],[(3,[0,3,4])]⟩
noncomputable def HA (c:bh) (k:Nat):St:=
 (ak (ak (ap (rg [0,3,4,8] <| aX 5 (pM 4)<|aX 6 (pM 0)<|aX 7 (dl 46 6)<|aX 8 (pB .lss 3 5 7)<|aXZ))
 (bJ (.tmp 8) (bV .nrm) (bV (.ext 0))))
 (ak (bU 1 (ap (mM [0,3,4] (aY 11 (pM 3)<|aY 12 (pK c false 112 [])<|aY 13 (pM 0)<|aY 14 (pM 4)<|aY 15 (pI 2 13 14)<|aY 16 (pF 0 1 15)<|aY 17 (pL false 1 16)<|aY 18 (pI 1 12 17)<|aY 19 (pL false 1 18)<|aY 20 (pB .add 2 11 19)<|aY 3 (pM 20)<|aYZ) (aXZ))))
 (ap (rg [0,3,4] <| aX 9 (pM 4)<|aX 10 (pB .add 3 9 (cnI 1))<|aX 4 (pM 10)<|aXZ))))
noncomputable def f79 (c:bh) (k:Nat):St:=
 (ak (ap (rg [0] <| aX 2 (pM (cnI 0))<|aXZ))
 (ak (ap (rg [0,3] <| aX 3 (pM (cnI 0))<|aXZ))
 (ak (ak (ap (rg [0,3,4] <| aX 4 (pM (cnI 0))<|aXZ))
 (bU 0 (cD [0,3,4] (HA c k) k)))
 (ak (ap (rg [2] <| aX 21 (pM 3)<|aX 2 (pM 21)<|aXZ))
 (bV .ret)))))
theorem MQ (c:bh) (k:Nat):cf cx c 22 JA k (Tryz.f79.body.getD .skip)=f79 c k:=by kernel_rfl
def IH:Ann:=⟨[(0,r0 [1]),(1,r0 [1,3]),(2,r0 [1,3,5]),(3,r0 [1,3]),(4,r0 [1,3,17]),(5,r0 [2]),(6,r0 [2])],[(2,[1,3])]⟩
noncomputable def Hj (c:bh) (k:Nat):St:=
 (ak (ak (ap (rg [1,3,5] <| aX 4 (pM 3)<|aX 5 (pB .lss 3 4 (cnI 6))<|aXZ))
 (bJ (.tmp 5) (bV .nrm) (bV (.ext 0))))
 (ak (bU 1 (ak (ap (rg [1,3,17] <| aX 8 (pM 3)<|aX 9 (fun n e M=>keep (cb 6 1 (a3 e 1) (a3 e 8) M))<|aX 10 (pL false 1 9)<|aX 11 (pB .lss 58 10 (cn (.int .i16 0)))<|aX 12 (pM 11)<|aX 13 (pG 12 false (pM 3))<|aX 14 (pG 12 false (fun n e M=>keep (cb 6 1 (a3 e 1) (a3 e 13) M)))<|aX 15 (pG 12 false (pL false 1 14))<|aX 16 (pG 12 false (pB .gtr 58 15 (cn (.int .i16 1000))))<|aX 17 (pP 12 (cn (.bool true)) 16)<|aXZ))
 (bJ (.tmp 17) (ak (ap (rg [2] <| aX 2 (pM (cn (.bool false)))<|aXZ))
 (bV .ret)) (bV .nrm))))
 (ap (rg [1,3] <| aX 6 (pM 3)<|aX 7 (pB .add 3 6 (cnI 1))<|aX 3 (pM 7)<|aXZ))))
noncomputable def f80 (c:bh) (k:Nat):St:=
 (ak (ap (rg [1] <| aX 1 (pBox 6 0)<|aX 2 (pM (cn (.bool false)))<|aXZ))
 (ak (ak (ap (rg [1,3] <| aX 3 (pM (cnI 0))<|aXZ))
 (bU 0 (cD [1,3] (Hj c k) k)))
 (ak (ap (rg [2] <| aX 2 (pM (cn (.bool true)))<|aXZ))
 (bV .ret))))
theorem Ml (c:bh) (k:Nat):cf cx c 18 IH k (Tryz.f80.body.getD .skip)=f80 c k:=by kernel_rfl
def Id:Ann:=⟨[(0,r0 [1]),(1,r0 [1,3]),(2,r0 [1,3,4]),(3,r0 [1,3,4,6]),(4,r0 [1,3,4]),(5,r0 [1,3,4]),(6,r0 [2])],[(3,[1,3,4])]⟩
noncomputable def JD (c:bh) (k:Nat):St:=
 (ak (ak (ap (rg [1,3,4,6] <| aX 5 (pM 4)<|aX 6 (pB .lss 3 5 (cnI 6))<|aXZ))
 (bJ (.tmp 6) (bV .nrm) (bV (.ext 0))))
 (ak (bU 1 (ap (mM [1,3,4] (aY 9 (pM 3)<|aY 10 (pM 4)<|aY 11 (fun n e M=>keep (cb 6 1 (a3 e 1) (a3 e 10) M))<|aY 12 (pL false 1 11)<|aY 13 (fun n e M=>keep (ir .i64 (a3 e 12)))<|aY 14 (pK c false 112 [])<|aY 15 (pM 4)<|aY 16 (pI 1 14 15)<|aY 17 (pL false 1 16)<|aY 18 (pB .mul 2 13 17)<|aY 19 (pB .add 2 9 18)<|aY 3 (pM 19)<|aYZ) (aXZ))))
 (ap (rg [1,3,4] <| aX 7 (pM 4)<|aX 8 (pB .add 3 7 (cnI 1))<|aX 4 (pM 8)<|aXZ))))
noncomputable def f81 (c:bh) (k:Nat):St:=
 (ak (ap (rg [1] <| aX 1 (pBox 6 0)<|aX 2 (pM (cnI 0))<|aXZ))
 (ak (ap (rg [1,3] <| aX 3 (pM (cnI 0))<|aXZ))
 (ak (ak (ap (rg [1,3,4] <| aX 4 (pM (cnI 0))<|aXZ))
 (bU 0 (cD [1,3,4] (JD c k) k)))
 (ak (ap (rg [2] <| aX 20 (pM 3)<|aX 2 (pM 20)<|aXZ))
 (bV .ret)))))
theorem L1 (c:bh) (k:Nat):cf cx c 21 Id k (Tryz.f81.body.getD .skip)=f81 c k:=by kernel_rfl
def Hl:Ann:=⟨[(0,r0 [1]),(1,r0 [1,3]),(2,r0 [1,3,5]),(3,r0 [1,3]),(4,r0 [1,3,17]),(5,r0 [2]),(6,r0 [2])],[(2,[1,3])]⟩
noncomputable def H9 (c:bh) (k:Nat):St:=
 (ak (ak (ap (rg [1,3,5] <| aX 4 (pM 3)<|aX 5 (pB .lss 3 4 (cnI 16))<|aXZ))
 (bJ (.tmp 5) (bV .nrm) (bV (.ext 0))))
 (ak (bU 1 (ak (ap (rg [1,3,17] <| aX 8 (pM 3)<|aX 9 (fun n e M=>keep (cb 16 1 (a3 e 1) (a3 e 8) M))<|aX 10 (pL false 1 9)<|aX 11 (pB .lss 47 10 (cn (.int .i8 (-3))))<|aX 12 (pM 11)<|aX 13 (pG 12 false (pM 3))<|aX 14 (pG 12 false (fun n e M=>keep (cb 16 1 (a3 e 1) (a3 e 13) M)))<|aX 15 (pG 12 false (pL false 1 14))<|aX 16 (pG 12 false (pB .gtr 47 15 (cn (.int .i8 3))))<|aX 17 (pP 12 (cn (.bool true)) 16)<|aXZ))
 (bJ (.tmp 17) (ak (ap (rg [2] <| aX 2 (pM (cn (.bool false)))<|aXZ))
 (bV .ret)) (bV .nrm))))
 (ap (rg [1,3] <| aX 6 (pM 3)<|aX 7 (pB .add 3 6 (cnI 1))<|aX 3 (pM 7)<|aXZ))))
noncomputable def f82 (c:bh) (k:Nat):St:=
 (ak (ap (rg [1] <| aX 1 (pBox 16 0)<|aX 2 (pM (cn (.bool false)))<|aXZ))
 (ak (ak (ap (rg [1,3] <| aX 3 (pM (cnI 0))<|aXZ))
 (bU 0 (cD [1,3] (H9 c k) k)))
 (ak (ap (rg [2] <| aX 2 (pM (cn (.bool true)))<|aXZ))
 (bV .ret))))
theorem Ms (c:bh) (k:Nat):cf cx c 18 Hl k (Tryz.f82.body.getD .skip)=f82 c k:=by kernel_rfl
def G7:Ann:=⟨[(0,r0 [0,1,4]),(1,r0 [0,1,4,5]),(2,⟨[],[],[0,8],[5,6,7,9],[0,1,4,5,6],some [1,2,3],[]⟩),(3,r0 [0,1,4,5,6,30]),(4,r0 [0,4,5,6]),(5,r0 [0,4,5,6]),(6,⟨[],[],[2,8],[6,7,9,10,11],[0,4,6],some [0,1],[]⟩),(7,r0 [4,6]),(8,r0 [4]),(9,r0 [0,1,4,5,6]),(10,r0 [0,1,4,5,6,7]),(11,r0 [0,1,4,5,6,7,68]),(12,r0 [0,1,4,6,7]),(13,⟨[],[],[],[17,18,19,20],[4,6],none,[]⟩),(14,r0 [0,1,4,5,6,7,68,90]),(15,r0 [0,1,4,5,6,7,68,90]),(16,r0 [0,4,5,6,7]),(17,r0 [0,4,5,6]),(18,⟨[],[],[2,8],[6,7,9,10,11],[4,6],some [0,1],[]⟩),(19,r0 [0,1,4,6,7,110]),(20,r0 [4,6,7]),(21,r0 [4,6]),(22,r0 [4])],[]⟩
noncomputable def f87 (c:bh) (k:Nat):St:=
 (ak (ap (rg [0,1,4] <| aX 4 (nG 132 6)<|aXZ))
 (ak (ap (rg [0,1,4,5] <| aX 8 (pM 1)<|aX 9 (pN 8)<|aX 10 (pF 1 1 9)<|aX 11 (pL false 1 10)<|aX 12 (dl 24 11)<|aX 5 (pM 12)<|aXZ))
 (ak (ap (ND [0,1,4,5,6] (aQc 0 false (some 13) (pM 1)<|aQs 1 false (some 14) (pN 13)<|aQs 2 false (some 15) (pF 0 1 14)<|aQs 3 false (some 16) (pL false 1 15)<|aQ 4 false (some 17) (pM 0)<|aQc 8 true (some 6) (nG 132 6)<|aQZ) (aW [4] (some 18) (pK c false 59 [17,(cnI 4)])<|aW [0,1,2,3,4,5] (some 19) (pB .add 2 16 18)<|aW [0,1,2,3,4,5,6] (some 20) (fun n e M=>keep (db (b5 cx.P 132) [(0,1,(a3 e 19))] M))<|aW [0,1,2,3,4,5,6,7,8] none (pS 6 6 20)<|aWZ)))
 (ak (ak (ap (rg [0,1,4,5,6,30] <| aX 21 (pM 1)<|aX 22 (pN 21)<|aX 23 (pF 2 1 22)<|aX 24 (pL false 1 23)<|aX 25 (dl 25 24)<|aX 26 (pB .eql 3 25 (cnI 0))<|aX 27 (pM 26)<|aX 28 (pG 27 false (pM 0))<|aX 29 (pG 27 false (pK c false 115 [28,(cnI 3)]))<|aX 30 (pP 27 (cn (.bool true)) 29)<|aXZ))
 (bJ (.tmp 30) (ak (ap (rg [0,4,5,6] <| aX 31 (pF 1 1 6)<|aX0 (pS 1 31 (cn (.int .i8 1)))<|aXZ))
 (ak (ap (rg [0,4,5,6] <| aX 32 (pM 0)<|aX 33 (pM 5)<|aX 34 (pK c false 59 [32,33])<|aX 35 (pF 3 1 6)<|aX0 (pS 1 35 34)<|aXZ))
 (ak (ap (ND [0,4,6] (aQs 0 false (some 36) (pF 3 1 6)<|aQs 1 false (some 37) (pL false 1 36)<|aQc 2 false (some 38) (pB .add 2 37 (cnI 1))<|aQ 3 false (some 39) (pM 0)<|aQ 4 false (some 40) (pM 5)<|aQ 5 false (some 41) (pB .sub 2 40 (cnI 1))<|aQc 8 false (some 44) (pM 5)<|aQZ) (aW [3,4,5] (some 42) (pK c false 59 [39,41])<|aW [0,1,2,3,4,5,6] (some 43) (pB .add 2 38 42)<|aW [0,1,2,3,4,5,6,7,8] (some 45) (pB .rem 2 43 44)<|aW [0,1,2,3,4,5,6,7,8,9] (some 46) (pF 4 1 6)<|aW [0,1,2,3,4,5,6,7,8,9,10] none (pS 1 46 45)<|aWZ)))
 (ak (ap (rg [4,6] <| aX 47 (pM 0)<|aX 48 (pK c false 59 [47,(cnI 60)])<|aX 49 (pB .add 2 (cnI 1) 48)<|aX 50 (pF 5 1 6)<|aX0 (pS 1 50 49)<|aXZ))
 (ak (ap (rg [4] <| aX 51 (pL true 6 6)<|aX0 (pS 6 4 51)<|aXZ))
 (bV .ret)))))) (bV .nrm)))
 (ak (ap (rg [0,1,4,5,6] <| aX 52 (pM 0)<|aX 53 (pM 1)<|aX 54 (pN 53)<|aX 55 (pF 2 1 54)<|aX 56 (pL false 1 55)<|aX 57 (dl 25 56)<|aX 58 (pK c false 59 [52,57])<|aX 59 (pF 2 1 6)<|aX0 (pS 1 59 58)<|aXZ))
 (ak (ap (mM [0,1,4,5,6,7] (aY 60 (pM 1)<|aY 61 (pN 60)<|aY 62 (pF 2 1 61)<|aY 63 (pL false 1 62)<|aY 64 (pF 2 1 6)<|aY 65 (pL false 1 64)<|aY 66 (pI 5 63 65)<|aY 7 (pM 66)<|aYZ) (aXZ)))
 (ak (ak (ap (rg [0,1,4,5,6,7,68] <| aX 67 (pM 0)<|aX 68 (pK c false 59 [67,(cnI 5)])<|aXZ))
 (bU 0 (ak (ak (ap (rg [0,1,4,5,6,7,68,90] <| aX 91 (pB .eql 2 68 (cnI 0))<|aX 90 (pM 91)<|aXZ))
 (bJ (.tmp 90) (bV .nrm) (ap (rg [0,1,4,5,6,7,68,90] <| aX 92 (pB .eql 2 68 (cnI 1))<|aX 90 (pM 92)<|aXZ))))
 (bJ (.tmp 90) (ak (ap (rg [0,4,5,6,7] <| aX 93 (pF 1 1 6)<|aX0 (pS 1 93 (cn (.int .i8 2)))<|aXZ))
 (ak (ap (rg [0,4,5,6] <| aX 94 (pM 7)<|aX 95 (pN 94)<|aX 96 (pF 1 1 95)<|aX 97 (pL false 1 96)<|aX 98 (pF 3 1 6)<|aX0 (pS 1 98 97)<|aXZ))
 (ap (ND [4,6] (aQs 0 false (some 99) (pF 3 1 6)<|aQs 1 false (some 100) (pL false 1 99)<|aQc 2 false (some 101) (pB .add 2 100 (cnI 1))<|aQ 3 false (some 102) (pM 0)<|aQ 4 false (some 103) (pM 5)<|aQ 5 false (some 104) (pB .sub 2 103 (cnI 1))<|aQc 8 false (some 107) (pM 5)<|aQZ) (aW [3,4,5] (some 105) (pK c false 59 [102,104])<|aW [0,1,2,3,4,5,6] (some 106) (pB .add 2 101 105)<|aW [0,1,2,3,4,5,6,7,8] (some 108) (pB .rem 2 106 107)<|aW [0,1,2,3,4,5,6,7,8,9] (some 109) (pF 4 1 6)<|aW [0,1,2,3,4,5,6,7,8,9,10] none (pS 1 109 108)<|aWZ))))) (ak (ap (rg [0,1,4,6,7,110] <| aX 111 (pB .eql 2 68 (cnI 2))<|aX 110 (pM 111)<|aXZ))
 (bJ (.tmp 110) (ak (ap (rg [4,6,7] <| aX 112 (pF 1 1 6)<|aX0 (pS 1 112 (cn (.int .i8 4)))<|aXZ))
 (ap (rg [4,6] <| aX 113 (pM 7)<|aX 114 (pN 113)<|aX 115 (pF 1 1 114)<|aX 116 (pL false 1 115)<|aX 117 (pF 3 1 6)<|aX0 (pS 1 117 116)<|aXZ))) (ak (ap (rg [0,1,4,6,7] <| aX 69 (pF 1 1 6)<|aX0 (pS 1 69 (cn (.int .i8 3)))<|aXZ))
 (ap (mM [4,6] (aY 70 (pM 0)<|aY 71 (pM 7)<|aY 72 (pN 71)<|aY 73 (pF 4 1 72)<|aY 74 (pL false 1 73)<|aY 75 (pM 1)<|aY 76 (pN 75)<|aY 77 (pF 1 1 76)<|aY 78 (pL false 1 77)<|aY 79 (pM 7)<|aY 80 (pN 79)<|aY 81 (pF 0 1 80)<|aY 82 (pL false 1 81)<|aY 83 (pI 1 78 82)<|aY 84 (pL false 1 83)<|aY 85 (pK c false 103 [74,84])<|aY 86 (pK c false 116 [85,(cnI 1)])<|aYZ) (aX 87 (pK c false 59 [70,86])<|aX 88 (pB .add 2 (cnI 1) 87)<|aX 89 (pF 5 1 6)<|aX0 (pS 1 89 88)<|aXZ))))))))))
 (ak (ap (rg [4] <| aX 118 (pL true 6 6)<|aX0 (pS 6 4 118)<|aXZ))
 (bV .ret)))))))))
theorem M9 (c:bh) (k:Nat):cf cx c 119 G7 k (Tryz.f87.body.getD .skip)=f87 c k:=by kernel_rfl
def Hv:Ann:=⟨[(0,r0 [0,1,4]),(1,r0 [0,1,4,6]),(2,r0 [0,1,4,6,13]),(3,⟨[2],[],[],[],[4,5],none,[]⟩),(4,⟨[3],[1],[],[],[1,4,7],none,[]⟩),(5,r0 [1,4,7]),(6,r0 [1,4,7,27]),(7,⟨[24,26],[],[],[24,25,26],[4,7],none,[]⟩),(8,⟨[1],[],[],[],[4,5],none,[]⟩),(9,r0 [1,4,7,8]),(10,r0 [1,4,7,8,65]),(11,r0 [1,4,7,8,65,66]),(12,r0 [4,7,8]),(13,r0 [4,7,8,83]),(14,r0 [4,7]),(15,r0 [1,4,7,8,65,87]),(16,⟨[],[],[],[14],[1,4,7,8],none,[]⟩),(17,⟨[],[],[],[14],[1,4,7,8],none,[]⟩),(18,⟨[],[],[],[11],[4,7],none,[]⟩),(19,r0 [4,7,8,128]),(20,r0 [4,7]),(21,⟨[1],[],[],[],[4,5],none,[]⟩)],[]⟩
noncomputable def f88 (c:bh) (k:Nat):St:=
 (ak (ap (rg [0,1,4] <| aX 4 (nG 27 3)<|aX 5 (pM (cnI 0))<|aXZ))
 (ak (ak (ap (rg [0,1,4,6] <| aX 9 (pM 0)<|aX 10 (pM 1)<|aX 11 (pK c false 117 [9,10])<|aX 6 (pM 11)<|aXZ))
 (ak (ap (rg [0,1,4,6,13] <| aX 12 (pM 6)<|aX 13 (pB .neq 2 12 (cnI 0))<|aXZ))
 (bJ (.tmp 13) (ak (ap (rg [4,5] <| aX 14 (fun n e M=>keep (db (b5 cx.P 27) [] M))<|aX 15 (pM 6)<|aX0 (pSK 3 4 14)<|aX 5 (pM 15)<|aXZ))
 (bV .ret)) (bV .nrm))))
 (ak (ap (rg [1,4,7] <| aX 16 (pM 0)<|aX 17 (pK c true 37 [16])<|aX 7 (nG 27 3)<|aX0 (pSK 3 7 17)<|aXZ))
 (ak (ap (rg [1,4,7] <| aX 18 (pM 1)<|aX 19 (pN 18)<|aX 20 (pF 0 1 19)<|aX 21 (pL false 1 20)<|aX 22 (pF 0 1 7)<|aX0 (pS 1 22 21)<|aXZ))
 (ak (ak (ap (rg [1,4,7,27] <| aX 23 (pM 1)<|aX 24 (pN 23)<|aX 25 (pF 1 1 24)<|aX 26 (pL false 1 25)<|aX 27 (pB .eql 47 26 (cn (.int .i8 1)))<|aXZ))
 (bJ (.tmp 27) (ak (ap (mM [4,7] (aY 28 (pF 2 1 7)<|aY 29 (pL false 1 28)<|aY 30 (pM 1)<|aY 31 (pN 30)<|aY 32 (pF 3 1 31)<|aY 33 (pL false 1 32)<|aY 34 (pM 1)<|aY 35 (pN 34)<|aY 36 (pF 4 1 35)<|aY 37 (pL false 1 36)<|aY 38 (pM 1)<|aY 39 (pN 38)<|aY 40 (pF 0 1 39)<|aY 41 (pL false 1 40)<|aY 42 (pM 1)<|aY 43 (pN 42)<|aY 44 (pF 5 1 43)<|aY 45 (pL false 1 44)<|aY 46 (pM 1)<|aY 47 (pN 46)<|aY 48 (pF 5 1 47)<|aY 49 (pL false 1 48)<|aY 50 (fun n e M=>keep (db (b5 cx.P 80) [(0,1,(a3 e 33)),(1,1,(a3 e 37)),(2,1,(a3 e 41)),(3,1,(a3 e 45)),(4,1,(a3 e 49))] M))<|aY 51 (fun n e M=>keep (eX 80 5 [(a3 e 50)] M))<|aYZ) (aX 52 (fun n e M=>ks n 80 5 40 (a3 e 29) (a3 e 51) M)<|aX 53 (pF 2 1 7)<|aX0 (pSK 1 53 52)<|aXZ)))
 (ak (ap (rg [4,5] <| aX 54 (pL true 3 7)<|aX0 (pSK 3 4 54)<|aX 5 (pM (cnI 0))<|aXZ))
 (bV .ret))) (bV .nrm)))
 (ak (ap (mM [1,4,7,8] (aY 55 (pF 2 1 7)<|aY 56 (pL false 1 55)<|aY 57 (pM 1)<|aY 58 (pN 57)<|aY 59 (pF 2 1 58)<|aY 60 (pL false 1 59)<|aY 61 (pI 5 56 60)<|aY 8 (pM 61)<|aYZ) (aXZ)))
 (ak (ak (ap (rg [1,4,7,8,65] <| aX 62 (pM 1)<|aX 63 (pN 62)<|aX 64 (pF 1 1 63)<|aX 65 (pL false 1 64)<|aXZ))
 (bU 0 (ak (ap (rg [1,4,7,8,65,66] <| aX 67 (pB .eql 47 65 (cn (.int .i8 2)))<|aX 66 (pM 67)<|aXZ))
 (bJ (.tmp 66) (ak (ap (rg [4,7,8] <| aX 68 (pM 8)<|aX 69 (pM 1)<|aX 70 (pN 69)<|aX 71 (pF 4 1 70)<|aX 72 (pL false 1 71)<|aX 73 (pN 68)<|aX 74 (pF 1 1 73)<|aX0 (pS 1 74 72)<|aXZ))
 (ak (ap (mM [4,7,8,83] (aY 75 (pM 8)<|aY 76 (pN 75)<|aY 77 (pF 1 1 76)<|aY 78 (pL false 1 77)<|aY 79 (pM 8)<|aY 80 (pN 79)<|aY 81 (pF 0 1 80)<|aY 82 (pL false 1 81)<|aY 83 (pB .eql 2 78 82)<|aYZ) (aXZ)))
 (bJ (.tmp 83) (ap (rg [4,7] <| aX 84 (pM 8)<|aX 85 (pN 84)<|aX 86 (pF 4 1 85)<|aX0 (pS 1 86 (cnI 0))<|aXZ)) (bV .nrm)))) (ak (ap (rg [1,4,7,8,65,87] <| aX 88 (pB .eql 47 65 (cn (.int .i8 3)))<|aX 87 (pM 88)<|aXZ))
 (bJ (.tmp 87) (ak (ap (mM [1,4,7,8] (aY 89 (pF 1 1 7)<|aY 90 (pL false 1 89)<|aY 91 (pM 8)<|aY 92 (pN 91)<|aY 93 (pF 0 1 92)<|aY 94 (pL false 1 93)<|aY 95 (pI 1 90 94)<|aY 96 (pL false 1 95)<|aY 97 (pM 1)<|aY 98 (pN 97)<|aY 99 (pF 5 1 98)<|aY 100 (pL false 1 99)<|aY 101 (pB .sub 2 96 100)<|aY 102 (pI 1 90 94)<|aYZ) (aX0 (pS 1 102 101)<|aXZ)))
 (ak (ap (mM [1,4,7,8] (aY 103 (pF 1 1 7)<|aY 104 (pL false 1 103)<|aY 105 (pM 8)<|aY 106 (pN 105)<|aY 107 (pF 1 1 106)<|aY 108 (pL false 1 107)<|aY 109 (pI 1 104 108)<|aY 110 (pL false 1 109)<|aY 111 (pM 1)<|aY 112 (pN 111)<|aY 113 (pF 5 1 112)<|aY 114 (pL false 1 113)<|aY 115 (pB .add 2 110 114)<|aY 116 (pI 1 104 108)<|aYZ) (aX0 (pS 1 116 115)<|aXZ)))
 (ap (mM [4,7] (aY 117 (pM 8)<|aY 118 (pN 117)<|aY 119 (pF 4 1 118)<|aY 120 (pL false 1 119)<|aY 121 (pM 1)<|aY 122 (pN 121)<|aY 123 (pF 5 1 122)<|aY 124 (pL false 1 123)<|aY 125 (pB .sub 2 120 124)<|aY 126 (pN 117)<|aY 127 (pF 4 1 126)<|aYZ) (aX0 (pS 1 127 125)<|aXZ))))) (ak (ap (rg [4,7,8,128] <| aX 129 (pB .eql 47 65 (cn (.int .i8 4)))<|aX 128 (pM 129)<|aXZ))
 (bJ (.tmp 128) (ap (rg [4,7] <| aX 130 (pM 8)<|aX 131 (pN 130)<|aX 132 (pF 4 1 131)<|aX0 (pS 1 132 (cnI 0))<|aXZ)) (bV .nrm)))))))))
 (ak (ap (rg [4,5] <| aX 133 (pL true 3 7)<|aX0 (pSK 3 4 133)<|aX 5 (pM (cnI 0))<|aXZ))
 (bV .ret)))))))))
theorem M7 (c:bh) (k:Nat):cf cx c 134 Hv k (Tryz.f88.body.getD .skip)=f88 c k:=by kernel_rfl
def JH:Ann:=⟨[(0,r0 [0]),(1,r0 [5,6,7]),(2,r0 [5,6,7,8]),(3,r0 [4,5,6,7]),(4,r0 [5,6,7,13]),(5,r0 [2]),(6,r0 [5,6,7]),(7,r0 [2])],[(2,[5,6,7])]⟩
noncomputable def HL (c:bh) (k:Nat):St:=
 (ak (ap (rg [5,6,7,8] <| aX 8 (pB .lss 3 7 6)<|aXZ))
 (ak (bJ (.tmp 8) (bV .nrm) (bV (.ext 0)))
 (ak (bU 1 (ak (ap (rg [4,5,6,7] <| aX 9 (pI 6 5 7)<|aX 10 (pL true 6 9)<|aX 4 (nG 132 6)<|aX0 (pS 6 4 10)<|aXZ))
 (ak (ap (rg [5,6,7,13] <| aX 11 (pL true 6 4)<|aX 12 (pK c false 118 [11])<|aX 13 (pU .not 12)<|aXZ))
 (bJ (.tmp 13) (ak (ap (rg [2] <| aX 2 (pM (cn (.bool false)))<|aXZ))
 (bV .ret)) (bV .nrm)))))
 (ap (rg [5,6,7] <| aX 14 (pB .add 3 7 (cnI 1))<|aX 7 (pM 14)<|aXZ)))))
noncomputable def f89 (c:bh) (k:Nat):St:=
 (ak (ap (rg [0] <| aX 2 (pM (cn (.bool false)))<|aXZ))
 (ak (ak (ap (rg [5,6,7] <| aX 5 (pM 0)<|aX 6 (dl 28 5)<|aX 7 (pM (cnI 0))<|aXZ))
 (bU 0 (cD [5,6,7] (HL c k) k)))
 (ak (ap (rg [2] <| aX 2 (pM (cn (.bool true)))<|aXZ))
 (bV .ret))))
theorem MY (c:bh) (k:Nat):cf cx c 15 JH k (Tryz.f89.body.getD .skip)=f89 c k:=by kernel_rfl
def GM:Ann:=⟨[(0,⟨[0],[],[],[],[1,2],none,[]⟩),(1,⟨[0],[],[],[],[1,2,6],none,[]⟩),(2,r0 [2,6,12,13,14]),(3,r0 [2,6,12,13,14,15]),(4,r0 [2,6,8,12,13,14]),(5,r0 [2,6,9,10,12,13,14]),(6,r0 [2,6,9,10,12,13,14,25]),(7,r0 [4,5]),(8,r0 [2,6,12,13,14]),(9,⟨[3],[],[],[],[2,6,12,13,14],none,[]⟩),(10,r0 [2,6,12,13,14]),(11,r0 [4,5])],[(3,[2,6,12,13,14])]⟩
noncomputable def Hh (c:bh) (k:Nat):St:=
 (ak (ap (rg [2,6,12,13,14,15] <| aX 15 (pB .lss 3 14 13)<|aXZ))
 (ak (bJ (.tmp 15) (bV .nrm) (bV (.ext 0)))
 (ak (bU 1 (ak (ap (rg [2,6,8,12,13,14] <| aX 16 (pI 6 12 14)<|aX 17 (pL true 6 16)<|aX 8 (nG 132 6)<|aX0 (pS 6 8 17)<|aXZ))
 (ak (ap (rg [2,6,9,10,12,13,14] <| aX 19 (pL true 3 2)<|aX 20 (pL true 6 8)<|aX 21 (pK c false 119 [19,20])<|aX 18 (pM 21)<|aX 22 (pE 0 18)<|aX 23 (pE 1 18)<|aX 9 (nG 27 3)<|aX0 (pS 3 9 22)<|aX 10 (pM 23)<|aXZ))
 (ak (ak (ap (rg [2,6,9,10,12,13,14,25] <| aX 24 (pM 10)<|aX 25 (pB .neq 2 24 (cnI 0))<|aXZ))
 (bJ (.tmp 25) (ak (ap (rg [4,5] <| aX 26 (pM 6)<|aX 27 (pM 10)<|aX 4 (pM 26)<|aX 5 (pM 27)<|aXZ))
 (bV .ret)) (bV .nrm)))
 (ak (ap (rg [2,6,12,13,14] <| aX 28 (pL true 3 9)<|aX0 (pS 3 2 28)<|aXZ))
 (ap (rg [2,6,12,13,14] <| aX 29 (pM 6)<|aX 30 (pL true 3 2)<|aX 31 (fun n e M=>keep (eX 27 3 [(a3 e 30)] M))<|aX 32 (fun n e M=>ks n 27 3 56 (a3 e 29) (a3 e 31) M)<|aX 6 (pM 32)<|aXZ)))))))
 (ap (rg [2,6,12,13,14] <| aX 33 (pB .add 3 14 (cnI 1))<|aX 14 (pM 33)<|aXZ)))))
noncomputable def f90 (c:bh) (k:Nat):St:=
 (ak (ap (rg [1,2] <| aX 2 (fun n e M=>s3 n 27 3 (a3 e 0) M)<|aX 4 (pM (cn .nils))<|aX 5 (pM (cnI 0))<|aXZ))
 (ak (ap (rg [1,2,6] <| aX 11 (fun n e M=>o8 false n 27 3 [] M)<|aX 6 (pM 11)<|aXZ))
 (ak (ak (ap (rg [2,6,12,13,14] <| aX 12 (pM 1)<|aX 13 (dl 28 12)<|aX 14 (pM (cnI 0))<|aXZ))
 (bU 0 (cD [2,6,12,13,14] (Hh c k) k)))
 (ak (ap (rg [4,5] <| aX 34 (pM 6)<|aX 4 (pM 34)<|aX 5 (pM (cnI 0))<|aXZ))
 (bV .ret)))))
theorem LD (c:bh) (k:Nat):cf cx c 35 GM k (Tryz.f90.body.getD .skip)=f90 c k:=by kernel_rfl
def HP:Ann:=⟨[(0,⟨[0],[],[],[],[1,2],none,[]⟩),(1,⟨[4],[],[],[],[1,2],none,[]⟩),(2,⟨[4],[],[],[],[1,2],none,[]⟩),(3,⟨[1],[],[],[],[2],none,[]⟩)],[]⟩
noncomputable def f91 (c:bh) (k:Nat):St:=
 (ak (ap (rg [1,2] <| aX 1 (fun n e M=>s3 n 27 3 (a3 e 0) M)<|aX 2 (nG 27 3)<|aXZ))
 (ak (ap (rg [1,2] <| aX 3 (pF 1 1 1)<|aX 4 (pL false 1 3)<|aX 5 (pK c false 120 [4])<|aX 6 (pF 1 1 1)<|aX0 (pSK 1 6 5)<|aXZ))
 (ak (ap (rg [1,2] <| aX 7 (pF 2 1 1)<|aX 8 (pL false 1 7)<|aX 9 (pK c false 121 [8])<|aX 10 (pF 2 1 1)<|aX0 (pSK 1 10 9)<|aXZ))
 (ak (ap (rg [2] <| aX 11 (pL true 3 1)<|aX0 (pSK 3 2 11)<|aXZ))
 (bV .ret)))))
theorem LS (c:bh) (k:Nat):cf cx c 12 HP k (Tryz.f91.body.getD .skip)=f91 c k:=by kernel_rfl
def IV:Ann:=⟨[(0,r0 [0]),(1,r0 [0,3]),(2,r0 [0,3,7]),(3,r0 [0,3]),(4,r0 [0,3,14]),(5,r0 [2]),(6,r0 [2])],[(2,[0,3])]⟩
noncomputable def II (c:bh) (k:Nat):St:=
 (ak (ak (ap (rg [0,3,7] <| aX 4 (pM 3)<|aX 5 (pM 0)<|aX 6 (dl 28 5)<|aX 7 (pB .lss 3 4 6)<|aXZ))
 (bJ (.tmp 7) (bV .nrm) (bV (.ext 0))))
 (ak (bU 1 (ak (ap (rg [0,3,14] <| aX 10 (pM 0)<|aX 11 (pM 3)<|aX 12 (pI 6 10 11)<|aX 13 (pK c false 122 [12])<|aX 14 (pU .not 13)<|aXZ))
 (bJ (.tmp 14) (ak (ap (rg [2] <| aX 2 (pM (cn (.bool false)))<|aXZ))
 (bV .ret)) (bV .nrm))))
 (ap (rg [0,3] <| aX 8 (pM 3)<|aX 9 (pB .add 3 8 (cnI 1))<|aX 3 (pM 9)<|aXZ))))
noncomputable def f92 (c:bh) (k:Nat):St:=
 (ak (ap (rg [0] <| aX 2 (pM (cn (.bool false)))<|aXZ))
 (ak (ak (ap (rg [0,3] <| aX 3 (pM (cnI 0))<|aXZ))
 (bU 0 (cD [0,3] (II c k) k)))
 (ak (ap (rg [2] <| aX 2 (pM (cn (.bool true)))<|aXZ))
 (bV .ret))))
theorem Ng (c:bh) (k:Nat):cf cx c 15 IV k (Tryz.f92.body.getD .skip)=f92 c k:=by kernel_rfl
def Hr:Ann:=⟨[(0,r0 [0,1]),(1,r0 [0,1,7,8]),(2,r0 [0,1,7,8,9]),(3,r0 [0,1,5,7,8]),(4,r0 [0,1,5,7,8,16]),(5,r0 [4]),(6,r0 [0,1,7,8]),(7,r0 [4])],[(2,[0,1,7,8])]⟩
noncomputable def Jp (c:bh) (k:Nat):St:=
 (ak (ap (rg [0,1,7,8,9] <| aX 9 (pB .lss 3 8 7)<|aXZ))
 (ak (bJ (.tmp 9) (bV .nrm) (bV (.ext 0)))
 (ak (bU 1 (ak (ap (rg [0,1,5,7,8] <| aX 10 (pM 8)<|aX 5 (pM 10)<|aXZ))
 (ak (ap (rg [0,1,5,7,8,16] <| aX 11 (pM 1)<|aX 12 (pM 0)<|aX 13 (pM 5)<|aX 14 (pI 6 12 13)<|aX 15 (pL true 6 14)<|aX 16 (fun n e M=>C3 cx c false n (a3 e 11) [(a3 e 15)] M)<|aXZ))
 (bJ (.tmp 16) (ak (ap (rg [4] <| aX 17 (pM 5)<|aX 4 (pM 17)<|aXZ))
 (bV .ret)) (bV .nrm)))))
 (ap (rg [0,1,7,8] <| aX 18 (pB .add 3 8 (cnI 1))<|aX 8 (pM 18)<|aXZ)))))
noncomputable def f93 (c:bh) (k:Nat):St:=
 (ak (ap (rg [0,1] <| aX 4 (pM (cnI 0))<|aXZ))
 (ak (ak (ap (rg [0,1,7,8] <| aX 6 (pM 0)<|aX 7 (dl 28 6)<|aX 8 (pM (cnI 0))<|aXZ))
 (bU 0 (cD [0,1,7,8] (Jp c k) k)))
 (ak (ap (rg [4] <| aX 4 (pM (cnI ((-1))))<|aXZ))
 (bV .ret))))
theorem L0 (c:bh) (k:Nat):cf cx c 19 Hr k (Tryz.f93.body.getD .skip)=f93 c k:=by kernel_rfl
def G2:Ann:=⟨[(0,r0 [1,2]),(1,r0 [3])],[]⟩
noncomputable def f94 (c:bh) (k:Nat):St:=
 (ak (ap (rg [1,2] <| aX 2 (pBox 6 0)<|aX 3 (pM (cn (.bool false)))<|aXZ))
 (ak (ap (rg [3] <| aX 4 (pF 0 1 2)<|aX 5 (pL false 1 4)<|aX 6 (pL false 1 1)<|aX 7 (pB .gtr 2 5 6)<|aX 3 (pM 7)<|aXZ))
 (bV .ret)))
theorem MD (c:bh) (k:Nat):cf cx c 8 G2 k (Tryz.f94.body.getD .skip)=f94 c k:=by kernel_rfl
def Jo:Ann:=⟨[(0,r0 [0,1]),(1,r0 [0,1,10]),(2,r0 [4]),(3,r0 [0,1,5]),(4,r0 [0,1,5,14]),(5,r0 [0,1,5]),(6,r0 [0,1,5,25]),(7,r0 [4]),(8,r0 [4])],[(4,[0,1,5])]⟩
noncomputable def I0 (c:bh) (k:Nat):St:=
 (ak (ak (ap (rg [0,1,5,14] <| aX 11 (pM 5)<|aX 12 (pM 0)<|aX 13 (dl 24 12)<|aX 14 (pB .lss 3 11 13)<|aXZ))
 (bJ (.tmp 14) (bV .nrm) (bV (.ext 0))))
 (ak (bU 1 (ak (ap (mM [0,1,5,25] (aY 17 (pM 0)<|aY 18 (pM 5)<|aY 19 (pI 1 17 18)<|aY 20 (pL false 1 19)<|aY 21 (pM 1)<|aY 22 (pM 5)<|aY 23 (pI 1 21 22)<|aY 24 (pL false 1 23)<|aY 25 (pB .neq 2 20 24)<|aYZ) (aXZ)))
 (bJ (.tmp 25) (ak (ap (rg [4] <| aX 4 (pM (cn (.bool false)))<|aXZ))
 (bV .ret)) (bV .nrm))))
 (ap (rg [0,1,5] <| aX 15 (pM 5)<|aX 16 (pB .add 3 15 (cnI 1))<|aX 5 (pM 16)<|aXZ))))
noncomputable def f95 (c:bh) (k:Nat):St:=
 (ak (ap (rg [0,1] <| aX 4 (pM (cn (.bool false)))<|aXZ))
 (ak (ak (ap (rg [0,1,10] <| aX 6 (pM 0)<|aX 7 (dl 24 6)<|aX 8 (pM 1)<|aX 9 (dl 24 8)<|aX 10 (pB .neq 3 7 9)<|aXZ))
 (bJ (.tmp 10) (ak (ap (rg [4] <| aX 4 (pM (cn (.bool false)))<|aXZ))
 (bV .ret)) (bV .nrm)))
 (ak (ak (ap (rg [0,1,5] <| aX 5 (pM (cnI 0))<|aXZ))
 (bU 0 (cD [0,1,5] (I0 c k) k)))
 (ak (ap (rg [4] <| aX 4 (pM (cn (.bool true)))<|aXZ))
 (bV .ret)))))
theorem M3 (c:bh) (k:Nat):cf cx c 26 Jo k (Tryz.f95.body.getD .skip)=f95 c k:=by kernel_rfl
def Iw:Ann:=⟨[(0,r0 [0,1]),(1,r0 [0,7,8,9]),(2,r0 [0,7,8,9,10]),(3,r0 [0,6,7,8,9]),(4,r0 [0,7,8,9,19]),(5,r0 [4]),(6,r0 [0,7,8,9]),(7,r0 [4])],[(2,[0,7,8,9])]⟩
noncomputable def Ic (c:bh) (k:Nat):St:=
 (ak (ap (rg [0,7,8,9,10] <| aX 10 (pB .lss 3 9 8)<|aXZ))
 (ak (bJ (.tmp 10) (bV .nrm) (bV (.ext 0)))
 (ak (bU 1 (ak (ap (rg [0,6,7,8,9] <| aX 11 (pI 1 7 9)<|aX 12 (pL false 1 11)<|aX 6 (pM 12)<|aXZ))
 (ak (ap (rg [0,7,8,9,19] <| aX 13 (pM 6)<|aX 14 (pB .lss 2 13 (cnI 0))<|aX 15 (pM 14)<|aX 16 (pG 15 false (pM 6))<|aX 17 (pG 15 false (pM 0))<|aX 18 (pG 15 false (pB .geq 2 16 17))<|aX 19 (pP 15 (cn (.bool true)) 18)<|aXZ))
 (bJ (.tmp 19) (ak (ap (rg [4] <| aX 4 (pM (cn (.bool false)))<|aXZ))
 (bV .ret)) (bV .nrm)))))
 (ap (rg [0,7,8,9] <| aX 20 (pB .add 3 9 (cnI 1))<|aX 9 (pM 20)<|aXZ)))))
noncomputable def f96 (c:bh) (k:Nat):St:=
 (ak (ap (rg [0,1] <| aX 4 (pM (cn (.bool false)))<|aXZ))
 (ak (ak (ap (rg [0,7,8,9] <| aX 7 (pM 1)<|aX 8 (dl 24 7)<|aX 9 (pM (cnI 0))<|aXZ))
 (bU 0 (cD [0,7,8,9] (Ic c k) k)))
 (ak (ap (rg [4] <| aX 4 (pM (cn (.bool true)))<|aXZ))
 (bV .ret))))
theorem My (c:bh) (k:Nat):cf cx c 21 Iw k (Tryz.f96.body.getD .skip)=f96 c k:=by kernel_rfl
def GY:Ann:=⟨[(0,r0 [0]),(1,r0 [2])],[]⟩
noncomputable def f97 (c:bh) (k:Nat):St:=
 (ak (ap (rg [0] <| aX 2 (pM (cn (.bool false)))<|aXZ))
 (ak (ap (rg [2] <| aX 3 (pM 0)<|aX 4 (pK c false 100 [3,(cnI 0),(cnI 100000)])<|aX 2 (pM 4)<|aXZ))
 (bV .ret)))
theorem Nq (c:bh) (k:Nat):cf cx c 5 GY k (Tryz.f97.body.getD .skip)=f97 c k:=by kernel_rfl
def JI:Ann:=⟨[(0,r0 [0]),(1,r0 [0,3]),(2,r0 [0,3,7]),(3,r0 [0,3]),(4,r0 [0,3,15]),(5,r0 [2]),(6,r0 [2])],[(2,[0,3])]⟩
noncomputable def IM (c:bh) (k:Nat):St:=
 (ak (ak (ap (rg [0,3,7] <| aX 4 (pM 3)<|aX 5 (pM 0)<|aX 6 (dl 24 5)<|aX 7 (pB .lss 3 4 6)<|aXZ))
 (bJ (.tmp 7) (bV .nrm) (bV (.ext 0))))
 (ak (bU 1 (ak (ap (rg [0,3,15] <| aX 10 (pM 0)<|aX 11 (pM 3)<|aX 12 (pI 1 10 11)<|aX 13 (pL false 1 12)<|aX 14 (pK c false 113 [13])<|aX 15 (pU .not 14)<|aXZ))
 (bJ (.tmp 15) (ak (ap (rg [2] <| aX 2 (pM (cn (.bool false)))<|aXZ))
 (bV .ret)) (bV .nrm))))
 (ap (rg [0,3] <| aX 8 (pM 3)<|aX 9 (pB .add 3 8 (cnI 1))<|aX 3 (pM 9)<|aXZ))))
noncomputable def f98 (c:bh) (k:Nat):St:=
 (ak (ap (rg [0] <| aX 2 (pM (cn (.bool false)))<|aXZ))
 (ak (ak (ap (rg [0,3] <| aX 3 (pM (cnI 0))<|aXZ))
 (bU 0 (cD [0,3] (IM c k) k)))
 (ak (ap (rg [2] <| aX 16 (pM 0)<|aX 17 (dl 24 16)<|aX 18 (pK c false 100 [17,(cnI 1),(cnI 16)])<|aX 2 (pM 18)<|aXZ))
 (bV .ret))))
theorem Mh (c:bh) (k:Nat):cf cx c 19 JI k (Tryz.f98.body.getD .skip)=f98 c k:=by kernel_rfl
def G5:Ann:=⟨[(0,r0 [0,1]),(1,r0 [4])],[]⟩
noncomputable def f99 (c:bh) (k:Nat):St:=
 (ak (ap (rg [0,1] <| aX 4 (pM (cn (.bool false)))<|aXZ))
 (ak (ap (rg [4] <| aX 5 (pM 1)<|aX 6 (pM 0)<|aX 7 (pB .sub 2 6 (cnI 1))<|aX 8 (pK c false 100 [5,(cnI 0),7])<|aX 4 (pM 8)<|aXZ))
 (bV .ret)))
theorem MJ (c:bh) (k:Nat):cf cx c 9 G5 k (Tryz.f99.body.getD .skip)=f99 c k:=by kernel_rfl
def Ea:Ann:=⟨[(0,r0 [0,1,2]),(1,r0 [6])],[]⟩
noncomputable def f100 (c:bh) (k:Nat):St:=
 (ak (ap (rg [0,1,2] <| aX 6 (pM (cn (.bool false)))<|aXZ))
 (ak (ap (rg [6] <| aX 7 (pM 0)<|aX 8 (pM 1)<|aX 9 (pB .geq 2 7 8)<|aX 10 (pM 9)<|aX 11 (pG 10 true (pM 0))<|aX 12 (pG 10 true (pM 2))<|aX 13 (pG 10 true (pB .leq 2 11 12))<|aX 14 (pP 10 13 (cn (.bool false)))<|aX 6 (pM 14)<|aXZ))
 (bV .ret)))
theorem J1 (c:bh) (k:Nat):cf cx c 15 Ea k (Tryz.f100.body.getD .skip)=f100 c k:=by kernel_rfl
def EW:Ann:=⟨[(0,r0 [0,1]),(1,r0 [0,1,5,6]),(2,r0 [0,1,5,6,30]),(3,r0 [4]),(4,r0 [0,1,6,7]),(5,r0 [0,1,6,7,35]),(6,r0 [0,1,6,7]),(7,r0 [0,1,6,7,50]),(8,⟨[5],[2],[],[],[0,1,6,7,8],none,[]⟩),(9,r0 [0,1,6,7,8,59]),(10,r0 [4]),(11,r0 [4])],[(5,[0,1,6,7])]⟩
noncomputable def EZ (c:bh) (k:Nat):St:=
 (ak (ak (ap (rg [0,1,6,7,35] <| aX 34 (pM 7)<|aX 35 (pB .lss 2 34 (cnI 16))<|aXZ))
 (bJ (.tmp 35) (bV .nrm) (bV (.ext 0))))
 (ak (bU 1 (ak (ak (ap (rg [0,1,6,7,50] <| aX 38 (pM 0)<|aX 39 (pM 6)<|aX 40 (pM 7)<|aX 41 (pN 38)<|aX 42 (fun n e M=>keep (cb 16 16 (a3 e 41) (a3 e 39) M))<|aX 43 (fun n e M=>keep (cb 16 1 (a3 e 42) (a3 e 40) M))<|aX 44 (pL false 1 43)<|aX 45 (pB .eql 2 44 (cnI 0))<|aX 46 (pM 45)<|aX 47 (pG 46 false (pM 1))<|aX 48 (pG 46 false (pM 7))<|aX 49 (pG 46 false (pK c false 123 [47,48]))<|aX 50 (pP 46 (cn (.bool true)) 49)<|aXZ))
 (bJ (.tmp 50) (bV (.ext 1)) (bV .nrm)))
 (ak (ap (rg [0,1,6,7,8] <| aX 51 (pM 0)<|aX 52 (pM 1)<|aX 53 (pK c true 120 [52])<|aX 54 (pM 7)<|aX 55 (fun n e M=>keep (eX 2 1 [(a3 e 54)] M))<|aX 56 (fun n e M=>ks n 2 1 8 (a3 e 53) (a3 e 55) M)<|aX 57 (pK c false 101 [51,56])<|aX 8 (pM 57)<|aXZ))
 (ak (ap (rg [0,1,6,7,8,59] <| aX 58 (pM 8)<|aX 59 (pB .neq 24 58 (cn .nils))<|aXZ))
 (bJ (.tmp 59) (ak (ap (rg [4] <| aX 60 (pM 8)<|aX 4 (pM 60)<|aXZ))
 (bV .ret)) (bV .nrm))))))
 (ap (rg [0,1,6,7] <| aX 36 (pM 7)<|aX 37 (pB .add 2 36 (cnI 1))<|aX 7 (pM 37)<|aXZ))))
noncomputable def f101 (c:bh) (k:Nat):St:=
 (ak (ap (rg [0,1] <| aX 4 (pM (cn .nils))<|aXZ))
 (ak (ap (mM [0,1,5,6] (aY 9 (pM 1)<|aY 10 (pI 1 9 (cnI 0))<|aY 11 (pL false 1 10)<|aY 12 (pM 1)<|aY 13 (pM 1)<|aY 14 (dl 24 13)<|aY 15 (pB .sub 3 14 (cnI 1))<|aY 16 (pI 1 12 15)<|aY 17 (pL false 1 16)<|aY 5 (pM 11)<|aY 6 (pM 17)<|aYZ) (aXZ)))
 (ak (ak (ap (rg [0,1,5,6,30] <| aX 18 (pM 1)<|aX 19 (dl 24 18)<|aX 20 (pB .gtr 3 19 (cnI 1))<|aX 21 (pM 20)<|aX 22 (pG 21 true (pM 0))<|aX 23 (pG 21 true (pM 6))<|aX 24 (pG 21 true (pM 5))<|aX 25 (pG 21 true (pN 22))<|aX 26 (pG 21 true (fun n e M=>keep (cb 16 16 (a3 e 25) (a3 e 23) M)))<|aX 27 (pG 21 true (fun n e M=>keep (cb 16 1 (a3 e 26) (a3 e 24) M)))<|aX 28 (pG 21 true (pL false 1 27))<|aX 29 (pG 21 true (pB .gtr 2 28 (cnI 0)))<|aX 30 (pP 21 29 (cn (.bool false)))<|aXZ))
 (bJ (.tmp 30) (ak (ap (rg [4] <| aX 31 (pM 1)<|aX 4 (pM 31)<|aXZ))
 (bV .ret)) (bV .nrm)))
 (ak (ak (ap (rg [0,1,6,7] <| aX 32 (pM 5)<|aX 33 (pB .add 2 32 (cnI 1))<|aX 7 (pM 33)<|aXZ))
 (bU 0 (cD [0,1,6,7] (EZ c k) k)))
 (ak (ap (rg [4] <| aX 4 (pM (cn .nils))<|aXZ))
 (bV .ret))))))
theorem Ku (c:bh) (k:Nat):cf cx c 61 EW k (Tryz.f101.body.getD .skip)=f101 c k:=by kernel_rfl
def ED:Ann:=⟨[(0,r0 [0,1]),(1,r0 [0,1,6]),(2,r0 [0,1,6,32]),(3,r0 [4,5]),(4,r0 [0,1,6,7]),(5,r0 [0,1,6,7,39]),(6,r0 [0,1,6,7]),(7,r0 [0,1,6,7,8]),(8,r0 [0,1,6,7,8,9]),(9,r0 [0,1,6,7,8,9,53]),(10,r0 [0,1,6,7,8,9]),(11,r0 [0,1,6,7,8,9]),(12,r0 [0,1,6,7,65]),(13,⟨[1,3,6],[],[],[],[0,1,6,7,10,11],none,[]⟩),(14,r0 [0,1,6,7,10,77]),(15,r0 [4,5]),(16,r0 [4,5])],[(9,[0,1,6,7,8,9]),(5,[0,1,6,7])]⟩
noncomputable def Fa (c:bh) (k:Nat):St:=
 (ak (ak (ap (rg [0,1,6,7,8,9,53] <| aX 50 (pM 9)<|aX 51 (pM 1)<|aX 52 (dl 24 51)<|aX 53 (pB .lss 3 50 52)<|aXZ))
 (bJ (.tmp 53) (bV .nrm) (bV (.ext 2))))
 (ak (bU 3 (ap (rg [0,1,6,7,8,9] <| aX 56 (pM 8)<|aX 57 (pM 56)<|aX 58 (pG 57 false (pM 1))<|aX 59 (pG 57 false (pM 9))<|aX 60 (pG 57 false (pI 1 58 59))<|aX 61 (pG 57 false (pL false 1 60))<|aX 62 (pG 57 false (pM 7))<|aX 63 (pG 57 false (pB .eql 2 61 62))<|aX 64 (pP 57 (cn (.bool true)) 63)<|aX 8 (pM 64)<|aXZ)))
 (ap (rg [0,1,6,7,8,9] <| aX 54 (pM 9)<|aX 55 (pB .add 3 54 (cnI 1))<|aX 9 (pM 55)<|aXZ))))
noncomputable def EP (c:bh) (k:Nat):St:=
 (ak (ak (ap (rg [0,1,6,7,39] <| aX 38 (pM 7)<|aX 39 (pB .lss 2 38 (cnI 16))<|aXZ))
 (bJ (.tmp 39) (bV .nrm) (bV (.ext 0))))
 (ak (bU 1 (ak (ap (rg [0,1,6,7,8] <| aX 42 (pM 0)<|aX 43 (pM 6)<|aX 44 (pM 7)<|aX 45 (pN 42)<|aX 46 (fun n e M=>keep (cb 16 16 (a3 e 45) (a3 e 43) M))<|aX 47 (fun n e M=>keep (cb 16 1 (a3 e 46) (a3 e 44) M))<|aX 48 (pL false 1 47)<|aX 49 (pB .eql 2 48 (cnI 0))<|aX 8 (pM 49)<|aXZ))
 (ak (ak (ap (rg [0,1,6,7,8,9] <| aX 9 (pM (cnI 0))<|aXZ))
 (bU 2 (cD [0,1,6,7,8,9] (Fa c k) k)))
 (ak (ak (ap (rg [0,1,6,7,65] <| aX 65 (pM 8)<|aXZ))
 (bJ (.tmp 65) (bV (.ext 1)) (bV .nrm)))
 (ak (ap (rg [0,1,6,7,10,11] <| aX 67 (pM 0)<|aX 68 (fun n e M=>o8 false n 2 1 [] M)<|aX 69 (pM 1)<|aX 70 (fun n e M=>ks n 2 1 8 (a3 e 68) (a3 e 69) M)<|aX 71 (pM 7)<|aX 72 (fun n e M=>keep (eX 2 1 [(a3 e 71)] M))<|aX 73 (fun n e M=>ks n 2 1 8 (a3 e 70) (a3 e 72) M)<|aX 74 (pK c false 102 [67,73])<|aX 66 (pM 74)<|aX 75 (pE 0 66)<|aX 76 (pE 1 66)<|aX 10 (pM 75)<|aX 11 (pM 76)<|aXZ))
 (ak (ap (rg [0,1,6,7,10,77] <| aX 77 (pM 11)<|aXZ))
 (bJ (.tmp 77) (ak (ap (rg [4,5] <| aX 78 (pM 10)<|aX 4 (pM 78)<|aX 5 (pM (cn (.bool true)))<|aXZ))
 (bV .ret)) (bV .nrm))))))))
 (ap (rg [0,1,6,7] <| aX 40 (pM 7)<|aX 41 (pB .add 2 40 (cnI 1))<|aX 7 (pM 41)<|aXZ))))
noncomputable def f102 (c:bh) (k:Nat):St:=
 (ak (ap (rg [0,1] <| aX 4 (pM (cn .nils))<|aX 5 (pM (cn (.bool false)))<|aXZ))
 (ak (ap (rg [0,1,6] <| aX 12 (pM 1)<|aX 13 (pM 1)<|aX 14 (dl 24 13)<|aX 15 (pB .sub 3 14 (cnI 1))<|aX 16 (pI 1 12 15)<|aX 17 (pL false 1 16)<|aX 6 (pM 17)<|aXZ))
 (ak (ak (ap (mM [0,1,6,32] (aY 18 (pM 1)<|aY 19 (dl 24 18)<|aY 20 (pB .gtr 3 19 (cnI 1))<|aY 21 (pM 20)<|aY 22 (pG 21 true (pM 0))<|aY 23 (pG 21 true (pM 6))<|aY 24 (pG 21 true (pM 1))<|aY 25 (pG 21 true (pI 1 24 (cnI 0)))<|aY 26 (pG 21 true (pL false 1 25))<|aY 27 (pG 21 true (pN 22))<|aY 28 (pG 21 true (fun n e M=>keep (cb 16 16 (a3 e 27) (a3 e 23) M)))<|aY 29 (pG 21 true (fun n e M=>keep (cb 16 1 (a3 e 28) (a3 e 26) M)))<|aY 30 (pG 21 true (pL false 1 29))<|aY 31 (pG 21 true (pB .gtr 2 30 (cnI 0)))<|aY 32 (pP 21 31 (cn (.bool false)))<|aYZ) (aXZ)))
 (bJ (.tmp 32) (ak (ap (rg [4,5] <| aX 33 (pM 1)<|aX 4 (pM 33)<|aX 5 (pM (cn (.bool true)))<|aXZ))
 (bV .ret)) (bV .nrm)))
 (ak (ak (ap (rg [0,1,6,7] <| aX 34 (pM 1)<|aX 35 (pI 1 34 (cnI 0))<|aX 36 (pL false 1 35)<|aX 37 (pB .add 2 36 (cnI 1))<|aX 7 (pM 37)<|aXZ))
 (bU 0 (cD [0,1,6,7] (EP c k) k)))
 (ak (ap (rg [4,5] <| aX 79 (fun n e M=>keep (eX 2 1 [] M))<|aX 4 (pM 79)<|aX 5 (pM (cn (.bool false)))<|aXZ))
 (bV .ret))))))
theorem JT (c:bh) (k:Nat):cf cx c 80 ED k (Tryz.f102.body.getD .skip)=f102 c k:=by kernel_rfl
def Ej:Ann:=⟨[(0,r0 [0,1]),(1,r0 [0,1,7]),(2,r0 [4]),(3,r0 [4])],[]⟩
noncomputable def f103 (c:bh) (k:Nat):St:=
 (ak (ap (rg [0,1] <| aX 4 (pM (cnI 0))<|aXZ))
 (ak (ak (ap (rg [0,1,7] <| aX 5 (pM 0)<|aX 6 (pM 1)<|aX 7 (pB .lss 2 5 6)<|aXZ))
 (bJ (.tmp 7) (ak (ap (rg [4] <| aX 8 (pM 0)<|aX 4 (pM 8)<|aXZ))
 (bV .ret)) (bV .nrm)))
 (ak (ap (rg [4] <| aX 9 (pM 1)<|aX 4 (pM 9)<|aXZ))
 (bV .ret))))
theorem Le (c:bh) (k:Nat):cf cx c 10 Ej k (Tryz.f103.body.getD .skip)=f103 c k:=by kernel_rfl
def Ft:Ann:=⟨[(0,r0 [1,2]),(1,r0 [1,2,6,7]),(2,r0 [1,6,7,11,12,13]),(3,r0 [1,6,7,11,12,13,14]),(4,r0 [1,6,7,9,11,12,13]),(5,r0 [1,6,7,9,11,12,13,20]),(6,r0 [1,6,7,9,11,12,13]),(7,r0 [1,6,7,9,11,12,13,28]),(8,r0 [1,6,7,11,12,13]),(9,r0 [1,6,7,11,12,13]),(10,r0 [4,5])],[(3,[1,6,7,11,12,13])]⟩
noncomputable def Fd (c:bh) (k:Nat):St:=
 (ak (ap (rg [1,6,7,11,12,13,14] <| aX 14 (pB .lss 3 13 12)<|aXZ))
 (ak (bJ (.tmp 14) (bV .nrm) (bV (.ext 0)))
 (ak (bU 1 (ak (ap (rg [1,6,7,9,11,12,13] <| aX 15 (pI 5 11 13)<|aX 16 (pL true 5 15)<|aX 9 (nG 80 5)<|aX0 (pS 5 9 16)<|aXZ))
 (ak (ak (ap (rg [1,6,7,9,11,12,13,20] <| aX 17 (pF 1 1 9)<|aX 18 (pL false 1 17)<|aX 19 (pM 1)<|aX 20 (pB .eql 2 18 19)<|aXZ))
 (bJ (.tmp 20) (ap (rg [1,6,7,9,11,12,13] <| aX 21 (pM 6)<|aX 22 (pF 4 1 9)<|aX 23 (pL false 1 22)<|aX 24 (pB .add 2 21 23)<|aX 6 (pM 24)<|aXZ)) (bV .nrm)))
 (ak (ap (rg [1,6,7,9,11,12,13,28] <| aX 25 (pF 0 1 9)<|aX 26 (pL false 1 25)<|aX 27 (pM 1)<|aX 28 (pB .eql 2 26 27)<|aXZ))
 (bJ (.tmp 28) (ap (rg [1,6,7,11,12,13] <| aX 29 (pM 7)<|aX 30 (pF 4 1 9)<|aX 31 (pL false 1 30)<|aX 32 (pB .add 2 29 31)<|aX 7 (pM 32)<|aXZ)) (bV .nrm))))))
 (ap (rg [1,6,7,11,12,13] <| aX 33 (pB .add 3 13 (cnI 1))<|aX 13 (pM 33)<|aXZ)))))
noncomputable def f104 (c:bh) (k:Nat):St:=
 (ak (ap (rg [1,2] <| aX 2 (pBox 3 0)<|aX 4 (pM (cnI 0))<|aX 5 (pM (cnI 0))<|aXZ))
 (ak (ap (rg [1,2,6,7] <| aX 6 (pM (cnI 0))<|aX 7 (pM (cnI 0))<|aXZ))
 (ak (ak (ap (rg [1,6,7,11,12,13] <| aX 10 (pF 2 1 2)<|aX 11 (pL false 1 10)<|aX 12 (dl 25 11)<|aX 13 (pM (cnI 0))<|aXZ))
 (bU 0 (cD [1,6,7,11,12,13] (Fd c k) k)))
 (ak (ap (rg [4,5] <| aX 34 (pM 6)<|aX 35 (pM 7)<|aX 4 (pM 34)<|aX 5 (pM 35)<|aXZ))
 (bV .ret)))))
theorem Kb (c:bh) (k:Nat):cf cx c 36 Ft k (Tryz.f104.body.getD .skip)=f104 c k:=by kernel_rfl
def Fk:Ann:=⟨[(0,r0 [0]),(1,r0 [0,3]),(2,r0 [0,3,13]),(3,r0 [0,3]),(4,r0 [0,3]),(5,r0 [0,3]),(6,r0 [0,3,53]),(7,r0 [2]),(8,r0 [2])],[]⟩
noncomputable def f105 (c:bh) (k:Nat):St:=
 (ak (ap (rg [0] <| aX 2 (pM (cnI 0))<|aXZ))
 (ak (ap (rg [0,3] <| aX 3 (pM (cnI 0))<|aXZ))
 (ak (ak (ap (mM [0,3,13] (aY 4 (pM 0)<|aY 5 (pN 4)<|aY 6 (pF 1 1 5)<|aY 7 (pL false 1 6)<|aY 8 (pM 0)<|aY 9 (pN 8)<|aY 10 (pF 0 1 9)<|aY 11 (pL false 1 10)<|aY 12 (dl 22 11)<|aY 13 (pB .lss 3 7 12)<|aYZ) (aXZ)))
 (bJ (.tmp 13) (ap (mM [0,3] (aY 14 (pM 0)<|aY 15 (pN 14)<|aY 16 (pF 0 1 15)<|aY 17 (pL false 1 16)<|aY 18 (pM 0)<|aY 19 (pN 18)<|aY 20 (pF 1 1 19)<|aY 21 (pL false 1 20)<|aY 22 (pI 1 17 21)<|aY 23 (pL false 1 22)<|aY 24 (fun n e M=>keep (ir .i64 (a3 e 23)))<|aY 3 (pM 24)<|aYZ) (aXZ))) (bV .nrm)))
 (ak (ap (rg [0,3] <| aX 25 (pM 0)<|aX 26 (pN 25)<|aX 27 (pF 1 1 26)<|aX 28 (pL false 1 27)<|aX 29 (pB .add 3 28 (cnI 1))<|aX 30 (pN 25)<|aX 31 (pF 1 1 30)<|aX0 (pS 1 31 29)<|aXZ))
 (ak (ap (rg [0,3] <| aX 32 (pM 0)<|aX 33 (pM 0)<|aX 34 (pN 33)<|aX 35 (pF 2 1 34)<|aX 36 (pL false 1 35)<|aX 37 (pB .mul 136 36 (cn (.int .u64 6364136223846793005)))<|aX 38 (pM 3)<|aX 39 (fun n e M=>keep (ir .u64 (a3 e 38)))<|aX 40 (pB .add 136 37 39)<|aX 41 (pB .add 136 40 (cn (.int .u64 1442695040888963407)))<|aX 42 (pN 32)<|aX 43 (pF 2 1 42)<|aX0 (pS 1 43 41)<|aXZ))
 (ak (ak (ap (mM [0,3,53] (aY 44 (pM 0)<|aY 45 (pN 44)<|aY 46 (pF 1 1 45)<|aY 47 (pL false 1 46)<|aY 48 (pM 0)<|aY 49 (pN 48)<|aY 50 (pF 0 1 49)<|aY 51 (pL false 1 50)<|aY 52 (dl 22 51)<|aY 53 (pB .leq 3 47 52)<|aYZ) (aXZ)))
 (bJ (.tmp 53) (ak (ap (rg [2] <| aX 54 (pM 3)<|aX 2 (pM 54)<|aXZ))
 (bV .ret)) (bV .nrm)))
 (ak (ap (rg [2] <| aX 55 (pM 0)<|aX 56 (pN 55)<|aX 57 (pF 2 1 56)<|aX 58 (pL false 1 57)<|aX 59 (pB .shr 136 58 (cn (.int .u64 40)))<|aX 60 (pB .and 136 59 (cn (.int .u64 255)))<|aX 61 (fun n e M=>keep (ir .i64 (a3 e 60)))<|aX 2 (pM 61)<|aXZ))
 (bV .ret))))))))
theorem Lf (c:bh) (k:Nat):cf cx c 62 Fk k (Tryz.f105.body.getD .skip)=f105 c k:=by kernel_rfl
def Ew:Ann:=⟨[(0,r0 [0]),(1,r0 [2])],[]⟩
noncomputable def f106 (c:bh) (k:Nat):St:=
 (ak (ap (rg [0] <| aX 2 (pM (cnI 0))<|aXZ))
 (ak (ap (rg [2] <| aX 3 (fun n e M=>keep (eX 2 1 [(.int .i64 1),(.int .i64 2),(.int .i64 4),(.int .i64 6),(.int .i64 9),(.int .i64 12)] M))<|aX 4 (pM 0)<|aX 5 (pI 1 3 4)<|aX 6 (pL false 1 5)<|aX 2 (pM 6)<|aXZ))
 (bV .ret)))
theorem Lb (c:bh) (k:Nat):cf cx c 7 Ew k (Tryz.f106.body.getD .skip)=f106 c k:=by kernel_rfl
def E1:Ann:=⟨[(0,r0 [0]),(1,r0 [2])],[]⟩
noncomputable def f107 (c:bh) (k:Nat):St:=
 (ak (ap (rg [0] <| aX 2 (pM (cn (.bool false)))<|aXZ))
 (ak (ap (rg [2] <| aX 3 (pM 0)<|aX 4 (pB .geq 2 3 (cnI 0))<|aX 5 (pM 4)<|aX 6 (pG 5 true (pM 0))<|aX 7 (pG 5 true (pB .leq 2 6 (cnI 5)))<|aX 8 (pP 5 7 (cn (.bool false)))<|aX 2 (pM 8)<|aXZ))
 (bV .ret)))
theorem Lh (c:bh) (k:Nat):cf cx c 9 E1 k (Tryz.f107.body.getD .skip)=f107 c k:=by kernel_rfl
def Eh:Ann:=⟨[(0,r0 [1]),(1,r0 [2])],[]⟩
noncomputable def f108 (c:bh) (k:Nat):St:=
 (ak (ap (rg [1] <| aX 1 (pBox 2 0)<|aX 2 (pM (cnI 0))<|aXZ))
 (ak (ap (mM [2] (aY 3 (pF 1 1 1)<|aY 4 (pL false 1 3)<|aY 5 (fun n e M=>keep (ir .i64 (a3 e 4)))<|aY 6 (pF 0 1 1)<|aY 7 (pL false 1 6)<|aY 8 (fun n e M=>keep (ir .i64 (a3 e 7)))<|aY 9 (pK c false 106 [8])<|aY 10 (pB .add 2 5 9)<|aY 2 (pM 10)<|aYZ) (aXZ)))
 (bV .ret)))
theorem KE (c:bh) (k:Nat):cf cx c 11 Eh k (Tryz.f108.body.getD .skip)=f108 c k:=by kernel_rfl
def Ec:Ann:=⟨[(0,r0 [0,1]),(1,r0 [0,1,10]),(2,r0 [4]),(3,r0 [0,1,12,13]),(4,r0 [0,1,12,13,14]),(5,r0 [0,1,5,12,13]),(6,r0 [0,1,12,13,24]),(7,r0 [4]),(8,r0 [0,1,12,13]),(9,r0 [4])],[(4,[0,1,12,13])]⟩
noncomputable def Ek (c:bh) (k:Nat):St:=
 (ak (ap (rg [0,1,12,13,14] <| aX 14 (pB .lss 3 13 12)<|aXZ))
 (ak (bJ (.tmp 14) (bV .nrm) (bV (.ext 0)))
 (ak (bU 1 (ak (ap (rg [0,1,5,12,13] <| aX 15 (pM 13)<|aX 5 (pM 15)<|aXZ))
 (ak (ap (mM [0,1,12,13,24] (aY 16 (pM 0)<|aY 17 (pM 5)<|aY 18 (pI 2 16 17)<|aY 19 (pL true 2 18)<|aY 20 (pM 1)<|aY 21 (pM 5)<|aY 22 (pI 2 20 21)<|aY 23 (pL true 2 22)<|aY 24 (pB .neq 109 19 23)<|aYZ) (aXZ)))
 (bJ (.tmp 24) (ak (ap (rg [4] <| aX 4 (pM (cn (.bool false)))<|aXZ))
 (bV .ret)) (bV .nrm)))))
 (ap (rg [0,1,12,13] <| aX 25 (pB .add 3 13 (cnI 1))<|aX 13 (pM 25)<|aXZ)))))
noncomputable def f109 (c:bh) (k:Nat):St:=
 (ak (ap (rg [0,1] <| aX 4 (pM (cn (.bool false)))<|aXZ))
 (ak (ak (ap (rg [0,1,10] <| aX 6 (pM 0)<|aX 7 (dl 46 6)<|aX 8 (pM 1)<|aX 9 (dl 46 8)<|aX 10 (pB .neq 3 7 9)<|aXZ))
 (bJ (.tmp 10) (ak (ap (rg [4] <| aX 4 (pM (cn (.bool false)))<|aXZ))
 (bV .ret)) (bV .nrm)))
 (ak (ak (ap (rg [0,1,12,13] <| aX 11 (pM 0)<|aX 12 (dl 46 11)<|aX 13 (pM (cnI 0))<|aXZ))
 (bU 0 (cD [0,1,12,13] (Ek c k) k)))
 (ak (ap (rg [4] <| aX 4 (pM (cn (.bool true)))<|aXZ))
 (bV .ret)))))
theorem JW (c:bh) (k:Nat):cf cx c 26 Ec k (Tryz.f109.body.getD .skip)=f109 c k:=by kernel_rfl
def Ey:Ann:=⟨[(0,r0 [2,3,4]),(1,r0 [2,3,4,9]),(2,r0 [2,3,4,9,10]),(3,r0 [2,3,4,7,9]),(4,r0 [2,3,4,8,9]),(5,r0 [2,3,4,9,24]),(6,r0 [6]),(7,r0 [2,3,4,9]),(8,r0 [6])],[(2,[2,3,4,9])]⟩
noncomputable def EU (c:bh) (k:Nat):St:=
 (ak (ap (rg [2,3,4,9,10] <| aX 10 (pB .lss 3 9 (cnI 16))<|aXZ))
 (ak (bJ (.tmp 10) (bV .nrm) (bV (.ext 0)))
 (ak (bU 1 (ak (ap (rg [2,3,4,7,9] <| aX 11 (pM 9)<|aX 7 (pM 11)<|aXZ))
 (ak (ap (mM [2,3,4,8,9] (aY 12 (pM 7)<|aY 13 (fun n e M=>keep (cb 16 1 (a3 e 3) (a3 e 12) M))<|aY 14 (pL false 1 13)<|aY 15 (pM 7)<|aY 16 (fun n e M=>keep (cb 16 1 (a3 e 4) (a3 e 15) M))<|aY 17 (pL false 1 16)<|aY 18 (pB .add 47 14 17)<|aY 8 (pM 18)<|aYZ) (aXZ)))
 (ak (ap (rg [2,3,4,9,24] <| aX 19 (pM 8)<|aX 20 (pB .lss 47 19 (cn (.int .i8 (-1))))<|aX 21 (pM 20)<|aX 22 (pG 21 false (pM 8))<|aX 23 (pG 21 false (pB .gtr 47 22 (cn (.int .i8 1))))<|aX 24 (pP 21 (cn (.bool true)) 23)<|aXZ))
 (bJ (.tmp 24) (ak (ap (rg [6] <| aX 6 (pM (cn (.bool false)))<|aXZ))
 (bV .ret)) (bV .nrm))))))
 (ap (rg [2,3,4,9] <| aX 25 (pB .add 3 9 (cnI 1))<|aX 9 (pM 25)<|aXZ)))))
noncomputable def f110 (c:bh) (k:Nat):St:=
 (ak (ap (rg [2,3,4] <| aX 3 (pBox 16 0)<|aX 4 (pBox 16 1)<|aX 6 (pM (cn (.bool false)))<|aXZ))
 (ak (ak (ap (rg [2,3,4,9] <| aX 9 (pM (cnI 0))<|aXZ))
 (bU 0 (cD [2,3,4,9] (EU c k) k)))
 (ak (ap (rg [6] <| aX 26 (pL true 16 3)<|aX 27 (pL true 16 4)<|aX 28 (pK c false 124 [26,27])<|aX 29 (dl 24 28)<|aX 30 (pM 2)<|aX 31 (pB .leq 2 29 30)<|aX 6 (pM 31)<|aXZ))
 (bV .ret))))
theorem Kk (c:bh) (k:Nat):cf cx c 32 Ey k (Tryz.f110.body.getD .skip)=f110 c k:=by kernel_rfl
def E5:Ann:=⟨[(0,r0 [0]),(1,r0 [0,7]),(2,r0 [2]),(3,r0 [0,3]),(4,r0 [0,3,11]),(5,r0 [0,3]),(6,r0 [0,3,4]),(7,r0 [0,3,4,32]),(8,r0 [2]),(9,r0 [0,3,57]),(10,r0 [2]),(11,r0 [2])],[(4,[0,3])]⟩
noncomputable def ES (c:bh) (k:Nat):St:=
 (ak (ak (ap (rg [0,3,11] <| aX 8 (pM 3)<|aX 9 (pM 0)<|aX 10 (dl 46 9)<|aX 11 (pB .lss 3 8 10)<|aXZ))
 (bJ (.tmp 11) (bV .nrm) (bV (.ext 0))))
 (ak (bU 1 (ak (ap (rg [0,3,4] <| aX 14 (pM 0)<|aX 15 (pM 3)<|aX 16 (pI 2 14 15)<|aX 17 (pL true 2 16)<|aX 4 (nG 109 2)<|aX0 (pS 2 4 17)<|aXZ))
 (ak (ak (ap (rg [0,3,4,32] <| aX 18 (pF 0 1 4)<|aX 19 (pL false 1 18)<|aX 20 (fun n e M=>keep (ir .i64 (a3 e 19)))<|aX 21 (pK c false 125 [20])<|aX 22 (pU .not 21)<|aX 23 (pM 22)<|aX 24 (pG 23 false (pF 1 1 4))<|aX 25 (pG 23 false (pL false 1 24))<|aX 26 (pG 23 false (pB .lss 58 25 (cn (.int .i16 0))))<|aX 27 (pP 23 (cn (.bool true)) 26)<|aX 28 (pM 27)<|aX 29 (pG 28 false (pL true 2 4))<|aX 30 (pG 28 false (pK c false 126 [29]))<|aX 31 (pG 28 false (pB .gtr 2 30 (cnI 200)))<|aX 32 (pP 28 (cn (.bool true)) 31)<|aXZ))
 (bJ (.tmp 32) (ak (ap (rg [2] <| aX 2 (pM (cn (.bool false)))<|aXZ))
 (bV .ret)) (bV .nrm)))
 (ak (ap (mM [0,3,57] (aY 33 (pM 3)<|aY 34 (pB .gtr 3 33 (cnI 0))<|aY 35 (pM 34)<|aY 36 (pG 35 true (pF 0 1 4))<|aY 37 (pG 35 true (pL false 1 36))<|aY 38 (pG 35 true (pM 0))<|aY 39 (pG 35 true (pM 3))<|aY 40 (pG 35 true (pB .sub 3 39 (cnI 1)))<|aY 41 (pG 35 true (pI 2 38 40))<|aY 42 (pG 35 true (pF 0 1 41))<|aY 43 (pG 35 true (pL false 1 42))<|aY 44 (pG 35 true (pB .gtr 47 37 43))<|aY 45 (pG 35 true (pM 44))<|aY 46 (pG 45 false (pF 1 1 4))<|aY 47 (pG 45 false (pL false 1 46))<|aY 48 (pG 45 false (fun n e M=>keep (ir .i64 (a3 e 47))))<|aY 49 (pG 45 false (pM 0))<|aY 50 (pG 45 false (pM 3))<|aY 51 (pG 45 false (pB .sub 3 50 (cnI 1)))<|aY 52 (pG 45 false (pI 2 49 51))<|aY 53 (pG 45 false (pL true 2 52))<|aY 54 (pG 45 false (pK c false 126 [53]))<|aY 55 (pG 45 false (pB .leq 2 48 54))<|aY 56 (pG 35 true (pP 45 (cn (.bool true)) 55))<|aY 57 (pP 35 56 (cn (.bool false)))<|aYZ) (aXZ)))
 (bJ (.tmp 57) (ak (ap (rg [2] <| aX 2 (pM (cn (.bool false)))<|aXZ))
 (bV .ret)) (bV .nrm))))))
 (ap (rg [0,3] <| aX 12 (pM 3)<|aX 13 (pB .add 3 12 (cnI 1))<|aX 3 (pM 13)<|aXZ))))
noncomputable def f111 (c:bh) (k:Nat):St:=
 (ak (ap (rg [0] <| aX 2 (pM (cn (.bool false)))<|aXZ))
 (ak (ak (ap (rg [0,7] <| aX 5 (pM 0)<|aX 6 (dl 46 5)<|aX 7 (pB .gtr 3 6 (cnI 60))<|aXZ))
 (bJ (.tmp 7) (ak (ap (rg [2] <| aX 2 (pM (cn (.bool false)))<|aXZ))
 (bV .ret)) (bV .nrm)))
 (ak (ak (ap (rg [0,3] <| aX 3 (pM (cnI 0))<|aXZ))
 (bU 0 (cD [0,3] (ES c k) k)))
 (ak (ap (rg [2] <| aX 2 (pM (cn (.bool true)))<|aXZ))
 (bV .ret)))))
theorem KC (c:bh) (k:Nat):cf cx c 58 E5 k (Tryz.f111.body.getD .skip)=f111 c k:=by kernel_rfl
def Fu:Ann:=⟨[(0,r0 []),(1,r0 [0])],[]⟩
noncomputable def f112 (c:bh) (k:Nat):St:=
 (ak (ap (rg [] <| aX 0 (pM (cn .nils))<|aXZ))
 (ak (ap (rg [0] <| aX 1 (fun n e M=>keep (eX 2 1 [(.int .i64 1),(.int .i64 12),(.int .i64 240),(.int .i64 4800),(.int .i64 24000),(.int .i64 240000)] M))<|aX 0 (pM 1)<|aXZ))
 (bV .ret)))
theorem JX (c:bh) (k:Nat):cf cx c 2 Fu k (Tryz.f112.body.getD .skip)=f112 c k:=by kernel_rfl
def Fo:Ann:=⟨[(0,r0 [0]),(1,r0 [2])],[]⟩
noncomputable def f113 (c:bh) (k:Nat):St:=
 (ak (ap (rg [0] <| aX 2 (pM (cn (.bool false)))<|aXZ))
 (ak (ap (rg [2] <| aX 3 (pM 0)<|aX 4 (pK c false 100 [3,(cnI 0),(cnI 100000000)])<|aX 2 (pM 4)<|aXZ))
 (bV .ret)))
theorem K3 (c:bh) (k:Nat):cf cx c 5 Fo k (Tryz.f113.body.getD .skip)=f113 c k:=by kernel_rfl
def EG:Ann:=⟨[(0,r0 [0,1]),(1,r0 [4])],[]⟩
noncomputable def f115 (c:bh) (k:Nat):St:=
 (ak (ap (rg [0,1] <| aX 4 (pM (cn (.bool false)))<|aXZ))
 (ak (ap (rg [4] <| aX 5 (pM 0)<|aX 6 (pM 1)<|aX 7 (pK c false 59 [5,6])<|aX 8 (pB .eql 2 7 (cnI 0))<|aX 4 (pM 8)<|aXZ))
 (bV .ret)))
theorem K6 (c:bh) (k:Nat):cf cx c 9 EG k (Tryz.f115.body.getD .skip)=f115 c k:=by kernel_rfl
def Fn:Ann:=⟨[(0,r0 [0,1]),(1,r0 [0,1,7]),(2,r0 [4]),(3,r0 [4])],[]⟩
noncomputable def f116 (c:bh) (k:Nat):St:=
 (ak (ap (rg [0,1] <| aX 4 (pM (cnI 0))<|aXZ))
 (ak (ak (ap (rg [0,1,7] <| aX 5 (pM 0)<|aX 6 (pM 1)<|aX 7 (pB .gtr 2 5 6)<|aXZ))
 (bJ (.tmp 7) (ak (ap (rg [4] <| aX 8 (pM 0)<|aX 4 (pM 8)<|aXZ))
 (bV .ret)) (bV .nrm)))
 (ak (ap (rg [4] <| aX 9 (pM 1)<|aX 4 (pM 9)<|aXZ))
 (bV .ret))))
theorem KH (c:bh) (k:Nat):cf cx c 10 Fn k (Tryz.f116.body.getD .skip)=f116 c k:=by kernel_rfl
end Go.Proofs.YtkdinadmheomfaaGreat

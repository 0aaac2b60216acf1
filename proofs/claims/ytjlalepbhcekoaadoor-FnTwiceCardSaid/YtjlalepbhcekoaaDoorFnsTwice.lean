/- Printed by a program of ours (ext.py). -/
import Derived.Test.YtjlalepbhcekoaaDoorAbLib
import Derived.Test.YtjlalepbhcekoaaDoorProg
set_option linter.unusedVariables false
set_option linter.unusedSimpArgs false
set_option maxRecDepth 100000
set_option maxHeartbeats 20000000
namespace Go.Proofs.YtjlalepbhcekoaaDoor
open Go Go.Ab
noncomputable def cx : Cx := ⟨Tryd.prog, fun f => has [41, 58, 59, 93, 96, 122] f, fun f => has [22, 23, 28, 29, 57, 92, 94, 95, 124] f⟩
noncomputable abbrev pB := pB_ cx.P
noncomputable abbrev pLen := pLen_ cx.P
noncomputable abbrev pAl := pAl_ cx.P
noncomputable abbrev pK := pK_ cx
/-! ### f4: loop.example/g01263/laws.FnTwice -/
def f4_an : Ann := ⟨[(0, r0 [0, 1]), (1, r0 [0, 1, 34]), (2, r0 [4]), (3, r0 [0, 1, 5]), (4, r0 [1, 5, 6]), (5, r0 [1, 5, 6, 7]), (6, r0 [5, 6, 8]), (7, ⟨[], [], [], [12], [5, 6, 8, 9], none, []⟩), (8, r0 [5, 6, 8, 9, 10]), (9, r0 [5, 6, 8, 9, 10, 58]), (10, r0 [5, 6, 8, 9, 10]), (11, r0 [5, 6, 8, 9, 10, 11, 12]), (12, r0 [5, 6, 8, 9, 10, 11, 12, 14]), (13, r0 [5, 6, 8, 9, 10, 88]), (14, r0 [4]), (15, r0 [5, 6, 8, 9, 10, 15, 16]), (16, r0 [5, 6, 8, 9, 10, 15, 96]), (17, r0 [4]), (18, r0 [5, 6, 8, 9, 10, 15, 17]), (19, r0 [5, 6, 8, 9, 10, 15, 17, 18]), (20, r0 [5, 6, 8, 9, 10, 15, 17, 18, 100]), (21, r0 [5, 6, 8, 9, 10, 15, 17, 18]), (22, r0 [5, 6, 8, 9, 10, 15, 17, 18, 123]), (23, r0 [5, 6, 8, 9, 10, 15, 17, 18]), (24, r0 [5, 6, 8, 9, 10, 15, 17, 19]), (25, r0 [5, 6, 8, 9, 10, 15, 17, 19]), (26, r0 [5, 6, 8, 9, 10, 15, 17, 19, 131]), (27, ⟨[], [], [10], [11, 12], [5, 6, 8, 10, 19, 20], none, []⟩), (28, ⟨[], [], [9], [10, 11], [5, 6, 8, 10, 19, 20], none, []⟩), (29, r0 [5, 6, 8, 10, 19, 20, 21, 22]), (30, r0 [5, 6, 8, 10, 19, 20, 21, 22, 23, 24]), (31, r0 [5, 8, 10, 19, 20, 21, 22, 23, 24, 25, 26]), (32, r0 [8, 10, 20, 21, 22, 23, 24, 25, 26, 28]), (33, r0 [4])], [(20, [5, 6, 8, 9, 10, 15, 17, 18])]⟩
noncomputable def f4_r0 (c : CallF) : RF := rg [0, 1] <| aX 4 (pM (cn (.bool false))) <|
 aXZ
noncomputable def f4_r1 (c : CallF) : RF := rg [0, 1, 34] <| aX 29 (pM 0) <|
 aX 30 (pK c false 21 [29]) <|
 aX 31 (pM 30) <|
 aX 32 (pG 31 false (pM 1)) <|
 aX 33 (pG 31 false (pK c false 21 [32])) <|
 aX 34 (pP 31 (cn (.bool true)) 33) <|
 aXZ
noncomputable def f4_r2 (c : CallF) : RF := rg [4] <| aX 4 (pM (cn (.bool true))) <|
 aXZ
noncomputable def f4_r3 (c : CallF) : RF := rg [0, 1, 5] <| aX 35 (pK c false 22 []) <|
 aX 5 (pM 35) <|
 aXZ
noncomputable def f4_r4 (c : CallF) : RF := rg [1, 5, 6] <| aX 36 (pM 0) <|
 aX 37 (pK c false 23 [36]) <|
 aX 6 (pAl 55 20) <|
 aX0 (pS 20 6 37) <|
 aXZ
noncomputable def f4_r5 (c : CallF) : RF := rg [1, 5, 6, 7] <| aX 38 (pF 19 1 6) <|
 aX 39 (pL false 1 38) <|
 aX 40 (pLen 53 39) <|
 aX 7 (pM 40) <|
 aXZ
noncomputable def f4_r6 (c : CallF) : RF := rg [5, 6, 8] <| aX 41 (pM 1) <|
 aX 42 (pM 7) <|
 aX 43 (pK c false 24 [41, 42]) <|
 aX 8 (pM 43) <|
 aXZ
noncomputable def f4_r7 (c : CallF) : RF := rgD [5, 6, 8, 9] (aY 44 (pF 0 1 6) <|
 aY 45 (pL false 1 44) <|
 aY 46 (pF 1 18 6) <|
 aY 47 (pL true 18 46) <|
 aY 48 (fun n e M => keep (aLitI 60 2 [] M)) <|
 aY 49 (pF 19 1 6) <|
 aY 50 (pL false 1 49) <|
 aY 51 (pM 8) <|
 aY 52 (fun n e M => keep (aSlice 2 none (some (eget e 51)) (eget e 50) M)) <|
 aY 53 (fun n e M => aAppI 60 2 24 (eget e 48) (eget e 52) M) <|
 aY 54 (fun n e M => keep (aBuild (zeroOf cx.P 55) [(0, 1, (eget e 45)), (1, 18, (eget e 47)), (19, 1, (eget e 53))] M)) <|
 aY 9 (pAl 55 20) <|
 aYZ)
 (aX0 (pS 20 9 54) <|
 aXZ)
noncomputable def f4_r8 (c : CallF) : RF := rg [5, 6, 8, 9, 10] <| aX 55 (pF 0 1 6) <|
 aX 56 (pL false 1 55) <|
 aX 10 (pM 56) <|
 aXZ
noncomputable def f4_r9 (c : CallF) : RF := rg [5, 6, 8, 9, 10, 58] <| aX 57 (pM 8) <|
 aX 58 (pB .gtr 2 57 (cn (.int .i64 0))) <|
 aXZ
noncomputable def f4_r10 (c : CallF) : RF := rg [5, 6, 8, 9, 10] <| aX 59 (pF 19 1 6) <|
 aX 60 (pL false 1 59) <|
 aX 61 (pM 8) <|
 aX 62 (pB .sub 2 61 (cn (.int .i64 1))) <|
 aX 63 (pI 2 60 62) <|
 aX 64 (pF 0 1 63) <|
 aX 65 (pL false 1 64) <|
 aX 10 (pM 65) <|
 aXZ
noncomputable def f4_r11 (c : CallF) : RF := rg [5, 6, 8, 9, 10, 11, 12] <| aX 67 (pL true 20 6) <|
 aX 68 (pL true 20 9) <|
 aX 69 (pK c false 25 [67, 68]) <|
 aX 66 (pM 69) <|
 aX 70 (pE 0 66) <|
 aX 71 (pE 1 66) <|
 aX 11 (pM 70) <|
 aX 12 (pM 71) <|
 aXZ
noncomputable def f4_r12 (c : CallF) : RF := rg [5, 6, 8, 9, 10, 11, 12, 14] <| aX 73 (pL true 20 6) <|
 aX 74 (pL true 20 9) <|
 aX 75 (pK c false 26 [73, 74]) <|
 aX 72 (pM 75) <|
 aX 76 (pE 0 72) <|
 aX 77 (pE 1 72) <|
 aX 13 (pM 76) <|
 aX 14 (pM 77) <|
 aXZ
noncomputable def f4_r13 (c : CallF) : RF := rg [5, 6, 8, 9, 10, 88] <| aX 78 (pM 12) <|
 aX 79 (pB .neq 2 78 (cn (.int .i64 0))) <|
 aX 80 (pM 79) <|
 aX 81 (pG 80 false (pM 11)) <|
 aX 82 (pG 80 false (pM 8)) <|
 aX 83 (pG 80 false (pB .neq 2 81 82)) <|
 aX 84 (pP 80 (cn (.bool true)) 83) <|
 aX 85 (pM 84) <|
 aX 86 (pG 85 false (pM 14)) <|
 aX 87 (pG 85 false (pB .neq 2 86 (cn (.int .i64 6)))) <|
 aX 88 (pP 85 (cn (.bool true)) 87) <|
 aXZ
noncomputable def f4_r14 (c : CallF) : RF := rg [4] <| aX 4 (pM (cn (.bool false))) <|
 aXZ
noncomputable def f4_r15 (c : CallF) : RF := rg [5, 6, 8, 9, 10, 15, 16] <| aX 90 (pM 5) <|
 aX 91 (pM 10) <|
 aX 92 (pK c false 27 [90, 91]) <|
 aX 89 (pM 92) <|
 aX 93 (pE 0 89) <|
 aX 94 (pE 1 89) <|
 aX 15 (pM 93) <|
 aX 16 (pM 94) <|
 aXZ
noncomputable def f4_r16 (c : CallF) : RF := rg [5, 6, 8, 9, 10, 15, 96] <| aX 95 (pM 16) <|
 aX 96 (pB .neq 2 95 (cn (.int .i64 0))) <|
 aXZ
noncomputable def f4_r17 (c : CallF) : RF := rg [4] <| aX 4 (pM (cn (.bool false))) <|
 aXZ
noncomputable def f4_r18 (c : CallF) : RF := rg [5, 6, 8, 9, 10, 15, 17] <| aX 17 (pM (cn (.str []))) <|
 aXZ
noncomputable def f4_r19 (c : CallF) : RF := rg [5, 6, 8, 9, 10, 15, 17, 18] <| aX 18 (pM (cn (.int .i64 0))) <|
 aXZ
noncomputable def f4_r20 (c : CallF) : RF := rg [5, 6, 8, 9, 10, 15, 17, 18, 100] <| aX 97 (pM 18) <|
 aX 98 (pM 5) <|
 aX 99 (pLen 46 98) <|
 aX 100 (pB .lss 3 97 99) <|
 aXZ
noncomputable def f4_r21 (c : CallF) : RF := rg [5, 6, 8, 9, 10, 15, 17, 18] <| aX 101 (pM 18) <|
 aX 102 (pB .add 3 101 (cn (.int .i64 1))) <|
 aX 18 (pM 102) <|
 aXZ
noncomputable def f4_r22 (c : CallF) : RF := rgD [5, 6, 8, 9, 10, 15, 17, 18, 123] (aY 103 (pM 5) <|
 aY 104 (pM 18) <|
 aY 105 (pI 2 103 104) <|
 aY 106 (pF 0 1 105) <|
 aY 107 (pL false 1 106) <|
 aY 108 (pM 10) <|
 aY 109 (pB .neq 9 107 108) <|
 aY 110 (pM 109) <|
 aY 111 (pG 110 true (pM 5)) <|
 aY 112 (pG 110 true (pM 18)) <|
 aY 113 (pG 110 true (pI 2 111 112)) <|
 aY 114 (pG 110 true (pF 0 1 113)) <|
 aY 115 (pG 110 true (pL false 1 114)) <|
 aY 116 (pG 110 true (pF 19 1 6)) <|
 aY 117 (pG 110 true (pL false 1 116)) <|
 aY 118 (pG 110 true (pM 8)) <|
 aY 119 (pG 110 true (pI 2 117 118)) <|
 aY 120 (pG 110 true (pF 0 1 119)) <|
 aY 121 (pG 110 true (pL false 1 120)) <|
 aY 122 (pG 110 true (pB .neq 9 115 121)) <|
 aY 123 (pP 110 122 (cn (.bool false))) <|
 aYZ)
 (aXZ)
noncomputable def f4_r23 (c : CallF) : RF := rg [5, 6, 8, 9, 10, 15, 17, 18] <| aX 124 (pM 5) <|
 aX 125 (pM 18) <|
 aX 126 (pI 2 124 125) <|
 aX 127 (pF 0 1 126) <|
 aX 128 (pL false 1 127) <|
 aX 17 (pM 128) <|
 aXZ
noncomputable def f4_r24 (c : CallF) : RF := rg [5, 6, 8, 9, 10, 15, 17, 19] <| aX 129 (fun n e M => keep (aBuild (zeroOf cx.P 55) [] M)) <|
 aX 19 (pAl 55 20) <|
 aX0 (pS 20 19 129) <|
 aXZ
noncomputable def f4_r25 (c : CallF) : RF := rg [5, 6, 8, 9, 10, 15, 17, 19] <| aX 20 (pM (cn (.int .i64 0))) <|
 aXZ
noncomputable def f4_r26 (c : CallF) : RF := rg [5, 6, 8, 9, 10, 15, 17, 19, 131] <| aX 130 (pM 8) <|
 aX 131 (pB .eql 2 130 (cn (.int .i64 0))) <|
 aXZ
noncomputable def f4_r27 (c : CallF) : RF := rgD [5, 6, 8, 10, 19, 20] (aY 133 (pF 1 18 6) <|
 aY 134 (pL true 18 133) <|
 aY 135 (pM 5) <|
 aY 136 (pM 15) <|
 aY 137 (pI 2 135 136) <|
 aY 138 (pL true 2 137) <|
 aY 139 (pM 17) <|
 aY 140 (pK c false 28 [134, 138, 139]) <|
 aY 132 (pM 140) <|
 aY 141 (pE 0 132) <|
 aYc 142 (pE 1 132) <|
 aYZ)
 (aX0 (pS 20 19 141) <|
 aX 20 (pM 142) <|
 aXZ)
noncomputable def f4_r28 (c : CallF) : RF := rgD [5, 6, 8, 10, 19, 20] (aY 144 (pL true 20 9) <|
 aY 145 (pM 5) <|
 aY 146 (pM 15) <|
 aY 147 (pI 2 145 146) <|
 aY 148 (pL true 2 147) <|
 aY 149 (pM 17) <|
 aY 150 (pK c false 29 [144, 148, 149]) <|
 aY 143 (pM 150) <|
 aY 151 (pE 0 143) <|
 aYc 152 (pE 1 143) <|
 aYZ)
 (aX0 (pS 20 19 151) <|
 aX 20 (pM 152) <|
 aXZ)
noncomputable def f4_r29 (c : CallF) : RF := rg [5, 6, 8, 10, 19, 20, 21, 22] <| aX 154 (pL true 20 6) <|
 aX 155 (pL true 20 19) <|
 aX 156 (pK c false 25 [154, 155]) <|
 aX 153 (pM 156) <|
 aX 157 (pE 0 153) <|
 aX 158 (pE 1 153) <|
 aX 21 (pM 157) <|
 aX 22 (pM 158) <|
 aXZ
noncomputable def f4_r30 (c : CallF) : RF := rg [5, 6, 8, 10, 19, 20, 21, 22, 23, 24] <| aX 160 (pL true 20 6) <|
 aX 161 (pL true 20 19) <|
 aX 162 (pK c false 26 [160, 161]) <|
 aX 159 (pM 162) <|
 aX 163 (pE 0 159) <|
 aX 164 (pE 1 159) <|
 aX 23 (pM 163) <|
 aX 24 (pM 164) <|
 aXZ
noncomputable def f4_r31 (c : CallF) : RF := rg [5, 8, 10, 19, 20, 21, 22, 23, 24, 25, 26] <| aX 166 (pL true 20 6) <|
 aX 167 (pL true 20 19) <|
 aX 168 (pK c false 30 [166, 167]) <|
 aX 165 (pM 168) <|
 aX 169 (pE 0 165) <|
 aX 170 (pE 1 165) <|
 aX 25 (pM 169) <|
 aX 26 (pM 170) <|
 aXZ
noncomputable def f4_r32 (c : CallF) : RF := rg [8, 10, 20, 21, 22, 23, 24, 25, 26, 28] <| aX 172 (pM 5) <|
 aX 173 (pL true 20 19) <|
 aX 174 (pK c false 31 [172, 173]) <|
 aX 171 (pM 174) <|
 aX 175 (pE 0 171) <|
 aX 176 (pE 1 171) <|
 aX 27 (pM 175) <|
 aX 28 (pM 176) <|
 aXZ
noncomputable def f4_r33 (c : CallF) : RF := rg [4] <| aX 177 (pM 20) <|
 aX 178 (pB .eql 2 177 (cn (.int .i64 0))) <|
 aX 179 (pM 178) <|
 aX 180 (pG 179 true (pM 22)) <|
 aX 181 (pG 179 true (pB .eql 2 180 (cn (.int .i64 0)))) <|
 aX 182 (pP 179 181 (cn (.bool false))) <|
 aX 183 (pM 182) <|
 aX 184 (pG 183 true (pM 21)) <|
 aX 185 (pG 183 true (pM 8)) <|
 aX 186 (pG 183 true (pB .eql 2 184 185)) <|
 aX 187 (pP 183 186 (cn (.bool false))) <|
 aX 188 (pM 187) <|
 aX 189 (pG 188 true (pM 24)) <|
 aX 190 (pG 188 true (pM 26)) <|
 aX 191 (pG 188 true (pB .eql 2 189 190)) <|
 aX 192 (pP 188 191 (cn (.bool false))) <|
 aX 193 (pM 192) <|
 aX 194 (pG 193 true (pM 24)) <|
 aX 195 (pG 193 true (pB .eql 2 194 (cn (.int .i64 0)))) <|
 aX 196 (pP 193 195 (cn (.bool false))) <|
 aX 197 (pM 196) <|
 aX 198 (pG 197 true (pM 23)) <|
 aX 199 (pG 197 true (pM 25)) <|
 aX 200 (pG 197 true (pB .eql 9 198 199)) <|
 aX 201 (pP 197 200 (cn (.bool false))) <|
 aX 202 (pM 201) <|
 aX 203 (pG 202 true (pM 25)) <|
 aX 204 (pG 202 true (pM 10)) <|
 aX 205 (pG 202 true (pB .eql 9 203 204)) <|
 aX 206 (pP 202 205 (cn (.bool false))) <|
 aX 207 (pM 206) <|
 aX 208 (pG 207 true (pM 28)) <|
 aX 209 (pG 207 true (pB .eql 2 208 (cn (.int .i64 6)))) <|
 aX 210 (pP 207 209 (cn (.bool false))) <|
 aX 4 (pM 210) <|
 aXZ
noncomputable def f4_l20 (c : CallF) (k : Nat) : St :=
 (bSeq (bSeq (bReg (f4_r20 c))
 (bCond (.tmp 100) (bEx .nrm) (bEx (.ext 0))))
 (bSeq (bBlock 1 (bSeq (bReg (f4_r22 c))
 (bCond (.tmp 123) (bReg (f4_r23 c)) (bEx .nrm))))
 (bReg (f4_r21 c))))
noncomputable def f4 (c : CallF) (k : Nat) : St :=
 (bSeq (bReg (f4_r0 c))
 (bSeq (bSeq (bReg (f4_r1 c))
 (bCond (.tmp 34) (bSeq (bReg (f4_r2 c))
 (bEx .ret)) (bEx .nrm)))
 (bSeq (bReg (f4_r3 c))
 (bSeq (bReg (f4_r4 c))
 (bSeq (bReg (f4_r5 c))
 (bSeq (bReg (f4_r6 c))
 (bSeq (bReg (f4_r7 c))
 (bSeq (bReg (f4_r8 c))
 (bSeq (bSeq (bReg (f4_r9 c))
 (bCond (.tmp 58) (bSeq (bReg (f4_r10 c))
 (bSeq (bReg (f4_r11 c))
 (bSeq (bReg (f4_r12 c))
 (bSeq (bReg (f4_r13 c))
 (bCond (.tmp 88) (bSeq (bReg (f4_r14 c))
 (bEx .ret)) (bEx .nrm)))))) (bEx .nrm)))
 (bSeq (bReg (f4_r15 c))
 (bSeq (bSeq (bReg (f4_r16 c))
 (bCond (.tmp 96) (bSeq (bReg (f4_r17 c))
 (bEx .ret)) (bEx .nrm)))
 (bSeq (bReg (f4_r18 c))
 (bSeq (bSeq (bReg (f4_r19 c))
 (bBlock 0 (bLoop [5, 6, 8, 9, 10, 15, 17, 18] (f4_l20 c k) k)))
 (bSeq (bReg (f4_r24 c))
 (bSeq (bReg (f4_r25 c))
 (bSeq (bSeq (bReg (f4_r26 c))
 (bCond (.tmp 131) (bReg (f4_r27 c)) (bReg (f4_r28 c))))
 (bSeq (bReg (f4_r29 c))
 (bSeq (bReg (f4_r30 c))
 (bSeq (bReg (f4_r31 c))
 (bSeq (bReg (f4_r32 c))
 (bSeq (bReg (f4_r33 c))
 (bEx .ret))))))))))))))))))))))
theorem f4_eq (c : CallF) (k : Nat) : exec cx c 211 f4_an k (Tryd.f4.body.getD .skip) = f4 c k := by kernel_rfl
/-! ### f21: loop.example/g01263/laws.f6big -/
def f21_an : Ann := ⟨[(0, r0 [0]), (1, r0 [2])], []⟩
noncomputable def f21_r0 (c : CallF) : RF := rg [0] <| aX 2 (pM (cn (.bool false))) <|
 aXZ
noncomputable def f21_r1 (c : CallF) : RF := rg [2] <| aX 3 (pM 0) <|
 aX 4 (pLen 22 3) <|
 aX 5 (pB .gtr 3 4 (cn (.int .i64 4096))) <|
 aX 2 (pM 5) <|
 aXZ
noncomputable def f21 (c : CallF) (k : Nat) : St :=
 (bSeq (bReg (f21_r0 c))
 (bSeq (bReg (f21_r1 c))
 (bEx .ret)))
theorem f21_eq (c : CallF) (k : Nat) : exec cx c 6 f21_an k (Tryd.f21.body.getD .skip) = f21 c k := by kernel_rfl
/-! ### f22: loop.example/g01263/spec.P6People -/
def f22_an : Ann := ⟨[(0, r0 []), (1, r0 [0])], []⟩
noncomputable def f22_r0 (c : CallF) : RF := rg [] <| aX 0 (pM (cn .nils)) <|
 aXZ
noncomputable def f22_r1 (c : CallF) : RF := rg [0] <| aX 1 (pK c false 57 []) <|
 aX 0 (pM 1) <|
 aXZ
noncomputable def f22 (c : CallF) (k : Nat) : St :=
 (bSeq (bReg (f22_r0 c))
 (bSeq (bReg (f22_r1 c))
 (bEx .ret)))
theorem f22_eq (c : CallF) (k : Nat) : exec cx c 2 f22_an k (Tryd.f22.body.getD .skip) = f22 c k := by kernel_rfl
/-! ### f23: loop.example/g01263/spec.P6Chain -/
def f23_an : Ann := ⟨[(0, r0 [0, 2]), (1, r0 [2])], []⟩
noncomputable def f23_r0 (c : CallF) : RF := rg [0, 2] <| aX 2 (pAl 55 20) <|
 aXZ
noncomputable def f23_r1 (c : CallF) : RF := rg [2] <| aX 3 (pM 0) <|
 aX 4 (pK c false 41 [3]) <|
 aX 5 (pK c false 58 [4]) <|
 aX0 (pS 20 2 5) <|
 aXZ
noncomputable def f23 (c : CallF) (k : Nat) : St :=
 (bSeq (bReg (f23_r0 c))
 (bSeq (bReg (f23_r1 c))
 (bEx .ret)))
theorem f23_eq (c : CallF) (k : Nat) : exec cx c 6 f23_an k (Tryd.f23.body.getD .skip) = f23 c k := by kernel_rfl
/-! ### f24: loop.example/g01263/spec.P6Pick -/
def f24_an : Ann := ⟨[(0, r0 [0, 1]), (1, r0 [4])], []⟩
noncomputable def f24_r0 (c : CallF) : RF := rg [0, 1] <| aX 4 (pM (cn (.int .i64 0))) <|
 aXZ
noncomputable def f24_r1 (c : CallF) : RF := rg [4] <| aX 5 (pM 0) <|
 aX 6 (pK c false 41 [5]) <|
 aX 7 (pM 1) <|
 aX 8 (pK c false 59 [6, 7]) <|
 aX 4 (pM 8) <|
 aXZ
noncomputable def f24 (c : CallF) (k : Nat) : St :=
 (bSeq (bReg (f24_r0 c))
 (bSeq (bReg (f24_r1 c))
 (bEx .ret)))
theorem f24_eq (c : CallF) (k : Nat) : exec cx c 9 f24_an k (Tryd.f24.body.getD .skip) = f24 c k := by kernel_rfl
/-! ### f25: loop.example/g01263/impl.CommonMarks -/
def f25_an : Ann := ⟨[(0, r0 [2, 3]), (1, r0 [2, 3, 6]), (2, r0 [4, 5]), (3, r0 [2, 3, 15]), (4, r0 [4, 5]), (5, r0 [4, 5])], []⟩
noncomputable def f25_r0 (c : CallF) : RF := rg [2, 3] <| aX 2 (pBox 20 0) <|
 aX 3 (pBox 20 1) <|
 aX 4 (pM (cn (.int .i64 0))) <|
 aX 5 (pM (cn (.int .i64 0))) <|
 aXZ
noncomputable def f25_r1 (c : CallF) : RF := rg [2, 3, 6] <| aX 7 (pL true 20 2) <|
 aX 8 (pK c false 60 [7]) <|
 aX 9 (pU .not 8) <|
 aX 10 (pM 9) <|
 aX 11 (pG 10 false (pL true 20 3)) <|
 aX 12 (pG 10 false (pK c false 60 [11])) <|
 aX 13 (pG 10 false (pU .not 12)) <|
 aX 14 (pP 10 (cn (.bool true)) 13) <|
 aX 6 (pM 14) <|
 aXZ
noncomputable def f25_r2 (c : CallF) : RF := rg [4, 5] <| aX 4 (pM (cn (.int .i64 0))) <|
 aX 5 (pM (cn (.int .i64 1))) <|
 aXZ
noncomputable def f25_r3 (c : CallF) : RF := rg [2, 3, 15] <| aX 16 (pF 0 1 2) <|
 aX 17 (pL false 1 16) <|
 aX 18 (pF 0 1 3) <|
 aX 19 (pL false 1 18) <|
 aX 20 (pB .neq 9 17 19) <|
 aX 21 (pM 20) <|
 aX 22 (pG 21 false (pF 1 18 2)) <|
 aX 23 (pG 21 false (pL true 18 22)) <|
 aX 24 (pG 21 false (pF 1 18 3)) <|
 aX 25 (pG 21 false (pL true 18 24)) <|
 aX 26 (pG 21 false (pK c false 61 [23, 25])) <|
 aX 27 (pG 21 false (pU .not 26)) <|
 aX 28 (pP 21 (cn (.bool true)) 27) <|
 aX 15 (pM 28) <|
 aXZ
noncomputable def f25_r4 (c : CallF) : RF := rg [4, 5] <| aX 4 (pM (cn (.int .i64 0))) <|
 aX 5 (pM (cn (.int .i64 4))) <|
 aXZ
noncomputable def f25_r5 (c : CallF) : RF := rg [4, 5] <| aX 29 (pL true 20 2) <|
 aX 30 (pL true 20 3) <|
 aX 31 (pK c false 62 [29, 30]) <|
 aX 4 (pM 31) <|
 aX 5 (pM (cn (.int .i64 0))) <|
 aXZ
noncomputable def f25 (c : CallF) (k : Nat) : St :=
 (bSeq (bReg (f25_r0 c))
 (bSeq (bBlock 0 (bSeq (bReg (f25_r1 c))
 (bCond (.tmp 6) (bSeq (bReg (f25_r2 c))
 (bEx .ret)) (bSeq (bReg (f25_r3 c))
 (bCond (.tmp 15) (bSeq (bReg (f25_r4 c))
 (bEx .ret)) (bEx .nrm))))))
 (bSeq (bReg (f25_r5 c))
 (bEx .ret))))
theorem f25_eq (c : CallF) (k : Nat) : exec cx c 32 f25_an k (Tryd.f25.body.getD .skip) = f25 c k := by kernel_rfl
/-! ### f26: loop.example/g01263/impl.WhoPassedTwice -/
def f26_an : Ann := ⟨[(0, r0 [2, 3]), (1, r0 [2, 3, 6, 7]), (2, r0 [2, 3, 6, 7, 14]), (3, r0 [4, 5]), (4, r0 [2, 6, 18]), (5, r0 [4, 5]), (6, r0 [2, 6, 31]), (7, r0 [4, 5]), (8, r0 [4, 5])], []⟩
noncomputable def f26_r0 (c : CallF) : RF := rg [2, 3] <| aX 2 (pBox 20 0) <|
 aX 3 (pBox 20 1) <|
 aX 4 (pM (cn (.str []))) <|
 aX 5 (pM (cn (.int .i64 0))) <|
 aXZ
noncomputable def f26_r1 (c : CallF) : RF := rg [2, 3, 6, 7] <| aX 9 (pL true 20 2) <|
 aX 10 (pL true 20 3) <|
 aX 11 (pK c false 25 [9, 10]) <|
 aX 8 (pM 11) <|
 aX 12 (pE 0 8) <|
 aX 13 (pE 1 8) <|
 aX 6 (pM 12) <|
 aX 7 (pM 13) <|
 aXZ
noncomputable def f26_r2 (c : CallF) : RF := rg [2, 3, 6, 7, 14] <| aX 15 (pM 7) <|
 aX 16 (pB .neq 2 15 (cn (.int .i64 0))) <|
 aX 14 (pM 16) <|
 aXZ
noncomputable def f26_r3 (c : CallF) : RF := rg [4, 5] <| aX 17 (pM 7) <|
 aX 4 (pM (cn (.str []))) <|
 aX 5 (pM 17) <|
 aXZ
noncomputable def f26_r4 (c : CallF) : RF := rg [2, 6, 18] <| aX 19 (pM 6) <|
 aX 20 (pF 19 1 2) <|
 aX 21 (pL false 1 20) <|
 aX 22 (pLen 53 21) <|
 aX 23 (pB .eql 3 19 22) <|
 aX 24 (pM 23) <|
 aX 25 (pG 24 false (pM 6)) <|
 aX 26 (pG 24 false (pF 19 1 3)) <|
 aX 27 (pG 24 false (pL false 1 26)) <|
 aX 28 (pG 24 false (pLen 53 27)) <|
 aX 29 (pG 24 false (pB .eql 3 25 28)) <|
 aX 30 (pP 24 (cn (.bool true)) 29) <|
 aX 18 (pM 30) <|
 aXZ
noncomputable def f26_r5 (c : CallF) : RF := rg [4, 5] <| aX 4 (pM (cn (.str []))) <|
 aX 5 (pM (cn (.int .i64 6))) <|
 aXZ
noncomputable def f26_r6 (c : CallF) : RF := rg [2, 6, 31] <| aX 32 (pM 6) <|
 aX 33 (pB .eql 2 32 (cn (.int .i64 0))) <|
 aX 31 (pM 33) <|
 aXZ
noncomputable def f26_r7 (c : CallF) : RF := rg [4, 5] <| aX 34 (pF 0 1 2) <|
 aX 35 (pL false 1 34) <|
 aX 4 (pM 35) <|
 aX 5 (pM (cn (.int .i64 0))) <|
 aXZ
noncomputable def f26_r8 (c : CallF) : RF := rg [4, 5] <| aX 36 (pF 19 1 2) <|
 aX 37 (pL false 1 36) <|
 aX 38 (pM 6) <|
 aX 39 (pB .sub 2 38 (cn (.int .i64 1))) <|
 aX 40 (pI 2 37 39) <|
 aX 41 (pF 0 1 40) <|
 aX 42 (pL false 1 41) <|
 aX 4 (pM 42) <|
 aX 5 (pM (cn (.int .i64 0))) <|
 aXZ
noncomputable def f26 (c : CallF) (k : Nat) : St :=
 (bSeq (bReg (f26_r0 c))
 (bSeq (bReg (f26_r1 c))
 (bSeq (bBlock 0 (bSeq (bReg (f26_r2 c))
 (bCond (.tmp 14) (bSeq (bReg (f26_r3 c))
 (bEx .ret)) (bSeq (bReg (f26_r4 c))
 (bCond (.tmp 18) (bSeq (bReg (f26_r5 c))
 (bEx .ret)) (bSeq (bReg (f26_r6 c))
 (bCond (.tmp 31) (bSeq (bReg (f26_r7 c))
 (bEx .ret)) (bEx .nrm))))))))
 (bSeq (bReg (f26_r8 c))
 (bEx .ret)))))
theorem f26_eq (c : CallF) (k : Nat) : exec cx c 43 f26_an k (Tryd.f26.body.getD .skip) = f26 c k := by kernel_rfl
/-! ### f27: loop.example/g01263/spec.FindParty -/
def f27_an : Ann := ⟨[(0, r0 [0, 1]), (1, r0 [0, 1, 9]), (2, r0 [4, 5]), (3, r0 [6]), (4, r0 [6, 14]), (5, r0 [4, 5]), (6, r0 [4, 5])], []⟩
noncomputable def f27_r0 (c : CallF) : RF := rg [0, 1] <| aX 4 (pM (cn (.int .i64 0))) <|
 aX 5 (pM (cn (.int .i64 0))) <|
 aXZ
noncomputable def f27_r1 (c : CallF) : RF := rg [0, 1, 9] <| aX 7 (pM 0) <|
 aX 8 (pK c false 63 [7]) <|
 aX 9 (pU .not 8) <|
 aXZ
noncomputable def f27_r2 (c : CallF) : RF := rg [4, 5] <| aX 4 (pM (cn (.int .i64 0))) <|
 aX 5 (pM (cn (.int .i64 1))) <|
 aXZ
noncomputable def f27_r3 (c : CallF) : RF := rg [6] <| aX 10 (pM 0) <|
 aX 11 (pM 1) <|
 aX 12 (pK c false 64 [10, 11]) <|
 aX 6 (pM 12) <|
 aXZ
noncomputable def f27_r4 (c : CallF) : RF := rg [6, 14] <| aX 13 (pM 6) <|
 aX 14 (pB .lss 2 13 (cn (.int .i64 0))) <|
 aXZ
noncomputable def f27_r5 (c : CallF) : RF := rg [4, 5] <| aX 4 (pM (cn (.int .i64 0))) <|
 aX 5 (pM (cn (.int .i64 6))) <|
 aXZ
noncomputable def f27_r6 (c : CallF) : RF := rg [4, 5] <| aX 15 (pM 6) <|
 aX 4 (pM 15) <|
 aX 5 (pM (cn (.int .i64 0))) <|
 aXZ
noncomputable def f27 (c : CallF) (k : Nat) : St :=
 (bSeq (bReg (f27_r0 c))
 (bSeq (bSeq (bReg (f27_r1 c))
 (bCond (.tmp 9) (bSeq (bReg (f27_r2 c))
 (bEx .ret)) (bEx .nrm)))
 (bSeq (bReg (f27_r3 c))
 (bSeq (bSeq (bReg (f27_r4 c))
 (bCond (.tmp 14) (bSeq (bReg (f27_r5 c))
 (bEx .ret)) (bEx .nrm)))
 (bSeq (bReg (f27_r6 c))
 (bEx .ret))))))
theorem f27_eq (c : CallF) (k : Nat) : exec cx c 16 f27_an k (Tryd.f27.body.getD .skip) = f27 c k := by kernel_rfl
/-! ### f28: loop.example/g01263/impl.StartChain -/
def f28_an : Ann := ⟨[(0, r0 [2, 3, 4, 6]), (1, r0 [2, 3, 4, 6, 8]), (2, r0 [6, 7]), (3, r0 [2, 3, 4, 6, 13]), (4, r0 [6, 7]), (5, r0 [2, 3, 4, 6, 18]), (6, r0 [6, 7]), (7, ⟨[], [], [], [13, 14], [6, 7], none, []⟩)], []⟩
noncomputable def f28_r0 (c : CallF) : RF := rg [2, 3, 4, 6] <| aX 3 (pBox 18 0) <|
 aX 4 (pBox 2 1) <|
 aX 6 (pAl 55 20) <|
 aX 7 (pM (cn (.int .i64 0))) <|
 aXZ
noncomputable def f28_r1 (c : CallF) : RF := rg [2, 3, 4, 6, 8] <| aX 9 (pL true 18 3) <|
 aX 10 (pK c false 65 [9]) <|
 aX 11 (pU .not 10) <|
 aX 8 (pM 11) <|
 aXZ
noncomputable def f28_r2 (c : CallF) : RF := rg [6, 7] <| aX 12 (fun n e M => keep (aBuild (zeroOf cx.P 55) [] M)) <|
 aX0 (pS 20 6 12) <|
 aX 7 (pM (cn (.int .i64 1))) <|
 aXZ
noncomputable def f28_r3 (c : CallF) : RF := rg [2, 3, 4, 6, 13] <| aX 14 (pF 0 1 3) <|
 aX 15 (pL false 1 14) <|
 aX 16 (pU .not 15) <|
 aX 13 (pM 16) <|
 aXZ
noncomputable def f28_r4 (c : CallF) : RF := rg [6, 7] <| aX 17 (fun n e M => keep (aBuild (zeroOf cx.P 55) [] M)) <|
 aX0 (pS 20 6 17) <|
 aX 7 (pM (cn (.int .i64 4))) <|
 aXZ
noncomputable def f28_r5 (c : CallF) : RF := rg [2, 3, 4, 6, 18] <| aX 19 (pF 0 1 4) <|
 aX 20 (pL false 1 19) <|
 aX 21 (pK c false 66 [20]) <|
 aX 22 (pU .not 21) <|
 aX 23 (pM 22) <|
 aX 24 (pG 23 false (pM 2)) <|
 aX 25 (pG 23 false (pK c false 66 [24])) <|
 aX 26 (pG 23 false (pU .not 25)) <|
 aX 27 (pP 23 (cn (.bool true)) 26) <|
 aX 28 (pM 27) <|
 aX 29 (pG 28 false (pF 0 1 4)) <|
 aX 30 (pG 28 false (pL false 1 29)) <|
 aX 31 (pG 28 false (pM 2)) <|
 aX 32 (pG 28 false (pB .eql 9 30 31)) <|
 aX 33 (pP 28 (cn (.bool true)) 32) <|
 aX 18 (pM 33) <|
 aXZ
noncomputable def f28_r6 (c : CallF) : RF := rg [6, 7] <| aX 34 (fun n e M => keep (aBuild (zeroOf cx.P 55) [] M)) <|
 aX0 (pS 20 6 34) <|
 aX 7 (pM (cn (.int .i64 2))) <|
 aXZ
noncomputable def f28_r7 (c : CallF) : RF := rgD [6, 7] (aY 35 (pF 0 1 4) <|
 aY 36 (pL false 1 35) <|
 aY 37 (pL true 18 3) <|
 aY 38 (pK c false 67 [37]) <|
 aY 39 (pM 2) <|
 aY 40 (pL true 18 3) <|
 aY 41 (pM 2) <|
 aY 42 (pF 1 1 4) <|
 aY 43 (pL false 1 42) <|
 aY 44 (pK c false 68 [40, (cn (.int .u32 0)), 41, 43]) <|
 aY 45 (fun n e M => keep (aBuild (zeroOf cx.P 60) [(0, 1, (eget e 39)), (1, 1, (eget e 44))] M)) <|
 aY 46 (fun n e M => keep (aLitI 60 2 [(eget e 45)] M)) <|
 aY 47 (fun n e M => keep (aBuild (zeroOf cx.P 55) [(0, 1, (eget e 36)), (1, 18, (eget e 38)), (19, 1, (eget e 46))] M)) <|
 aYZ)
 (aX0 (pS 20 6 47) <|
 aX 7 (pM (cn (.int .i64 0))) <|
 aXZ)
noncomputable def f28 (c : CallF) (k : Nat) : St :=
 (bSeq (bReg (f28_r0 c))
 (bSeq (bBlock 0 (bSeq (bReg (f28_r1 c))
 (bCond (.tmp 8) (bSeq (bReg (f28_r2 c))
 (bEx .ret)) (bSeq (bReg (f28_r3 c))
 (bCond (.tmp 13) (bSeq (bReg (f28_r4 c))
 (bEx .ret)) (bSeq (bReg (f28_r5 c))
 (bCond (.tmp 18) (bSeq (bReg (f28_r6 c))
 (bEx .ret)) (bEx .nrm))))))))
 (bSeq (bReg (f28_r7 c))
 (bEx .ret))))
theorem f28_eq (c : CallF) (k : Nat) : exec cx c 48 f28_an k (Tryd.f28.body.getD .skip) = f28 c k := by kernel_rfl
/-! ### f29: loop.example/g01263/impl.PassOn -/
def f29_an : Ann := ⟨[(0, r0 [2, 3, 4, 6]), (1, r0 [2, 3, 4, 6, 9]), (2, r0 [6, 7]), (3, r0 [2, 3, 4, 6, 14]), (4, r0 [6, 7]), (5, r0 [2, 3, 4, 6, 22]), (6, r0 [6, 7]), (7, r0 [2, 3, 4, 6, 33]), (8, r0 [6, 7]), (9, ⟨[], [], [], [12], [3, 6, 8], none, []⟩), (10, ⟨[10], [4, 7], [0, 1], [10, 11, 12, 13], [6, 7], none, []⟩)], []⟩
noncomputable def f29_r0 (c : CallF) : RF := rg [2, 3, 4, 6] <| aX 3 (pBox 20 0) <|
 aX 4 (pBox 2 1) <|
 aX 6 (pAl 55 20) <|
 aX 7 (pM (cn (.int .i64 0))) <|
 aXZ
noncomputable def f29_r1 (c : CallF) : RF := rg [2, 3, 4, 6, 9] <| aX 10 (pL true 20 3) <|
 aX 11 (pK c false 60 [10]) <|
 aX 12 (pU .not 11) <|
 aX 9 (pM 12) <|
 aXZ
noncomputable def f29_r2 (c : CallF) : RF := rg [6, 7] <| aX 13 (fun n e M => keep (aBuild (zeroOf cx.P 55) [] M)) <|
 aX0 (pS 20 6 13) <|
 aX 7 (pM (cn (.int .i64 1))) <|
 aXZ
noncomputable def f29_r3 (c : CallF) : RF := rgD [2, 3, 4, 6, 14] (aY 15 (pF 0 1 4) <|
 aY 16 (pL false 1 15) <|
 aY 17 (pL true 20 3) <|
 aY 18 (pK c false 69 [17]) <|
 aY 19 (fun n e M => keep (aField false 0 1 (eget e 18))) <|
 aY 20 (pB .neq 9 16 19) <|
 aY 14 (pM 20) <|
 aYZ)
 (aXZ)
noncomputable def f29_r4 (c : CallF) : RF := rg [6, 7] <| aX 21 (fun n e M => keep (aBuild (zeroOf cx.P 55) [] M)) <|
 aX0 (pS 20 6 21) <|
 aX 7 (pM (cn (.int .i64 4))) <|
 aXZ
noncomputable def f29_r5 (c : CallF) : RF := rg [2, 3, 4, 6, 22] <| aX 23 (pM 2) <|
 aX 24 (pK c false 66 [23]) <|
 aX 25 (pU .not 24) <|
 aX 26 (pM 25) <|
 aX 27 (pG 26 false (pM 2)) <|
 aX 28 (pG 26 false (pF 0 1 4)) <|
 aX 29 (pG 26 false (pL false 1 28)) <|
 aX 30 (pG 26 false (pB .eql 9 27 29)) <|
 aX 31 (pP 26 (cn (.bool true)) 30) <|
 aX 22 (pM 31) <|
 aXZ
noncomputable def f29_r6 (c : CallF) : RF := rg [6, 7] <| aX 32 (fun n e M => keep (aBuild (zeroOf cx.P 55) [] M)) <|
 aX0 (pS 20 6 32) <|
 aX 7 (pM (cn (.int .i64 2))) <|
 aXZ
noncomputable def f29_r7 (c : CallF) : RF := rg [2, 3, 4, 6, 33] <| aX 34 (pF 19 1 3) <|
 aX 35 (pL false 1 34) <|
 aX 36 (pLen 53 35) <|
 aX 37 (pB .eql 3 36 (cn (.int .i64 30))) <|
 aX 33 (pM 37) <|
 aXZ
noncomputable def f29_r8 (c : CallF) : RF := rg [6, 7] <| aX 38 (fun n e M => keep (aBuild (zeroOf cx.P 55) [] M)) <|
 aX0 (pS 20 6 38) <|
 aX 7 (pM (cn (.int .i64 3))) <|
 aXZ
noncomputable def f29_r9 (c : CallF) : RF := rgD [3, 6, 8] (aY 39 (pM 2) <|
 aY 40 (pF 1 18 3) <|
 aY 41 (pL true 18 40) <|
 aY 42 (pL true 20 3) <|
 aY 43 (pK c false 69 [42]) <|
 aY 44 (fun n e M => keep (aField false 1 1 (eget e 43))) <|
 aY 45 (pM 2) <|
 aY 46 (pF 1 1 4) <|
 aY 47 (pL false 1 46) <|
 aY 48 (pK c false 68 [41, 44, 45, 47]) <|
 aY 49 (fun n e M => keep (aBuild (zeroOf cx.P 60) [(0, 1, (eget e 39)), (1, 1, (eget e 48))] M)) <|
 aY 8 (pAl 60 2) <|
 aYZ)
 (aX0 (pS 2 8 49) <|
 aXZ)
noncomputable def f29_r10 (c : CallF) : RF := rgD [6, 7] (aYc 50 (pF 0 1 3) <|
 aYc 51 (pL false 1 50) <|
 aY 52 (pF 1 18 3) <|
 aY 53 (pL true 18 52) <|
 aY 54 (pK c true 67 [53]) <|
 aY 55 (pF 19 1 3) <|
 aY 56 (pL false 1 55) <|
 aY 57 (pK c true 70 [56]) <|
 aY 58 (pL true 2 8) <|
 aY 59 (fun n e M => keep (aLitI 60 2 [(eget e 58)] M)) <|
 aYZ)
 (aX 60 (fun n e M => aAppO n 60 2 24 (eget e 57) (eget e 59) M) <|
 aX 61 (fun n e M => keep (aBuild (zeroOf cx.P 55) [(0, 1, (eget e 51)), (1, 18, (eget e 54)), (19, 1, (eget e 60))] M)) <|
 aX0 (pS 20 6 61) <|
 aX 7 (pM (cn (.int .i64 0))) <|
 aXZ)
noncomputable def f29 (c : CallF) (k : Nat) : St :=
 (bSeq (bReg (f29_r0 c))
 (bSeq (bBlock 0 (bSeq (bReg (f29_r1 c))
 (bCond (.tmp 9) (bSeq (bReg (f29_r2 c))
 (bEx .ret)) (bSeq (bReg (f29_r3 c))
 (bCond (.tmp 14) (bSeq (bReg (f29_r4 c))
 (bEx .ret)) (bSeq (bReg (f29_r5 c))
 (bCond (.tmp 22) (bSeq (bReg (f29_r6 c))
 (bEx .ret)) (bSeq (bReg (f29_r7 c))
 (bCond (.tmp 33) (bSeq (bReg (f29_r8 c))
 (bEx .ret)) (bEx .nrm))))))))))
 (bSeq (bReg (f29_r9 c))
 (bSeq (bReg (f29_r10 c))
 (bEx .ret)))))
theorem f29_eq (c : CallF) (k : Nat) : exec cx c 62 f29_an k (Tryd.f29.body.getD .skip) = f29 c k := by kernel_rfl
/-! ### f30: loop.example/g01263/spec.WhoPassedTwice -/
def f30_an : Ann := ⟨[(0, r0 [2, 3]), (1, r0 [2, 3, 6, 7]), (2, r0 [2, 3, 6, 7, 13]), (3, r0 [4, 5]), (4, r0 [2, 6, 26]), (5, r0 [4, 5]), (6, r0 [2, 6, 28]), (7, r0 [4, 5]), (8, r0 [4, 5])], []⟩
noncomputable def f30_r0 (c : CallF) : RF := rg [2, 3] <| aX 2 (pBox 20 0) <|
 aX 3 (pBox 20 1) <|
 aX 4 (pM (cn (.str []))) <|
 aX 5 (pM (cn (.int .i64 0))) <|
 aXZ
noncomputable def f30_r1 (c : CallF) : RF := rg [2, 3, 6, 7] <| aX 9 (pK c false 71 [2, 3]) <|
 aX 8 (pM 9) <|
 aX 10 (pE 0 8) <|
 aX 11 (pE 1 8) <|
 aX 6 (pM 10) <|
 aX 7 (pM 11) <|
 aXZ
noncomputable def f30_r2 (c : CallF) : RF := rg [2, 3, 6, 7, 13] <| aX 12 (pM 7) <|
 aX 13 (pB .neq 2 12 (cn (.int .i64 0))) <|
 aXZ
noncomputable def f30_r3 (c : CallF) : RF := rg [4, 5] <| aX 14 (pM 7) <|
 aX 4 (pM (cn (.str []))) <|
 aX 5 (pM 14) <|
 aXZ
noncomputable def f30_r4 (c : CallF) : RF := rg [2, 6, 26] <| aX 15 (pM 6) <|
 aX 16 (pF 19 1 2) <|
 aX 17 (pL false 1 16) <|
 aX 18 (pLen 53 17) <|
 aX 19 (pB .eql 3 15 18) <|
 aX 20 (pM 19) <|
 aX 21 (pG 20 false (pM 6)) <|
 aX 22 (pG 20 false (pF 19 1 3)) <|
 aX 23 (pG 20 false (pL false 1 22)) <|
 aX 24 (pG 20 false (pLen 53 23)) <|
 aX 25 (pG 20 false (pB .eql 3 21 24)) <|
 aX 26 (pP 20 (cn (.bool true)) 25) <|
 aXZ
noncomputable def f30_r5 (c : CallF) : RF := rg [4, 5] <| aX 4 (pM (cn (.str []))) <|
 aX 5 (pM (cn (.int .i64 6))) <|
 aXZ
noncomputable def f30_r6 (c : CallF) : RF := rg [2, 6, 28] <| aX 27 (pM 6) <|
 aX 28 (pB .eql 3 27 (cn (.int .i64 0))) <|
 aXZ
noncomputable def f30_r7 (c : CallF) : RF := rg [4, 5] <| aX 29 (pF 0 1 2) <|
 aX 30 (pL false 1 29) <|
 aX 4 (pM 30) <|
 aX 5 (pM (cn (.int .i64 0))) <|
 aXZ
noncomputable def f30_r8 (c : CallF) : RF := rg [4, 5] <| aX 31 (pF 19 1 2) <|
 aX 32 (pL false 1 31) <|
 aX 33 (pM 6) <|
 aX 34 (pB .sub 3 33 (cn (.int .i64 1))) <|
 aX 35 (pI 2 32 34) <|
 aX 36 (pF 0 1 35) <|
 aX 37 (pL false 1 36) <|
 aX 4 (pM 37) <|
 aX 5 (pM (cn (.int .i64 0))) <|
 aXZ
noncomputable def f30 (c : CallF) (k : Nat) : St :=
 (bSeq (bReg (f30_r0 c))
 (bSeq (bReg (f30_r1 c))
 (bSeq (bSeq (bReg (f30_r2 c))
 (bCond (.tmp 13) (bSeq (bReg (f30_r3 c))
 (bEx .ret)) (bEx .nrm)))
 (bSeq (bSeq (bReg (f30_r4 c))
 (bCond (.tmp 26) (bSeq (bReg (f30_r5 c))
 (bEx .ret)) (bEx .nrm)))
 (bSeq (bSeq (bReg (f30_r6 c))
 (bCond (.tmp 28) (bSeq (bReg (f30_r7 c))
 (bEx .ret)) (bEx .nrm)))
 (bSeq (bReg (f30_r8 c))
 (bEx .ret)))))))
theorem f30_eq (c : CallF) (k : Nat) : exec cx c 38 f30_an k (Tryd.f30.body.getD .skip) = f30 c k := by kernel_rfl
/-! ### f31: loop.example/g01263/impl.CheckChain -/
def f31_an : Ann := ⟨[(0, r0 [0, 3]), (1, r0 [0, 3, 18]), (2, r0 [4, 5]), (3, r0 [0, 3, 6, 7]), (4, r0 [0, 3, 6, 7, 22, 23, 24]), (5, r0 [0, 3, 6, 7, 22, 23, 24, 25]), (6, r0 [0, 3, 6, 7, 8, 9, 22, 23, 24]), (7, r0 [0, 3, 7, 8, 9, 10, 22, 23, 24]), (8, r0 [0, 3, 7, 8, 9, 10, 22, 23, 24, 33]), (9, r0 [4, 5]), (10, r0 [0, 3, 8, 9, 22, 23, 24, 48]), (11, r0 [4, 5]), (12, r0 [0, 3, 6, 9, 22, 23, 24]), (13, r0 [0, 3, 6, 7, 22, 23, 24]), (14, r0 [0, 3, 6, 7, 22, 23, 24]), (15, r0 [4, 5])], [(5, [0, 3, 6, 7, 22, 23, 24])]⟩
noncomputable def f31_r0 (c : CallF) : RF := rg [0, 3] <| aX 3 (pBox 20 1) <|
 aX 4 (pM (cn (.int .i64 0))) <|
 aX 5 (pM (cn (.int .i64 0))) <|
 aXZ
noncomputable def f31_r1 (c : CallF) : RF := rg [0, 3, 18] <| aX 11 (pM 0) <|
 aX 12 (pK c false 72 [11]) <|
 aX 13 (pU .not 12) <|
 aX 14 (pM 13) <|
 aX 15 (pG 14 false (pL true 20 3)) <|
 aX 16 (pG 14 false (pK c false 60 [15])) <|
 aX 17 (pG 14 false (pU .not 16)) <|
 aX 18 (pP 14 (cn (.bool true)) 17) <|
 aXZ
noncomputable def f31_r2 (c : CallF) : RF := rg [4, 5] <| aX 4 (pM (cn (.int .i64 0))) <|
 aX 5 (pM (cn (.int .i64 1))) <|
 aXZ
noncomputable def f31_r3 (c : CallF) : RF := rg [0, 3, 6, 7] <| aX 19 (pF 0 1 3) <|
 aX 20 (pL false 1 19) <|
 aX 6 (pM 20) <|
 aX 7 (pM (cn (.int .u32 0))) <|
 aXZ
noncomputable def f31_r4 (c : CallF) : RF := rg [0, 3, 6, 7, 22, 23, 24] <| aX 21 (pF 19 1 3) <|
 aX 22 (pL false 1 21) <|
 aX 23 (pLen 53 22) <|
 aX 24 (pM (cn (.int .i64 0))) <|
 aXZ
noncomputable def f31_r5 (c : CallF) : RF := rg [0, 3, 6, 7, 22, 23, 24, 25] <| aX 25 (pB .lss 3 24 23) <|
 aXZ
noncomputable def f31_r6 (c : CallF) : RF := rg [0, 3, 6, 7, 8, 9, 22, 23, 24] <| aX 26 (pM 24) <|
 aX 27 (pI 2 22 24) <|
 aX 28 (pL true 2 27) <|
 aX 9 (pAl 60 2) <|
 aX 8 (pM 26) <|
 aX0 (pS 2 9 28) <|
 aXZ
noncomputable def f31_r7 (c : CallF) : RF := rg [0, 3, 7, 8, 9, 10, 22, 23, 24] <| aX 29 (pM 0) <|
 aX 30 (pM 6) <|
 aX 31 (pK c false 73 [29, 30]) <|
 aX 10 (pM 31) <|
 aXZ
noncomputable def f31_r8 (c : CallF) : RF := rg [0, 3, 7, 8, 9, 10, 22, 23, 24, 33] <| aX 32 (pM 10) <|
 aX 33 (pB .lss 3 32 (cn (.int .i64 0))) <|
 aXZ
noncomputable def f31_r9 (c : CallF) : RF := rg [4, 5] <| aX 34 (pM 8) <|
 aX 4 (pM 34) <|
 aX 5 (pM (cn (.int .i64 8))) <|
 aXZ
noncomputable def f31_r10 (c : CallF) : RF := rgD [0, 3, 8, 9, 22, 23, 24, 48] (aY 35 (pF 1 1 9) <|
 aY 36 (pL false 1 35) <|
 aY 37 (pF 1 18 3) <|
 aY 38 (pL true 18 37) <|
 aY 39 (pM 7) <|
 aY 40 (pF 0 1 9) <|
 aY 41 (pL false 1 40) <|
 aY 42 (pM 0) <|
 aY 43 (pM 10) <|
 aY 44 (pI 2 42 43) <|
 aY 45 (pF 1 1 44) <|
 aY 46 (pL false 1 45) <|
 aY 47 (pK c false 68 [38, 39, 41, 46]) <|
 aY 48 (pB .neq 58 36 47) <|
 aYZ)
 (aXZ)
noncomputable def f31_r11 (c : CallF) : RF := rg [4, 5] <| aX 49 (pM 8) <|
 aX 4 (pM 49) <|
 aX 5 (pM (cn (.int .i64 0))) <|
 aXZ
noncomputable def f31_r12 (c : CallF) : RF := rg [0, 3, 6, 9, 22, 23, 24] <| aX 50 (pF 0 1 9) <|
 aX 51 (pL false 1 50) <|
 aX 6 (pM 51) <|
 aXZ
noncomputable def f31_r13 (c : CallF) : RF := rg [0, 3, 6, 7, 22, 23, 24] <| aX 52 (pF 1 1 9) <|
 aX 53 (pL false 1 52) <|
 aX 7 (pM 53) <|
 aXZ
noncomputable def f31_r14 (c : CallF) : RF := rg [0, 3, 6, 7, 22, 23, 24] <| aX 54 (pB .add 3 24 (cn (.int .i64 1))) <|
 aX 24 (pM 54) <|
 aXZ
noncomputable def f31_r15 (c : CallF) : RF := rg [4, 5] <| aX 4 (pM (cn (.int .i64 0))) <|
 aX 5 (pM (cn (.int .i64 6))) <|
 aXZ
noncomputable def f31_l5 (c : CallF) (k : Nat) : St :=
 (bSeq (bReg (f31_r5 c))
 (bSeq (bCond (.tmp 25) (bEx .nrm) (bEx (.ext 0)))
 (bSeq (bBlock 1 (bSeq (bReg (f31_r6 c))
 (bSeq (bReg (f31_r7 c))
 (bSeq (bSeq (bReg (f31_r8 c))
 (bCond (.tmp 33) (bSeq (bReg (f31_r9 c))
 (bEx .ret)) (bEx .nrm)))
 (bSeq (bSeq (bReg (f31_r10 c))
 (bCond (.tmp 48) (bSeq (bReg (f31_r11 c))
 (bEx .ret)) (bEx .nrm)))
 (bSeq (bReg (f31_r12 c))
 (bReg (f31_r13 c))))))))
 (bReg (f31_r14 c)))))
noncomputable def f31 (c : CallF) (k : Nat) : St :=
 (bSeq (bReg (f31_r0 c))
 (bSeq (bSeq (bReg (f31_r1 c))
 (bCond (.tmp 18) (bSeq (bReg (f31_r2 c))
 (bEx .ret)) (bEx .nrm)))
 (bSeq (bReg (f31_r3 c))
 (bSeq (bSeq (bReg (f31_r4 c))
 (bBlock 0 (bLoop [0, 3, 6, 7, 22, 23, 24] (f31_l5 c k) k)))
 (bSeq (bReg (f31_r15 c))
 (bEx .ret))))))
theorem f31_eq (c : CallF) (k : Nat) : exec cx c 55 f31_an k (Tryd.f31.body.getD .skip) = f31 c k := by kernel_rfl
/-! ### f41: loop.example/g01263/spec.l00From -/
def f41_an : Ann := ⟨[(0, r0 [0]), (1, ⟨[2], [], [], [], [2], none, []⟩)], []⟩
noncomputable def f41_r0 (c : CallF) : RF := rg [0] <| aX 2 (pM (cn .nilp)) <|
 aXZ
noncomputable def f41_r1 (c : CallF) : RF := rg [2] <| aX 3 (pM 0) <|
 aX 4 (fun n e M => keep (aBuild (zeroOf cx.P 125) [(0, 1, (eget e 3))] M)) <|
 aX 5 (fun n e M => aBoxO n 125 3 (eget e 4) M) <|
 aX 2 (pM 5) <|
 aXZ
noncomputable def f41 (c : CallF) (k : Nat) : St :=
 (bSeq (bReg (f41_r0 c))
 (bSeq (bReg (f41_r1 c))
 (bEx .ret)))
theorem f41_eq (c : CallF) (k : Nat) : exec cx c 6 f41_an k (Tryd.f41.body.getD .skip) = f41 c k := by kernel_rfl
/-! ### f42: loop.example/g01263/impl.isLetters -/
def f42_an : Ann := ⟨[(0, r0 [0, 1]), (1, r0 [0, 1, 7, 8]), (2, r0 [0, 1, 7, 8, 9]), (3, r0 [0, 1, 5, 7, 8]), (4, r0 [0, 1, 7, 8, 20]), (5, r0 [4]), (6, r0 [0, 1, 7, 8]), (7, r0 [4])], [(2, [0, 1, 7, 8])]⟩
noncomputable def f42_r0 (c : CallF) : RF := rg [0, 1] <| aX 4 (pM (cn (.bool false))) <|
 aXZ
noncomputable def f42_r1 (c : CallF) : RF := rg [0, 1, 7, 8] <| aX 6 (pM 0) <|
 aX 7 (pLen 9 6) <|
 aX 8 (pM (cn (.int .i64 0))) <|
 aXZ
noncomputable def f42_r2 (c : CallF) : RF := rg [0, 1, 7, 8, 9] <| aX 9 (pB .lss 3 8 7) <|
 aXZ
noncomputable def f42_r3 (c : CallF) : RF := rg [0, 1, 5, 7, 8] <| aX 10 (pM 8) <|
 aX 5 (pM 10) <|
 aXZ
noncomputable def f42_r4 (c : CallF) : RF := rg [0, 1, 7, 8, 20] <| aX 11 (pM 0) <|
 aX 12 (pM 5) <|
 aX 13 (fun n e M => keep (aIndexB (eget e 11) (eget e 12))) <|
 aX 14 (pB .lss 5 13 (cn (.int .u8 97))) <|
 aX 15 (pM 14) <|
 aX 16 (pG 15 false (pM 0)) <|
 aX 17 (pG 15 false (pM 5)) <|
 aX 18 (pG 15 false (fun n e M => keep (aIndexB (eget e 16) (eget e 17)))) <|
 aX 19 (pG 15 false (pB .gtr 5 18 (cn (.int .u8 122)))) <|
 aX 20 (pP 15 (cn (.bool true)) 19) <|
 aXZ
noncomputable def f42_r5 (c : CallF) : RF := rg [4] <| aX 4 (pM (cn (.bool false))) <|
 aXZ
noncomputable def f42_r6 (c : CallF) : RF := rg [0, 1, 7, 8] <| aX 21 (pB .add 3 8 (cn (.int .i64 1))) <|
 aX 8 (pM 21) <|
 aXZ
noncomputable def f42_r7 (c : CallF) : RF := rg [4] <| aX 22 (pM 0) <|
 aX 23 (pLen 9 22) <|
 aX 24 (pB .geq 3 23 (cn (.int .i64 1))) <|
 aX 25 (pM 24) <|
 aX 26 (pG 25 true (pM 0)) <|
 aX 27 (pG 25 true (pLen 9 26)) <|
 aX 28 (pG 25 true (pM 1)) <|
 aX 29 (pG 25 true (pB .leq 3 27 28)) <|
 aX 30 (pP 25 29 (cn (.bool false))) <|
 aX 4 (pM 30) <|
 aXZ
noncomputable def f42_l2 (c : CallF) (k : Nat) : St :=
 (bSeq (bReg (f42_r2 c))
 (bSeq (bCond (.tmp 9) (bEx .nrm) (bEx (.ext 0)))
 (bSeq (bBlock 1 (bSeq (bReg (f42_r3 c))
 (bSeq (bReg (f42_r4 c))
 (bCond (.tmp 20) (bSeq (bReg (f42_r5 c))
 (bEx .ret)) (bEx .nrm)))))
 (bReg (f42_r6 c)))))
noncomputable def f42 (c : CallF) (k : Nat) : St :=
 (bSeq (bReg (f42_r0 c))
 (bSeq (bSeq (bReg (f42_r1 c))
 (bBlock 0 (bLoop [0, 1, 7, 8] (f42_l2 c k) k)))
 (bSeq (bReg (f42_r7 c))
 (bEx .ret))))
theorem f42_eq (c : CallF) (k : Nat) : exec cx c 31 f42_an k (Tryd.f42.body.getD .skip) = f42 c k := by kernel_rfl
/-! ### f57: loop.example/g01263/spec.l06People -/
def f57_an : Ann := ⟨[(0, r0 []), (1, r0 [1]), (2, ⟨[0], [], [], [], [1, 2], none, []⟩), (3, r0 [1, 2, 3]), (4, r0 [1, 2, 3, 9]), (5, r0 [1, 2, 3]), (6, ⟨[11], [], [], [], [1, 2, 3], none, []⟩), (7, r0 [0])], [(4, [1, 2, 3])]⟩
noncomputable def f57_r0 (c : CallF) : RF := rg [] <| aX 0 (pM (cn .nils)) <|
 aXZ
noncomputable def f57_r1 (c : CallF) : RF := rg [1] <| aX 4 (pK c false 92 []) <|
 aX 1 (pM 4) <|
 aXZ
noncomputable def f57_r2 (c : CallF) : RF := rg [1, 2] <| aX 5 (fun n e M => aLitO false n 66 2 [] M) <|
 aX 2 (pM 5) <|
 aXZ
noncomputable def f57_r3 (c : CallF) : RF := rg [1, 2, 3] <| aX 3 (pM (cn (.int .i64 0))) <|
 aXZ
noncomputable def f57_r4 (c : CallF) : RF := rg [1, 2, 3, 9] <| aX 6 (pM 3) <|
 aX 7 (pM 1) <|
 aX 8 (pLen 71 7) <|
 aX 9 (pB .lss 3 6 8) <|
 aXZ
noncomputable def f57_r5 (c : CallF) : RF := rg [1, 2, 3] <| aX 10 (pM 3) <|
 aX 11 (pB .add 3 10 (cn (.int .i64 1))) <|
 aX 3 (pM 11) <|
 aXZ
noncomputable def f57_r6 (c : CallF) : RF := rg [1, 2, 3] <| aX 12 (pM 2) <|
 aX 13 (pM 1) <|
 aX 14 (pM 3) <|
 aX 15 (pI 1 13 14) <|
 aX 16 (pL false 1 15) <|
 aX 17 (pM 3) <|
 aX 18 (pB .mul 3 (cn (.int .i64 1000003)) 17) <|
 aX 19 (pB .add 3 18 (cn (.int .i64 77))) <|
 aX 20 (fun n e M => keep (aConvI .u32 (eget e 19))) <|
 aX 21 (fun n e M => keep (aBuild (zeroOf cx.P 66) [(0, 1, (eget e 16)), (1, 1, (eget e 20))] M)) <|
 aX 22 (fun n e M => keep (aLitI 66 2 [(eget e 21)] M)) <|
 aX 23 (fun n e M => aAppO n 66 2 24 (eget e 12) (eget e 22) M) <|
 aX 2 (pM 23) <|
 aXZ
noncomputable def f57_r7 (c : CallF) : RF := rg [0] <| aX 24 (pM 2) <|
 aX 0 (pM 24) <|
 aXZ
noncomputable def f57_l4 (c : CallF) (k : Nat) : St :=
 (bSeq (bSeq (bReg (f57_r4 c))
 (bCond (.tmp 9) (bEx .nrm) (bEx (.ext 0))))
 (bSeq (bBlock 1 (bReg (f57_r6 c)))
 (bReg (f57_r5 c))))
noncomputable def f57 (c : CallF) (k : Nat) : St :=
 (bSeq (bReg (f57_r0 c))
 (bSeq (bReg (f57_r1 c))
 (bSeq (bReg (f57_r2 c))
 (bSeq (bSeq (bReg (f57_r3 c))
 (bBlock 0 (bLoop [1, 2, 3] (f57_l4 c k) k)))
 (bSeq (bReg (f57_r7 c))
 (bEx .ret))))))
theorem f57_eq (c : CallF) (k : Nat) : exec cx c 25 f57_an k (Tryd.f57.body.getD .skip) = f57 c k := by kernel_rfl
/-! ### f58: loop.example/g01263/spec.l06Drawn -/
def f58_an : Ann := ⟨[(0, r0 [0, 2]), (1, r0 [0, 2, 3]), (2, r0 [0, 2, 3, 4]), (3, ⟨[], [1], [], [], [0, 2, 3, 4, 5], none, []⟩), (4, r0 [0, 2, 3, 4, 5]), (5, r0 [0, 2, 3, 4, 5, 6]), (6, r0 [0, 2, 3, 4, 5, 6, 7]), (7, ⟨[], [], [13], [15, 16], [0, 2, 3, 4, 7, 8], none, []⟩), (8, r0 [0, 2, 3, 4, 7, 8, 10]), (9, r0 [0, 2, 3, 4, 7, 8, 10, 47]), (10, r0 [0, 2, 3, 4, 7, 8, 10]), (11, r0 [0, 2, 3, 4, 7, 8, 10, 11]), (12, ⟨[], [], [13], [14], [0, 2, 3, 4, 8, 10, 11], none, []⟩), (13, r0 [0, 2, 3, 4, 7, 8, 10]), (14, r0 [2])], [(9, [0, 2, 3, 4, 7, 8, 10])]⟩
noncomputable def f58_r0 (c : CallF) : RF := rg [0, 2] <| aX 2 (pAl 55 20) <|
 aXZ
noncomputable def f58_r1 (c : CallF) : RF := rg [0, 2, 3] <| aX 12 (pK c false 57 []) <|
 aX 3 (pM 12) <|
 aXZ
noncomputable def f58_r2 (c : CallF) : RF := rg [0, 2, 3, 4] <| aX 13 (pM 3) <|
 aX 14 (pLen 46 13) <|
 aX 4 (pM 14) <|
 aXZ
noncomputable def f58_r3 (c : CallF) : RF := rg [0, 2, 3, 4, 5] <| aX 15 (pM 0) <|
 aX 16 (pK c true 93 [15]) <|
 aX 5 (pAl 52 18) <|
 aX0 (pS 18 5 16) <|
 aXZ
noncomputable def f58_r4 (c : CallF) : RF := rg [0, 2, 3, 4, 5] <| aX 17 (pF 0 1 5) <|
 aX0 (pS 1 17 (cn (.bool true))) <|
 aXZ
noncomputable def f58_r5 (c : CallF) : RF := rg [0, 2, 3, 4, 5, 6] <| aX 18 (pM 0) <|
 aX 19 (pM 4) <|
 aX 20 (pK c false 59 [18, 19]) <|
 aX 6 (pM 20) <|
 aXZ
noncomputable def f58_r6 (c : CallF) : RF := rg [0, 2, 3, 4, 5, 6, 7] <| aX 21 (pM 6) <|
 aX 22 (pB .add 2 21 (cn (.int .i64 1))) <|
 aX 23 (pM 0) <|
 aX 24 (pM 4) <|
 aX 25 (pB .sub 2 24 (cn (.int .i64 1))) <|
 aX 26 (pK c false 59 [23, 25]) <|
 aX 27 (pB .add 2 22 26) <|
 aX 28 (pM 4) <|
 aX 29 (pB .rem 2 27 28) <|
 aX 7 (pM 29) <|
 aXZ
noncomputable def f58_r7 (c : CallF) : RF := rgD [0, 2, 3, 4, 7, 8] (aY 31 (pL true 18 5) <|
 aY 32 (pM 3) <|
 aY 33 (pM 6) <|
 aY 34 (pI 2 32 33) <|
 aY 35 (pL true 2 34) <|
 aY 36 (pM 3) <|
 aY 37 (pM 7) <|
 aY 38 (pI 2 36 37) <|
 aY 39 (pF 0 1 38) <|
 aY 40 (pL false 1 39) <|
 aY 41 (pK c false 94 [31, 35, 40]) <|
 aY 30 (pM 41) <|
 aY 42 (pE 0 30) <|
 aYc 43 (pE 1 30) <|
 aY 8 (pAl 55 20) <|
 aYZ)
 (aX0 (pS 20 8 42) <|
 aX 9 (pM 43) <|
 aXZ)
noncomputable def f58_r8 (c : CallF) : RF := rg [0, 2, 3, 4, 7, 8, 10] <| aX 44 (pM 0) <|
 aX 45 (pK c false 59 [44, (cn (.int .i64 5))]) <|
 aX 10 (pM 45) <|
 aXZ
noncomputable def f58_r9 (c : CallF) : RF := rg [0, 2, 3, 4, 7, 8, 10, 47] <| aX 46 (pM 10) <|
 aX 47 (pB .gtr 2 46 (cn (.int .i64 0))) <|
 aXZ
noncomputable def f58_r10 (c : CallF) : RF := rg [0, 2, 3, 4, 7, 8, 10] <| aX 48 (pM 10) <|
 aX 49 (pB .sub 2 48 (cn (.int .i64 1))) <|
 aX 10 (pM 49) <|
 aXZ
noncomputable def f58_r11 (c : CallF) : RF := rg [0, 2, 3, 4, 7, 8, 10, 11] <| aX 50 (pM 7) <|
 aX 51 (pB .add 2 50 (cn (.int .i64 1))) <|
 aX 52 (pM 0) <|
 aX 53 (pM 4) <|
 aX 54 (pB .sub 2 53 (cn (.int .i64 1))) <|
 aX 55 (pK c false 59 [52, 54]) <|
 aX 56 (pB .add 2 51 55) <|
 aX 57 (pM 4) <|
 aX 58 (pB .rem 2 56 57) <|
 aX 11 (pM 58) <|
 aXZ
noncomputable def f58_r12 (c : CallF) : RF := rgD [0, 2, 3, 4, 8, 10, 11] (aY 60 (pL true 20 8) <|
 aY 61 (pM 3) <|
 aY 62 (pM 7) <|
 aY 63 (pI 2 61 62) <|
 aY 64 (pL true 2 63) <|
 aY 65 (pM 3) <|
 aY 66 (pM 11) <|
 aY 67 (pI 2 65 66) <|
 aY 68 (pF 0 1 67) <|
 aY 69 (pL false 1 68) <|
 aY 70 (pK c false 95 [60, 64, 69]) <|
 aY 59 (pM 70) <|
 aY 71 (pE 0 59) <|
 aYc 72 (pE 1 59) <|
 aYZ)
 (aX0 (pS 20 8 71) <|
 aXZ)
noncomputable def f58_r13 (c : CallF) : RF := rg [0, 2, 3, 4, 7, 8, 10] <| aX 73 (pM 11) <|
 aX 7 (pM 73) <|
 aXZ
noncomputable def f58_r14 (c : CallF) : RF := rg [2] <| aX 74 (pL true 20 8) <|
 aX0 (pS 20 2 74) <|
 aXZ
noncomputable def f58_l9 (c : CallF) (k : Nat) : St :=
 (bSeq (bSeq (bReg (f58_r9 c))
 (bCond (.tmp 47) (bEx .nrm) (bEx (.ext 0))))
 (bSeq (bBlock 1 (bSeq (bReg (f58_r11 c))
 (bSeq (bReg (f58_r12 c))
 (bReg (f58_r13 c)))))
 (bReg (f58_r10 c))))
noncomputable def f58 (c : CallF) (k : Nat) : St :=
 (bSeq (bReg (f58_r0 c))
 (bSeq (bReg (f58_r1 c))
 (bSeq (bReg (f58_r2 c))
 (bSeq (bReg (f58_r3 c))
 (bSeq (bReg (f58_r4 c))
 (bSeq (bReg (f58_r5 c))
 (bSeq (bReg (f58_r6 c))
 (bSeq (bReg (f58_r7 c))
 (bSeq (bSeq (bReg (f58_r8 c))
 (bBlock 0 (bLoop [0, 2, 3, 4, 7, 8, 10] (f58_l9 c k) k)))
 (bSeq (bReg (f58_r14 c))
 (bEx .ret)))))))))))
theorem f58_eq (c : CallF) (k : Nat) : exec cx c 75 f58_an k (Tryd.f58.body.getD .skip) = f58 c k := by kernel_rfl
/-! ### f59: (*loop.example/g01263/spec.l00Src).pick -/
def f59_an : Ann := ⟨[(0, r0 [0, 1]), (1, r0 [0, 1, 7]), (2, r0 [4]), (3, r0 [0, 1, 5]), (4, r0 [0, 1, 5, 11]), (5, r0 [1, 5]), (6, r0 [4])], []⟩
noncomputable def f59_r0 (c : CallF) : RF := rg [0, 1] <| aX 4 (pM (cn (.int .i64 0))) <|
 aXZ
noncomputable def f59_r1 (c : CallF) : RF := rg [0, 1, 7] <| aX 6 (pM 1) <|
 aX 7 (pB .leq 2 6 (cn (.int .i64 1))) <|
 aXZ
noncomputable def f59_r2 (c : CallF) : RF := rg [4] <| aX 4 (pM (cn (.int .i64 0))) <|
 aXZ
noncomputable def f59_r3 (c : CallF) : RF := rg [0, 1, 5] <| aX 8 (pM 0) <|
 aX 9 (pK c false 96 [8]) <|
 aX 5 (pM 9) <|
 aXZ
noncomputable def f59_r4 (c : CallF) : RF := rg [0, 1, 5, 11] <| aX 10 (pM 1) <|
 aX 11 (pB .gtr 2 10 (cn (.int .i64 200))) <|
 aXZ
noncomputable def f59_r5 (c : CallF) : RF := rg [1, 5] <| aX 12 (pM 5) <|
 aX 13 (pB .mul 2 12 (cn (.int .i64 256))) <|
 aX 14 (pM 0) <|
 aX 15 (pK c false 96 [14]) <|
 aX 16 (pB .add 2 13 15) <|
 aX 5 (pM 16) <|
 aXZ
noncomputable def f59_r6 (c : CallF) : RF := rg [4] <| aX 17 (pM 5) <|
 aX 18 (pM 1) <|
 aX 19 (pB .rem 2 17 18) <|
 aX 4 (pM 19) <|
 aXZ
noncomputable def f59 (c : CallF) (k : Nat) : St :=
 (bSeq (bReg (f59_r0 c))
 (bSeq (bSeq (bReg (f59_r1 c))
 (bCond (.tmp 7) (bSeq (bReg (f59_r2 c))
 (bEx .ret)) (bEx .nrm)))
 (bSeq (bReg (f59_r3 c))
 (bSeq (bSeq (bReg (f59_r4 c))
 (bCond (.tmp 11) (bReg (f59_r5 c)) (bEx .nrm)))
 (bSeq (bReg (f59_r6 c))
 (bEx .ret))))))
theorem f59_eq (c : CallF) (k : Nat) : exec cx c 20 f59_an k (Tryd.f59.body.getD .skip) = f59 c k := by kernel_rfl
/-! ### f60: loop.example/g01263/impl.ValidChain -/
def f60_an : Ann := ⟨[(0, r0 [1]), (1, r0 [1, 33]), (2, r0 [2]), (3, r0 [1, 3]), (4, r0 [3, 37, 38, 39]), (5, r0 [3, 37, 38, 39, 40]), (6, r0 [3, 5, 37, 38, 39]), (7, r0 [5, 37, 38, 39, 52]), (8, r0 [2]), (9, r0 [3, 37, 38, 39]), (10, r0 [3, 37, 38, 39]), (11, r0 [2])], [(5, [3, 37, 38, 39])]⟩
noncomputable def f60_r0 (c : CallF) : RF := rg [1] <| aX 1 (pBox 20 0) <|
 aX 2 (pM (cn (.bool false))) <|
 aXZ
noncomputable def f60_r1 (c : CallF) : RF := rg [1, 33] <| aX 6 (pF 0 1 1) <|
 aX 7 (pL false 1 6) <|
 aX 8 (pK c false 66 [7]) <|
 aX 9 (pU .not 8) <|
 aX 10 (pM 9) <|
 aX 11 (pG 10 false (pF 1 18 1)) <|
 aX 12 (pG 10 false (pL true 18 11)) <|
 aX 13 (pG 10 false (pK c false 65 [12])) <|
 aX 14 (pG 10 false (pU .not 13)) <|
 aX 15 (pP 10 (cn (.bool true)) 14) <|
 aX 16 (pM 15) <|
 aX 17 (pG 16 false (pF 1 18 1)) <|
 aX 18 (pG 16 false (pF 0 1 17)) <|
 aX 19 (pG 16 false (pL false 1 18)) <|
 aX 20 (pG 16 false (pU .not 19)) <|
 aX 21 (pP 16 (cn (.bool true)) 20) <|
 aX 22 (pM 21) <|
 aX 23 (pG 22 false (pF 19 1 1)) <|
 aX 24 (pG 22 false (pL false 1 23)) <|
 aX 25 (pG 22 false (pLen 53 24)) <|
 aX 26 (pG 22 false (pB .lss 3 25 (cn (.int .i64 1)))) <|
 aX 27 (pP 22 (cn (.bool true)) 26) <|
 aX 28 (pM 27) <|
 aX 29 (pG 28 false (pF 19 1 1)) <|
 aX 30 (pG 28 false (pL false 1 29)) <|
 aX 31 (pG 28 false (pLen 53 30)) <|
 aX 32 (pG 28 false (pB .gtr 3 31 (cn (.int .i64 30)))) <|
 aX 33 (pP 28 (cn (.bool true)) 32) <|
 aXZ
noncomputable def f60_r2 (c : CallF) : RF := rg [2] <| aX 2 (pM (cn (.bool false))) <|
 aXZ
noncomputable def f60_r3 (c : CallF) : RF := rg [1, 3] <| aX 34 (pF 0 1 1) <|
 aX 35 (pL false 1 34) <|
 aX 3 (pM 35) <|
 aXZ
noncomputable def f60_r4 (c : CallF) : RF := rg [3, 37, 38, 39] <| aX 36 (pF 19 1 1) <|
 aX 37 (pL false 1 36) <|
 aX 38 (pLen 53 37) <|
 aX 39 (pM (cn (.int .i64 0))) <|
 aXZ
noncomputable def f60_r5 (c : CallF) : RF := rg [3, 37, 38, 39, 40] <| aX 40 (pB .lss 3 39 38) <|
 aXZ
noncomputable def f60_r6 (c : CallF) : RF := rg [3, 5, 37, 38, 39] <| aX 41 (pI 2 37 39) <|
 aX 42 (pL true 2 41) <|
 aX 5 (pAl 60 2) <|
 aX0 (pS 2 5 42) <|
 aXZ
noncomputable def f60_r7 (c : CallF) : RF := rg [5, 37, 38, 39, 52] <| aX 43 (pF 0 1 5) <|
 aX 44 (pL false 1 43) <|
 aX 45 (pK c false 66 [44]) <|
 aX 46 (pU .not 45) <|
 aX 47 (pM 46) <|
 aX 48 (pG 47 false (pF 0 1 5)) <|
 aX 49 (pG 47 false (pL false 1 48)) <|
 aX 50 (pG 47 false (pM 3)) <|
 aX 51 (pG 47 false (pB .eql 9 49 50)) <|
 aX 52 (pP 47 (cn (.bool true)) 51) <|
 aXZ
noncomputable def f60_r8 (c : CallF) : RF := rg [2] <| aX 2 (pM (cn (.bool false))) <|
 aXZ
noncomputable def f60_r9 (c : CallF) : RF := rg [3, 37, 38, 39] <| aX 53 (pF 0 1 5) <|
 aX 54 (pL false 1 53) <|
 aX 3 (pM 54) <|
 aXZ
noncomputable def f60_r10 (c : CallF) : RF := rg [3, 37, 38, 39] <| aX 55 (pB .add 3 39 (cn (.int .i64 1))) <|
 aX 39 (pM 55) <|
 aXZ
noncomputable def f60_r11 (c : CallF) : RF := rg [2] <| aX 2 (pM (cn (.bool true))) <|
 aXZ
noncomputable def f60_l5 (c : CallF) (k : Nat) : St :=
 (bSeq (bReg (f60_r5 c))
 (bSeq (bCond (.tmp 40) (bEx .nrm) (bEx (.ext 0)))
 (bSeq (bBlock 1 (bSeq (bReg (f60_r6 c))
 (bSeq (bSeq (bReg (f60_r7 c))
 (bCond (.tmp 52) (bSeq (bReg (f60_r8 c))
 (bEx .ret)) (bEx .nrm)))
 (bReg (f60_r9 c)))))
 (bReg (f60_r10 c)))))
noncomputable def f60 (c : CallF) (k : Nat) : St :=
 (bSeq (bReg (f60_r0 c))
 (bSeq (bSeq (bReg (f60_r1 c))
 (bCond (.tmp 33) (bSeq (bReg (f60_r2 c))
 (bEx .ret)) (bEx .nrm)))
 (bSeq (bReg (f60_r3 c))
 (bSeq (bSeq (bReg (f60_r4 c))
 (bBlock 0 (bLoop [3, 37, 38, 39] (f60_l5 c k) k)))
 (bSeq (bReg (f60_r11 c))
 (bEx .ret))))))
theorem f60_eq (c : CallF) (k : Nat) : exec cx c 56 f60_an k (Tryd.f60.body.getD .skip) = f60 c k := by kernel_rfl
/-! ### f61: loop.example/g01263/impl.SameHalf -/
def f61_an : Ann := ⟨[(0, r0 [2, 3]), (1, r0 [4])], []⟩
noncomputable def f61_r0 (c : CallF) : RF := rg [2, 3] <| aX 2 (pBox 18 0) <|
 aX 3 (pBox 18 1) <|
 aX 4 (pM (cn (.bool false))) <|
 aXZ
noncomputable def f61_r1 (c : CallF) : RF := rg [4] <| aX 5 (pF 0 1 2) <|
 aX 6 (pL false 1 5) <|
 aX 7 (pF 0 1 3) <|
 aX 8 (pL false 1 7) <|
 aX 9 (pB .eql 4 6 8) <|
 aX 10 (pM 9) <|
 aX 11 (pG 10 true (pF 2 16 2)) <|
 aX 12 (pG 10 true (pL true 16 11)) <|
 aX 13 (pG 10 true (pF 2 16 3)) <|
 aX 14 (pG 10 true (pL true 16 13)) <|
 aX 15 (pG 10 true (pB .eql 50 12 14)) <|
 aX 16 (pP 10 15 (cn (.bool false))) <|
 aX 17 (pM 16) <|
 aX 18 (pG 17 true (pF 1 1 2)) <|
 aX 19 (pG 17 true (pL false 1 18)) <|
 aX 20 (pG 17 true (pF 1 1 3)) <|
 aX 21 (pG 17 true (pL false 1 20)) <|
 aX 22 (pG 17 true (pK c false 97 [19, 21])) <|
 aX 23 (pP 17 22 (cn (.bool false))) <|
 aX 4 (pM 23) <|
 aXZ
noncomputable def f61 (c : CallF) (k : Nat) : St :=
 (bSeq (bReg (f61_r0 c))
 (bSeq (bReg (f61_r1 c))
 (bEx .ret)))
theorem f61_eq (c : CallF) (k : Nat) : exec cx c 24 f61_an k (Tryd.f61.body.getD .skip) = f61 c k := by kernel_rfl
/-! ### f62: loop.example/g01263/impl.common -/
def f62_an : Ann := ⟨[(0, r0 [2, 3]), (1, r0 [2, 3, 5]), (2, r0 [2, 3, 5, 30]), (3, r0 [2, 3, 5]), (4, r0 [4])], [(2, [2, 3, 5])]⟩
noncomputable def f62_r0 (c : CallF) : RF := rg [2, 3] <| aX 2 (pBox 20 0) <|
 aX 3 (pBox 20 1) <|
 aX 4 (pM (cn (.int .i64 0))) <|
 aXZ
noncomputable def f62_r1 (c : CallF) : RF := rg [2, 3, 5] <| aX 5 (pM (cn (.int .i64 0))) <|
 aXZ
noncomputable def f62_r2 (c : CallF) : RF := rgD [2, 3, 5, 30] (aY 6 (pM 5) <|
 aY 7 (pF 19 1 2) <|
 aY 8 (pL false 1 7) <|
 aY 9 (pLen 53 8) <|
 aY 10 (pB .lss 3 6 9) <|
 aY 11 (pM 10) <|
 aY 12 (pG 11 true (pM 5)) <|
 aY 13 (pG 11 true (pF 19 1 3)) <|
 aY 14 (pG 11 true (pL false 1 13)) <|
 aY 15 (pG 11 true (pLen 53 14)) <|
 aY 16 (pG 11 true (pB .lss 3 12 15)) <|
 aY 17 (pP 11 16 (cn (.bool false))) <|
 aY 18 (pM 17) <|
 aY 19 (pG 18 true (pF 19 1 2)) <|
 aY 20 (pG 18 true (pL false 1 19)) <|
 aY 21 (pG 18 true (pM 5)) <|
 aY 22 (pG 18 true (pI 2 20 21)) <|
 aY 23 (pG 18 true (pL true 2 22)) <|
 aY 24 (pG 18 true (pF 19 1 3)) <|
 aY 25 (pG 18 true (pL false 1 24)) <|
 aY 26 (pG 18 true (pM 5)) <|
 aY 27 (pG 18 true (pI 2 25 26)) <|
 aY 28 (pG 18 true (pL true 2 27)) <|
 aY 29 (pG 18 true (pB .eql 60 23 28)) <|
 aY 30 (pP 18 29 (cn (.bool false))) <|
 aYZ)
 (aXZ)
noncomputable def f62_r3 (c : CallF) : RF := rg [2, 3, 5] <| aX 31 (pM 5) <|
 aX 32 (pB .add 3 31 (cn (.int .i64 1))) <|
 aX 5 (pM 32) <|
 aXZ
noncomputable def f62_r4 (c : CallF) : RF := rg [4] <| aX 33 (pM 5) <|
 aX 4 (pM 33) <|
 aXZ
noncomputable def f62_l2 (c : CallF) (k : Nat) : St :=
 (bSeq (bSeq (bReg (f62_r2 c))
 (bCond (.tmp 30) (bEx .nrm) (bEx (.ext 0))))
 (bBlock 1 (bReg (f62_r3 c))))
noncomputable def f62 (c : CallF) (k : Nat) : St :=
 (bSeq (bReg (f62_r0 c))
 (bSeq (bReg (f62_r1 c))
 (bSeq (bBlock 0 (bLoop [2, 3, 5] (f62_l2 c k) k))
 (bSeq (bReg (f62_r4 c))
 (bEx .ret)))))
theorem f62_eq (c : CallF) (k : Nat) : exec cx c 34 f62_an k (Tryd.f62.body.getD .skip) = f62 c k := by kernel_rfl
/-! ### f63: loop.example/g01263/spec.l06Parties -/
def f63_an : Ann := ⟨[(0, r0 [0]), (1, r0 [0, 6]), (2, r0 [2]), (3, r0 [0, 3]), (4, r0 [0, 3, 10]), (5, r0 [0, 3]), (6, r0 [0, 3, 30]), (7, r0 [2]), (8, r0 [2])], [(4, [0, 3])]⟩
noncomputable def f63_r0 (c : CallF) : RF := rg [0] <| aX 2 (pM (cn (.bool false))) <|
 aXZ
noncomputable def f63_r1 (c : CallF) : RF := rg [0, 6] <| aX 4 (pM 0) <|
 aX 5 (pLen 46 4) <|
 aX 6 (pB .gtr 3 5 (cn (.int .i64 20))) <|
 aXZ
noncomputable def f63_r2 (c : CallF) : RF := rg [2] <| aX 2 (pM (cn (.bool false))) <|
 aXZ
noncomputable def f63_r3 (c : CallF) : RF := rg [0, 3] <| aX 3 (pM (cn (.int .i64 0))) <|
 aXZ
noncomputable def f63_r4 (c : CallF) : RF := rg [0, 3, 10] <| aX 7 (pM 3) <|
 aX 8 (pM 0) <|
 aX 9 (pLen 46 8) <|
 aX 10 (pB .lss 3 7 9) <|
 aXZ
noncomputable def f63_r5 (c : CallF) : RF := rg [0, 3] <| aX 11 (pM 3) <|
 aX 12 (pB .add 3 11 (cn (.int .i64 1))) <|
 aX 3 (pM 12) <|
 aXZ
noncomputable def f63_r6 (c : CallF) : RF := rg [0, 3, 30] <| aX 13 (pM 0) <|
 aX 14 (pM 3) <|
 aX 15 (pI 2 13 14) <|
 aX 16 (pF 0 1 15) <|
 aX 17 (pL false 1 16) <|
 aX 18 (pK c false 98 [17]) <|
 aX 19 (pU .not 18) <|
 aX 20 (pM 19) <|
 aX 21 (pG 20 false (pM 0)) <|
 aX 22 (pG 20 false (pM 0)) <|
 aX 23 (pG 20 false (pM 3)) <|
 aX 24 (pG 20 false (pI 2 22 23)) <|
 aX 25 (pG 20 false (pF 0 1 24)) <|
 aX 26 (pG 20 false (pL false 1 25)) <|
 aX 27 (pG 20 false (pK c false 64 [21, 26])) <|
 aX 28 (pG 20 false (pM 3)) <|
 aX 29 (pG 20 false (pB .neq 2 27 28)) <|
 aX 30 (pP 20 (cn (.bool true)) 29) <|
 aXZ
noncomputable def f63_r7 (c : CallF) : RF := rg [2] <| aX 2 (pM (cn (.bool false))) <|
 aXZ
noncomputable def f63_r8 (c : CallF) : RF := rg [2] <| aX 2 (pM (cn (.bool true))) <|
 aXZ
noncomputable def f63_l4 (c : CallF) (k : Nat) : St :=
 (bSeq (bSeq (bReg (f63_r4 c))
 (bCond (.tmp 10) (bEx .nrm) (bEx (.ext 0))))
 (bSeq (bBlock 1 (bSeq (bReg (f63_r6 c))
 (bCond (.tmp 30) (bSeq (bReg (f63_r7 c))
 (bEx .ret)) (bEx .nrm))))
 (bReg (f63_r5 c))))
noncomputable def f63 (c : CallF) (k : Nat) : St :=
 (bSeq (bReg (f63_r0 c))
 (bSeq (bSeq (bReg (f63_r1 c))
 (bCond (.tmp 6) (bSeq (bReg (f63_r2 c))
 (bEx .ret)) (bEx .nrm)))
 (bSeq (bSeq (bReg (f63_r3 c))
 (bBlock 0 (bLoop [0, 3] (f63_l4 c k) k)))
 (bSeq (bReg (f63_r8 c))
 (bEx .ret)))))
theorem f63_eq (c : CallF) (k : Nat) : exec cx c 31 f63_an k (Tryd.f63.body.getD .skip) = f63 c k := by kernel_rfl
/-! ### f64: loop.example/g01263/spec.l06Find -/
def f64_an : Ann := ⟨[(0, r0 [0, 1]), (1, r0 [0, 1, 5]), (2, r0 [0, 1, 5, 9]), (3, r0 [0, 1, 5]), (4, r0 [0, 1, 5, 18]), (5, r0 [4]), (6, r0 [4])], [(2, [0, 1, 5])]⟩
noncomputable def f64_r0 (c : CallF) : RF := rg [0, 1] <| aX 4 (pM (cn (.int .i64 0))) <|
 aXZ
noncomputable def f64_r1 (c : CallF) : RF := rg [0, 1, 5] <| aX 5 (pM (cn (.int .i64 0))) <|
 aXZ
noncomputable def f64_r2 (c : CallF) : RF := rg [0, 1, 5, 9] <| aX 6 (pM 5) <|
 aX 7 (pM 0) <|
 aX 8 (pLen 46 7) <|
 aX 9 (pB .lss 2 6 8) <|
 aXZ
noncomputable def f64_r3 (c : CallF) : RF := rg [0, 1, 5] <| aX 10 (pM 5) <|
 aX 11 (pB .add 2 10 (cn (.int .i64 1))) <|
 aX 5 (pM 11) <|
 aXZ
noncomputable def f64_r4 (c : CallF) : RF := rg [0, 1, 5, 18] <| aX 12 (pM 0) <|
 aX 13 (pM 5) <|
 aX 14 (pI 2 12 13) <|
 aX 15 (pF 0 1 14) <|
 aX 16 (pL false 1 15) <|
 aX 17 (pM 1) <|
 aX 18 (pB .eql 9 16 17) <|
 aXZ
noncomputable def f64_r5 (c : CallF) : RF := rg [4] <| aX 19 (pM 5) <|
 aX 4 (pM 19) <|
 aXZ
noncomputable def f64_r6 (c : CallF) : RF := rg [4] <| aX 4 (pM (cn (.int .i64 (-1)))) <|
 aXZ
noncomputable def f64_l2 (c : CallF) (k : Nat) : St :=
 (bSeq (bSeq (bReg (f64_r2 c))
 (bCond (.tmp 9) (bEx .nrm) (bEx (.ext 0))))
 (bSeq (bBlock 1 (bSeq (bReg (f64_r4 c))
 (bCond (.tmp 18) (bSeq (bReg (f64_r5 c))
 (bEx .ret)) (bEx .nrm))))
 (bReg (f64_r3 c))))
noncomputable def f64 (c : CallF) (k : Nat) : St :=
 (bSeq (bReg (f64_r0 c))
 (bSeq (bSeq (bReg (f64_r1 c))
 (bBlock 0 (bLoop [0, 1, 5] (f64_l2 c k) k)))
 (bSeq (bReg (f64_r6 c))
 (bEx .ret))))
theorem f64_eq (c : CallF) (k : Nat) : exec cx c 20 f64_an k (Tryd.f64.body.getD .skip) = f64 c k := by kernel_rfl
/-! ### f65: loop.example/g01263/impl.ValidHalf -/
def f65_an : Ann := ⟨[(0, r0 [1]), (1, r0 [1, 14]), (2, r0 [2]), (3, r0 [1, 16, 17, 18]), (4, r0 [1, 16, 17, 18, 19]), (5, r0 [1, 3, 4, 16, 17, 18]), (6, r0 [1, 3, 4, 16, 17, 18, 37]), (7, r0 [2]), (8, r0 [1, 16, 17, 18, 64]), (9, r0 [2]), (10, r0 [1, 16, 17, 18]), (11, r0 [2])], [(4, [1, 16, 17, 18])]⟩
noncomputable def f65_r0 (c : CallF) : RF := rg [1] <| aX 1 (pBox 18 0) <|
 aX 2 (pM (cn (.bool false))) <|
 aXZ
noncomputable def f65_r1 (c : CallF) : RF := rg [1, 14] <| aX 5 (pF 1 1 1) <|
 aX 6 (pL false 1 5) <|
 aX 7 (pLen 48 6) <|
 aX 8 (pB .gtr 3 7 (cn (.int .i64 60))) <|
 aX 9 (pM 8) <|
 aX 10 (pG 9 false (pF 2 16 1)) <|
 aX 11 (pG 9 false (pL true 16 10)) <|
 aX 12 (pG 9 false (pK c false 99 [11])) <|
 aX 13 (pG 9 false (pU .not 12)) <|
 aX 14 (pP 9 (cn (.bool true)) 13) <|
 aXZ
noncomputable def f65_r2 (c : CallF) : RF := rg [2] <| aX 2 (pM (cn (.bool false))) <|
 aXZ
noncomputable def f65_r3 (c : CallF) : RF := rg [1, 16, 17, 18] <| aX 15 (pF 1 1 1) <|
 aX 16 (pL false 1 15) <|
 aX 17 (pLen 48 16) <|
 aX 18 (pM (cn (.int .i64 0))) <|
 aXZ
noncomputable def f65_r4 (c : CallF) : RF := rg [1, 16, 17, 18, 19] <| aX 19 (pB .lss 3 18 17) <|
 aXZ
noncomputable def f65_r5 (c : CallF) : RF := rg [1, 3, 4, 16, 17, 18] <| aX 20 (pM 18) <|
 aX 21 (pI 2 16 18) <|
 aX 22 (pL true 2 21) <|
 aX 4 (pAl 141 2) <|
 aX 3 (pM 20) <|
 aX0 (pS 2 4 22) <|
 aXZ
noncomputable def f65_r6 (c : CallF) : RF := rg [1, 3, 4, 16, 17, 18, 37] <| aX 23 (pF 0 1 4) <|
 aX 24 (pL false 1 23) <|
 aX 25 (fun n e M => keep (aConvI .i64 (eget e 24))) <|
 aX 26 (pK c false 100 [25]) <|
 aX 27 (pU .not 26) <|
 aX 28 (pM 27) <|
 aX 29 (pG 28 false (pF 1 1 4)) <|
 aX 30 (pG 28 false (pL false 1 29)) <|
 aX 31 (pG 28 false (pB .lss 139 30 (cn (.int .i16 0)))) <|
 aX 32 (pP 28 (cn (.bool true)) 31) <|
 aX 33 (pM 32) <|
 aX 34 (pG 33 false (pL true 2 4)) <|
 aX 35 (pG 33 false (pK c false 101 [34])) <|
 aX 36 (pG 33 false (pB .gtr 2 35 (cn (.int .i64 200)))) <|
 aX 37 (pP 33 (cn (.bool true)) 36) <|
 aXZ
noncomputable def f65_r7 (c : CallF) : RF := rg [2] <| aX 2 (pM (cn (.bool false))) <|
 aXZ
noncomputable def f65_r8 (c : CallF) : RF := rgD [1, 16, 17, 18, 64] (aY 38 (pM 3) <|
 aY 39 (pB .gtr 3 38 (cn (.int .i64 0))) <|
 aY 40 (pM 39) <|
 aY 41 (pG 40 true (pF 1 1 4)) <|
 aY 42 (pG 40 true (pL false 1 41)) <|
 aY 43 (pG 40 true (fun n e M => keep (aConvI .i64 (eget e 42)))) <|
 aY 44 (pG 40 true (pF 1 1 1)) <|
 aY 45 (pG 40 true (pL false 1 44)) <|
 aY 46 (pG 40 true (pM 3)) <|
 aY 47 (pG 40 true (pB .sub 3 46 (cn (.int .i64 1)))) <|
 aY 48 (pG 40 true (pI 2 45 47)) <|
 aY 49 (pG 40 true (pL true 2 48)) <|
 aY 50 (pG 40 true (pK c false 101 [49])) <|
 aY 51 (pG 40 true (pB .leq 2 43 50)) <|
 aY 52 (pG 40 true (pM 51)) <|
 aY 53 (pG 52 false (pF 0 1 4)) <|
 aY 54 (pG 52 false (pL false 1 53)) <|
 aY 55 (pG 52 false (pF 1 1 1)) <|
 aY 56 (pG 52 false (pL false 1 55)) <|
 aY 57 (pG 52 false (pM 3)) <|
 aY 58 (pG 52 false (pB .sub 3 57 (cn (.int .i64 1)))) <|
 aY 59 (pG 52 false (pI 2 56 58)) <|
 aY 60 (pG 52 false (pF 0 1 59)) <|
 aY 61 (pG 52 false (pL false 1 60)) <|
 aY 62 (pG 52 false (pB .gtr 39 54 61)) <|
 aY 63 (pG 40 true (pP 52 (cn (.bool true)) 62)) <|
 aY 64 (pP 40 63 (cn (.bool false))) <|
 aYZ)
 (aXZ)
noncomputable def f65_r9 (c : CallF) : RF := rg [2] <| aX 2 (pM (cn (.bool false))) <|
 aXZ
noncomputable def f65_r10 (c : CallF) : RF := rg [1, 16, 17, 18] <| aX 65 (pB .add 3 18 (cn (.int .i64 1))) <|
 aX 18 (pM 65) <|
 aXZ
noncomputable def f65_r11 (c : CallF) : RF := rg [2] <| aX 2 (pM (cn (.bool true))) <|
 aXZ
noncomputable def f65_l4 (c : CallF) (k : Nat) : St :=
 (bSeq (bReg (f65_r4 c))
 (bSeq (bCond (.tmp 19) (bEx .nrm) (bEx (.ext 0)))
 (bSeq (bBlock 1 (bSeq (bReg (f65_r5 c))
 (bSeq (bSeq (bReg (f65_r6 c))
 (bCond (.tmp 37) (bSeq (bReg (f65_r7 c))
 (bEx .ret)) (bEx .nrm)))
 (bSeq (bReg (f65_r8 c))
 (bCond (.tmp 64) (bSeq (bReg (f65_r9 c))
 (bEx .ret)) (bEx .nrm))))))
 (bReg (f65_r10 c)))))
noncomputable def f65 (c : CallF) (k : Nat) : St :=
 (bSeq (bReg (f65_r0 c))
 (bSeq (bSeq (bReg (f65_r1 c))
 (bCond (.tmp 14) (bSeq (bReg (f65_r2 c))
 (bEx .ret)) (bEx .nrm)))
 (bSeq (bSeq (bReg (f65_r3 c))
 (bBlock 0 (bLoop [1, 16, 17, 18] (f65_l4 c k) k)))
 (bSeq (bReg (f65_r11 c))
 (bEx .ret)))))
theorem f65_eq (c : CallF) (k : Nat) : exec cx c 66 f65_an k (Tryd.f65.body.getD .skip) = f65 c k := by kernel_rfl
/-! ### f66: loop.example/g01263/impl.isName -/
def f66_an : Ann := ⟨[(0, r0 [0]), (1, r0 [2])], []⟩
noncomputable def f66_r0 (c : CallF) : RF := rg [0] <| aX 2 (pM (cn (.bool false))) <|
 aXZ
noncomputable def f66_r1 (c : CallF) : RF := rg [2] <| aX 3 (pM 0) <|
 aX 4 (pK c false 42 [3, (cn (.int .i64 12))]) <|
 aX 2 (pM 4) <|
 aXZ
noncomputable def f66 (c : CallF) (k : Nat) : St :=
 (bSeq (bReg (f66_r0 c))
 (bSeq (bReg (f66_r1 c))
 (bEx .ret)))
theorem f66_eq (c : CallF) (k : Nat) : exec cx c 5 f66_an k (Tryd.f66.body.getD .skip) = f66 c k := by kernel_rfl
/-! ### f67: loop.example/g01263/impl.ownHalf -/
def f67_an : Ann := ⟨[(0, ⟨[0], [], [], [], [1, 2], none, []⟩), (1, ⟨[4], [], [], [], [1, 2], none, []⟩), (2, ⟨[1], [], [], [], [2], none, []⟩)], []⟩
noncomputable def f67_r0 (c : CallF) : RF := rg [1, 2] <| aX 1 (fun n e M => aBoxO n 52 18 (eget e 0) M) <|
 aX 2 (pAl 52 18) <|
 aXZ
noncomputable def f67_r1 (c : CallF) : RF := rg [1, 2] <| aX 3 (pF 1 1 1) <|
 aX 4 (pL false 1 3) <|
 aX 5 (pK c false 102 [4]) <|
 aX 6 (pF 1 1 1) <|
 aX0 (pSK 1 6 5) <|
 aXZ
noncomputable def f67_r2 (c : CallF) : RF := rg [2] <| aX 7 (pL true 18 1) <|
 aX0 (pSK 18 2 7) <|
 aXZ
noncomputable def f67 (c : CallF) (k : Nat) : St :=
 (bSeq (bReg (f67_r0 c))
 (bSeq (bReg (f67_r1 c))
 (bSeq (bReg (f67_r2 c))
 (bEx .ret))))
theorem f67_eq (c : CallF) (k : Nat) : exec cx c 8 f67_an k (Tryd.f67.body.getD .skip) = f67 c k := by kernel_rfl
/-! ### f68: loop.example/g01263/impl.seal -/
def f68_an : Ann := ⟨[(0, r0 [1, 2, 3, 4]), (1, r0 [1, 2, 3, 4, 9]), (2, r0 [9, 10]), (3, r0 [9, 10, 23, 24]), (4, r0 [9, 10, 23, 24, 25]), (5, r0 [9, 10, 11, 23, 24]), (6, r0 [9, 10, 23, 24]), (7, r0 [9, 10, 23, 24]), (8, r0 [8])], [(4, [9, 10, 23, 24])]⟩
noncomputable def f68_r0 (c : CallF) : RF := rg [1, 2, 3, 4] <| aX 4 (pBox 18 0) <|
 aX 8 (pM (cn (.int .u32 0))) <|
 aXZ
noncomputable def f68_r1 (c : CallF) : RF := rg [1, 2, 3, 4, 9] <| aX 9 (pM (cn (.int .u32 2166136261))) <|
 aXZ
noncomputable def f68_r2 (c : CallF) : RF := rg [9, 10] <| aX 12 (pL true 18 4) <|
 aX 13 (pK c false 103 [12]) <|
 aX 14 (pM 1) <|
 aX 15 (pK c false 104 [14]) <|
 aX 16 (pB .add 9 13 15) <|
 aX 17 (pM 2) <|
 aX 18 (pB .add 9 16 17) <|
 aX 19 (pM 3) <|
 aX 20 (pK c false 104 [19]) <|
 aX 21 (pB .add 9 18 20) <|
 aX 10 (pM 21) <|
 aXZ
noncomputable def f68_r3 (c : CallF) : RF := rg [9, 10, 23, 24] <| aX 22 (pM 10) <|
 aX 23 (pLen 9 22) <|
 aX 24 (pM (cn (.int .i64 0))) <|
 aXZ
noncomputable def f68_r4 (c : CallF) : RF := rg [9, 10, 23, 24, 25] <| aX 25 (pB .lss 3 24 23) <|
 aXZ
noncomputable def f68_r5 (c : CallF) : RF := rg [9, 10, 11, 23, 24] <| aX 26 (pM 24) <|
 aX 11 (pM 26) <|
 aXZ
noncomputable def f68_r6 (c : CallF) : RF := rg [9, 10, 23, 24] <| aX 27 (pM 9) <|
 aX 28 (pM 10) <|
 aX 29 (pM 11) <|
 aX 30 (fun n e M => keep (aIndexB (eget e 28) (eget e 29))) <|
 aX 31 (fun n e M => keep (aConvI .u32 (eget e 30))) <|
 aX 32 (pB .xor 58 27 31) <|
 aX 33 (pB .mul 58 32 (cn (.int .u32 16777619))) <|
 aX 9 (pM 33) <|
 aXZ
noncomputable def f68_r7 (c : CallF) : RF := rg [9, 10, 23, 24] <| aX 34 (pB .add 3 24 (cn (.int .i64 1))) <|
 aX 24 (pM 34) <|
 aXZ
noncomputable def f68_r8 (c : CallF) : RF := rg [8] <| aX 35 (pM 9) <|
 aX 8 (pM 35) <|
 aXZ
noncomputable def f68_l4 (c : CallF) (k : Nat) : St :=
 (bSeq (bReg (f68_r4 c))
 (bSeq (bCond (.tmp 25) (bEx .nrm) (bEx (.ext 0)))
 (bSeq (bBlock 1 (bSeq (bReg (f68_r5 c))
 (bReg (f68_r6 c))))
 (bReg (f68_r7 c)))))
noncomputable def f68 (c : CallF) (k : Nat) : St :=
 (bSeq (bReg (f68_r0 c))
 (bSeq (bReg (f68_r1 c))
 (bSeq (bReg (f68_r2 c))
 (bSeq (bSeq (bReg (f68_r3 c))
 (bBlock 0 (bLoop [9, 10, 23, 24] (f68_l4 c k) k)))
 (bSeq (bReg (f68_r8 c))
 (bEx .ret))))))
theorem f68_eq (c : CallF) (k : Nat) : exec cx c 36 f68_an k (Tryd.f68.body.getD .skip) = f68 c k := by kernel_rfl
/-! ### f69: loop.example/g01263/impl.last -/
def f69_an : Ann := ⟨[(0, r0 [1, 2]), (1, r0 [2])], []⟩
noncomputable def f69_r0 (c : CallF) : RF := rg [1, 2] <| aX 1 (pBox 20 0) <|
 aX 2 (pAl 60 2) <|
 aXZ
noncomputable def f69_r1 (c : CallF) : RF := rg [2] <| aX 3 (pF 19 1 1) <|
 aX 4 (pL false 1 3) <|
 aX 5 (pF 19 1 1) <|
 aX 6 (pL false 1 5) <|
 aX 7 (pLen 53 6) <|
 aX 8 (pB .sub 3 7 (cn (.int .i64 1))) <|
 aX 9 (pI 2 4 8) <|
 aX 10 (pL true 2 9) <|
 aX0 (pS 2 2 10) <|
 aXZ
noncomputable def f69 (c : CallF) (k : Nat) : St :=
 (bSeq (bReg (f69_r0 c))
 (bSeq (bReg (f69_r1 c))
 (bEx .ret)))
theorem f69_eq (c : CallF) (k : Nat) : exec cx c 11 f69_an k (Tryd.f69.body.getD .skip) = f69 c k := by kernel_rfl
/-! ### f70: slices.Clone[[]loop.example/g01263/impl.Mark,loop.example/g01263/impl.Mark] -/
def f70_an : Ann := ⟨[(0, r0 [0]), (1, r0 [0, 4]), (2, r0 [2]), (3, r0 [2])], []⟩
noncomputable def f70_r0 (c : CallF) : RF := rg [0] <| aX 2 (pM (cn .nils)) <|
 aXZ
noncomputable def f70_r1 (c : CallF) : RF := rg [0, 4] <| aX 3 (pM 0) <|
 aX 4 (pB .eql 53 3 (cn .nils)) <|
 aXZ
noncomputable def f70_r2 (c : CallF) : RF := rg [2] <| aX 2 (pM (cn .nils)) <|
 aXZ
noncomputable def f70_r3 (c : CallF) : RF := rg [2] <| aX 5 (fun n e M => keep (aLitI 60 2 [] M)) <|
 aX 6 (pM 0) <|
 aX 7 (fun n e M => aAppI 60 2 24 (eget e 5) (eget e 6) M) <|
 aX 2 (pM 7) <|
 aXZ
noncomputable def f70 (c : CallF) (k : Nat) : St :=
 (bSeq (bReg (f70_r0 c))
 (bSeq (bSeq (bReg (f70_r1 c))
 (bCond (.tmp 4) (bSeq (bReg (f70_r2 c))
 (bEx .ret)) (bEx .nrm)))
 (bSeq (bReg (f70_r3 c))
 (bEx .ret))))
theorem f70_eq (c : CallF) (k : Nat) : exec cx c 8 f70_an k (Tryd.f70.body.getD .skip) = f70 c k := by kernel_rfl
/-! ### f71: loop.example/g01263/spec.l06Common -/
def f71_an : Ann := ⟨[(0, r0 [0, 1]), (1, r0 [0, 1, 14]), (2, r0 [4, 5]), (3, r0 [0, 1, 33]), (4, r0 [4, 5]), (5, r0 [0, 1, 6]), (6, r0 [0, 1, 6, 66]), (7, r0 [0, 1, 6]), (8, r0 [4, 5])], [(6, [0, 1, 6])]⟩
noncomputable def f71_r0 (c : CallF) : RF := rg [0, 1] <| aX 4 (pM (cn (.int .i64 0))) <|
 aX 5 (pM (cn (.int .i64 0))) <|
 aXZ
noncomputable def f71_r1 (c : CallF) : RF := rg [0, 1, 14] <| aX 7 (pM 0) <|
 aX 8 (pK c false 105 [7]) <|
 aX 9 (pU .not 8) <|
 aX 10 (pM 9) <|
 aX 11 (pG 10 false (pM 1)) <|
 aX 12 (pG 10 false (pK c false 105 [11])) <|
 aX 13 (pG 10 false (pU .not 12)) <|
 aX 14 (pP 10 (cn (.bool true)) 13) <|
 aXZ
noncomputable def f71_r2 (c : CallF) : RF := rg [4, 5] <| aX 4 (pM (cn (.int .i64 0))) <|
 aX 5 (pM (cn (.int .i64 1))) <|
 aXZ
noncomputable def f71_r3 (c : CallF) : RF := rgD [0, 1, 33] (aY 15 (pM 0) <|
 aY 16 (pN 15) <|
 aY 17 (pF 0 1 16) <|
 aY 18 (pL false 1 17) <|
 aY 19 (pM 1) <|
 aY 20 (pN 19) <|
 aY 21 (pF 0 1 20) <|
 aY 22 (pL false 1 21) <|
 aY 23 (pB .neq 9 18 22) <|
 aY 24 (pM 23) <|
 aY 25 (pG 24 false (pM 0)) <|
 aY 26 (pG 24 false (pN 25)) <|
 aY 27 (pG 24 false (pF 1 18 26)) <|
 aY 28 (pG 24 false (pM 1)) <|
 aY 29 (pG 24 false (pN 28)) <|
 aY 30 (pG 24 false (pF 1 18 29)) <|
 aY 31 (pG 24 false (pK c false 106 [27, 30])) <|
 aY 32 (pG 24 false (pU .not 31)) <|
 aY 33 (pP 24 (cn (.bool true)) 32) <|
 aYZ)
 (aXZ)
noncomputable def f71_r4 (c : CallF) : RF := rg [4, 5] <| aX 4 (pM (cn (.int .i64 0))) <|
 aX 5 (pM (cn (.int .i64 4))) <|
 aXZ
noncomputable def f71_r5 (c : CallF) : RF := rg [0, 1, 6] <| aX 6 (pM (cn (.int .i64 0))) <|
 aXZ
noncomputable def f71_r6 (c : CallF) : RF := rgD [0, 1, 6, 66] (aY 34 (pM 6) <|
 aY 35 (pM 0) <|
 aY 36 (pN 35) <|
 aY 37 (pF 19 1 36) <|
 aY 38 (pL false 1 37) <|
 aY 39 (pLen 53 38) <|
 aY 40 (pB .lss 3 34 39) <|
 aY 41 (pM 40) <|
 aY 42 (pG 41 true (pM 6)) <|
 aY 43 (pG 41 true (pM 1)) <|
 aY 44 (pG 41 true (pN 43)) <|
 aY 45 (pG 41 true (pF 19 1 44)) <|
 aY 46 (pG 41 true (pL false 1 45)) <|
 aY 47 (pG 41 true (pLen 53 46)) <|
 aY 48 (pG 41 true (pB .lss 3 42 47)) <|
 aY 49 (pP 41 48 (cn (.bool false))) <|
 aY 50 (pM 49) <|
 aY 51 (pG 50 true (pM 0)) <|
 aY 52 (pG 50 true (pN 51)) <|
 aY 53 (pG 50 true (pF 19 1 52)) <|
 aY 54 (pG 50 true (pL false 1 53)) <|
 aY 55 (pG 50 true (pM 6)) <|
 aY 56 (pG 50 true (pI 2 54 55)) <|
 aY 57 (pG 50 true (pL true 2 56)) <|
 aY 58 (pG 50 true (pM 1)) <|
 aY 59 (pG 50 true (pN 58)) <|
 aY 60 (pG 50 true (pF 19 1 59)) <|
 aY 61 (pG 50 true (pL false 1 60)) <|
 aY 62 (pG 50 true (pM 6)) <|
 aY 63 (pG 50 true (pI 2 61 62)) <|
 aY 64 (pG 50 true (pL true 2 63)) <|
 aY 65 (pG 50 true (pB .eql 60 57 64)) <|
 aY 66 (pP 50 65 (cn (.bool false))) <|
 aYZ)
 (aXZ)
noncomputable def f71_r7 (c : CallF) : RF := rg [0, 1, 6] <| aX 67 (pM 6) <|
 aX 68 (pB .add 3 67 (cn (.int .i64 1))) <|
 aX 6 (pM 68) <|
 aXZ
noncomputable def f71_r8 (c : CallF) : RF := rg [4, 5] <| aX 69 (pM 6) <|
 aX 4 (pM 69) <|
 aX 5 (pM (cn (.int .i64 0))) <|
 aXZ
noncomputable def f71_l6 (c : CallF) (k : Nat) : St :=
 (bSeq (bSeq (bReg (f71_r6 c))
 (bCond (.tmp 66) (bEx .nrm) (bEx (.ext 0))))
 (bBlock 1 (bReg (f71_r7 c))))
noncomputable def f71 (c : CallF) (k : Nat) : St :=
 (bSeq (bReg (f71_r0 c))
 (bSeq (bSeq (bReg (f71_r1 c))
 (bCond (.tmp 14) (bSeq (bReg (f71_r2 c))
 (bEx .ret)) (bEx .nrm)))
 (bSeq (bSeq (bReg (f71_r3 c))
 (bCond (.tmp 33) (bSeq (bReg (f71_r4 c))
 (bEx .ret)) (bEx .nrm)))
 (bSeq (bReg (f71_r5 c))
 (bSeq (bBlock 0 (bLoop [0, 1, 6] (f71_l6 c k) k))
 (bSeq (bReg (f71_r8 c))
 (bEx .ret)))))))
theorem f71_eq (c : CallF) (k : Nat) : exec cx c 70 f71_an k (Tryd.f71.body.getD .skip) = f71 c k := by kernel_rfl
/-! ### f72: loop.example/g01263/impl.ValidParties -/
def f72_an : Ann := ⟨[(0, r0 [0]), (1, r0 [0, 5, 6, 7]), (2, r0 [0, 5, 6, 7, 8]), (3, r0 [0, 3, 4, 5, 6, 7]), (4, r0 [0, 5, 6, 7, 24]), (5, r0 [2]), (6, r0 [0, 5, 6, 7]), (7, r0 [2])], [(2, [0, 5, 6, 7])]⟩
noncomputable def f72_r0 (c : CallF) : RF := rg [0] <| aX 2 (pM (cn (.bool false))) <|
 aXZ
noncomputable def f72_r1 (c : CallF) : RF := rg [0, 5, 6, 7] <| aX 5 (pM 0) <|
 aX 6 (pLen 46 5) <|
 aX 7 (pM (cn (.int .i64 0))) <|
 aXZ
noncomputable def f72_r2 (c : CallF) : RF := rg [0, 5, 6, 7, 8] <| aX 8 (pB .lss 3 7 6) <|
 aXZ
noncomputable def f72_r3 (c : CallF) : RF := rg [0, 3, 4, 5, 6, 7] <| aX 9 (pM 7) <|
 aX 10 (pI 2 5 7) <|
 aX 11 (pL true 2 10) <|
 aX 4 (pAl 66 2) <|
 aX 3 (pM 9) <|
 aX0 (pS 2 4 11) <|
 aXZ
noncomputable def f72_r4 (c : CallF) : RF := rgD [0, 5, 6, 7, 24] (aY 12 (pF 0 1 4) <|
 aY 13 (pL false 1 12) <|
 aY 14 (pK c false 66 [13]) <|
 aY 15 (pU .not 14) <|
 aY 16 (pM 15) <|
 aY 17 (pG 16 false (pM 0)) <|
 aY 18 (pG 16 false (pM 3)) <|
 aY 19 (pG 16 false (fun n e M => keep (aSlice 2 none (some (eget e 18)) (eget e 17) M))) <|
 aY 20 (pG 16 false (pF 0 1 4)) <|
 aY 21 (pG 16 false (pL false 1 20)) <|
 aY 22 (pG 16 false (pK c false 73 [19, 21])) <|
 aY 23 (pG 16 false (pB .geq 3 22 (cn (.int .i64 0)))) <|
 aY 24 (pP 16 (cn (.bool true)) 23) <|
 aYZ)
 (aXZ)
noncomputable def f72_r5 (c : CallF) : RF := rg [2] <| aX 2 (pM (cn (.bool false))) <|
 aXZ
noncomputable def f72_r6 (c : CallF) : RF := rg [0, 5, 6, 7] <| aX 25 (pB .add 3 7 (cn (.int .i64 1))) <|
 aX 7 (pM 25) <|
 aXZ
noncomputable def f72_r7 (c : CallF) : RF := rg [2] <| aX 26 (pM 0) <|
 aX 27 (pLen 46 26) <|
 aX 28 (pB .leq 3 27 (cn (.int .i64 20))) <|
 aX 2 (pM 28) <|
 aXZ
noncomputable def f72_l2 (c : CallF) (k : Nat) : St :=
 (bSeq (bReg (f72_r2 c))
 (bSeq (bCond (.tmp 8) (bEx .nrm) (bEx (.ext 0)))
 (bSeq (bBlock 1 (bSeq (bReg (f72_r3 c))
 (bSeq (bReg (f72_r4 c))
 (bCond (.tmp 24) (bSeq (bReg (f72_r5 c))
 (bEx .ret)) (bEx .nrm)))))
 (bReg (f72_r6 c)))))
noncomputable def f72 (c : CallF) (k : Nat) : St :=
 (bSeq (bReg (f72_r0 c))
 (bSeq (bSeq (bReg (f72_r1 c))
 (bBlock 0 (bLoop [0, 5, 6, 7] (f72_l2 c k) k)))
 (bSeq (bReg (f72_r7 c))
 (bEx .ret))))
theorem f72_eq (c : CallF) (k : Nat) : exec cx c 29 f72_an k (Tryd.f72.body.getD .skip) = f72 c k := by kernel_rfl
/-! ### f73: loop.example/g01263/impl.find -/
def f73_an : Ann := ⟨[(0, r0 [0, 3]), (1, r0 [4])], []⟩
noncomputable def f73_r0 (c : CallF) : RF := rg [0, 3] <| aX 3 (pBox 1 1) <|
 aX 4 (pM (cn (.int .i64 0))) <|
 aXZ
noncomputable def f73_r1 (c : CallF) : RF := rg [4] <| aX 5 (pM 0) <|
 aX 6 (pM (fun e => (.fn 108 [(eget e 3)]))) <|
 aX 7 (pK c false 107 [5, 6]) <|
 aX 4 (pM 7) <|
 aXZ
noncomputable def f73 (c : CallF) (k : Nat) : St :=
 (bSeq (bReg (f73_r0 c))
 (bSeq (bReg (f73_r1 c))
 (bEx .ret)))
theorem f73_eq (c : CallF) (k : Nat) : exec cx c 8 f73_an k (Tryd.f73.body.getD .skip) = f73 c k := by kernel_rfl
/-! ### f84: loop.example/g01263/spec.l00In -/
def f84_an : Ann := ⟨[(0, r0 [0, 1, 2]), (1, r0 [6])], []⟩
noncomputable def f84_r0 (c : CallF) : RF := rg [0, 1, 2] <| aX 6 (pM (cn (.bool false))) <|
 aXZ
noncomputable def f84_r1 (c : CallF) : RF := rg [6] <| aX 7 (pM 0) <|
 aX 8 (pM 1) <|
 aX 9 (pB .geq 2 7 8) <|
 aX 10 (pM 9) <|
 aX 11 (pG 10 true (pM 0)) <|
 aX 12 (pG 10 true (pM 2)) <|
 aX 13 (pG 10 true (pB .leq 2 11 12)) <|
 aX 14 (pP 10 13 (cn (.bool false))) <|
 aX 6 (pM 14) <|
 aXZ
noncomputable def f84 (c : CallF) (k : Nat) : St :=
 (bSeq (bReg (f84_r0 c))
 (bSeq (bReg (f84_r1 c))
 (bEx .ret)))
theorem f84_eq (c : CallF) (k : Nat) : exec cx c 15 f84_an k (Tryd.f84.body.getD .skip) = f84 c k := by kernel_rfl
/-! ### f91: loop.example/g01263/impl.decimal -/
def f91_an : Ann := ⟨[(0, r0 [0]), (1, r0 [2])], []⟩
noncomputable def f91_r0 (c : CallF) : RF := rg [0] <| aX 2 (pM (cn (.str []))) <|
 aXZ
noncomputable def f91_r1 (c : CallF) : RF := rg [2] <| aX 3 (pM 0) <|
 aX 4 (pK c false 121 [3, (cn (.int .i64 10))]) <|
 aX 2 (pM 4) <|
 aXZ
noncomputable def f91 (c : CallF) (k : Nat) : St :=
 (bSeq (bReg (f91_r0 c))
 (bSeq (bReg (f91_r1 c))
 (bEx .ret)))
theorem f91_eq (c : CallF) (k : Nat) : exec cx c 5 f91_an k (Tryd.f91.body.getD .skip) = f91 c k := by kernel_rfl
/-! ### f92: loop.example/g01263/spec.l06Who -/
def f92_an : Ann := ⟨[(0, r0 []), (1, r0 [0])], []⟩
noncomputable def f92_r0 (c : CallF) : RF := rg [] <| aX 0 (pM (cn .nils)) <|
 aXZ
noncomputable def f92_r1 (c : CallF) : RF := rg [0] <| aX 1 (fun n e M => keep (aLitI 9 1 [(.str [107, 105, 110, 103]), (.str [97, 110, 110]), (.str [98, 111, 98]), (.str [99, 105, 100]), (.str [100, 97, 110]), (.str [101, 118, 101])] M)) <|
 aX 0 (pM 1) <|
 aXZ
noncomputable def f92 (c : CallF) (k : Nat) : St :=
 (bSeq (bReg (f92_r0 c))
 (bSeq (bReg (f92_r1 c))
 (bEx .ret)))
theorem f92_eq (c : CallF) (k : Nat) : exec cx c 2 f92_an k (Tryd.f92.body.getD .skip) = f92 c k := by kernel_rfl
/-! ### f93: loop.example/g01263/spec.l04Small -/
def f93_an : Ann := ⟨[(0, r0 [0, 2]), (1, ⟨[], [3, 4], [], [], [0, 2, 3], none, []⟩), (2, r0 [0, 2, 3, 4]), (3, r0 [0, 2, 3]), (4, r0 [0, 2, 3, 5]), (5, r0 [0, 2, 3, 5, 6]), (6, r0 [0, 2, 3, 5, 6, 7]), (7, r0 [0, 2, 3, 5, 6, 7, 28]), (8, r0 [0, 2, 3, 5, 6, 7]), (9, ⟨[7], [], [], [], [0, 2, 3, 5, 6, 7], none, []⟩), (10, ⟨[], [], [0, 2, 5], [7, 8, 9, 10], [0, 2, 3, 5, 6, 7], some [3, 4], []⟩), (11, r0 [0, 2, 3, 5, 6, 7, 55]), (12, r0 [0, 2, 3, 5, 6, 7]), (13, r0 [2])], [(7, [0, 2, 3, 5, 6, 7])]⟩
noncomputable def f93_r0 (c : CallF) : RF := rg [0, 2] <| aX 2 (pAl 52 18) <|
 aXZ
noncomputable def f93_r1 (c : CallF) : RF := rg [0, 2, 3] <| aX 8 (pM 0) <|
 aX 9 (pK c false 122 [8, (cn (.int .i64 2))]) <|
 aX 10 (fun n e M => keep (aBuild (zeroOf cx.P 52) [(0, 1, (eget e 9))] M)) <|
 aX 3 (fun n e M => gho cx.P true n (oAlloc cx.P n 52 18)) <|
 aX0 (fun n e M => oStoreG cx.P 52 false 18 (eget e 3) (eget e 10) M) <|
 aXZ
noncomputable def f93_r2 (c : CallF) : RF := rg [0, 2, 3, 4] <| aX 11 (pM 0) <|
 aX 12 (pK c false 59 [11, (cn (.int .i64 1073741824))]) <|
 aX 13 (fun n e M => keep (aConvI .u32 (eget e 12))) <|
 aX 4 (pM 13) <|
 aXZ
noncomputable def f93_r3 (c : CallF) : RF := rg [0, 2, 3] <| aX 15 (pM 4) <|
 aX 16 (pK c false 123 [15]) <|
 aX 14 (pM 16) <|
 aX 17 (pE 0 14) <|
 aX 18 (pE 1 14) <|
 aX 19 (pF 2 16 3) <|
 aX0 (pS 16 19 17) <|
 aX 4 (pM 18) <|
 aXZ
noncomputable def f93_r4 (c : CallF) : RF := rg [0, 2, 3, 5] <| aX 20 (pM 0) <|
 aX 21 (pK c false 59 [20, (cn (.int .i64 3))]) <|
 aX 5 (pM 21) <|
 aXZ
noncomputable def f93_r5 (c : CallF) : RF := rg [0, 2, 3, 5, 6] <| aX 22 (pM 0) <|
 aX 23 (pK c false 59 [22, (cn (.int .i64 5))]) <|
 aX 24 (fun n e M => keep (aConvI .i8 (eget e 23))) <|
 aX 6 (pM 24) <|
 aXZ
noncomputable def f93_r6 (c : CallF) : RF := rg [0, 2, 3, 5, 6, 7] <| aX 25 (pM 0) <|
 aX 26 (pK c false 59 [25, (cn (.int .i64 6))]) <|
 aX 7 (pM 26) <|
 aXZ
noncomputable def f93_r7 (c : CallF) : RF := rg [0, 2, 3, 5, 6, 7, 28] <| aX 27 (pM 7) <|
 aX 28 (pB .gtr 2 27 (cn (.int .i64 0))) <|
 aXZ
noncomputable def f93_r8 (c : CallF) : RF := rg [0, 2, 3, 5, 6, 7] <| aX 29 (pM 7) <|
 aX 30 (pB .sub 2 29 (cn (.int .i64 1))) <|
 aX 7 (pM 30) <|
 aXZ
noncomputable def f93_r9 (c : CallF) : RF := rg [0, 2, 3, 5, 6, 7] <| aX 31 (pF 1 1 3) <|
 aX 32 (pL false 1 31) <|
 aX 33 (pM 6) <|
 aX 34 (pM 5) <|
 aX 35 (fun n e M => keep (aConvI .i16 (eget e 34))) <|
 aX 36 (fun n e M => keep (aBuild (zeroOf cx.P 141) [(0, 1, (eget e 33)), (1, 1, (eget e 35))] M)) <|
 aX 37 (fun n e M => keep (aLitI 141 2 [(eget e 36)] M)) <|
 aX 38 (fun n e M => aAppO n 141 2 4 (eget e 32) (eget e 37) M) <|
 aX 39 (pF 1 1 3) <|
 aX0 (pS 1 39 38) <|
 aXZ
noncomputable def f93_r10 (c : CallF) : RF := rgS [0, 2, 3, 5, 6, 7] (aQc 0 false (some 40) (pM 5) <|
 aQ 1 false (some 41) (pK c false 124 []) <|
 aQc 2 false (some 42) (pM 6) <|
 aQs 3 false (some 43) (pI 1 41 42) <|
 aQs 4 false (some 44) (pL false 1 43) <|
 aQc 5 false (some 45) (pB .add 2 44 (cn (.int .i64 1))) <|
 aQ 6 false (some 46) (pM 0) <|
 aQZ)
 (aW [1, 6] (some 47) (pK c false 59 [46, (cn (.int .i64 6))]) <|
 aW [1, 2, 3, 4, 5, 6, 7] (some 48) (pB .add 2 45 47) <|
 aW [0, 1, 2, 3, 4, 5, 6, 7, 8] (some 49) (pB .add 2 40 48) <|
 aW [0, 1, 2, 3, 4, 5, 6, 7, 8, 9] (some 5) (pM 49) <|
 aWZ)
noncomputable def f93_r11 (c : CallF) : RF := rg [0, 2, 3, 5, 6, 7, 55] <| aX 50 (pM 6) <|
 aX 51 (pB .gtr 39 50 (cn (.int .i8 0))) <|
 aX 52 (pM 51) <|
 aX 53 (pG 52 true (pM 0)) <|
 aX 54 (pG 52 true (pK c false 122 [53, (cn (.int .i64 2))])) <|
 aX 55 (pP 52 54 (cn (.bool false))) <|
 aXZ
noncomputable def f93_r12 (c : CallF) : RF := rg [0, 2, 3, 5, 6, 7] <| aX 56 (pM 6) <|
 aX 57 (pB .sub 39 56 (cn (.int .i8 1))) <|
 aX 6 (pM 57) <|
 aXZ
noncomputable def f93_r13 (c : CallF) : RF := rg [2] <| aX 58 (pL true 18 3) <|
 aX0 (pS 18 2 58) <|
 aXZ
noncomputable def f93_l7 (c : CallF) (k : Nat) : St :=
 (bSeq (bSeq (bReg (f93_r7 c))
 (bCond (.tmp 28) (bEx .nrm) (bEx (.ext 0))))
 (bSeq (bBlock 1 (bSeq (bReg (f93_r9 c))
 (bSeq (bReg (f93_r10 c))
 (bSeq (bReg (f93_r11 c))
 (bCond (.tmp 55) (bReg (f93_r12 c)) (bEx .nrm))))))
 (bReg (f93_r8 c))))
noncomputable def f93 (c : CallF) (k : Nat) : St :=
 (bSeq (bReg (f93_r0 c))
 (bSeq (bReg (f93_r1 c))
 (bSeq (bReg (f93_r2 c))
 (bSeq (bReg (f93_r3 c))
 (bSeq (bReg (f93_r4 c))
 (bSeq (bReg (f93_r5 c))
 (bSeq (bSeq (bReg (f93_r6 c))
 (bBlock 0 (bLoop [0, 2, 3, 5, 6, 7] (f93_l7 c k) k)))
 (bSeq (bReg (f93_r13 c))
 (bEx .ret)))))))))
theorem f93_eq (c : CallF) (k : Nat) : exec cx c 59 f93_an k (Tryd.f93.body.getD .skip) = f93 c k := by kernel_rfl
/-! ### f94: loop.example/g01263/spec.StartChain -/
def f94_an : Ann := ⟨[(0, r0 [2, 3, 4, 6]), (1, r0 [2, 3, 4, 6, 10]), (2, r0 [6, 7]), (3, r0 [2, 3, 4, 6, 14]), (4, r0 [6, 7]), (5, r0 [2, 3, 4, 6, 30]), (6, r0 [6, 7]), (7, r0 [2, 3, 4, 6, 8]), (8, ⟨[], [], [], [8, 9], [6, 7], none, []⟩)], []⟩
noncomputable def f94_r0 (c : CallF) : RF := rg [2, 3, 4, 6] <| aX 3 (pBox 18 0) <|
 aX 4 (pBox 2 1) <|
 aX 6 (pAl 55 20) <|
 aX 7 (pM (cn (.int .i64 0))) <|
 aXZ
noncomputable def f94_r1 (c : CallF) : RF := rg [2, 3, 4, 6, 10] <| aX 9 (pK c false 125 [3]) <|
 aX 10 (pU .not 9) <|
 aXZ
noncomputable def f94_r2 (c : CallF) : RF := rg [6, 7] <| aX 11 (fun n e M => keep (aBuild (zeroOf cx.P 55) [] M)) <|
 aX0 (pS 20 6 11) <|
 aX 7 (pM (cn (.int .i64 1))) <|
 aXZ
noncomputable def f94_r3 (c : CallF) : RF := rg [2, 3, 4, 6, 14] <| aX 12 (pF 0 1 3) <|
 aX 13 (pL false 1 12) <|
 aX 14 (pU .not 13) <|
 aXZ
noncomputable def f94_r4 (c : CallF) : RF := rg [6, 7] <| aX 15 (fun n e M => keep (aBuild (zeroOf cx.P 55) [] M)) <|
 aX0 (pS 20 6 15) <|
 aX 7 (pM (cn (.int .i64 4))) <|
 aXZ
noncomputable def f94_r5 (c : CallF) : RF := rg [2, 3, 4, 6, 30] <| aX 16 (pF 0 1 4) <|
 aX 17 (pL false 1 16) <|
 aX 18 (pK c false 98 [17]) <|
 aX 19 (pU .not 18) <|
 aX 20 (pM 19) <|
 aX 21 (pG 20 false (pM 2)) <|
 aX 22 (pG 20 false (pK c false 98 [21])) <|
 aX 23 (pG 20 false (pU .not 22)) <|
 aX 24 (pP 20 (cn (.bool true)) 23) <|
 aX 25 (pM 24) <|
 aX 26 (pG 25 false (pF 0 1 4)) <|
 aX 27 (pG 25 false (pL false 1 26)) <|
 aX 28 (pG 25 false (pM 2)) <|
 aX 29 (pG 25 false (pB .eql 9 27 28)) <|
 aX 30 (pP 25 (cn (.bool true)) 29) <|
 aXZ
noncomputable def f94_r6 (c : CallF) : RF := rg [6, 7] <| aX 31 (fun n e M => keep (aBuild (zeroOf cx.P 55) [] M)) <|
 aX0 (pS 20 6 31) <|
 aX 7 (pM (cn (.int .i64 2))) <|
 aXZ
noncomputable def f94_r7 (c : CallF) : RF := rg [2, 3, 4, 6, 8] <| aX 32 (pM 2) <|
 aX 33 (pF 1 1 4) <|
 aX 34 (pL false 1 33) <|
 aX 35 (pK c false 126 [3, (cn (.int .u32 0)), 32, 34]) <|
 aX 8 (pM 35) <|
 aXZ
noncomputable def f94_r8 (c : CallF) : RF := rgD [6, 7] (aY 36 (pF 0 1 4) <|
 aY 37 (pL false 1 36) <|
 aY 38 (pK c false 127 [3]) <|
 aY 39 (pM 2) <|
 aY 40 (pM 8) <|
 aY 41 (fun n e M => keep (aBuild (zeroOf cx.P 60) [(0, 1, (eget e 39)), (1, 1, (eget e 40))] M)) <|
 aY 42 (fun n e M => keep (aLitI 60 2 [(eget e 41)] M)) <|
 aY 43 (fun n e M => keep (aBuild (zeroOf cx.P 55) [(0, 1, (eget e 37)), (1, 18, (eget e 38)), (19, 1, (eget e 42))] M)) <|
 aYZ)
 (aX0 (pS 20 6 43) <|
 aX 7 (pM (cn (.int .i64 0))) <|
 aXZ)
noncomputable def f94 (c : CallF) (k : Nat) : St :=
 (bSeq (bReg (f94_r0 c))
 (bSeq (bSeq (bReg (f94_r1 c))
 (bCond (.tmp 10) (bSeq (bReg (f94_r2 c))
 (bEx .ret)) (bEx .nrm)))
 (bSeq (bSeq (bReg (f94_r3 c))
 (bCond (.tmp 14) (bSeq (bReg (f94_r4 c))
 (bEx .ret)) (bEx .nrm)))
 (bSeq (bSeq (bReg (f94_r5 c))
 (bCond (.tmp 30) (bSeq (bReg (f94_r6 c))
 (bEx .ret)) (bEx .nrm)))
 (bSeq (bReg (f94_r7 c))
 (bSeq (bReg (f94_r8 c))
 (bEx .ret)))))))
theorem f94_eq (c : CallF) (k : Nat) : exec cx c 44 f94_an k (Tryd.f94.body.getD .skip) = f94 c k := by kernel_rfl
/-! ### f95: loop.example/g01263/spec.PassOn -/
def f95_an : Ann := ⟨[(0, r0 [2, 3, 4, 6]), (1, r0 [2, 3, 4, 6, 11]), (2, r0 [6, 7]), (3, r0 [2, 3, 4, 6, 8]), (4, r0 [2, 3, 4, 6, 8, 18]), (5, r0 [6, 7]), (6, r0 [2, 3, 4, 6, 8, 28]), (7, r0 [6, 7]), (8, r0 [2, 3, 4, 6, 8, 33]), (9, r0 [6, 7]), (10, r0 [3, 6, 9]), (11, ⟨[4, 7, 10], [3], [0, 1, 9], [7, 10, 11, 12, 13], [6, 7], some [8], []⟩)], []⟩
noncomputable def f95_r0 (c : CallF) : RF := rg [2, 3, 4, 6] <| aX 3 (pBox 20 0) <|
 aX 4 (pBox 2 1) <|
 aX 6 (pAl 55 20) <|
 aX 7 (pM (cn (.int .i64 0))) <|
 aXZ
noncomputable def f95_r1 (c : CallF) : RF := rg [2, 3, 4, 6, 11] <| aX 10 (pK c false 105 [3]) <|
 aX 11 (pU .not 10) <|
 aXZ
noncomputable def f95_r2 (c : CallF) : RF := rg [6, 7] <| aX 12 (fun n e M => keep (aBuild (zeroOf cx.P 55) [] M)) <|
 aX0 (pS 20 6 12) <|
 aX 7 (pM (cn (.int .i64 1))) <|
 aXZ
noncomputable def f95_r3 (c : CallF) : RF := rg [2, 3, 4, 6, 8] <| aX 13 (pK c false 128 [3]) <|
 aX 8 (pAl 60 2) <|
 aX0 (pS 2 8 13) <|
 aXZ
noncomputable def f95_r4 (c : CallF) : RF := rg [2, 3, 4, 6, 8, 18] <| aX 14 (pF 0 1 4) <|
 aX 15 (pL false 1 14) <|
 aX 16 (pF 0 1 8) <|
 aX 17 (pL false 1 16) <|
 aX 18 (pB .neq 9 15 17) <|
 aXZ
noncomputable def f95_r5 (c : CallF) : RF := rg [6, 7] <| aX 19 (fun n e M => keep (aBuild (zeroOf cx.P 55) [] M)) <|
 aX0 (pS 20 6 19) <|
 aX 7 (pM (cn (.int .i64 4))) <|
 aXZ
noncomputable def f95_r6 (c : CallF) : RF := rg [2, 3, 4, 6, 8, 28] <| aX 20 (pM 2) <|
 aX 21 (pK c false 98 [20]) <|
 aX 22 (pU .not 21) <|
 aX 23 (pM 22) <|
 aX 24 (pG 23 false (pM 2)) <|
 aX 25 (pG 23 false (pF 0 1 4)) <|
 aX 26 (pG 23 false (pL false 1 25)) <|
 aX 27 (pG 23 false (pB .eql 9 24 26)) <|
 aX 28 (pP 23 (cn (.bool true)) 27) <|
 aXZ
noncomputable def f95_r7 (c : CallF) : RF := rg [6, 7] <| aX 29 (fun n e M => keep (aBuild (zeroOf cx.P 55) [] M)) <|
 aX0 (pS 20 6 29) <|
 aX 7 (pM (cn (.int .i64 2))) <|
 aXZ
noncomputable def f95_r8 (c : CallF) : RF := rg [2, 3, 4, 6, 8, 33] <| aX 30 (pF 19 1 3) <|
 aX 31 (pL false 1 30) <|
 aX 32 (pLen 53 31) <|
 aX 33 (pB .geq 3 32 (cn (.int .i64 30))) <|
 aXZ
noncomputable def f95_r9 (c : CallF) : RF := rg [6, 7] <| aX 34 (fun n e M => keep (aBuild (zeroOf cx.P 55) [] M)) <|
 aX0 (pS 20 6 34) <|
 aX 7 (pM (cn (.int .i64 3))) <|
 aXZ
noncomputable def f95_r10 (c : CallF) : RF := rg [3, 6, 9] <| aX 35 (pM 2) <|
 aX 36 (pF 1 18 3) <|
 aX 37 (pF 1 1 8) <|
 aX 38 (pL false 1 37) <|
 aX 39 (pM 2) <|
 aX 40 (pF 1 1 4) <|
 aX 41 (pL false 1 40) <|
 aX 42 (pK c false 126 [36, 38, 39, 41]) <|
 aX 43 (fun n e M => keep (aBuild (zeroOf cx.P 60) [(0, 1, (eget e 35)), (1, 1, (eget e 42))] M)) <|
 aX 9 (pAl 60 2) <|
 aX0 (pS 2 9 43) <|
 aXZ
noncomputable def f95_r11 (c : CallF) : RF := rgS [6, 7] (aQc 0 false (some 44) (pF 0 1 3) <|
 aQc 1 false (some 45) (pL false 1 44) <|
 aQ 2 false (some 46) (pF 1 18 3) <|
 aQ 3 false (some 47) (pK c true 127 [46]) <|
 aQ 4 false (some 48) (fun n e M => aLitO false n 60 2 [] M) <|
 aQ 5 false (some 49) (pF 19 1 3) <|
 aQ 6 false (some 50) (pL false 1 49) <|
 aQs 8 false (some 52) (pL true 2 9) <|
 aQc 9 false (some 53) (fun n e M => keep (aLitI 60 2 [(eget e 52)] M)) <|
 aQZ)
 (aW [2, 3, 4, 5, 6] (some 51) (fun n e M => aAppO n 60 2 24 (eget e 48) (eget e 50) M) <|
 aW [2, 3, 4, 5, 6, 7, 8, 9] (some 54) (fun n e M => aAppO n 60 2 24 (eget e 51) (eget e 53) M) <|
 aW [0, 1, 2, 3, 4, 5, 6, 7, 8, 9, 10] (some 55) (fun n e M => keep (aBuild (zeroOf cx.P 55) [(0, 1, (eget e 45)), (1, 18, (eget e 47)), (19, 1, (eget e 54))] M)) <|
 aW [0, 1, 2, 3, 4, 5, 6, 7, 8, 9, 10, 11] none (pS 20 6 55) <|
 aW [0, 1, 2, 3, 4, 5, 6, 7, 8, 9, 10, 11, 12] (some 7) (pM (cn (.int .i64 0))) <|
 aWZ)
noncomputable def f95 (c : CallF) (k : Nat) : St :=
 (bSeq (bReg (f95_r0 c))
 (bSeq (bSeq (bReg (f95_r1 c))
 (bCond (.tmp 11) (bSeq (bReg (f95_r2 c))
 (bEx .ret)) (bEx .nrm)))
 (bSeq (bReg (f95_r3 c))
 (bSeq (bSeq (bReg (f95_r4 c))
 (bCond (.tmp 18) (bSeq (bReg (f95_r5 c))
 (bEx .ret)) (bEx .nrm)))
 (bSeq (bSeq (bReg (f95_r6 c))
 (bCond (.tmp 28) (bSeq (bReg (f95_r7 c))
 (bEx .ret)) (bEx .nrm)))
 (bSeq (bSeq (bReg (f95_r8 c))
 (bCond (.tmp 33) (bSeq (bReg (f95_r9 c))
 (bEx .ret)) (bEx .nrm)))
 (bSeq (bReg (f95_r10 c))
 (bSeq (bReg (f95_r11 c))
 (bEx .ret)))))))))
theorem f95_eq (c : CallF) (k : Nat) : exec cx c 56 f95_an k (Tryd.f95.body.getD .skip) = f95 c k := by kernel_rfl
/-! ### f96: (*loop.example/g01263/spec.l00Src).next -/
def f96_an : Ann := ⟨[(0, r0 [0]), (1, r0 [0, 3]), (2, r0 [0, 3, 13]), (3, r0 [0, 3]), (4, r0 [0, 3]), (5, r0 [0, 3]), (6, r0 [0, 3, 53]), (7, r0 [2]), (8, r0 [2])], []⟩
noncomputable def f96_r0 (c : CallF) : RF := rg [0] <| aX 2 (pM (cn (.int .i64 0))) <|
 aXZ
noncomputable def f96_r1 (c : CallF) : RF := rg [0, 3] <| aX 3 (pM (cn (.int .i64 0))) <|
 aXZ
noncomputable def f96_r2 (c : CallF) : RF := rgD [0, 3, 13] (aY 4 (pM 0) <|
 aY 5 (pN 4) <|
 aY 6 (pF 1 1 5) <|
 aY 7 (pL false 1 6) <|
 aY 8 (pM 0) <|
 aY 9 (pN 8) <|
 aY 10 (pF 0 1 9) <|
 aY 11 (pL false 1 10) <|
 aY 12 (pLen 22 11) <|
 aY 13 (pB .lss 3 7 12) <|
 aYZ)
 (aXZ)
noncomputable def f96_r3 (c : CallF) : RF := rgD [0, 3] (aY 14 (pM 0) <|
 aY 15 (pN 14) <|
 aY 16 (pF 0 1 15) <|
 aY 17 (pL false 1 16) <|
 aY 18 (pM 0) <|
 aY 19 (pN 18) <|
 aY 20 (pF 1 1 19) <|
 aY 21 (pL false 1 20) <|
 aY 22 (pI 1 17 21) <|
 aY 23 (pL false 1 22) <|
 aY 24 (fun n e M => keep (aConvI .i64 (eget e 23))) <|
 aY 3 (pM 24) <|
 aYZ)
 (aXZ)
noncomputable def f96_r4 (c : CallF) : RF := rg [0, 3] <| aX 25 (pM 0) <|
 aX 26 (pN 25) <|
 aX 27 (pF 1 1 26) <|
 aX 28 (pL false 1 27) <|
 aX 29 (pB .add 3 28 (cn (.int .i64 1))) <|
 aX 30 (pN 25) <|
 aX 31 (pF 1 1 30) <|
 aX0 (pS 1 31 29) <|
 aXZ
noncomputable def f96_r5 (c : CallF) : RF := rg [0, 3] <| aX 32 (pM 0) <|
 aX 33 (pM 0) <|
 aX 34 (pN 33) <|
 aX 35 (pF 2 1 34) <|
 aX 36 (pL false 1 35) <|
 aX 37 (pB .mul 123 36 (cn (.int .u64 6364136223846793005))) <|
 aX 38 (pM 3) <|
 aX 39 (fun n e M => keep (aConvI .u64 (eget e 38))) <|
 aX 40 (pB .add 123 37 39) <|
 aX 41 (pB .add 123 40 (cn (.int .u64 1442695040888963407))) <|
 aX 42 (pN 32) <|
 aX 43 (pF 2 1 42) <|
 aX0 (pS 1 43 41) <|
 aXZ
noncomputable def f96_r6 (c : CallF) : RF := rgD [0, 3, 53] (aY 44 (pM 0) <|
 aY 45 (pN 44) <|
 aY 46 (pF 1 1 45) <|
 aY 47 (pL false 1 46) <|
 aY 48 (pM 0) <|
 aY 49 (pN 48) <|
 aY 50 (pF 0 1 49) <|
 aY 51 (pL false 1 50) <|
 aY 52 (pLen 22 51) <|
 aY 53 (pB .leq 3 47 52) <|
 aYZ)
 (aXZ)
noncomputable def f96_r7 (c : CallF) : RF := rg [2] <| aX 54 (pM 3) <|
 aX 2 (pM 54) <|
 aXZ
noncomputable def f96_r8 (c : CallF) : RF := rg [2] <| aX 55 (pM 0) <|
 aX 56 (pN 55) <|
 aX 57 (pF 2 1 56) <|
 aX 58 (pL false 1 57) <|
 aX 59 (pB .shr 123 58 (cn (.int .u64 40))) <|
 aX 60 (pB .and 123 59 (cn (.int .u64 255))) <|
 aX 61 (fun n e M => keep (aConvI .i64 (eget e 60))) <|
 aX 2 (pM 61) <|
 aXZ
noncomputable def f96 (c : CallF) (k : Nat) : St :=
 (bSeq (bReg (f96_r0 c))
 (bSeq (bReg (f96_r1 c))
 (bSeq (bSeq (bReg (f96_r2 c))
 (bCond (.tmp 13) (bReg (f96_r3 c)) (bEx .nrm)))
 (bSeq (bReg (f96_r4 c))
 (bSeq (bReg (f96_r5 c))
 (bSeq (bSeq (bReg (f96_r6 c))
 (bCond (.tmp 53) (bSeq (bReg (f96_r7 c))
 (bEx .ret)) (bEx .nrm)))
 (bSeq (bReg (f96_r8 c))
 (bEx .ret))))))))
theorem f96_eq (c : CallF) (k : Nat) : exec cx c 62 f96_an k (Tryd.f96.body.getD .skip) = f96 c k := by kernel_rfl
/-! ### f97: slices.Equal[[]loop.example/g01263/impl.Notch,loop.example/g01263/impl.Notch] -/
def f97_an : Ann := ⟨[(0, r0 [0, 1]), (1, r0 [0, 1, 10]), (2, r0 [4]), (3, r0 [0, 1, 12, 13]), (4, r0 [0, 1, 12, 13, 14]), (5, r0 [0, 1, 5, 12, 13]), (6, r0 [0, 1, 12, 13, 24]), (7, r0 [4]), (8, r0 [0, 1, 12, 13]), (9, r0 [4])], [(4, [0, 1, 12, 13])]⟩
noncomputable def f97_r0 (c : CallF) : RF := rg [0, 1] <| aX 4 (pM (cn (.bool false))) <|
 aXZ
noncomputable def f97_r1 (c : CallF) : RF := rg [0, 1, 10] <| aX 6 (pM 0) <|
 aX 7 (pLen 48 6) <|
 aX 8 (pM 1) <|
 aX 9 (pLen 48 8) <|
 aX 10 (pB .neq 3 7 9) <|
 aXZ
noncomputable def f97_r2 (c : CallF) : RF := rg [4] <| aX 4 (pM (cn (.bool false))) <|
 aXZ
noncomputable def f97_r3 (c : CallF) : RF := rg [0, 1, 12, 13] <| aX 11 (pM 0) <|
 aX 12 (pLen 48 11) <|
 aX 13 (pM (cn (.int .i64 0))) <|
 aXZ
noncomputable def f97_r4 (c : CallF) : RF := rg [0, 1, 12, 13, 14] <| aX 14 (pB .lss 3 13 12) <|
 aXZ
noncomputable def f97_r5 (c : CallF) : RF := rg [0, 1, 5, 12, 13] <| aX 15 (pM 13) <|
 aX 5 (pM 15) <|
 aXZ
noncomputable def f97_r6 (c : CallF) : RF := rgD [0, 1, 12, 13, 24] (aY 16 (pM 0) <|
 aY 17 (pM 5) <|
 aY 18 (pI 2 16 17) <|
 aY 19 (pL true 2 18) <|
 aY 20 (pM 1) <|
 aY 21 (pM 5) <|
 aY 22 (pI 2 20 21) <|
 aY 23 (pL true 2 22) <|
 aY 24 (pB .neq 141 19 23) <|
 aYZ)
 (aXZ)
noncomputable def f97_r7 (c : CallF) : RF := rg [4] <| aX 4 (pM (cn (.bool false))) <|
 aXZ
noncomputable def f97_r8 (c : CallF) : RF := rg [0, 1, 12, 13] <| aX 25 (pB .add 3 13 (cn (.int .i64 1))) <|
 aX 13 (pM 25) <|
 aXZ
noncomputable def f97_r9 (c : CallF) : RF := rg [4] <| aX 4 (pM (cn (.bool true))) <|
 aXZ
noncomputable def f97_l4 (c : CallF) (k : Nat) : St :=
 (bSeq (bReg (f97_r4 c))
 (bSeq (bCond (.tmp 14) (bEx .nrm) (bEx (.ext 0)))
 (bSeq (bBlock 1 (bSeq (bReg (f97_r5 c))
 (bSeq (bReg (f97_r6 c))
 (bCond (.tmp 24) (bSeq (bReg (f97_r7 c))
 (bEx .ret)) (bEx .nrm)))))
 (bReg (f97_r8 c)))))
noncomputable def f97 (c : CallF) (k : Nat) : St :=
 (bSeq (bReg (f97_r0 c))
 (bSeq (bSeq (bReg (f97_r1 c))
 (bCond (.tmp 10) (bSeq (bReg (f97_r2 c))
 (bEx .ret)) (bEx .nrm)))
 (bSeq (bSeq (bReg (f97_r3 c))
 (bBlock 0 (bLoop [0, 1, 12, 13] (f97_l4 c k) k)))
 (bSeq (bReg (f97_r9 c))
 (bEx .ret)))))
theorem f97_eq (c : CallF) (k : Nat) : exec cx c 26 f97_an k (Tryd.f97.body.getD .skip) = f97 c k := by kernel_rfl
/-! ### f98: loop.example/g01263/spec.l06Name -/
def f98_an : Ann := ⟨[(0, r0 [0]), (1, r0 [0, 3]), (2, r0 [0, 3, 7]), (3, r0 [0, 3]), (4, r0 [0, 3, 19]), (5, r0 [2]), (6, r0 [2])], [(2, [0, 3])]⟩
noncomputable def f98_r0 (c : CallF) : RF := rg [0] <| aX 2 (pM (cn (.bool false))) <|
 aXZ
noncomputable def f98_r1 (c : CallF) : RF := rg [0, 3] <| aX 3 (pM (cn (.int .i64 0))) <|
 aXZ
noncomputable def f98_r2 (c : CallF) : RF := rg [0, 3, 7] <| aX 4 (pM 3) <|
 aX 5 (pM 0) <|
 aX 6 (pLen 9 5) <|
 aX 7 (pB .lss 3 4 6) <|
 aXZ
noncomputable def f98_r3 (c : CallF) : RF := rg [0, 3] <| aX 8 (pM 3) <|
 aX 9 (pB .add 3 8 (cn (.int .i64 1))) <|
 aX 3 (pM 9) <|
 aXZ
noncomputable def f98_r4 (c : CallF) : RF := rg [0, 3, 19] <| aX 10 (pM 0) <|
 aX 11 (pM 3) <|
 aX 12 (fun n e M => keep (aIndexB (eget e 10) (eget e 11))) <|
 aX 13 (pB .lss 5 12 (cn (.int .u8 97))) <|
 aX 14 (pM 13) <|
 aX 15 (pG 14 false (pM 0)) <|
 aX 16 (pG 14 false (pM 3)) <|
 aX 17 (pG 14 false (fun n e M => keep (aIndexB (eget e 15) (eget e 16)))) <|
 aX 18 (pG 14 false (pB .gtr 5 17 (cn (.int .u8 122)))) <|
 aX 19 (pP 14 (cn (.bool true)) 18) <|
 aXZ
noncomputable def f98_r5 (c : CallF) : RF := rg [2] <| aX 2 (pM (cn (.bool false))) <|
 aXZ
noncomputable def f98_r6 (c : CallF) : RF := rg [2] <| aX 20 (pM 0) <|
 aX 21 (pB .neq 9 20 (cn (.str []))) <|
 aX 22 (pM 21) <|
 aX 23 (pG 22 true (pM 0)) <|
 aX 24 (pG 22 true (pLen 9 23)) <|
 aX 25 (pG 22 true (pB .leq 3 24 (cn (.int .i64 12)))) <|
 aX 26 (pP 22 25 (cn (.bool false))) <|
 aX 2 (pM 26) <|
 aXZ
noncomputable def f98_l2 (c : CallF) (k : Nat) : St :=
 (bSeq (bSeq (bReg (f98_r2 c))
 (bCond (.tmp 7) (bEx .nrm) (bEx (.ext 0))))
 (bSeq (bBlock 1 (bSeq (bReg (f98_r4 c))
 (bCond (.tmp 19) (bSeq (bReg (f98_r5 c))
 (bEx .ret)) (bEx .nrm))))
 (bReg (f98_r3 c))))
noncomputable def f98 (c : CallF) (k : Nat) : St :=
 (bSeq (bReg (f98_r0 c))
 (bSeq (bSeq (bReg (f98_r1 c))
 (bBlock 0 (bLoop [0, 3] (f98_l2 c k) k)))
 (bSeq (bReg (f98_r6 c))
 (bEx .ret))))
theorem f98_eq (c : CallF) (k : Nat) : exec cx c 27 f98_an k (Tryd.f98.body.getD .skip) = f98 c k := by kernel_rfl
/-! ### f99: loop.example/g01263/impl.ValidGrain -/
def f99_an : Ann := ⟨[(0, r0 [1]), (1, r0 [5, 6]), (2, r0 [5, 6, 7]), (3, r0 [4, 5, 6]), (4, r0 [5, 6, 14]), (5, r0 [2]), (6, r0 [5, 6]), (7, r0 [2])], [(2, [5, 6])]⟩
noncomputable def f99_r0 (c : CallF) : RF := rg [1] <| aX 1 (pBox 16 0) <|
 aX 2 (pM (cn (.bool false))) <|
 aXZ
noncomputable def f99_r1 (c : CallF) : RF := rg [5, 6] <| aX 5 (pL true 16 1) <|
 aX 6 (pM (cn (.int .i64 0))) <|
 aXZ
noncomputable def f99_r2 (c : CallF) : RF := rg [5, 6, 7] <| aX 7 (pB .lss 3 6 (cn (.int .i64 16))) <|
 aXZ
noncomputable def f99_r3 (c : CallF) : RF := rg [4, 5, 6] <| aX 8 (fun n e M => keep (aIndexA false 16 1 (eget e 5) (eget e 6))) <|
 aX 4 (pM 8) <|
 aXZ
noncomputable def f99_r4 (c : CallF) : RF := rg [5, 6, 14] <| aX 9 (pM 4) <|
 aX 10 (pB .lss 39 9 (cn (.int .i8 (-3)))) <|
 aX 11 (pM 10) <|
 aX 12 (pG 11 false (pM 4)) <|
 aX 13 (pG 11 false (pB .gtr 39 12 (cn (.int .i8 3)))) <|
 aX 14 (pP 11 (cn (.bool true)) 13) <|
 aXZ
noncomputable def f99_r5 (c : CallF) : RF := rg [2] <| aX 2 (pM (cn (.bool false))) <|
 aXZ
noncomputable def f99_r6 (c : CallF) : RF := rg [5, 6] <| aX 15 (pB .add 3 6 (cn (.int .i64 1))) <|
 aX 6 (pM 15) <|
 aXZ
noncomputable def f99_r7 (c : CallF) : RF := rg [2] <| aX 2 (pM (cn (.bool true))) <|
 aXZ
noncomputable def f99_l2 (c : CallF) (k : Nat) : St :=
 (bSeq (bReg (f99_r2 c))
 (bSeq (bCond (.tmp 7) (bEx .nrm) (bEx (.ext 0)))
 (bSeq (bBlock 1 (bSeq (bReg (f99_r3 c))
 (bSeq (bReg (f99_r4 c))
 (bCond (.tmp 14) (bSeq (bReg (f99_r5 c))
 (bEx .ret)) (bEx .nrm)))))
 (bReg (f99_r6 c)))))
noncomputable def f99 (c : CallF) (k : Nat) : St :=
 (bSeq (bReg (f99_r0 c))
 (bSeq (bSeq (bReg (f99_r1 c))
 (bBlock 0 (bLoop [5, 6] (f99_l2 c k) k)))
 (bSeq (bReg (f99_r7 c))
 (bEx .ret))))
theorem f99_eq (c : CallF) (k : Nat) : exec cx c 16 f99_an k (Tryd.f99.body.getD .skip) = f99 c k := by kernel_rfl
/-! ### f100: loop.example/g01263/impl.isKind -/
def f100_an : Ann := ⟨[(0, r0 [0]), (1, r0 [2])], []⟩
noncomputable def f100_r0 (c : CallF) : RF := rg [0] <| aX 2 (pM (cn (.bool false))) <|
 aXZ
noncomputable def f100_r1 (c : CallF) : RF := rg [2] <| aX 3 (pM 0) <|
 aX 4 (pB .geq 2 3 (cn (.int .i64 0))) <|
 aX 5 (pM 4) <|
 aX 6 (pG 5 true (pM 0)) <|
 aX 7 (pG 5 true (pB .leq 2 6 (cn (.int .i64 5)))) <|
 aX 8 (pP 5 7 (cn (.bool false))) <|
 aX 2 (pM 8) <|
 aXZ
noncomputable def f100 (c : CallF) (k : Nat) : St :=
 (bSeq (bReg (f100_r0 c))
 (bSeq (bReg (f100_r1 c))
 (bEx .ret)))
theorem f100_eq (c : CallF) (k : Nat) : exec cx c 9 f100_an k (Tryd.f100.body.getD .skip) = f100 c k := by kernel_rfl
/-! ### f101: (loop.example/g01263/impl.Notch).end -/
def f101_an : Ann := ⟨[(0, r0 [1]), (1, r0 [2])], []⟩
noncomputable def f101_r0 (c : CallF) : RF := rg [1] <| aX 1 (pBox 2 0) <|
 aX 2 (pM (cn (.int .i64 0))) <|
 aXZ
noncomputable def f101_r1 (c : CallF) : RF := rgD [2] (aY 3 (pF 1 1 1) <|
 aY 4 (pL false 1 3) <|
 aY 5 (fun n e M => keep (aConvI .i64 (eget e 4))) <|
 aY 6 (pF 0 1 1) <|
 aY 7 (pL false 1 6) <|
 aY 8 (fun n e M => keep (aConvI .i64 (eget e 7))) <|
 aY 9 (pK c false 129 [8]) <|
 aY 10 (pB .add 2 5 9) <|
 aY 2 (pM 10) <|
 aYZ)
 (aXZ)
noncomputable def f101 (c : CallF) (k : Nat) : St :=
 (bSeq (bReg (f101_r0 c))
 (bSeq (bReg (f101_r1 c))
 (bEx .ret)))
theorem f101_eq (c : CallF) (k : Nat) : exec cx c 11 f101_an k (Tryd.f101.body.getD .skip) = f101 c k := by kernel_rfl
/-! ### f102: slices.Clone[[]loop.example/g01263/impl.Notch,loop.example/g01263/impl.Notch] -/
def f102_an : Ann := ⟨[(0, r0 [0]), (1, r0 [0, 4]), (2, r0 [2]), (3, r0 [2])], []⟩
noncomputable def f102_r0 (c : CallF) : RF := rg [0] <| aX 2 (pM (cn .nils)) <|
 aXZ
noncomputable def f102_r1 (c : CallF) : RF := rg [0, 4] <| aX 3 (pM 0) <|
 aX 4 (pB .eql 48 3 (cn .nils)) <|
 aXZ
noncomputable def f102_r2 (c : CallF) : RF := rg [2] <| aX 2 (pM (cn .nils)) <|
 aXZ
noncomputable def f102_r3 (c : CallF) : RF := rg [2] <| aX 5 (fun n e M => keep (aLitI 141 2 [] M)) <|
 aX 6 (pM 0) <|
 aX 7 (fun n e M => aAppI 141 2 4 (eget e 5) (eget e 6) M) <|
 aX 2 (pM 7) <|
 aXZ
noncomputable def f102 (c : CallF) (k : Nat) : St :=
 (bSeq (bReg (f102_r0 c))
 (bSeq (bSeq (bReg (f102_r1 c))
 (bCond (.tmp 4) (bSeq (bReg (f102_r2 c))
 (bEx .ret)) (bEx .nrm)))
 (bSeq (bReg (f102_r3 c))
 (bEx .ret))))
theorem f102_eq (c : CallF) (k : Nat) : exec cx c 8 f102_an k (Tryd.f102.body.getD .skip) = f102 c k := by kernel_rfl
/-! ### f103: loop.example/g01263/impl.halfText -/
def f103_an : Ann := ⟨[(0, r0 [1]), (1, r0 [1, 3]), (2, r0 [1, 3, 11]), (3, r0 [1, 3]), (4, ⟨[0], [], [], [], [1, 3, 4], none, []⟩), (5, r0 [1, 3, 4, 14, 15]), (6, r0 [1, 3, 4, 14, 15, 16]), (7, r0 [1, 3, 4, 6, 14, 15]), (8, ⟨[5], [], [], [], [1, 3, 4, 14, 15], none, []⟩), (9, r0 [1, 3, 4, 14, 15]), (10, ⟨[3], [], [], [], [1, 7], none, []⟩), (11, r0 [7, 30, 31, 32]), (12, r0 [7, 30, 31, 32, 33]), (13, r0 [7, 9, 30, 31, 32]), (14, ⟨[13], [], [], [13, 14], [7, 30, 31, 32], none, []⟩), (15, r0 [7, 30, 31, 32]), (16, r0 [2])], [(6, [1, 3, 4, 14, 15]), (12, [7, 30, 31, 32])]⟩
noncomputable def f103_r0 (c : CallF) : RF := rg [1] <| aX 1 (pBox 18 0) <|
 aX 2 (pM (cn (.str []))) <|
 aXZ
noncomputable def f103_r1 (c : CallF) : RF := rg [1, 3] <| aX 3 (pM (cn (.str [102, 111, 105, 108]))) <|
 aXZ
noncomputable def f103_r2 (c : CallF) : RF := rg [1, 3, 11] <| aX 10 (pF 0 1 1) <|
 aX 11 (pL false 1 10) <|
 aXZ
noncomputable def f103_r3 (c : CallF) : RF := rg [1, 3] <| aX 3 (pM (cn (.str [115, 116, 111, 99, 107]))) <|
 aXZ
noncomputable def f103_r4 (c : CallF) : RF := rg [1, 3, 4] <| aX 12 (fun n e M => aLitO false n 5 1 [] M) <|
 aX 4 (pM 12) <|
 aXZ
noncomputable def f103_r5 (c : CallF) : RF := rg [1, 3, 4, 14, 15] <| aX 13 (pF 2 16 1) <|
 aX 14 (pL true 16 13) <|
 aX 15 (pM (cn (.int .i64 0))) <|
 aXZ
noncomputable def f103_r6 (c : CallF) : RF := rg [1, 3, 4, 14, 15, 16] <| aX 16 (pB .lss 3 15 (cn (.int .i64 16))) <|
 aXZ
noncomputable def f103_r7 (c : CallF) : RF := rg [1, 3, 4, 6, 14, 15] <| aX 17 (fun n e M => keep (aIndexA false 16 1 (eget e 14) (eget e 15))) <|
 aX 6 (pM 17) <|
 aXZ
noncomputable def f103_r8 (c : CallF) : RF := rg [1, 3, 4, 14, 15] <| aX 18 (pM 4) <|
 aX 19 (pM 6) <|
 aX 20 (pB .add 39 (cn (.int .i8 100)) 19) <|
 aX 21 (fun n e M => keep (aConvI .u8 (eget e 20))) <|
 aX 22 (fun n e M => keep (aLitI 5 1 [(eget e 21)] M)) <|
 aX 23 (fun n e M => aAppO n 5 1 1 (eget e 18) (eget e 22) M) <|
 aX 4 (pM 23) <|
 aXZ
noncomputable def f103_r9 (c : CallF) : RF := rg [1, 3, 4, 14, 15] <| aX 24 (pB .add 3 15 (cn (.int .i64 1))) <|
 aX 15 (pM 24) <|
 aXZ
noncomputable def f103_r10 (c : CallF) : RF := rg [1, 7] <| aX 25 (pM 3) <|
 aX 26 (pM 4) <|
 aX 27 (fun n e M => keep (aConvB (eget e 26) M)) <|
 aX 28 (fun n e M => aLitO false n 9 1 [(eget e 25), (eget e 27)] M) <|
 aX 7 (pM 28) <|
 aXZ
noncomputable def f103_r11 (c : CallF) : RF := rg [7, 30, 31, 32] <| aX 29 (pF 1 1 1) <|
 aX 30 (pL false 1 29) <|
 aX 31 (pLen 48 30) <|
 aX 32 (pM (cn (.int .i64 0))) <|
 aXZ
noncomputable def f103_r12 (c : CallF) : RF := rg [7, 30, 31, 32, 33] <| aX 33 (pB .lss 3 32 31) <|
 aXZ
noncomputable def f103_r13 (c : CallF) : RF := rg [7, 9, 30, 31, 32] <| aX 34 (pI 2 30 32) <|
 aX 35 (pL true 2 34) <|
 aX 9 (pAl 141 2) <|
 aX0 (pS 2 9 35) <|
 aXZ
noncomputable def f103_r14 (c : CallF) : RF := rgD [7, 30, 31, 32] (aY 36 (pM 7) <|
 aY 37 (pF 0 1 9) <|
 aY 38 (pL false 1 37) <|
 aY 39 (pF 0 1 9) <|
 aY 40 (pL false 1 39) <|
 aY 41 (pB .add 39 40 (cn (.int .i8 1))) <|
 aY 42 (fun n e M => keep (aSliceS (some (eget e 38)) (some (eget e 41)) (.str [100, 115, 108, 118, 99, 109]))) <|
 aY 43 (pF 1 1 9) <|
 aY 44 (pL false 1 43) <|
 aY 45 (fun n e M => keep (aConvI .i64 (eget e 44))) <|
 aY 46 (pK c false 91 [45]) <|
 aY 47 (pB .add 9 42 46) <|
 aY 48 (fun n e M => keep (aLitI 9 1 [(eget e 47)] M)) <|
 aYZ)
 (aX 49 (fun n e M => aAppO n 9 1 16 (eget e 36) (eget e 48) M) <|
 aX 7 (pM 49) <|
 aXZ)
noncomputable def f103_r15 (c : CallF) : RF := rg [7, 30, 31, 32] <| aX 50 (pB .add 3 32 (cn (.int .i64 1))) <|
 aX 32 (pM 50) <|
 aXZ
noncomputable def f103_r16 (c : CallF) : RF := rg [2] <| aX 51 (pM 7) <|
 aX 52 (pK c false 90 [51, (cn (.str [32]))]) <|
 aX 2 (pM 52) <|
 aXZ
noncomputable def f103_l6 (c : CallF) (k : Nat) : St :=
 (bSeq (bReg (f103_r6 c))
 (bSeq (bCond (.tmp 16) (bEx .nrm) (bEx (.ext 0)))
 (bSeq (bBlock 1 (bSeq (bReg (f103_r7 c))
 (bReg (f103_r8 c))))
 (bReg (f103_r9 c)))))
noncomputable def f103_l12 (c : CallF) (k : Nat) : St :=
 (bSeq (bReg (f103_r12 c))
 (bSeq (bCond (.tmp 33) (bEx .nrm) (bEx (.ext 2)))
 (bSeq (bBlock 3 (bSeq (bReg (f103_r13 c))
 (bReg (f103_r14 c))))
 (bReg (f103_r15 c)))))
noncomputable def f103 (c : CallF) (k : Nat) : St :=
 (bSeq (bReg (f103_r0 c))
 (bSeq (bReg (f103_r1 c))
 (bSeq (bSeq (bReg (f103_r2 c))
 (bCond (.tmp 11) (bReg (f103_r3 c)) (bEx .nrm)))
 (bSeq (bReg (f103_r4 c))
 (bSeq (bSeq (bReg (f103_r5 c))
 (bBlock 0 (bLoop [1, 3, 4, 14, 15] (f103_l6 c k) k)))
 (bSeq (bReg (f103_r10 c))
 (bSeq (bSeq (bReg (f103_r11 c))
 (bBlock 2 (bLoop [7, 30, 31, 32] (f103_l12 c k) k)))
 (bSeq (bReg (f103_r16 c))
 (bEx .ret)))))))))
theorem f103_eq (c : CallF) (k : Nat) : exec cx c 53 f103_an k (Tryd.f103.body.getD .skip) = f103 c k := by kernel_rfl
/-! ### f104: loop.example/g01263/impl.four -/
def f104_an : Ann := ⟨[(0, r0 [0]), (1, r0 [2])], []⟩
noncomputable def f104_r0 (c : CallF) : RF := rg [0] <| aX 2 (pM (cn (.str []))) <|
 aXZ
noncomputable def f104_r1 (c : CallF) : RF := rg [2] <| aX 3 (pM 0) <|
 aX 4 (pB .shr 58 3 (cn (.int .u64 24))) <|
 aX 5 (fun n e M => keep (aConvI .u8 (eget e 4))) <|
 aX 6 (pM 0) <|
 aX 7 (pB .shr 58 6 (cn (.int .u64 16))) <|
 aX 8 (fun n e M => keep (aConvI .u8 (eget e 7))) <|
 aX 9 (pM 0) <|
 aX 10 (pB .shr 58 9 (cn (.int .u64 8))) <|
 aX 11 (fun n e M => keep (aConvI .u8 (eget e 10))) <|
 aX 12 (pM 0) <|
 aX 13 (fun n e M => keep (aConvI .u8 (eget e 12))) <|
 aX 14 (fun n e M => keep (aLitI 5 1 [(eget e 5), (eget e 8), (eget e 11), (eget e 13)] M)) <|
 aX 15 (fun n e M => keep (aConvB (eget e 14) M)) <|
 aX 2 (pM 15) <|
 aXZ
noncomputable def f104 (c : CallF) (k : Nat) : St :=
 (bSeq (bReg (f104_r0 c))
 (bSeq (bReg (f104_r1 c))
 (bEx .ret)))
theorem f104_eq (c : CallF) (k : Nat) : exec cx c 16 f104_an k (Tryd.f104.body.getD .skip) = f104 c k := by kernel_rfl
/-! ### f105: loop.example/g01263/spec.l06Ok -/
def f105_an : Ann := ⟨[(0, r0 [0]), (1, r0 [0, 34]), (2, r0 [2]), (3, r0 [0, 3]), (4, r0 [0, 3, 4]), (5, r0 [0, 3, 4, 45]), (6, r0 [0, 3, 4]), (7, r0 [0, 4, 69]), (8, r0 [2]), (9, r0 [0, 3, 4]), (10, r0 [2])], [(5, [0, 3, 4])]⟩
noncomputable def f105_r0 (c : CallF) : RF := rg [0] <| aX 2 (pM (cn (.bool false))) <|
 aXZ
noncomputable def f105_r1 (c : CallF) : RF := rg [0, 34] <| aX 5 (pM 0) <|
 aX 6 (pN 5) <|
 aX 7 (pF 0 1 6) <|
 aX 8 (pL false 1 7) <|
 aX 9 (pK c false 98 [8]) <|
 aX 10 (pU .not 9) <|
 aX 11 (pM 10) <|
 aX 12 (pG 11 false (pM 0)) <|
 aX 13 (pG 11 false (pN 12)) <|
 aX 14 (pG 11 false (pF 1 18 13)) <|
 aX 15 (pG 11 false (pK c false 125 [14])) <|
 aX 16 (pG 11 false (pU .not 15)) <|
 aX 17 (pP 11 (cn (.bool true)) 16) <|
 aX 18 (pM 17) <|
 aX 19 (pG 18 false (pM 0)) <|
 aX 20 (pG 18 false (pN 19)) <|
 aX 21 (pG 18 false (pF 1 18 20)) <|
 aX 22 (pG 18 false (pF 0 1 21)) <|
 aX 23 (pG 18 false (pL false 1 22)) <|
 aX 24 (pG 18 false (pU .not 23)) <|
 aX 25 (pP 18 (cn (.bool true)) 24) <|
 aX 26 (pM 25) <|
 aX 27 (pG 26 false (pM 0)) <|
 aX 28 (pG 26 false (pN 27)) <|
 aX 29 (pG 26 false (pF 19 1 28)) <|
 aX 30 (pG 26 false (pL false 1 29)) <|
 aX 31 (pG 26 false (pLen 53 30)) <|
 aX 32 (pG 26 false (pK c false 84 [31, (cn (.int .i64 1)), (cn (.int .i64 30))])) <|
 aX 33 (pG 26 false (pU .not 32)) <|
 aX 34 (pP 26 (cn (.bool true)) 33) <|
 aXZ
noncomputable def f105_r2 (c : CallF) : RF := rg [2] <| aX 2 (pM (cn (.bool false))) <|
 aXZ
noncomputable def f105_r3 (c : CallF) : RF := rg [0, 3] <| aX 35 (pM 0) <|
 aX 36 (pN 35) <|
 aX 37 (pF 0 1 36) <|
 aX 38 (pL false 1 37) <|
 aX 3 (pM 38) <|
 aXZ
noncomputable def f105_r4 (c : CallF) : RF := rg [0, 3, 4] <| aX 4 (pM (cn (.int .i64 0))) <|
 aXZ
noncomputable def f105_r5 (c : CallF) : RF := rg [0, 3, 4, 45] <| aX 39 (pM 4) <|
 aX 40 (pM 0) <|
 aX 41 (pN 40) <|
 aX 42 (pF 19 1 41) <|
 aX 43 (pL false 1 42) <|
 aX 44 (pLen 53 43) <|
 aX 45 (pB .lss 3 39 44) <|
 aXZ
noncomputable def f105_r6 (c : CallF) : RF := rg [0, 3, 4] <| aX 46 (pM 4) <|
 aX 47 (pB .add 3 46 (cn (.int .i64 1))) <|
 aX 4 (pM 47) <|
 aXZ
noncomputable def f105_r7 (c : CallF) : RF := rg [0, 4, 69] <| aX 48 (pM 0) <|
 aX 49 (pN 48) <|
 aX 50 (pF 19 1 49) <|
 aX 51 (pL false 1 50) <|
 aX 52 (pM 4) <|
 aX 53 (pI 2 51 52) <|
 aX 54 (pF 0 1 53) <|
 aX 55 (pL false 1 54) <|
 aX 56 (pK c false 98 [55]) <|
 aX 57 (pU .not 56) <|
 aX 58 (pM 57) <|
 aX 59 (pG 58 false (pM 0)) <|
 aX 60 (pG 58 false (pN 59)) <|
 aX 61 (pG 58 false (pF 19 1 60)) <|
 aX 62 (pG 58 false (pL false 1 61)) <|
 aX 63 (pG 58 false (pM 4)) <|
 aX 64 (pG 58 false (pI 2 62 63)) <|
 aX 65 (pG 58 false (pF 0 1 64)) <|
 aX 66 (pG 58 false (pL false 1 65)) <|
 aX 67 (pG 58 false (pM 3)) <|
 aX 68 (pG 58 false (pB .eql 9 66 67)) <|
 aX 69 (pP 58 (cn (.bool true)) 68) <|
 aXZ
noncomputable def f105_r8 (c : CallF) : RF := rg [2] <| aX 2 (pM (cn (.bool false))) <|
 aXZ
noncomputable def f105_r9 (c : CallF) : RF := rg [0, 3, 4] <| aX 70 (pM 0) <|
 aX 71 (pN 70) <|
 aX 72 (pF 19 1 71) <|
 aX 73 (pL false 1 72) <|
 aX 74 (pM 4) <|
 aX 75 (pI 2 73 74) <|
 aX 76 (pF 0 1 75) <|
 aX 77 (pL false 1 76) <|
 aX 3 (pM 77) <|
 aXZ
noncomputable def f105_r10 (c : CallF) : RF := rg [2] <| aX 2 (pM (cn (.bool true))) <|
 aXZ
noncomputable def f105_l5 (c : CallF) (k : Nat) : St :=
 (bSeq (bSeq (bReg (f105_r5 c))
 (bCond (.tmp 45) (bEx .nrm) (bEx (.ext 0))))
 (bSeq (bBlock 1 (bSeq (bSeq (bReg (f105_r7 c))
 (bCond (.tmp 69) (bSeq (bReg (f105_r8 c))
 (bEx .ret)) (bEx .nrm)))
 (bReg (f105_r9 c))))
 (bReg (f105_r6 c))))
noncomputable def f105 (c : CallF) (k : Nat) : St :=
 (bSeq (bReg (f105_r0 c))
 (bSeq (bSeq (bReg (f105_r1 c))
 (bCond (.tmp 34) (bSeq (bReg (f105_r2 c))
 (bEx .ret)) (bEx .nrm)))
 (bSeq (bReg (f105_r3 c))
 (bSeq (bSeq (bReg (f105_r4 c))
 (bBlock 0 (bLoop [0, 3, 4] (f105_l5 c k) k)))
 (bSeq (bReg (f105_r10 c))
 (bEx .ret))))))
theorem f105_eq (c : CallF) (k : Nat) : exec cx c 78 f105_an k (Tryd.f105.body.getD .skip) = f105 c k := by kernel_rfl
/-! ### f106: loop.example/g01263/spec.l01Same -/
def f106_an : Ann := ⟨[(0, r0 [0, 1]), (1, r0 [4])], []⟩
noncomputable def f106_r0 (c : CallF) : RF := rg [0, 1] <| aX 4 (pM (cn (.bool false))) <|
 aXZ
noncomputable def f106_r1 (c : CallF) : RF := rgD [4] (aY 5 (pM 0) <|
 aY 6 (pN 5) <|
 aY 7 (pF 0 1 6) <|
 aY 8 (pL false 1 7) <|
 aY 9 (pM 1) <|
 aY 10 (pN 9) <|
 aY 11 (pF 0 1 10) <|
 aY 12 (pL false 1 11) <|
 aY 13 (pB .eql 4 8 12) <|
 aY 14 (pM 13) <|
 aY 15 (pG 14 true (pM 0)) <|
 aY 16 (pG 14 true (pN 15)) <|
 aY 17 (pG 14 true (pF 2 16 16)) <|
 aY 18 (pG 14 true (pL true 16 17)) <|
 aY 19 (pG 14 true (pM 1)) <|
 aY 20 (pG 14 true (pN 19)) <|
 aY 21 (pG 14 true (pF 2 16 20)) <|
 aY 22 (pG 14 true (pL true 16 21)) <|
 aY 23 (pG 14 true (pB .eql 50 18 22)) <|
 aY 24 (pP 14 23 (cn (.bool false))) <|
 aY 25 (pM 24) <|
 aY 26 (pG 25 true (pM 0)) <|
 aY 27 (pG 25 true (pN 26)) <|
 aY 28 (pG 25 true (pF 1 1 27)) <|
 aY 29 (pG 25 true (pL false 1 28)) <|
 aY 30 (pG 25 true (pM 1)) <|
 aY 31 (pG 25 true (pN 30)) <|
 aY 32 (pG 25 true (pF 1 1 31)) <|
 aY 33 (pG 25 true (pL false 1 32)) <|
 aY 34 (pG 25 true (pK c false 130 [29, 33])) <|
 aY 35 (pP 25 34 (cn (.bool false))) <|
 aY 4 (pM 35) <|
 aYZ)
 (aXZ)
noncomputable def f106 (c : CallF) (k : Nat) : St :=
 (bSeq (bReg (f106_r0 c))
 (bSeq (bReg (f106_r1 c))
 (bEx .ret)))
theorem f106_eq (c : CallF) (k : Nat) : exec cx c 36 f106_an k (Tryd.f106.body.getD .skip) = f106 c k := by kernel_rfl
/-! ### f107: slices.IndexFunc[[]loop.example/g01263/impl.Party,loop.example/g01263/impl.Party] -/
def f107_an : Ann := ⟨[(0, r0 [0, 1]), (1, r0 [0, 1, 7, 8]), (2, r0 [0, 1, 7, 8, 9]), (3, r0 [0, 1, 5, 7, 8]), (4, r0 [0, 1, 5, 7, 8, 16]), (5, r0 [4]), (6, r0 [0, 1, 7, 8]), (7, r0 [4])], [(2, [0, 1, 7, 8])]⟩
noncomputable def f107_r0 (c : CallF) : RF := rg [0, 1] <| aX 4 (pM (cn (.int .i64 0))) <|
 aXZ
noncomputable def f107_r1 (c : CallF) : RF := rg [0, 1, 7, 8] <| aX 6 (pM 0) <|
 aX 7 (pLen 46 6) <|
 aX 8 (pM (cn (.int .i64 0))) <|
 aXZ
noncomputable def f107_r2 (c : CallF) : RF := rg [0, 1, 7, 8, 9] <| aX 9 (pB .lss 3 8 7) <|
 aXZ
noncomputable def f107_r3 (c : CallF) : RF := rg [0, 1, 5, 7, 8] <| aX 10 (pM 8) <|
 aX 5 (pM 10) <|
 aXZ
noncomputable def f107_r4 (c : CallF) : RF := rg [0, 1, 5, 7, 8, 16] <| aX 11 (pM 1) <|
 aX 12 (pM 0) <|
 aX 13 (pM 5) <|
 aX 14 (pI 2 12 13) <|
 aX 15 (pL true 2 14) <|
 aX 16 (fun n e M => oCall cx c false n (eget e 11) [(eget e 15)] M) <|
 aXZ
noncomputable def f107_r5 (c : CallF) : RF := rg [4] <| aX 17 (pM 5) <|
 aX 4 (pM 17) <|
 aXZ
noncomputable def f107_r6 (c : CallF) : RF := rg [0, 1, 7, 8] <| aX 18 (pB .add 3 8 (cn (.int .i64 1))) <|
 aX 8 (pM 18) <|
 aXZ
noncomputable def f107_r7 (c : CallF) : RF := rg [4] <| aX 4 (pM (cn (.int .i64 (-1)))) <|
 aXZ
noncomputable def f107_l2 (c : CallF) (k : Nat) : St :=
 (bSeq (bReg (f107_r2 c))
 (bSeq (bCond (.tmp 9) (bEx .nrm) (bEx (.ext 0)))
 (bSeq (bBlock 1 (bSeq (bReg (f107_r3 c))
 (bSeq (bReg (f107_r4 c))
 (bCond (.tmp 16) (bSeq (bReg (f107_r5 c))
 (bEx .ret)) (bEx .nrm)))))
 (bReg (f107_r6 c)))))
noncomputable def f107 (c : CallF) (k : Nat) : St :=
 (bSeq (bReg (f107_r0 c))
 (bSeq (bSeq (bReg (f107_r1 c))
 (bBlock 0 (bLoop [0, 1, 7, 8] (f107_l2 c k) k)))
 (bSeq (bReg (f107_r7 c))
 (bEx .ret))))
theorem f107_eq (c : CallF) (k : Nat) : exec cx c 19 f107_an k (Tryd.f107.body.getD .skip) = f107 c k := by kernel_rfl
/-! ### f108: loop.example/g01263/impl.find$1 -/
def f108_an : Ann := ⟨[(0, r0 [1, 2]), (1, r0 [3])], []⟩
noncomputable def f108_r0 (c : CallF) : RF := rg [1, 2] <| aX 2 (pBox 2 0) <|
 aX 3 (pM (cn (.bool false))) <|
 aXZ
noncomputable def f108_r1 (c : CallF) : RF := rg [3] <| aX 4 (pF 0 1 2) <|
 aX 5 (pL false 1 4) <|
 aX 6 (pL false 1 1) <|
 aX 7 (pB .eql 9 5 6) <|
 aX 3 (pM 7) <|
 aXZ
noncomputable def f108 (c : CallF) (k : Nat) : St :=
 (bSeq (bReg (f108_r0 c))
 (bSeq (bReg (f108_r1 c))
 (bEx .ret)))
theorem f108_eq (c : CallF) (k : Nat) : exec cx c 8 f108_an k (Tryd.f108.body.getD .skip) = f108 c k := by kernel_rfl
/-! ### f122: (*loop.example/g01263/spec.l00Src).one -/
def f122_an : Ann := ⟨[(0, r0 [0, 1]), (1, r0 [4])], []⟩
noncomputable def f122_r0 (c : CallF) : RF := rg [0, 1] <| aX 4 (pM (cn (.bool false))) <|
 aXZ
noncomputable def f122_r1 (c : CallF) : RF := rg [4] <| aX 5 (pM 0) <|
 aX 6 (pM 1) <|
 aX 7 (pK c false 59 [5, 6]) <|
 aX 8 (pB .eql 2 7 (cn (.int .i64 0))) <|
 aX 4 (pM 8) <|
 aXZ
noncomputable def f122 (c : CallF) (k : Nat) : St :=
 (bSeq (bReg (f122_r0 c))
 (bSeq (bReg (f122_r1 c))
 (bEx .ret)))
theorem f122_eq (c : CallF) (k : Nat) : exec cx c 9 f122_an k (Tryd.f122.body.getD .skip) = f122 c k := by kernel_rfl
/-! ### f123: loop.example/g01263/spec.GrainFrom -/
def f123_an : Ann := ⟨[(0, r0 [0, 2]), (1, r0 [0, 2, 4]), (2, r0 [0, 2, 4, 5]), (3, r0 [0, 2, 4, 5, 8]), (4, r0 [0, 2, 4, 5]), (5, r0 [0, 2, 4, 5]), (6, r0 [0, 2, 4, 5]), (7, r0 [2, 3])], [(3, [0, 2, 4, 5])]⟩
noncomputable def f123_r0 (c : CallF) : RF := rg [0, 2] <| aX 2 (pAl 50 16) <|
 aX 3 (pM (cn (.int .u32 0))) <|
 aXZ
noncomputable def f123_r1 (c : CallF) : RF := rg [0, 2, 4] <| aX 6 (fun n e M => keep (aBuild (zeroOf cx.P 50) [] M)) <|
 aX 4 (pAl 50 16) <|
 aX0 (pS 16 4 6) <|
 aXZ
noncomputable def f123_r2 (c : CallF) : RF := rg [0, 2, 4, 5] <| aX 5 (pM (cn (.int .i64 0))) <|
 aXZ
noncomputable def f123_r3 (c : CallF) : RF := rg [0, 2, 4, 5, 8] <| aX 7 (pM 5) <|
 aX 8 (pB .lss 3 7 (cn (.int .i64 16))) <|
 aXZ
noncomputable def f123_r4 (c : CallF) : RF := rg [0, 2, 4, 5] <| aX 9 (pM 5) <|
 aX 10 (pB .add 3 9 (cn (.int .i64 1))) <|
 aX 5 (pM 10) <|
 aXZ
noncomputable def f123_r5 (c : CallF) : RF := rg [0, 2, 4, 5] <| aX 11 (pM 0) <|
 aX 12 (pB .mul 58 (cn (.int .u32 1664525)) 11) <|
 aX 13 (pB .add 58 12 (cn (.int .u32 1013904223))) <|
 aX 0 (pM 13) <|
 aXZ
noncomputable def f123_r6 (c : CallF) : RF := rg [0, 2, 4, 5] <| aX 14 (pM 5) <|
 aX 15 (pM 0) <|
 aX 16 (pB .quo 58 15 (cn (.int .u32 65536))) <|
 aX 17 (pB .rem 58 16 (cn (.int .u32 7))) <|
 aX 18 (fun n e M => keep (aConvI .i8 (eget e 17))) <|
 aX 19 (pB .sub 39 18 (cn (.int .i8 3))) <|
 aX 20 (fun n e M => keep (aIndexP 16 1 (eget e 4) (eget e 14) M)) <|
 aX0 (pS 1 20 19) <|
 aXZ
noncomputable def f123_r7 (c : CallF) : RF := rg [2, 3] <| aX 21 (pL true 16 4) <|
 aX 22 (pM 0) <|
 aX0 (pS 16 2 21) <|
 aX 3 (pM 22) <|
 aXZ
noncomputable def f123_l3 (c : CallF) (k : Nat) : St :=
 (bSeq (bSeq (bReg (f123_r3 c))
 (bCond (.tmp 8) (bEx .nrm) (bEx (.ext 0))))
 (bSeq (bBlock 1 (bSeq (bReg (f123_r5 c))
 (bReg (f123_r6 c))))
 (bReg (f123_r4 c))))
noncomputable def f123 (c : CallF) (k : Nat) : St :=
 (bSeq (bReg (f123_r0 c))
 (bSeq (bReg (f123_r1 c))
 (bSeq (bSeq (bReg (f123_r2 c))
 (bBlock 0 (bLoop [0, 2, 4, 5] (f123_l3 c k) k)))
 (bSeq (bReg (f123_r7 c))
 (bEx .ret)))))
theorem f123_eq (c : CallF) (k : Nat) : exec cx c 23 f123_an k (Tryd.f123.body.getD .skip) = f123 c k := by kernel_rfl
/-! ### f124: loop.example/g01263/spec.l01Widths -/
def f124_an : Ann := ⟨[(0, r0 []), (1, r0 [0])], []⟩
noncomputable def f124_r0 (c : CallF) : RF := rg [] <| aX 0 (pM (cn .nils)) <|
 aXZ
noncomputable def f124_r1 (c : CallF) : RF := rg [0] <| aX 1 (fun n e M => keep (aLitI 2 1 [(.int .i64 1), (.int .i64 2), (.int .i64 4), (.int .i64 6), (.int .i64 9), (.int .i64 12)] M)) <|
 aX 0 (pM 1) <|
 aXZ
noncomputable def f124 (c : CallF) (k : Nat) : St :=
 (bSeq (bReg (f124_r0 c))
 (bSeq (bReg (f124_r1 c))
 (bEx .ret)))
theorem f124_eq (c : CallF) (k : Nat) : exec cx c 2 f124_an k (Tryd.f124.body.getD .skip) = f124 c k := by kernel_rfl
/-! ### f125: loop.example/g01263/spec.l01Ok -/
def f125_an : Ann := ⟨[(0, r0 [0]), (1, r0 [2])], []⟩
noncomputable def f125_r0 (c : CallF) : RF := rg [0] <| aX 2 (pM (cn (.bool false))) <|
 aXZ
noncomputable def f125_r1 (c : CallF) : RF := rg [2] <| aX 3 (pM 0) <|
 aX 4 (pN 3) <|
 aX 5 (pF 1 1 4) <|
 aX 6 (pL false 1 5) <|
 aX 7 (pK c false 139 [6]) <|
 aX 8 (pM 7) <|
 aX 9 (pG 8 true (pM 0)) <|
 aX 10 (pG 8 true (pN 9)) <|
 aX 11 (pG 8 true (pF 2 16 10)) <|
 aX 12 (pG 8 true (pL true 16 11)) <|
 aX 13 (pG 8 true (pK c false 140 [12])) <|
 aX 14 (pP 8 13 (cn (.bool false))) <|
 aX 2 (pM 14) <|
 aXZ
noncomputable def f125 (c : CallF) (k : Nat) : St :=
 (bSeq (bReg (f125_r0 c))
 (bSeq (bReg (f125_r1 c))
 (bEx .ret)))
theorem f125_eq (c : CallF) (k : Nat) : exec cx c 15 f125_an k (Tryd.f125.body.getD .skip) = f125 c k := by kernel_rfl
/-! ### f126: loop.example/g01263/spec.l06Seal -/
def f126_an : Ann := ⟨[(0, r0 [0, 1, 2, 3]), (1, r0 [1, 2, 3, 9]), (2, r0 [2, 3, 9]), (3, r0 [3, 9]), (4, r0 [8])], []⟩
noncomputable def f126_r0 (c : CallF) : RF := rg [0, 1, 2, 3] <| aX 8 (pM (cn (.int .u32 0))) <|
 aXZ
noncomputable def f126_r1 (c : CallF) : RF := rg [1, 2, 3, 9] <| aX 10 (pM 0) <|
 aX 11 (pK c false 142 [10]) <|
 aX 12 (pK c false 141 [(cn (.int .u32 2166136261)), 11]) <|
 aX 9 (pM 12) <|
 aXZ
noncomputable def f126_r2 (c : CallF) : RF := rg [2, 3, 9] <| aX 13 (pM 9) <|
 aX 14 (pM 1) <|
 aX 15 (pK c false 143 [13, 14]) <|
 aX 9 (pM 15) <|
 aXZ
noncomputable def f126_r3 (c : CallF) : RF := rg [3, 9] <| aX 16 (pM 9) <|
 aX 17 (pM 2) <|
 aX 18 (pK c false 141 [16, 17]) <|
 aX 9 (pM 18) <|
 aXZ
noncomputable def f126_r4 (c : CallF) : RF := rg [8] <| aX 19 (pM 9) <|
 aX 20 (pM 3) <|
 aX 21 (pK c false 143 [19, 20]) <|
 aX 8 (pM 21) <|
 aXZ
noncomputable def f126 (c : CallF) (k : Nat) : St :=
 (bSeq (bReg (f126_r0 c))
 (bSeq (bReg (f126_r1 c))
 (bSeq (bReg (f126_r2 c))
 (bSeq (bReg (f126_r3 c))
 (bSeq (bReg (f126_r4 c))
 (bEx .ret))))))
theorem f126_eq (c : CallF) (k : Nat) : exec cx c 22 f126_an k (Tryd.f126.body.getD .skip) = f126 c k := by kernel_rfl
/-! ### f127: loop.example/g01263/spec.l04Copy -/
def f127_an : Ann := ⟨[(0, r0 [0, 2]), (1, ⟨[14], [], [], [14], [2], none, []⟩)], []⟩
noncomputable def f127_r0 (c : CallF) : RF := rg [0, 2] <| aX 2 (pAl 52 18) <|
 aXZ
noncomputable def f127_r1 (c : CallF) : RF := rgD [2] (aY 3 (pM 0) <|
 aY 4 (pN 3) <|
 aY 5 (pF 0 1 4) <|
 aY 6 (pL false 1 5) <|
 aY 7 (pM 0) <|
 aY 8 (pN 7) <|
 aY 9 (pF 1 1 8) <|
 aY 10 (pL false 1 9) <|
 aY 11 (pK c false 144 [10]) <|
 aY 12 (pM 0) <|
 aY 13 (pN 12) <|
 aY 14 (pF 2 16 13) <|
 aY 15 (pL true 16 14) <|
 aY 16 (fun n e M => keep (aBuild (zeroOf cx.P 52) [(0, 1, (eget e 6)), (1, 1, (eget e 11)), (2, 16, (eget e 15))] M)) <|
 aYZ)
 (aX0 (pSK 18 2 16) <|
 aXZ)
noncomputable def f127 (c : CallF) (k : Nat) : St :=
 (bSeq (bReg (f127_r0 c))
 (bSeq (bReg (f127_r1 c))
 (bEx .ret)))
theorem f127_eq (c : CallF) (k : Nat) : exec cx c 17 f127_an k (Tryd.f127.body.getD .skip) = f127 c k := by kernel_rfl
/-! ### f128: loop.example/g01263/spec.l06Last -/
def f128_an : Ann := ⟨[(0, r0 [0, 2]), (1, ⟨[], [], [], [12], [2], none, []⟩)], []⟩
noncomputable def f128_r0 (c : CallF) : RF := rg [0, 2] <| aX 2 (pAl 60 2) <|
 aXZ
noncomputable def f128_r1 (c : CallF) : RF := rgD [2] (aY 3 (pM 0) <|
 aY 4 (pN 3) <|
 aY 5 (pF 19 1 4) <|
 aY 6 (pL false 1 5) <|
 aY 7 (pM 0) <|
 aY 8 (pN 7) <|
 aY 9 (pF 19 1 8) <|
 aY 10 (pL false 1 9) <|
 aY 11 (pLen 53 10) <|
 aY 12 (pB .sub 3 11 (cn (.int .i64 1))) <|
 aY 13 (pI 2 6 12) <|
 aY 14 (pL true 2 13) <|
 aYZ)
 (aX0 (pS 2 2 14) <|
 aXZ)
noncomputable def f128 (c : CallF) (k : Nat) : St :=
 (bSeq (bReg (f128_r0 c))
 (bSeq (bReg (f128_r1 c))
 (bEx .ret)))
theorem f128_eq (c : CallF) (k : Nat) : exec cx c 15 f128_an k (Tryd.f128.body.getD .skip) = f128 c k := by kernel_rfl
/-! ### f129: loop.example/g01263/impl.width -/
def f129_an : Ann := ⟨[(0, r0 [0]), (1, r0 [2])], []⟩
noncomputable def f129_r0 (c : CallF) : RF := rg [0] <| aX 2 (pM (cn (.int .i64 0))) <|
 aXZ
noncomputable def f129_r1 (c : CallF) : RF := rg [2] <| aX 3 (fun n e M => keep (aLitI 2 1 [(.int .i64 1), (.int .i64 2), (.int .i64 4), (.int .i64 6), (.int .i64 9), (.int .i64 12)] M)) <|
 aX 4 (pM 0) <|
 aX 5 (pI 1 3 4) <|
 aX 6 (pL false 1 5) <|
 aX 2 (pM 6) <|
 aXZ
noncomputable def f129 (c : CallF) (k : Nat) : St :=
 (bSeq (bReg (f129_r0 c))
 (bSeq (bReg (f129_r1 c))
 (bEx .ret)))
theorem f129_eq (c : CallF) (k : Nat) : exec cx c 7 f129_an k (Tryd.f129.body.getD .skip) = f129 c k := by kernel_rfl
/-! ### f130: loop.example/g01263/spec.l01SameNotches -/
def f130_an : Ann := ⟨[(0, r0 [0, 1]), (1, r0 [0, 1, 10]), (2, r0 [4]), (3, r0 [0, 1, 5]), (4, r0 [0, 1, 5, 14]), (5, r0 [0, 1, 5]), (6, r0 [0, 1, 5, 25]), (7, r0 [4]), (8, r0 [4])], [(4, [0, 1, 5])]⟩
noncomputable def f130_r0 (c : CallF) : RF := rg [0, 1] <| aX 4 (pM (cn (.bool false))) <|
 aXZ
noncomputable def f130_r1 (c : CallF) : RF := rg [0, 1, 10] <| aX 6 (pM 0) <|
 aX 7 (pLen 48 6) <|
 aX 8 (pM 1) <|
 aX 9 (pLen 48 8) <|
 aX 10 (pB .neq 3 7 9) <|
 aXZ
noncomputable def f130_r2 (c : CallF) : RF := rg [4] <| aX 4 (pM (cn (.bool false))) <|
 aXZ
noncomputable def f130_r3 (c : CallF) : RF := rg [0, 1, 5] <| aX 5 (pM (cn (.int .i64 0))) <|
 aXZ
noncomputable def f130_r4 (c : CallF) : RF := rg [0, 1, 5, 14] <| aX 11 (pM 5) <|
 aX 12 (pM 0) <|
 aX 13 (pLen 48 12) <|
 aX 14 (pB .lss 3 11 13) <|
 aXZ
noncomputable def f130_r5 (c : CallF) : RF := rg [0, 1, 5] <| aX 15 (pM 5) <|
 aX 16 (pB .add 3 15 (cn (.int .i64 1))) <|
 aX 5 (pM 16) <|
 aXZ
noncomputable def f130_r6 (c : CallF) : RF := rgD [0, 1, 5, 25] (aY 17 (pM 0) <|
 aY 18 (pM 5) <|
 aY 19 (pI 2 17 18) <|
 aY 20 (pL true 2 19) <|
 aY 21 (pM 1) <|
 aY 22 (pM 5) <|
 aY 23 (pI 2 21 22) <|
 aY 24 (pL true 2 23) <|
 aY 25 (pB .neq 141 20 24) <|
 aYZ)
 (aXZ)
noncomputable def f130_r7 (c : CallF) : RF := rg [4] <| aX 4 (pM (cn (.bool false))) <|
 aXZ
noncomputable def f130_r8 (c : CallF) : RF := rg [4] <| aX 4 (pM (cn (.bool true))) <|
 aXZ
noncomputable def f130_l4 (c : CallF) (k : Nat) : St :=
 (bSeq (bSeq (bReg (f130_r4 c))
 (bCond (.tmp 14) (bEx .nrm) (bEx (.ext 0))))
 (bSeq (bBlock 1 (bSeq (bReg (f130_r6 c))
 (bCond (.tmp 25) (bSeq (bReg (f130_r7 c))
 (bEx .ret)) (bEx .nrm))))
 (bReg (f130_r5 c))))
noncomputable def f130 (c : CallF) (k : Nat) : St :=
 (bSeq (bReg (f130_r0 c))
 (bSeq (bSeq (bReg (f130_r1 c))
 (bCond (.tmp 10) (bSeq (bReg (f130_r2 c))
 (bEx .ret)) (bEx .nrm)))
 (bSeq (bSeq (bReg (f130_r3 c))
 (bBlock 0 (bLoop [0, 1, 5] (f130_l4 c k) k)))
 (bSeq (bReg (f130_r8 c))
 (bEx .ret)))))
theorem f130_eq (c : CallF) (k : Nat) : exec cx c 26 f130_an k (Tryd.f130.body.getD .skip) = f130 c k := by kernel_rfl
/-! ### f139: loop.example/g01263/spec.l01Notches -/
def f139_an : Ann := ⟨[(0, r0 [0]), (1, r0 [0, 7]), (2, r0 [2]), (3, r0 [0, 3]), (4, r0 [0, 3, 11]), (5, r0 [0, 3]), (6, r0 [0, 3, 4]), (7, r0 [0, 3, 4, 32]), (8, r0 [2]), (9, r0 [0, 3, 57]), (10, r0 [2]), (11, r0 [2])], [(4, [0, 3])]⟩
noncomputable def f139_r0 (c : CallF) : RF := rg [0] <| aX 2 (pM (cn (.bool false))) <|
 aXZ
noncomputable def f139_r1 (c : CallF) : RF := rg [0, 7] <| aX 5 (pM 0) <|
 aX 6 (pLen 48 5) <|
 aX 7 (pB .gtr 3 6 (cn (.int .i64 60))) <|
 aXZ
noncomputable def f139_r2 (c : CallF) : RF := rg [2] <| aX 2 (pM (cn (.bool false))) <|
 aXZ
noncomputable def f139_r3 (c : CallF) : RF := rg [0, 3] <| aX 3 (pM (cn (.int .i64 0))) <|
 aXZ
noncomputable def f139_r4 (c : CallF) : RF := rg [0, 3, 11] <| aX 8 (pM 3) <|
 aX 9 (pM 0) <|
 aX 10 (pLen 48 9) <|
 aX 11 (pB .lss 3 8 10) <|
 aXZ
noncomputable def f139_r5 (c : CallF) : RF := rg [0, 3] <| aX 12 (pM 3) <|
 aX 13 (pB .add 3 12 (cn (.int .i64 1))) <|
 aX 3 (pM 13) <|
 aXZ
noncomputable def f139_r6 (c : CallF) : RF := rg [0, 3, 4] <| aX 14 (pM 0) <|
 aX 15 (pM 3) <|
 aX 16 (pI 2 14 15) <|
 aX 17 (pL true 2 16) <|
 aX 4 (pAl 141 2) <|
 aX0 (pS 2 4 17) <|
 aXZ
noncomputable def f139_r7 (c : CallF) : RF := rg [0, 3, 4, 32] <| aX 18 (pF 0 1 4) <|
 aX 19 (pL false 1 18) <|
 aX 20 (fun n e M => keep (aConvI .i64 (eget e 19))) <|
 aX 21 (pK c false 158 [20]) <|
 aX 22 (pU .not 21) <|
 aX 23 (pM 22) <|
 aX 24 (pG 23 false (pF 1 1 4)) <|
 aX 25 (pG 23 false (pL false 1 24)) <|
 aX 26 (pG 23 false (pB .lss 139 25 (cn (.int .i16 0)))) <|
 aX 27 (pP 23 (cn (.bool true)) 26) <|
 aX 28 (pM 27) <|
 aX 29 (pG 28 false (pL true 2 4)) <|
 aX 30 (pG 28 false (pK c false 159 [29])) <|
 aX 31 (pG 28 false (pB .gtr 2 30 (cn (.int .i64 200)))) <|
 aX 32 (pP 28 (cn (.bool true)) 31) <|
 aXZ
noncomputable def f139_r8 (c : CallF) : RF := rg [2] <| aX 2 (pM (cn (.bool false))) <|
 aXZ
noncomputable def f139_r9 (c : CallF) : RF := rgD [0, 3, 57] (aY 33 (pM 3) <|
 aY 34 (pB .gtr 3 33 (cn (.int .i64 0))) <|
 aY 35 (pM 34) <|
 aY 36 (pG 35 true (pF 0 1 4)) <|
 aY 37 (pG 35 true (pL false 1 36)) <|
 aY 38 (pG 35 true (pM 0)) <|
 aY 39 (pG 35 true (pM 3)) <|
 aY 40 (pG 35 true (pB .sub 3 39 (cn (.int .i64 1)))) <|
 aY 41 (pG 35 true (pI 2 38 40)) <|
 aY 42 (pG 35 true (pF 0 1 41)) <|
 aY 43 (pG 35 true (pL false 1 42)) <|
 aY 44 (pG 35 true (pB .gtr 39 37 43)) <|
 aY 45 (pG 35 true (pM 44)) <|
 aY 46 (pG 45 false (pF 1 1 4)) <|
 aY 47 (pG 45 false (pL false 1 46)) <|
 aY 48 (pG 45 false (fun n e M => keep (aConvI .i64 (eget e 47)))) <|
 aY 49 (pG 45 false (pM 0)) <|
 aY 50 (pG 45 false (pM 3)) <|
 aY 51 (pG 45 false (pB .sub 3 50 (cn (.int .i64 1)))) <|
 aY 52 (pG 45 false (pI 2 49 51)) <|
 aY 53 (pG 45 false (pL true 2 52)) <|
 aY 54 (pG 45 false (pK c false 159 [53])) <|
 aY 55 (pG 45 false (pB .leq 2 48 54)) <|
 aY 56 (pG 35 true (pP 45 (cn (.bool true)) 55)) <|
 aY 57 (pP 35 56 (cn (.bool false))) <|
 aYZ)
 (aXZ)
noncomputable def f139_r10 (c : CallF) : RF := rg [2] <| aX 2 (pM (cn (.bool false))) <|
 aXZ
noncomputable def f139_r11 (c : CallF) : RF := rg [2] <| aX 2 (pM (cn (.bool true))) <|
 aXZ
noncomputable def f139_l4 (c : CallF) (k : Nat) : St :=
 (bSeq (bSeq (bReg (f139_r4 c))
 (bCond (.tmp 11) (bEx .nrm) (bEx (.ext 0))))
 (bSeq (bBlock 1 (bSeq (bReg (f139_r6 c))
 (bSeq (bSeq (bReg (f139_r7 c))
 (bCond (.tmp 32) (bSeq (bReg (f139_r8 c))
 (bEx .ret)) (bEx .nrm)))
 (bSeq (bReg (f139_r9 c))
 (bCond (.tmp 57) (bSeq (bReg (f139_r10 c))
 (bEx .ret)) (bEx .nrm))))))
 (bReg (f139_r5 c))))
noncomputable def f139 (c : CallF) (k : Nat) : St :=
 (bSeq (bReg (f139_r0 c))
 (bSeq (bSeq (bReg (f139_r1 c))
 (bCond (.tmp 7) (bSeq (bReg (f139_r2 c))
 (bEx .ret)) (bEx .nrm)))
 (bSeq (bSeq (bReg (f139_r3 c))
 (bBlock 0 (bLoop [0, 3] (f139_l4 c k) k)))
 (bSeq (bReg (f139_r11 c))
 (bEx .ret)))))
theorem f139_eq (c : CallF) (k : Nat) : exec cx c 58 f139_an k (Tryd.f139.body.getD .skip) = f139 c k := by kernel_rfl
/-! ### f140: loop.example/g01263/spec.l01Grain -/
def f140_an : Ann := ⟨[(0, r0 [1]), (1, r0 [1, 3]), (2, r0 [1, 3, 5]), (3, r0 [1, 3]), (4, r0 [1, 3, 17]), (5, r0 [2]), (6, r0 [2])], [(2, [1, 3])]⟩
noncomputable def f140_r0 (c : CallF) : RF := rg [1] <| aX 1 (pBox 16 0) <|
 aX 2 (pM (cn (.bool false))) <|
 aXZ
noncomputable def f140_r1 (c : CallF) : RF := rg [1, 3] <| aX 3 (pM (cn (.int .i64 0))) <|
 aXZ
noncomputable def f140_r2 (c : CallF) : RF := rg [1, 3, 5] <| aX 4 (pM 3) <|
 aX 5 (pB .lss 3 4 (cn (.int .i64 16))) <|
 aXZ
noncomputable def f140_r3 (c : CallF) : RF := rg [1, 3] <| aX 6 (pM 3) <|
 aX 7 (pB .add 3 6 (cn (.int .i64 1))) <|
 aX 3 (pM 7) <|
 aXZ
noncomputable def f140_r4 (c : CallF) : RF := rg [1, 3, 17] <| aX 8 (pM 3) <|
 aX 9 (fun n e M => keep (aIndexP 16 1 (eget e 1) (eget e 8) M)) <|
 aX 10 (pL false 1 9) <|
 aX 11 (pB .lss 39 10 (cn (.int .i8 (-3)))) <|
 aX 12 (pM 11) <|
 aX 13 (pG 12 false (pM 3)) <|
 aX 14 (pG 12 false (fun n e M => keep (aIndexP 16 1 (eget e 1) (eget e 13) M))) <|
 aX 15 (pG 12 false (pL false 1 14)) <|
 aX 16 (pG 12 false (pB .gtr 39 15 (cn (.int .i8 3)))) <|
 aX 17 (pP 12 (cn (.bool true)) 16) <|
 aXZ
noncomputable def f140_r5 (c : CallF) : RF := rg [2] <| aX 2 (pM (cn (.bool false))) <|
 aXZ
noncomputable def f140_r6 (c : CallF) : RF := rg [2] <| aX 2 (pM (cn (.bool true))) <|
 aXZ
noncomputable def f140_l2 (c : CallF) (k : Nat) : St :=
 (bSeq (bSeq (bReg (f140_r2 c))
 (bCond (.tmp 5) (bEx .nrm) (bEx (.ext 0))))
 (bSeq (bBlock 1 (bSeq (bReg (f140_r4 c))
 (bCond (.tmp 17) (bSeq (bReg (f140_r5 c))
 (bEx .ret)) (bEx .nrm))))
 (bReg (f140_r3 c))))
noncomputable def f140 (c : CallF) (k : Nat) : St :=
 (bSeq (bReg (f140_r0 c))
 (bSeq (bSeq (bReg (f140_r1 c))
 (bBlock 0 (bLoop [1, 3] (f140_l2 c k) k)))
 (bSeq (bReg (f140_r6 c))
 (bEx .ret))))
theorem f140_eq (c : CallF) (k : Nat) : exec cx c 18 f140_an k (Tryd.f140.body.getD .skip) = f140 c k := by kernel_rfl
/-! ### f141: loop.example/g01263/spec.l06Text -/
def f141_an : Ann := ⟨[(0, r0 [0, 1]), (1, r0 [0, 1, 5]), (2, r0 [0, 1, 5, 9]), (3, r0 [0, 1, 5]), (4, r0 [0, 1, 5]), (5, r0 [4])], [(2, [0, 1, 5])]⟩
noncomputable def f141_r0 (c : CallF) : RF := rg [0, 1] <| aX 4 (pM (cn (.int .u32 0))) <|
 aXZ
noncomputable def f141_r1 (c : CallF) : RF := rg [0, 1, 5] <| aX 5 (pM (cn (.int .i64 0))) <|
 aXZ
noncomputable def f141_r2 (c : CallF) : RF := rg [0, 1, 5, 9] <| aX 6 (pM 5) <|
 aX 7 (pM 1) <|
 aX 8 (pLen 9 7) <|
 aX 9 (pB .lss 3 6 8) <|
 aXZ
noncomputable def f141_r3 (c : CallF) : RF := rg [0, 1, 5] <| aX 10 (pM 5) <|
 aX 11 (pB .add 3 10 (cn (.int .i64 1))) <|
 aX 5 (pM 11) <|
 aXZ
noncomputable def f141_r4 (c : CallF) : RF := rg [0, 1, 5] <| aX 12 (pM 0) <|
 aX 13 (pM 1) <|
 aX 14 (pM 5) <|
 aX 15 (fun n e M => keep (aIndexB (eget e 13) (eget e 14))) <|
 aX 16 (fun n e M => keep (aConvI .u32 (eget e 15))) <|
 aX 17 (pB .xor 58 12 16) <|
 aX 18 (pB .mul 58 17 (cn (.int .u32 16777619))) <|
 aX 0 (pM 18) <|
 aXZ
noncomputable def f141_r5 (c : CallF) : RF := rg [4] <| aX 19 (pM 0) <|
 aX 4 (pM 19) <|
 aXZ
noncomputable def f141_l2 (c : CallF) (k : Nat) : St :=
 (bSeq (bSeq (bReg (f141_r2 c))
 (bCond (.tmp 9) (bEx .nrm) (bEx (.ext 0))))
 (bSeq (bBlock 1 (bReg (f141_r4 c)))
 (bReg (f141_r3 c))))
noncomputable def f141 (c : CallF) (k : Nat) : St :=
 (bSeq (bReg (f141_r0 c))
 (bSeq (bSeq (bReg (f141_r1 c))
 (bBlock 0 (bLoop [0, 1, 5] (f141_l2 c k) k)))
 (bSeq (bReg (f141_r5 c))
 (bEx .ret))))
theorem f141_eq (c : CallF) (k : Nat) : exec cx c 20 f141_an k (Tryd.f141.body.getD .skip) = f141 c k := by kernel_rfl
/-! ### f142: loop.example/g01263/spec.l01Text -/
def f142_an : Ann := ⟨[(0, r0 [0]), (1, r0 [0, 3]), (2, r0 [0, 3, 10]), (3, r0 [0, 3]), (4, r0 [0, 3, 4]), (5, r0 [0, 3, 4, 12]), (6, r0 [0, 3, 4]), (7, r0 [0, 3, 4]), (8, r0 [0, 3, 5]), (9, r0 [0, 3, 5, 34]), (10, r0 [0, 3, 5]), (11, r0 [0, 3, 5, 6]), (12, r0 [0, 3, 5]), (13, r0 [2])], [(5, [0, 3, 4]), (9, [0, 3, 5])]⟩
noncomputable def f142_r0 (c : CallF) : RF := rg [0] <| aX 2 (pM (cn (.str []))) <|
 aXZ
noncomputable def f142_r1 (c : CallF) : RF := rg [0, 3] <| aX 3 (pM (cn (.str [102, 111, 105, 108, 32]))) <|
 aXZ
noncomputable def f142_r2 (c : CallF) : RF := rg [0, 3, 10] <| aX 7 (pM 0) <|
 aX 8 (pN 7) <|
 aX 9 (pF 0 1 8) <|
 aX 10 (pL false 1 9) <|
 aXZ
noncomputable def f142_r3 (c : CallF) : RF := rg [0, 3] <| aX 3 (pM (cn (.str [115, 116, 111, 99, 107, 32]))) <|
 aXZ
noncomputable def f142_r4 (c : CallF) : RF := rg [0, 3, 4] <| aX 4 (pM (cn (.int .i64 0))) <|
 aXZ
noncomputable def f142_r5 (c : CallF) : RF := rg [0, 3, 4, 12] <| aX 11 (pM 4) <|
 aX 12 (pB .lss 3 11 (cn (.int .i64 16))) <|
 aXZ
noncomputable def f142_r6 (c : CallF) : RF := rg [0, 3, 4] <| aX 13 (pM 4) <|
 aX 14 (pB .add 3 13 (cn (.int .i64 1))) <|
 aX 4 (pM 14) <|
 aXZ
noncomputable def f142_r7 (c : CallF) : RF := rg [0, 3, 4] <| aX 15 (pM 3) <|
 aX 16 (pM 0) <|
 aX 17 (pM 4) <|
 aX 18 (pN 16) <|
 aX 19 (pF 2 16 18) <|
 aX 20 (fun n e M => keep (aIndexP 16 1 (eget e 19) (eget e 17) M)) <|
 aX 21 (pL false 1 20) <|
 aX 22 (fun n e M => keep (aConvI .i64 (eget e 21))) <|
 aX 23 (pB .add 3 (cn (.int .i64 100)) 22) <|
 aX 24 (fun n e M => keep (aConvI .u8 (eget e 23))) <|
 aX 25 (fun n e M => keep (aLitI 5 1 [(eget e 24)] M)) <|
 aX 26 (fun n e M => keep (aConvB (eget e 25) M)) <|
 aX 27 (pB .add 9 15 26) <|
 aX 3 (pM 27) <|
 aXZ
noncomputable def f142_r8 (c : CallF) : RF := rg [0, 3, 5] <| aX 5 (pM (cn (.int .i64 0))) <|
 aXZ
noncomputable def f142_r9 (c : CallF) : RF := rg [0, 3, 5, 34] <| aX 28 (pM 5) <|
 aX 29 (pM 0) <|
 aX 30 (pN 29) <|
 aX 31 (pF 1 1 30) <|
 aX 32 (pL false 1 31) <|
 aX 33 (pLen 48 32) <|
 aX 34 (pB .lss 3 28 33) <|
 aXZ
noncomputable def f142_r10 (c : CallF) : RF := rg [0, 3, 5] <| aX 35 (pM 5) <|
 aX 36 (pB .add 3 35 (cn (.int .i64 1))) <|
 aX 5 (pM 36) <|
 aXZ
noncomputable def f142_r11 (c : CallF) : RF := rg [0, 3, 5, 6] <| aX 37 (pM 0) <|
 aX 38 (pN 37) <|
 aX 39 (pF 1 1 38) <|
 aX 40 (pL false 1 39) <|
 aX 41 (pM 5) <|
 aX 42 (pI 2 40 41) <|
 aX 43 (pL true 2 42) <|
 aX 6 (pAl 141 2) <|
 aX0 (pS 2 6 43) <|
 aXZ
noncomputable def f142_r12 (c : CallF) : RF := rgD [0, 3, 5] (aY 44 (pM 3) <|
 aY 45 (pK c false 160 []) <|
 aY 46 (pF 0 1 6) <|
 aY 47 (pL false 1 46) <|
 aY 48 (pF 0 1 6) <|
 aY 49 (pL false 1 48) <|
 aY 50 (pB .add 39 49 (cn (.int .i8 1))) <|
 aY 51 (fun n e M => keep (aSliceS (some (eget e 47)) (some (eget e 50)) (eget e 45))) <|
 aY 52 (pB .add 9 (cn (.str [32])) 51) <|
 aY 53 (pF 1 1 6) <|
 aY 54 (pL false 1 53) <|
 aY 55 (fun n e M => keep (aConvI .i64 (eget e 54))) <|
 aY 56 (pK c false 161 [55]) <|
 aY 57 (pB .add 9 52 56) <|
 aY 58 (pB .add 9 44 57) <|
 aY 3 (pM 58) <|
 aYZ)
 (aXZ)
noncomputable def f142_r13 (c : CallF) : RF := rg [2] <| aX 59 (pM 3) <|
 aX 2 (pM 59) <|
 aXZ
noncomputable def f142_l5 (c : CallF) (k : Nat) : St :=
 (bSeq (bSeq (bReg (f142_r5 c))
 (bCond (.tmp 12) (bEx .nrm) (bEx (.ext 0))))
 (bSeq (bBlock 1 (bReg (f142_r7 c)))
 (bReg (f142_r6 c))))
noncomputable def f142_l9 (c : CallF) (k : Nat) : St :=
 (bSeq (bSeq (bReg (f142_r9 c))
 (bCond (.tmp 34) (bEx .nrm) (bEx (.ext 2))))
 (bSeq (bBlock 3 (bSeq (bReg (f142_r11 c))
 (bReg (f142_r12 c))))
 (bReg (f142_r10 c))))
noncomputable def f142 (c : CallF) (k : Nat) : St :=
 (bSeq (bReg (f142_r0 c))
 (bSeq (bReg (f142_r1 c))
 (bSeq (bSeq (bReg (f142_r2 c))
 (bCond (.tmp 10) (bReg (f142_r3 c)) (bEx .nrm)))
 (bSeq (bSeq (bReg (f142_r4 c))
 (bBlock 0 (bLoop [0, 3, 4] (f142_l5 c k) k)))
 (bSeq (bSeq (bReg (f142_r8 c))
 (bBlock 2 (bLoop [0, 3, 5] (f142_l9 c k) k)))
 (bSeq (bReg (f142_r13 c))
 (bEx .ret)))))))
theorem f142_eq (c : CallF) (k : Nat) : exec cx c 60 f142_an k (Tryd.f142.body.getD .skip) = f142 c k := by kernel_rfl
/-! ### f143: loop.example/g01263/spec.l06Number -/
def f143_an : Ann := ⟨[(0, r0 [0, 1]), (1, r0 [0, 1, 5]), (2, r0 [0, 1, 5, 7]), (3, r0 [0, 1, 5]), (4, r0 [0, 1, 5]), (5, r0 [4])], [(2, [0, 1, 5])]⟩
noncomputable def f143_r0 (c : CallF) : RF := rg [0, 1] <| aX 4 (pM (cn (.int .u32 0))) <|
 aXZ
noncomputable def f143_r1 (c : CallF) : RF := rg [0, 1, 5] <| aX 5 (pM (cn (.int .i64 24))) <|
 aXZ
noncomputable def f143_r2 (c : CallF) : RF := rg [0, 1, 5, 7] <| aX 6 (pM 5) <|
 aX 7 (pB .geq 3 6 (cn (.int .i64 0))) <|
 aXZ
noncomputable def f143_r3 (c : CallF) : RF := rg [0, 1, 5] <| aX 8 (pM 5) <|
 aX 9 (pB .sub 3 8 (cn (.int .i64 8))) <|
 aX 5 (pM 9) <|
 aXZ
noncomputable def f143_r4 (c : CallF) : RF := rg [0, 1, 5] <| aX 10 (pM 0) <|
 aX 11 (pM 1) <|
 aX 12 (pM 5) <|
 aX 13 (fun n e M => keep (aConvI .u64 (eget e 12))) <|
 aX 14 (pB .shr 58 11 13) <|
 aX 15 (pB .and 58 14 (cn (.int .u32 255))) <|
 aX 16 (pB .xor 58 10 15) <|
 aX 17 (pB .mul 58 16 (cn (.int .u32 16777619))) <|
 aX 0 (pM 17) <|
 aXZ
noncomputable def f143_r5 (c : CallF) : RF := rg [4] <| aX 18 (pM 0) <|
 aX 4 (pM 18) <|
 aXZ
noncomputable def f143_l2 (c : CallF) (k : Nat) : St :=
 (bSeq (bSeq (bReg (f143_r2 c))
 (bCond (.tmp 7) (bEx .nrm) (bEx (.ext 0))))
 (bSeq (bBlock 1 (bReg (f143_r4 c)))
 (bReg (f143_r3 c))))
noncomputable def f143 (c : CallF) (k : Nat) : St :=
 (bSeq (bReg (f143_r0 c))
 (bSeq (bSeq (bReg (f143_r1 c))
 (bBlock 0 (bLoop [0, 1, 5] (f143_l2 c k) k)))
 (bSeq (bReg (f143_r5 c))
 (bEx .ret))))
theorem f143_eq (c : CallF) (k : Nat) : exec cx c 19 f143_an k (Tryd.f143.body.getD .skip) = f143 c k := by kernel_rfl
/-! ### f144: loop.example/g01263/spec.l01Copy -/
def f144_an : Ann := ⟨[(0, r0 [0]), (1, r0 [2])], []⟩
noncomputable def f144_r0 (c : CallF) : RF := rg [0] <| aX 2 (pM (cn .nils)) <|
 aXZ
noncomputable def f144_r1 (c : CallF) : RF := rg [2] <| aX 3 (fun n e M => keep (aLitI 141 2 [] M)) <|
 aX 4 (pM 0) <|
 aX 5 (fun n e M => aAppI 141 2 4 (eget e 3) (eget e 4) M) <|
 aX 2 (pM 5) <|
 aXZ
noncomputable def f144 (c : CallF) (k : Nat) : St :=
 (bSeq (bReg (f144_r0 c))
 (bSeq (bReg (f144_r1 c))
 (bEx .ret)))
theorem f144_eq (c : CallF) (k : Nat) : exec cx c 6 f144_an k (Tryd.f144.body.getD .skip) = f144 c k := by kernel_rfl
/-! ### f158: loop.example/g01263/spec.l01Kind -/
def f158_an : Ann := ⟨[(0, r0 [0]), (1, r0 [2])], []⟩
noncomputable def f158_r0 (c : CallF) : RF := rg [0] <| aX 2 (pM (cn (.bool false))) <|
 aXZ
noncomputable def f158_r1 (c : CallF) : RF := rg [2] <| aX 3 (pM 0) <|
 aX 4 (pK c false 84 [3, (cn (.int .i64 0)), (cn (.int .i64 5))]) <|
 aX 2 (pM 4) <|
 aXZ
noncomputable def f158 (c : CallF) (k : Nat) : St :=
 (bSeq (bReg (f158_r0 c))
 (bSeq (bReg (f158_r1 c))
 (bEx .ret)))
theorem f158_eq (c : CallF) (k : Nat) : exec cx c 5 f158_an k (Tryd.f158.body.getD .skip) = f158 c k := by kernel_rfl
/-! ### f159: loop.example/g01263/spec.l01Ends -/
def f159_an : Ann := ⟨[(0, r0 [1]), (1, r0 [2])], []⟩
noncomputable def f159_r0 (c : CallF) : RF := rg [1] <| aX 1 (pBox 2 0) <|
 aX 2 (pM (cn (.int .i64 0))) <|
 aXZ
noncomputable def f159_r1 (c : CallF) : RF := rgD [2] (aY 3 (pF 1 1 1) <|
 aY 4 (pL false 1 3) <|
 aY 5 (fun n e M => keep (aConvI .i64 (eget e 4))) <|
 aY 6 (pK c false 124 []) <|
 aY 7 (pF 0 1 1) <|
 aY 8 (pL false 1 7) <|
 aY 9 (pI 1 6 8) <|
 aY 10 (pL false 1 9) <|
 aY 11 (pB .add 2 5 10) <|
 aY 2 (pM 11) <|
 aYZ)
 (aXZ)
noncomputable def f159 (c : CallF) (k : Nat) : St :=
 (bSeq (bReg (f159_r0 c))
 (bSeq (bReg (f159_r1 c))
 (bEx .ret)))
theorem f159_eq (c : CallF) (k : Nat) : exec cx c 12 f159_an k (Tryd.f159.body.getD .skip) = f159 c k := by kernel_rfl
/-! ### f160: loop.example/g01263/spec.l01Letters -/
def f160_an : Ann := ⟨[(0, r0 []), (1, r0 [0])], []⟩
noncomputable def f160_r0 (c : CallF) : RF := rg [] <| aX 0 (pM (cn (.str []))) <|
 aXZ
noncomputable def f160_r1 (c : CallF) : RF := rg [0] <| aX 0 (pM (cn (.str [100, 115, 108, 118, 99, 109]))) <|
 aXZ
noncomputable def f160 (c : CallF) (k : Nat) : St :=
 (bSeq (bReg (f160_r0 c))
 (bSeq (bReg (f160_r1 c))
 (bEx .ret)))
theorem f160_eq (c : CallF) (k : Nat) : exec cx c 1 f160_an k (Tryd.f160.body.getD .skip) = f160 c k := by kernel_rfl
/-! ### f161: loop.example/g01263/spec.Decimal -/
def f161_an : Ann := ⟨[(0, r0 [0]), (1, r0 [0, 4]), (2, r0 [2]), (3, r0 [2])], []⟩
noncomputable def f161_r0 (c : CallF) : RF := rg [0] <| aX 2 (pM (cn (.str []))) <|
 aXZ
noncomputable def f161_r1 (c : CallF) : RF := rg [0, 4] <| aX 3 (pM 0) <|
 aX 4 (pB .lss 2 3 (cn (.int .i64 10))) <|
 aXZ
noncomputable def f161_r2 (c : CallF) : RF := rg [2] <| aX 5 (pM 0) <|
 aX 6 (pB .rem 2 5 (cn (.int .i64 10))) <|
 aX 7 (pB .add 2 (cn (.int .i64 48)) 6) <|
 aX 8 (fun n e M => keep (aConvI .u8 (eget e 7))) <|
 aX 9 (fun n e M => keep (aLitI 5 1 [(eget e 8)] M)) <|
 aX 10 (fun n e M => keep (aConvB (eget e 9) M)) <|
 aX 2 (pM 10) <|
 aXZ
noncomputable def f161_r3 (c : CallF) : RF := rgD [2] (aY 11 (pM 0) <|
 aY 12 (pB .quo 2 11 (cn (.int .i64 10))) <|
 aY 13 (pK c false 161 [12]) <|
 aY 14 (pM 0) <|
 aY 15 (pB .rem 2 14 (cn (.int .i64 10))) <|
 aY 16 (pB .add 2 (cn (.int .i64 48)) 15) <|
 aY 17 (fun n e M => keep (aConvI .u8 (eget e 16))) <|
 aY 18 (fun n e M => keep (aLitI 5 1 [(eget e 17)] M)) <|
 aY 19 (fun n e M => keep (aConvB (eget e 18) M)) <|
 aY 20 (pB .add 9 13 19) <|
 aY 2 (pM 20) <|
 aYZ)
 (aXZ)
noncomputable def f161 (c : CallF) (k : Nat) : St :=
 (bSeq (bReg (f161_r0 c))
 (bSeq (bSeq (bReg (f161_r1 c))
 (bCond (.tmp 4) (bSeq (bReg (f161_r2 c))
 (bEx .ret)) (bEx .nrm)))
 (bSeq (bReg (f161_r3 c))
 (bEx .ret))))
theorem f161_eq (c : CallF) (k : Nat) : exec cx c 21 f161_an k (Tryd.f161.body.getD .skip) = f161 c k := by kernel_rfl
def anns : List (Nat × Ann) := [(4, f4_an), (21, f21_an), (22, f22_an), (23, f23_an), (24, f24_an), (25, f25_an), (26, f26_an), (27, f27_an), (28, f28_an), (29, f29_an), (30, f30_an), (31, f31_an), (41, f41_an), (42, f42_an), (57, f57_an), (58, f58_an), (59, f59_an), (60, f60_an), (61, f61_an), (62, f62_an), (63, f63_an), (64, f64_an), (65, f65_an), (66, f66_an), (67, f67_an), (68, f68_an), (69, f69_an), (70, f70_an), (71, f71_an), (72, f72_an), (73, f73_an), (84, f84_an), (91, f91_an), (92, f92_an), (93, f93_an), (94, f94_an), (95, f95_an), (96, f96_an), (97, f97_an), (98, f98_an), (99, f99_an), (100, f100_an), (101, f101_an), (102, f102_an), (103, f103_an), (104, f104_an), (105, f105_an), (106, f106_an), (107, f107_an), (108, f108_an), (122, f122_an), (123, f123_an), (124, f124_an), (125, f125_an), (126, f126_an), (127, f127_an), (128, f128_an), (129, f129_an), (130, f130_an), (139, f139_an), (140, f140_an), (141, f141_an), (142, f142_an), (143, f143_an), (144, f144_an), (158, f158_an), (159, f159_an), (160, f160_an), (161, f161_an)]
noncomputable def CN0 : Nat → CallF := callN cx (Go.Ab.look anns) (fun _ _ _ => none) (fun _ => false)
def isP (f : Nat) : Bool := has [70, 102, 90, 121] f
noncomputable def primF : CallF := splitNil (callN cx (Go.Ab.look anns) (fun _ _ _ => none) (fun _ => false) 3)
noncomputable def CN : Nat → CallF := callN cx (Go.Ab.look anns) (withLib libT primF) isP
end Go.Proofs.YtjlalepbhcekoaaDoor

/- Printed by a program of ours (ext.py). -/
import Derived.Test.YtjlalepbhcekoaaDoorAbLib
import Derived.Test.YtjlalepbhcekoaaDoorProg
set_option linter.unusedVariables false
set_option linter.unusedSimpArgs false
set_option maxRecDepth 100000
set_option maxHeartbeats 2000000
namespace Go.Proofs.YtjlalepbhcekoaaDoor
open Go Go.Ab
noncomputable def cx : Cx := ⟨Tryd.prog, fun f => has [40, 41, 59, 96] f, fun f => has [11, 17, 18, 19] f⟩
noncomputable abbrev pB := pB_ cx.P
noncomputable abbrev pLen := pLen_ cx.P
noncomputable abbrev pAl := pAl_ cx.P
noncomputable abbrev pK := pK_ cx
/-! ### f3: loop.example/g01263/laws.FnAccounts -/
def f3_an : Ann := ⟨[(0, r0 [0, 1]), (1, r0 [0, 1, 30]), (2, r0 [4]), (3, r0 [1, 5]), (4, r0 [1, 5, 6, 7]), (5, r0 [1, 5, 6, 7, 8, 9]), (6, r0 [1, 5, 6, 7, 8, 9, 10, 11]), (7, r0 [1, 5, 6, 7, 8, 9, 10, 11, 12, 13]), (8, r0 [1, 8, 96]), (9, r0 [4]), (10, r0 [1, 8, 14]), (11, r0 [1, 8, 14]), (12, r0 [1, 8, 103]), (13, r0 [4]), (14, r0 [8, 15]), (15, r0 [8, 15, 16, 17]), (16, r0 [8, 15, 16, 17, 18, 19]), (17, r0 [8, 139]), (18, r0 [4]), (19, r0 [8, 20]), (20, r0 [8, 20, 21]), (21, r0 [8, 20, 21, 148]), (22, r0 [8, 20, 21]), (23, r0 [8, 22, 23]), (24, r0 [8, 23, 24, 25]), (25, r0 [8, 23, 24, 25, 26, 27]), (26, r0 [4])], []⟩
noncomputable def f3_r0 (c : CallF) : RF := rg [0, 1] <| aX 4 (pM (cn (.bool false))) <|
 aXZ
noncomputable def f3_r1 (c : CallF) : RF := rg [0, 1, 30] <| aX 28 (pM 0) <|
 aX 29 (pM 1) <|
 aX 30 (pK c false 6 [28, 29]) <|
 aXZ
noncomputable def f3_r2 (c : CallF) : RF := rg [4] <| aX 4 (pM (cn (.bool true))) <|
 aXZ
noncomputable def f3_r3 (c : CallF) : RF := rg [1, 5] <| aX 31 (pM 0) <|
 aX 32 (pK c false 7 [31]) <|
 aX 5 (pM 32) <|
 aXZ
noncomputable def f3_r4 (c : CallF) : RF := rg [1, 5, 6, 7] <| aX 34 (pM 5) <|
 aX 35 (pK c false 8 [(cn (.str [107, 101, 110, 116])), 34]) <|
 aX 33 (pM 35) <|
 aX 36 (pE 0 33) <|
 aX 37 (pE 1 33) <|
 aX 6 (pAl 27 3) <|
 aX0 (pS 3 6 36) <|
 aX 7 (pM 37) <|
 aXZ
noncomputable def f3_r5 (c : CallF) : RF := rg [1, 5, 6, 7, 8, 9] <| aX 39 (pM 5) <|
 aX 40 (pK c false 9 [(cn (.str [107, 101, 110, 116])), 39]) <|
 aX 38 (pM 40) <|
 aX 41 (pE 0 38) <|
 aX 42 (pE 1 38) <|
 aX 8 (pAl 27 3) <|
 aX0 (pS 3 8 41) <|
 aX 9 (pM 42) <|
 aXZ
noncomputable def f3_r6 (c : CallF) : RF := rg [1, 5, 6, 7, 8, 9, 10, 11] <| aX 44 (pM 5) <|
 aX 45 (pK c false 10 [44]) <|
 aX 43 (pM 45) <|
 aX 46 (pE 0 43) <|
 aX 47 (pE 1 43) <|
 aX 10 (pM 46) <|
 aX 11 (pM 47) <|
 aXZ
noncomputable def f3_r7 (c : CallF) : RF := rg [1, 5, 6, 7, 8, 9, 10, 11, 12, 13] <| aX 49 (pL true 3 8) <|
 aX 50 (pK c false 12 [49]) <|
 aX 51 (pK c false 11 [50]) <|
 aX 48 (pM 51) <|
 aX 52 (pE 0 48) <|
 aX 53 (pE 1 48) <|
 aX 12 (pAl 27 3) <|
 aX0 (pS 3 12 52) <|
 aX 13 (pM 53) <|
 aXZ
noncomputable def f3_r8 (c : CallF) : RF := rg [1, 8, 96] <| aX 54 (pM 7) <|
 aX 55 (pM 9) <|
 aX 56 (pB .neq 2 54 55) <|
 aX 57 (pM 56) <|
 aX 58 (pG 57 false (pM 7)) <|
 aX 59 (pG 57 false (pB .neq 2 58 (cn (.int .i64 0)))) <|
 aX 60 (pP 57 (cn (.bool true)) 59) <|
 aX 61 (pM 60) <|
 aX 62 (pG 61 false (pL true 3 6)) <|
 aX 63 (pG 61 false (pL true 3 8)) <|
 aX 64 (pG 61 false (pK c false 13 [62, 63])) <|
 aX 65 (pG 61 false (pU .not 64)) <|
 aX 66 (pP 61 (cn (.bool true)) 65) <|
 aX 67 (pM 66) <|
 aX 68 (pG 67 false (pM 11)) <|
 aX 69 (pG 67 false (pB .neq 2 68 (cn (.int .i64 0)))) <|
 aX 70 (pP 67 (cn (.bool true)) 69) <|
 aX 71 (pM 70) <|
 aX 72 (pG 71 false (pM 10)) <|
 aX 73 (pG 71 false (pF 2 1 8)) <|
 aX 74 (pG 71 false (pL false 1 73)) <|
 aX 75 (pG 71 false (pB .neq 2 72 74)) <|
 aX 76 (pP 71 (cn (.bool true)) 75) <|
 aX 77 (pM 76) <|
 aX 78 (pG 77 false (pL true 3 8)) <|
 aX 79 (pG 77 false (pK c false 14 [78])) <|
 aX 80 (pG 77 false (pU .not 79)) <|
 aX 81 (pP 77 (cn (.bool true)) 80) <|
 aX 82 (pM 81) <|
 aX 83 (pG 82 false (pM 5)) <|
 aX 84 (pG 82 false (pK c false 15 [83])) <|
 aX 85 (pG 82 false (pU .not 84)) <|
 aX 86 (pP 82 (cn (.bool true)) 85) <|
 aX 87 (pM 86) <|
 aX 88 (pG 87 false (pM 13)) <|
 aX 89 (pG 87 false (pB .neq 2 88 (cn (.int .i64 0)))) <|
 aX 90 (pP 87 (cn (.bool true)) 89) <|
 aX 91 (pM 90) <|
 aX 92 (pG 91 false (pL true 3 12)) <|
 aX 93 (pG 91 false (pL true 3 8)) <|
 aX 94 (pG 91 false (pK c false 13 [92, 93])) <|
 aX 95 (pG 91 false (pU .not 94)) <|
 aX 96 (pP 91 (cn (.bool true)) 95) <|
 aXZ
noncomputable def f3_r9 (c : CallF) : RF := rg [4] <| aX 4 (pM (cn (.bool false))) <|
 aXZ
noncomputable def f3_r10 (c : CallF) : RF := rg [1, 8, 14] <| aX 97 (pL true 3 8) <|
 aX 14 (pAl 27 3) <|
 aX0 (pS 3 14 97) <|
 aXZ
noncomputable def f3_r11 (c : CallF) : RF := rg [1, 8, 14] <| aX 98 (pF 2 1 14) <|
 aX 99 (pL false 1 98) <|
 aX 100 (pB .add 2 99 (cn (.int .i64 1))) <|
 aX 101 (pF 2 1 14) <|
 aX0 (pS 1 101 100) <|
 aXZ
noncomputable def f3_r12 (c : CallF) : RF := rg [1, 8, 103] <| aX 102 (pL true 3 14) <|
 aX 103 (pK c false 14 [102]) <|
 aXZ
noncomputable def f3_r13 (c : CallF) : RF := rg [4] <| aX 4 (pM (cn (.bool false))) <|
 aXZ
noncomputable def f3_r14 (c : CallF) : RF := rg [8, 15] <| aX 104 (pM 1) <|
 aX 105 (pK c false 16 [104, (cn (.int .i64 0)), (cn (.int .i64 100))]) <|
 aX 15 (pM 105) <|
 aXZ
noncomputable def f3_r15 (c : CallF) : RF := rg [8, 15, 16, 17] <| aX 107 (pL true 3 8) <|
 aX 108 (pM 15) <|
 aX 109 (pK c false 17 [107, 108]) <|
 aX 106 (pM 109) <|
 aX 110 (pE 0 106) <|
 aX 111 (pE 1 106) <|
 aX 16 (pAl 27 3) <|
 aX0 (pS 3 16 110) <|
 aX 17 (pM 111) <|
 aXZ
noncomputable def f3_r16 (c : CallF) : RF := rg [8, 15, 16, 17, 18, 19] <| aX 113 (pL true 3 8) <|
 aX 114 (pM 15) <|
 aX 115 (pK c false 18 [113, 114]) <|
 aX 112 (pM 115) <|
 aX 116 (pE 0 112) <|
 aX 117 (pE 1 112) <|
 aX 18 (pAl 27 3) <|
 aX0 (pS 3 18 116) <|
 aX 19 (pM 117) <|
 aXZ
noncomputable def f3_r17 (c : CallF) : RF := rg [8, 139] <| aX 118 (pM 17) <|
 aX 119 (pM 19) <|
 aX 120 (pB .neq 2 118 119) <|
 aX 121 (pM 120) <|
 aX 122 (pG 121 false (pM 17)) <|
 aX 123 (pG 121 false (pB .neq 2 122 (cn (.int .i64 0)))) <|
 aX 124 (pP 121 (cn (.bool true)) 123) <|
 aX 125 (pM 124) <|
 aX 126 (pG 125 false (pL true 3 16)) <|
 aX 127 (pG 125 false (pL true 3 18)) <|
 aX 128 (pG 125 false (pK c false 13 [126, 127])) <|
 aX 129 (pG 125 false (pU .not 128)) <|
 aX 130 (pP 125 (cn (.bool true)) 129) <|
 aX 131 (pM 130) <|
 aX 132 (pG 131 false (pF 2 1 18)) <|
 aX 133 (pG 131 false (pL false 1 132)) <|
 aX 134 (pG 131 false (pF 2 1 8)) <|
 aX 135 (pG 131 false (pL false 1 134)) <|
 aX 136 (pG 131 false (pM 15)) <|
 aX 137 (pG 131 false (pB .add 2 135 136)) <|
 aX 138 (pG 131 false (pB .neq 2 133 137)) <|
 aX 139 (pP 131 (cn (.bool true)) 138) <|
 aXZ
noncomputable def f3_r18 (c : CallF) : RF := rg [4] <| aX 4 (pM (cn (.bool false))) <|
 aXZ
noncomputable def f3_r19 (c : CallF) : RF := rg [8, 20] <| aX 140 (pF 2 1 8) <|
 aX 141 (pL false 1 140) <|
 aX 142 (pF 2 1 8) <|
 aX 143 (pL false 1 142) <|
 aX 144 (pU .neg 143) <|
 aX 145 (fun n e M => keep (aMax true (eget e 141) (eget e 144))) <|
 aX 20 (pM 145) <|
 aXZ
noncomputable def f3_r20 (c : CallF) : RF := rg [8, 20, 21] <| aX 21 (pM (cn (.int .i8 2))) <|
 aXZ
noncomputable def f3_r21 (c : CallF) : RF := rg [8, 20, 21, 148] <| aX 146 (pF 2 1 8) <|
 aX 147 (pL false 1 146) <|
 aX 148 (pB .lss 2 147 (cn (.int .i64 0))) <|
 aXZ
noncomputable def f3_r22 (c : CallF) : RF := rg [8, 20, 21] <| aX 21 (pM (cn (.int .i8 0))) <|
 aXZ
noncomputable def f3_r23 (c : CallF) : RF := rg [8, 22, 23] <| aX 150 (pL true 3 8) <|
 aX 151 (pM 21) <|
 aX 152 (pM 20) <|
 aX 153 (fun n e M => keep (aBuild (zeroOf cx.P 42) [(0, 1, (eget e 151)), (1, 1, (eget e 152))] M)) <|
 aX 154 (pK c false 19 [150, 153]) <|
 aX 149 (pM 154) <|
 aX 155 (pE 0 149) <|
 aX 156 (pE 1 149) <|
 aX 22 (pAl 27 3) <|
 aX0 (pS 3 22 155) <|
 aX 23 (pM 156) <|
 aXZ
noncomputable def f3_r24 (c : CallF) : RF := rg [8, 23, 24, 25] <| aX 158 (pL true 3 22) <|
 aX 159 (pK c false 20 [158]) <|
 aX 157 (pM 159) <|
 aX 160 (pE 0 157) <|
 aX 161 (pE 1 157) <|
 aX 24 (pM 160) <|
 aX 25 (pM 161) <|
 aXZ
noncomputable def f3_r25 (c : CallF) : RF := rg [8, 23, 24, 25, 26, 27] <| aX 163 (pL true 3 8) <|
 aX 164 (pK c false 20 [163]) <|
 aX 162 (pM 164) <|
 aX 165 (pE 0 162) <|
 aX 166 (pE 1 162) <|
 aX 26 (pM 165) <|
 aX 27 (pM 166) <|
 aXZ
noncomputable def f3_r26 (c : CallF) : RF := rg [4] <| aX 167 (pM 23) <|
 aX 168 (pB .eql 2 167 (cn (.int .i64 0))) <|
 aX 169 (pM 168) <|
 aX 170 (pG 169 true (pM 25)) <|
 aX 171 (pG 169 true (pB .eql 2 170 (cn (.int .i64 0)))) <|
 aX 172 (pP 169 171 (cn (.bool false))) <|
 aX 173 (pM 172) <|
 aX 174 (pG 173 true (pM 24)) <|
 aX 175 (pP 173 174 (cn (.bool false))) <|
 aX 176 (pM 175) <|
 aX 177 (pG 176 true (pM 27)) <|
 aX 178 (pG 176 true (pB .eql 2 177 (cn (.int .i64 0)))) <|
 aX 179 (pP 176 178 (cn (.bool false))) <|
 aX 180 (pM 179) <|
 aX 181 (pG 180 true (pM 26)) <|
 aX 182 (pG 180 true (pF 2 1 8)) <|
 aX 183 (pG 180 true (pL false 1 182)) <|
 aX 184 (pG 180 true (pB .eql 2 183 (cn (.int .i64 0)))) <|
 aX 185 (pG 180 true (pB .eql 4 181 184)) <|
 aX 186 (pP 180 185 (cn (.bool false))) <|
 aX 4 (pM 186) <|
 aXZ
noncomputable def f3 (c : CallF) (k : Nat) : St :=
 (bSeq (bReg (f3_r0 c))
 (bSeq (bSeq (bReg (f3_r1 c))
 (bCond (.tmp 30) (bSeq (bReg (f3_r2 c))
 (bEx .ret)) (bEx .nrm)))
 (bSeq (bReg (f3_r3 c))
 (bSeq (bReg (f3_r4 c))
 (bSeq (bReg (f3_r5 c))
 (bSeq (bReg (f3_r6 c))
 (bSeq (bReg (f3_r7 c))
 (bSeq (bSeq (bReg (f3_r8 c))
 (bCond (.tmp 96) (bSeq (bReg (f3_r9 c))
 (bEx .ret)) (bEx .nrm)))
 (bSeq (bReg (f3_r10 c))
 (bSeq (bReg (f3_r11 c))
 (bSeq (bSeq (bReg (f3_r12 c))
 (bCond (.tmp 103) (bSeq (bReg (f3_r13 c))
 (bEx .ret)) (bEx .nrm)))
 (bSeq (bReg (f3_r14 c))
 (bSeq (bReg (f3_r15 c))
 (bSeq (bReg (f3_r16 c))
 (bSeq (bSeq (bReg (f3_r17 c))
 (bCond (.tmp 139) (bSeq (bReg (f3_r18 c))
 (bEx .ret)) (bEx .nrm)))
 (bSeq (bReg (f3_r19 c))
 (bSeq (bReg (f3_r20 c))
 (bSeq (bSeq (bReg (f3_r21 c))
 (bCond (.tmp 148) (bReg (f3_r22 c)) (bEx .nrm)))
 (bSeq (bReg (f3_r23 c))
 (bSeq (bReg (f3_r24 c))
 (bSeq (bReg (f3_r25 c))
 (bSeq (bReg (f3_r26 c))
 (bEx .ret)))))))))))))))))))))))
theorem f3_eq (c : CallF) (k : Nat) : exec cx c 187 f3_an k (Tryd.f3.body.getD .skip) = f3 c k := by kernel_rfl
/-! ### f6: loop.example/g01263/laws.a2Long -/
def f6_an : Ann := ⟨[(0, r0 [0, 1]), (1, r0 [4])], []⟩
noncomputable def f6_r0 (c : CallF) : RF := rg [0, 1] <| aX 4 (pM (cn (.bool false))) <|
 aXZ
noncomputable def f6_r1 (c : CallF) : RF := rg [4] <| aX 5 (pM 0) <|
 aX 6 (pLen 22 5) <|
 aX 7 (pB .gtr 3 6 (cn (.int .i64 3000))) <|
 aX 8 (pM 7) <|
 aX 9 (pG 8 false (pM 1)) <|
 aX 10 (pG 8 false (pLen 22 9)) <|
 aX 11 (pG 8 false (pB .gtr 3 10 (cn (.int .i64 3000)))) <|
 aX 12 (pP 8 (cn (.bool true)) 11) <|
 aX 4 (pM 12) <|
 aXZ
noncomputable def f6 (c : CallF) (k : Nat) : St :=
 (bSeq (bReg (f6_r0 c))
 (bSeq (bReg (f6_r1 c))
 (bEx .ret)))
theorem f6_eq (c : CallF) (k : Nat) : exec cx c 13 f6_an k (Tryd.f6.body.getD .skip) = f6 c k := by kernel_rfl
/-! ### f7: loop.example/g01263/spec.A2Items -/
def f7_an : Ann := ⟨[(0, r0 [0]), (1, r0 [2])], []⟩
noncomputable def f7_r0 (c : CallF) : RF := rg [0] <| aX 2 (pM (cn .nils)) <|
 aXZ
noncomputable def f7_r1 (c : CallF) : RF := rg [2] <| aX 3 (pM 0) <|
 aX 4 (pK c false 41 [3]) <|
 aX 5 (pK c false 40 [4]) <|
 aX 2 (pM 5) <|
 aXZ
noncomputable def f7 (c : CallF) (k : Nat) : St :=
 (bSeq (bReg (f7_r0 c))
 (bSeq (bReg (f7_r1 c))
 (bEx .ret)))
theorem f7_eq (c : CallF) (k : Nat) : exec cx c 6 f7_an k (Tryd.f7.body.getD .skip) = f7 c k := by kernel_rfl
/-! ### f8: loop.example/g01263/impl.MakeAccount -/
def f8_an : Ann := ⟨[(0, r0 [0, 1, 4]), (1, r0 [0, 1, 4, 6]), (2, ⟨[1], [], [], [], [4, 5], none, []⟩), (3, r0 [0, 1, 4, 11]), (4, ⟨[1], [], [], [], [4, 5], none, []⟩), (5, ⟨[6], [], [], [], [4, 5], none, []⟩)], []⟩
noncomputable def f8_r0 (c : CallF) : RF := rg [0, 1, 4] <| aX 4 (pAl 27 3) <|
 aX 5 (pM (cn (.int .i64 0))) <|
 aXZ
noncomputable def f8_r1 (c : CallF) : RF := rg [0, 1, 4, 6] <| aX 7 (pM 1) <|
 aX 8 (pK c false 15 [7]) <|
 aX 9 (pU .not 8) <|
 aX 6 (pM 9) <|
 aXZ
noncomputable def f8_r2 (c : CallF) : RF := rg [4, 5] <| aX 10 (fun n e M => keep (aBuild (zeroOf cx.P 27) [] M)) <|
 aX0 (pSK 3 4 10) <|
 aX 5 (pM (cn (.int .i64 1))) <|
 aXZ
noncomputable def f8_r3 (c : CallF) : RF := rg [0, 1, 4, 11] <| aX 12 (pM 0) <|
 aX 13 (pK c false 42 [12, (cn (.int .i64 16))]) <|
 aX 14 (pU .not 13) <|
 aX 11 (pM 14) <|
 aXZ
noncomputable def f8_r4 (c : CallF) : RF := rg [4, 5] <| aX 15 (fun n e M => keep (aBuild (zeroOf cx.P 27) [] M)) <|
 aX0 (pSK 3 4 15) <|
 aX 5 (pM (cn (.int .i64 2))) <|
 aXZ
noncomputable def f8_r5 (c : CallF) : RF := rg [4, 5] <| aX 16 (pM 0) <|
 aX 17 (pM 1) <|
 aX 18 (pK c false 43 [17]) <|
 aX 19 (pM 1) <|
 aX 20 (pK c false 44 [19]) <|
 aX 21 (fun n e M => keep (aBuild (zeroOf cx.P 27) [(0, 1, (eget e 16)), (1, 1, (eget e 18)), (2, 1, (eget e 20))] M)) <|
 aX0 (pSK 3 4 21) <|
 aX 5 (pM (cn (.int .i64 0))) <|
 aXZ
noncomputable def f8 (c : CallF) (k : Nat) : St :=
 (bSeq (bReg (f8_r0 c))
 (bSeq (bBlock 0 (bSeq (bReg (f8_r1 c))
 (bCond (.tmp 6) (bSeq (bReg (f8_r2 c))
 (bEx .ret)) (bSeq (bReg (f8_r3 c))
 (bCond (.tmp 11) (bSeq (bReg (f8_r4 c))
 (bEx .ret)) (bEx .nrm))))))
 (bSeq (bReg (f8_r5 c))
 (bEx .ret))))
theorem f8_eq (c : CallF) (k : Nat) : exec cx c 22 f8_an k (Tryd.f8.body.getD .skip) = f8 c k := by kernel_rfl
/-! ### f9: loop.example/g01263/spec.MakeAccount -/
def f9_an : Ann := ⟨[(0, r0 [0, 1, 4]), (1, r0 [0, 1, 4, 8]), (2, ⟨[1], [], [], [], [4, 5], none, []⟩), (3, r0 [0, 1, 4, 12]), (4, ⟨[1], [], [], [], [4, 5], none, []⟩), (5, ⟨[3], [], [], [], [4, 5], none, []⟩)], []⟩
noncomputable def f9_r0 (c : CallF) : RF := rg [0, 1, 4] <| aX 4 (pAl 27 3) <|
 aX 5 (pM (cn (.int .i64 0))) <|
 aXZ
noncomputable def f9_r1 (c : CallF) : RF := rg [0, 1, 4, 8] <| aX 6 (pM 1) <|
 aX 7 (pK c false 45 [6]) <|
 aX 8 (pU .not 7) <|
 aXZ
noncomputable def f9_r2 (c : CallF) : RF := rg [4, 5] <| aX 9 (fun n e M => keep (aBuild (zeroOf cx.P 27) [] M)) <|
 aX0 (pSK 3 4 9) <|
 aX 5 (pM (cn (.int .i64 1))) <|
 aXZ
noncomputable def f9_r3 (c : CallF) : RF := rg [0, 1, 4, 12] <| aX 10 (pM 0) <|
 aX 11 (pK c false 46 [10]) <|
 aX 12 (pU .not 11) <|
 aXZ
noncomputable def f9_r4 (c : CallF) : RF := rg [4, 5] <| aX 13 (fun n e M => keep (aBuild (zeroOf cx.P 27) [] M)) <|
 aX0 (pSK 3 4 13) <|
 aX 5 (pM (cn (.int .i64 2))) <|
 aXZ
noncomputable def f9_r5 (c : CallF) : RF := rg [4, 5] <| aX 14 (pM 0) <|
 aX 15 (pM 1) <|
 aX 16 (pK c false 47 [14, 15]) <|
 aX0 (pSK 3 4 16) <|
 aX 5 (pM (cn (.int .i64 0))) <|
 aXZ
noncomputable def f9 (c : CallF) (k : Nat) : St :=
 (bSeq (bReg (f9_r0 c))
 (bSeq (bSeq (bReg (f9_r1 c))
 (bCond (.tmp 8) (bSeq (bReg (f9_r2 c))
 (bEx .ret)) (bEx .nrm)))
 (bSeq (bSeq (bReg (f9_r3 c))
 (bCond (.tmp 12) (bSeq (bReg (f9_r4 c))
 (bEx .ret)) (bEx .nrm)))
 (bSeq (bReg (f9_r5 c))
 (bEx .ret)))))
theorem f9_eq (c : CallF) (k : Nat) : exec cx c 17 f9_an k (Tryd.f9.body.getD .skip) = f9 c k := by kernel_rfl
/-! ### f10: loop.example/g01263/impl.BalanceOf -/
def f10_an : Ann := ⟨[(0, r0 [0]), (1, r0 [0, 6]), (2, r0 [2, 3]), (3, r0 [2, 3])], []⟩
noncomputable def f10_r0 (c : CallF) : RF := rg [0] <| aX 2 (pM (cn (.int .i64 0))) <|
 aX 3 (pM (cn (.int .i64 0))) <|
 aXZ
noncomputable def f10_r1 (c : CallF) : RF := rg [0, 6] <| aX 4 (pM 0) <|
 aX 5 (pK c false 15 [4]) <|
 aX 6 (pU .not 5) <|
 aXZ
noncomputable def f10_r2 (c : CallF) : RF := rg [2, 3] <| aX 2 (pM (cn (.int .i64 0))) <|
 aX 3 (pM (cn (.int .i64 1))) <|
 aXZ
noncomputable def f10_r3 (c : CallF) : RF := rg [2, 3] <| aX 7 (pM 0) <|
 aX 8 (pK c false 44 [7]) <|
 aX 2 (pM 8) <|
 aX 3 (pM (cn (.int .i64 0))) <|
 aXZ
noncomputable def f10 (c : CallF) (k : Nat) : St :=
 (bSeq (bReg (f10_r0 c))
 (bSeq (bSeq (bReg (f10_r1 c))
 (bCond (.tmp 6) (bSeq (bReg (f10_r2 c))
 (bEx .ret)) (bEx .nrm)))
 (bSeq (bReg (f10_r3 c))
 (bEx .ret))))
theorem f10_eq (c : CallF) (k : Nat) : exec cx c 9 f10_an k (Tryd.f10.body.getD .skip) = f10 c k := by kernel_rfl
/-! ### f11: loop.example/g01263/impl.ReadAccount -/
def f11_an : Ann := ⟨[(0, r0 [0, 2]), (1, r0 [2, 4, 5]), (2, r0 [2, 4, 5, 6, 7, 8]), (3, r0 [2, 6, 31]), (4, r0 [2, 3]), (5, r0 [2, 3])], []⟩
noncomputable def f11_r0 (c : CallF) : RF := rg [0, 2] <| aX 2 (pAl 27 3) <|
 aX 3 (pM (cn (.int .i64 0))) <|
 aXZ
noncomputable def f11_r1 (c : CallF) : RF := rg [2, 4, 5] <| aX 10 (pM 0) <|
 aX 11 (pK c false 48 [10]) <|
 aX 9 (pM 11) <|
 aX 12 (pE 0 9) <|
 aX 13 (pE 1 9) <|
 aX 4 (pM 12) <|
 aX 5 (pM 13) <|
 aXZ
noncomputable def f11_r2 (c : CallF) : RF := rg [2, 4, 5, 6, 7, 8] <| aX 15 (pM 4) <|
 aX 16 (pK c false 49 [15]) <|
 aX 14 (pM 16) <|
 aX 17 (pE 0 14) <|
 aX 18 (pE 1 14) <|
 aX 19 (pE 2 14) <|
 aX 6 (pAl 27 3) <|
 aX0 (pS 3 6 17) <|
 aX 7 (pM 18) <|
 aX 8 (pM 19) <|
 aXZ
noncomputable def f11_r3 (c : CallF) : RF := rg [2, 6, 31] <| aX 20 (pM 5) <|
 aX 21 (pU .not 20) <|
 aX 22 (pM 21) <|
 aX 23 (pG 22 false (pM 8)) <|
 aX 24 (pG 22 false (pU .not 23)) <|
 aX 25 (pP 22 (cn (.bool true)) 24) <|
 aX 26 (pM 25) <|
 aX 27 (pG 26 false (pM 7)) <|
 aX 28 (pG 26 false (pM 4)) <|
 aX 29 (pG 26 false (pLen 71 28)) <|
 aX 30 (pG 26 false (pB .neq 3 27 29)) <|
 aX 31 (pP 26 (cn (.bool true)) 30) <|
 aXZ
noncomputable def f11_r4 (c : CallF) : RF := rg [2, 3] <| aX 32 (fun n e M => keep (aBuild (zeroOf cx.P 27) [] M)) <|
 aX0 (pS 3 2 32) <|
 aX 3 (pM (cn (.int .i64 5))) <|
 aXZ
noncomputable def f11_r5 (c : CallF) : RF := rg [2, 3] <| aX 33 (pL true 3 6) <|
 aX0 (pS 3 2 33) <|
 aX 3 (pM (cn (.int .i64 0))) <|
 aXZ
noncomputable def f11 (c : CallF) (k : Nat) : St :=
 (bSeq (bReg (f11_r0 c))
 (bSeq (bReg (f11_r1 c))
 (bSeq (bReg (f11_r2 c))
 (bSeq (bSeq (bReg (f11_r3 c))
 (bCond (.tmp 31) (bSeq (bReg (f11_r4 c))
 (bEx .ret)) (bEx .nrm)))
 (bSeq (bReg (f11_r5 c))
 (bEx .ret))))))
theorem f11_eq (c : CallF) (k : Nat) : exec cx c 34 f11_an k (Tryd.f11.body.getD .skip) = f11 c k := by kernel_rfl
/-! ### f12: loop.example/g01263/impl.AccountText -/
def f12_an : Ann := ⟨[(0, r0 [1]), (1, r0 [1, 15]), (2, r0 [2]), (3, r0 [1, 3]), (4, r0 [1, 3, 20, 21, 22]), (5, r0 [1, 3, 20, 21, 22, 23]), (6, r0 [1, 3, 5, 20, 21, 22]), (7, r0 [1, 3, 20, 21, 22]), (8, r0 [1, 3, 20, 21, 22]), (9, r0 [1, 3, 40]), (10, r0 [2]), (11, r0 [1, 3, 51]), (12, r0 [2]), (13, r0 [2])], [(5, [1, 3, 20, 21, 22])]⟩
noncomputable def f12_r0 (c : CallF) : RF := rg [1] <| aX 1 (pBox 3 0) <|
 aX 2 (pM (cn (.str []))) <|
 aXZ
noncomputable def f12_r1 (c : CallF) : RF := rg [1, 15] <| aX 6 (pL true 3 1) <|
 aX 7 (pK c false 14 [6]) <|
 aX 8 (pU .not 7) <|
 aX 9 (pM 8) <|
 aX 10 (pG 9 false (pF 2 1 1)) <|
 aX 11 (pG 9 false (pL false 1 10)) <|
 aX 12 (pG 9 false (pK c false 51 [11])) <|
 aX 13 (pG 9 false (pK c false 50 [12])) <|
 aX 14 (pG 9 false (pU .not 13)) <|
 aX 15 (pP 9 (cn (.bool true)) 14) <|
 aXZ
noncomputable def f12_r2 (c : CallF) : RF := rg [2] <| aX 2 (pM (cn (.str []))) <|
 aXZ
noncomputable def f12_r3 (c : CallF) : RF := rg [1, 3] <| aX 16 (pF 0 1 1) <|
 aX 17 (pL false 1 16) <|
 aX 18 (pB .add 9 17 (cn (.str [10]))) <|
 aX 3 (pM 18) <|
 aXZ
noncomputable def f12_r4 (c : CallF) : RF := rg [1, 3, 20, 21, 22] <| aX 19 (pF 1 1 1) <|
 aX 20 (pL false 1 19) <|
 aX 21 (pLen 24 20) <|
 aX 22 (pM (cn (.int .i64 0))) <|
 aXZ
noncomputable def f12_r5 (c : CallF) : RF := rg [1, 3, 20, 21, 22, 23] <| aX 23 (pB .lss 3 22 21) <|
 aXZ
noncomputable def f12_r6 (c : CallF) : RF := rg [1, 3, 5, 20, 21, 22] <| aX 24 (pI 2 20 22) <|
 aX 25 (pL true 2 24) <|
 aX 5 (pAl 42 2) <|
 aX0 (pS 2 5 25) <|
 aXZ
noncomputable def f12_r7 (c : CallF) : RF := rgD [1, 3, 20, 21, 22] (aY 26 (pM 3) <|
 aY 27 (pK c false 52 []) <|
 aY 28 (pF 0 1 5) <|
 aY 29 (pL false 1 28) <|
 aY 30 (pI 1 27 29) <|
 aY 31 (pL false 1 30) <|
 aY 32 (pB .add 9 31 (cn (.str [32]))) <|
 aY 33 (pF 1 1 5) <|
 aY 34 (pL false 1 33) <|
 aY 35 (pK c false 53 [34]) <|
 aY 36 (pB .add 9 32 35) <|
 aY 37 (pB .add 9 36 (cn (.str [10]))) <|
 aY 38 (pB .add 9 26 37) <|
 aY 3 (pM 38) <|
 aYZ)
 (aXZ)
noncomputable def f12_r8 (c : CallF) : RF := rg [1, 3, 20, 21, 22] <| aX 39 (pB .add 3 22 (cn (.int .i64 1))) <|
 aX 22 (pM 39) <|
 aXZ
noncomputable def f12_r9 (c : CallF) : RF := rg [1, 3, 40] <| aX 41 (pF 2 1 1) <|
 aX 42 (pL false 1 41) <|
 aX 43 (pB .gtr 2 42 (cn (.int .i64 0))) <|
 aX 40 (pM 43) <|
 aXZ
noncomputable def f12_r10 (c : CallF) : RF := rg [2] <| aX 44 (pM 3) <|
 aX 45 (pB .add 9 44 (cn (.str [111, 119, 101, 115, 32]))) <|
 aX 46 (pF 2 1 1) <|
 aX 47 (pL false 1 46) <|
 aX 48 (pK c false 53 [47]) <|
 aX 49 (pB .add 9 45 48) <|
 aX 50 (pB .add 9 49 (cn (.str [10]))) <|
 aX 2 (pM 50) <|
 aXZ
noncomputable def f12_r11 (c : CallF) : RF := rg [1, 3, 51] <| aX 52 (pF 2 1 1) <|
 aX 53 (pL false 1 52) <|
 aX 54 (pB .lss 2 53 (cn (.int .i64 0))) <|
 aX 51 (pM 54) <|
 aXZ
noncomputable def f12_r12 (c : CallF) : RF := rg [2] <| aX 55 (pM 3) <|
 aX 56 (pB .add 9 55 (cn (.str [111, 118, 101, 114, 32]))) <|
 aX 57 (pF 2 1 1) <|
 aX 58 (pL false 1 57) <|
 aX 59 (pU .neg 58) <|
 aX 60 (pK c false 53 [59]) <|
 aX 61 (pB .add 9 56 60) <|
 aX 62 (pB .add 9 61 (cn (.str [10]))) <|
 aX 2 (pM 62) <|
 aXZ
noncomputable def f12_r13 (c : CallF) : RF := rg [2] <| aX 63 (pM 3) <|
 aX 64 (pB .add 9 63 (cn (.str [113, 117, 105, 116, 10]))) <|
 aX 2 (pM 64) <|
 aXZ
noncomputable def f12_l5 (c : CallF) (k : Nat) : St :=
 (bSeq (bReg (f12_r5 c))
 (bSeq (bCond (.tmp 23) (bEx .nrm) (bEx (.ext 0)))
 (bSeq (bBlock 1 (bSeq (bReg (f12_r6 c))
 (bReg (f12_r7 c))))
 (bReg (f12_r8 c)))))
noncomputable def f12 (c : CallF) (k : Nat) : St :=
 (bSeq (bReg (f12_r0 c))
 (bSeq (bSeq (bReg (f12_r1 c))
 (bCond (.tmp 15) (bSeq (bReg (f12_r2 c))
 (bEx .ret)) (bEx .nrm)))
 (bSeq (bReg (f12_r3 c))
 (bSeq (bSeq (bReg (f12_r4 c))
 (bBlock 0 (bLoop [1, 3, 20, 21, 22] (f12_l5 c k) k)))
 (bSeq (bBlock 2 (bSeq (bReg (f12_r9 c))
 (bCond (.tmp 40) (bSeq (bReg (f12_r10 c))
 (bEx .ret)) (bSeq (bReg (f12_r11 c))
 (bCond (.tmp 51) (bSeq (bReg (f12_r12 c))
 (bEx .ret)) (bEx .nrm))))))
 (bSeq (bReg (f12_r13 c))
 (bEx .ret)))))))
theorem f12_eq (c : CallF) (k : Nat) : exec cx c 65 f12_an k (Tryd.f12.body.getD .skip) = f12 c k := by kernel_rfl
/-! ### f13: loop.example/g01263/spec.A2SameAccount -/
def f13_an : Ann := ⟨[(0, r0 [2, 3]), (1, r0 [2, 3, 26]), (2, r0 [4]), (3, r0 [2, 3, 5]), (4, r0 [2, 3, 5, 31]), (5, r0 [2, 3, 5]), (6, r0 [2, 3, 5, 44]), (7, r0 [4]), (8, r0 [4])], [(4, [2, 3, 5])]⟩
noncomputable def f13_r0 (c : CallF) : RF := rg [2, 3] <| aX 2 (pBox 3 0) <|
 aX 3 (pBox 3 1) <|
 aX 4 (pM (cn (.bool false))) <|
 aXZ
noncomputable def f13_r1 (c : CallF) : RF := rg [2, 3, 26] <| aX 6 (pF 0 1 2) <|
 aX 7 (pL false 1 6) <|
 aX 8 (pF 0 1 3) <|
 aX 9 (pL false 1 8) <|
 aX 10 (pB .neq 9 7 9) <|
 aX 11 (pM 10) <|
 aX 12 (pG 11 false (pF 2 1 2)) <|
 aX 13 (pG 11 false (pL false 1 12)) <|
 aX 14 (pG 11 false (pF 2 1 3)) <|
 aX 15 (pG 11 false (pL false 1 14)) <|
 aX 16 (pG 11 false (pB .neq 2 13 15)) <|
 aX 17 (pP 11 (cn (.bool true)) 16) <|
 aX 18 (pM 17) <|
 aX 19 (pG 18 false (pF 1 1 2)) <|
 aX 20 (pG 18 false (pL false 1 19)) <|
 aX 21 (pG 18 false (pLen 24 20)) <|
 aX 22 (pG 18 false (pF 1 1 3)) <|
 aX 23 (pG 18 false (pL false 1 22)) <|
 aX 24 (pG 18 false (pLen 24 23)) <|
 aX 25 (pG 18 false (pB .neq 3 21 24)) <|
 aX 26 (pP 18 (cn (.bool true)) 25) <|
 aXZ
noncomputable def f13_r2 (c : CallF) : RF := rg [4] <| aX 4 (pM (cn (.bool false))) <|
 aXZ
noncomputable def f13_r3 (c : CallF) : RF := rg [2, 3, 5] <| aX 5 (pM (cn (.int .i64 0))) <|
 aXZ
noncomputable def f13_r4 (c : CallF) : RF := rg [2, 3, 5, 31] <| aX 27 (pM 5) <|
 aX 28 (pF 1 1 2) <|
 aX 29 (pL false 1 28) <|
 aX 30 (pLen 24 29) <|
 aX 31 (pB .lss 3 27 30) <|
 aXZ
noncomputable def f13_r5 (c : CallF) : RF := rg [2, 3, 5] <| aX 32 (pM 5) <|
 aX 33 (pB .add 3 32 (cn (.int .i64 1))) <|
 aX 5 (pM 33) <|
 aXZ
noncomputable def f13_r6 (c : CallF) : RF := rgD [2, 3, 5, 44] (aY 34 (pF 1 1 2) <|
 aY 35 (pL false 1 34) <|
 aY 36 (pM 5) <|
 aY 37 (pI 2 35 36) <|
 aY 38 (pL true 2 37) <|
 aY 39 (pF 1 1 3) <|
 aY 40 (pL false 1 39) <|
 aY 41 (pM 5) <|
 aY 42 (pI 2 40 41) <|
 aY 43 (pL true 2 42) <|
 aY 44 (pB .neq 42 38 43) <|
 aYZ)
 (aXZ)
noncomputable def f13_r7 (c : CallF) : RF := rg [4] <| aX 4 (pM (cn (.bool false))) <|
 aXZ
noncomputable def f13_r8 (c : CallF) : RF := rg [4] <| aX 4 (pM (cn (.bool true))) <|
 aXZ
noncomputable def f13_l4 (c : CallF) (k : Nat) : St :=
 (bSeq (bSeq (bReg (f13_r4 c))
 (bCond (.tmp 31) (bEx .nrm) (bEx (.ext 0))))
 (bSeq (bBlock 1 (bSeq (bReg (f13_r6 c))
 (bCond (.tmp 44) (bSeq (bReg (f13_r7 c))
 (bEx .ret)) (bEx .nrm))))
 (bReg (f13_r5 c))))
noncomputable def f13 (c : CallF) (k : Nat) : St :=
 (bSeq (bReg (f13_r0 c))
 (bSeq (bSeq (bReg (f13_r1 c))
 (bCond (.tmp 26) (bSeq (bReg (f13_r2 c))
 (bEx .ret)) (bEx .nrm)))
 (bSeq (bSeq (bReg (f13_r3 c))
 (bBlock 0 (bLoop [2, 3, 5] (f13_l4 c k) k)))
 (bSeq (bReg (f13_r8 c))
 (bEx .ret)))))
theorem f13_eq (c : CallF) (k : Nat) : exec cx c 45 f13_an k (Tryd.f13.body.getD .skip) = f13 c k := by kernel_rfl
/-! ### f14: loop.example/g01263/impl.CheckAccount -/
def f14_an : Ann := ⟨[(0, r0 [1]), (1, r0 [2])], []⟩
noncomputable def f14_r0 (c : CallF) : RF := rg [1] <| aX 1 (pBox 3 0) <|
 aX 2 (pM (cn (.bool false))) <|
 aXZ
noncomputable def f14_r1 (c : CallF) : RF := rgD [2] (aY 3 (pF 0 1 1) <|
 aY 4 (pL false 1 3) <|
 aY 5 (pK c false 42 [4, (cn (.int .i64 16))]) <|
 aY 6 (pM 5) <|
 aY 7 (pG 6 true (pF 1 1 1)) <|
 aY 8 (pG 6 true (pL false 1 7)) <|
 aY 9 (pG 6 true (pK c false 15 [8])) <|
 aY 10 (pP 6 9 (cn (.bool false))) <|
 aY 11 (pM 10) <|
 aY 12 (pG 11 true (pF 2 1 1)) <|
 aY 13 (pG 11 true (pL false 1 12)) <|
 aY 14 (pG 11 true (pF 1 1 1)) <|
 aY 15 (pG 11 true (pL false 1 14)) <|
 aY 16 (pG 11 true (pK c false 44 [15])) <|
 aY 17 (pG 11 true (pB .eql 2 13 16)) <|
 aY 18 (pP 11 17 (cn (.bool false))) <|
 aY 2 (pM 18) <|
 aYZ)
 (aXZ)
noncomputable def f14 (c : CallF) (k : Nat) : St :=
 (bSeq (bReg (f14_r0 c))
 (bSeq (bReg (f14_r1 c))
 (bEx .ret)))
theorem f14_eq (c : CallF) (k : Nat) : exec cx c 19 f14_an k (Tryd.f14.body.getD .skip) = f14 c k := by kernel_rfl
/-! ### f15: loop.example/g01263/impl.ValidItems -/
def f15_an : Ann := ⟨[(0, r0 [0]), (1, r0 [0, 5, 6, 7]), (2, r0 [0, 5, 6, 7, 8]), (3, r0 [0, 4, 5, 6, 7]), (4, r0 [0, 5, 6, 7, 13]), (5, r0 [2]), (6, r0 [0, 5, 6, 7]), (7, r0 [2])], [(2, [0, 5, 6, 7])]⟩
noncomputable def f15_r0 (c : CallF) : RF := rg [0] <| aX 2 (pM (cn (.bool false))) <|
 aXZ
noncomputable def f15_r1 (c : CallF) : RF := rg [0, 5, 6, 7] <| aX 5 (pM 0) <|
 aX 6 (pLen 24 5) <|
 aX 7 (pM (cn (.int .i64 0))) <|
 aXZ
noncomputable def f15_r2 (c : CallF) : RF := rg [0, 5, 6, 7, 8] <| aX 8 (pB .lss 3 7 6) <|
 aXZ
noncomputable def f15_r3 (c : CallF) : RF := rg [0, 4, 5, 6, 7] <| aX 9 (pI 2 5 7) <|
 aX 10 (pL true 2 9) <|
 aX 4 (pAl 42 2) <|
 aX0 (pS 2 4 10) <|
 aXZ
noncomputable def f15_r4 (c : CallF) : RF := rg [0, 5, 6, 7, 13] <| aX 11 (pL true 2 4) <|
 aX 12 (pK c false 54 [11]) <|
 aX 13 (pU .not 12) <|
 aXZ
noncomputable def f15_r5 (c : CallF) : RF := rg [2] <| aX 2 (pM (cn (.bool false))) <|
 aXZ
noncomputable def f15_r6 (c : CallF) : RF := rg [0, 5, 6, 7] <| aX 14 (pB .add 3 7 (cn (.int .i64 1))) <|
 aX 7 (pM 14) <|
 aXZ
noncomputable def f15_r7 (c : CallF) : RF := rg [2] <| aX 15 (pM 0) <|
 aX 16 (pLen 24 15) <|
 aX 17 (pB .leq 3 16 (cn (.int .i64 40))) <|
 aX 2 (pM 17) <|
 aXZ
noncomputable def f15_l2 (c : CallF) (k : Nat) : St :=
 (bSeq (bReg (f15_r2 c))
 (bSeq (bCond (.tmp 8) (bEx .nrm) (bEx (.ext 0)))
 (bSeq (bBlock 1 (bSeq (bReg (f15_r3 c))
 (bSeq (bReg (f15_r4 c))
 (bCond (.tmp 13) (bSeq (bReg (f15_r5 c))
 (bEx .ret)) (bEx .nrm)))))
 (bReg (f15_r6 c)))))
noncomputable def f15 (c : CallF) (k : Nat) : St :=
 (bSeq (bReg (f15_r0 c))
 (bSeq (bSeq (bReg (f15_r1 c))
 (bBlock 0 (bLoop [0, 5, 6, 7] (f15_l2 c k) k)))
 (bSeq (bReg (f15_r7 c))
 (bEx .ret))))
theorem f15_eq (c : CallF) (k : Nat) : exec cx c 18 f15_an k (Tryd.f15.body.getD .skip) = f15 c k := by kernel_rfl
/-! ### f16: loop.example/g01263/laws.a2At -/
def f16_an : Ann := ⟨[(0, r0 [0, 1, 2]), (1, r0 [0, 1, 2, 14]), (2, r0 [6]), (3, r0 [6])], []⟩
noncomputable def f16_r0 (c : CallF) : RF := rg [0, 1, 2] <| aX 6 (pM (cn (.int .i64 0))) <|
 aXZ
noncomputable def f16_r1 (c : CallF) : RF := rg [0, 1, 2, 14] <| aX 7 (pM 1) <|
 aX 8 (pM 0) <|
 aX 9 (pLen 22 8) <|
 aX 10 (pB .geq 2 7 9) <|
 aX 11 (pM 10) <|
 aX 12 (pG 11 false (pM 2)) <|
 aX 13 (pG 11 false (pB .lss 2 12 (cn (.int .i64 1)))) <|
 aX 14 (pP 11 (cn (.bool true)) 13) <|
 aXZ
noncomputable def f16_r2 (c : CallF) : RF := rg [6] <| aX 6 (pM (cn (.int .i64 0))) <|
 aXZ
noncomputable def f16_r3 (c : CallF) : RF := rg [6] <| aX 15 (pM 0) <|
 aX 16 (pM 1) <|
 aX 17 (pI 1 15 16) <|
 aX 18 (pL false 1 17) <|
 aX 19 (fun n e M => keep (aConvI .i64 (eget e 18))) <|
 aX 20 (pM 2) <|
 aX 21 (pB .rem 2 19 20) <|
 aX 6 (pM 21) <|
 aXZ
noncomputable def f16 (c : CallF) (k : Nat) : St :=
 (bSeq (bReg (f16_r0 c))
 (bSeq (bSeq (bReg (f16_r1 c))
 (bCond (.tmp 14) (bSeq (bReg (f16_r2 c))
 (bEx .ret)) (bEx .nrm)))
 (bSeq (bReg (f16_r3 c))
 (bEx .ret))))
theorem f16_eq (c : CallF) (k : Nat) : exec cx c 22 f16_an k (Tryd.f16.body.getD .skip) = f16 c k := by kernel_rfl
/-! ### f17: loop.example/g01263/impl.NextYear -/
def f17_an : Ann := ⟨[(0, r0 [1, 2, 4]), (1, r0 [1, 2, 4, 7]), (2, r0 [4, 5]), (3, r0 [1, 2, 4, 12]), (4, r0 [4, 5]), (5, r0 [1, 2, 4, 17]), (6, r0 [4, 5]), (7, ⟨[0], [], [], [], [1, 2, 4, 6], none, []⟩), (8, r0 [1, 2, 4, 6, 26]), (9, ⟨[4], [], [], [], [2, 4, 6], none, []⟩), (10, r0 [2, 4, 6, 32]), (11, ⟨[5], [], [], [], [2, 4, 6], none, []⟩), (12, r0 [2, 4, 6, 42]), (13, ⟨[6], [], [], [], [2, 4, 6], none, []⟩), (14, r0 [4, 5])], []⟩
noncomputable def f17_r0 (c : CallF) : RF := rg [1, 2, 4] <| aX 2 (pBox 3 0) <|
 aX 4 (pAl 27 3) <|
 aX 5 (pM (cn (.int .i64 0))) <|
 aXZ
noncomputable def f17_r1 (c : CallF) : RF := rg [1, 2, 4, 7] <| aX 8 (pL true 3 2) <|
 aX 9 (pK c false 14 [8]) <|
 aX 10 (pU .not 9) <|
 aX 7 (pM 10) <|
 aXZ
noncomputable def f17_r2 (c : CallF) : RF := rg [4, 5] <| aX 11 (fun n e M => keep (aBuild (zeroOf cx.P 27) [] M)) <|
 aX0 (pS 3 4 11) <|
 aX 5 (pM (cn (.int .i64 1))) <|
 aXZ
noncomputable def f17_r3 (c : CallF) : RF := rg [1, 2, 4, 12] <| aX 13 (pM 1) <|
 aX 14 (pK c false 50 [13]) <|
 aX 15 (pU .not 14) <|
 aX 12 (pM 15) <|
 aXZ
noncomputable def f17_r4 (c : CallF) : RF := rg [4, 5] <| aX 16 (fun n e M => keep (aBuild (zeroOf cx.P 27) [] M)) <|
 aX0 (pS 3 4 16) <|
 aX 5 (pM (cn (.int .i64 2))) <|
 aXZ
noncomputable def f17_r5 (c : CallF) : RF := rg [1, 2, 4, 17] <| aX 18 (pF 2 1 2) <|
 aX 19 (pL false 1 18) <|
 aX 20 (pK c false 51 [19]) <|
 aX 21 (pK c false 50 [20]) <|
 aX 22 (pU .not 21) <|
 aX 17 (pM 22) <|
 aXZ
noncomputable def f17_r6 (c : CallF) : RF := rg [4, 5] <| aX 23 (fun n e M => keep (aBuild (zeroOf cx.P 27) [] M)) <|
 aX0 (pS 3 4 23) <|
 aX 5 (pM (cn (.int .i64 3))) <|
 aXZ
noncomputable def f17_r7 (c : CallF) : RF := rg [1, 2, 4, 6] <| aX 24 (fun n e M => aLitO false n 42 2 [] M) <|
 aX 6 (pM 24) <|
 aXZ
noncomputable def f17_r8 (c : CallF) : RF := rg [1, 2, 4, 6, 26] <| aX 25 (pM 1) <|
 aX 26 (pB .gtr 2 25 (cn (.int .i64 0))) <|
 aXZ
noncomputable def f17_r9 (c : CallF) : RF := rg [2, 4, 6] <| aX 27 (pM 6) <|
 aX 28 (pM 1) <|
 aX 29 (fun n e M => keep (aBuild (zeroOf cx.P 42) [(0, 1, (.int .i8 0)), (1, 1, (eget e 28))] M)) <|
 aX 30 (fun n e M => keep (aLitI 42 2 [(eget e 29)] M)) <|
 aX 31 (fun n e M => aAppO n 42 2 16 (eget e 27) (eget e 30) M) <|
 aX 6 (pM 31) <|
 aXZ
noncomputable def f17_r10 (c : CallF) : RF := rg [2, 4, 6, 32] <| aX 33 (pF 2 1 2) <|
 aX 34 (pL false 1 33) <|
 aX 35 (pB .gtr 2 34 (cn (.int .i64 0))) <|
 aX 32 (pM 35) <|
 aXZ
noncomputable def f17_r11 (c : CallF) : RF := rg [2, 4, 6] <| aX 36 (pM 6) <|
 aX 37 (pF 2 1 2) <|
 aX 38 (pL false 1 37) <|
 aX 39 (fun n e M => keep (aBuild (zeroOf cx.P 42) [(0, 1, (.int .i8 1)), (1, 1, (eget e 38))] M)) <|
 aX 40 (fun n e M => keep (aLitI 42 2 [(eget e 39)] M)) <|
 aX 41 (fun n e M => aAppO n 42 2 16 (eget e 36) (eget e 40) M) <|
 aX 6 (pM 41) <|
 aXZ
noncomputable def f17_r12 (c : CallF) : RF := rg [2, 4, 6, 42] <| aX 43 (pF 2 1 2) <|
 aX 44 (pL false 1 43) <|
 aX 45 (pB .lss 2 44 (cn (.int .i64 0))) <|
 aX 42 (pM 45) <|
 aXZ
noncomputable def f17_r13 (c : CallF) : RF := rg [2, 4, 6] <| aX 46 (pM 6) <|
 aX 47 (pF 2 1 2) <|
 aX 48 (pL false 1 47) <|
 aX 49 (pU .neg 48) <|
 aX 50 (fun n e M => keep (aBuild (zeroOf cx.P 42) [(0, 1, (.int .i8 2)), (1, 1, (eget e 49))] M)) <|
 aX 51 (fun n e M => keep (aLitI 42 2 [(eget e 50)] M)) <|
 aX 52 (fun n e M => aAppO n 42 2 16 (eget e 46) (eget e 51) M) <|
 aX 6 (pM 52) <|
 aXZ
noncomputable def f17_r14 (c : CallF) : RF := rg [4, 5] <| aX 53 (pF 0 1 2) <|
 aX 54 (pL false 1 53) <|
 aX 55 (pM 6) <|
 aX 56 (pK c false 8 [54, 55]) <|
 aX 57 (pE 0 56) <|
 aX 58 (pE 1 56) <|
 aX0 (pS 3 4 57) <|
 aX 5 (pM 58) <|
 aXZ
noncomputable def f17 (c : CallF) (k : Nat) : St :=
 (bSeq (bReg (f17_r0 c))
 (bSeq (bBlock 0 (bSeq (bReg (f17_r1 c))
 (bCond (.tmp 7) (bSeq (bReg (f17_r2 c))
 (bEx .ret)) (bSeq (bReg (f17_r3 c))
 (bCond (.tmp 12) (bSeq (bReg (f17_r4 c))
 (bEx .ret)) (bSeq (bReg (f17_r5 c))
 (bCond (.tmp 17) (bSeq (bReg (f17_r6 c))
 (bEx .ret)) (bEx .nrm))))))))
 (bSeq (bReg (f17_r7 c))
 (bSeq (bSeq (bReg (f17_r8 c))
 (bCond (.tmp 26) (bReg (f17_r9 c)) (bEx .nrm)))
 (bSeq (bBlock 1 (bSeq (bReg (f17_r10 c))
 (bCond (.tmp 32) (bReg (f17_r11 c)) (bSeq (bReg (f17_r12 c))
 (bCond (.tmp 42) (bReg (f17_r13 c)) (bEx .nrm))))))
 (bSeq (bReg (f17_r14 c))
 (bEx .ret)))))))
theorem f17_eq (c : CallF) (k : Nat) : exec cx c 59 f17_an k (Tryd.f17.body.getD .skip) = f17 c k := by kernel_rfl
/-! ### f18: loop.example/g01263/spec.NextYear -/
def f18_an : Ann := ⟨[(0, r0 [1, 2, 4]), (1, r0 [1, 2, 4, 8]), (2, r0 [4, 5]), (3, r0 [1, 2, 4, 12]), (4, r0 [4, 5]), (5, ⟨[0], [], [], [], [1, 2, 4, 6], none, []⟩), (6, r0 [1, 2, 4, 6, 16]), (7, ⟨[4], [], [], [], [2, 4, 6], none, []⟩), (8, r0 [2, 4, 6, 24]), (9, ⟨[5], [], [], [], [2, 4, 6], none, []⟩), (10, r0 [2, 4, 6, 33]), (11, ⟨[6], [], [], [], [2, 4, 6], none, []⟩), (12, r0 [2, 4, 6, 43]), (13, r0 [4, 5]), (14, r0 [4, 5])], []⟩
noncomputable def f18_r0 (c : CallF) : RF := rg [1, 2, 4] <| aX 2 (pBox 3 0) <|
 aX 4 (pAl 27 3) <|
 aX 5 (pM (cn (.int .i64 0))) <|
 aXZ
noncomputable def f18_r1 (c : CallF) : RF := rg [1, 2, 4, 8] <| aX 7 (pK c false 55 [2]) <|
 aX 8 (pU .not 7) <|
 aXZ
noncomputable def f18_r2 (c : CallF) : RF := rg [4, 5] <| aX 9 (fun n e M => keep (aBuild (zeroOf cx.P 27) [] M)) <|
 aX0 (pS 3 4 9) <|
 aX 5 (pM (cn (.int .i64 1))) <|
 aXZ
noncomputable def f18_r3 (c : CallF) : RF := rg [1, 2, 4, 12] <| aX 10 (pM 1) <|
 aX 11 (pK c false 56 [10]) <|
 aX 12 (pU .not 11) <|
 aXZ
noncomputable def f18_r4 (c : CallF) : RF := rg [4, 5] <| aX 13 (fun n e M => keep (aBuild (zeroOf cx.P 27) [] M)) <|
 aX0 (pS 3 4 13) <|
 aX 5 (pM (cn (.int .i64 2))) <|
 aXZ
noncomputable def f18_r5 (c : CallF) : RF := rg [1, 2, 4, 6] <| aX 14 (fun n e M => aLitO false n 42 2 [] M) <|
 aX 6 (pM 14) <|
 aXZ
noncomputable def f18_r6 (c : CallF) : RF := rg [1, 2, 4, 6, 16] <| aX 15 (pM 1) <|
 aX 16 (pB .neq 2 15 (cn (.int .i64 0))) <|
 aXZ
noncomputable def f18_r7 (c : CallF) : RF := rg [2, 4, 6] <| aX 17 (pM 6) <|
 aX 18 (pM 1) <|
 aX 19 (fun n e M => keep (aBuild (zeroOf cx.P 42) [(0, 1, (.int .i8 0)), (1, 1, (eget e 18))] M)) <|
 aX 20 (fun n e M => keep (aLitI 42 2 [(eget e 19)] M)) <|
 aX 21 (fun n e M => aAppO n 42 2 16 (eget e 17) (eget e 20) M) <|
 aX 6 (pM 21) <|
 aXZ
noncomputable def f18_r8 (c : CallF) : RF := rg [2, 4, 6, 24] <| aX 22 (pF 2 1 2) <|
 aX 23 (pL false 1 22) <|
 aX 24 (pB .gtr 2 23 (cn (.int .i64 0))) <|
 aXZ
noncomputable def f18_r9 (c : CallF) : RF := rg [2, 4, 6] <| aX 25 (pM 6) <|
 aX 26 (pF 2 1 2) <|
 aX 27 (pL false 1 26) <|
 aX 28 (fun n e M => keep (aBuild (zeroOf cx.P 42) [(0, 1, (.int .i8 1)), (1, 1, (eget e 27))] M)) <|
 aX 29 (fun n e M => keep (aLitI 42 2 [(eget e 28)] M)) <|
 aX 30 (fun n e M => aAppO n 42 2 16 (eget e 25) (eget e 29) M) <|
 aX 6 (pM 30) <|
 aXZ
noncomputable def f18_r10 (c : CallF) : RF := rg [2, 4, 6, 33] <| aX 31 (pF 2 1 2) <|
 aX 32 (pL false 1 31) <|
 aX 33 (pB .lss 2 32 (cn (.int .i64 0))) <|
 aXZ
noncomputable def f18_r11 (c : CallF) : RF := rg [2, 4, 6] <| aX 34 (pM 6) <|
 aX 35 (pF 2 1 2) <|
 aX 36 (pL false 1 35) <|
 aX 37 (pU .neg 36) <|
 aX 38 (fun n e M => keep (aBuild (zeroOf cx.P 42) [(0, 1, (.int .i8 2)), (1, 1, (eget e 37))] M)) <|
 aX 39 (fun n e M => keep (aLitI 42 2 [(eget e 38)] M)) <|
 aX 40 (fun n e M => aAppO n 42 2 16 (eget e 34) (eget e 39) M) <|
 aX 6 (pM 40) <|
 aXZ
noncomputable def f18_r12 (c : CallF) : RF := rg [2, 4, 6, 43] <| aX 41 (pM 6) <|
 aX 42 (pK c false 45 [41]) <|
 aX 43 (pU .not 42) <|
 aXZ
noncomputable def f18_r13 (c : CallF) : RF := rg [4, 5] <| aX 44 (fun n e M => keep (aBuild (zeroOf cx.P 27) [] M)) <|
 aX0 (pS 3 4 44) <|
 aX 5 (pM (cn (.int .i64 3))) <|
 aXZ
noncomputable def f18_r14 (c : CallF) : RF := rg [4, 5] <| aX 45 (pF 0 1 2) <|
 aX 46 (pL false 1 45) <|
 aX 47 (pM 6) <|
 aX 48 (pK c false 47 [46, 47]) <|
 aX0 (pS 3 4 48) <|
 aX 5 (pM (cn (.int .i64 0))) <|
 aXZ
noncomputable def f18 (c : CallF) (k : Nat) : St :=
 (bSeq (bReg (f18_r0 c))
 (bSeq (bSeq (bReg (f18_r1 c))
 (bCond (.tmp 8) (bSeq (bReg (f18_r2 c))
 (bEx .ret)) (bEx .nrm)))
 (bSeq (bSeq (bReg (f18_r3 c))
 (bCond (.tmp 12) (bSeq (bReg (f18_r4 c))
 (bEx .ret)) (bEx .nrm)))
 (bSeq (bReg (f18_r5 c))
 (bSeq (bSeq (bReg (f18_r6 c))
 (bCond (.tmp 16) (bReg (f18_r7 c)) (bEx .nrm)))
 (bSeq (bSeq (bReg (f18_r8 c))
 (bCond (.tmp 24) (bReg (f18_r9 c)) (bEx .nrm)))
 (bSeq (bSeq (bReg (f18_r10 c))
 (bCond (.tmp 33) (bReg (f18_r11 c)) (bEx .nrm)))
 (bSeq (bSeq (bReg (f18_r12 c))
 (bCond (.tmp 43) (bSeq (bReg (f18_r13 c))
 (bEx .ret)) (bEx .nrm)))
 (bSeq (bReg (f18_r14 c))
 (bEx .ret))))))))))
theorem f18_eq (c : CallF) (k : Nat) : exec cx c 49 f18_an k (Tryd.f18.body.getD .skip) = f18 c k := by kernel_rfl
/-! ### f19: loop.example/g01263/impl.AddItem -/
def f19_an : Ann := ⟨[(0, r0 [2, 3, 4]), (1, r0 [2, 3, 4, 6]), (2, r0 [4, 5]), (3, r0 [2, 3, 4, 11]), (4, r0 [4, 5]), (5, r0 [2, 3, 4, 16]), (6, r0 [4, 5]), (7, ⟨[7], [4], [0, 1], [7, 8, 9, 10, 11, 12], [4, 5], none, []⟩)], []⟩
noncomputable def f19_r0 (c : CallF) : RF := rg [2, 3, 4] <| aX 2 (pBox 3 0) <|
 aX 3 (pBox 2 1) <|
 aX 4 (pAl 27 3) <|
 aX 5 (pM (cn (.int .i64 0))) <|
 aXZ
noncomputable def f19_r1 (c : CallF) : RF := rg [2, 3, 4, 6] <| aX 7 (pL true 3 2) <|
 aX 8 (pK c false 14 [7]) <|
 aX 9 (pU .not 8) <|
 aX 6 (pM 9) <|
 aXZ
noncomputable def f19_r2 (c : CallF) : RF := rg [4, 5] <| aX 10 (fun n e M => keep (aBuild (zeroOf cx.P 27) [] M)) <|
 aX0 (pS 3 4 10) <|
 aX 5 (pM (cn (.int .i64 1))) <|
 aXZ
noncomputable def f19_r3 (c : CallF) : RF := rg [2, 3, 4, 11] <| aX 12 (pL true 2 3) <|
 aX 13 (pK c false 54 [12]) <|
 aX 14 (pU .not 13) <|
 aX 11 (pM 14) <|
 aXZ
noncomputable def f19_r4 (c : CallF) : RF := rg [4, 5] <| aX 15 (fun n e M => keep (aBuild (zeroOf cx.P 27) [] M)) <|
 aX0 (pS 3 4 15) <|
 aX 5 (pM (cn (.int .i64 2))) <|
 aXZ
noncomputable def f19_r5 (c : CallF) : RF := rg [2, 3, 4, 16] <| aX 17 (pF 1 1 2) <|
 aX 18 (pL false 1 17) <|
 aX 19 (pLen 24 18) <|
 aX 20 (pB .eql 3 19 (cn (.int .i64 40))) <|
 aX 16 (pM 20) <|
 aXZ
noncomputable def f19_r6 (c : CallF) : RF := rg [4, 5] <| aX 21 (fun n e M => keep (aBuild (zeroOf cx.P 27) [] M)) <|
 aX0 (pS 3 4 21) <|
 aX 5 (pM (cn (.int .i64 3))) <|
 aXZ
noncomputable def f19_r7 (c : CallF) : RF := rgD [4, 5] (aYc 22 (pF 0 1 2) <|
 aYc 23 (pL false 1 22) <|
 aY 24 (pF 1 1 2) <|
 aY 25 (pL false 1 24) <|
 aY 26 (pK c true 43 [25]) <|
 aY 27 (pL true 2 3) <|
 aY 28 (fun n e M => keep (aLitI 42 2 [(eget e 27)] M)) <|
 aYZ)
 (aX 29 (fun n e M => aAppO n 42 2 16 (eget e 26) (eget e 28) M) <|
 aX 30 (pK c false 8 [23, 29]) <|
 aX 31 (pE 0 30) <|
 aX 32 (pE 1 30) <|
 aX0 (pS 3 4 31) <|
 aX 5 (pM 32) <|
 aXZ)
noncomputable def f19 (c : CallF) (k : Nat) : St :=
 (bSeq (bReg (f19_r0 c))
 (bSeq (bBlock 0 (bSeq (bReg (f19_r1 c))
 (bCond (.tmp 6) (bSeq (bReg (f19_r2 c))
 (bEx .ret)) (bSeq (bReg (f19_r3 c))
 (bCond (.tmp 11) (bSeq (bReg (f19_r4 c))
 (bEx .ret)) (bSeq (bReg (f19_r5 c))
 (bCond (.tmp 16) (bSeq (bReg (f19_r6 c))
 (bEx .ret)) (bEx .nrm))))))))
 (bSeq (bReg (f19_r7 c))
 (bEx .ret))))
theorem f19_eq (c : CallF) (k : Nat) : exec cx c 33 f19_an k (Tryd.f19.body.getD .skip) = f19 c k := by kernel_rfl
/-! ### f20: loop.example/g01263/impl.IsQuit -/
def f20_an : Ann := ⟨[(0, r0 [1]), (1, r0 [1, 6]), (2, r0 [2, 3]), (3, r0 [2, 3])], []⟩
noncomputable def f20_r0 (c : CallF) : RF := rg [1] <| aX 1 (pBox 3 0) <|
 aX 2 (pM (cn (.bool false))) <|
 aX 3 (pM (cn (.int .i64 0))) <|
 aXZ
noncomputable def f20_r1 (c : CallF) : RF := rg [1, 6] <| aX 4 (pL true 3 1) <|
 aX 5 (pK c false 14 [4]) <|
 aX 6 (pU .not 5) <|
 aXZ
noncomputable def f20_r2 (c : CallF) : RF := rg [2, 3] <| aX 2 (pM (cn (.bool false))) <|
 aX 3 (pM (cn (.int .i64 1))) <|
 aXZ
noncomputable def f20_r3 (c : CallF) : RF := rg [2, 3] <| aX 7 (pF 2 1 1) <|
 aX 8 (pL false 1 7) <|
 aX 9 (pB .eql 2 8 (cn (.int .i64 0))) <|
 aX 2 (pM 9) <|
 aX 3 (pM (cn (.int .i64 0))) <|
 aXZ
noncomputable def f20 (c : CallF) (k : Nat) : St :=
 (bSeq (bReg (f20_r0 c))
 (bSeq (bSeq (bReg (f20_r1 c))
 (bCond (.tmp 6) (bSeq (bReg (f20_r2 c))
 (bEx .ret)) (bEx .nrm)))
 (bSeq (bReg (f20_r3 c))
 (bEx .ret))))
theorem f20_eq (c : CallF) (k : Nat) : exec cx c 10 f20_an k (Tryd.f20.body.getD .skip) = f20 c k := by kernel_rfl
/-! ### f40: loop.example/g01263/spec.l05Drawn -/
def f40_an : Ann := ⟨[(0, r0 [0]), (1, ⟨[0], [], [], [], [0, 3], none, []⟩), (2, r0 [0, 3, 4]), (3, r0 [0, 3, 4, 10]), (4, r0 [0, 3, 4]), (5, r0 [0, 3, 4, 5]), (6, r0 [0, 3, 4, 5]), (7, ⟨[3], [], [], [], [0, 3, 4], none, []⟩), (8, r0 [2])], [(3, [0, 3, 4])]⟩
noncomputable def f40_r0 (c : CallF) : RF := rg [0] <| aX 2 (pM (cn .nils)) <|
 aXZ
noncomputable def f40_r1 (c : CallF) : RF := rg [0, 3] <| aX 6 (fun n e M => aLitO false n 42 2 [] M) <|
 aX 3 (pM 6) <|
 aXZ
noncomputable def f40_r2 (c : CallF) : RF := rg [0, 3, 4] <| aX 7 (pM 0) <|
 aX 8 (pK c false 59 [7, (cn (.int .i64 6))]) <|
 aX 4 (pM 8) <|
 aXZ
noncomputable def f40_r3 (c : CallF) : RF := rg [0, 3, 4, 10] <| aX 9 (pM 4) <|
 aX 10 (pB .gtr 2 9 (cn (.int .i64 0))) <|
 aXZ
noncomputable def f40_r4 (c : CallF) : RF := rg [0, 3, 4] <| aX 11 (pM 4) <|
 aX 12 (pB .sub 2 11 (cn (.int .i64 1))) <|
 aX 4 (pM 12) <|
 aXZ
noncomputable def f40_r5 (c : CallF) : RF := rg [0, 3, 4, 5] <| aX 13 (pM 0) <|
 aX 14 (pK c false 59 [13, (cn (.int .i64 4))]) <|
 aX 15 (fun n e M => keep (aConvI .i8 (eget e 14))) <|
 aX 16 (fun n e M => keep (aBuild (zeroOf cx.P 42) [(0, 1, (eget e 15))] M)) <|
 aX 5 (pAl 42 2) <|
 aX0 (pS 2 5 16) <|
 aXZ
noncomputable def f40_r6 (c : CallF) : RF := rg [0, 3, 4, 5] <| aX 17 (pM 0) <|
 aX 18 (pK c false 59 [17, (cn (.int .i64 500))]) <|
 aX 19 (pF 1 1 5) <|
 aX0 (pS 1 19 18) <|
 aXZ
noncomputable def f40_r7 (c : CallF) : RF := rg [0, 3, 4] <| aX 20 (pM 3) <|
 aX 21 (pL true 2 5) <|
 aX 22 (fun n e M => keep (aLitI 42 2 [(eget e 21)] M)) <|
 aX 23 (fun n e M => aAppO n 42 2 16 (eget e 20) (eget e 22) M) <|
 aX 3 (pM 23) <|
 aXZ
noncomputable def f40_r8 (c : CallF) : RF := rg [2] <| aX 24 (pM 3) <|
 aX 2 (pM 24) <|
 aXZ
noncomputable def f40_l3 (c : CallF) (k : Nat) : St :=
 (bSeq (bSeq (bReg (f40_r3 c))
 (bCond (.tmp 10) (bEx .nrm) (bEx (.ext 0))))
 (bSeq (bBlock 1 (bSeq (bReg (f40_r5 c))
 (bSeq (bReg (f40_r6 c))
 (bReg (f40_r7 c)))))
 (bReg (f40_r4 c))))
noncomputable def f40 (c : CallF) (k : Nat) : St :=
 (bSeq (bReg (f40_r0 c))
 (bSeq (bReg (f40_r1 c))
 (bSeq (bSeq (bReg (f40_r2 c))
 (bBlock 0 (bLoop [0, 3, 4] (f40_l3 c k) k)))
 (bSeq (bReg (f40_r8 c))
 (bEx .ret)))))
theorem f40_eq (c : CallF) (k : Nat) : exec cx c 25 f40_an k (Tryd.f40.body.getD .skip) = f40 c k := by kernel_rfl
/-! ### f41: loop.example/g01263/spec.l00From -/
def f41_an : Ann := ⟨[(0, r0 [0]), (1, ⟨[2], [], [], [], [2], none, []⟩)], []⟩
noncomputable def f41_r0 (c : CallF) : RF := rg [0] <| aX 2 (pM (cn .nilp)) <|
 aXZ
noncomputable def f41_r1 (c : CallF) : RF := rg [2] <| aX 3 (pM 0) <|
 aX 4 (fun n e M => keep (aBuild (zeroOf cx.P 125) [(0, 1, (eget e 3))] M)) <|
 aX 5 (fun n e M => aBoxO n 125 3 (eget e 4) M) <|
 aX 2 (pM 5) <|
 aXZ
noncomputable def f41 (c : CallF) (k : Nat) : St :=
 (bSeq (bReg (f41_r0 c))
 (bSeq (bReg (f41_r1 c))
 (bEx .ret)))
theorem f41_eq (c : CallF) (k : Nat) : exec cx c 6 f41_an k (Tryd.f41.body.getD .skip) = f41 c k := by kernel_rfl
/-! ### f42: loop.example/g01263/impl.isLetters -/
def f42_an : Ann := ⟨[(0, r0 [0, 1]), (1, r0 [0, 1, 7, 8]), (2, r0 [0, 1, 7, 8, 9]), (3, r0 [0, 1, 5, 7, 8]), (4, r0 [0, 1, 7, 8, 20]), (5, r0 [4]), (6, r0 [0, 1, 7, 8]), (7, r0 [4])], [(2, [0, 1, 7, 8])]⟩
noncomputable def f42_r0 (c : CallF) : RF := rg [0, 1] <| aX 4 (pM (cn (.bool false))) <|
 aXZ
noncomputable def f42_r1 (c : CallF) : RF := rg [0, 1, 7, 8] <| aX 6 (pM 0) <|
 aX 7 (pLen 9 6) <|
 aX 8 (pM (cn (.int .i64 0))) <|
 aXZ
noncomputable def f42_r2 (c : CallF) : RF := rg [0, 1, 7, 8, 9] <| aX 9 (pB .lss 3 8 7) <|
 aXZ
noncomputable def f42_r3 (c : CallF) : RF := rg [0, 1, 5, 7, 8] <| aX 10 (pM 8) <|
 aX 5 (pM 10) <|
 aXZ
noncomputable def f42_r4 (c : CallF) : RF := rg [0, 1, 7, 8, 20] <| aX 11 (pM 0) <|
 aX 12 (pM 5) <|
 aX 13 (fun n e M => keep (aIndexB (eget e 11) (eget e 12))) <|
 aX 14 (pB .lss 5 13 (cn (.int .u8 97))) <|
 aX 15 (pM 14) <|
 aX 16 (pG 15 false (pM 0)) <|
 aX 17 (pG 15 false (pM 5)) <|
 aX 18 (pG 15 false (fun n e M => keep (aIndexB (eget e 16) (eget e 17)))) <|
 aX 19 (pG 15 false (pB .gtr 5 18 (cn (.int .u8 122)))) <|
 aX 20 (pP 15 (cn (.bool true)) 19) <|
 aXZ
noncomputable def f42_r5 (c : CallF) : RF := rg [4] <| aX 4 (pM (cn (.bool false))) <|
 aXZ
noncomputable def f42_r6 (c : CallF) : RF := rg [0, 1, 7, 8] <| aX 21 (pB .add 3 8 (cn (.int .i64 1))) <|
 aX 8 (pM 21) <|
 aXZ
noncomputable def f42_r7 (c : CallF) : RF := rg [4] <| aX 22 (pM 0) <|
 aX 23 (pLen 9 22) <|
 aX 24 (pB .geq 3 23 (cn (.int .i64 1))) <|
 aX 25 (pM 24) <|
 aX 26 (pG 25 true (pM 0)) <|
 aX 27 (pG 25 true (pLen 9 26)) <|
 aX 28 (pG 25 true (pM 1)) <|
 aX 29 (pG 25 true (pB .leq 3 27 28)) <|
 aX 30 (pP 25 29 (cn (.bool false))) <|
 aX 4 (pM 30) <|
 aXZ
noncomputable def f42_l2 (c : CallF) (k : Nat) : St :=
 (bSeq (bReg (f42_r2 c))
 (bSeq (bCond (.tmp 9) (bEx .nrm) (bEx (.ext 0)))
 (bSeq (bBlock 1 (bSeq (bReg (f42_r3 c))
 (bSeq (bReg (f42_r4 c))
 (bCond (.tmp 20) (bSeq (bReg (f42_r5 c))
 (bEx .ret)) (bEx .nrm)))))
 (bReg (f42_r6 c)))))
noncomputable def f42 (c : CallF) (k : Nat) : St :=
 (bSeq (bReg (f42_r0 c))
 (bSeq (bSeq (bReg (f42_r1 c))
 (bBlock 0 (bLoop [0, 1, 7, 8] (f42_l2 c k) k)))
 (bSeq (bReg (f42_r7 c))
 (bEx .ret))))
theorem f42_eq (c : CallF) (k : Nat) : exec cx c 31 f42_an k (Tryd.f42.body.getD .skip) = f42 c k := by kernel_rfl
/-! ### f43: slices.Clone[[]loop.example/g01263/impl.Item,loop.example/g01263/impl.Item] -/
def f43_an : Ann := ⟨[(0, r0 [0]), (1, r0 [0, 4]), (2, r0 [2]), (3, r0 [2])], []⟩
noncomputable def f43_r0 (c : CallF) : RF := rg [0] <| aX 2 (pM (cn .nils)) <|
 aXZ
noncomputable def f43_r1 (c : CallF) : RF := rg [0, 4] <| aX 3 (pM 0) <|
 aX 4 (pB .eql 24 3 (cn .nils)) <|
 aXZ
noncomputable def f43_r2 (c : CallF) : RF := rg [2] <| aX 2 (pM (cn .nils)) <|
 aXZ
noncomputable def f43_r3 (c : CallF) : RF := rg [2] <| aX 5 (fun n e M => keep (aLitI 42 2 [] M)) <|
 aX 6 (pM 0) <|
 aX 7 (fun n e M => aAppI 42 2 16 (eget e 5) (eget e 6) M) <|
 aX 2 (pM 7) <|
 aXZ
noncomputable def f43 (c : CallF) (k : Nat) : St :=
 (bSeq (bReg (f43_r0 c))
 (bSeq (bSeq (bReg (f43_r1 c))
 (bCond (.tmp 4) (bSeq (bReg (f43_r2 c))
 (bEx .ret)) (bEx .nrm)))
 (bSeq (bReg (f43_r3 c))
 (bEx .ret))))
theorem f43_eq (c : CallF) (k : Nat) : exec cx c 8 f43_an k (Tryd.f43.body.getD .skip) = f43 c k := by kernel_rfl
/-! ### f44: loop.example/g01263/impl.balance -/
def f44_an : Ann := ⟨[(0, r0 [0]), (1, r0 [0, 3]), (2, r0 [3, 6, 7, 8]), (3, r0 [3, 6, 7, 8, 9]), (4, r0 [3, 5, 6, 7, 8]), (5, r0 [3, 5, 6, 7, 8, 19]), (6, r0 [3, 6, 7, 8]), (7, r0 [3, 6, 7, 8]), (8, r0 [3, 6, 7, 8]), (9, r0 [2])], [(3, [3, 6, 7, 8])]⟩
noncomputable def f44_r0 (c : CallF) : RF := rg [0] <| aX 2 (pM (cn (.int .i64 0))) <|
 aXZ
noncomputable def f44_r1 (c : CallF) : RF := rg [0, 3] <| aX 3 (pM (cn (.int .i64 0))) <|
 aXZ
noncomputable def f44_r2 (c : CallF) : RF := rg [3, 6, 7, 8] <| aX 6 (pM 0) <|
 aX 7 (pLen 24 6) <|
 aX 8 (pM (cn (.int .i64 0))) <|
 aXZ
noncomputable def f44_r3 (c : CallF) : RF := rg [3, 6, 7, 8, 9] <| aX 9 (pB .lss 3 8 7) <|
 aXZ
noncomputable def f44_r4 (c : CallF) : RF := rg [3, 5, 6, 7, 8] <| aX 10 (pI 2 6 8) <|
 aX 11 (pL true 2 10) <|
 aX 5 (pAl 42 2) <|
 aX0 (pS 2 5 11) <|
 aXZ
noncomputable def f44_r5 (c : CallF) : RF := rg [3, 5, 6, 7, 8, 19] <| aX 12 (pF 0 1 5) <|
 aX 13 (pL false 1 12) <|
 aX 14 (pB .eql 39 13 (cn (.int .i8 0))) <|
 aX 15 (pM 14) <|
 aX 16 (pG 15 false (pF 0 1 5)) <|
 aX 17 (pG 15 false (pL false 1 16)) <|
 aX 18 (pG 15 false (pB .eql 39 17 (cn (.int .i8 1)))) <|
 aX 19 (pP 15 (cn (.bool true)) 18) <|
 aXZ
noncomputable def f44_r6 (c : CallF) : RF := rg [3, 6, 7, 8] <| aX 20 (pM 3) <|
 aX 21 (pF 1 1 5) <|
 aX 22 (pL false 1 21) <|
 aX 23 (pB .add 2 20 22) <|
 aX 3 (pM 23) <|
 aXZ
noncomputable def f44_r7 (c : CallF) : RF := rg [3, 6, 7, 8] <| aX 24 (pM 3) <|
 aX 25 (pF 1 1 5) <|
 aX 26 (pL false 1 25) <|
 aX 27 (pB .sub 2 24 26) <|
 aX 3 (pM 27) <|
 aXZ
noncomputable def f44_r8 (c : CallF) : RF := rg [3, 6, 7, 8] <| aX 28 (pB .add 3 8 (cn (.int .i64 1))) <|
 aX 8 (pM 28) <|
 aXZ
noncomputable def f44_r9 (c : CallF) : RF := rg [2] <| aX 29 (pM 3) <|
 aX 2 (pM 29) <|
 aXZ
noncomputable def f44_l3 (c : CallF) (k : Nat) : St :=
 (bSeq (bReg (f44_r3 c))
 (bSeq (bCond (.tmp 9) (bEx .nrm) (bEx (.ext 0)))
 (bSeq (bBlock 1 (bSeq (bReg (f44_r4 c))
 (bSeq (bReg (f44_r5 c))
 (bCond (.tmp 19) (bReg (f44_r6 c)) (bReg (f44_r7 c))))))
 (bReg (f44_r8 c)))))
noncomputable def f44 (c : CallF) (k : Nat) : St :=
 (bSeq (bReg (f44_r0 c))
 (bSeq (bReg (f44_r1 c))
 (bSeq (bSeq (bReg (f44_r2 c))
 (bBlock 0 (bLoop [3, 6, 7, 8] (f44_l3 c k) k)))
 (bSeq (bReg (f44_r9 c))
 (bEx .ret)))))
theorem f44_eq (c : CallF) (k : Nat) : exec cx c 30 f44_an k (Tryd.f44.body.getD .skip) = f44 c k := by kernel_rfl
/-! ### f45: loop.example/g01263/spec.l05Items -/
def f45_an : Ann := ⟨[(0, r0 [0]), (1, r0 [0, 6]), (2, r0 [2]), (3, r0 [0, 3]), (4, r0 [0, 3, 10]), (5, r0 [0, 3]), (6, r0 [0, 3, 17]), (7, r0 [2]), (8, r0 [2])], [(4, [0, 3])]⟩
noncomputable def f45_r0 (c : CallF) : RF := rg [0] <| aX 2 (pM (cn (.bool false))) <|
 aXZ
noncomputable def f45_r1 (c : CallF) : RF := rg [0, 6] <| aX 4 (pM 0) <|
 aX 5 (pLen 24 4) <|
 aX 6 (pB .gtr 3 5 (cn (.int .i64 40))) <|
 aXZ
noncomputable def f45_r2 (c : CallF) : RF := rg [2] <| aX 2 (pM (cn (.bool false))) <|
 aXZ
noncomputable def f45_r3 (c : CallF) : RF := rg [0, 3] <| aX 3 (pM (cn (.int .i64 0))) <|
 aXZ
noncomputable def f45_r4 (c : CallF) : RF := rg [0, 3, 10] <| aX 7 (pM 3) <|
 aX 8 (pM 0) <|
 aX 9 (pLen 24 8) <|
 aX 10 (pB .lss 3 7 9) <|
 aXZ
noncomputable def f45_r5 (c : CallF) : RF := rg [0, 3] <| aX 11 (pM 3) <|
 aX 12 (pB .add 3 11 (cn (.int .i64 1))) <|
 aX 3 (pM 12) <|
 aXZ
noncomputable def f45_r6 (c : CallF) : RF := rg [0, 3, 17] <| aX 13 (pM 0) <|
 aX 14 (pM 3) <|
 aX 15 (pI 2 13 14) <|
 aX 16 (pK c false 83 [15]) <|
 aX 17 (pU .not 16) <|
 aXZ
noncomputable def f45_r7 (c : CallF) : RF := rg [2] <| aX 2 (pM (cn (.bool false))) <|
 aXZ
noncomputable def f45_r8 (c : CallF) : RF := rg [2] <| aX 2 (pM (cn (.bool true))) <|
 aXZ
noncomputable def f45_l4 (c : CallF) (k : Nat) : St :=
 (bSeq (bSeq (bReg (f45_r4 c))
 (bCond (.tmp 10) (bEx .nrm) (bEx (.ext 0))))
 (bSeq (bBlock 1 (bSeq (bReg (f45_r6 c))
 (bCond (.tmp 17) (bSeq (bReg (f45_r7 c))
 (bEx .ret)) (bEx .nrm))))
 (bReg (f45_r5 c))))
noncomputable def f45 (c : CallF) (k : Nat) : St :=
 (bSeq (bReg (f45_r0 c))
 (bSeq (bSeq (bReg (f45_r1 c))
 (bCond (.tmp 6) (bSeq (bReg (f45_r2 c))
 (bEx .ret)) (bEx .nrm)))
 (bSeq (bSeq (bReg (f45_r3 c))
 (bBlock 0 (bLoop [0, 3] (f45_l4 c k) k)))
 (bSeq (bReg (f45_r8 c))
 (bEx .ret)))))
theorem f45_eq (c : CallF) (k : Nat) : exec cx c 18 f45_an k (Tryd.f45.body.getD .skip) = f45 c k := by kernel_rfl
/-! ### f46: loop.example/g01263/spec.l05Title -/
def f46_an : Ann := ⟨[(0, r0 [0]), (1, r0 [0, 3]), (2, r0 [0, 3, 7]), (3, r0 [0, 3]), (4, r0 [0, 3, 19]), (5, r0 [2]), (6, r0 [2])], [(2, [0, 3])]⟩
noncomputable def f46_r0 (c : CallF) : RF := rg [0] <| aX 2 (pM (cn (.bool false))) <|
 aXZ
noncomputable def f46_r1 (c : CallF) : RF := rg [0, 3] <| aX 3 (pM (cn (.int .i64 0))) <|
 aXZ
noncomputable def f46_r2 (c : CallF) : RF := rg [0, 3, 7] <| aX 4 (pM 3) <|
 aX 5 (pM 0) <|
 aX 6 (pLen 9 5) <|
 aX 7 (pB .lss 3 4 6) <|
 aXZ
noncomputable def f46_r3 (c : CallF) : RF := rg [0, 3] <| aX 8 (pM 3) <|
 aX 9 (pB .add 3 8 (cn (.int .i64 1))) <|
 aX 3 (pM 9) <|
 aXZ
noncomputable def f46_r4 (c : CallF) : RF := rg [0, 3, 19] <| aX 10 (pM 0) <|
 aX 11 (pM 3) <|
 aX 12 (fun n e M => keep (aIndexB (eget e 10) (eget e 11))) <|
 aX 13 (pB .lss 5 12 (cn (.int .u8 97))) <|
 aX 14 (pM 13) <|
 aX 15 (pG 14 false (pM 0)) <|
 aX 16 (pG 14 false (pM 3)) <|
 aX 17 (pG 14 false (fun n e M => keep (aIndexB (eget e 15) (eget e 16)))) <|
 aX 18 (pG 14 false (pB .gtr 5 17 (cn (.int .u8 122)))) <|
 aX 19 (pP 14 (cn (.bool true)) 18) <|
 aXZ
noncomputable def f46_r5 (c : CallF) : RF := rg [2] <| aX 2 (pM (cn (.bool false))) <|
 aXZ
noncomputable def f46_r6 (c : CallF) : RF := rg [2] <| aX 20 (pM 0) <|
 aX 21 (pLen 9 20) <|
 aX 22 (pK c false 84 [21, (cn (.int .i64 1)), (cn (.int .i64 16))]) <|
 aX 2 (pM 22) <|
 aXZ
noncomputable def f46_l2 (c : CallF) (k : Nat) : St :=
 (bSeq (bSeq (bReg (f46_r2 c))
 (bCond (.tmp 7) (bEx .nrm) (bEx (.ext 0))))
 (bSeq (bBlock 1 (bSeq (bReg (f46_r4 c))
 (bCond (.tmp 19) (bSeq (bReg (f46_r5 c))
 (bEx .ret)) (bEx .nrm))))
 (bReg (f46_r3 c))))
noncomputable def f46 (c : CallF) (k : Nat) : St :=
 (bSeq (bReg (f46_r0 c))
 (bSeq (bSeq (bReg (f46_r1 c))
 (bBlock 0 (bLoop [0, 3] (f46_l2 c k) k)))
 (bSeq (bReg (f46_r6 c))
 (bEx .ret))))
theorem f46_eq (c : CallF) (k : Nat) : exec cx c 23 f46_an k (Tryd.f46.body.getD .skip) = f46 c k := by kernel_rfl
/-! ### f47: loop.example/g01263/spec.l05Account -/
def f47_an : Ann := ⟨[(0, r0 [0, 1, 4]), (1, ⟨[7], [], [], [], [4], none, []⟩)], []⟩
noncomputable def f47_r0 (c : CallF) : RF := rg [0, 1, 4] <| aX 4 (pAl 27 3) <|
 aXZ
noncomputable def f47_r1 (c : CallF) : RF := rg [4] <| aX 5 (pM 0) <|
 aX 6 (fun n e M => keep (aLitI 42 2 [] M)) <|
 aX 7 (pM 1) <|
 aX 8 (fun n e M => aAppI 42 2 16 (eget e 6) (eget e 7) M) <|
 aX 9 (pM 1) <|
 aX 10 (pK c false 85 [9]) <|
 aX 11 (fun n e M => keep (aBuild (zeroOf cx.P 27) [(0, 1, (eget e 5)), (1, 1, (eget e 8)), (2, 1, (eget e 10))] M)) <|
 aX0 (pSK 3 4 11) <|
 aXZ
noncomputable def f47 (c : CallF) (k : Nat) : St :=
 (bSeq (bReg (f47_r0 c))
 (bSeq (bReg (f47_r1 c))
 (bEx .ret)))
theorem f47_eq (c : CallF) (k : Nat) : exec cx c 12 f47_an k (Tryd.f47.body.getD .skip) = f47 c k := by kernel_rfl
/-! ### f48: loop.example/g01263/impl.linesOf -/
def f48_an : Ann := ⟨[(0, r0 [0]), (1, r0 [0, 7]), (2, r0 [2, 3]), (3, r0 [4]), (4, r0 [4, 5]), (5, r0 [2, 3])], []⟩
noncomputable def f48_r0 (c : CallF) : RF := rg [0] <| aX 2 (pM (cn .nils)) <|
 aX 3 (pM (cn (.bool false))) <|
 aXZ
noncomputable def f48_r1 (c : CallF) : RF := rg [0, 7] <| aX 6 (pM 0) <|
 aX 7 (pB .eql 9 6 (cn (.str []))) <|
 aXZ
noncomputable def f48_r2 (c : CallF) : RF := rg [2, 3] <| aX 2 (pM (cn .nils)) <|
 aX 3 (pM (cn (.bool true))) <|
 aXZ
noncomputable def f48_r3 (c : CallF) : RF := rg [4] <| aX 8 (pM 0) <|
 aX 9 (pK c false 86 [8, (cn (.str [10]))]) <|
 aX 4 (pM 9) <|
 aXZ
noncomputable def f48_r4 (c : CallF) : RF := rg [4, 5] <| aX 10 (pM 4) <|
 aX 11 (pLen 71 10) <|
 aX 12 (pB .sub 3 11 (cn (.int .i64 1))) <|
 aX 5 (pM 12) <|
 aXZ
noncomputable def f48_r5 (c : CallF) : RF := rgD [2, 3] (aY 13 (pM 4) <|
 aY 14 (pM 5) <|
 aY 15 (fun n e M => keep (aSlice 1 none (some (eget e 14)) (eget e 13) M)) <|
 aY 16 (pM 4) <|
 aY 17 (pM 5) <|
 aY 18 (pI 1 16 17) <|
 aY 19 (pL false 1 18) <|
 aY 20 (pB .eql 9 19 (cn (.str []))) <|
 aY 2 (pM 15) <|
 aY 3 (pM 20) <|
 aYZ)
 (aXZ)
noncomputable def f48 (c : CallF) (k : Nat) : St :=
 (bSeq (bReg (f48_r0 c))
 (bSeq (bSeq (bReg (f48_r1 c))
 (bCond (.tmp 7) (bSeq (bReg (f48_r2 c))
 (bEx .ret)) (bEx .nrm)))
 (bSeq (bReg (f48_r3 c))
 (bSeq (bReg (f48_r4 c))
 (bSeq (bReg (f48_r5 c))
 (bEx .ret))))))
theorem f48_eq (c : CallF) (k : Nat) : exec cx c 21 f48_an k (Tryd.f48.body.getD .skip) = f48 c k := by kernel_rfl
/-! ### f49: loop.example/g01263/impl.readAccount -/
def f49_an : Ann := ⟨[(0, r0 [0, 2]), (1, r0 [0, 2, 19]), (2, r0 [2, 3, 4]), (3, ⟨[0], [], [], [], [0, 2, 5], none, []⟩), (4, r0 [0, 2, 5, 23, 24, 25]), (5, r0 [0, 2, 5, 23, 24, 25, 26]), (6, r0 [0, 2, 5, 6, 7, 23, 24, 25]), (7, r0 [0, 2, 5, 6, 8, 9, 23, 24, 25]), (8, r0 [0, 2, 5, 6, 9, 11, 23, 24, 25]), (9, r0 [0, 2, 5, 6, 9, 11, 23, 24, 25, 40]), (10, r0 [0, 2, 5, 11, 12, 13, 23, 24, 25]), (11, r0 [0, 2, 5, 11, 12, 23, 24, 25, 52]), (12, r0 [2, 3, 4]), (13, ⟨[6], [], [], [], [0, 2, 5, 23, 24, 25], none, []⟩), (14, r0 [0, 2, 6, 14, 15]), (15, r0 [2, 6, 14, 15, 16]), (16, ⟨[], [], [1, 2, 8, 9, 10], [11, 12, 13], [2, 3, 4], none, []⟩), (17, r0 [0, 2, 5, 23, 24, 25]), (18, r0 [2, 3, 4])], [(5, [0, 2, 5, 23, 24, 25])]⟩
noncomputable def f49_r0 (c : CallF) : RF := rg [0, 2] <| aX 2 (pAl 27 3) <|
 aX 3 (pM (cn (.int .i64 0))) <|
 aX 4 (pM (cn (.bool false))) <|
 aXZ
noncomputable def f49_r1 (c : CallF) : RF := rg [0, 2, 19] <| aX 17 (pM 0) <|
 aX 18 (pLen 71 17) <|
 aX 19 (pB .lss 3 18 (cn (.int .i64 2))) <|
 aXZ
noncomputable def f49_r2 (c : CallF) : RF := rg [2, 3, 4] <| aX 20 (fun n e M => keep (aBuild (zeroOf cx.P 27) [] M)) <|
 aX0 (pS 3 2 20) <|
 aX 3 (pM (cn (.int .i64 0))) <|
 aX 4 (pM (cn (.bool false))) <|
 aXZ
noncomputable def f49_r3 (c : CallF) : RF := rg [0, 2, 5] <| aX 21 (fun n e M => aLitO false n 42 2 [] M) <|
 aX 5 (pM 21) <|
 aXZ
noncomputable def f49_r4 (c : CallF) : RF := rg [0, 2, 5, 23, 24, 25] <| aX 22 (pM 0) <|
 aX 23 (fun n e M => keep (aSlice 1 (some (.int .i64 1)) none (eget e 22) M)) <|
 aX 24 (pLen 71 23) <|
 aX 25 (pM (cn (.int .i64 0))) <|
 aXZ
noncomputable def f49_r5 (c : CallF) : RF := rg [0, 2, 5, 23, 24, 25, 26] <| aX 26 (pB .lss 3 25 24) <|
 aXZ
noncomputable def f49_r6 (c : CallF) : RF := rg [0, 2, 5, 6, 7, 23, 24, 25] <| aX 27 (pM 25) <|
 aX 28 (pI 1 23 25) <|
 aX 29 (pL false 1 28) <|
 aX 6 (pM 27) <|
 aX 7 (pM 29) <|
 aXZ
noncomputable def f49_r7 (c : CallF) : RF := rg [0, 2, 5, 6, 8, 9, 23, 24, 25] <| aX 31 (pM 7) <|
 aX 32 (pK c false 87 [31, (cn (.str [32]))]) <|
 aX 30 (pM 32) <|
 aX 33 (pE 0 30) <|
 aX 34 (pE 1 30) <|
 aX 35 (pE 2 30) <|
 aX 8 (pM 33) <|
 aX 9 (pM 34) <|
 aX 10 (pM 35) <|
 aXZ
noncomputable def f49_r8 (c : CallF) : RF := rg [0, 2, 5, 6, 9, 11, 23, 24, 25] <| aX 36 (pK c false 52 []) <|
 aX 37 (pM 8) <|
 aX 38 (pK c false 88 [36, 37]) <|
 aX 11 (pM 38) <|
 aXZ
noncomputable def f49_r9 (c : CallF) : RF := rg [0, 2, 5, 6, 9, 11, 23, 24, 25, 40] <| aX 39 (pM 11) <|
 aX 40 (pB .geq 3 39 (cn (.int .i64 0))) <|
 aXZ
noncomputable def f49_r10 (c : CallF) : RF := rg [0, 2, 5, 11, 12, 13, 23, 24, 25] <| aX 42 (pM 9) <|
 aX 43 (pK c false 89 [42]) <|
 aX 41 (pM 43) <|
 aX 44 (pE 0 41) <|
 aX 45 (pE 1 41) <|
 aX 12 (pM 44) <|
 aX 13 (pM 45) <|
 aXZ
noncomputable def f49_r11 (c : CallF) : RF := rg [0, 2, 5, 11, 12, 23, 24, 25, 52] <| aX 46 (pM 13) <|
 aX 47 (pB .neq 2 46 (cn (.int .i64 0))) <|
 aX 48 (pM 47) <|
 aX 49 (pG 48 false (pM 5)) <|
 aX 50 (pG 48 false (pLen 24 49)) <|
 aX 51 (pG 48 false (pB .eql 3 50 (cn (.int .i64 40)))) <|
 aX 52 (pP 48 (cn (.bool true)) 51) <|
 aXZ
noncomputable def f49_r12 (c : CallF) : RF := rg [2, 3, 4] <| aX 53 (fun n e M => keep (aBuild (zeroOf cx.P 27) [] M)) <|
 aX0 (pS 3 2 53) <|
 aX 3 (pM (cn (.int .i64 0))) <|
 aX 4 (pM (cn (.bool false))) <|
 aXZ
noncomputable def f49_r13 (c : CallF) : RF := rg [0, 2, 5, 23, 24, 25] <| aX 54 (pM 5) <|
 aX 55 (pM 11) <|
 aX 56 (fun n e M => keep (aConvI .i8 (eget e 55))) <|
 aX 57 (pM 12) <|
 aX 58 (fun n e M => keep (aBuild (zeroOf cx.P 42) [(0, 1, (eget e 56)), (1, 1, (eget e 57))] M)) <|
 aX 59 (fun n e M => keep (aLitI 42 2 [(eget e 58)] M)) <|
 aX 60 (fun n e M => aAppO n 42 2 16 (eget e 54) (eget e 59) M) <|
 aX 5 (pM 60) <|
 aXZ
noncomputable def f49_r14 (c : CallF) : RF := rg [0, 2, 6, 14, 15] <| aX 62 (pM 0) <|
 aX 63 (pI 1 62 (cn (.int .i64 0))) <|
 aX 64 (pL false 1 63) <|
 aX 65 (pM 5) <|
 aX 66 (pK c false 8 [64, 65]) <|
 aX 61 (pM 66) <|
 aX 67 (pE 0 61) <|
 aX 68 (pE 1 61) <|
 aX 14 (pAl 27 3) <|
 aX0 (pS 3 14 67) <|
 aX 15 (pM 68) <|
 aXZ
noncomputable def f49_r15 (c : CallF) : RF := rg [2, 6, 14, 15, 16] <| aX 69 (pM 0) <|
 aX 70 (pM 6) <|
 aX 71 (pB .add 3 70 (cn (.int .i64 2))) <|
 aX 72 (fun n e M => keep (aSlice 1 none (some (eget e 71)) (eget e 69) M)) <|
 aX 73 (pK c false 90 [72, (cn (.str [10]))]) <|
 aX 74 (pB .add 9 73 (cn (.str [10]))) <|
 aX 16 (pM 74) <|
 aXZ
noncomputable def f49_r16 (c : CallF) : RF := rgD [2, 3, 4] (aY 75 (pL true 3 14) <|
 aYc 76 (pM 6) <|
 aYc 77 (pB .add 3 76 (cn (.int .i64 2))) <|
 aY 78 (pM 15) <|
 aY 79 (pB .eql 2 78 (cn (.int .i64 0))) <|
 aY 80 (pM 79) <|
 aY 81 (pG 80 true (pL true 3 14)) <|
 aY 82 (pG 80 true (pK c false 12 [81])) <|
 aYc 83 (pG 80 true (pM 16)) <|
 aYc 84 (pG 80 true (pB .eql 9 82 83)) <|
 aYc 85 (pP 80 84 (cn (.bool false))) <|
 aYZ)
 (aX0 (pS 3 2 75) <|
 aX 3 (pM 77) <|
 aX 4 (pM 85) <|
 aXZ)
noncomputable def f49_r17 (c : CallF) : RF := rg [0, 2, 5, 23, 24, 25] <| aX 86 (pB .add 3 25 (cn (.int .i64 1))) <|
 aX 25 (pM 86) <|
 aXZ
noncomputable def f49_r18 (c : CallF) : RF := rg [2, 3, 4] <| aX 87 (fun n e M => keep (aBuild (zeroOf cx.P 27) [] M)) <|
 aX0 (pS 3 2 87) <|
 aX 3 (pM (cn (.int .i64 0))) <|
 aX 4 (pM (cn (.bool false))) <|
 aXZ
noncomputable def f49_l5 (c : CallF) (k : Nat) : St :=
 (bSeq (bReg (f49_r5 c))
 (bSeq (bCond (.tmp 26) (bEx .nrm) (bEx (.ext 0)))
 (bSeq (bBlock 1 (bSeq (bReg (f49_r6 c))
 (bSeq (bReg (f49_r7 c))
 (bSeq (bReg (f49_r8 c))
 (bSeq (bSeq (bReg (f49_r9 c))
 (bCond (.tmp 40) (bSeq (bReg (f49_r10 c))
 (bSeq (bSeq (bReg (f49_r11 c))
 (bCond (.tmp 52) (bSeq (bReg (f49_r12 c))
 (bEx .ret)) (bEx .nrm)))
 (bSeq (bReg (f49_r13 c))
 (bEx (.ext 1))))) (bEx .nrm)))
 (bSeq (bReg (f49_r14 c))
 (bSeq (bReg (f49_r15 c))
 (bSeq (bReg (f49_r16 c))
 (bEx .ret)))))))))
 (bReg (f49_r17 c)))))
noncomputable def f49 (c : CallF) (k : Nat) : St :=
 (bSeq (bReg (f49_r0 c))
 (bSeq (bSeq (bReg (f49_r1 c))
 (bCond (.tmp 19) (bSeq (bReg (f49_r2 c))
 (bEx .ret)) (bEx .nrm)))
 (bSeq (bReg (f49_r3 c))
 (bSeq (bSeq (bReg (f49_r4 c))
 (bBlock 0 (bLoop [0, 2, 5, 23, 24, 25] (f49_l5 c k) k)))
 (bSeq (bReg (f49_r18 c))
 (bEx .ret))))))
theorem f49_eq (c : CallF) (k : Nat) : exec cx c 88 f49_an k (Tryd.f49.body.getD .skip) = f49 c k := by kernel_rfl
/-! ### f50: loop.example/g01263/impl.isAmount -/
def f50_an : Ann := ⟨[(0, r0 [0]), (1, r0 [2])], []⟩
noncomputable def f50_r0 (c : CallF) : RF := rg [0] <| aX 2 (pM (cn (.bool false))) <|
 aXZ
noncomputable def f50_r1 (c : CallF) : RF := rg [2] <| aX 3 (pM 0) <|
 aX 4 (pB .geq 2 3 (cn (.int .i64 0))) <|
 aX 5 (pM 4) <|
 aX 6 (pG 5 true (pM 0)) <|
 aX 7 (pG 5 true (pB .leq 2 6 (cn (.int .i64 100000000)))) <|
 aX 8 (pP 5 7 (cn (.bool false))) <|
 aX 2 (pM 8) <|
 aXZ
noncomputable def f50 (c : CallF) (k : Nat) : St :=
 (bSeq (bReg (f50_r0 c))
 (bSeq (bReg (f50_r1 c))
 (bEx .ret)))
theorem f50_eq (c : CallF) (k : Nat) : exec cx c 9 f50_an k (Tryd.f50.body.getD .skip) = f50 c k := by kernel_rfl
/-! ### f51: loop.example/g01263/impl.size -/
def f51_an : Ann := ⟨[(0, r0 [0]), (1, r0 [2])], []⟩
noncomputable def f51_r0 (c : CallF) : RF := rg [0] <| aX 2 (pM (cn (.int .i64 0))) <|
 aXZ
noncomputable def f51_r1 (c : CallF) : RF := rg [2] <| aX 3 (pM 0) <|
 aX 4 (pM 0) <|
 aX 5 (pU .neg 4) <|
 aX 6 (fun n e M => keep (aMax true (eget e 3) (eget e 5))) <|
 aX 2 (pM 6) <|
 aXZ
noncomputable def f51 (c : CallF) (k : Nat) : St :=
 (bSeq (bReg (f51_r0 c))
 (bSeq (bReg (f51_r1 c))
 (bEx .ret)))
theorem f51_eq (c : CallF) (k : Nat) : exec cx c 7 f51_an k (Tryd.f51.body.getD .skip) = f51 c k := by kernel_rfl
/-! ### f52: loop.example/g01263/impl.itemWords -/
def f52_an : Ann := ⟨[(0, r0 []), (1, r0 [0])], []⟩
noncomputable def f52_r0 (c : CallF) : RF := rg [] <| aX 0 (pM (cn .nils)) <|
 aXZ
noncomputable def f52_r1 (c : CallF) : RF := rg [0] <| aX 1 (fun n e M => keep (aLitI 9 1 [(.str [102, 97, 114, 109]), (.str [100, 101, 98, 116]), (.str [112, 97, 105, 100]), (.str [97, 108, 108, 111, 119, 101, 100])] M)) <|
 aX 0 (pM 1) <|
 aXZ
noncomputable def f52 (c : CallF) (k : Nat) : St :=
 (bSeq (bReg (f52_r0 c))
 (bSeq (bReg (f52_r1 c))
 (bEx .ret)))
theorem f52_eq (c : CallF) (k : Nat) : exec cx c 2 f52_an k (Tryd.f52.body.getD .skip) = f52 c k := by kernel_rfl
/-! ### f53: loop.example/g01263/impl.AmountText -/
def f53_an : Ann := ⟨[(0, r0 [0]), (1, r0 [0, 8]), (2, r0 [2]), (3, r0 [0, 10]), (4, r0 [2]), (5, ⟨[0], [], [], [], [0, 3], none, []⟩), (6, r0 [3, 19, 20, 21]), (7, r0 [3, 19, 20, 21, 22]), (8, r0 [3, 4, 5, 19, 20, 21]), (9, r0 [3, 4, 5, 19, 20, 21, 27]), (10, ⟨[9], [], [], [9, 10], [3, 19, 20, 21], none, []⟩), (11, r0 [3, 19, 20, 21]), (12, r0 [2])], [(7, [3, 19, 20, 21])]⟩
noncomputable def f53_r0 (c : CallF) : RF := rg [0] <| aX 2 (pM (cn (.str []))) <|
 aXZ
noncomputable def f53_r1 (c : CallF) : RF := rg [0, 8] <| aX 6 (pM 0) <|
 aX 7 (pK c false 50 [6]) <|
 aX 8 (pU .not 7) <|
 aXZ
noncomputable def f53_r2 (c : CallF) : RF := rg [2] <| aX 2 (pM (cn (.str []))) <|
 aXZ
noncomputable def f53_r3 (c : CallF) : RF := rg [0, 10] <| aX 9 (pM 0) <|
 aX 10 (pB .eql 2 9 (cn (.int .i64 0))) <|
 aXZ
noncomputable def f53_r4 (c : CallF) : RF := rg [2] <| aX 2 (pM (cn (.str [48, 100]))) <|
 aXZ
noncomputable def f53_r5 (c : CallF) : RF := rg [0, 3] <| aX 11 (fun n e M => aLitO false n 9 1 [] M) <|
 aX 3 (pM 11) <|
 aXZ
noncomputable def f53_r6 (c : CallF) : RF := rg [3, 19, 20, 21] <| aX 12 (pM 0) <|
 aX 13 (pB .quo 2 12 (cn (.int .i64 240))) <|
 aX 14 (pM 0) <|
 aX 15 (pB .quo 2 14 (cn (.int .i64 12))) <|
 aX 16 (pB .rem 2 15 (cn (.int .i64 20))) <|
 aX 17 (pM 0) <|
 aX 18 (pB .rem 2 17 (cn (.int .i64 12))) <|
 aX 19 (fun n e M => keep (aLitI 2 1 [(eget e 13), (eget e 16), (eget e 18)] M)) <|
 aX 20 (pLen 135 19) <|
 aX 21 (pM (cn (.int .i64 0))) <|
 aXZ
noncomputable def f53_r7 (c : CallF) : RF := rg [3, 19, 20, 21, 22] <| aX 22 (pB .lss 3 21 20) <|
 aXZ
noncomputable def f53_r8 (c : CallF) : RF := rg [3, 4, 5, 19, 20, 21] <| aX 23 (pM 21) <|
 aX 24 (pI 1 19 21) <|
 aX 25 (pL false 1 24) <|
 aX 4 (pM 23) <|
 aX 5 (pM 25) <|
 aXZ
noncomputable def f53_r9 (c : CallF) : RF := rg [3, 4, 5, 19, 20, 21, 27] <| aX 26 (pM 5) <|
 aX 27 (pB .gtr 2 26 (cn (.int .i64 0))) <|
 aXZ
noncomputable def f53_r10 (c : CallF) : RF := rgD [3, 19, 20, 21] (aY 28 (pM 3) <|
 aY 29 (pM 5) <|
 aY 30 (pK c false 91 [29]) <|
 aY 31 (pM 4) <|
 aY 32 (pM 4) <|
 aY 33 (pB .add 3 32 (cn (.int .i64 1))) <|
 aY 34 (fun n e M => keep (aSliceS (some (eget e 31)) (some (eget e 33)) (.str [108, 115, 100]))) <|
 aY 35 (pB .add 9 30 34) <|
 aY 36 (fun n e M => keep (aLitI 9 1 [(eget e 35)] M)) <|
 aYZ)
 (aX 37 (fun n e M => aAppO n 9 1 16 (eget e 28) (eget e 36) M) <|
 aX 3 (pM 37) <|
 aXZ)
noncomputable def f53_r11 (c : CallF) : RF := rg [3, 19, 20, 21] <| aX 38 (pB .add 3 21 (cn (.int .i64 1))) <|
 aX 21 (pM 38) <|
 aXZ
noncomputable def f53_r12 (c : CallF) : RF := rg [2] <| aX 39 (pM 3) <|
 aX 40 (pK c false 90 [39, (cn (.str [32]))]) <|
 aX 2 (pM 40) <|
 aXZ
noncomputable def f53_l7 (c : CallF) (k : Nat) : St :=
 (bSeq (bReg (f53_r7 c))
 (bSeq (bCond (.tmp 22) (bEx .nrm) (bEx (.ext 0)))
 (bSeq (bBlock 1 (bSeq (bReg (f53_r8 c))
 (bSeq (bReg (f53_r9 c))
 (bCond (.tmp 27) (bReg (f53_r10 c)) (bEx .nrm)))))
 (bReg (f53_r11 c)))))
noncomputable def f53 (c : CallF) (k : Nat) : St :=
 (bSeq (bReg (f53_r0 c))
 (bSeq (bSeq (bReg (f53_r1 c))
 (bCond (.tmp 8) (bSeq (bReg (f53_r2 c))
 (bEx .ret)) (bEx .nrm)))
 (bSeq (bSeq (bReg (f53_r3 c))
 (bCond (.tmp 10) (bSeq (bReg (f53_r4 c))
 (bEx .ret)) (bEx .nrm)))
 (bSeq (bReg (f53_r5 c))
 (bSeq (bSeq (bReg (f53_r6 c))
 (bBlock 0 (bLoop [3, 19, 20, 21] (f53_l7 c k) k)))
 (bSeq (bReg (f53_r12 c))
 (bEx .ret)))))))
theorem f53_eq (c : CallF) (k : Nat) : exec cx c 41 f53_an k (Tryd.f53.body.getD .skip) = f53 c k := by kernel_rfl
/-! ### f54: loop.example/g01263/impl.validItem -/
def f54_an : Ann := ⟨[(0, r0 [1]), (1, r0 [2])], []⟩
noncomputable def f54_r0 (c : CallF) : RF := rg [1] <| aX 1 (pBox 2 0) <|
 aX 2 (pM (cn (.bool false))) <|
 aXZ
noncomputable def f54_r1 (c : CallF) : RF := rg [2] <| aX 3 (pF 0 1 1) <|
 aX 4 (pL false 1 3) <|
 aX 5 (pB .geq 39 4 (cn (.int .i8 0))) <|
 aX 6 (pM 5) <|
 aX 7 (pG 6 true (pF 0 1 1)) <|
 aX 8 (pG 6 true (pL false 1 7)) <|
 aX 9 (pG 6 true (pB .leq 39 8 (cn (.int .i8 3)))) <|
 aX 10 (pP 6 9 (cn (.bool false))) <|
 aX 11 (pM 10) <|
 aX 12 (pG 11 true (pF 1 1 1)) <|
 aX 13 (pG 11 true (pL false 1 12)) <|
 aX 14 (pG 11 true (pK c false 50 [13])) <|
 aX 15 (pP 11 14 (cn (.bool false))) <|
 aX 2 (pM 15) <|
 aXZ
noncomputable def f54 (c : CallF) (k : Nat) : St :=
 (bSeq (bReg (f54_r0 c))
 (bSeq (bReg (f54_r1 c))
 (bEx .ret)))
theorem f54_eq (c : CallF) (k : Nat) : exec cx c 16 f54_an k (Tryd.f54.body.getD .skip) = f54 c k := by kernel_rfl
/-! ### f55: loop.example/g01263/spec.l05Right -/
def f55_an : Ann := ⟨[(0, r0 [0]), (1, r0 [2])], []⟩
noncomputable def f55_r0 (c : CallF) : RF := rg [0] <| aX 2 (pM (cn (.bool false))) <|
 aXZ
noncomputable def f55_r1 (c : CallF) : RF := rgD [2] (aY 3 (pM 0) <|
 aY 4 (pN 3) <|
 aY 5 (pF 0 1 4) <|
 aY 6 (pL false 1 5) <|
 aY 7 (pK c false 46 [6]) <|
 aY 8 (pM 7) <|
 aY 9 (pG 8 true (pM 0)) <|
 aY 10 (pG 8 true (pN 9)) <|
 aY 11 (pG 8 true (pF 1 1 10)) <|
 aY 12 (pG 8 true (pL false 1 11)) <|
 aY 13 (pG 8 true (pK c false 45 [12])) <|
 aY 14 (pP 8 13 (cn (.bool false))) <|
 aY 15 (pM 14) <|
 aY 16 (pG 15 true (pM 0)) <|
 aY 17 (pG 15 true (pN 16)) <|
 aY 18 (pG 15 true (pF 2 1 17)) <|
 aY 19 (pG 15 true (pL false 1 18)) <|
 aY 20 (pG 15 true (pM 0)) <|
 aY 21 (pG 15 true (pN 20)) <|
 aY 22 (pG 15 true (pF 1 1 21)) <|
 aY 23 (pG 15 true (pL false 1 22)) <|
 aY 24 (pG 15 true (pK c false 85 [23])) <|
 aY 25 (pG 15 true (pB .eql 2 19 24)) <|
 aY 26 (pP 15 25 (cn (.bool false))) <|
 aY 2 (pM 26) <|
 aYZ)
 (aXZ)
noncomputable def f55 (c : CallF) (k : Nat) : St :=
 (bSeq (bReg (f55_r0 c))
 (bSeq (bReg (f55_r1 c))
 (bEx .ret)))
theorem f55_eq (c : CallF) (k : Nat) : exec cx c 27 f55_an k (Tryd.f55.body.getD .skip) = f55 c k := by kernel_rfl
/-! ### f56: loop.example/g01263/spec.l01Amount -/
def f56_an : Ann := ⟨[(0, r0 [0]), (1, r0 [2])], []⟩
noncomputable def f56_r0 (c : CallF) : RF := rg [0] <| aX 2 (pM (cn (.bool false))) <|
 aXZ
noncomputable def f56_r1 (c : CallF) : RF := rg [2] <| aX 3 (pM 0) <|
 aX 4 (pK c false 84 [3, (cn (.int .i64 0)), (cn (.int .i64 100000000))]) <|
 aX 2 (pM 4) <|
 aXZ
noncomputable def f56 (c : CallF) (k : Nat) : St :=
 (bSeq (bReg (f56_r0 c))
 (bSeq (bReg (f56_r1 c))
 (bEx .ret)))
theorem f56_eq (c : CallF) (k : Nat) : exec cx c 5 f56_an k (Tryd.f56.body.getD .skip) = f56 c k := by kernel_rfl
/-! ### f59: (*loop.example/g01263/spec.l00Src).pick -/
def f59_an : Ann := ⟨[(0, r0 [0, 1]), (1, r0 [0, 1, 7]), (2, r0 [4]), (3, r0 [0, 1, 5]), (4, r0 [0, 1, 5, 11]), (5, r0 [1, 5]), (6, r0 [4])], []⟩
noncomputable def f59_r0 (c : CallF) : RF := rg [0, 1] <| aX 4 (pM (cn (.int .i64 0))) <|
 aXZ
noncomputable def f59_r1 (c : CallF) : RF := rg [0, 1, 7] <| aX 6 (pM 1) <|
 aX 7 (pB .leq 2 6 (cn (.int .i64 1))) <|
 aXZ
noncomputable def f59_r2 (c : CallF) : RF := rg [4] <| aX 4 (pM (cn (.int .i64 0))) <|
 aXZ
noncomputable def f59_r3 (c : CallF) : RF := rg [0, 1, 5] <| aX 8 (pM 0) <|
 aX 9 (pK c false 96 [8]) <|
 aX 5 (pM 9) <|
 aXZ
noncomputable def f59_r4 (c : CallF) : RF := rg [0, 1, 5, 11] <| aX 10 (pM 1) <|
 aX 11 (pB .gtr 2 10 (cn (.int .i64 200))) <|
 aXZ
noncomputable def f59_r5 (c : CallF) : RF := rg [1, 5] <| aX 12 (pM 5) <|
 aX 13 (pB .mul 2 12 (cn (.int .i64 256))) <|
 aX 14 (pM 0) <|
 aX 15 (pK c false 96 [14]) <|
 aX 16 (pB .add 2 13 15) <|
 aX 5 (pM 16) <|
 aXZ
noncomputable def f59_r6 (c : CallF) : RF := rg [4] <| aX 17 (pM 5) <|
 aX 18 (pM 1) <|
 aX 19 (pB .rem 2 17 18) <|
 aX 4 (pM 19) <|
 aXZ
noncomputable def f59 (c : CallF) (k : Nat) : St :=
 (bSeq (bReg (f59_r0 c))
 (bSeq (bSeq (bReg (f59_r1 c))
 (bCond (.tmp 7) (bSeq (bReg (f59_r2 c))
 (bEx .ret)) (bEx .nrm)))
 (bSeq (bReg (f59_r3 c))
 (bSeq (bSeq (bReg (f59_r4 c))
 (bCond (.tmp 11) (bReg (f59_r5 c)) (bEx .nrm)))
 (bSeq (bReg (f59_r6 c))
 (bEx .ret))))))
theorem f59_eq (c : CallF) (k : Nat) : exec cx c 20 f59_an k (Tryd.f59.body.getD .skip) = f59 c k := by kernel_rfl
/-! ### f83: loop.example/g01263/spec.l05Item -/
def f83_an : Ann := ⟨[(0, r0 [0]), (1, r0 [2])], []⟩
noncomputable def f83_r0 (c : CallF) : RF := rg [0] <| aX 2 (pM (cn (.bool false))) <|
 aXZ
noncomputable def f83_r1 (c : CallF) : RF := rg [2] <| aX 3 (pM 0) <|
 aX 4 (pN 3) <|
 aX 5 (pF 0 1 4) <|
 aX 6 (pL false 1 5) <|
 aX 7 (fun n e M => keep (aConvI .i64 (eget e 6))) <|
 aX 8 (pK c false 84 [7, (cn (.int .i64 0)), (cn (.int .i64 3))]) <|
 aX 9 (pM 8) <|
 aX 10 (pG 9 true (pM 0)) <|
 aX 11 (pG 9 true (pN 10)) <|
 aX 12 (pG 9 true (pF 1 1 11)) <|
 aX 13 (pG 9 true (pL false 1 12)) <|
 aX 14 (pG 9 true (pK c false 56 [13])) <|
 aX 15 (pP 9 14 (cn (.bool false))) <|
 aX 2 (pM 15) <|
 aXZ
noncomputable def f83 (c : CallF) (k : Nat) : St :=
 (bSeq (bReg (f83_r0 c))
 (bSeq (bReg (f83_r1 c))
 (bEx .ret)))
theorem f83_eq (c : CallF) (k : Nat) : exec cx c 16 f83_an k (Tryd.f83.body.getD .skip) = f83 c k := by kernel_rfl
/-! ### f84: loop.example/g01263/spec.l00In -/
def f84_an : Ann := ⟨[(0, r0 [0, 1, 2]), (1, r0 [6])], []⟩
noncomputable def f84_r0 (c : CallF) : RF := rg [0, 1, 2] <| aX 6 (pM (cn (.bool false))) <|
 aXZ
noncomputable def f84_r1 (c : CallF) : RF := rg [6] <| aX 7 (pM 0) <|
 aX 8 (pM 1) <|
 aX 9 (pB .geq 2 7 8) <|
 aX 10 (pM 9) <|
 aX 11 (pG 10 true (pM 0)) <|
 aX 12 (pG 10 true (pM 2)) <|
 aX 13 (pG 10 true (pB .leq 2 11 12)) <|
 aX 14 (pP 10 13 (cn (.bool false))) <|
 aX 6 (pM 14) <|
 aXZ
noncomputable def f84 (c : CallF) (k : Nat) : St :=
 (bSeq (bReg (f84_r0 c))
 (bSeq (bReg (f84_r1 c))
 (bEx .ret)))
theorem f84_eq (c : CallF) (k : Nat) : exec cx c 15 f84_an k (Tryd.f84.body.getD .skip) = f84 c k := by kernel_rfl
/-! ### f85: loop.example/g01263/spec.l05Balance -/
def f85_an : Ann := ⟨[(0, r0 [0]), (1, r0 [0, 3]), (2, r0 [0, 3, 4]), (3, r0 [0, 3, 4, 8]), (4, r0 [0, 3, 4]), (5, r0 [0, 3, 4, 24]), (6, r0 [0, 3, 4]), (7, r0 [0, 3, 4]), (8, r0 [2])], [(3, [0, 3, 4])]⟩
noncomputable def f85_r0 (c : CallF) : RF := rg [0] <| aX 2 (pM (cn (.int .i64 0))) <|
 aXZ
noncomputable def f85_r1 (c : CallF) : RF := rg [0, 3] <| aX 3 (pM (cn (.int .i64 0))) <|
 aXZ
noncomputable def f85_r2 (c : CallF) : RF := rg [0, 3, 4] <| aX 4 (pM (cn (.int .i64 0))) <|
 aXZ
noncomputable def f85_r3 (c : CallF) : RF := rg [0, 3, 4, 8] <| aX 5 (pM 4) <|
 aX 6 (pM 0) <|
 aX 7 (pLen 24 6) <|
 aX 8 (pB .lss 3 5 7) <|
 aXZ
noncomputable def f85_r4 (c : CallF) : RF := rg [0, 3, 4] <| aX 9 (pM 4) <|
 aX 10 (pB .add 3 9 (cn (.int .i64 1))) <|
 aX 4 (pM 10) <|
 aXZ
noncomputable def f85_r5 (c : CallF) : RF := rg [0, 3, 4, 24] <| aX 11 (pM 0) <|
 aX 12 (pM 4) <|
 aX 13 (pI 2 11 12) <|
 aX 14 (pF 0 1 13) <|
 aX 15 (pL false 1 14) <|
 aX 16 (pB .eql 39 15 (cn (.int .i8 0))) <|
 aX 17 (pM 16) <|
 aX 18 (pG 17 false (pM 0)) <|
 aX 19 (pG 17 false (pM 4)) <|
 aX 20 (pG 17 false (pI 2 18 19)) <|
 aX 21 (pG 17 false (pF 0 1 20)) <|
 aX 22 (pG 17 false (pL false 1 21)) <|
 aX 23 (pG 17 false (pB .eql 39 22 (cn (.int .i8 1)))) <|
 aX 24 (pP 17 (cn (.bool true)) 23) <|
 aXZ
noncomputable def f85_r6 (c : CallF) : RF := rg [0, 3, 4] <| aX 25 (pM 3) <|
 aX 26 (pM 0) <|
 aX 27 (pM 4) <|
 aX 28 (pI 2 26 27) <|
 aX 29 (pF 1 1 28) <|
 aX 30 (pL false 1 29) <|
 aX 31 (pB .add 2 25 30) <|
 aX 3 (pM 31) <|
 aXZ
noncomputable def f85_r7 (c : CallF) : RF := rg [0, 3, 4] <| aX 32 (pM 3) <|
 aX 33 (pM 0) <|
 aX 34 (pM 4) <|
 aX 35 (pI 2 33 34) <|
 aX 36 (pF 1 1 35) <|
 aX 37 (pL false 1 36) <|
 aX 38 (pB .sub 2 32 37) <|
 aX 3 (pM 38) <|
 aXZ
noncomputable def f85_r8 (c : CallF) : RF := rg [2] <| aX 39 (pM 3) <|
 aX 2 (pM 39) <|
 aXZ
noncomputable def f85_l3 (c : CallF) (k : Nat) : St :=
 (bSeq (bSeq (bReg (f85_r3 c))
 (bCond (.tmp 8) (bEx .nrm) (bEx (.ext 0))))
 (bSeq (bBlock 1 (bSeq (bReg (f85_r5 c))
 (bCond (.tmp 24) (bReg (f85_r6 c)) (bReg (f85_r7 c)))))
 (bReg (f85_r4 c))))
noncomputable def f85 (c : CallF) (k : Nat) : St :=
 (bSeq (bReg (f85_r0 c))
 (bSeq (bReg (f85_r1 c))
 (bSeq (bSeq (bReg (f85_r2 c))
 (bBlock 0 (bLoop [0, 3, 4] (f85_l3 c k) k)))
 (bSeq (bReg (f85_r8 c))
 (bEx .ret)))))
theorem f85_eq (c : CallF) (k : Nat) : exec cx c 40 f85_an k (Tryd.f85.body.getD .skip) = f85 c k := by kernel_rfl
/-! ### f88: slices.Index[[]string,string] -/
def f88_an : Ann := ⟨[(0, r0 [0, 1]), (1, r0 [0, 1, 7, 8]), (2, r0 [0, 1, 7, 8, 9]), (3, r0 [0, 1, 5, 7, 8]), (4, r0 [0, 1, 5, 7, 8, 16]), (5, r0 [4]), (6, r0 [0, 1, 7, 8]), (7, r0 [4])], [(2, [0, 1, 7, 8])]⟩
noncomputable def f88_r0 (c : CallF) : RF := rg [0, 1] <| aX 4 (pM (cn (.int .i64 0))) <|
 aXZ
noncomputable def f88_r1 (c : CallF) : RF := rg [0, 1, 7, 8] <| aX 6 (pM 0) <|
 aX 7 (pLen 71 6) <|
 aX 8 (pM (cn (.int .i64 0))) <|
 aXZ
noncomputable def f88_r2 (c : CallF) : RF := rg [0, 1, 7, 8, 9] <| aX 9 (pB .lss 3 8 7) <|
 aXZ
noncomputable def f88_r3 (c : CallF) : RF := rg [0, 1, 5, 7, 8] <| aX 10 (pM 8) <|
 aX 5 (pM 10) <|
 aXZ
noncomputable def f88_r4 (c : CallF) : RF := rg [0, 1, 5, 7, 8, 16] <| aX 11 (pM 1) <|
 aX 12 (pM 0) <|
 aX 13 (pM 5) <|
 aX 14 (pI 1 12 13) <|
 aX 15 (pL false 1 14) <|
 aX 16 (pB .eql 9 11 15) <|
 aXZ
noncomputable def f88_r5 (c : CallF) : RF := rg [4] <| aX 17 (pM 5) <|
 aX 4 (pM 17) <|
 aXZ
noncomputable def f88_r6 (c : CallF) : RF := rg [0, 1, 7, 8] <| aX 18 (pB .add 3 8 (cn (.int .i64 1))) <|
 aX 8 (pM 18) <|
 aXZ
noncomputable def f88_r7 (c : CallF) : RF := rg [4] <| aX 4 (pM (cn (.int .i64 (-1)))) <|
 aXZ
noncomputable def f88_l2 (c : CallF) (k : Nat) : St :=
 (bSeq (bReg (f88_r2 c))
 (bSeq (bCond (.tmp 9) (bEx .nrm) (bEx (.ext 0)))
 (bSeq (bBlock 1 (bSeq (bReg (f88_r3 c))
 (bSeq (bReg (f88_r4 c))
 (bCond (.tmp 16) (bSeq (bReg (f88_r5 c))
 (bEx .ret)) (bEx .nrm)))))
 (bReg (f88_r6 c)))))
noncomputable def f88 (c : CallF) (k : Nat) : St :=
 (bSeq (bReg (f88_r0 c))
 (bSeq (bSeq (bReg (f88_r1 c))
 (bBlock 0 (bLoop [0, 1, 7, 8] (f88_l2 c k) k)))
 (bSeq (bReg (f88_r7 c))
 (bEx .ret))))
theorem f88_eq (c : CallF) (k : Nat) : exec cx c 19 f88_an k (Tryd.f88.body.getD .skip) = f88 c k := by kernel_rfl
/-! ### f89: loop.example/g01263/impl.ReadAmount -/
def f89_an : Ann := ⟨[(0, r0 [0]), (1, r0 [0, 12]), (2, r0 [2, 3]), (3, r0 [0, 4]), (4, r0 [0, 4, 14, 15, 16]), (5, r0 [0, 4, 14, 15, 16, 17]), (6, r0 [0, 4, 6, 14, 15, 16]), (7, r0 [0, 4, 6, 14, 15, 16, 21]), (8, r0 [2, 3]), (9, r0 [0, 4, 6, 7, 8, 14, 15, 16]), (10, r0 [0, 4, 7, 8, 9, 14, 15, 16]), (11, r0 [0, 4, 7, 9, 14, 15, 16, 42]), (12, r0 [2, 3]), (13, r0 [0, 4, 14, 15, 16]), (14, r0 [0, 4, 14, 15, 16]), (15, r0 [4, 53]), (16, r0 [2, 3]), (17, r0 [2, 3])], [(5, [0, 4, 14, 15, 16])]⟩
noncomputable def f89_r0 (c : CallF) : RF := rg [0] <| aX 2 (pM (cn (.int .i64 0))) <|
 aX 3 (pM (cn (.int .i64 0))) <|
 aXZ
noncomputable def f89_r1 (c : CallF) : RF := rg [0, 12] <| aX 10 (pM 0) <|
 aX 11 (pLen 9 10) <|
 aX 12 (pB .gtr 3 11 (cn (.int .i64 30))) <|
 aXZ
noncomputable def f89_r2 (c : CallF) : RF := rg [2, 3] <| aX 2 (pM (cn (.int .i64 0))) <|
 aX 3 (pM (cn (.int .i64 5))) <|
 aXZ
noncomputable def f89_r3 (c : CallF) : RF := rg [0, 4] <| aX 4 (pM (cn (.int .i64 0))) <|
 aXZ
noncomputable def f89_r4 (c : CallF) : RF := rg [0, 4, 14, 15, 16] <| aX 13 (pM 0) <|
 aX 14 (pK c false 86 [13, (cn (.str [32]))]) <|
 aX 15 (pLen 71 14) <|
 aX 16 (pM (cn (.int .i64 0))) <|
 aXZ
noncomputable def f89_r5 (c : CallF) : RF := rg [0, 4, 14, 15, 16, 17] <| aX 17 (pB .lss 3 16 15) <|
 aXZ
noncomputable def f89_r6 (c : CallF) : RF := rg [0, 4, 6, 14, 15, 16] <| aX 18 (pI 1 14 16) <|
 aX 19 (pL false 1 18) <|
 aX 6 (pM 19) <|
 aXZ
noncomputable def f89_r7 (c : CallF) : RF := rg [0, 4, 6, 14, 15, 16, 21] <| aX 20 (pM 6) <|
 aX 21 (pB .eql 9 20 (cn (.str []))) <|
 aXZ
noncomputable def f89_r8 (c : CallF) : RF := rg [2, 3] <| aX 2 (pM (cn (.int .i64 0))) <|
 aX 3 (pM (cn (.int .i64 5))) <|
 aXZ
noncomputable def f89_r9 (c : CallF) : RF := rg [0, 4, 6, 7, 8, 14, 15, 16] <| aX 23 (pM 6) <|
 aX 24 (pM 6) <|
 aX 25 (pLen 9 24) <|
 aX 26 (pB .sub 3 25 (cn (.int .i64 1))) <|
 aX 27 (fun n e M => keep (aSliceS none (some (eget e 26)) (eget e 23))) <|
 aX 28 (pK c false 115 [27]) <|
 aX 22 (pM 28) <|
 aX 29 (pE 0 22) <|
 aX 30 (pE 1 22) <|
 aX 7 (pM 29) <|
 aX 8 (pM 30) <|
 aXZ
noncomputable def f89_r10 (c : CallF) : RF := rg [0, 4, 7, 8, 9, 14, 15, 16] <| aX 31 (pM 6) <|
 aX 32 (pM 6) <|
 aX 33 (pLen 9 32) <|
 aX 34 (pB .sub 3 33 (cn (.int .i64 1))) <|
 aX 35 (fun n e M => keep (aIndexB (eget e 31) (eget e 34))) <|
 aX 36 (pK c false 116 [(cn (.str [100, 115, 108])), 35]) <|
 aX 9 (pM 36) <|
 aXZ
noncomputable def f89_r11 (c : CallF) : RF := rg [0, 4, 7, 9, 14, 15, 16, 42] <| aX 37 (pM 8) <|
 aX 38 (pU .not 37) <|
 aX 39 (pM 38) <|
 aX 40 (pG 39 false (pM 9)) <|
 aX 41 (pG 39 false (pB .lss 3 40 (cn (.int .i64 0)))) <|
 aX 42 (pP 39 (cn (.bool true)) 41) <|
 aXZ
noncomputable def f89_r12 (c : CallF) : RF := rg [2, 3] <| aX 2 (pM (cn (.int .i64 0))) <|
 aX 3 (pM (cn (.int .i64 5))) <|
 aXZ
noncomputable def f89_r13 (c : CallF) : RF := rg [0, 4, 14, 15, 16] <| aX 43 (pM 4) <|
 aX 44 (pM 7) <|
 aX 45 (pM 9) <|
 aX 46 (pK c false 117 [45]) <|
 aX 47 (pB .mul 2 44 46) <|
 aX 48 (pB .add 2 43 47) <|
 aX 4 (pM 48) <|
 aXZ
noncomputable def f89_r14 (c : CallF) : RF := rg [0, 4, 14, 15, 16] <| aX 49 (pB .add 3 16 (cn (.int .i64 1))) <|
 aX 16 (pM 49) <|
 aXZ
noncomputable def f89_r15 (c : CallF) : RF := rg [4, 53] <| aX 50 (pM 4) <|
 aX 51 (pK c false 53 [50]) <|
 aX 52 (pM 0) <|
 aX 53 (pB .neq 9 51 52) <|
 aXZ
noncomputable def f89_r16 (c : CallF) : RF := rg [2, 3] <| aX 2 (pM (cn (.int .i64 0))) <|
 aX 3 (pM (cn (.int .i64 5))) <|
 aXZ
noncomputable def f89_r17 (c : CallF) : RF := rg [2, 3] <| aX 54 (pM 4) <|
 aX 2 (pM 54) <|
 aX 3 (pM (cn (.int .i64 0))) <|
 aXZ
noncomputable def f89_l5 (c : CallF) (k : Nat) : St :=
 (bSeq (bReg (f89_r5 c))
 (bSeq (bCond (.tmp 17) (bEx .nrm) (bEx (.ext 0)))
 (bSeq (bBlock 1 (bSeq (bReg (f89_r6 c))
 (bSeq (bSeq (bReg (f89_r7 c))
 (bCond (.tmp 21) (bSeq (bReg (f89_r8 c))
 (bEx .ret)) (bEx .nrm)))
 (bSeq (bReg (f89_r9 c))
 (bSeq (bReg (f89_r10 c))
 (bSeq (bSeq (bReg (f89_r11 c))
 (bCond (.tmp 42) (bSeq (bReg (f89_r12 c))
 (bEx .ret)) (bEx .nrm)))
 (bReg (f89_r13 c))))))))
 (bReg (f89_r14 c)))))
noncomputable def f89 (c : CallF) (k : Nat) : St :=
 (bSeq (bReg (f89_r0 c))
 (bSeq (bSeq (bReg (f89_r1 c))
 (bCond (.tmp 12) (bSeq (bReg (f89_r2 c))
 (bEx .ret)) (bEx .nrm)))
 (bSeq (bReg (f89_r3 c))
 (bSeq (bSeq (bReg (f89_r4 c))
 (bBlock 0 (bLoop [0, 4, 14, 15, 16] (f89_l5 c k) k)))
 (bSeq (bSeq (bReg (f89_r15 c))
 (bCond (.tmp 53) (bSeq (bReg (f89_r16 c))
 (bEx .ret)) (bEx .nrm)))
 (bSeq (bReg (f89_r17 c))
 (bEx .ret)))))))
theorem f89_eq (c : CallF) (k : Nat) : exec cx c 55 f89_an k (Tryd.f89.body.getD .skip) = f89 c k := by kernel_rfl
/-! ### f91: loop.example/g01263/impl.decimal -/
def f91_an : Ann := ⟨[(0, r0 [0]), (1, r0 [2])], []⟩
noncomputable def f91_r0 (c : CallF) : RF := rg [0] <| aX 2 (pM (cn (.str []))) <|
 aXZ
noncomputable def f91_r1 (c : CallF) : RF := rg [2] <| aX 3 (pM 0) <|
 aX 4 (pK c false 121 [3, (cn (.int .i64 10))]) <|
 aX 2 (pM 4) <|
 aXZ
noncomputable def f91 (c : CallF) (k : Nat) : St :=
 (bSeq (bReg (f91_r0 c))
 (bSeq (bReg (f91_r1 c))
 (bEx .ret)))
theorem f91_eq (c : CallF) (k : Nat) : exec cx c 5 f91_an k (Tryd.f91.body.getD .skip) = f91 c k := by kernel_rfl
/-! ### f96: (*loop.example/g01263/spec.l00Src).next -/
def f96_an : Ann := ⟨[(0, r0 [0]), (1, r0 [0, 3]), (2, r0 [0, 3, 13]), (3, r0 [0, 3]), (4, r0 [0, 3]), (5, r0 [0, 3]), (6, r0 [0, 3, 53]), (7, r0 [2]), (8, r0 [2])], []⟩
noncomputable def f96_r0 (c : CallF) : RF := rg [0] <| aX 2 (pM (cn (.int .i64 0))) <|
 aXZ
noncomputable def f96_r1 (c : CallF) : RF := rg [0, 3] <| aX 3 (pM (cn (.int .i64 0))) <|
 aXZ
noncomputable def f96_r2 (c : CallF) : RF := rgD [0, 3, 13] (aY 4 (pM 0) <|
 aY 5 (pN 4) <|
 aY 6 (pF 1 1 5) <|
 aY 7 (pL false 1 6) <|
 aY 8 (pM 0) <|
 aY 9 (pN 8) <|
 aY 10 (pF 0 1 9) <|
 aY 11 (pL false 1 10) <|
 aY 12 (pLen 22 11) <|
 aY 13 (pB .lss 3 7 12) <|
 aYZ)
 (aXZ)
noncomputable def f96_r3 (c : CallF) : RF := rgD [0, 3] (aY 14 (pM 0) <|
 aY 15 (pN 14) <|
 aY 16 (pF 0 1 15) <|
 aY 17 (pL false 1 16) <|
 aY 18 (pM 0) <|
 aY 19 (pN 18) <|
 aY 20 (pF 1 1 19) <|
 aY 21 (pL false 1 20) <|
 aY 22 (pI 1 17 21) <|
 aY 23 (pL false 1 22) <|
 aY 24 (fun n e M => keep (aConvI .i64 (eget e 23))) <|
 aY 3 (pM 24) <|
 aYZ)
 (aXZ)
noncomputable def f96_r4 (c : CallF) : RF := rg [0, 3] <| aX 25 (pM 0) <|
 aX 26 (pN 25) <|
 aX 27 (pF 1 1 26) <|
 aX 28 (pL false 1 27) <|
 aX 29 (pB .add 3 28 (cn (.int .i64 1))) <|
 aX 30 (pN 25) <|
 aX 31 (pF 1 1 30) <|
 aX0 (pS 1 31 29) <|
 aXZ
noncomputable def f96_r5 (c : CallF) : RF := rg [0, 3] <| aX 32 (pM 0) <|
 aX 33 (pM 0) <|
 aX 34 (pN 33) <|
 aX 35 (pF 2 1 34) <|
 aX 36 (pL false 1 35) <|
 aX 37 (pB .mul 123 36 (cn (.int .u64 6364136223846793005))) <|
 aX 38 (pM 3) <|
 aX 39 (fun n e M => keep (aConvI .u64 (eget e 38))) <|
 aX 40 (pB .add 123 37 39) <|
 aX 41 (pB .add 123 40 (cn (.int .u64 1442695040888963407))) <|
 aX 42 (pN 32) <|
 aX 43 (pF 2 1 42) <|
 aX0 (pS 1 43 41) <|
 aXZ
noncomputable def f96_r6 (c : CallF) : RF := rgD [0, 3, 53] (aY 44 (pM 0) <|
 aY 45 (pN 44) <|
 aY 46 (pF 1 1 45) <|
 aY 47 (pL false 1 46) <|
 aY 48 (pM 0) <|
 aY 49 (pN 48) <|
 aY 50 (pF 0 1 49) <|
 aY 51 (pL false 1 50) <|
 aY 52 (pLen 22 51) <|
 aY 53 (pB .leq 3 47 52) <|
 aYZ)
 (aXZ)
noncomputable def f96_r7 (c : CallF) : RF := rg [2] <| aX 54 (pM 3) <|
 aX 2 (pM 54) <|
 aXZ
noncomputable def f96_r8 (c : CallF) : RF := rg [2] <| aX 55 (pM 0) <|
 aX 56 (pN 55) <|
 aX 57 (pF 2 1 56) <|
 aX 58 (pL false 1 57) <|
 aX 59 (pB .shr 123 58 (cn (.int .u64 40))) <|
 aX 60 (pB .and 123 59 (cn (.int .u64 255))) <|
 aX 61 (fun n e M => keep (aConvI .i64 (eget e 60))) <|
 aX 2 (pM 61) <|
 aXZ
noncomputable def f96 (c : CallF) (k : Nat) : St :=
 (bSeq (bReg (f96_r0 c))
 (bSeq (bReg (f96_r1 c))
 (bSeq (bSeq (bReg (f96_r2 c))
 (bCond (.tmp 13) (bReg (f96_r3 c)) (bEx .nrm)))
 (bSeq (bReg (f96_r4 c))
 (bSeq (bReg (f96_r5 c))
 (bSeq (bSeq (bReg (f96_r6 c))
 (bCond (.tmp 53) (bSeq (bReg (f96_r7 c))
 (bEx .ret)) (bEx .nrm)))
 (bSeq (bReg (f96_r8 c))
 (bEx .ret))))))))
theorem f96_eq (c : CallF) (k : Nat) : exec cx c 62 f96_an k (Tryd.f96.body.getD .skip) = f96 c k := by kernel_rfl
/-! ### f115: loop.example/g01263/impl.number -/
def f115_an : Ann := ⟨[(0, r0 [0]), (1, r0 [0, 22]), (2, r0 [2, 3]), (3, r0 [0, 4]), (4, r0 [0, 4, 24, 25]), (5, r0 [0, 4, 24, 25, 26]), (6, r0 [0, 4, 5, 24, 25]), (7, r0 [0, 4, 5, 24, 25, 37]), (8, r0 [2, 3]), (9, r0 [0, 4, 24, 25]), (10, r0 [0, 4, 24, 25]), (11, r0 [2, 3])], [(5, [0, 4, 24, 25])]⟩
noncomputable def f115_r0 (c : CallF) : RF := rg [0] <| aX 2 (pM (cn (.int .i64 0))) <|
 aX 3 (pM (cn (.bool false))) <|
 aXZ
noncomputable def f115_r1 (c : CallF) : RF := rg [0, 22] <| aX 6 (pM 0) <|
 aX 7 (pB .eql 9 6 (cn (.str []))) <|
 aX 8 (pM 7) <|
 aX 9 (pG 8 false (pM 0)) <|
 aX 10 (pG 8 false (pLen 9 9)) <|
 aX 11 (pG 8 false (pB .gtr 3 10 (cn (.int .i64 9)))) <|
 aX 12 (pP 8 (cn (.bool true)) 11) <|
 aX 13 (pM 12) <|
 aX 14 (pG 13 false (pM 0)) <|
 aX 15 (pG 13 false (fun n e M => keep (aIndexB (eget e 14) (.int .i64 0)))) <|
 aX 16 (pG 13 false (pB .eql 5 15 (cn (.int .u8 48)))) <|
 aX 17 (pG 13 false (pM 16)) <|
 aX 18 (pG 17 true (pM 0)) <|
 aX 19 (pG 17 true (pLen 9 18)) <|
 aX 20 (pG 17 true (pB .gtr 3 19 (cn (.int .i64 1)))) <|
 aX 21 (pG 13 false (pP 17 20 (cn (.bool false)))) <|
 aX 22 (pP 13 (cn (.bool true)) 21) <|
 aXZ
noncomputable def f115_r2 (c : CallF) : RF := rg [2, 3] <| aX 2 (pM (cn (.int .i64 0))) <|
 aX 3 (pM (cn (.bool false))) <|
 aXZ
noncomputable def f115_r3 (c : CallF) : RF := rg [0, 4] <| aX 4 (pM (cn (.int .i64 0))) <|
 aXZ
noncomputable def f115_r4 (c : CallF) : RF := rg [0, 4, 24, 25] <| aX 23 (pM 0) <|
 aX 24 (pLen 9 23) <|
 aX 25 (pM (cn (.int .i64 0))) <|
 aXZ
noncomputable def f115_r5 (c : CallF) : RF := rg [0, 4, 24, 25, 26] <| aX 26 (pB .lss 3 25 24) <|
 aXZ
noncomputable def f115_r6 (c : CallF) : RF := rg [0, 4, 5, 24, 25] <| aX 27 (pM 25) <|
 aX 5 (pM 27) <|
 aXZ
noncomputable def f115_r7 (c : CallF) : RF := rg [0, 4, 5, 24, 25, 37] <| aX 28 (pM 0) <|
 aX 29 (pM 5) <|
 aX 30 (fun n e M => keep (aIndexB (eget e 28) (eget e 29))) <|
 aX 31 (pB .lss 5 30 (cn (.int .u8 48))) <|
 aX 32 (pM 31) <|
 aX 33 (pG 32 false (pM 0)) <|
 aX 34 (pG 32 false (pM 5)) <|
 aX 35 (pG 32 false (fun n e M => keep (aIndexB (eget e 33) (eget e 34)))) <|
 aX 36 (pG 32 false (pB .gtr 5 35 (cn (.int .u8 57)))) <|
 aX 37 (pP 32 (cn (.bool true)) 36) <|
 aXZ
noncomputable def f115_r8 (c : CallF) : RF := rg [2, 3] <| aX 2 (pM (cn (.int .i64 0))) <|
 aX 3 (pM (cn (.bool false))) <|
 aXZ
noncomputable def f115_r9 (c : CallF) : RF := rg [0, 4, 24, 25] <| aX 38 (pM 4) <|
 aX 39 (pB .mul 2 38 (cn (.int .i64 10))) <|
 aX 40 (pM 0) <|
 aX 41 (pM 5) <|
 aX 42 (fun n e M => keep (aIndexB (eget e 40) (eget e 41))) <|
 aX 43 (pB .sub 5 42 (cn (.int .u8 48))) <|
 aX 44 (fun n e M => keep (aConvI .i64 (eget e 43))) <|
 aX 45 (pB .add 2 39 44) <|
 aX 4 (pM 45) <|
 aXZ
noncomputable def f115_r10 (c : CallF) : RF := rg [0, 4, 24, 25] <| aX 46 (pB .add 3 25 (cn (.int .i64 1))) <|
 aX 25 (pM 46) <|
 aXZ
noncomputable def f115_r11 (c : CallF) : RF := rg [2, 3] <| aX 47 (pM 4) <|
 aX 2 (pM 47) <|
 aX 3 (pM (cn (.bool true))) <|
 aXZ
noncomputable def f115_l5 (c : CallF) (k : Nat) : St :=
 (bSeq (bReg (f115_r5 c))
 (bSeq (bCond (.tmp 26) (bEx .nrm) (bEx (.ext 0)))
 (bSeq (bBlock 1 (bSeq (bReg (f115_r6 c))
 (bSeq (bSeq (bReg (f115_r7 c))
 (bCond (.tmp 37) (bSeq (bReg (f115_r8 c))
 (bEx .ret)) (bEx .nrm)))
 (bReg (f115_r9 c)))))
 (bReg (f115_r10 c)))))
noncomputable def f115 (c : CallF) (k : Nat) : St :=
 (bSeq (bReg (f115_r0 c))
 (bSeq (bSeq (bReg (f115_r1 c))
 (bCond (.tmp 22) (bSeq (bReg (f115_r2 c))
 (bEx .ret)) (bEx .nrm)))
 (bSeq (bReg (f115_r3 c))
 (bSeq (bSeq (bReg (f115_r4 c))
 (bBlock 0 (bLoop [0, 4, 24, 25] (f115_l5 c k) k)))
 (bSeq (bReg (f115_r11 c))
 (bEx .ret))))))
theorem f115_eq (c : CallF) (k : Nat) : exec cx c 48 f115_an k (Tryd.f115.body.getD .skip) = f115 c k := by kernel_rfl
/-! ### f117: loop.example/g01263/impl.worth -/
def f117_an : Ann := ⟨[(0, r0 [0]), (1, r0 [2])], []⟩
noncomputable def f117_r0 (c : CallF) : RF := rg [0] <| aX 2 (pM (cn (.int .i64 0))) <|
 aXZ
noncomputable def f117_r1 (c : CallF) : RF := rg [2] <| aX 3 (fun n e M => keep (aLitI 2 1 [(.int .i64 1), (.int .i64 12), (.int .i64 240), (.int .i64 4800), (.int .i64 24000), (.int .i64 240000)] M)) <|
 aX 4 (pM 0) <|
 aX 5 (pI 1 3 4) <|
 aX 6 (pL false 1 5) <|
 aX 2 (pM 6) <|
 aXZ
noncomputable def f117 (c : CallF) (k : Nat) : St :=
 (bSeq (bReg (f117_r0 c))
 (bSeq (bReg (f117_r1 c))
 (bEx .ret)))
theorem f117_eq (c : CallF) (k : Nat) : exec cx c 7 f117_an k (Tryd.f117.body.getD .skip) = f117 c k := by kernel_rfl
def anns : List (Nat × Ann) := [(3, f3_an), (6, f6_an), (7, f7_an), (8, f8_an), (9, f9_an), (10, f10_an), (11, f11_an), (12, f12_an), (13, f13_an), (14, f14_an), (15, f15_an), (16, f16_an), (17, f17_an), (18, f18_an), (19, f19_an), (20, f20_an), (40, f40_an), (41, f41_an), (42, f42_an), (43, f43_an), (44, f44_an), (45, f45_an), (46, f46_an), (47, f47_an), (48, f48_an), (49, f49_an), (50, f50_an), (51, f51_an), (52, f52_an), (53, f53_an), (54, f54_an), (55, f55_an), (56, f56_an), (59, f59_an), (83, f83_an), (84, f84_an), (85, f85_an), (88, f88_an), (89, f89_an), (91, f91_an), (96, f96_an), (115, f115_an), (117, f117_an)]
noncomputable def CN0 : Nat → CallF := callN cx (Go.Ab.look anns) (fun _ _ _ => none) (fun _ => false)
def isP (f : Nat) : Bool := has [43, 86, 87, 90, 116, 121] f
noncomputable def primF : CallF := splitNil (callN cx (Go.Ab.look anns) (fun _ _ _ => none) (fun _ => false) 3)
noncomputable def CN : Nat → CallF := callN cx (Go.Ab.look anns) (withLib libT primF) isP
end Go.Proofs.YtjlalepbhcekoaaDoor

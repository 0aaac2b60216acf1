/- Printed by a program of ours (ext.py). -/
import Derived.Test.YtonpeobfmgdamaaDoorAbLib
import Derived.Test.YtonpeobfmgdamaaDoorProg
set_option linter.unusedVariables false
set_option linter.unusedSimpArgs false
set_option maxRecDepth 100000
set_option maxHeartbeats 2000000
namespace Go.Proofs.YtonpeobfmgdamaaDoor
open Go Go.Ab
noncomputable def cx : Cx := ⟨Tryd.prog, fun f => has [16, 17, 40, 41] f⟩
noncomputable abbrev pB := pB_ cx.P
noncomputable abbrev pLen := pLen_ cx.P
noncomputable abbrev pAl := pAl_ cx.P
noncomputable abbrev pK := pK_ cx
/-! ### f4: loop.example/g01263/laws.FnExactStartChain -/
def f4_an : Ann := ⟨[(0, r0 [2, 3, 4]), (1, r0 [2, 3, 4, 20]), (2, r0 [6]), (3, r0 [2, 3, 4, 7]), (4, r0 [2, 3, 4, 7]), (5, r0 [2, 3, 4, 7, 25]), (6, r0 [6]), (7, r0 [2, 3, 4, 7]), (8, r0 [2, 3, 4, 30]), (9, r0 [6]), (10, ⟨[], [], [8], [10, 11], [2, 3, 4, 8, 9]⟩), (11, ⟨[], [1], [], [], [2, 3, 4, 8, 9, 10]⟩), (12, ⟨[], [4], [7], [9, 10], [2, 3, 4, 8, 9, 10, 11, 12]⟩), (13, r0 [2, 3, 4, 8, 9, 10, 11, 12, 58]), (14, r0 [6]), (15, r0 [2, 3, 4, 8, 9, 10, 11, 12, 63]), (16, r0 [6]), (17, r0 [2, 3, 4, 8, 9, 10, 11, 12, 13]), (18, r0 [2, 3, 4, 8, 9, 11, 12, 13]), (19, r0 [2, 3, 4, 8, 9, 11, 79]), (20, r0 [6]), (21, r0 [2, 3, 4, 8, 9, 11, 14]), (22, r0 [2, 3, 4, 8, 9, 11, 14]), (23, r0 [2, 3, 4, 8, 9, 11, 14, 15]), (24, r0 [2, 3, 4, 8, 9, 11, 14, 15]), (25, r0 [2, 3, 4, 8, 9, 11, 14, 15, 87]), (26, r0 [6]), (27, r0 [2, 3, 4, 8, 9, 11, 14, 90]), (28, r0 [6]), (29, ⟨[], [], [8], [10, 11], [8, 9, 11, 14, 16, 17]⟩), (30, r0 [11, 14, 108]), (31, r0 [6]), (32, r0 [11, 14, 15]), (33, r0 [14, 15]), (34, r0 [14, 15, 113]), (35, r0 [6]), (36, r0 [116]), (37, r0 [6]), (38, r0 [6])], []⟩
noncomputable def f4_r0 (c : CallF) : RF := rg [2, 3, 4] <| aX 3 (pBox 18 0) <|
 aX 4 (pBox 2 1) <|
 aX 6 (pM (cn (.bool false))) <|
 aXZ
noncomputable def f4_r1 (c : CallF) : RF := rg [2, 3, 4, 20] <| aX 18 (pM 2) <|
 aX 19 (pLen 9 18) <|
 aX 20 (pB .gtr 3 19 (cn (.int .i64 1048576))) <|
 aXZ
noncomputable def f4_r2 (c : CallF) : RF := rg [6] <| aX 6 (pM (cn (.bool true))) <|
 aXZ
noncomputable def f4_r3 (c : CallF) : RF := rg [2, 3, 4, 7] <| aX 7 (pM (cn (.int .i64 1048576))) <|
 aXZ
noncomputable def f4_r4 (c : CallF) : RF := rg [2, 3, 4, 7] <| aX 21 (pL true 18 3) <|
 aX 22 (pM 7) <|
 aX 23 (pK c false 6 [21, 22]) <|
 aX 7 (pM 23) <|
 aXZ
noncomputable def f4_r5 (c : CallF) : RF := rg [2, 3, 4, 7, 25] <| aX 24 (pM 7) <|
 aX 25 (pB .lss 3 24 (cn (.int .i64 0))) <|
 aXZ
noncomputable def f4_r6 (c : CallF) : RF := rg [6] <| aX 6 (pM (cn (.bool true))) <|
 aXZ
noncomputable def f4_r7 (c : CallF) : RF := rg [2, 3, 4, 7] <| aX 26 (pL true 2 4) <|
 aX 27 (pM 7) <|
 aX 28 (pK c false 11 [26, 27]) <|
 aX 7 (pM 28) <|
 aXZ
noncomputable def f4_r8 (c : CallF) : RF := rg [2, 3, 4, 30] <| aX 29 (pM 7) <|
 aX 30 (pB .lss 3 29 (cn (.int .i64 0))) <|
 aXZ
noncomputable def f4_r9 (c : CallF) : RF := rg [6] <| aX 6 (pM (cn (.bool true))) <|
 aXZ
noncomputable def f4_r10 (c : CallF) : RF := rgD [2, 3, 4, 8, 9] (aY 32 (pL true 18 3) <|
 aY 33 (pK c false 8 [32]) <|
 aY 34 (pL true 2 4) <|
 aY 35 (pK c false 13 [34]) <|
 aY 36 (pM 2) <|
 aY 37 (pK c false 12 [33, 35, 36]) <|
 aY 31 (pM 37) <|
 aY 38 (pE 0 31) <|
 aYc 39 (pE 1 31) <|
 aY 8 (pAl 43 20) <|
 aYZ)
 (aX0 (pS 20 8 38) <|
 aX 9 (pM 39) <|
 aXZ)
noncomputable def f4_r11 (c : CallF) : RF := rg [2, 3, 4, 8, 9, 10] <| aX 40 (pL true 18 3) <|
 aX 41 (pK c true 8 [40]) <|
 aX 10 (pAl 34 18) <|
 aX0 (pS 18 10 41) <|
 aXZ
noncomputable def f4_r12 (c : CallF) : RF := rgD [2, 3, 4, 8, 9, 10, 11, 12] (aY 43 (pL true 18 10) <|
 aY 44 (pL true 2 4) <|
 aY 45 (pK c false 13 [44]) <|
 aY 46 (pM 2) <|
 aY 47 (pK c true 14 [43, 45, 46]) <|
 aY 42 (pM 47) <|
 aY 48 (pE 0 42) <|
 aYc 49 (pE 1 42) <|
 aY 11 (pAl 43 20) <|
 aYZ)
 (aX0 (pS 20 11 48) <|
 aX 12 (pM 49) <|
 aXZ)
noncomputable def f4_r13 (c : CallF) : RF := rg [2, 3, 4, 8, 9, 10, 11, 12, 58] <| aX 50 (pL true 20 11) <|
 aX 51 (pL true 20 8) <|
 aX 52 (pK c false 15 [50, 51]) <|
 aX 53 (pU .not 52) <|
 aX 54 (pM 53) <|
 aX 55 (pG 54 false (pM 12)) <|
 aX 56 (pG 54 false (pM 9)) <|
 aX 57 (pG 54 false (pB .neq 2 55 56)) <|
 aX 58 (pP 54 (cn (.bool true)) 57) <|
 aXZ
noncomputable def f4_r14 (c : CallF) : RF := rg [6] <| aX 6 (pM (cn (.bool false))) <|
 aXZ
noncomputable def f4_r15 (c : CallF) : RF := rgD [2, 3, 4, 8, 9, 10, 11, 12, 63] (aY 59 (pL true 18 10) <|
 aY 60 (pL true 18 3) <|
 aY 61 (pK c false 8 [60]) <|
 aY 62 (pK c false 10 [59, 61]) <|
 aY 63 (pU .not 62) <|
 aYZ)
 (aXZ)
noncomputable def f4_r16 (c : CallF) : RF := rg [6] <| aX 6 (pM (cn (.bool false))) <|
 aXZ
noncomputable def f4_r17 (c : CallF) : RF := rg [2, 3, 4, 8, 9, 10, 11, 12, 13] <| aX 13 (pM (cn (.int .i64 1))) <|
 aXZ
noncomputable def f4_r18 (c : CallF) : RF := rg [2, 3, 4, 8, 9, 11, 12, 13] <| aX 64 (pL true 18 10) <|
 aX 65 (pM 13) <|
 aX 66 (pK c false 16 [64, 65]) <|
 aX 13 (pM 66) <|
 aXZ
noncomputable def f4_r19 (c : CallF) : RF := rg [2, 3, 4, 8, 9, 11, 79] <| aX 67 (pM 13) <|
 aX 68 (pB .lss 3 67 (cn (.int .i64 0))) <|
 aX 69 (pM 68) <|
 aX 70 (pG 69 false (pL true 20 11)) <|
 aX 71 (pG 69 false (pL true 20 8)) <|
 aX 72 (pG 69 false (pK c false 15 [70, 71])) <|
 aX 73 (pG 69 false (pU .not 72)) <|
 aX 74 (pP 69 (cn (.bool true)) 73) <|
 aX 75 (pM 74) <|
 aX 76 (pG 75 false (pM 12)) <|
 aX 77 (pG 75 false (pM 9)) <|
 aX 78 (pG 75 false (pB .neq 2 76 77)) <|
 aX 79 (pP 75 (cn (.bool true)) 78) <|
 aXZ
noncomputable def f4_r20 (c : CallF) : RF := rg [6] <| aX 6 (pM (cn (.bool false))) <|
 aXZ
noncomputable def f4_r21 (c : CallF) : RF := rg [2, 3, 4, 8, 9, 11, 14] <| aX 14 (pM (cn (.int .i64 1))) <|
 aXZ
noncomputable def f4_r22 (c : CallF) : RF := rg [2, 3, 4, 8, 9, 11, 14] <| aX 80 (pL true 20 11) <|
 aX 81 (pM 14) <|
 aX 82 (pK c false 17 [80, 81]) <|
 aX 14 (pM 82) <|
 aXZ
noncomputable def f4_r23 (c : CallF) : RF := rg [2, 3, 4, 8, 9, 11, 14, 15] <| aX 15 (pM (cn (.int .i64 1))) <|
 aXZ
noncomputable def f4_r24 (c : CallF) : RF := rg [2, 3, 4, 8, 9, 11, 14, 15] <| aX 83 (pL true 20 11) <|
 aX 84 (pM 15) <|
 aX 85 (pK c false 18 [83, 84]) <|
 aX 15 (pM 85) <|
 aXZ
noncomputable def f4_r25 (c : CallF) : RF := rg [2, 3, 4, 8, 9, 11, 14, 15, 87] <| aX 86 (pM 15) <|
 aX 87 (pB .lss 3 86 (cn (.int .i64 0))) <|
 aXZ
noncomputable def f4_r26 (c : CallF) : RF := rg [6] <| aX 6 (pM (cn (.bool false))) <|
 aXZ
noncomputable def f4_r27 (c : CallF) : RF := rg [2, 3, 4, 8, 9, 11, 14, 90] <| aX 88 (pM 15) <|
 aX 89 (pM 14) <|
 aX 90 (pB .neq 3 88 89) <|
 aXZ
noncomputable def f4_r28 (c : CallF) : RF := rg [6] <| aX 6 (pM (cn (.bool false))) <|
 aXZ
noncomputable def f4_r29 (c : CallF) : RF := rgD [8, 9, 11, 14, 16, 17] (aY 92 (pL true 18 3) <|
 aY 93 (pK c false 8 [92]) <|
 aY 94 (pL true 2 4) <|
 aY 95 (pK c false 13 [94]) <|
 aY 96 (pM 2) <|
 aY 97 (pK c false 14 [93, 95, 96]) <|
 aY 91 (pM 97) <|
 aY 98 (pE 0 91) <|
 aYc 99 (pE 1 91) <|
 aY 16 (pAl 43 20) <|
 aYZ)
 (aX0 (pS 20 16 98) <|
 aX 17 (pM 99) <|
 aXZ)
noncomputable def f4_r30 (c : CallF) : RF := rg [11, 14, 108] <| aX 100 (pL true 20 16) <|
 aX 101 (pL true 20 8) <|
 aX 102 (pK c false 15 [100, 101]) <|
 aX 103 (pU .not 102) <|
 aX 104 (pM 103) <|
 aX 105 (pG 104 false (pM 17)) <|
 aX 106 (pG 104 false (pM 9)) <|
 aX 107 (pG 104 false (pB .neq 2 105 106)) <|
 aX 108 (pP 104 (cn (.bool true)) 107) <|
 aXZ
noncomputable def f4_r31 (c : CallF) : RF := rg [6] <| aX 6 (pM (cn (.bool false))) <|
 aXZ
noncomputable def f4_r32 (c : CallF) : RF := rg [11, 14, 15] <| aX 15 (pM (cn (.int .i64 1))) <|
 aXZ
noncomputable def f4_r33 (c : CallF) : RF := rg [14, 15] <| aX 109 (pL true 20 11) <|
 aX 110 (pM 15) <|
 aX 111 (pK c false 18 [109, 110]) <|
 aX 15 (pM 111) <|
 aXZ
noncomputable def f4_r34 (c : CallF) : RF := rg [14, 15, 113] <| aX 112 (pM 15) <|
 aX 113 (pB .lss 3 112 (cn (.int .i64 0))) <|
 aXZ
noncomputable def f4_r35 (c : CallF) : RF := rg [6] <| aX 6 (pM (cn (.bool false))) <|
 aXZ
noncomputable def f4_r36 (c : CallF) : RF := rg [116] <| aX 114 (pM 15) <|
 aX 115 (pM 14) <|
 aX 116 (pB .neq 3 114 115) <|
 aXZ
noncomputable def f4_r37 (c : CallF) : RF := rg [6] <| aX 6 (pM (cn (.bool false))) <|
 aXZ
noncomputable def f4_r38 (c : CallF) : RF := rg [6] <| aX 6 (pM (cn (.bool true))) <|
 aXZ
noncomputable def f4 (c : CallF) (k : Nat) : St :=
 (bSeq (bReg (f4_r0 c))
 (bSeq (bSeq (bReg (f4_r1 c))
 (bCond (.tmp 20) (bSeq (bReg (f4_r2 c))
 (bEx .ret)) (bEx .nrm)))
 (bSeq (bReg (f4_r3 c))
 (bSeq (bReg (f4_r4 c))
 (bSeq (bSeq (bReg (f4_r5 c))
 (bCond (.tmp 25) (bSeq (bReg (f4_r6 c))
 (bEx .ret)) (bEx .nrm)))
 (bSeq (bReg (f4_r7 c))
 (bSeq (bSeq (bReg (f4_r8 c))
 (bCond (.tmp 30) (bSeq (bReg (f4_r9 c))
 (bEx .ret)) (bEx .nrm)))
 (bSeq (bReg (f4_r10 c))
 (bSeq (bReg (f4_r11 c))
 (bSeq (bReg (f4_r12 c))
 (bSeq (bSeq (bReg (f4_r13 c))
 (bCond (.tmp 58) (bSeq (bReg (f4_r14 c))
 (bEx .ret)) (bEx .nrm)))
 (bSeq (bSeq (bReg (f4_r15 c))
 (bCond (.tmp 63) (bSeq (bReg (f4_r16 c))
 (bEx .ret)) (bEx .nrm)))
 (bSeq (bReg (f4_r17 c))
 (bSeq (bReg (f4_r18 c))
 (bSeq (bSeq (bReg (f4_r19 c))
 (bCond (.tmp 79) (bSeq (bReg (f4_r20 c))
 (bEx .ret)) (bEx .nrm)))
 (bSeq (bReg (f4_r21 c))
 (bSeq (bReg (f4_r22 c))
 (bSeq (bReg (f4_r23 c))
 (bSeq (bReg (f4_r24 c))
 (bSeq (bSeq (bReg (f4_r25 c))
 (bCond (.tmp 87) (bSeq (bReg (f4_r26 c))
 (bEx .ret)) (bEx .nrm)))
 (bSeq (bSeq (bReg (f4_r27 c))
 (bCond (.tmp 90) (bSeq (bReg (f4_r28 c))
 (bEx .ret)) (bEx .nrm)))
 (bSeq (bReg (f4_r29 c))
 (bSeq (bSeq (bReg (f4_r30 c))
 (bCond (.tmp 108) (bSeq (bReg (f4_r31 c))
 (bEx .ret)) (bEx .nrm)))
 (bSeq (bReg (f4_r32 c))
 (bSeq (bReg (f4_r33 c))
 (bSeq (bSeq (bReg (f4_r34 c))
 (bCond (.tmp 113) (bSeq (bReg (f4_r35 c))
 (bEx .ret)) (bEx .nrm)))
 (bSeq (bSeq (bReg (f4_r36 c))
 (bCond (.tmp 116) (bSeq (bReg (f4_r37 c))
 (bEx .ret)) (bEx .nrm)))
 (bSeq (bReg (f4_r38 c))
 (bEx .ret)))))))))))))))))))))))))))))
theorem f4_eq (c : CallF) (k : Nat) : exec cx c 117 f4_an k (Tryd.f4.body.getD .skip) = f4 c k := by kernel_rfl
/-! ### f6: loop.example/g01263/laws.szHalf -/
def f6_an : Ann := ⟨[(0, r0 [1, 2]), (1, r0 [1]), (2, r0 [1, 10]), (3, r0 [4]), (4, r0 [4])], []⟩
noncomputable def f6_r0 (c : CallF) : RF := rg [1, 2] <| aX 2 (pBox 18 0) <|
 aX 4 (pM (cn (.int .i64 0))) <|
 aXZ
noncomputable def f6_r1 (c : CallF) : RF := rg [1] <| aX 5 (pF 1 1 2) <|
 aX 6 (pL false 1 5) <|
 aX 7 (pM 1) <|
 aX 8 (pK c false 26 [6, 7]) <|
 aX 1 (pM 8) <|
 aXZ
noncomputable def f6_r2 (c : CallF) : RF := rg [1, 10] <| aX 9 (pM 1) <|
 aX 10 (pB .lss 3 9 (cn (.int .i64 0))) <|
 aXZ
noncomputable def f6_r3 (c : CallF) : RF := rg [4] <| aX 4 (pM (cn (.int .i64 (-1)))) <|
 aXZ
noncomputable def f6_r4 (c : CallF) : RF := rg [4] <| aX 11 (pM 1) <|
 aX 4 (pM 11) <|
 aXZ
noncomputable def f6 (c : CallF) (k : Nat) : St :=
 (bSeq (bReg (f6_r0 c))
 (bSeq (bReg (f6_r1 c))
 (bSeq (bSeq (bReg (f6_r2 c))
 (bCond (.tmp 10) (bSeq (bReg (f6_r3 c))
 (bEx .ret)) (bEx .nrm)))
 (bSeq (bReg (f6_r4 c))
 (bEx .ret)))))
theorem f6_eq (c : CallF) (k : Nat) : exec cx c 12 f6_an k (Tryd.f6.body.getD .skip) = f6 c k := by kernel_rfl
/-! ### f8: loop.example/g01263/laws.toHalf -/
def f8_an : Ann := ⟨[(0, r0 [1, 2]), (1, r0 [1, 2, 3]), (2, r0 [1, 2, 3]), (3, ⟨[4], [], [], [], [1, 2, 3]⟩), (4, r0 [2, 3]), (5, ⟨[1], [], [], [], [2]⟩)], []⟩
noncomputable def f8_r0 (c : CallF) : RF := rg [1, 2] <| aX 1 (pBox 18 0) <|
 aX 2 (pAl 34 18) <|
 aXZ
noncomputable def f8_r1 (c : CallF) : RF := rg [1, 2, 3] <| aX 3 (pAl 34 18) <|
 aXZ
noncomputable def f8_r2 (c : CallF) : RF := rg [1, 2, 3] <| aX 4 (pF 0 1 1) <|
 aX 5 (pL false 1 4) <|
 aX 6 (pF 0 1 3) <|
 aX0 (pS 1 6 5) <|
 aXZ
noncomputable def f8_r3 (c : CallF) : RF := rg [1, 2, 3] <| aX 7 (pF 1 1 1) <|
 aX 8 (pL false 1 7) <|
 aX 9 (pK c false 30 [8]) <|
 aX 10 (pF 1 1 3) <|
 aX0 (pSK 1 10 9) <|
 aXZ
noncomputable def f8_r4 (c : CallF) : RF := rg [2, 3] <| aX 11 (pF 2 16 1) <|
 aX 12 (pL true 16 11) <|
 aX 13 (pK c false 31 [12]) <|
 aX 14 (pF 2 16 3) <|
 aX0 (pS 16 14 13) <|
 aXZ
noncomputable def f8_r5 (c : CallF) : RF := rg [2] <| aX 15 (pL true 18 3) <|
 aX0 (pSK 18 2 15) <|
 aXZ
noncomputable def f8 (c : CallF) (k : Nat) : St :=
 (bSeq (bReg (f8_r0 c))
 (bSeq (bReg (f8_r1 c))
 (bSeq (bReg (f8_r2 c))
 (bSeq (bReg (f8_r3 c))
 (bSeq (bReg (f8_r4 c))
 (bSeq (bReg (f8_r5 c))
 (bEx .ret)))))))
theorem f8_eq (c : CallF) (k : Nat) : exec cx c 16 f8_an k (Tryd.f8.body.getD .skip) = f8 c k := by kernel_rfl
/-! ### f10: loop.example/g01263/laws.eqHalf -/
def f10_an : Ann := ⟨[(0, r0 [2, 3]), (1, r0 [2, 3, 9]), (2, r0 [4]), (3, r0 [2, 3, 15]), (4, r0 [4]), (5, r0 [21]), (6, r0 [4]), (7, r0 [4])], []⟩
noncomputable def f10_r0 (c : CallF) : RF := rg [2, 3] <| aX 2 (pBox 18 0) <|
 aX 3 (pBox 18 1) <|
 aX 4 (pM (cn (.bool false))) <|
 aXZ
noncomputable def f10_r1 (c : CallF) : RF := rg [2, 3, 9] <| aX 5 (pF 0 1 2) <|
 aX 6 (pL false 1 5) <|
 aX 7 (pF 0 1 3) <|
 aX 8 (pL false 1 7) <|
 aX 9 (pB .neq 4 6 8) <|
 aXZ
noncomputable def f10_r2 (c : CallF) : RF := rg [4] <| aX 4 (pM (cn (.bool false))) <|
 aXZ
noncomputable def f10_r3 (c : CallF) : RF := rg [2, 3, 15] <| aX 10 (pF 1 1 2) <|
 aX 11 (pL false 1 10) <|
 aX 12 (pF 1 1 3) <|
 aX 13 (pL false 1 12) <|
 aX 14 (pK c false 35 [11, 13]) <|
 aX 15 (pU .not 14) <|
 aXZ
noncomputable def f10_r4 (c : CallF) : RF := rg [4] <| aX 4 (pM (cn (.bool false))) <|
 aXZ
noncomputable def f10_r5 (c : CallF) : RF := rg [21] <| aX 16 (pF 2 16 2) <|
 aX 17 (pL true 16 16) <|
 aX 18 (pF 2 16 3) <|
 aX 19 (pL true 16 18) <|
 aX 20 (pK c false 36 [17, 19]) <|
 aX 21 (pU .not 20) <|
 aXZ
noncomputable def f10_r6 (c : CallF) : RF := rg [4] <| aX 4 (pM (cn (.bool false))) <|
 aXZ
noncomputable def f10_r7 (c : CallF) : RF := rg [4] <| aX 4 (pM (cn (.bool true))) <|
 aXZ
noncomputable def f10 (c : CallF) (k : Nat) : St :=
 (bSeq (bReg (f10_r0 c))
 (bSeq (bSeq (bReg (f10_r1 c))
 (bCond (.tmp 9) (bSeq (bReg (f10_r2 c))
 (bEx .ret)) (bEx .nrm)))
 (bSeq (bSeq (bReg (f10_r3 c))
 (bCond (.tmp 15) (bSeq (bReg (f10_r4 c))
 (bEx .ret)) (bEx .nrm)))
 (bSeq (bSeq (bReg (f10_r5 c))
 (bCond (.tmp 21) (bSeq (bReg (f10_r6 c))
 (bEx .ret)) (bEx .nrm)))
 (bSeq (bReg (f10_r7 c))
 (bEx .ret))))))
theorem f10_eq (c : CallF) (k : Nat) : exec cx c 22 f10_an k (Tryd.f10.body.getD .skip) = f10 c k := by kernel_rfl
/-! ### f11: loop.example/g01263/laws.szParty -/
def f11_an : Ann := ⟨[(0, r0 [1, 2]), (1, r0 [1]), (2, r0 [1, 11]), (3, r0 [4]), (4, r0 [4])], []⟩
noncomputable def f11_r0 (c : CallF) : RF := rg [1, 2] <| aX 2 (pBox 2 0) <|
 aX 4 (pM (cn (.int .i64 0))) <|
 aXZ
noncomputable def f11_r1 (c : CallF) : RF := rg [1] <| aX 5 (pM 1) <|
 aX 6 (pF 0 1 2) <|
 aX 7 (pL false 1 6) <|
 aX 8 (pLen 9 7) <|
 aX 9 (pB .sub 3 5 8) <|
 aX 1 (pM 9) <|
 aXZ
noncomputable def f11_r2 (c : CallF) : RF := rg [1, 11] <| aX 10 (pM 1) <|
 aX 11 (pB .lss 3 10 (cn (.int .i64 0))) <|
 aXZ
noncomputable def f11_r3 (c : CallF) : RF := rg [4] <| aX 4 (pM (cn (.int .i64 (-1)))) <|
 aXZ
noncomputable def f11_r4 (c : CallF) : RF := rg [4] <| aX 12 (pM 1) <|
 aX 4 (pM 12) <|
 aXZ
noncomputable def f11 (c : CallF) (k : Nat) : St :=
 (bSeq (bReg (f11_r0 c))
 (bSeq (bReg (f11_r1 c))
 (bSeq (bSeq (bReg (f11_r2 c))
 (bCond (.tmp 11) (bSeq (bReg (f11_r3 c))
 (bEx .ret)) (bEx .nrm)))
 (bSeq (bReg (f11_r4 c))
 (bEx .ret)))))
theorem f11_eq (c : CallF) (k : Nat) : exec cx c 13 f11_an k (Tryd.f11.body.getD .skip) = f11 c k := by kernel_rfl
/-! ### f12: loop.example/g01263/spec.StartChain -/
def f12_an : Ann := ⟨[(0, r0 [2, 3, 4, 6]), (1, r0 [2, 3, 4, 6, 10]), (2, r0 [6, 7]), (3, r0 [2, 3, 4, 6, 14]), (4, r0 [6, 7]), (5, r0 [2, 3, 4, 6, 30]), (6, r0 [6, 7]), (7, r0 [2, 3, 4, 6, 8]), (8, ⟨[], [], [], [8, 9], [6, 7]⟩)], []⟩
noncomputable def f12_r0 (c : CallF) : RF := rg [2, 3, 4, 6] <| aX 3 (pBox 18 0) <|
 aX 4 (pBox 2 1) <|
 aX 6 (pAl 43 20) <|
 aX 7 (pM (cn (.int .i64 0))) <|
 aXZ
noncomputable def f12_r1 (c : CallF) : RF := rg [2, 3, 4, 6, 10] <| aX 9 (pK c false 27 [3]) <|
 aX 10 (pU .not 9) <|
 aXZ
noncomputable def f12_r2 (c : CallF) : RF := rg [6, 7] <| aX 11 (fun n e M => keep (aBuild (zeroOf cx.P 43) [] M)) <|
 aX0 (pS 20 6 11) <|
 aX 7 (pM (cn (.int .i64 1))) <|
 aXZ
noncomputable def f12_r3 (c : CallF) : RF := rg [2, 3, 4, 6, 14] <| aX 12 (pF 0 1 3) <|
 aX 13 (pL false 1 12) <|
 aX 14 (pU .not 13) <|
 aXZ
noncomputable def f12_r4 (c : CallF) : RF := rg [6, 7] <| aX 15 (fun n e M => keep (aBuild (zeroOf cx.P 43) [] M)) <|
 aX0 (pS 20 6 15) <|
 aX 7 (pM (cn (.int .i64 4))) <|
 aXZ
noncomputable def f12_r5 (c : CallF) : RF := rg [2, 3, 4, 6, 30] <| aX 16 (pF 0 1 4) <|
 aX 17 (pL false 1 16) <|
 aX 18 (pK c false 28 [17]) <|
 aX 19 (pU .not 18) <|
 aX 20 (pM 19) <|
 aX 21 (pG 20 false (pM 2)) <|
 aX 22 (pG 20 false (pK c false 28 [21])) <|
 aX 23 (pG 20 false (pU .not 22)) <|
 aX 24 (pP 20 (cn (.bool true)) 23) <|
 aX 25 (pM 24) <|
 aX 26 (pG 25 false (pF 0 1 4)) <|
 aX 27 (pG 25 false (pL false 1 26)) <|
 aX 28 (pG 25 false (pM 2)) <|
 aX 29 (pG 25 false (pB .eql 9 27 28)) <|
 aX 30 (pP 25 (cn (.bool true)) 29) <|
 aXZ
noncomputable def f12_r6 (c : CallF) : RF := rg [6, 7] <| aX 31 (fun n e M => keep (aBuild (zeroOf cx.P 43) [] M)) <|
 aX0 (pS 20 6 31) <|
 aX 7 (pM (cn (.int .i64 2))) <|
 aXZ
noncomputable def f12_r7 (c : CallF) : RF := rg [2, 3, 4, 6, 8] <| aX 32 (pM 2) <|
 aX 33 (pF 1 1 4) <|
 aX 34 (pL false 1 33) <|
 aX 35 (pK c false 29 [3, (cn (.int .u32 0)), 32, 34]) <|
 aX 8 (pM 35) <|
 aXZ
noncomputable def f12_r8 (c : CallF) : RF := rgD [6, 7] (aY 36 (pF 0 1 4) <|
 aY 37 (pL false 1 36) <|
 aY 38 (pK c false 37 [3]) <|
 aY 39 (pM 2) <|
 aY 40 (pM 8) <|
 aY 41 (fun n e M => keep (aBuild (zeroOf cx.P 78) [(0, 1, (eget e 39)), (1, 1, (eget e 40))] M)) <|
 aY 42 (fun n e M => keep (aLitI 78 2 [(eget e 41)] M)) <|
 aY 43 (fun n e M => keep (aBuild (zeroOf cx.P 43) [(0, 1, (eget e 37)), (1, 18, (eget e 38)), (19, 1, (eget e 42))] M)) <|
 aYZ)
 (aX0 (pS 20 6 43) <|
 aX 7 (pM (cn (.int .i64 0))) <|
 aXZ)
noncomputable def f12 (c : CallF) (k : Nat) : St :=
 (bSeq (bReg (f12_r0 c))
 (bSeq (bSeq (bReg (f12_r1 c))
 (bCond (.tmp 10) (bSeq (bReg (f12_r2 c))
 (bEx .ret)) (bEx .nrm)))
 (bSeq (bSeq (bReg (f12_r3 c))
 (bCond (.tmp 14) (bSeq (bReg (f12_r4 c))
 (bEx .ret)) (bEx .nrm)))
 (bSeq (bSeq (bReg (f12_r5 c))
 (bCond (.tmp 30) (bSeq (bReg (f12_r6 c))
 (bEx .ret)) (bEx .nrm)))
 (bSeq (bReg (f12_r7 c))
 (bSeq (bReg (f12_r8 c))
 (bEx .ret)))))))
theorem f12_eq (c : CallF) (k : Nat) : exec cx c 44 f12_an k (Tryd.f12.body.getD .skip) = f12 c k := by kernel_rfl
/-! ### f13: loop.example/g01263/laws.toParty -/
def f13_an : Ann := ⟨[(0, r0 [1, 2]), (1, r0 [1, 2, 3]), (2, r0 [1, 2, 3]), (3, r0 [2, 3]), (4, r0 [2])], []⟩
noncomputable def f13_r0 (c : CallF) : RF := rg [1, 2] <| aX 1 (pBox 2 0) <|
 aX 2 (pAl 46 2) <|
 aXZ
noncomputable def f13_r1 (c : CallF) : RF := rg [1, 2, 3] <| aX 3 (pAl 46 2) <|
 aXZ
noncomputable def f13_r2 (c : CallF) : RF := rg [1, 2, 3] <| aX 4 (pF 0 1 1) <|
 aX 5 (pL false 1 4) <|
 aX 6 (pF 0 1 3) <|
 aX0 (pS 1 6 5) <|
 aXZ
noncomputable def f13_r3 (c : CallF) : RF := rg [2, 3] <| aX 7 (pF 1 1 1) <|
 aX 8 (pL false 1 7) <|
 aX 9 (pF 1 1 3) <|
 aX0 (pS 1 9 8) <|
 aXZ
noncomputable def f13_r4 (c : CallF) : RF := rg [2] <| aX 10 (pL true 2 3) <|
 aX0 (pS 2 2 10) <|
 aXZ
noncomputable def f13 (c : CallF) (k : Nat) : St :=
 (bSeq (bReg (f13_r0 c))
 (bSeq (bReg (f13_r1 c))
 (bSeq (bReg (f13_r2 c))
 (bSeq (bReg (f13_r3 c))
 (bSeq (bReg (f13_r4 c))
 (bEx .ret))))))
theorem f13_eq (c : CallF) (k : Nat) : exec cx c 11 f13_an k (Tryd.f13.body.getD .skip) = f13 c k := by kernel_rfl
/-! ### f14: loop.example/g01263/impl.StartChain -/
def f14_an : Ann := ⟨[(0, r0 [2, 3, 4, 6]), (1, r0 [2, 3, 4, 6, 8]), (2, ⟨[1], [], [], [], [6, 7]⟩), (3, r0 [2, 3, 4, 6, 13]), (4, ⟨[1], [], [], [], [6, 7]⟩), (5, r0 [2, 3, 4, 6, 18]), (6, ⟨[1], [], [], [], [6, 7]⟩), (7, ⟨[13], [], [], [13, 14], [6, 7]⟩)], []⟩
noncomputable def f14_r0 (c : CallF) : RF := rg [2, 3, 4, 6] <| aX 3 (pBox 18 0) <|
 aX 4 (pBox 2 1) <|
 aX 6 (pAl 43 20) <|
 aX 7 (pM (cn (.int .i64 0))) <|
 aXZ
noncomputable def f14_r1 (c : CallF) : RF := rg [2, 3, 4, 6, 8] <| aX 9 (pL true 18 3) <|
 aX 10 (pK c false 32 [9]) <|
 aX 11 (pU .not 10) <|
 aX 8 (pM 11) <|
 aXZ
noncomputable def f14_r2 (c : CallF) : RF := rg [6, 7] <| aX 12 (fun n e M => keep (aBuild (zeroOf cx.P 43) [] M)) <|
 aX0 (pSK 20 6 12) <|
 aX 7 (pM (cn (.int .i64 1))) <|
 aXZ
noncomputable def f14_r3 (c : CallF) : RF := rg [2, 3, 4, 6, 13] <| aX 14 (pF 0 1 3) <|
 aX 15 (pL false 1 14) <|
 aX 16 (pU .not 15) <|
 aX 13 (pM 16) <|
 aXZ
noncomputable def f14_r4 (c : CallF) : RF := rg [6, 7] <| aX 17 (fun n e M => keep (aBuild (zeroOf cx.P 43) [] M)) <|
 aX0 (pSK 20 6 17) <|
 aX 7 (pM (cn (.int .i64 4))) <|
 aXZ
noncomputable def f14_r5 (c : CallF) : RF := rg [2, 3, 4, 6, 18] <| aX 19 (pF 0 1 4) <|
 aX 20 (pL false 1 19) <|
 aX 21 (pK c false 33 [20]) <|
 aX 22 (pU .not 21) <|
 aX 23 (pM 22) <|
 aX 24 (pG 23 false (pM 2)) <|
 aX 25 (pG 23 false (pK c false 33 [24])) <|
 aX 26 (pG 23 false (pU .not 25)) <|
 aX 27 (pP 23 (cn (.bool true)) 26) <|
 aX 28 (pM 27) <|
 aX 29 (pG 28 false (pF 0 1 4)) <|
 aX 30 (pG 28 false (pL false 1 29)) <|
 aX 31 (pG 28 false (pM 2)) <|
 aX 32 (pG 28 false (pB .eql 9 30 31)) <|
 aX 33 (pP 28 (cn (.bool true)) 32) <|
 aX 18 (pM 33) <|
 aXZ
noncomputable def f14_r6 (c : CallF) : RF := rg [6, 7] <| aX 34 (fun n e M => keep (aBuild (zeroOf cx.P 43) [] M)) <|
 aX0 (pSK 20 6 34) <|
 aX 7 (pM (cn (.int .i64 2))) <|
 aXZ
noncomputable def f14_r7 (c : CallF) : RF := rgD [6, 7] (aY 35 (pF 0 1 4) <|
 aY 36 (pL false 1 35) <|
 aY 37 (pL true 18 3) <|
 aY 38 (pK c false 38 [37]) <|
 aY 39 (pM 2) <|
 aY 40 (pL true 18 3) <|
 aY 41 (pM 2) <|
 aY 42 (pF 1 1 4) <|
 aY 43 (pL false 1 42) <|
 aY 44 (pK c false 34 [40, (cn (.int .u32 0)), 41, 43]) <|
 aY 45 (fun n e M => keep (aBuild (zeroOf cx.P 78) [(0, 1, (eget e 39)), (1, 1, (eget e 44))] M)) <|
 aY 46 (fun n e M => keep (aLitI 78 2 [(eget e 45)] M)) <|
 aY 47 (fun n e M => keep (aBuild (zeroOf cx.P 43) [(0, 1, (eget e 36)), (1, 18, (eget e 38)), (19, 1, (eget e 46))] M)) <|
 aYZ)
 (aX0 (pSK 20 6 47) <|
 aX 7 (pM (cn (.int .i64 0))) <|
 aXZ)
noncomputable def f14 (c : CallF) (k : Nat) : St :=
 (bSeq (bReg (f14_r0 c))
 (bSeq (bBlock 0 (bSeq (bReg (f14_r1 c))
 (bCond (.tmp 8) (bSeq (bReg (f14_r2 c))
 (bEx .ret)) (bSeq (bReg (f14_r3 c))
 (bCond (.tmp 13) (bSeq (bReg (f14_r4 c))
 (bEx .ret)) (bSeq (bReg (f14_r5 c))
 (bCond (.tmp 18) (bSeq (bReg (f14_r6 c))
 (bEx .ret)) (bEx .nrm))))))))
 (bSeq (bReg (f14_r7 c))
 (bEx .ret))))
theorem f14_eq (c : CallF) (k : Nat) : exec cx c 48 f14_an k (Tryd.f14.body.getD .skip) = f14 c k := by kernel_rfl
/-! ### f15: loop.example/g01263/laws.eqChain -/
def f15_an : Ann := ⟨[(0, r0 [2, 3]), (1, r0 [2, 3, 9]), (2, r0 [4]), (3, r0 [2, 3, 15]), (4, r0 [4]), (5, r0 [21]), (6, r0 [4]), (7, r0 [4])], []⟩
noncomputable def f15_r0 (c : CallF) : RF := rg [2, 3] <| aX 2 (pBox 20 0) <|
 aX 3 (pBox 20 1) <|
 aX 4 (pM (cn (.bool false))) <|
 aXZ
noncomputable def f15_r1 (c : CallF) : RF := rg [2, 3, 9] <| aX 5 (pF 0 1 2) <|
 aX 6 (pL false 1 5) <|
 aX 7 (pF 0 1 3) <|
 aX 8 (pL false 1 7) <|
 aX 9 (pB .neq 9 6 8) <|
 aXZ
noncomputable def f15_r2 (c : CallF) : RF := rg [4] <| aX 4 (pM (cn (.bool false))) <|
 aXZ
noncomputable def f15_r3 (c : CallF) : RF := rg [2, 3, 15] <| aX 10 (pF 1 18 2) <|
 aX 11 (pL true 18 10) <|
 aX 12 (pF 1 18 3) <|
 aX 13 (pL true 18 12) <|
 aX 14 (pK c false 10 [11, 13]) <|
 aX 15 (pU .not 14) <|
 aXZ
noncomputable def f15_r4 (c : CallF) : RF := rg [4] <| aX 4 (pM (cn (.bool false))) <|
 aXZ
noncomputable def f15_r5 (c : CallF) : RF := rg [21] <| aX 16 (pF 19 1 2) <|
 aX 17 (pL false 1 16) <|
 aX 18 (pF 19 1 3) <|
 aX 19 (pL false 1 18) <|
 aX 20 (pK c false 39 [17, 19]) <|
 aX 21 (pU .not 20) <|
 aXZ
noncomputable def f15_r6 (c : CallF) : RF := rg [4] <| aX 4 (pM (cn (.bool false))) <|
 aXZ
noncomputable def f15_r7 (c : CallF) : RF := rg [4] <| aX 4 (pM (cn (.bool true))) <|
 aXZ
noncomputable def f15 (c : CallF) (k : Nat) : St :=
 (bSeq (bReg (f15_r0 c))
 (bSeq (bSeq (bReg (f15_r1 c))
 (bCond (.tmp 9) (bSeq (bReg (f15_r2 c))
 (bEx .ret)) (bEx .nrm)))
 (bSeq (bSeq (bReg (f15_r3 c))
 (bCond (.tmp 15) (bSeq (bReg (f15_r4 c))
 (bEx .ret)) (bEx .nrm)))
 (bSeq (bSeq (bReg (f15_r5 c))
 (bCond (.tmp 21) (bSeq (bReg (f15_r6 c))
 (bEx .ret)) (bEx .nrm)))
 (bSeq (bReg (f15_r7 c))
 (bEx .ret))))))
theorem f15_eq (c : CallF) (k : Nat) : exec cx c 22 f15_an k (Tryd.f15.body.getD .skip) = f15 c k := by kernel_rfl
/-! ### f16: loop.example/g01263/laws.markHalf -/
def f16_an : Ann := ⟨[(0, ⟨[0], [], [], [], [1, 2]⟩), (1, r0 [1]), (2, r0 [4])], []⟩
noncomputable def f16_r0 (c : CallF) : RF := rg [1, 2] <| aX 2 (fun n e M => aBoxO n 34 18 (eget e 0) M) <|
 aX 4 (pM (cn (.int .i64 0))) <|
 aXZ
noncomputable def f16_r1 (c : CallF) : RF := rg [1] <| aX 5 (pF 1 1 2) <|
 aX 6 (pL false 1 5) <|
 aX 7 (pM 1) <|
 aX 8 (pK c false 40 [6, 7]) <|
 aX 1 (pM 8) <|
 aXZ
noncomputable def f16_r2 (c : CallF) : RF := rg [4] <| aX 9 (pM 1) <|
 aX 4 (pM 9) <|
 aXZ
noncomputable def f16 (c : CallF) (k : Nat) : St :=
 (bSeq (bReg (f16_r0 c))
 (bSeq (bReg (f16_r1 c))
 (bSeq (bReg (f16_r2 c))
 (bEx .ret))))
theorem f16_eq (c : CallF) (k : Nat) : exec cx c 10 f16_an k (Tryd.f16.body.getD .skip) = f16 c k := by kernel_rfl
/-! ### f17: loop.example/g01263/laws.markChain -/
def f17_an : Ann := ⟨[(0, ⟨[0], [], [], [], [1, 2]⟩), (1, r0 [1, 2]), (2, r0 [1]), (3, r0 [4])], []⟩
noncomputable def f17_r0 (c : CallF) : RF := rg [1, 2] <| aX 2 (fun n e M => aBoxO n 43 20 (eget e 0) M) <|
 aX 4 (pM (cn (.int .i64 0))) <|
 aXZ
noncomputable def f17_r1 (c : CallF) : RF := rg [1, 2] <| aX 5 (pF 1 18 2) <|
 aX 6 (pL true 18 5) <|
 aX 7 (pM 1) <|
 aX 8 (pK c false 16 [6, 7]) <|
 aX 1 (pM 8) <|
 aXZ
noncomputable def f17_r2 (c : CallF) : RF := rg [1] <| aX 9 (pF 19 1 2) <|
 aX 10 (pL false 1 9) <|
 aX 11 (pM 1) <|
 aX 12 (pK c false 41 [10, 11]) <|
 aX 1 (pM 12) <|
 aXZ
noncomputable def f17_r3 (c : CallF) : RF := rg [4] <| aX 13 (pM 1) <|
 aX 4 (pM 13) <|
 aXZ
noncomputable def f17 (c : CallF) (k : Nat) : St :=
 (bSeq (bReg (f17_r0 c))
 (bSeq (bReg (f17_r1 c))
 (bSeq (bReg (f17_r2 c))
 (bSeq (bReg (f17_r3 c))
 (bEx .ret)))))
theorem f17_eq (c : CallF) (k : Nat) : exec cx c 14 f17_an k (Tryd.f17.body.getD .skip) = f17 c k := by kernel_rfl
/-! ### f18: loop.example/g01263/laws.heldChain -/
def f18_an : Ann := ⟨[(0, r0 [1, 2]), (1, r0 [1, 2]), (2, r0 [1, 2, 10]), (3, r0 [4]), (4, r0 [1]), (5, r0 [1, 16]), (6, r0 [4]), (7, r0 [4])], []⟩
noncomputable def f18_r0 (c : CallF) : RF := rg [1, 2] <| aX 2 (pBox 20 0) <|
 aX 4 (pM (cn (.int .i64 0))) <|
 aXZ
noncomputable def f18_r1 (c : CallF) : RF := rg [1, 2] <| aX 5 (pF 1 18 2) <|
 aX 6 (pL true 18 5) <|
 aX 7 (pM 1) <|
 aX 8 (pK c false 42 [6, 7]) <|
 aX 1 (pM 8) <|
 aXZ
noncomputable def f18_r2 (c : CallF) : RF := rg [1, 2, 10] <| aX 9 (pM 1) <|
 aX 10 (pB .lss 3 9 (cn (.int .i64 0))) <|
 aXZ
noncomputable def f18_r3 (c : CallF) : RF := rg [4] <| aX 4 (pM (cn (.int .i64 (-1)))) <|
 aXZ
noncomputable def f18_r4 (c : CallF) : RF := rg [1] <| aX 11 (pF 19 1 2) <|
 aX 12 (pL false 1 11) <|
 aX 13 (pM 1) <|
 aX 14 (pK c false 43 [12, 13]) <|
 aX 1 (pM 14) <|
 aXZ
noncomputable def f18_r5 (c : CallF) : RF := rg [1, 16] <| aX 15 (pM 1) <|
 aX 16 (pB .lss 3 15 (cn (.int .i64 0))) <|
 aXZ
noncomputable def f18_r6 (c : CallF) : RF := rg [4] <| aX 4 (pM (cn (.int .i64 (-1)))) <|
 aXZ
noncomputable def f18_r7 (c : CallF) : RF := rg [4] <| aX 17 (pM 1) <|
 aX 4 (pM 17) <|
 aXZ
noncomputable def f18 (c : CallF) (k : Nat) : St :=
 (bSeq (bReg (f18_r0 c))
 (bSeq (bReg (f18_r1 c))
 (bSeq (bSeq (bReg (f18_r2 c))
 (bCond (.tmp 10) (bSeq (bReg (f18_r3 c))
 (bEx .ret)) (bEx .nrm)))
 (bSeq (bReg (f18_r4 c))
 (bSeq (bSeq (bReg (f18_r5 c))
 (bCond (.tmp 16) (bSeq (bReg (f18_r6 c))
 (bEx .ret)) (bEx .nrm)))
 (bSeq (bReg (f18_r7 c))
 (bEx .ret)))))))
theorem f18_eq (c : CallF) (k : Nat) : exec cx c 18 f18_an k (Tryd.f18.body.getD .skip) = f18 c k := by kernel_rfl
/-! ### f26: loop.example/g01263/laws.szNotchS -/
def f26_an : Ann := ⟨[(0, r0 [0, 1]), (1, r0 [1]), (2, r0 [1, 10]), (3, r0 [4]), (4, r0 [4])], []⟩
noncomputable def f26_r0 (c : CallF) : RF := rg [0, 1] <| aX 4 (pM (cn (.int .i64 0))) <|
 aXZ
noncomputable def f26_r1 (c : CallF) : RF := rg [1] <| aX 5 (pM 1) <|
 aX 6 (pM 0) <|
 aX 7 (pLen 22 6) <|
 aX 8 (pB .sub 3 5 7) <|
 aX 1 (pM 8) <|
 aXZ
noncomputable def f26_r2 (c : CallF) : RF := rg [1, 10] <| aX 9 (pM 1) <|
 aX 10 (pB .lss 3 9 (cn (.int .i64 0))) <|
 aXZ
noncomputable def f26_r3 (c : CallF) : RF := rg [4] <| aX 4 (pM (cn (.int .i64 (-1)))) <|
 aXZ
noncomputable def f26_r4 (c : CallF) : RF := rg [4] <| aX 11 (pM 1) <|
 aX 4 (pM 11) <|
 aXZ
noncomputable def f26 (c : CallF) (k : Nat) : St :=
 (bSeq (bReg (f26_r0 c))
 (bSeq (bReg (f26_r1 c))
 (bSeq (bSeq (bReg (f26_r2 c))
 (bCond (.tmp 10) (bSeq (bReg (f26_r3 c))
 (bEx .ret)) (bEx .nrm)))
 (bSeq (bReg (f26_r4 c))
 (bEx .ret)))))
theorem f26_eq (c : CallF) (k : Nat) : exec cx c 12 f26_an k (Tryd.f26.body.getD .skip) = f26 c k := by kernel_rfl
/-! ### f27: loop.example/g01263/spec.l01Ok -/
def f27_an : Ann := ⟨[(0, r0 [0]), (1, r0 [2])], []⟩
noncomputable def f27_r0 (c : CallF) : RF := rg [0] <| aX 2 (pM (cn (.bool false))) <|
 aXZ
noncomputable def f27_r1 (c : CallF) : RF := rg [2] <| aX 3 (pM 0) <|
 aX 4 (pN 3) <|
 aX 5 (pF 1 1 4) <|
 aX 6 (pL false 1 5) <|
 aX 7 (pK c false 53 [6]) <|
 aX 8 (pM 7) <|
 aX 9 (pG 8 true (pM 0)) <|
 aX 10 (pG 8 true (pN 9)) <|
 aX 11 (pG 8 true (pF 2 16 10)) <|
 aX 12 (pG 8 true (pL true 16 11)) <|
 aX 13 (pG 8 true (pK c false 54 [12])) <|
 aX 14 (pP 8 13 (cn (.bool false))) <|
 aX 2 (pM 14) <|
 aXZ
noncomputable def f27 (c : CallF) (k : Nat) : St :=
 (bSeq (bReg (f27_r0 c))
 (bSeq (bReg (f27_r1 c))
 (bEx .ret)))
theorem f27_eq (c : CallF) (k : Nat) : exec cx c 15 f27_an k (Tryd.f27.body.getD .skip) = f27 c k := by kernel_rfl
/-! ### f28: loop.example/g01263/spec.l06Name -/
def f28_an : Ann := ⟨[(0, r0 [0]), (1, r0 [0, 3]), (2, r0 [0, 3, 7]), (3, r0 [0, 3]), (4, r0 [0, 3, 19]), (5, r0 [2]), (6, r0 [2])], [(2, [0, 3])]⟩
noncomputable def f28_r0 (c : CallF) : RF := rg [0] <| aX 2 (pM (cn (.bool false))) <|
 aXZ
noncomputable def f28_r1 (c : CallF) : RF := rg [0, 3] <| aX 3 (pM (cn (.int .i64 0))) <|
 aXZ
noncomputable def f28_r2 (c : CallF) : RF := rg [0, 3, 7] <| aX 4 (pM 3) <|
 aX 5 (pM 0) <|
 aX 6 (pLen 9 5) <|
 aX 7 (pB .lss 3 4 6) <|
 aXZ
noncomputable def f28_r3 (c : CallF) : RF := rg [0, 3] <| aX 8 (pM 3) <|
 aX 9 (pB .add 3 8 (cn (.int .i64 1))) <|
 aX 3 (pM 9) <|
 aXZ
noncomputable def f28_r4 (c : CallF) : RF := rg [0, 3, 19] <| aX 10 (pM 0) <|
 aX 11 (pM 3) <|
 aX 12 (fun n e M => keep (aIndexB (eget e 10) (eget e 11))) <|
 aX 13 (pB .lss 5 12 (cn (.int .u8 97))) <|
 aX 14 (pM 13) <|
 aX 15 (pG 14 false (pM 0)) <|
 aX 16 (pG 14 false (pM 3)) <|
 aX 17 (pG 14 false (fun n e M => keep (aIndexB (eget e 15) (eget e 16)))) <|
 aX 18 (pG 14 false (pB .gtr 5 17 (cn (.int .u8 122)))) <|
 aX 19 (pP 14 (cn (.bool true)) 18) <|
 aXZ
noncomputable def f28_r5 (c : CallF) : RF := rg [2] <| aX 2 (pM (cn (.bool false))) <|
 aXZ
noncomputable def f28_r6 (c : CallF) : RF := rg [2] <| aX 20 (pM 0) <|
 aX 21 (pB .neq 9 20 (cn (.str []))) <|
 aX 22 (pM 21) <|
 aX 23 (pG 22 true (pM 0)) <|
 aX 24 (pG 22 true (pLen 9 23)) <|
 aX 25 (pG 22 true (pB .leq 3 24 (cn (.int .i64 12)))) <|
 aX 26 (pP 22 25 (cn (.bool false))) <|
 aX 2 (pM 26) <|
 aXZ
noncomputable def f28_l2 (c : CallF) (k : Nat) : St :=
 (bSeq (bSeq (bReg (f28_r2 c))
 (bCond (.tmp 7) (bEx .nrm) (bEx (.ext 0))))
 (bSeq (bBlock 1 (bSeq (bReg (f28_r4 c))
 (bCond (.tmp 19) (bSeq (bReg (f28_r5 c))
 (bEx .ret)) (bEx .nrm))))
 (bReg (f28_r3 c))))
noncomputable def f28 (c : CallF) (k : Nat) : St :=
 (bSeq (bReg (f28_r0 c))
 (bSeq (bSeq (bReg (f28_r1 c))
 (bBlock 0 (bLoop [0, 3] (f28_l2 c k) k)))
 (bSeq (bReg (f28_r6 c))
 (bEx .ret))))
theorem f28_eq (c : CallF) (k : Nat) : exec cx c 27 f28_an k (Tryd.f28.body.getD .skip) = f28 c k := by kernel_rfl
/-! ### f29: loop.example/g01263/spec.l06Seal -/
def f29_an : Ann := ⟨[(0, r0 [0, 1, 2, 3]), (1, r0 [1, 2, 3, 9]), (2, r0 [2, 3, 9]), (3, r0 [3, 9]), (4, r0 [8])], []⟩
noncomputable def f29_r0 (c : CallF) : RF := rg [0, 1, 2, 3] <| aX 8 (pM (cn (.int .u32 0))) <|
 aXZ
noncomputable def f29_r1 (c : CallF) : RF := rg [1, 2, 3, 9] <| aX 10 (pM 0) <|
 aX 11 (pK c false 56 [10]) <|
 aX 12 (pK c false 55 [(cn (.int .u32 2166136261)), 11]) <|
 aX 9 (pM 12) <|
 aXZ
noncomputable def f29_r2 (c : CallF) : RF := rg [2, 3, 9] <| aX 13 (pM 9) <|
 aX 14 (pM 1) <|
 aX 15 (pK c false 57 [13, 14]) <|
 aX 9 (pM 15) <|
 aXZ
noncomputable def f29_r3 (c : CallF) : RF := rg [3, 9] <| aX 16 (pM 9) <|
 aX 17 (pM 2) <|
 aX 18 (pK c false 55 [16, 17]) <|
 aX 9 (pM 18) <|
 aXZ
noncomputable def f29_r4 (c : CallF) : RF := rg [8] <| aX 19 (pM 9) <|
 aX 20 (pM 3) <|
 aX 21 (pK c false 57 [19, 20]) <|
 aX 8 (pM 21) <|
 aXZ
noncomputable def f29 (c : CallF) (k : Nat) : St :=
 (bSeq (bReg (f29_r0 c))
 (bSeq (bReg (f29_r1 c))
 (bSeq (bReg (f29_r2 c))
 (bSeq (bReg (f29_r3 c))
 (bSeq (bReg (f29_r4 c))
 (bEx .ret))))))
theorem f29_eq (c : CallF) (k : Nat) : exec cx c 22 f29_an k (Tryd.f29.body.getD .skip) = f29 c k := by kernel_rfl
/-! ### f30: loop.example/g01263/laws.toNotchS -/
def f30_an : Ann := ⟨[(0, r0 [0]), (1, r0 [0, 3]), (2, r0 [0, 3, 4]), (3, r0 [0, 3, 4, 11]), (4, r0 [0, 3, 4]), (5, r0 [0, 3, 4]), (6, r0 [2])], [(3, [0, 3, 4])]⟩
noncomputable def f30_r0 (c : CallF) : RF := rg [0] <| aX 2 (pM (cn .nils)) <|
 aXZ
noncomputable def f30_r1 (c : CallF) : RF := rg [0, 3] <| aX 5 (pM 0) <|
 aX 6 (pLen 22 5) <|
 aX 7 (fun n e M => aMakeO n 99 2 4 (zeroOf cx.P 99) (eget e 6) (eget e 6)) <|
 aX 3 (pM 7) <|
 aXZ
noncomputable def f30_r2 (c : CallF) : RF := rg [0, 3, 4] <| aX 4 (pM (cn (.int .i64 0))) <|
 aXZ
noncomputable def f30_r3 (c : CallF) : RF := rg [0, 3, 4, 11] <| aX 8 (pM 4) <|
 aX 9 (pM 0) <|
 aX 10 (pLen 22 9) <|
 aX 11 (pB .lss 3 8 10) <|
 aXZ
noncomputable def f30_r4 (c : CallF) : RF := rg [0, 3, 4] <| aX 12 (pM 4) <|
 aX 13 (pB .add 3 12 (cn (.int .i64 1))) <|
 aX 4 (pM 13) <|
 aXZ
noncomputable def f30_r5 (c : CallF) : RF := rg [0, 3, 4] <| aX 14 (pM 3) <|
 aX 15 (pM 4) <|
 aX 16 (pM 0) <|
 aX 17 (pM 4) <|
 aX 18 (pI 2 16 17) <|
 aX 19 (pL true 2 18) <|
 aX 20 (pK c false 58 [19]) <|
 aX 21 (pI 2 14 15) <|
 aX0 (pS 2 21 20) <|
 aXZ
noncomputable def f30_r6 (c : CallF) : RF := rg [2] <| aX 22 (pM 3) <|
 aX 2 (pM 22) <|
 aXZ
noncomputable def f30_l3 (c : CallF) (k : Nat) : St :=
 (bSeq (bSeq (bReg (f30_r3 c))
 (bCond (.tmp 11) (bEx .nrm) (bEx (.ext 0))))
 (bSeq (bBlock 1 (bReg (f30_r5 c)))
 (bReg (f30_r4 c))))
noncomputable def f30 (c : CallF) (k : Nat) : St :=
 (bSeq (bReg (f30_r0 c))
 (bSeq (bReg (f30_r1 c))
 (bSeq (bSeq (bReg (f30_r2 c))
 (bBlock 0 (bLoop [0, 3, 4] (f30_l3 c k) k)))
 (bSeq (bReg (f30_r6 c))
 (bEx .ret)))))
theorem f30_eq (c : CallF) (k : Nat) : exec cx c 23 f30_an k (Tryd.f30.body.getD .skip) = f30 c k := by kernel_rfl
/-! ### f31: loop.example/g01263/laws.toGrain -/
def f31_an : Ann := ⟨[(0, r0 [1, 2]), (1, r0 [1, 2, 3]), (2, r0 [1, 2, 3, 4]), (3, r0 [1, 2, 3, 4, 6]), (4, r0 [1, 2, 3, 4]), (5, r0 [1, 2, 3, 4]), (6, r0 [2])], [(3, [1, 2, 3, 4])]⟩
noncomputable def f31_r0 (c : CallF) : RF := rg [1, 2] <| aX 1 (pBox 16 0) <|
 aX 2 (pAl 32 16) <|
 aXZ
noncomputable def f31_r1 (c : CallF) : RF := rg [1, 2, 3] <| aX 3 (pAl 32 16) <|
 aXZ
noncomputable def f31_r2 (c : CallF) : RF := rg [1, 2, 3, 4] <| aX 4 (pM (cn (.int .i64 0))) <|
 aXZ
noncomputable def f31_r3 (c : CallF) : RF := rg [1, 2, 3, 4, 6] <| aX 5 (pM 4) <|
 aX 6 (pB .lss 3 5 (cn (.int .i64 16))) <|
 aXZ
noncomputable def f31_r4 (c : CallF) : RF := rg [1, 2, 3, 4] <| aX 7 (pM 4) <|
 aX 8 (pB .add 3 7 (cn (.int .i64 1))) <|
 aX 4 (pM 8) <|
 aXZ
noncomputable def f31_r5 (c : CallF) : RF := rg [1, 2, 3, 4] <| aX 9 (pM 4) <|
 aX 10 (pM 4) <|
 aX 11 (fun n e M => keep (aIndexP 16 1 (eget e 1) (eget e 10) M)) <|
 aX 12 (pL false 1 11) <|
 aX 13 (fun n e M => keep (aIndexP 16 1 (eget e 3) (eget e 9) M)) <|
 aX0 (pS 1 13 12) <|
 aXZ
noncomputable def f31_r6 (c : CallF) : RF := rg [2] <| aX 14 (pL true 16 3) <|
 aX0 (pS 16 2 14) <|
 aXZ
noncomputable def f31_l3 (c : CallF) (k : Nat) : St :=
 (bSeq (bSeq (bReg (f31_r3 c))
 (bCond (.tmp 6) (bEx .nrm) (bEx (.ext 0))))
 (bSeq (bBlock 1 (bReg (f31_r5 c)))
 (bReg (f31_r4 c))))
noncomputable def f31 (c : CallF) (k : Nat) : St :=
 (bSeq (bReg (f31_r0 c))
 (bSeq (bReg (f31_r1 c))
 (bSeq (bSeq (bReg (f31_r2 c))
 (bBlock 0 (bLoop [1, 2, 3, 4] (f31_l3 c k) k)))
 (bSeq (bReg (f31_r6 c))
 (bEx .ret)))))
theorem f31_eq (c : CallF) (k : Nat) : exec cx c 15 f31_an k (Tryd.f31.body.getD .skip) = f31 c k := by kernel_rfl
/-! ### f32: loop.example/g01263/impl.ValidHalf -/
def f32_an : Ann := ⟨[(0, r0 [1]), (1, r0 [1, 14]), (2, r0 [2]), (3, r0 [1, 16, 17, 18]), (4, r0 [1, 16, 17, 18, 19]), (5, r0 [1, 3, 4, 16, 17, 18]), (6, r0 [1, 3, 4, 16, 17, 18, 37]), (7, r0 [2]), (8, r0 [1, 16, 17, 18, 64]), (9, r0 [2]), (10, r0 [1, 16, 17, 18]), (11, r0 [2])], [(4, [1, 16, 17, 18])]⟩
noncomputable def f32_r0 (c : CallF) : RF := rg [1] <| aX 1 (pBox 18 0) <|
 aX 2 (pM (cn (.bool false))) <|
 aXZ
noncomputable def f32_r1 (c : CallF) : RF := rg [1, 14] <| aX 5 (pF 1 1 1) <|
 aX 6 (pL false 1 5) <|
 aX 7 (pLen 31 6) <|
 aX 8 (pB .gtr 3 7 (cn (.int .i64 60))) <|
 aX 9 (pM 8) <|
 aX 10 (pG 9 false (pF 2 16 1)) <|
 aX 11 (pG 9 false (pL true 16 10)) <|
 aX 12 (pG 9 false (pK c false 59 [11])) <|
 aX 13 (pG 9 false (pU .not 12)) <|
 aX 14 (pP 9 (cn (.bool true)) 13) <|
 aXZ
noncomputable def f32_r2 (c : CallF) : RF := rg [2] <| aX 2 (pM (cn (.bool false))) <|
 aXZ
noncomputable def f32_r3 (c : CallF) : RF := rg [1, 16, 17, 18] <| aX 15 (pF 1 1 1) <|
 aX 16 (pL false 1 15) <|
 aX 17 (pLen 31 16) <|
 aX 18 (pM (cn (.int .i64 0))) <|
 aXZ
noncomputable def f32_r4 (c : CallF) : RF := rg [1, 16, 17, 18, 19] <| aX 19 (pB .lss 3 18 17) <|
 aXZ
noncomputable def f32_r5 (c : CallF) : RF := rg [1, 3, 4, 16, 17, 18] <| aX 20 (pM 18) <|
 aX 21 (pI 2 16 18) <|
 aX 22 (pL true 2 21) <|
 aX 4 (pAl 99 2) <|
 aX 3 (pM 20) <|
 aX0 (pS 2 4 22) <|
 aXZ
noncomputable def f32_r6 (c : CallF) : RF := rg [1, 3, 4, 16, 17, 18, 37] <| aX 23 (pF 0 1 4) <|
 aX 24 (pL false 1 23) <|
 aX 25 (fun n e M => keep (aConvI .i64 (eget e 24))) <|
 aX 26 (pK c false 60 [25]) <|
 aX 27 (pU .not 26) <|
 aX 28 (pM 27) <|
 aX 29 (pG 28 false (pF 1 1 4)) <|
 aX 30 (pG 28 false (pL false 1 29)) <|
 aX 31 (pG 28 false (pB .lss 97 30 (cn (.int .i16 0)))) <|
 aX 32 (pP 28 (cn (.bool true)) 31) <|
 aX 33 (pM 32) <|
 aX 34 (pG 33 false (pL true 2 4)) <|
 aX 35 (pG 33 false (pK c false 61 [34])) <|
 aX 36 (pG 33 false (pB .gtr 2 35 (cn (.int .i64 200)))) <|
 aX 37 (pP 33 (cn (.bool true)) 36) <|
 aXZ
noncomputable def f32_r7 (c : CallF) : RF := rg [2] <| aX 2 (pM (cn (.bool false))) <|
 aXZ
noncomputable def f32_r8 (c : CallF) : RF := rgD [1, 16, 17, 18, 64] (aY 38 (pM 3) <|
 aY 39 (pB .gtr 3 38 (cn (.int .i64 0))) <|
 aY 40 (pM 39) <|
 aY 41 (pG 40 true (pF 1 1 4)) <|
 aY 42 (pG 40 true (pL false 1 41)) <|
 aY 43 (pG 40 true (fun n e M => keep (aConvI .i64 (eget e 42)))) <|
 aY 44 (pG 40 true (pF 1 1 1)) <|
 aY 45 (pG 40 true (pL false 1 44)) <|
 aY 46 (pG 40 true (pM 3)) <|
 aY 47 (pG 40 true (pB .sub 3 46 (cn (.int .i64 1)))) <|
 aY 48 (pG 40 true (pI 2 45 47)) <|
 aY 49 (pG 40 true (pL true 2 48)) <|
 aY 50 (pG 40 true (pK c false 61 [49])) <|
 aY 51 (pG 40 true (pB .leq 2 43 50)) <|
 aY 52 (pG 40 true (pM 51)) <|
 aY 53 (pG 52 false (pF 0 1 4)) <|
 aY 54 (pG 52 false (pL false 1 53)) <|
 aY 55 (pG 52 false (pF 1 1 1)) <|
 aY 56 (pG 52 false (pL false 1 55)) <|
 aY 57 (pG 52 false (pM 3)) <|
 aY 58 (pG 52 false (pB .sub 3 57 (cn (.int .i64 1)))) <|
 aY 59 (pG 52 false (pI 2 56 58)) <|
 aY 60 (pG 52 false (pF 0 1 59)) <|
 aY 61 (pG 52 false (pL false 1 60)) <|
 aY 62 (pG 52 false (pB .gtr 23 54 61)) <|
 aY 63 (pG 40 true (pP 52 (cn (.bool true)) 62)) <|
 aY 64 (pP 40 63 (cn (.bool false))) <|
 aYZ)
 (aXZ)
noncomputable def f32_r9 (c : CallF) : RF := rg [2] <| aX 2 (pM (cn (.bool false))) <|
 aXZ
noncomputable def f32_r10 (c : CallF) : RF := rg [1, 16, 17, 18] <| aX 65 (pB .add 3 18 (cn (.int .i64 1))) <|
 aX 18 (pM 65) <|
 aXZ
noncomputable def f32_r11 (c : CallF) : RF := rg [2] <| aX 2 (pM (cn (.bool true))) <|
 aXZ
noncomputable def f32_l4 (c : CallF) (k : Nat) : St :=
 (bSeq (bReg (f32_r4 c))
 (bSeq (bCond (.tmp 19) (bEx .nrm) (bEx (.ext 0)))
 (bSeq (bBlock 1 (bSeq (bReg (f32_r5 c))
 (bSeq (bSeq (bReg (f32_r6 c))
 (bCond (.tmp 37) (bSeq (bReg (f32_r7 c))
 (bEx .ret)) (bEx .nrm)))
 (bSeq (bReg (f32_r8 c))
 (bCond (.tmp 64) (bSeq (bReg (f32_r9 c))
 (bEx .ret)) (bEx .nrm))))))
 (bReg (f32_r10 c)))))
noncomputable def f32 (c : CallF) (k : Nat) : St :=
 (bSeq (bReg (f32_r0 c))
 (bSeq (bSeq (bReg (f32_r1 c))
 (bCond (.tmp 14) (bSeq (bReg (f32_r2 c))
 (bEx .ret)) (bEx .nrm)))
 (bSeq (bSeq (bReg (f32_r3 c))
 (bBlock 0 (bLoop [1, 16, 17, 18] (f32_l4 c k) k)))
 (bSeq (bReg (f32_r11 c))
 (bEx .ret)))))
theorem f32_eq (c : CallF) (k : Nat) : exec cx c 66 f32_an k (Tryd.f32.body.getD .skip) = f32 c k := by kernel_rfl
/-! ### f33: loop.example/g01263/impl.isName -/
def f33_an : Ann := ⟨[(0, r0 [0]), (1, r0 [2])], []⟩
noncomputable def f33_r0 (c : CallF) : RF := rg [0] <| aX 2 (pM (cn (.bool false))) <|
 aXZ
noncomputable def f33_r1 (c : CallF) : RF := rg [2] <| aX 3 (pM 0) <|
 aX 4 (pK c false 62 [3, (cn (.int .i64 12))]) <|
 aX 2 (pM 4) <|
 aXZ
noncomputable def f33 (c : CallF) (k : Nat) : St :=
 (bSeq (bReg (f33_r0 c))
 (bSeq (bReg (f33_r1 c))
 (bEx .ret)))
theorem f33_eq (c : CallF) (k : Nat) : exec cx c 5 f33_an k (Tryd.f33.body.getD .skip) = f33 c k := by kernel_rfl
/-! ### f34: loop.example/g01263/impl.seal -/
def f34_an : Ann := ⟨[(0, r0 [1, 2, 3, 4]), (1, r0 [1, 2, 3, 4, 9]), (2, r0 [9, 10]), (3, r0 [9, 10, 23, 24]), (4, r0 [9, 10, 23, 24, 25]), (5, r0 [9, 10, 11, 23, 24]), (6, r0 [9, 10, 23, 24]), (7, r0 [9, 10, 23, 24]), (8, r0 [8])], [(4, [9, 10, 23, 24])]⟩
noncomputable def f34_r0 (c : CallF) : RF := rg [1, 2, 3, 4] <| aX 4 (pBox 18 0) <|
 aX 8 (pM (cn (.int .u32 0))) <|
 aXZ
noncomputable def f34_r1 (c : CallF) : RF := rg [1, 2, 3, 4, 9] <| aX 9 (pM (cn (.int .u32 2166136261))) <|
 aXZ
noncomputable def f34_r2 (c : CallF) : RF := rg [9, 10] <| aX 12 (pL true 18 4) <|
 aX 13 (pK c false 63 [12]) <|
 aX 14 (pM 1) <|
 aX 15 (pK c false 64 [14]) <|
 aX 16 (pB .add 9 13 15) <|
 aX 17 (pM 2) <|
 aX 18 (pB .add 9 16 17) <|
 aX 19 (pM 3) <|
 aX 20 (pK c false 64 [19]) <|
 aX 21 (pB .add 9 18 20) <|
 aX 10 (pM 21) <|
 aXZ
noncomputable def f34_r3 (c : CallF) : RF := rg [9, 10, 23, 24] <| aX 22 (pM 10) <|
 aX 23 (pLen 9 22) <|
 aX 24 (pM (cn (.int .i64 0))) <|
 aXZ
noncomputable def f34_r4 (c : CallF) : RF := rg [9, 10, 23, 24, 25] <| aX 25 (pB .lss 3 24 23) <|
 aXZ
noncomputable def f34_r5 (c : CallF) : RF := rg [9, 10, 11, 23, 24] <| aX 26 (pM 24) <|
 aX 11 (pM 26) <|
 aXZ
noncomputable def f34_r6 (c : CallF) : RF := rg [9, 10, 23, 24] <| aX 27 (pM 9) <|
 aX 28 (pM 10) <|
 aX 29 (pM 11) <|
 aX 30 (fun n e M => keep (aIndexB (eget e 28) (eget e 29))) <|
 aX 31 (fun n e M => keep (aConvI .u32 (eget e 30))) <|
 aX 32 (pB .xor 27 27 31) <|
 aX 33 (pB .mul 27 32 (cn (.int .u32 16777619))) <|
 aX 9 (pM 33) <|
 aXZ
noncomputable def f34_r7 (c : CallF) : RF := rg [9, 10, 23, 24] <| aX 34 (pB .add 3 24 (cn (.int .i64 1))) <|
 aX 24 (pM 34) <|
 aXZ
noncomputable def f34_r8 (c : CallF) : RF := rg [8] <| aX 35 (pM 9) <|
 aX 8 (pM 35) <|
 aXZ
noncomputable def f34_l4 (c : CallF) (k : Nat) : St :=
 (bSeq (bReg (f34_r4 c))
 (bSeq (bCond (.tmp 25) (bEx .nrm) (bEx (.ext 0)))
 (bSeq (bBlock 1 (bSeq (bReg (f34_r5 c))
 (bReg (f34_r6 c))))
 (bReg (f34_r7 c)))))
noncomputable def f34 (c : CallF) (k : Nat) : St :=
 (bSeq (bReg (f34_r0 c))
 (bSeq (bReg (f34_r1 c))
 (bSeq (bReg (f34_r2 c))
 (bSeq (bSeq (bReg (f34_r3 c))
 (bBlock 0 (bLoop [9, 10, 23, 24] (f34_l4 c k) k)))
 (bSeq (bReg (f34_r8 c))
 (bEx .ret))))))
theorem f34_eq (c : CallF) (k : Nat) : exec cx c 36 f34_an k (Tryd.f34.body.getD .skip) = f34 c k := by kernel_rfl
/-! ### f35: loop.example/g01263/laws.eqNotchS -/
def f35_an : Ann := ⟨[(0, r0 [0, 1]), (1, r0 [0, 1, 10]), (2, r0 [4]), (3, r0 [0, 1, 5]), (4, r0 [0, 1, 5, 14]), (5, r0 [0, 1, 5]), (6, r0 [0, 1, 5, 26]), (7, r0 [4]), (8, r0 [4])], [(4, [0, 1, 5])]⟩
noncomputable def f35_r0 (c : CallF) : RF := rg [0, 1] <| aX 4 (pM (cn (.bool false))) <|
 aXZ
noncomputable def f35_r1 (c : CallF) : RF := rg [0, 1, 10] <| aX 6 (pM 0) <|
 aX 7 (pLen 31 6) <|
 aX 8 (pM 1) <|
 aX 9 (pLen 31 8) <|
 aX 10 (pB .neq 3 7 9) <|
 aXZ
noncomputable def f35_r2 (c : CallF) : RF := rg [4] <| aX 4 (pM (cn (.bool false))) <|
 aXZ
noncomputable def f35_r3 (c : CallF) : RF := rg [0, 1, 5] <| aX 5 (pM (cn (.int .i64 0))) <|
 aXZ
noncomputable def f35_r4 (c : CallF) : RF := rg [0, 1, 5, 14] <| aX 11 (pM 5) <|
 aX 12 (pM 0) <|
 aX 13 (pLen 31 12) <|
 aX 14 (pB .lss 3 11 13) <|
 aXZ
noncomputable def f35_r5 (c : CallF) : RF := rg [0, 1, 5] <| aX 15 (pM 5) <|
 aX 16 (pB .add 3 15 (cn (.int .i64 1))) <|
 aX 5 (pM 16) <|
 aXZ
noncomputable def f35_r6 (c : CallF) : RF := rgD [0, 1, 5, 26] (aY 17 (pM 0) <|
 aY 18 (pM 5) <|
 aY 19 (pI 2 17 18) <|
 aY 20 (pL true 2 19) <|
 aY 21 (pM 1) <|
 aY 22 (pM 5) <|
 aY 23 (pI 2 21 22) <|
 aY 24 (pL true 2 23) <|
 aY 25 (pK c false 65 [20, 24]) <|
 aY 26 (pU .not 25) <|
 aYZ)
 (aXZ)
noncomputable def f35_r7 (c : CallF) : RF := rg [4] <| aX 4 (pM (cn (.bool false))) <|
 aXZ
noncomputable def f35_r8 (c : CallF) : RF := rg [4] <| aX 4 (pM (cn (.bool true))) <|
 aXZ
noncomputable def f35_l4 (c : CallF) (k : Nat) : St :=
 (bSeq (bSeq (bReg (f35_r4 c))
 (bCond (.tmp 14) (bEx .nrm) (bEx (.ext 0))))
 (bSeq (bBlock 1 (bSeq (bReg (f35_r6 c))
 (bCond (.tmp 26) (bSeq (bReg (f35_r7 c))
 (bEx .ret)) (bEx .nrm))))
 (bReg (f35_r5 c))))
noncomputable def f35 (c : CallF) (k : Nat) : St :=
 (bSeq (bReg (f35_r0 c))
 (bSeq (bSeq (bReg (f35_r1 c))
 (bCond (.tmp 10) (bSeq (bReg (f35_r2 c))
 (bEx .ret)) (bEx .nrm)))
 (bSeq (bSeq (bReg (f35_r3 c))
 (bBlock 0 (bLoop [0, 1, 5] (f35_l4 c k) k)))
 (bSeq (bReg (f35_r8 c))
 (bEx .ret)))))
theorem f35_eq (c : CallF) (k : Nat) : exec cx c 27 f35_an k (Tryd.f35.body.getD .skip) = f35 c k := by kernel_rfl
/-! ### f36: loop.example/g01263/laws.eqGrain -/
def f36_an : Ann := ⟨[(0, r0 [2, 3]), (1, r0 [2, 3, 5]), (2, r0 [2, 3, 5, 7]), (3, r0 [2, 3, 5]), (4, r0 [2, 3, 5, 16]), (5, r0 [4]), (6, r0 [4])], [(2, [2, 3, 5])]⟩
noncomputable def f36_r0 (c : CallF) : RF := rg [2, 3] <| aX 2 (pBox 16 0) <|
 aX 3 (pBox 16 1) <|
 aX 4 (pM (cn (.bool false))) <|
 aXZ
noncomputable def f36_r1 (c : CallF) : RF := rg [2, 3, 5] <| aX 5 (pM (cn (.int .i64 0))) <|
 aXZ
noncomputable def f36_r2 (c : CallF) : RF := rg [2, 3, 5, 7] <| aX 6 (pM 5) <|
 aX 7 (pB .lss 3 6 (cn (.int .i64 16))) <|
 aXZ
noncomputable def f36_r3 (c : CallF) : RF := rg [2, 3, 5] <| aX 8 (pM 5) <|
 aX 9 (pB .add 3 8 (cn (.int .i64 1))) <|
 aX 5 (pM 9) <|
 aXZ
noncomputable def f36_r4 (c : CallF) : RF := rgD [2, 3, 5, 16] (aY 10 (pM 5) <|
 aY 11 (fun n e M => keep (aIndexP 16 1 (eget e 2) (eget e 10) M)) <|
 aY 12 (pL false 1 11) <|
 aY 13 (pM 5) <|
 aY 14 (fun n e M => keep (aIndexP 16 1 (eget e 3) (eget e 13) M)) <|
 aY 15 (pL false 1 14) <|
 aY 16 (pB .neq 23 12 15) <|
 aYZ)
 (aXZ)
noncomputable def f36_r5 (c : CallF) : RF := rg [4] <| aX 4 (pM (cn (.bool false))) <|
 aXZ
noncomputable def f36_r6 (c : CallF) : RF := rg [4] <| aX 4 (pM (cn (.bool true))) <|
 aXZ
noncomputable def f36_l2 (c : CallF) (k : Nat) : St :=
 (bSeq (bSeq (bReg (f36_r2 c))
 (bCond (.tmp 7) (bEx .nrm) (bEx (.ext 0))))
 (bSeq (bBlock 1 (bSeq (bReg (f36_r4 c))
 (bCond (.tmp 16) (bSeq (bReg (f36_r5 c))
 (bEx .ret)) (bEx .nrm))))
 (bReg (f36_r3 c))))
noncomputable def f36 (c : CallF) (k : Nat) : St :=
 (bSeq (bReg (f36_r0 c))
 (bSeq (bSeq (bReg (f36_r1 c))
 (bBlock 0 (bLoop [2, 3, 5] (f36_l2 c k) k)))
 (bSeq (bReg (f36_r6 c))
 (bEx .ret))))
theorem f36_eq (c : CallF) (k : Nat) : exec cx c 17 f36_an k (Tryd.f36.body.getD .skip) = f36 c k := by kernel_rfl
/-! ### f37: loop.example/g01263/spec.l04Copy -/
def f37_an : Ann := ⟨[(0, r0 [0, 2]), (1, ⟨[], [], [], [14], [2]⟩)], []⟩
noncomputable def f37_r0 (c : CallF) : RF := rg [0, 2] <| aX 2 (pAl 34 18) <|
 aXZ
noncomputable def f37_r1 (c : CallF) : RF := rgD [2] (aY 3 (pM 0) <|
 aY 4 (pN 3) <|
 aY 5 (pF 0 1 4) <|
 aY 6 (pL false 1 5) <|
 aY 7 (pM 0) <|
 aY 8 (pN 7) <|
 aY 9 (pF 1 1 8) <|
 aY 10 (pL false 1 9) <|
 aY 11 (pK c false 66 [10]) <|
 aY 12 (pM 0) <|
 aY 13 (pN 12) <|
 aY 14 (pF 2 16 13) <|
 aY 15 (pL true 16 14) <|
 aY 16 (fun n e M => keep (aBuild (zeroOf cx.P 34) [(0, 1, (eget e 6)), (1, 1, (eget e 11)), (2, 16, (eget e 15))] M)) <|
 aYZ)
 (aX0 (pS 18 2 16) <|
 aXZ)
noncomputable def f37 (c : CallF) (k : Nat) : St :=
 (bSeq (bReg (f37_r0 c))
 (bSeq (bReg (f37_r1 c))
 (bEx .ret)))
theorem f37_eq (c : CallF) (k : Nat) : exec cx c 17 f37_an k (Tryd.f37.body.getD .skip) = f37 c k := by kernel_rfl
/-! ### f38: loop.example/g01263/impl.ownHalf -/
def f38_an : Ann := ⟨[(0, ⟨[0], [], [], [], [1, 2]⟩), (1, ⟨[4], [], [], [], [1, 2]⟩), (2, ⟨[1], [], [], [], [2]⟩)], []⟩
noncomputable def f38_r0 (c : CallF) : RF := rg [1, 2] <| aX 1 (fun n e M => aBoxO n 34 18 (eget e 0) M) <|
 aX 2 (pAl 34 18) <|
 aXZ
noncomputable def f38_r1 (c : CallF) : RF := rg [1, 2] <| aX 3 (pF 1 1 1) <|
 aX 4 (pL false 1 3) <|
 aX 5 (pK c false 67 [4]) <|
 aX 6 (pF 1 1 1) <|
 aX0 (pSK 1 6 5) <|
 aXZ
noncomputable def f38_r2 (c : CallF) : RF := rg [2] <| aX 7 (pL true 18 1) <|
 aX0 (pSK 18 2 7) <|
 aXZ
noncomputable def f38 (c : CallF) (k : Nat) : St :=
 (bSeq (bReg (f38_r0 c))
 (bSeq (bReg (f38_r1 c))
 (bSeq (bReg (f38_r2 c))
 (bEx .ret))))
theorem f38_eq (c : CallF) (k : Nat) : exec cx c 8 f38_an k (Tryd.f38.body.getD .skip) = f38 c k := by kernel_rfl
/-! ### f39: loop.example/g01263/laws.eqMarkS -/
def f39_an : Ann := ⟨[(0, r0 [0, 1]), (1, r0 [0, 1, 10]), (2, r0 [4]), (3, r0 [0, 1, 5]), (4, r0 [0, 1, 5, 14]), (5, r0 [0, 1, 5]), (6, r0 [0, 1, 5, 26]), (7, r0 [4]), (8, r0 [4])], [(4, [0, 1, 5])]⟩
noncomputable def f39_r0 (c : CallF) : RF := rg [0, 1] <| aX 4 (pM (cn (.bool false))) <|
 aXZ
noncomputable def f39_r1 (c : CallF) : RF := rg [0, 1, 10] <| aX 6 (pM 0) <|
 aX 7 (pLen 41 6) <|
 aX 8 (pM 1) <|
 aX 9 (pLen 41 8) <|
 aX 10 (pB .neq 3 7 9) <|
 aXZ
noncomputable def f39_r2 (c : CallF) : RF := rg [4] <| aX 4 (pM (cn (.bool false))) <|
 aXZ
noncomputable def f39_r3 (c : CallF) : RF := rg [0, 1, 5] <| aX 5 (pM (cn (.int .i64 0))) <|
 aXZ
noncomputable def f39_r4 (c : CallF) : RF := rg [0, 1, 5, 14] <| aX 11 (pM 5) <|
 aX 12 (pM 0) <|
 aX 13 (pLen 41 12) <|
 aX 14 (pB .lss 3 11 13) <|
 aXZ
noncomputable def f39_r5 (c : CallF) : RF := rg [0, 1, 5] <| aX 15 (pM 5) <|
 aX 16 (pB .add 3 15 (cn (.int .i64 1))) <|
 aX 5 (pM 16) <|
 aXZ
noncomputable def f39_r6 (c : CallF) : RF := rgD [0, 1, 5, 26] (aY 17 (pM 0) <|
 aY 18 (pM 5) <|
 aY 19 (pI 2 17 18) <|
 aY 20 (pL true 2 19) <|
 aY 21 (pM 1) <|
 aY 22 (pM 5) <|
 aY 23 (pI 2 21 22) <|
 aY 24 (pL true 2 23) <|
 aY 25 (pK c false 68 [20, 24]) <|
 aY 26 (pU .not 25) <|
 aYZ)
 (aXZ)
noncomputable def f39_r7 (c : CallF) : RF := rg [4] <| aX 4 (pM (cn (.bool false))) <|
 aXZ
noncomputable def f39_r8 (c : CallF) : RF := rg [4] <| aX 4 (pM (cn (.bool true))) <|
 aXZ
noncomputable def f39_l4 (c : CallF) (k : Nat) : St :=
 (bSeq (bSeq (bReg (f39_r4 c))
 (bCond (.tmp 14) (bEx .nrm) (bEx (.ext 0))))
 (bSeq (bBlock 1 (bSeq (bReg (f39_r6 c))
 (bCond (.tmp 26) (bSeq (bReg (f39_r7 c))
 (bEx .ret)) (bEx .nrm))))
 (bReg (f39_r5 c))))
noncomputable def f39 (c : CallF) (k : Nat) : St :=
 (bSeq (bReg (f39_r0 c))
 (bSeq (bSeq (bReg (f39_r1 c))
 (bCond (.tmp 10) (bSeq (bReg (f39_r2 c))
 (bEx .ret)) (bEx .nrm)))
 (bSeq (bSeq (bReg (f39_r3 c))
 (bBlock 0 (bLoop [0, 1, 5] (f39_l4 c k) k)))
 (bSeq (bReg (f39_r8 c))
 (bEx .ret)))))
theorem f39_eq (c : CallF) (k : Nat) : exec cx c 27 f39_an k (Tryd.f39.body.getD .skip) = f39 c k := by kernel_rfl
/-! ### f40: loop.example/g01263/laws.markNotchS -/
def f40_an : Ann := ⟨[(0, r0 [0, 1]), (1, r0 [0, 1, 5]), (2, r0 [0, 1, 5, 9]), (3, r0 [0, 1, 5]), (4, r0 [0, 1, 5]), (5, r0 [0, 1, 5]), (6, r0 [0, 1, 5]), (7, r0 [0, 1, 5]), (8, r0 [4])], [(2, [0, 1, 5])]⟩
noncomputable def f40_r0 (c : CallF) : RF := rg [0, 1] <| aX 4 (pM (cn (.int .i64 0))) <|
 aXZ
noncomputable def f40_r1 (c : CallF) : RF := rg [0, 1, 5] <| aX 5 (pM (cn (.int .i64 0))) <|
 aXZ
noncomputable def f40_r2 (c : CallF) : RF := rg [0, 1, 5, 9] <| aX 6 (pM 5) <|
 aX 7 (pM 0) <|
 aX 8 (pLen 31 7) <|
 aX 9 (pB .lss 3 6 8) <|
 aXZ
noncomputable def f40_r3 (c : CallF) : RF := rg [0, 1, 5] <| aX 10 (pM 5) <|
 aX 11 (pB .add 3 10 (cn (.int .i64 1))) <|
 aX 5 (pM 11) <|
 aXZ
noncomputable def f40_r4 (c : CallF) : RF := rg [0, 1, 5] <| aX 12 (pM 0) <|
 aX 13 (pM 5) <|
 aX 14 (pM 1) <|
 aX 15 (fun n e M => keep (aConvI .i8 (eget e 14))) <|
 aX 16 (pI 2 12 13) <|
 aX 17 (pF 0 1 16) <|
 aX0 (pS 1 17 15) <|
 aXZ
noncomputable def f40_r5 (c : CallF) : RF := rg [0, 1, 5] <| aX 18 (pM 1) <|
 aX 19 (pB .add 3 18 (cn (.int .i64 1))) <|
 aX 1 (pM 19) <|
 aXZ
noncomputable def f40_r6 (c : CallF) : RF := rg [0, 1, 5] <| aX 20 (pM 0) <|
 aX 21 (pM 5) <|
 aX 22 (pM 1) <|
 aX 23 (fun n e M => keep (aConvI .i16 (eget e 22))) <|
 aX 24 (pI 2 20 21) <|
 aX 25 (pF 1 1 24) <|
 aX0 (pS 1 25 23) <|
 aXZ
noncomputable def f40_r7 (c : CallF) : RF := rg [0, 1, 5] <| aX 26 (pM 1) <|
 aX 27 (pB .add 3 26 (cn (.int .i64 1))) <|
 aX 1 (pM 27) <|
 aXZ
noncomputable def f40_r8 (c : CallF) : RF := rg [4] <| aX 28 (pM 1) <|
 aX 4 (pM 28) <|
 aXZ
noncomputable def f40_l2 (c : CallF) (k : Nat) : St :=
 (bSeq (bSeq (bReg (f40_r2 c))
 (bCond (.tmp 9) (bEx .nrm) (bEx (.ext 0))))
 (bSeq (bBlock 1 (bSeq (bReg (f40_r4 c))
 (bSeq (bReg (f40_r5 c))
 (bSeq (bReg (f40_r6 c))
 (bReg (f40_r7 c))))))
 (bReg (f40_r3 c))))
noncomputable def f40 (c : CallF) (k : Nat) : St :=
 (bSeq (bReg (f40_r0 c))
 (bSeq (bSeq (bReg (f40_r1 c))
 (bBlock 0 (bLoop [0, 1, 5] (f40_l2 c k) k)))
 (bSeq (bReg (f40_r8 c))
 (bEx .ret))))
theorem f40_eq (c : CallF) (k : Nat) : exec cx c 29 f40_an k (Tryd.f40.body.getD .skip) = f40 c k := by kernel_rfl
/-! ### f41: loop.example/g01263/laws.markMarkS -/
def f41_an : Ann := ⟨[(0, r0 [0, 1]), (1, r0 [0, 1, 5]), (2, r0 [0, 1, 5, 9]), (3, r0 [0, 1, 5]), (4, r0 [0, 1, 5]), (5, r0 [0, 1, 5]), (6, r0 [0, 1, 5]), (7, r0 [0, 1, 5]), (8, r0 [4])], [(2, [0, 1, 5])]⟩
noncomputable def f41_r0 (c : CallF) : RF := rg [0, 1] <| aX 4 (pM (cn (.int .i64 0))) <|
 aXZ
noncomputable def f41_r1 (c : CallF) : RF := rg [0, 1, 5] <| aX 5 (pM (cn (.int .i64 0))) <|
 aXZ
noncomputable def f41_r2 (c : CallF) : RF := rg [0, 1, 5, 9] <| aX 6 (pM 5) <|
 aX 7 (pM 0) <|
 aX 8 (pLen 41 7) <|
 aX 9 (pB .lss 3 6 8) <|
 aXZ
noncomputable def f41_r3 (c : CallF) : RF := rg [0, 1, 5] <| aX 10 (pM 5) <|
 aX 11 (pB .add 3 10 (cn (.int .i64 1))) <|
 aX 5 (pM 11) <|
 aXZ
noncomputable def f41_r4 (c : CallF) : RF := rg [0, 1, 5] <| aX 12 (pM 0) <|
 aX 13 (pM 5) <|
 aX 14 (pM 1) <|
 aX 15 (pK c false 69 [14]) <|
 aX 16 (pI 2 12 13) <|
 aX 17 (pF 0 1 16) <|
 aX0 (pS 1 17 15) <|
 aXZ
noncomputable def f41_r5 (c : CallF) : RF := rg [0, 1, 5] <| aX 18 (pM 1) <|
 aX 19 (pB .add 3 18 (cn (.int .i64 1))) <|
 aX 1 (pM 19) <|
 aXZ
noncomputable def f41_r6 (c : CallF) : RF := rg [0, 1, 5] <| aX 20 (pM 0) <|
 aX 21 (pM 5) <|
 aX 22 (pM 1) <|
 aX 23 (fun n e M => keep (aConvI .u32 (eget e 22))) <|
 aX 24 (pI 2 20 21) <|
 aX 25 (pF 1 1 24) <|
 aX0 (pS 1 25 23) <|
 aXZ
noncomputable def f41_r7 (c : CallF) : RF := rg [0, 1, 5] <| aX 26 (pM 1) <|
 aX 27 (pB .add 3 26 (cn (.int .i64 1))) <|
 aX 1 (pM 27) <|
 aXZ
noncomputable def f41_r8 (c : CallF) : RF := rg [4] <| aX 28 (pM 1) <|
 aX 4 (pM 28) <|
 aXZ
noncomputable def f41_l2 (c : CallF) (k : Nat) : St :=
 (bSeq (bSeq (bReg (f41_r2 c))
 (bCond (.tmp 9) (bEx .nrm) (bEx (.ext 0))))
 (bSeq (bBlock 1 (bSeq (bReg (f41_r4 c))
 (bSeq (bReg (f41_r5 c))
 (bSeq (bReg (f41_r6 c))
 (bReg (f41_r7 c))))))
 (bReg (f41_r3 c))))
noncomputable def f41 (c : CallF) (k : Nat) : St :=
 (bSeq (bReg (f41_r0 c))
 (bSeq (bSeq (bReg (f41_r1 c))
 (bBlock 0 (bLoop [0, 1, 5] (f41_l2 c k) k)))
 (bSeq (bReg (f41_r8 c))
 (bEx .ret))))
theorem f41_eq (c : CallF) (k : Nat) : exec cx c 29 f41_an k (Tryd.f41.body.getD .skip) = f41 c k := by kernel_rfl
/-! ### f42: loop.example/g01263/laws.heldHalf -/
def f42_an : Ann := ⟨[(0, r0 [1, 2]), (1, r0 [1]), (2, r0 [1, 10]), (3, r0 [4]), (4, r0 [4])], []⟩
noncomputable def f42_r0 (c : CallF) : RF := rg [1, 2] <| aX 2 (pBox 18 0) <|
 aX 4 (pM (cn (.int .i64 0))) <|
 aXZ
noncomputable def f42_r1 (c : CallF) : RF := rg [1] <| aX 5 (pF 1 1 2) <|
 aX 6 (pL false 1 5) <|
 aX 7 (pM 1) <|
 aX 8 (pK c false 70 [6, 7]) <|
 aX 1 (pM 8) <|
 aXZ
noncomputable def f42_r2 (c : CallF) : RF := rg [1, 10] <| aX 9 (pM 1) <|
 aX 10 (pB .lss 3 9 (cn (.int .i64 0))) <|
 aXZ
noncomputable def f42_r3 (c : CallF) : RF := rg [4] <| aX 4 (pM (cn (.int .i64 (-1)))) <|
 aXZ
noncomputable def f42_r4 (c : CallF) : RF := rg [4] <| aX 11 (pM 1) <|
 aX 4 (pM 11) <|
 aXZ
noncomputable def f42 (c : CallF) (k : Nat) : St :=
 (bSeq (bReg (f42_r0 c))
 (bSeq (bReg (f42_r1 c))
 (bSeq (bSeq (bReg (f42_r2 c))
 (bCond (.tmp 10) (bSeq (bReg (f42_r3 c))
 (bEx .ret)) (bEx .nrm)))
 (bSeq (bReg (f42_r4 c))
 (bEx .ret)))))
theorem f42_eq (c : CallF) (k : Nat) : exec cx c 12 f42_an k (Tryd.f42.body.getD .skip) = f42 c k := by kernel_rfl
/-! ### f43: loop.example/g01263/laws.heldMarkS -/
def f43_an : Ann := ⟨[(0, r0 [0, 1]), (1, r0 [0, 1, 5]), (2, r0 [0, 1, 5, 9]), (3, r0 [0, 1, 5]), (4, r0 [0, 1, 5, 19]), (5, r0 [4]), (6, r0 [0, 1, 5]), (7, r0 [0, 1, 5, 29]), (8, r0 [4]), (9, r0 [0, 1, 5]), (10, r0 [4])], [(2, [0, 1, 5])]⟩
noncomputable def f43_r0 (c : CallF) : RF := rg [0, 1] <| aX 4 (pM (cn (.int .i64 0))) <|
 aXZ
noncomputable def f43_r1 (c : CallF) : RF := rg [0, 1, 5] <| aX 5 (pM (cn (.int .i64 0))) <|
 aXZ
noncomputable def f43_r2 (c : CallF) : RF := rg [0, 1, 5, 9] <| aX 6 (pM 5) <|
 aX 7 (pM 0) <|
 aX 8 (pLen 41 7) <|
 aX 9 (pB .lss 3 6 8) <|
 aXZ
noncomputable def f43_r3 (c : CallF) : RF := rg [0, 1, 5] <| aX 10 (pM 5) <|
 aX 11 (pB .add 3 10 (cn (.int .i64 1))) <|
 aX 5 (pM 11) <|
 aXZ
noncomputable def f43_r4 (c : CallF) : RF := rgD [0, 1, 5, 19] (aY 12 (pM 0) <|
 aY 13 (pM 5) <|
 aY 14 (pI 2 12 13) <|
 aY 15 (pF 0 1 14) <|
 aY 16 (pL false 1 15) <|
 aY 17 (pM 1) <|
 aY 18 (pK c false 69 [17]) <|
 aY 19 (pB .neq 9 16 18) <|
 aYZ)
 (aXZ)
noncomputable def f43_r5 (c : CallF) : RF := rg [4] <| aX 4 (pM (cn (.int .i64 (-1)))) <|
 aXZ
noncomputable def f43_r6 (c : CallF) : RF := rg [0, 1, 5] <| aX 20 (pM 1) <|
 aX 21 (pB .add 3 20 (cn (.int .i64 1))) <|
 aX 1 (pM 21) <|
 aXZ
noncomputable def f43_r7 (c : CallF) : RF := rg [0, 1, 5, 29] <| aX 22 (pM 0) <|
 aX 23 (pM 5) <|
 aX 24 (pI 2 22 23) <|
 aX 25 (pF 1 1 24) <|
 aX 26 (pL false 1 25) <|
 aX 27 (pM 1) <|
 aX 28 (fun n e M => keep (aConvI .u32 (eget e 27))) <|
 aX 29 (pB .neq 27 26 28) <|
 aXZ
noncomputable def f43_r8 (c : CallF) : RF := rg [4] <| aX 4 (pM (cn (.int .i64 (-1)))) <|
 aXZ
noncomputable def f43_r9 (c : CallF) : RF := rg [0, 1, 5] <| aX 30 (pM 1) <|
 aX 31 (pB .add 3 30 (cn (.int .i64 1))) <|
 aX 1 (pM 31) <|
 aXZ
noncomputable def f43_r10 (c : CallF) : RF := rg [4] <| aX 32 (pM 1) <|
 aX 4 (pM 32) <|
 aXZ
noncomputable def f43_l2 (c : CallF) (k : Nat) : St :=
 (bSeq (bSeq (bReg (f43_r2 c))
 (bCond (.tmp 9) (bEx .nrm) (bEx (.ext 0))))
 (bSeq (bBlock 1 (bSeq (bSeq (bReg (f43_r4 c))
 (bCond (.tmp 19) (bSeq (bReg (f43_r5 c))
 (bEx .ret)) (bEx .nrm)))
 (bSeq (bReg (f43_r6 c))
 (bSeq (bSeq (bReg (f43_r7 c))
 (bCond (.tmp 29) (bSeq (bReg (f43_r8 c))
 (bEx .ret)) (bEx .nrm)))
 (bReg (f43_r9 c))))))
 (bReg (f43_r3 c))))
noncomputable def f43 (c : CallF) (k : Nat) : St :=
 (bSeq (bReg (f43_r0 c))
 (bSeq (bSeq (bReg (f43_r1 c))
 (bBlock 0 (bLoop [0, 1, 5] (f43_l2 c k) k)))
 (bSeq (bReg (f43_r10 c))
 (bEx .ret))))
theorem f43_eq (c : CallF) (k : Nat) : exec cx c 33 f43_an k (Tryd.f43.body.getD .skip) = f43 c k := by kernel_rfl
/-! ### f53: loop.example/g01263/spec.l01Notches -/
def f53_an : Ann := ⟨[(0, r0 [0]), (1, r0 [0, 7]), (2, r0 [2]), (3, r0 [0, 3]), (4, r0 [0, 3, 11]), (5, r0 [0, 3]), (6, r0 [0, 3, 4]), (7, r0 [0, 3, 4, 32]), (8, r0 [2]), (9, r0 [0, 3, 57]), (10, r0 [2]), (11, r0 [2])], [(4, [0, 3])]⟩
noncomputable def f53_r0 (c : CallF) : RF := rg [0] <| aX 2 (pM (cn (.bool false))) <|
 aXZ
noncomputable def f53_r1 (c : CallF) : RF := rg [0, 7] <| aX 5 (pM 0) <|
 aX 6 (pLen 31 5) <|
 aX 7 (pB .gtr 3 6 (cn (.int .i64 60))) <|
 aXZ
noncomputable def f53_r2 (c : CallF) : RF := rg [2] <| aX 2 (pM (cn (.bool false))) <|
 aXZ
noncomputable def f53_r3 (c : CallF) : RF := rg [0, 3] <| aX 3 (pM (cn (.int .i64 0))) <|
 aXZ
noncomputable def f53_r4 (c : CallF) : RF := rg [0, 3, 11] <| aX 8 (pM 3) <|
 aX 9 (pM 0) <|
 aX 10 (pLen 31 9) <|
 aX 11 (pB .lss 3 8 10) <|
 aXZ
noncomputable def f53_r5 (c : CallF) : RF := rg [0, 3] <| aX 12 (pM 3) <|
 aX 13 (pB .add 3 12 (cn (.int .i64 1))) <|
 aX 3 (pM 13) <|
 aXZ
noncomputable def f53_r6 (c : CallF) : RF := rg [0, 3, 4] <| aX 14 (pM 0) <|
 aX 15 (pM 3) <|
 aX 16 (pI 2 14 15) <|
 aX 17 (pL true 2 16) <|
 aX 4 (pAl 99 2) <|
 aX0 (pS 2 4 17) <|
 aXZ
noncomputable def f53_r7 (c : CallF) : RF := rg [0, 3, 4, 32] <| aX 18 (pF 0 1 4) <|
 aX 19 (pL false 1 18) <|
 aX 20 (fun n e M => keep (aConvI .i64 (eget e 19))) <|
 aX 21 (pK c false 76 [20]) <|
 aX 22 (pU .not 21) <|
 aX 23 (pM 22) <|
 aX 24 (pG 23 false (pF 1 1 4)) <|
 aX 25 (pG 23 false (pL false 1 24)) <|
 aX 26 (pG 23 false (pB .lss 97 25 (cn (.int .i16 0)))) <|
 aX 27 (pP 23 (cn (.bool true)) 26) <|
 aX 28 (pM 27) <|
 aX 29 (pG 28 false (pL true 2 4)) <|
 aX 30 (pG 28 false (pK c false 77 [29])) <|
 aX 31 (pG 28 false (pB .gtr 2 30 (cn (.int .i64 200)))) <|
 aX 32 (pP 28 (cn (.bool true)) 31) <|
 aXZ
noncomputable def f53_r8 (c : CallF) : RF := rg [2] <| aX 2 (pM (cn (.bool false))) <|
 aXZ
noncomputable def f53_r9 (c : CallF) : RF := rgD [0, 3, 57] (aY 33 (pM 3) <|
 aY 34 (pB .gtr 3 33 (cn (.int .i64 0))) <|
 aY 35 (pM 34) <|
 aY 36 (pG 35 true (pF 0 1 4)) <|
 aY 37 (pG 35 true (pL false 1 36)) <|
 aY 38 (pG 35 true (pM 0)) <|
 aY 39 (pG 35 true (pM 3)) <|
 aY 40 (pG 35 true (pB .sub 3 39 (cn (.int .i64 1)))) <|
 aY 41 (pG 35 true (pI 2 38 40)) <|
 aY 42 (pG 35 true (pF 0 1 41)) <|
 aY 43 (pG 35 true (pL false 1 42)) <|
 aY 44 (pG 35 true (pB .gtr 23 37 43)) <|
 aY 45 (pG 35 true (pM 44)) <|
 aY 46 (pG 45 false (pF 1 1 4)) <|
 aY 47 (pG 45 false (pL false 1 46)) <|
 aY 48 (pG 45 false (fun n e M => keep (aConvI .i64 (eget e 47)))) <|
 aY 49 (pG 45 false (pM 0)) <|
 aY 50 (pG 45 false (pM 3)) <|
 aY 51 (pG 45 false (pB .sub 3 50 (cn (.int .i64 1)))) <|
 aY 52 (pG 45 false (pI 2 49 51)) <|
 aY 53 (pG 45 false (pL true 2 52)) <|
 aY 54 (pG 45 false (pK c false 77 [53])) <|
 aY 55 (pG 45 false (pB .leq 2 48 54)) <|
 aY 56 (pG 35 true (pP 45 (cn (.bool true)) 55)) <|
 aY 57 (pP 35 56 (cn (.bool false))) <|
 aYZ)
 (aXZ)
noncomputable def f53_r10 (c : CallF) : RF := rg [2] <| aX 2 (pM (cn (.bool false))) <|
 aXZ
noncomputable def f53_r11 (c : CallF) : RF := rg [2] <| aX 2 (pM (cn (.bool true))) <|
 aXZ
noncomputable def f53_l4 (c : CallF) (k : Nat) : St :=
 (bSeq (bSeq (bReg (f53_r4 c))
 (bCond (.tmp 11) (bEx .nrm) (bEx (.ext 0))))
 (bSeq (bBlock 1 (bSeq (bReg (f53_r6 c))
 (bSeq (bSeq (bReg (f53_r7 c))
 (bCond (.tmp 32) (bSeq (bReg (f53_r8 c))
 (bEx .ret)) (bEx .nrm)))
 (bSeq (bReg (f53_r9 c))
 (bCond (.tmp 57) (bSeq (bReg (f53_r10 c))
 (bEx .ret)) (bEx .nrm))))))
 (bReg (f53_r5 c))))
noncomputable def f53 (c : CallF) (k : Nat) : St :=
 (bSeq (bReg (f53_r0 c))
 (bSeq (bSeq (bReg (f53_r1 c))
 (bCond (.tmp 7) (bSeq (bReg (f53_r2 c))
 (bEx .ret)) (bEx .nrm)))
 (bSeq (bSeq (bReg (f53_r3 c))
 (bBlock 0 (bLoop [0, 3] (f53_l4 c k) k)))
 (bSeq (bReg (f53_r11 c))
 (bEx .ret)))))
theorem f53_eq (c : CallF) (k : Nat) : exec cx c 58 f53_an k (Tryd.f53.body.getD .skip) = f53 c k := by kernel_rfl
/-! ### f54: loop.example/g01263/spec.l01Grain -/
def f54_an : Ann := ⟨[(0, r0 [1]), (1, r0 [1, 3]), (2, r0 [1, 3, 5]), (3, r0 [1, 3]), (4, r0 [1, 3, 17]), (5, r0 [2]), (6, r0 [2])], [(2, [1, 3])]⟩
noncomputable def f54_r0 (c : CallF) : RF := rg [1] <| aX 1 (pBox 16 0) <|
 aX 2 (pM (cn (.bool false))) <|
 aXZ
noncomputable def f54_r1 (c : CallF) : RF := rg [1, 3] <| aX 3 (pM (cn (.int .i64 0))) <|
 aXZ
noncomputable def f54_r2 (c : CallF) : RF := rg [1, 3, 5] <| aX 4 (pM 3) <|
 aX 5 (pB .lss 3 4 (cn (.int .i64 16))) <|
 aXZ
noncomputable def f54_r3 (c : CallF) : RF := rg [1, 3] <| aX 6 (pM 3) <|
 aX 7 (pB .add 3 6 (cn (.int .i64 1))) <|
 aX 3 (pM 7) <|
 aXZ
noncomputable def f54_r4 (c : CallF) : RF := rg [1, 3, 17] <| aX 8 (pM 3) <|
 aX 9 (fun n e M => keep (aIndexP 16 1 (eget e 1) (eget e 8) M)) <|
 aX 10 (pL false 1 9) <|
 aX 11 (pB .lss 23 10 (cn (.int .i8 (-3)))) <|
 aX 12 (pM 11) <|
 aX 13 (pG 12 false (pM 3)) <|
 aX 14 (pG 12 false (fun n e M => keep (aIndexP 16 1 (eget e 1) (eget e 13) M))) <|
 aX 15 (pG 12 false (pL false 1 14)) <|
 aX 16 (pG 12 false (pB .gtr 23 15 (cn (.int .i8 3)))) <|
 aX 17 (pP 12 (cn (.bool true)) 16) <|
 aXZ
noncomputable def f54_r5 (c : CallF) : RF := rg [2] <| aX 2 (pM (cn (.bool false))) <|
 aXZ
noncomputable def f54_r6 (c : CallF) : RF := rg [2] <| aX 2 (pM (cn (.bool true))) <|
 aXZ
noncomputable def f54_l2 (c : CallF) (k : Nat) : St :=
 (bSeq (bSeq (bReg (f54_r2 c))
 (bCond (.tmp 5) (bEx .nrm) (bEx (.ext 0))))
 (bSeq (bBlock 1 (bSeq (bReg (f54_r4 c))
 (bCond (.tmp 17) (bSeq (bReg (f54_r5 c))
 (bEx .ret)) (bEx .nrm))))
 (bReg (f54_r3 c))))
noncomputable def f54 (c : CallF) (k : Nat) : St :=
 (bSeq (bReg (f54_r0 c))
 (bSeq (bSeq (bReg (f54_r1 c))
 (bBlock 0 (bLoop [1, 3] (f54_l2 c k) k)))
 (bSeq (bReg (f54_r6 c))
 (bEx .ret))))
theorem f54_eq (c : CallF) (k : Nat) : exec cx c 18 f54_an k (Tryd.f54.body.getD .skip) = f54 c k := by kernel_rfl
/-! ### f55: loop.example/g01263/spec.l06Text -/
def f55_an : Ann := ⟨[(0, r0 [0, 1]), (1, r0 [0, 1, 5]), (2, r0 [0, 1, 5, 9]), (3, r0 [0, 1, 5]), (4, r0 [0, 1, 5]), (5, r0 [4])], [(2, [0, 1, 5])]⟩
noncomputable def f55_r0 (c : CallF) : RF := rg [0, 1] <| aX 4 (pM (cn (.int .u32 0))) <|
 aXZ
noncomputable def f55_r1 (c : CallF) : RF := rg [0, 1, 5] <| aX 5 (pM (cn (.int .i64 0))) <|
 aXZ
noncomputable def f55_r2 (c : CallF) : RF := rg [0, 1, 5, 9] <| aX 6 (pM 5) <|
 aX 7 (pM 1) <|
 aX 8 (pLen 9 7) <|
 aX 9 (pB .lss 3 6 8) <|
 aXZ
noncomputable def f55_r3 (c : CallF) : RF := rg [0, 1, 5] <| aX 10 (pM 5) <|
 aX 11 (pB .add 3 10 (cn (.int .i64 1))) <|
 aX 5 (pM 11) <|
 aXZ
noncomputable def f55_r4 (c : CallF) : RF := rg [0, 1, 5] <| aX 12 (pM 0) <|
 aX 13 (pM 1) <|
 aX 14 (pM 5) <|
 aX 15 (fun n e M => keep (aIndexB (eget e 13) (eget e 14))) <|
 aX 16 (fun n e M => keep (aConvI .u32 (eget e 15))) <|
 aX 17 (pB .xor 27 12 16) <|
 aX 18 (pB .mul 27 17 (cn (.int .u32 16777619))) <|
 aX 0 (pM 18) <|
 aXZ
noncomputable def f55_r5 (c : CallF) : RF := rg [4] <| aX 19 (pM 0) <|
 aX 4 (pM 19) <|
 aXZ
noncomputable def f55_l2 (c : CallF) (k : Nat) : St :=
 (bSeq (bSeq (bReg (f55_r2 c))
 (bCond (.tmp 9) (bEx .nrm) (bEx (.ext 0))))
 (bSeq (bBlock 1 (bReg (f55_r4 c)))
 (bReg (f55_r3 c))))
noncomputable def f55 (c : CallF) (k : Nat) : St :=
 (bSeq (bReg (f55_r0 c))
 (bSeq (bSeq (bReg (f55_r1 c))
 (bBlock 0 (bLoop [0, 1, 5] (f55_l2 c k) k)))
 (bSeq (bReg (f55_r5 c))
 (bEx .ret))))
theorem f55_eq (c : CallF) (k : Nat) : exec cx c 20 f55_an k (Tryd.f55.body.getD .skip) = f55 c k := by kernel_rfl
/-! ### f56: loop.example/g01263/spec.l01Text -/
def f56_an : Ann := ⟨[(0, r0 [0]), (1, r0 [0, 3]), (2, r0 [0, 3, 10]), (3, r0 [0, 3]), (4, r0 [0, 3, 4]), (5, r0 [0, 3, 4, 12]), (6, r0 [0, 3, 4]), (7, r0 [0, 3, 4]), (8, r0 [0, 3, 5]), (9, r0 [0, 3, 5, 34]), (10, r0 [0, 3, 5]), (11, r0 [0, 3, 5, 6]), (12, r0 [0, 3, 5]), (13, r0 [2])], [(5, [0, 3, 4]), (9, [0, 3, 5])]⟩
noncomputable def f56_r0 (c : CallF) : RF := rg [0] <| aX 2 (pM (cn (.str []))) <|
 aXZ
noncomputable def f56_r1 (c : CallF) : RF := rg [0, 3] <| aX 3 (pM (cn (.str [102, 111, 105, 108, 32]))) <|
 aXZ
noncomputable def f56_r2 (c : CallF) : RF := rg [0, 3, 10] <| aX 7 (pM 0) <|
 aX 8 (pN 7) <|
 aX 9 (pF 0 1 8) <|
 aX 10 (pL false 1 9) <|
 aXZ
noncomputable def f56_r3 (c : CallF) : RF := rg [0, 3] <| aX 3 (pM (cn (.str [115, 116, 111, 99, 107, 32]))) <|
 aXZ
noncomputable def f56_r4 (c : CallF) : RF := rg [0, 3, 4] <| aX 4 (pM (cn (.int .i64 0))) <|
 aXZ
noncomputable def f56_r5 (c : CallF) : RF := rg [0, 3, 4, 12] <| aX 11 (pM 4) <|
 aX 12 (pB .lss 3 11 (cn (.int .i64 16))) <|
 aXZ
noncomputable def f56_r6 (c : CallF) : RF := rg [0, 3, 4] <| aX 13 (pM 4) <|
 aX 14 (pB .add 3 13 (cn (.int .i64 1))) <|
 aX 4 (pM 14) <|
 aXZ
noncomputable def f56_r7 (c : CallF) : RF := rg [0, 3, 4] <| aX 15 (pM 3) <|
 aX 16 (pM 0) <|
 aX 17 (pM 4) <|
 aX 18 (pN 16) <|
 aX 19 (pF 2 16 18) <|
 aX 20 (fun n e M => keep (aIndexP 16 1 (eget e 19) (eget e 17) M)) <|
 aX 21 (pL false 1 20) <|
 aX 22 (fun n e M => keep (aConvI .i64 (eget e 21))) <|
 aX 23 (pB .add 3 (cn (.int .i64 100)) 22) <|
 aX 24 (fun n e M => keep (aConvI .u8 (eget e 23))) <|
 aX 25 (fun n e M => keep (aLitI 5 1 [(eget e 24)] M)) <|
 aX 26 (fun n e M => keep (aConvB (eget e 25) M)) <|
 aX 27 (pB .add 9 15 26) <|
 aX 3 (pM 27) <|
 aXZ
noncomputable def f56_r8 (c : CallF) : RF := rg [0, 3, 5] <| aX 5 (pM (cn (.int .i64 0))) <|
 aXZ
noncomputable def f56_r9 (c : CallF) : RF := rg [0, 3, 5, 34] <| aX 28 (pM 5) <|
 aX 29 (pM 0) <|
 aX 30 (pN 29) <|
 aX 31 (pF 1 1 30) <|
 aX 32 (pL false 1 31) <|
 aX 33 (pLen 31 32) <|
 aX 34 (pB .lss 3 28 33) <|
 aXZ
noncomputable def f56_r10 (c : CallF) : RF := rg [0, 3, 5] <| aX 35 (pM 5) <|
 aX 36 (pB .add 3 35 (cn (.int .i64 1))) <|
 aX 5 (pM 36) <|
 aXZ
noncomputable def f56_r11 (c : CallF) : RF := rg [0, 3, 5, 6] <| aX 37 (pM 0) <|
 aX 38 (pN 37) <|
 aX 39 (pF 1 1 38) <|
 aX 40 (pL false 1 39) <|
 aX 41 (pM 5) <|
 aX 42 (pI 2 40 41) <|
 aX 43 (pL true 2 42) <|
 aX 6 (pAl 99 2) <|
 aX0 (pS 2 6 43) <|
 aXZ
noncomputable def f56_r12 (c : CallF) : RF := rgD [0, 3, 5] (aY 44 (pM 3) <|
 aY 45 (pK c false 78 []) <|
 aY 46 (pF 0 1 6) <|
 aY 47 (pL false 1 46) <|
 aY 48 (pF 0 1 6) <|
 aY 49 (pL false 1 48) <|
 aY 50 (pB .add 23 49 (cn (.int .i8 1))) <|
 aY 51 (fun n e M => keep (aSliceS (some (eget e 47)) (some (eget e 50)) (eget e 45))) <|
 aY 52 (pB .add 9 (cn (.str [32])) 51) <|
 aY 53 (pF 1 1 6) <|
 aY 54 (pL false 1 53) <|
 aY 55 (fun n e M => keep (aConvI .i64 (eget e 54))) <|
 aY 56 (pK c false 79 [55]) <|
 aY 57 (pB .add 9 52 56) <|
 aY 58 (pB .add 9 44 57) <|
 aY 3 (pM 58) <|
 aYZ)
 (aXZ)
noncomputable def f56_r13 (c : CallF) : RF := rg [2] <| aX 59 (pM 3) <|
 aX 2 (pM 59) <|
 aXZ
noncomputable def f56_l5 (c : CallF) (k : Nat) : St :=
 (bSeq (bSeq (bReg (f56_r5 c))
 (bCond (.tmp 12) (bEx .nrm) (bEx (.ext 0))))
 (bSeq (bBlock 1 (bReg (f56_r7 c)))
 (bReg (f56_r6 c))))
noncomputable def f56_l9 (c : CallF) (k : Nat) : St :=
 (bSeq (bSeq (bReg (f56_r9 c))
 (bCond (.tmp 34) (bEx .nrm) (bEx (.ext 2))))
 (bSeq (bBlock 3 (bSeq (bReg (f56_r11 c))
 (bReg (f56_r12 c))))
 (bReg (f56_r10 c))))
noncomputable def f56 (c : CallF) (k : Nat) : St :=
 (bSeq (bReg (f56_r0 c))
 (bSeq (bReg (f56_r1 c))
 (bSeq (bSeq (bReg (f56_r2 c))
 (bCond (.tmp 10) (bReg (f56_r3 c)) (bEx .nrm)))
 (bSeq (bSeq (bReg (f56_r4 c))
 (bBlock 0 (bLoop [0, 3, 4] (f56_l5 c k) k)))
 (bSeq (bSeq (bReg (f56_r8 c))
 (bBlock 2 (bLoop [0, 3, 5] (f56_l9 c k) k)))
 (bSeq (bReg (f56_r13 c))
 (bEx .ret)))))))
theorem f56_eq (c : CallF) (k : Nat) : exec cx c 60 f56_an k (Tryd.f56.body.getD .skip) = f56 c k := by kernel_rfl
/-! ### f57: loop.example/g01263/spec.l06Number -/
def f57_an : Ann := ⟨[(0, r0 [0, 1]), (1, r0 [0, 1, 5]), (2, r0 [0, 1, 5, 7]), (3, r0 [0, 1, 5]), (4, r0 [0, 1, 5]), (5, r0 [4])], [(2, [0, 1, 5])]⟩
noncomputable def f57_r0 (c : CallF) : RF := rg [0, 1] <| aX 4 (pM (cn (.int .u32 0))) <|
 aXZ
noncomputable def f57_r1 (c : CallF) : RF := rg [0, 1, 5] <| aX 5 (pM (cn (.int .i64 24))) <|
 aXZ
noncomputable def f57_r2 (c : CallF) : RF := rg [0, 1, 5, 7] <| aX 6 (pM 5) <|
 aX 7 (pB .geq 3 6 (cn (.int .i64 0))) <|
 aXZ
noncomputable def f57_r3 (c : CallF) : RF := rg [0, 1, 5] <| aX 8 (pM 5) <|
 aX 9 (pB .sub 3 8 (cn (.int .i64 8))) <|
 aX 5 (pM 9) <|
 aXZ
noncomputable def f57_r4 (c : CallF) : RF := rg [0, 1, 5] <| aX 10 (pM 0) <|
 aX 11 (pM 1) <|
 aX 12 (pM 5) <|
 aX 13 (fun n e M => keep (aConvI .u64 (eget e 12))) <|
 aX 14 (pB .shr 27 11 13) <|
 aX 15 (pB .and 27 14 (cn (.int .u32 255))) <|
 aX 16 (pB .xor 27 10 15) <|
 aX 17 (pB .mul 27 16 (cn (.int .u32 16777619))) <|
 aX 0 (pM 17) <|
 aXZ
noncomputable def f57_r5 (c : CallF) : RF := rg [4] <| aX 18 (pM 0) <|
 aX 4 (pM 18) <|
 aXZ
noncomputable def f57_l2 (c : CallF) (k : Nat) : St :=
 (bSeq (bSeq (bReg (f57_r2 c))
 (bCond (.tmp 7) (bEx .nrm) (bEx (.ext 0))))
 (bSeq (bBlock 1 (bReg (f57_r4 c)))
 (bReg (f57_r3 c))))
noncomputable def f57 (c : CallF) (k : Nat) : St :=
 (bSeq (bReg (f57_r0 c))
 (bSeq (bSeq (bReg (f57_r1 c))
 (bBlock 0 (bLoop [0, 1, 5] (f57_l2 c k) k)))
 (bSeq (bReg (f57_r5 c))
 (bEx .ret))))
theorem f57_eq (c : CallF) (k : Nat) : exec cx c 19 f57_an k (Tryd.f57.body.getD .skip) = f57 c k := by kernel_rfl
/-! ### f58: loop.example/g01263/laws.toNotch -/
def f58_an : Ann := ⟨[(0, r0 [1, 2]), (1, r0 [1, 2, 3]), (2, r0 [1, 2, 3]), (3, r0 [2, 3]), (4, r0 [2])], []⟩
noncomputable def f58_r0 (c : CallF) : RF := rg [1, 2] <| aX 1 (pBox 2 0) <|
 aX 2 (pAl 99 2) <|
 aXZ
noncomputable def f58_r1 (c : CallF) : RF := rg [1, 2, 3] <| aX 3 (pAl 99 2) <|
 aXZ
noncomputable def f58_r2 (c : CallF) : RF := rg [1, 2, 3] <| aX 4 (pF 0 1 1) <|
 aX 5 (pL false 1 4) <|
 aX 6 (pF 0 1 3) <|
 aX0 (pS 1 6 5) <|
 aXZ
noncomputable def f58_r3 (c : CallF) : RF := rg [2, 3] <| aX 7 (pF 1 1 1) <|
 aX 8 (pL false 1 7) <|
 aX 9 (pF 1 1 3) <|
 aX0 (pS 1 9 8) <|
 aXZ
noncomputable def f58_r4 (c : CallF) : RF := rg [2] <| aX 10 (pL true 2 3) <|
 aX0 (pS 2 2 10) <|
 aXZ
noncomputable def f58 (c : CallF) (k : Nat) : St :=
 (bSeq (bReg (f58_r0 c))
 (bSeq (bReg (f58_r1 c))
 (bSeq (bReg (f58_r2 c))
 (bSeq (bReg (f58_r3 c))
 (bSeq (bReg (f58_r4 c))
 (bEx .ret))))))
theorem f58_eq (c : CallF) (k : Nat) : exec cx c 11 f58_an k (Tryd.f58.body.getD .skip) = f58 c k := by kernel_rfl
/-! ### f59: loop.example/g01263/impl.ValidGrain -/
def f59_an : Ann := ⟨[(0, r0 [1]), (1, r0 [5, 6]), (2, r0 [5, 6, 7]), (3, r0 [4, 5, 6]), (4, r0 [5, 6, 14]), (5, r0 [2]), (6, r0 [5, 6]), (7, r0 [2])], [(2, [5, 6])]⟩
noncomputable def f59_r0 (c : CallF) : RF := rg [1] <| aX 1 (pBox 16 0) <|
 aX 2 (pM (cn (.bool false))) <|
 aXZ
noncomputable def f59_r1 (c : CallF) : RF := rg [5, 6] <| aX 5 (pL true 16 1) <|
 aX 6 (pM (cn (.int .i64 0))) <|
 aXZ
noncomputable def f59_r2 (c : CallF) : RF := rg [5, 6, 7] <| aX 7 (pB .lss 3 6 (cn (.int .i64 16))) <|
 aXZ
noncomputable def f59_r3 (c : CallF) : RF := rg [4, 5, 6] <| aX 8 (fun n e M => keep (aIndexA false 16 1 (eget e 5) (eget e 6))) <|
 aX 4 (pM 8) <|
 aXZ
noncomputable def f59_r4 (c : CallF) : RF := rg [5, 6, 14] <| aX 9 (pM 4) <|
 aX 10 (pB .lss 23 9 (cn (.int .i8 (-3)))) <|
 aX 11 (pM 10) <|
 aX 12 (pG 11 false (pM 4)) <|
 aX 13 (pG 11 false (pB .gtr 23 12 (cn (.int .i8 3)))) <|
 aX 14 (pP 11 (cn (.bool true)) 13) <|
 aXZ
noncomputable def f59_r5 (c : CallF) : RF := rg [2] <| aX 2 (pM (cn (.bool false))) <|
 aXZ
noncomputable def f59_r6 (c : CallF) : RF := rg [5, 6] <| aX 15 (pB .add 3 6 (cn (.int .i64 1))) <|
 aX 6 (pM 15) <|
 aXZ
noncomputable def f59_r7 (c : CallF) : RF := rg [2] <| aX 2 (pM (cn (.bool true))) <|
 aXZ
noncomputable def f59_l2 (c : CallF) (k : Nat) : St :=
 (bSeq (bReg (f59_r2 c))
 (bSeq (bCond (.tmp 7) (bEx .nrm) (bEx (.ext 0)))
 (bSeq (bBlock 1 (bSeq (bReg (f59_r3 c))
 (bSeq (bReg (f59_r4 c))
 (bCond (.tmp 14) (bSeq (bReg (f59_r5 c))
 (bEx .ret)) (bEx .nrm)))))
 (bReg (f59_r6 c)))))
noncomputable def f59 (c : CallF) (k : Nat) : St :=
 (bSeq (bReg (f59_r0 c))
 (bSeq (bSeq (bReg (f59_r1 c))
 (bBlock 0 (bLoop [5, 6] (f59_l2 c k) k)))
 (bSeq (bReg (f59_r7 c))
 (bEx .ret))))
theorem f59_eq (c : CallF) (k : Nat) : exec cx c 16 f59_an k (Tryd.f59.body.getD .skip) = f59 c k := by kernel_rfl
/-! ### f60: loop.example/g01263/impl.isKind -/
def f60_an : Ann := ⟨[(0, r0 [0]), (1, r0 [2])], []⟩
noncomputable def f60_r0 (c : CallF) : RF := rg [0] <| aX 2 (pM (cn (.bool false))) <|
 aXZ
noncomputable def f60_r1 (c : CallF) : RF := rg [2] <| aX 3 (pM 0) <|
 aX 4 (pB .geq 2 3 (cn (.int .i64 0))) <|
 aX 5 (pM 4) <|
 aX 6 (pG 5 true (pM 0)) <|
 aX 7 (pG 5 true (pB .leq 2 6 (cn (.int .i64 5)))) <|
 aX 8 (pP 5 7 (cn (.bool false))) <|
 aX 2 (pM 8) <|
 aXZ
noncomputable def f60 (c : CallF) (k : Nat) : St :=
 (bSeq (bReg (f60_r0 c))
 (bSeq (bReg (f60_r1 c))
 (bEx .ret)))
theorem f60_eq (c : CallF) (k : Nat) : exec cx c 9 f60_an k (Tryd.f60.body.getD .skip) = f60 c k := by kernel_rfl
/-! ### f61: (loop.example/g01263/impl.Notch).end -/
def f61_an : Ann := ⟨[(0, r0 [1]), (1, r0 [2])], []⟩
noncomputable def f61_r0 (c : CallF) : RF := rg [1] <| aX 1 (pBox 2 0) <|
 aX 2 (pM (cn (.int .i64 0))) <|
 aXZ
noncomputable def f61_r1 (c : CallF) : RF := rgD [2] (aY 3 (pF 1 1 1) <|
 aY 4 (pL false 1 3) <|
 aY 5 (fun n e M => keep (aConvI .i64 (eget e 4))) <|
 aY 6 (pF 0 1 1) <|
 aY 7 (pL false 1 6) <|
 aY 8 (fun n e M => keep (aConvI .i64 (eget e 7))) <|
 aY 9 (pK c false 80 [8]) <|
 aY 10 (pB .add 2 5 9) <|
 aY 2 (pM 10) <|
 aYZ)
 (aXZ)
noncomputable def f61 (c : CallF) (k : Nat) : St :=
 (bSeq (bReg (f61_r0 c))
 (bSeq (bReg (f61_r1 c))
 (bEx .ret)))
theorem f61_eq (c : CallF) (k : Nat) : exec cx c 11 f61_an k (Tryd.f61.body.getD .skip) = f61 c k := by kernel_rfl
/-! ### f62: loop.example/g01263/impl.isLetters -/
def f62_an : Ann := ⟨[(0, r0 [0, 1]), (1, r0 [0, 1, 7, 8]), (2, r0 [0, 1, 7, 8, 9]), (3, r0 [0, 1, 5, 7, 8]), (4, r0 [0, 1, 7, 8, 20]), (5, r0 [4]), (6, r0 [0, 1, 7, 8]), (7, r0 [4])], [(2, [0, 1, 7, 8])]⟩
noncomputable def f62_r0 (c : CallF) : RF := rg [0, 1] <| aX 4 (pM (cn (.bool false))) <|
 aXZ
noncomputable def f62_r1 (c : CallF) : RF := rg [0, 1, 7, 8] <| aX 6 (pM 0) <|
 aX 7 (pLen 9 6) <|
 aX 8 (pM (cn (.int .i64 0))) <|
 aXZ
noncomputable def f62_r2 (c : CallF) : RF := rg [0, 1, 7, 8, 9] <| aX 9 (pB .lss 3 8 7) <|
 aXZ
noncomputable def f62_r3 (c : CallF) : RF := rg [0, 1, 5, 7, 8] <| aX 10 (pM 8) <|
 aX 5 (pM 10) <|
 aXZ
noncomputable def f62_r4 (c : CallF) : RF := rg [0, 1, 7, 8, 20] <| aX 11 (pM 0) <|
 aX 12 (pM 5) <|
 aX 13 (fun n e M => keep (aIndexB (eget e 11) (eget e 12))) <|
 aX 14 (pB .lss 5 13 (cn (.int .u8 97))) <|
 aX 15 (pM 14) <|
 aX 16 (pG 15 false (pM 0)) <|
 aX 17 (pG 15 false (pM 5)) <|
 aX 18 (pG 15 false (fun n e M => keep (aIndexB (eget e 16) (eget e 17)))) <|
 aX 19 (pG 15 false (pB .gtr 5 18 (cn (.int .u8 122)))) <|
 aX 20 (pP 15 (cn (.bool true)) 19) <|
 aXZ
noncomputable def f62_r5 (c : CallF) : RF := rg [4] <| aX 4 (pM (cn (.bool false))) <|
 aXZ
noncomputable def f62_r6 (c : CallF) : RF := rg [0, 1, 7, 8] <| aX 21 (pB .add 3 8 (cn (.int .i64 1))) <|
 aX 8 (pM 21) <|
 aXZ
noncomputable def f62_r7 (c : CallF) : RF := rg [4] <| aX 22 (pM 0) <|
 aX 23 (pLen 9 22) <|
 aX 24 (pB .geq 3 23 (cn (.int .i64 1))) <|
 aX 25 (pM 24) <|
 aX 26 (pG 25 true (pM 0)) <|
 aX 27 (pG 25 true (pLen 9 26)) <|
 aX 28 (pG 25 true (pM 1)) <|
 aX 29 (pG 25 true (pB .leq 3 27 28)) <|
 aX 30 (pP 25 29 (cn (.bool false))) <|
 aX 4 (pM 30) <|
 aXZ
noncomputable def f62_l2 (c : CallF) (k : Nat) : St :=
 (bSeq (bReg (f62_r2 c))
 (bSeq (bCond (.tmp 9) (bEx .nrm) (bEx (.ext 0)))
 (bSeq (bBlock 1 (bSeq (bReg (f62_r3 c))
 (bSeq (bReg (f62_r4 c))
 (bCond (.tmp 20) (bSeq (bReg (f62_r5 c))
 (bEx .ret)) (bEx .nrm)))))
 (bReg (f62_r6 c)))))
noncomputable def f62 (c : CallF) (k : Nat) : St :=
 (bSeq (bReg (f62_r0 c))
 (bSeq (bSeq (bReg (f62_r1 c))
 (bBlock 0 (bLoop [0, 1, 7, 8] (f62_l2 c k) k)))
 (bSeq (bReg (f62_r7 c))
 (bEx .ret))))
theorem f62_eq (c : CallF) (k : Nat) : exec cx c 31 f62_an k (Tryd.f62.body.getD .skip) = f62 c k := by kernel_rfl
/-! ### f63: loop.example/g01263/impl.halfText -/
def f63_an : Ann := ⟨[(0, r0 [1]), (1, r0 [1, 3]), (2, r0 [1, 3, 11]), (3, r0 [1, 3]), (4, ⟨[0], [], [], [], [1, 3, 4]⟩), (5, r0 [1, 3, 4, 14, 15]), (6, r0 [1, 3, 4, 14, 15, 16]), (7, r0 [1, 3, 4, 6, 14, 15]), (8, ⟨[5], [], [], [], [1, 3, 4, 14, 15]⟩), (9, r0 [1, 3, 4, 14, 15]), (10, ⟨[3], [], [], [], [1, 7]⟩), (11, r0 [7, 30, 31, 32]), (12, r0 [7, 30, 31, 32, 33]), (13, r0 [7, 9, 30, 31, 32]), (14, ⟨[13], [], [], [13, 14], [7, 30, 31, 32]⟩), (15, r0 [7, 30, 31, 32]), (16, r0 [2])], [(6, [1, 3, 4, 14, 15]), (12, [7, 30, 31, 32])]⟩
noncomputable def f63_r0 (c : CallF) : RF := rg [1] <| aX 1 (pBox 18 0) <|
 aX 2 (pM (cn (.str []))) <|
 aXZ
noncomputable def f63_r1 (c : CallF) : RF := rg [1, 3] <| aX 3 (pM (cn (.str [102, 111, 105, 108]))) <|
 aXZ
noncomputable def f63_r2 (c : CallF) : RF := rg [1, 3, 11] <| aX 10 (pF 0 1 1) <|
 aX 11 (pL false 1 10) <|
 aXZ
noncomputable def f63_r3 (c : CallF) : RF := rg [1, 3] <| aX 3 (pM (cn (.str [115, 116, 111, 99, 107]))) <|
 aXZ
noncomputable def f63_r4 (c : CallF) : RF := rg [1, 3, 4] <| aX 12 (fun n e M => aLitO false n 5 1 [] M) <|
 aX 4 (pM 12) <|
 aXZ
noncomputable def f63_r5 (c : CallF) : RF := rg [1, 3, 4, 14, 15] <| aX 13 (pF 2 16 1) <|
 aX 14 (pL true 16 13) <|
 aX 15 (pM (cn (.int .i64 0))) <|
 aXZ
noncomputable def f63_r6 (c : CallF) : RF := rg [1, 3, 4, 14, 15, 16] <| aX 16 (pB .lss 3 15 (cn (.int .i64 16))) <|
 aXZ
noncomputable def f63_r7 (c : CallF) : RF := rg [1, 3, 4, 6, 14, 15] <| aX 17 (fun n e M => keep (aIndexA false 16 1 (eget e 14) (eget e 15))) <|
 aX 6 (pM 17) <|
 aXZ
noncomputable def f63_r8 (c : CallF) : RF := rg [1, 3, 4, 14, 15] <| aX 18 (pM 4) <|
 aX 19 (pM 6) <|
 aX 20 (pB .add 23 (cn (.int .i8 100)) 19) <|
 aX 21 (fun n e M => keep (aConvI .u8 (eget e 20))) <|
 aX 22 (fun n e M => keep (aLitI 5 1 [(eget e 21)] M)) <|
 aX 23 (fun n e M => aAppO n 5 1 1 (eget e 18) (eget e 22) M) <|
 aX 4 (pM 23) <|
 aXZ
noncomputable def f63_r9 (c : CallF) : RF := rg [1, 3, 4, 14, 15] <| aX 24 (pB .add 3 15 (cn (.int .i64 1))) <|
 aX 15 (pM 24) <|
 aXZ
noncomputable def f63_r10 (c : CallF) : RF := rg [1, 7] <| aX 25 (pM 3) <|
 aX 26 (pM 4) <|
 aX 27 (fun n e M => keep (aConvB (eget e 26) M)) <|
 aX 28 (fun n e M => aLitO false n 9 1 [(eget e 25), (eget e 27)] M) <|
 aX 7 (pM 28) <|
 aXZ
noncomputable def f63_r11 (c : CallF) : RF := rg [7, 30, 31, 32] <| aX 29 (pF 1 1 1) <|
 aX 30 (pL false 1 29) <|
 aX 31 (pLen 31 30) <|
 aX 32 (pM (cn (.int .i64 0))) <|
 aXZ
noncomputable def f63_r12 (c : CallF) : RF := rg [7, 30, 31, 32, 33] <| aX 33 (pB .lss 3 32 31) <|
 aXZ
noncomputable def f63_r13 (c : CallF) : RF := rg [7, 9, 30, 31, 32] <| aX 34 (pI 2 30 32) <|
 aX 35 (pL true 2 34) <|
 aX 9 (pAl 99 2) <|
 aX0 (pS 2 9 35) <|
 aXZ
noncomputable def f63_r14 (c : CallF) : RF := rgD [7, 30, 31, 32] (aY 36 (pM 7) <|
 aY 37 (pF 0 1 9) <|
 aY 38 (pL false 1 37) <|
 aY 39 (pF 0 1 9) <|
 aY 40 (pL false 1 39) <|
 aY 41 (pB .add 23 40 (cn (.int .i8 1))) <|
 aY 42 (fun n e M => keep (aSliceS (some (eget e 38)) (some (eget e 41)) (.str [100, 115, 108, 118, 99, 109]))) <|
 aY 43 (pF 1 1 9) <|
 aY 44 (pL false 1 43) <|
 aY 45 (fun n e M => keep (aConvI .i64 (eget e 44))) <|
 aY 46 (pK c false 81 [45]) <|
 aY 47 (pB .add 9 42 46) <|
 aY 48 (fun n e M => keep (aLitI 9 1 [(eget e 47)] M)) <|
 aYZ)
 (aX 49 (fun n e M => aAppO n 9 1 16 (eget e 36) (eget e 48) M) <|
 aX 7 (pM 49) <|
 aXZ)
noncomputable def f63_r15 (c : CallF) : RF := rg [7, 30, 31, 32] <| aX 50 (pB .add 3 32 (cn (.int .i64 1))) <|
 aX 32 (pM 50) <|
 aXZ
noncomputable def f63_r16 (c : CallF) : RF := rg [2] <| aX 51 (pM 7) <|
 aX 52 (pK c false 82 [51, (cn (.str [32]))]) <|
 aX 2 (pM 52) <|
 aXZ
noncomputable def f63_l6 (c : CallF) (k : Nat) : St :=
 (bSeq (bReg (f63_r6 c))
 (bSeq (bCond (.tmp 16) (bEx .nrm) (bEx (.ext 0)))
 (bSeq (bBlock 1 (bSeq (bReg (f63_r7 c))
 (bReg (f63_r8 c))))
 (bReg (f63_r9 c)))))
noncomputable def f63_l12 (c : CallF) (k : Nat) : St :=
 (bSeq (bReg (f63_r12 c))
 (bSeq (bCond (.tmp 33) (bEx .nrm) (bEx (.ext 2)))
 (bSeq (bBlock 3 (bSeq (bReg (f63_r13 c))
 (bReg (f63_r14 c))))
 (bReg (f63_r15 c)))))
noncomputable def f63 (c : CallF) (k : Nat) : St :=
 (bSeq (bReg (f63_r0 c))
 (bSeq (bReg (f63_r1 c))
 (bSeq (bSeq (bReg (f63_r2 c))
 (bCond (.tmp 11) (bReg (f63_r3 c)) (bEx .nrm)))
 (bSeq (bReg (f63_r4 c))
 (bSeq (bSeq (bReg (f63_r5 c))
 (bBlock 0 (bLoop [1, 3, 4, 14, 15] (f63_l6 c k) k)))
 (bSeq (bReg (f63_r10 c))
 (bSeq (bSeq (bReg (f63_r11 c))
 (bBlock 2 (bLoop [7, 30, 31, 32] (f63_l12 c k) k)))
 (bSeq (bReg (f63_r16 c))
 (bEx .ret)))))))))
theorem f63_eq (c : CallF) (k : Nat) : exec cx c 53 f63_an k (Tryd.f63.body.getD .skip) = f63 c k := by kernel_rfl
/-! ### f64: loop.example/g01263/impl.four -/
def f64_an : Ann := ⟨[(0, r0 [0]), (1, r0 [2])], []⟩
noncomputable def f64_r0 (c : CallF) : RF := rg [0] <| aX 2 (pM (cn (.str []))) <|
 aXZ
noncomputable def f64_r1 (c : CallF) : RF := rg [2] <| aX 3 (pM 0) <|
 aX 4 (pB .shr 27 3 (cn (.int .u64 24))) <|
 aX 5 (fun n e M => keep (aConvI .u8 (eget e 4))) <|
 aX 6 (pM 0) <|
 aX 7 (pB .shr 27 6 (cn (.int .u64 16))) <|
 aX 8 (fun n e M => keep (aConvI .u8 (eget e 7))) <|
 aX 9 (pM 0) <|
 aX 10 (pB .shr 27 9 (cn (.int .u64 8))) <|
 aX 11 (fun n e M => keep (aConvI .u8 (eget e 10))) <|
 aX 12 (pM 0) <|
 aX 13 (fun n e M => keep (aConvI .u8 (eget e 12))) <|
 aX 14 (fun n e M => keep (aLitI 5 1 [(eget e 5), (eget e 8), (eget e 11), (eget e 13)] M)) <|
 aX 15 (fun n e M => keep (aConvB (eget e 14) M)) <|
 aX 2 (pM 15) <|
 aXZ
noncomputable def f64 (c : CallF) (k : Nat) : St :=
 (bSeq (bReg (f64_r0 c))
 (bSeq (bReg (f64_r1 c))
 (bEx .ret)))
theorem f64_eq (c : CallF) (k : Nat) : exec cx c 16 f64_an k (Tryd.f64.body.getD .skip) = f64 c k := by kernel_rfl
/-! ### f65: loop.example/g01263/laws.eqNotch -/
def f65_an : Ann := ⟨[(0, r0 [2, 3]), (1, r0 [2, 3, 9]), (2, r0 [4]), (3, r0 [14]), (4, r0 [4]), (5, r0 [4])], []⟩
noncomputable def f65_r0 (c : CallF) : RF := rg [2, 3] <| aX 2 (pBox 2 0) <|
 aX 3 (pBox 2 1) <|
 aX 4 (pM (cn (.bool false))) <|
 aXZ
noncomputable def f65_r1 (c : CallF) : RF := rg [2, 3, 9] <| aX 5 (pF 0 1 2) <|
 aX 6 (pL false 1 5) <|
 aX 7 (pF 0 1 3) <|
 aX 8 (pL false 1 7) <|
 aX 9 (pB .neq 23 6 8) <|
 aXZ
noncomputable def f65_r2 (c : CallF) : RF := rg [4] <| aX 4 (pM (cn (.bool false))) <|
 aXZ
noncomputable def f65_r3 (c : CallF) : RF := rg [14] <| aX 10 (pF 1 1 2) <|
 aX 11 (pL false 1 10) <|
 aX 12 (pF 1 1 3) <|
 aX 13 (pL false 1 12) <|
 aX 14 (pB .neq 97 11 13) <|
 aXZ
noncomputable def f65_r4 (c : CallF) : RF := rg [4] <| aX 4 (pM (cn (.bool false))) <|
 aXZ
noncomputable def f65_r5 (c : CallF) : RF := rg [4] <| aX 4 (pM (cn (.bool true))) <|
 aXZ
noncomputable def f65 (c : CallF) (k : Nat) : St :=
 (bSeq (bReg (f65_r0 c))
 (bSeq (bSeq (bReg (f65_r1 c))
 (bCond (.tmp 9) (bSeq (bReg (f65_r2 c))
 (bEx .ret)) (bEx .nrm)))
 (bSeq (bSeq (bReg (f65_r3 c))
 (bCond (.tmp 14) (bSeq (bReg (f65_r4 c))
 (bEx .ret)) (bEx .nrm)))
 (bSeq (bReg (f65_r5 c))
 (bEx .ret)))))
theorem f65_eq (c : CallF) (k : Nat) : exec cx c 15 f65_an k (Tryd.f65.body.getD .skip) = f65 c k := by kernel_rfl
/-! ### f66: loop.example/g01263/spec.l01Copy -/
def f66_an : Ann := ⟨[(0, r0 [0]), (1, r0 [2])], []⟩
noncomputable def f66_r0 (c : CallF) : RF := rg [0] <| aX 2 (pM (cn .nils)) <|
 aXZ
noncomputable def f66_r1 (c : CallF) : RF := rg [2] <| aX 3 (fun n e M => keep (aLitI 99 2 [] M)) <|
 aX 4 (pM 0) <|
 aX 5 (fun n e M => aAppI 99 2 4 (eget e 3) (eget e 4) M) <|
 aX 2 (pM 5) <|
 aXZ
noncomputable def f66 (c : CallF) (k : Nat) : St :=
 (bSeq (bReg (f66_r0 c))
 (bSeq (bReg (f66_r1 c))
 (bEx .ret)))
theorem f66_eq (c : CallF) (k : Nat) : exec cx c 6 f66_an k (Tryd.f66.body.getD .skip) = f66 c k := by kernel_rfl
/-! ### f67: slices.Clone[[]loop.example/g01263/impl.Notch,loop.example/g01263/impl.Notch] -/
def f67_an : Ann := ⟨[(0, r0 [0]), (1, r0 [0, 4]), (2, r0 [2]), (3, r0 [2])], []⟩
noncomputable def f67_r0 (c : CallF) : RF := rg [0] <| aX 2 (pM (cn .nils)) <|
 aXZ
noncomputable def f67_r1 (c : CallF) : RF := rg [0, 4] <| aX 3 (pM 0) <|
 aX 4 (pB .eql 31 3 (cn .nils)) <|
 aXZ
noncomputable def f67_r2 (c : CallF) : RF := rg [2] <| aX 2 (pM (cn .nils)) <|
 aXZ
noncomputable def f67_r3 (c : CallF) : RF := rg [2] <| aX 5 (fun n e M => keep (aLitI 99 2 [] M)) <|
 aX 6 (pM 0) <|
 aX 7 (fun n e M => aAppI 99 2 4 (eget e 5) (eget e 6) M) <|
 aX 2 (pM 7) <|
 aXZ
noncomputable def f67 (c : CallF) (k : Nat) : St :=
 (bSeq (bReg (f67_r0 c))
 (bSeq (bSeq (bReg (f67_r1 c))
 (bCond (.tmp 4) (bSeq (bReg (f67_r2 c))
 (bEx .ret)) (bEx .nrm)))
 (bSeq (bReg (f67_r3 c))
 (bEx .ret))))
theorem f67_eq (c : CallF) (k : Nat) : exec cx c 8 f67_an k (Tryd.f67.body.getD .skip) = f67 c k := by kernel_rfl
/-! ### f68: loop.example/g01263/laws.eqMark -/
def f68_an : Ann := ⟨[(0, r0 [2, 3]), (1, r0 [2, 3, 9]), (2, r0 [4]), (3, r0 [14]), (4, r0 [4]), (5, r0 [4])], []⟩
noncomputable def f68_r0 (c : CallF) : RF := rg [2, 3] <| aX 2 (pBox 2 0) <|
 aX 3 (pBox 2 1) <|
 aX 4 (pM (cn (.bool false))) <|
 aXZ
noncomputable def f68_r1 (c : CallF) : RF := rg [2, 3, 9] <| aX 5 (pF 0 1 2) <|
 aX 6 (pL false 1 5) <|
 aX 7 (pF 0 1 3) <|
 aX 8 (pL false 1 7) <|
 aX 9 (pB .neq 9 6 8) <|
 aXZ
noncomputable def f68_r2 (c : CallF) : RF := rg [4] <| aX 4 (pM (cn (.bool false))) <|
 aXZ
noncomputable def f68_r3 (c : CallF) : RF := rg [14] <| aX 10 (pF 1 1 2) <|
 aX 11 (pL false 1 10) <|
 aX 12 (pF 1 1 3) <|
 aX 13 (pL false 1 12) <|
 aX 14 (pB .neq 27 11 13) <|
 aXZ
noncomputable def f68_r4 (c : CallF) : RF := rg [4] <| aX 4 (pM (cn (.bool false))) <|
 aXZ
noncomputable def f68_r5 (c : CallF) : RF := rg [4] <| aX 4 (pM (cn (.bool true))) <|
 aXZ
noncomputable def f68 (c : CallF) (k : Nat) : St :=
 (bSeq (bReg (f68_r0 c))
 (bSeq (bSeq (bReg (f68_r1 c))
 (bCond (.tmp 9) (bSeq (bReg (f68_r2 c))
 (bEx .ret)) (bEx .nrm)))
 (bSeq (bSeq (bReg (f68_r3 c))
 (bCond (.tmp 14) (bSeq (bReg (f68_r4 c))
 (bEx .ret)) (bEx .nrm)))
 (bSeq (bReg (f68_r5 c))
 (bEx .ret)))))
theorem f68_eq (c : CallF) (k : Nat) : exec cx c 15 f68_an k (Tryd.f68.body.getD .skip) = f68 c k := by kernel_rfl
/-! ### f69: loop.example/g01263/laws.markText -/
def f69_an : Ann := ⟨[(0, r0 [0]), (1, r0 [0, 5]), (2, r0 [2]), (3, r0 [0, 3]), (4, r0 [0, 3, 7]), (5, r0 [0, 3]), (6, r0 [0, 3]), (7, r0 [2])], [(4, [0, 3])]⟩
noncomputable def f69_r0 (c : CallF) : RF := rg [0] <| aX 2 (pM (cn (.str []))) <|
 aXZ
noncomputable def f69_r1 (c : CallF) : RF := rg [0, 5] <| aX 4 (pM 0) <|
 aX 5 (pB .leq 3 4 (cn (.int .i64 0))) <|
 aXZ
noncomputable def f69_r2 (c : CallF) : RF := rg [2] <| aX 2 (pM (cn (.str [109, 48]))) <|
 aXZ
noncomputable def f69_r3 (c : CallF) : RF := rg [0, 3] <| aX 3 (pM (cn (.str []))) <|
 aXZ
noncomputable def f69_r4 (c : CallF) : RF := rg [0, 3, 7] <| aX 6 (pM 0) <|
 aX 7 (pB .gtr 3 6 (cn (.int .i64 0))) <|
 aXZ
noncomputable def f69_r5 (c : CallF) : RF := rg [0, 3] <| aX 8 (pM 0) <|
 aX 9 (pB .rem 3 8 (cn (.int .i64 10))) <|
 aX 10 (pB .add 3 (cn (.int .i64 48)) 9) <|
 aX 11 (fun n e M => keep (aConvI .u8 (eget e 10))) <|
 aX 12 (fun n e M => keep (aLitI 5 1 [(eget e 11)] M)) <|
 aX 13 (fun n e M => keep (aConvB (eget e 12) M)) <|
 aX 14 (pM 3) <|
 aX 15 (pB .add 9 13 14) <|
 aX 3 (pM 15) <|
 aXZ
noncomputable def f69_r6 (c : CallF) : RF := rg [0, 3] <| aX 16 (pM 0) <|
 aX 17 (pB .quo 3 16 (cn (.int .i64 10))) <|
 aX 0 (pM 17) <|
 aXZ
noncomputable def f69_r7 (c : CallF) : RF := rg [2] <| aX 18 (pM 3) <|
 aX 19 (pB .add 9 (cn (.str [109])) 18) <|
 aX 2 (pM 19) <|
 aXZ
noncomputable def f69_l4 (c : CallF) (k : Nat) : St :=
 (bSeq (bSeq (bReg (f69_r4 c))
 (bCond (.tmp 7) (bEx .nrm) (bEx (.ext 0))))
 (bBlock 1 (bSeq (bReg (f69_r5 c))
 (bReg (f69_r6 c)))))
noncomputable def f69 (c : CallF) (k : Nat) : St :=
 (bSeq (bReg (f69_r0 c))
 (bSeq (bSeq (bReg (f69_r1 c))
 (bCond (.tmp 5) (bSeq (bReg (f69_r2 c))
 (bEx .ret)) (bEx .nrm)))
 (bSeq (bReg (f69_r3 c))
 (bSeq (bBlock 0 (bLoop [0, 3] (f69_l4 c k) k))
 (bSeq (bReg (f69_r7 c))
 (bEx .ret))))))
theorem f69_eq (c : CallF) (k : Nat) : exec cx c 20 f69_an k (Tryd.f69.body.getD .skip) = f69 c k := by kernel_rfl
/-! ### f70: loop.example/g01263/laws.heldNotchS -/
def f70_an : Ann := ⟨[(0, r0 [0, 1]), (1, r0 [0, 1, 5]), (2, r0 [0, 1, 5, 9]), (3, r0 [0, 1, 5]), (4, r0 [0, 1, 5, 19]), (5, r0 [4]), (6, r0 [0, 1, 5]), (7, r0 [0, 1, 5, 29]), (8, r0 [4]), (9, r0 [0, 1, 5]), (10, r0 [4])], [(2, [0, 1, 5])]⟩
noncomputable def f70_r0 (c : CallF) : RF := rg [0, 1] <| aX 4 (pM (cn (.int .i64 0))) <|
 aXZ
noncomputable def f70_r1 (c : CallF) : RF := rg [0, 1, 5] <| aX 5 (pM (cn (.int .i64 0))) <|
 aXZ
noncomputable def f70_r2 (c : CallF) : RF := rg [0, 1, 5, 9] <| aX 6 (pM 5) <|
 aX 7 (pM 0) <|
 aX 8 (pLen 31 7) <|
 aX 9 (pB .lss 3 6 8) <|
 aXZ
noncomputable def f70_r3 (c : CallF) : RF := rg [0, 1, 5] <| aX 10 (pM 5) <|
 aX 11 (pB .add 3 10 (cn (.int .i64 1))) <|
 aX 5 (pM 11) <|
 aXZ
noncomputable def f70_r4 (c : CallF) : RF := rg [0, 1, 5, 19] <| aX 12 (pM 0) <|
 aX 13 (pM 5) <|
 aX 14 (pI 2 12 13) <|
 aX 15 (pF 0 1 14) <|
 aX 16 (pL false 1 15) <|
 aX 17 (pM 1) <|
 aX 18 (fun n e M => keep (aConvI .i8 (eget e 17))) <|
 aX 19 (pB .neq 23 16 18) <|
 aXZ
noncomputable def f70_r5 (c : CallF) : RF := rg [4] <| aX 4 (pM (cn (.int .i64 (-1)))) <|
 aXZ
noncomputable def f70_r6 (c : CallF) : RF := rg [0, 1, 5] <| aX 20 (pM 1) <|
 aX 21 (pB .add 3 20 (cn (.int .i64 1))) <|
 aX 1 (pM 21) <|
 aXZ
noncomputable def f70_r7 (c : CallF) : RF := rg [0, 1, 5, 29] <| aX 22 (pM 0) <|
 aX 23 (pM 5) <|
 aX 24 (pI 2 22 23) <|
 aX 25 (pF 1 1 24) <|
 aX 26 (pL false 1 25) <|
 aX 27 (pM 1) <|
 aX 28 (fun n e M => keep (aConvI .i16 (eget e 27))) <|
 aX 29 (pB .neq 97 26 28) <|
 aXZ
noncomputable def f70_r8 (c : CallF) : RF := rg [4] <| aX 4 (pM (cn (.int .i64 (-1)))) <|
 aXZ
noncomputable def f70_r9 (c : CallF) : RF := rg [0, 1, 5] <| aX 30 (pM 1) <|
 aX 31 (pB .add 3 30 (cn (.int .i64 1))) <|
 aX 1 (pM 31) <|
 aXZ
noncomputable def f70_r10 (c : CallF) : RF := rg [4] <| aX 32 (pM 1) <|
 aX 4 (pM 32) <|
 aXZ
noncomputable def f70_l2 (c : CallF) (k : Nat) : St :=
 (bSeq (bSeq (bReg (f70_r2 c))
 (bCond (.tmp 9) (bEx .nrm) (bEx (.ext 0))))
 (bSeq (bBlock 1 (bSeq (bSeq (bReg (f70_r4 c))
 (bCond (.tmp 19) (bSeq (bReg (f70_r5 c))
 (bEx .ret)) (bEx .nrm)))
 (bSeq (bReg (f70_r6 c))
 (bSeq (bSeq (bReg (f70_r7 c))
 (bCond (.tmp 29) (bSeq (bReg (f70_r8 c))
 (bEx .ret)) (bEx .nrm)))
 (bReg (f70_r9 c))))))
 (bReg (f70_r3 c))))
noncomputable def f70 (c : CallF) (k : Nat) : St :=
 (bSeq (bReg (f70_r0 c))
 (bSeq (bSeq (bReg (f70_r1 c))
 (bBlock 0 (bLoop [0, 1, 5] (f70_l2 c k) k)))
 (bSeq (bReg (f70_r10 c))
 (bEx .ret))))
theorem f70_eq (c : CallF) (k : Nat) : exec cx c 33 f70_an k (Tryd.f70.body.getD .skip) = f70 c k := by kernel_rfl
/-! ### f72: loop.example/g01263/spec.l00In -/
def f72_an : Ann := ⟨[(0, r0 [0, 1, 2]), (1, r0 [6])], []⟩
noncomputable def f72_r0 (c : CallF) : RF := rg [0, 1, 2] <| aX 6 (pM (cn (.bool false))) <|
 aXZ
noncomputable def f72_r1 (c : CallF) : RF := rg [6] <| aX 7 (pM 0) <|
 aX 8 (pM 1) <|
 aX 9 (pB .geq 2 7 8) <|
 aX 10 (pM 9) <|
 aX 11 (pG 10 true (pM 0)) <|
 aX 12 (pG 10 true (pM 2)) <|
 aX 13 (pG 10 true (pB .leq 2 11 12)) <|
 aX 14 (pP 10 13 (cn (.bool false))) <|
 aX 6 (pM 14) <|
 aXZ
noncomputable def f72 (c : CallF) (k : Nat) : St :=
 (bSeq (bReg (f72_r0 c))
 (bSeq (bReg (f72_r1 c))
 (bEx .ret)))
theorem f72_eq (c : CallF) (k : Nat) : exec cx c 15 f72_an k (Tryd.f72.body.getD .skip) = f72 c k := by kernel_rfl
/-! ### f76: loop.example/g01263/spec.l01Kind -/
def f76_an : Ann := ⟨[(0, r0 [0]), (1, r0 [2])], []⟩
noncomputable def f76_r0 (c : CallF) : RF := rg [0] <| aX 2 (pM (cn (.bool false))) <|
 aXZ
noncomputable def f76_r1 (c : CallF) : RF := rg [2] <| aX 3 (pM 0) <|
 aX 4 (pK c false 72 [3, (cn (.int .i64 0)), (cn (.int .i64 5))]) <|
 aX 2 (pM 4) <|
 aXZ
noncomputable def f76 (c : CallF) (k : Nat) : St :=
 (bSeq (bReg (f76_r0 c))
 (bSeq (bReg (f76_r1 c))
 (bEx .ret)))
theorem f76_eq (c : CallF) (k : Nat) : exec cx c 5 f76_an k (Tryd.f76.body.getD .skip) = f76 c k := by kernel_rfl
/-! ### f77: loop.example/g01263/spec.l01Ends -/
def f77_an : Ann := ⟨[(0, r0 [1]), (1, r0 [2])], []⟩
noncomputable def f77_r0 (c : CallF) : RF := rg [1] <| aX 1 (pBox 2 0) <|
 aX 2 (pM (cn (.int .i64 0))) <|
 aXZ
noncomputable def f77_r1 (c : CallF) : RF := rgD [2] (aY 3 (pF 1 1 1) <|
 aY 4 (pL false 1 3) <|
 aY 5 (fun n e M => keep (aConvI .i64 (eget e 4))) <|
 aY 6 (pK c false 83 []) <|
 aY 7 (pF 0 1 1) <|
 aY 8 (pL false 1 7) <|
 aY 9 (pI 1 6 8) <|
 aY 10 (pL false 1 9) <|
 aY 11 (pB .add 2 5 10) <|
 aY 2 (pM 11) <|
 aYZ)
 (aXZ)
noncomputable def f77 (c : CallF) (k : Nat) : St :=
 (bSeq (bReg (f77_r0 c))
 (bSeq (bReg (f77_r1 c))
 (bEx .ret)))
theorem f77_eq (c : CallF) (k : Nat) : exec cx c 12 f77_an k (Tryd.f77.body.getD .skip) = f77 c k := by kernel_rfl
/-! ### f78: loop.example/g01263/spec.l01Letters -/
def f78_an : Ann := ⟨[(0, r0 []), (1, r0 [0])], []⟩
noncomputable def f78_r0 (c : CallF) : RF := rg [] <| aX 0 (pM (cn (.str []))) <|
 aXZ
noncomputable def f78_r1 (c : CallF) : RF := rg [0] <| aX 0 (pM (cn (.str [100, 115, 108, 118, 99, 109]))) <|
 aXZ
noncomputable def f78 (c : CallF) (k : Nat) : St :=
 (bSeq (bReg (f78_r0 c))
 (bSeq (bReg (f78_r1 c))
 (bEx .ret)))
theorem f78_eq (c : CallF) (k : Nat) : exec cx c 1 f78_an k (Tryd.f78.body.getD .skip) = f78 c k := by kernel_rfl
/-! ### f79: loop.example/g01263/spec.Decimal -/
def f79_an : Ann := ⟨[(0, r0 [0]), (1, r0 [0, 4]), (2, r0 [2]), (3, r0 [2])], []⟩
noncomputable def f79_r0 (c : CallF) : RF := rg [0] <| aX 2 (pM (cn (.str []))) <|
 aXZ
noncomputable def f79_r1 (c : CallF) : RF := rg [0, 4] <| aX 3 (pM 0) <|
 aX 4 (pB .lss 2 3 (cn (.int .i64 10))) <|
 aXZ
noncomputable def f79_r2 (c : CallF) : RF := rg [2] <| aX 5 (pM 0) <|
 aX 6 (pB .rem 2 5 (cn (.int .i64 10))) <|
 aX 7 (pB .add 2 (cn (.int .i64 48)) 6) <|
 aX 8 (fun n e M => keep (aConvI .u8 (eget e 7))) <|
 aX 9 (fun n e M => keep (aLitI 5 1 [(eget e 8)] M)) <|
 aX 10 (fun n e M => keep (aConvB (eget e 9) M)) <|
 aX 2 (pM 10) <|
 aXZ
noncomputable def f79_r3 (c : CallF) : RF := rgD [2] (aY 11 (pM 0) <|
 aY 12 (pB .quo 2 11 (cn (.int .i64 10))) <|
 aY 13 (pK c false 79 [12]) <|
 aY 14 (pM 0) <|
 aY 15 (pB .rem 2 14 (cn (.int .i64 10))) <|
 aY 16 (pB .add 2 (cn (.int .i64 48)) 15) <|
 aY 17 (fun n e M => keep (aConvI .u8 (eget e 16))) <|
 aY 18 (fun n e M => keep (aLitI 5 1 [(eget e 17)] M)) <|
 aY 19 (fun n e M => keep (aConvB (eget e 18) M)) <|
 aY 20 (pB .add 9 13 19) <|
 aY 2 (pM 20) <|
 aYZ)
 (aXZ)
noncomputable def f79 (c : CallF) (k : Nat) : St :=
 (bSeq (bReg (f79_r0 c))
 (bSeq (bSeq (bReg (f79_r1 c))
 (bCond (.tmp 4) (bSeq (bReg (f79_r2 c))
 (bEx .ret)) (bEx .nrm)))
 (bSeq (bReg (f79_r3 c))
 (bEx .ret))))
theorem f79_eq (c : CallF) (k : Nat) : exec cx c 21 f79_an k (Tryd.f79.body.getD .skip) = f79 c k := by kernel_rfl
/-! ### f80: loop.example/g01263/impl.width -/
def f80_an : Ann := ⟨[(0, r0 [0]), (1, r0 [2])], []⟩
noncomputable def f80_r0 (c : CallF) : RF := rg [0] <| aX 2 (pM (cn (.int .i64 0))) <|
 aXZ
noncomputable def f80_r1 (c : CallF) : RF := rg [2] <| aX 3 (fun n e M => keep (aLitI 2 1 [(.int .i64 1), (.int .i64 2), (.int .i64 4), (.int .i64 6), (.int .i64 9), (.int .i64 12)] M)) <|
 aX 4 (pM 0) <|
 aX 5 (pI 1 3 4) <|
 aX 6 (pL false 1 5) <|
 aX 2 (pM 6) <|
 aXZ
noncomputable def f80 (c : CallF) (k : Nat) : St :=
 (bSeq (bReg (f80_r0 c))
 (bSeq (bReg (f80_r1 c))
 (bEx .ret)))
theorem f80_eq (c : CallF) (k : Nat) : exec cx c 7 f80_an k (Tryd.f80.body.getD .skip) = f80 c k := by kernel_rfl
/-! ### f81: loop.example/g01263/impl.decimal -/
def f81_an : Ann := ⟨[(0, r0 [0]), (1, r0 [2])], []⟩
noncomputable def f81_r0 (c : CallF) : RF := rg [0] <| aX 2 (pM (cn (.str []))) <|
 aXZ
noncomputable def f81_r1 (c : CallF) : RF := rg [2] <| aX 3 (pM 0) <|
 aX 4 (pK c false 84 [3, (cn (.int .i64 10))]) <|
 aX 2 (pM 4) <|
 aXZ
noncomputable def f81 (c : CallF) (k : Nat) : St :=
 (bSeq (bReg (f81_r0 c))
 (bSeq (bReg (f81_r1 c))
 (bEx .ret)))
theorem f81_eq (c : CallF) (k : Nat) : exec cx c 5 f81_an k (Tryd.f81.body.getD .skip) = f81 c k := by kernel_rfl
/-! ### f83: loop.example/g01263/spec.l01Widths -/
def f83_an : Ann := ⟨[(0, r0 []), (1, r0 [0])], []⟩
noncomputable def f83_r0 (c : CallF) : RF := rg [] <| aX 0 (pM (cn .nils)) <|
 aXZ
noncomputable def f83_r1 (c : CallF) : RF := rg [0] <| aX 1 (fun n e M => keep (aLitI 2 1 [(.int .i64 1), (.int .i64 2), (.int .i64 4), (.int .i64 6), (.int .i64 9), (.int .i64 12)] M)) <|
 aX 0 (pM 1) <|
 aXZ
noncomputable def f83 (c : CallF) (k : Nat) : St :=
 (bSeq (bReg (f83_r0 c))
 (bSeq (bReg (f83_r1 c))
 (bEx .ret)))
theorem f83_eq (c : CallF) (k : Nat) : exec cx c 2 f83_an k (Tryd.f83.body.getD .skip) = f83 c k := by kernel_rfl
def anns : List (Nat × Ann) := [(4, f4_an), (6, f6_an), (8, f8_an), (10, f10_an), (11, f11_an), (12, f12_an), (13, f13_an), (14, f14_an), (15, f15_an), (16, f16_an), (17, f17_an), (18, f18_an), (26, f26_an), (27, f27_an), (28, f28_an), (29, f29_an), (30, f30_an), (31, f31_an), (32, f32_an), (33, f33_an), (34, f34_an), (35, f35_an), (36, f36_an), (37, f37_an), (38, f38_an), (39, f39_an), (40, f40_an), (41, f41_an), (42, f42_an), (43, f43_an), (53, f53_an), (54, f54_an), (55, f55_an), (56, f56_an), (57, f57_an), (58, f58_an), (59, f59_an), (60, f60_an), (61, f61_an), (62, f62_an), (63, f63_an), (64, f64_an), (65, f65_an), (66, f66_an), (67, f67_an), (68, f68_an), (69, f69_an), (70, f70_an), (72, f72_an), (76, f76_an), (77, f77_an), (78, f78_an), (79, f79_an), (80, f80_an), (81, f81_an), (83, f83_an)]
noncomputable def CN0 : Nat → CallF := callN cx (Go.Ab.look anns) (fun _ _ _ => none) (fun _ => false)
def isP (f : Nat) : Bool := has [67, 82, 84] f
noncomputable def primF : CallF := splitNil (callN cx (Go.Ab.look anns) (fun _ _ _ => none) (fun _ => false) 3)
noncomputable def CN : Nat → CallF := callN cx (Go.Ab.look anns) (withLib libT primF) isP
end Go.Proofs.YtonpeobfmgdamaaDoor

/- Printed by a program of ours (ext.py). -/
import Derived.Test.YtonpeobfmgdamabDoorAbLib
import Derived.Test.YtonpeobfmgdamabDoorProg
set_option linter.unusedVariables false
set_option linter.unusedSimpArgs false
set_option maxRecDepth 100000
set_option maxHeartbeats 2000000
namespace Go.Proofs.YtonpeobfmgdamabDoor
open Go Go.Ab
noncomputable def cx : Cx := ⟨Tryd.prog, fun f => has [22, 53, 54, 86] f⟩
noncomputable abbrev pB := pB_ cx.P
noncomputable abbrev pLen := pLen_ cx.P
noncomputable abbrev pAl := pAl_ cx.P
noncomputable abbrev pK := pK_ cx
/-! ### f4: loop.example/g01263/laws.FnExactPassOn -/
def f4_an : Ann := ⟨[(0, r0 [2, 3, 4]), (1, r0 [2, 3, 4, 20]), (2, r0 [6]), (3, r0 [2, 3, 4, 7]), (4, r0 [2, 3, 4, 7]), (5, r0 [2, 3, 4, 7, 25]), (6, r0 [6]), (7, r0 [2, 3, 4, 7]), (8, r0 [2, 3, 4, 30]), (9, r0 [6]), (10, ⟨[], [], [8], [10, 11], [2, 3, 4, 8, 9]⟩), (11, ⟨[], [1], [], [], [2, 3, 4, 8, 9, 10]⟩), (12, ⟨[], [4], [7], [9, 10], [2, 3, 4, 8, 9, 10, 11, 12]⟩), (13, r0 [2, 3, 4, 8, 9, 10, 11, 12, 58]), (14, r0 [6]), (15, r0 [2, 3, 4, 8, 9, 10, 11, 12, 63]), (16, r0 [6]), (17, r0 [2, 3, 4, 8, 9, 10, 11, 12, 13]), (18, r0 [2, 3, 4, 8, 9, 11, 12, 13]), (19, r0 [2, 3, 4, 8, 9, 11, 79]), (20, r0 [6]), (21, r0 [2, 3, 4, 8, 9, 11, 14]), (22, r0 [2, 3, 4, 8, 9, 11, 14]), (23, r0 [2, 3, 4, 8, 9, 11, 14, 15]), (24, r0 [2, 3, 4, 8, 9, 11, 14, 15]), (25, r0 [2, 3, 4, 8, 9, 11, 14, 15, 87]), (26, r0 [6]), (27, r0 [2, 3, 4, 8, 9, 11, 14, 90]), (28, r0 [6]), (29, ⟨[], [], [8], [10, 11], [8, 9, 11, 14, 16, 17]⟩), (30, r0 [11, 14, 108]), (31, r0 [6]), (32, r0 [11, 14, 15]), (33, r0 [14, 15]), (34, r0 [14, 15, 113]), (35, r0 [6]), (36, r0 [116]), (37, r0 [6]), (38, r0 [6])], []⟩
noncomputable def f4_r0 (c : CallF) : RF := rg [2, 3, 4] <| aX 3 (pBox 20 0) <|
 aX 4 (pBox 2 1) <|
 aX 6 (pM (cn (.bool false))) <|
 aXZ
noncomputable def f4_r1 (c : CallF) : RF := rg [2, 3, 4, 20] <| aX 18 (pM 2) <|
 aX 19 (pLen 9 18) <|
 aX 20 (pB .gtr 3 19 (cn (.int .i64 1048576))) <|
 aXZ
noncomputable def f4_r2 (c : CallF) : RF := rg [6] <| aX 6 (pM (cn (.bool true))) <|
 aXZ
noncomputable def f4_r3 (c : CallF) : RF := rg [2, 3, 4, 7] <| aX 7 (pM (cn (.int .i64 1048576))) <|
 aXZ
noncomputable def f4_r4 (c : CallF) : RF := rg [2, 3, 4, 7] <| aX 21 (pL true 20 3) <|
 aX 22 (pM 7) <|
 aX 23 (pK c false 16 [21, 22]) <|
 aX 7 (pM 23) <|
 aXZ
noncomputable def f4_r5 (c : CallF) : RF := rg [2, 3, 4, 7, 25] <| aX 24 (pM 7) <|
 aX 25 (pB .lss 3 24 (cn (.int .i64 0))) <|
 aXZ
noncomputable def f4_r6 (c : CallF) : RF := rg [6] <| aX 6 (pM (cn (.bool true))) <|
 aXZ
noncomputable def f4_r7 (c : CallF) : RF := rg [2, 3, 4, 7] <| aX 26 (pL true 2 4) <|
 aX 27 (pM 7) <|
 aX 28 (pK c false 17 [26, 27]) <|
 aX 7 (pM 28) <|
 aXZ
noncomputable def f4_r8 (c : CallF) : RF := rg [2, 3, 4, 30] <| aX 29 (pM 7) <|
 aX 30 (pB .lss 3 29 (cn (.int .i64 0))) <|
 aXZ
noncomputable def f4_r9 (c : CallF) : RF := rg [6] <| aX 6 (pM (cn (.bool true))) <|
 aXZ
noncomputable def f4_r10 (c : CallF) : RF := rgD [2, 3, 4, 8, 9] (aY 32 (pL true 20 3) <|
 aY 33 (pK c false 19 [32]) <|
 aY 34 (pL true 2 4) <|
 aY 35 (pK c false 20 [34]) <|
 aY 36 (pM 2) <|
 aY 37 (pK c false 18 [33, 35, 36]) <|
 aY 31 (pM 37) <|
 aY 38 (pE 0 31) <|
 aYc 39 (pE 1 31) <|
 aY 8 (pAl 34 20) <|
 aYZ)
 (aX0 (pS 20 8 38) <|
 aX 9 (pM 39) <|
 aXZ)
noncomputable def f4_r11 (c : CallF) : RF := rg [2, 3, 4, 8, 9, 10] <| aX 40 (pL true 20 3) <|
 aX 41 (pK c true 19 [40]) <|
 aX 10 (pAl 34 20) <|
 aX0 (pS 20 10 41) <|
 aXZ
noncomputable def f4_r12 (c : CallF) : RF := rgD [2, 3, 4, 8, 9, 10, 11, 12] (aY 43 (pL true 20 10) <|
 aY 44 (pL true 2 4) <|
 aY 45 (pK c false 20 [44]) <|
 aY 46 (pM 2) <|
 aY 47 (pK c true 13 [43, 45, 46]) <|
 aY 42 (pM 47) <|
 aY 48 (pE 0 42) <|
 aYc 49 (pE 1 42) <|
 aY 11 (pAl 34 20) <|
 aYZ)
 (aX0 (pS 20 11 48) <|
 aX 12 (pM 49) <|
 aXZ)
noncomputable def f4_r13 (c : CallF) : RF := rg [2, 3, 4, 8, 9, 10, 11, 12, 58] <| aX 50 (pL true 20 11) <|
 aX 51 (pL true 20 8) <|
 aX 52 (pK c false 21 [50, 51]) <|
 aX 53 (pU .not 52) <|
 aX 54 (pM 53) <|
 aX 55 (pG 54 false (pM 12)) <|
 aX 56 (pG 54 false (pM 9)) <|
 aX 57 (pG 54 false (pB .neq 2 55 56)) <|
 aX 58 (pP 54 (cn (.bool true)) 57) <|
 aXZ
noncomputable def f4_r14 (c : CallF) : RF := rg [6] <| aX 6 (pM (cn (.bool false))) <|
 aXZ
noncomputable def f4_r15 (c : CallF) : RF := rgD [2, 3, 4, 8, 9, 10, 11, 12, 63] (aY 59 (pL true 20 10) <|
 aY 60 (pL true 20 3) <|
 aY 61 (pK c false 19 [60]) <|
 aY 62 (pK c false 21 [59, 61]) <|
 aY 63 (pU .not 62) <|
 aYZ)
 (aXZ)
noncomputable def f4_r16 (c : CallF) : RF := rg [6] <| aX 6 (pM (cn (.bool false))) <|
 aXZ
noncomputable def f4_r17 (c : CallF) : RF := rg [2, 3, 4, 8, 9, 10, 11, 12, 13] <| aX 13 (pM (cn (.int .i64 1))) <|
 aXZ
noncomputable def f4_r18 (c : CallF) : RF := rg [2, 3, 4, 8, 9, 11, 12, 13] <| aX 64 (pL true 20 10) <|
 aX 65 (pM 13) <|
 aX 66 (pK c false 22 [64, 65]) <|
 aX 13 (pM 66) <|
 aXZ
noncomputable def f4_r19 (c : CallF) : RF := rg [2, 3, 4, 8, 9, 11, 79] <| aX 67 (pM 13) <|
 aX 68 (pB .lss 3 67 (cn (.int .i64 0))) <|
 aX 69 (pM 68) <|
 aX 70 (pG 69 false (pL true 20 11)) <|
 aX 71 (pG 69 false (pL true 20 8)) <|
 aX 72 (pG 69 false (pK c false 21 [70, 71])) <|
 aX 73 (pG 69 false (pU .not 72)) <|
 aX 74 (pP 69 (cn (.bool true)) 73) <|
 aX 75 (pM 74) <|
 aX 76 (pG 75 false (pM 12)) <|
 aX 77 (pG 75 false (pM 9)) <|
 aX 78 (pG 75 false (pB .neq 2 76 77)) <|
 aX 79 (pP 75 (cn (.bool true)) 78) <|
 aXZ
noncomputable def f4_r20 (c : CallF) : RF := rg [6] <| aX 6 (pM (cn (.bool false))) <|
 aXZ
noncomputable def f4_r21 (c : CallF) : RF := rg [2, 3, 4, 8, 9, 11, 14] <| aX 14 (pM (cn (.int .i64 1))) <|
 aXZ
noncomputable def f4_r22 (c : CallF) : RF := rg [2, 3, 4, 8, 9, 11, 14] <| aX 80 (pL true 20 11) <|
 aX 81 (pM 14) <|
 aX 82 (pK c false 22 [80, 81]) <|
 aX 14 (pM 82) <|
 aXZ
noncomputable def f4_r23 (c : CallF) : RF := rg [2, 3, 4, 8, 9, 11, 14, 15] <| aX 15 (pM (cn (.int .i64 1))) <|
 aXZ
noncomputable def f4_r24 (c : CallF) : RF := rg [2, 3, 4, 8, 9, 11, 14, 15] <| aX 83 (pL true 20 11) <|
 aX 84 (pM 15) <|
 aX 85 (pK c false 23 [83, 84]) <|
 aX 15 (pM 85) <|
 aXZ
noncomputable def f4_r25 (c : CallF) : RF := rg [2, 3, 4, 8, 9, 11, 14, 15, 87] <| aX 86 (pM 15) <|
 aX 87 (pB .lss 3 86 (cn (.int .i64 0))) <|
 aXZ
noncomputable def f4_r26 (c : CallF) : RF := rg [6] <| aX 6 (pM (cn (.bool false))) <|
 aXZ
noncomputable def f4_r27 (c : CallF) : RF := rg [2, 3, 4, 8, 9, 11, 14, 90] <| aX 88 (pM 15) <|
 aX 89 (pM 14) <|
 aX 90 (pB .neq 3 88 89) <|
 aXZ
noncomputable def f4_r28 (c : CallF) : RF := rg [6] <| aX 6 (pM (cn (.bool false))) <|
 aXZ
noncomputable def f4_r29 (c : CallF) : RF := rgD [8, 9, 11, 14, 16, 17] (aY 92 (pL true 20 3) <|
 aY 93 (pK c false 19 [92]) <|
 aY 94 (pL true 2 4) <|
 aY 95 (pK c false 20 [94]) <|
 aY 96 (pM 2) <|
 aY 97 (pK c false 13 [93, 95, 96]) <|
 aY 91 (pM 97) <|
 aY 98 (pE 0 91) <|
 aYc 99 (pE 1 91) <|
 aY 16 (pAl 34 20) <|
 aYZ)
 (aX0 (pS 20 16 98) <|
 aX 17 (pM 99) <|
 aXZ)
noncomputable def f4_r30 (c : CallF) : RF := rg [11, 14, 108] <| aX 100 (pL true 20 16) <|
 aX 101 (pL true 20 8) <|
 aX 102 (pK c false 21 [100, 101]) <|
 aX 103 (pU .not 102) <|
 aX 104 (pM 103) <|
 aX 105 (pG 104 false (pM 17)) <|
 aX 106 (pG 104 false (pM 9)) <|
 aX 107 (pG 104 false (pB .neq 2 105 106)) <|
 aX 108 (pP 104 (cn (.bool true)) 107) <|
 aXZ
noncomputable def f4_r31 (c : CallF) : RF := rg [6] <| aX 6 (pM (cn (.bool false))) <|
 aXZ
noncomputable def f4_r32 (c : CallF) : RF := rg [11, 14, 15] <| aX 15 (pM (cn (.int .i64 1))) <|
 aXZ
noncomputable def f4_r33 (c : CallF) : RF := rg [14, 15] <| aX 109 (pL true 20 11) <|
 aX 110 (pM 15) <|
 aX 111 (pK c false 23 [109, 110]) <|
 aX 15 (pM 111) <|
 aXZ
noncomputable def f4_r34 (c : CallF) : RF := rg [14, 15, 113] <| aX 112 (pM 15) <|
 aX 113 (pB .lss 3 112 (cn (.int .i64 0))) <|
 aXZ
noncomputable def f4_r35 (c : CallF) : RF := rg [6] <| aX 6 (pM (cn (.bool false))) <|
 aXZ
noncomputable def f4_r36 (c : CallF) : RF := rg [116] <| aX 114 (pM 15) <|
 aX 115 (pM 14) <|
 aX 116 (pB .neq 3 114 115) <|
 aXZ
noncomputable def f4_r37 (c : CallF) : RF := rg [6] <| aX 6 (pM (cn (.bool false))) <|
 aXZ
noncomputable def f4_r38 (c : CallF) : RF := rg [6] <| aX 6 (pM (cn (.bool true))) <|
 aXZ
noncomputable def f4 (c : CallF) (k : Nat) : St :=
 (bSeq (bReg (f4_r0 c))
 (bSeq (bSeq (bReg (f4_r1 c))
 (bCond (.tmp 20) (bSeq (bReg (f4_r2 c))
 (bEx .ret)) (bEx .nrm)))
 (bSeq (bReg (f4_r3 c))
 (bSeq (bReg (f4_r4 c))
 (bSeq (bSeq (bReg (f4_r5 c))
 (bCond (.tmp 25) (bSeq (bReg (f4_r6 c))
 (bEx .ret)) (bEx .nrm)))
 (bSeq (bReg (f4_r7 c))
 (bSeq (bSeq (bReg (f4_r8 c))
 (bCond (.tmp 30) (bSeq (bReg (f4_r9 c))
 (bEx .ret)) (bEx .nrm)))
 (bSeq (bReg (f4_r10 c))
 (bSeq (bReg (f4_r11 c))
 (bSeq (bReg (f4_r12 c))
 (bSeq (bSeq (bReg (f4_r13 c))
 (bCond (.tmp 58) (bSeq (bReg (f4_r14 c))
 (bEx .ret)) (bEx .nrm)))
 (bSeq (bSeq (bReg (f4_r15 c))
 (bCond (.tmp 63) (bSeq (bReg (f4_r16 c))
 (bEx .ret)) (bEx .nrm)))
 (bSeq (bReg (f4_r17 c))
 (bSeq (bReg (f4_r18 c))
 (bSeq (bSeq (bReg (f4_r19 c))
 (bCond (.tmp 79) (bSeq (bReg (f4_r20 c))
 (bEx .ret)) (bEx .nrm)))
 (bSeq (bReg (f4_r21 c))
 (bSeq (bReg (f4_r22 c))
 (bSeq (bReg (f4_r23 c))
 (bSeq (bReg (f4_r24 c))
 (bSeq (bSeq (bReg (f4_r25 c))
 (bCond (.tmp 87) (bSeq (bReg (f4_r26 c))
 (bEx .ret)) (bEx .nrm)))
 (bSeq (bSeq (bReg (f4_r27 c))
 (bCond (.tmp 90) (bSeq (bReg (f4_r28 c))
 (bEx .ret)) (bEx .nrm)))
 (bSeq (bReg (f4_r29 c))
 (bSeq (bSeq (bReg (f4_r30 c))
 (bCond (.tmp 108) (bSeq (bReg (f4_r31 c))
 (bEx .ret)) (bEx .nrm)))
 (bSeq (bReg (f4_r32 c))
 (bSeq (bReg (f4_r33 c))
 (bSeq (bSeq (bReg (f4_r34 c))
 (bCond (.tmp 113) (bSeq (bReg (f4_r35 c))
 (bEx .ret)) (bEx .nrm)))
 (bSeq (bSeq (bReg (f4_r36 c))
 (bCond (.tmp 116) (bSeq (bReg (f4_r37 c))
 (bEx .ret)) (bEx .nrm)))
 (bSeq (bReg (f4_r38 c))
 (bEx .ret)))))))))))))))))))))))))))))
theorem f4_eq (c : CallF) (k : Nat) : exec cx c 117 f4_an k (Tryd.f4.body.getD .skip) = f4 c k := by kernel_rfl
/-! ### f13: loop.example/g01263/impl.PassOn -/
def f13_an : Ann := ⟨[(0, r0 [2, 3, 4, 6]), (1, r0 [2, 3, 4, 6, 9]), (2, ⟨[1], [], [], [], [6, 7]⟩), (3, r0 [2, 3, 4, 6, 14]), (4, ⟨[1], [], [], [], [6, 7]⟩), (5, r0 [2, 3, 4, 6, 22]), (6, ⟨[1], [], [], [], [6, 7]⟩), (7, r0 [2, 3, 4, 6, 33]), (8, ⟨[1], [], [], [], [6, 7]⟩), (9, ⟨[], [], [], [12], [3, 6, 8]⟩), (10, ⟨[10, 12], [4, 7], [0, 1], [10, 11, 12, 13], [6, 7]⟩)], []⟩
noncomputable def f13_r0 (c : CallF) : RF := rg [2, 3, 4, 6] <| aX 3 (pBox 20 0) <|
 aX 4 (pBox 2 1) <|
 aX 6 (pAl 34 20) <|
 aX 7 (pM (cn (.int .i64 0))) <|
 aXZ
noncomputable def f13_r1 (c : CallF) : RF := rg [2, 3, 4, 6, 9] <| aX 10 (pL true 20 3) <|
 aX 11 (pK c false 28 [10]) <|
 aX 12 (pU .not 11) <|
 aX 9 (pM 12) <|
 aXZ
noncomputable def f13_r2 (c : CallF) : RF := rg [6, 7] <| aX 13 (fun n e M => keep (aBuild (zeroOf cx.P 34) [] M)) <|
 aX0 (pSK 20 6 13) <|
 aX 7 (pM (cn (.int .i64 1))) <|
 aXZ
noncomputable def f13_r3 (c : CallF) : RF := rgD [2, 3, 4, 6, 14] (aY 15 (pF 0 1 4) <|
 aY 16 (pL false 1 15) <|
 aY 17 (pL true 20 3) <|
 aY 18 (pK c false 37 [17]) <|
 aY 19 (fun n e M => keep (aField false 0 1 (eget e 18))) <|
 aY 20 (pB .neq 9 16 19) <|
 aY 14 (pM 20) <|
 aYZ)
 (aXZ)
noncomputable def f13_r4 (c : CallF) : RF := rg [6, 7] <| aX 21 (fun n e M => keep (aBuild (zeroOf cx.P 34) [] M)) <|
 aX0 (pSK 20 6 21) <|
 aX 7 (pM (cn (.int .i64 4))) <|
 aXZ
noncomputable def f13_r5 (c : CallF) : RF := rg [2, 3, 4, 6, 22] <| aX 23 (pM 2) <|
 aX 24 (pK c false 34 [23]) <|
 aX 25 (pU .not 24) <|
 aX 26 (pM 25) <|
 aX 27 (pG 26 false (pM 2)) <|
 aX 28 (pG 26 false (pF 0 1 4)) <|
 aX 29 (pG 26 false (pL false 1 28)) <|
 aX 30 (pG 26 false (pB .eql 9 27 29)) <|
 aX 31 (pP 26 (cn (.bool true)) 30) <|
 aX 22 (pM 31) <|
 aXZ
noncomputable def f13_r6 (c : CallF) : RF := rg [6, 7] <| aX 32 (fun n e M => keep (aBuild (zeroOf cx.P 34) [] M)) <|
 aX0 (pSK 20 6 32) <|
 aX 7 (pM (cn (.int .i64 2))) <|
 aXZ
noncomputable def f13_r7 (c : CallF) : RF := rg [2, 3, 4, 6, 33] <| aX 34 (pF 19 1 3) <|
 aX 35 (pL false 1 34) <|
 aX 36 (pLen 32 35) <|
 aX 37 (pB .eql 3 36 (cn (.int .i64 30))) <|
 aX 33 (pM 37) <|
 aXZ
noncomputable def f13_r8 (c : CallF) : RF := rg [6, 7] <| aX 38 (fun n e M => keep (aBuild (zeroOf cx.P 34) [] M)) <|
 aX0 (pSK 20 6 38) <|
 aX 7 (pM (cn (.int .i64 3))) <|
 aXZ
noncomputable def f13_r9 (c : CallF) : RF := rgD [3, 6, 8] (aY 39 (pM 2) <|
 aY 40 (pF 1 18 3) <|
 aY 41 (pL true 18 40) <|
 aY 42 (pL true 20 3) <|
 aY 43 (pK c false 37 [42]) <|
 aY 44 (fun n e M => keep (aField false 1 1 (eget e 43))) <|
 aY 45 (pM 2) <|
 aY 46 (pF 1 1 4) <|
 aY 47 (pL false 1 46) <|
 aY 48 (pK c false 36 [41, 44, 45, 47]) <|
 aY 49 (fun n e M => keep (aBuild (zeroOf cx.P 39) [(0, 1, (eget e 39)), (1, 1, (eget e 48))] M)) <|
 aY 8 (pAl 39 2) <|
 aYZ)
 (aX0 (pS 2 8 49) <|
 aXZ)
noncomputable def f13_r10 (c : CallF) : RF := rgD [6, 7] (aYc 50 (pF 0 1 3) <|
 aYc 51 (pL false 1 50) <|
 aY 52 (pF 1 18 3) <|
 aY 53 (pL true 18 52) <|
 aY 54 (pK c true 35 [53]) <|
 aY 55 (pF 19 1 3) <|
 aY 56 (pL false 1 55) <|
 aY 57 (pK c true 38 [56]) <|
 aY 58 (pL true 2 8) <|
 aY 59 (fun n e M => keep (aLitI 39 2 [(eget e 58)] M)) <|
 aYZ)
 (aX 60 (fun n e M => aAppO n 39 2 24 (eget e 57) (eget e 59) M) <|
 aX 61 (fun n e M => keep (aBuild (zeroOf cx.P 34) [(0, 1, (eget e 51)), (1, 18, (eget e 54)), (19, 1, (eget e 60))] M)) <|
 aX0 (pSK 20 6 61) <|
 aX 7 (pM (cn (.int .i64 0))) <|
 aXZ)
noncomputable def f13 (c : CallF) (k : Nat) : St :=
 (bSeq (bReg (f13_r0 c))
 (bSeq (bBlock 0 (bSeq (bReg (f13_r1 c))
 (bCond (.tmp 9) (bSeq (bReg (f13_r2 c))
 (bEx .ret)) (bSeq (bReg (f13_r3 c))
 (bCond (.tmp 14) (bSeq (bReg (f13_r4 c))
 (bEx .ret)) (bSeq (bReg (f13_r5 c))
 (bCond (.tmp 22) (bSeq (bReg (f13_r6 c))
 (bEx .ret)) (bSeq (bReg (f13_r7 c))
 (bCond (.tmp 33) (bSeq (bReg (f13_r8 c))
 (bEx .ret)) (bEx .nrm))))))))))
 (bSeq (bReg (f13_r9 c))
 (bSeq (bReg (f13_r10 c))
 (bEx .ret)))))
theorem f13_eq (c : CallF) (k : Nat) : exec cx c 62 f13_an k (Tryd.f13.body.getD .skip) = f13 c k := by kernel_rfl
/-! ### f16: loop.example/g01263/laws.szChain -/
def f16_an : Ann := ⟨[(0, r0 [1, 2]), (1, r0 [1, 2]), (2, r0 [1, 2, 11]), (3, r0 [4]), (4, r0 [1, 2]), (5, r0 [1, 2, 17]), (6, r0 [4]), (7, r0 [1]), (8, r0 [1, 23]), (9, r0 [4]), (10, r0 [4])], []⟩
noncomputable def f16_r0 (c : CallF) : RF := rg [1, 2] <| aX 2 (pBox 20 0) <|
 aX 4 (pM (cn (.int .i64 0))) <|
 aXZ
noncomputable def f16_r1 (c : CallF) : RF := rg [1, 2] <| aX 5 (pM 1) <|
 aX 6 (pF 0 1 2) <|
 aX 7 (pL false 1 6) <|
 aX 8 (pLen 9 7) <|
 aX 9 (pB .sub 3 5 8) <|
 aX 1 (pM 9) <|
 aXZ
noncomputable def f16_r2 (c : CallF) : RF := rg [1, 2, 11] <| aX 10 (pM 1) <|
 aX 11 (pB .lss 3 10 (cn (.int .i64 0))) <|
 aXZ
noncomputable def f16_r3 (c : CallF) : RF := rg [4] <| aX 4 (pM (cn (.int .i64 (-1)))) <|
 aXZ
noncomputable def f16_r4 (c : CallF) : RF := rg [1, 2] <| aX 12 (pF 1 18 2) <|
 aX 13 (pL true 18 12) <|
 aX 14 (pM 1) <|
 aX 15 (pK c false 42 [13, 14]) <|
 aX 1 (pM 15) <|
 aXZ
noncomputable def f16_r5 (c : CallF) : RF := rg [1, 2, 17] <| aX 16 (pM 1) <|
 aX 17 (pB .lss 3 16 (cn (.int .i64 0))) <|
 aXZ
noncomputable def f16_r6 (c : CallF) : RF := rg [4] <| aX 4 (pM (cn (.int .i64 (-1)))) <|
 aXZ
noncomputable def f16_r7 (c : CallF) : RF := rg [1] <| aX 18 (pF 19 1 2) <|
 aX 19 (pL false 1 18) <|
 aX 20 (pM 1) <|
 aX 21 (pK c false 43 [19, 20]) <|
 aX 1 (pM 21) <|
 aXZ
noncomputable def f16_r8 (c : CallF) : RF := rg [1, 23] <| aX 22 (pM 1) <|
 aX 23 (pB .lss 3 22 (cn (.int .i64 0))) <|
 aXZ
noncomputable def f16_r9 (c : CallF) : RF := rg [4] <| aX 4 (pM (cn (.int .i64 (-1)))) <|
 aXZ
noncomputable def f16_r10 (c : CallF) : RF := rg [4] <| aX 24 (pM 1) <|
 aX 4 (pM 24) <|
 aXZ
noncomputable def f16 (c : CallF) (k : Nat) : St :=
 (bSeq (bReg (f16_r0 c))
 (bSeq (bReg (f16_r1 c))
 (bSeq (bSeq (bReg (f16_r2 c))
 (bCond (.tmp 11) (bSeq (bReg (f16_r3 c))
 (bEx .ret)) (bEx .nrm)))
 (bSeq (bReg (f16_r4 c))
 (bSeq (bSeq (bReg (f16_r5 c))
 (bCond (.tmp 17) (bSeq (bReg (f16_r6 c))
 (bEx .ret)) (bEx .nrm)))
 (bSeq (bReg (f16_r7 c))
 (bSeq (bSeq (bReg (f16_r8 c))
 (bCond (.tmp 23) (bSeq (bReg (f16_r9 c))
 (bEx .ret)) (bEx .nrm)))
 (bSeq (bReg (f16_r10 c))
 (bEx .ret)))))))))
theorem f16_eq (c : CallF) (k : Nat) : exec cx c 25 f16_an k (Tryd.f16.body.getD .skip) = f16 c k := by kernel_rfl
/-! ### f17: loop.example/g01263/laws.szParty -/
def f17_an : Ann := ⟨[(0, r0 [1, 2]), (1, r0 [1]), (2, r0 [1, 11]), (3, r0 [4]), (4, r0 [4])], []⟩
noncomputable def f17_r0 (c : CallF) : RF := rg [1, 2] <| aX 2 (pBox 2 0) <|
 aX 4 (pM (cn (.int .i64 0))) <|
 aXZ
noncomputable def f17_r1 (c : CallF) : RF := rg [1] <| aX 5 (pM 1) <|
 aX 6 (pF 0 1 2) <|
 aX 7 (pL false 1 6) <|
 aX 8 (pLen 9 7) <|
 aX 9 (pB .sub 3 5 8) <|
 aX 1 (pM 9) <|
 aXZ
noncomputable def f17_r2 (c : CallF) : RF := rg [1, 11] <| aX 10 (pM 1) <|
 aX 11 (pB .lss 3 10 (cn (.int .i64 0))) <|
 aXZ
noncomputable def f17_r3 (c : CallF) : RF := rg [4] <| aX 4 (pM (cn (.int .i64 (-1)))) <|
 aXZ
noncomputable def f17_r4 (c : CallF) : RF := rg [4] <| aX 12 (pM 1) <|
 aX 4 (pM 12) <|
 aXZ
noncomputable def f17 (c : CallF) (k : Nat) : St :=
 (bSeq (bReg (f17_r0 c))
 (bSeq (bReg (f17_r1 c))
 (bSeq (bSeq (bReg (f17_r2 c))
 (bCond (.tmp 11) (bSeq (bReg (f17_r3 c))
 (bEx .ret)) (bEx .nrm)))
 (bSeq (bReg (f17_r4 c))
 (bEx .ret)))))
theorem f17_eq (c : CallF) (k : Nat) : exec cx c 13 f17_an k (Tryd.f17.body.getD .skip) = f17 c k := by kernel_rfl
/-! ### f18: loop.example/g01263/spec.PassOn -/
def f18_an : Ann := ⟨[(0, r0 [2, 3, 4, 6]), (1, r0 [2, 3, 4, 6, 11]), (2, r0 [6, 7]), (3, r0 [2, 3, 4, 6, 8]), (4, r0 [2, 3, 4, 6, 8, 18]), (5, r0 [6, 7]), (6, r0 [2, 3, 4, 6, 8, 28]), (7, r0 [6, 7]), (8, r0 [2, 3, 4, 6, 8, 33]), (9, r0 [6, 7]), (10, r0 [3, 6, 9]), (11, ⟨[7, 10], [3], [0, 1], [10, 11, 12, 13], [6, 7]⟩)], []⟩
noncomputable def f18_r0 (c : CallF) : RF := rg [2, 3, 4, 6] <| aX 3 (pBox 20 0) <|
 aX 4 (pBox 2 1) <|
 aX 6 (pAl 34 20) <|
 aX 7 (pM (cn (.int .i64 0))) <|
 aXZ
noncomputable def f18_r1 (c : CallF) : RF := rg [2, 3, 4, 6, 11] <| aX 10 (pK c false 44 [3]) <|
 aX 11 (pU .not 10) <|
 aXZ
noncomputable def f18_r2 (c : CallF) : RF := rg [6, 7] <| aX 12 (fun n e M => keep (aBuild (zeroOf cx.P 34) [] M)) <|
 aX0 (pS 20 6 12) <|
 aX 7 (pM (cn (.int .i64 1))) <|
 aXZ
noncomputable def f18_r3 (c : CallF) : RF := rg [2, 3, 4, 6, 8] <| aX 13 (pK c false 45 [3]) <|
 aX 8 (pAl 39 2) <|
 aX0 (pS 2 8 13) <|
 aXZ
noncomputable def f18_r4 (c : CallF) : RF := rg [2, 3, 4, 6, 8, 18] <| aX 14 (pF 0 1 4) <|
 aX 15 (pL false 1 14) <|
 aX 16 (pF 0 1 8) <|
 aX 17 (pL false 1 16) <|
 aX 18 (pB .neq 9 15 17) <|
 aXZ
noncomputable def f18_r5 (c : CallF) : RF := rg [6, 7] <| aX 19 (fun n e M => keep (aBuild (zeroOf cx.P 34) [] M)) <|
 aX0 (pS 20 6 19) <|
 aX 7 (pM (cn (.int .i64 4))) <|
 aXZ
noncomputable def f18_r6 (c : CallF) : RF := rg [2, 3, 4, 6, 8, 28] <| aX 20 (pM 2) <|
 aX 21 (pK c false 46 [20]) <|
 aX 22 (pU .not 21) <|
 aX 23 (pM 22) <|
 aX 24 (pG 23 false (pM 2)) <|
 aX 25 (pG 23 false (pF 0 1 4)) <|
 aX 26 (pG 23 false (pL false 1 25)) <|
 aX 27 (pG 23 false (pB .eql 9 24 26)) <|
 aX 28 (pP 23 (cn (.bool true)) 27) <|
 aXZ
noncomputable def f18_r7 (c : CallF) : RF := rg [6, 7] <| aX 29 (fun n e M => keep (aBuild (zeroOf cx.P 34) [] M)) <|
 aX0 (pS 20 6 29) <|
 aX 7 (pM (cn (.int .i64 2))) <|
 aXZ
noncomputable def f18_r8 (c : CallF) : RF := rg [2, 3, 4, 6, 8, 33] <| aX 30 (pF 19 1 3) <|
 aX 31 (pL false 1 30) <|
 aX 32 (pLen 32 31) <|
 aX 33 (pB .geq 3 32 (cn (.int .i64 30))) <|
 aXZ
noncomputable def f18_r9 (c : CallF) : RF := rg [6, 7] <| aX 34 (fun n e M => keep (aBuild (zeroOf cx.P 34) [] M)) <|
 aX0 (pS 20 6 34) <|
 aX 7 (pM (cn (.int .i64 3))) <|
 aXZ
noncomputable def f18_r10 (c : CallF) : RF := rg [3, 6, 9] <| aX 35 (pM 2) <|
 aX 36 (pF 1 18 3) <|
 aX 37 (pF 1 1 8) <|
 aX 38 (pL false 1 37) <|
 aX 39 (pM 2) <|
 aX 40 (pF 1 1 4) <|
 aX 41 (pL false 1 40) <|
 aX 42 (pK c false 47 [36, 38, 39, 41]) <|
 aX 43 (fun n e M => keep (aBuild (zeroOf cx.P 39) [(0, 1, (eget e 35)), (1, 1, (eget e 42))] M)) <|
 aX 9 (pAl 39 2) <|
 aX0 (pS 2 9 43) <|
 aXZ
noncomputable def f18_r11 (c : CallF) : RF := rgD [6, 7] (aYc 44 (pF 0 1 3) <|
 aYc 45 (pL false 1 44) <|
 aY 46 (pF 1 18 3) <|
 aY 47 (pK c true 48 [46]) <|
 aY 48 (fun n e M => keep (aLitI 39 2 [] M)) <|
 aY 49 (pF 19 1 3) <|
 aY 50 (pL false 1 49) <|
 aY 51 (fun n e M => aAppO n 39 2 24 (eget e 48) (eget e 50) M) <|
 aY 52 (pL true 2 9) <|
 aY 53 (fun n e M => keep (aLitI 39 2 [(eget e 52)] M)) <|
 aYZ)
 (aX 54 (fun n e M => aAppO n 39 2 24 (eget e 51) (eget e 53) M) <|
 aX 55 (fun n e M => keep (aBuild (zeroOf cx.P 34) [(0, 1, (eget e 45)), (1, 18, (eget e 47)), (19, 1, (eget e 54))] M)) <|
 aX0 (pS 20 6 55) <|
 aX 7 (pM (cn (.int .i64 0))) <|
 aXZ)
noncomputable def f18 (c : CallF) (k : Nat) : St :=
 (bSeq (bReg (f18_r0 c))
 (bSeq (bSeq (bReg (f18_r1 c))
 (bCond (.tmp 11) (bSeq (bReg (f18_r2 c))
 (bEx .ret)) (bEx .nrm)))
 (bSeq (bReg (f18_r3 c))
 (bSeq (bSeq (bReg (f18_r4 c))
 (bCond (.tmp 18) (bSeq (bReg (f18_r5 c))
 (bEx .ret)) (bEx .nrm)))
 (bSeq (bSeq (bReg (f18_r6 c))
 (bCond (.tmp 28) (bSeq (bReg (f18_r7 c))
 (bEx .ret)) (bEx .nrm)))
 (bSeq (bSeq (bReg (f18_r8 c))
 (bCond (.tmp 33) (bSeq (bReg (f18_r9 c))
 (bEx .ret)) (bEx .nrm)))
 (bSeq (bReg (f18_r10 c))
 (bSeq (bReg (f18_r11 c))
 (bEx .ret)))))))))
theorem f18_eq (c : CallF) (k : Nat) : exec cx c 56 f18_an k (Tryd.f18.body.getD .skip) = f18 c k := by kernel_rfl
/-! ### f19: loop.example/g01263/laws.toChain -/
def f19_an : Ann := ⟨[(0, r0 [1, 2]), (1, r0 [1, 2, 3]), (2, r0 [1, 2, 3]), (3, ⟨[4], [], [], [], [1, 2, 3]⟩), (4, ⟨[4], [], [], [], [2, 3]⟩), (5, ⟨[1], [], [], [], [2]⟩)], []⟩
noncomputable def f19_r0 (c : CallF) : RF := rg [1, 2] <| aX 1 (pBox 20 0) <|
 aX 2 (pAl 34 20) <|
 aXZ
noncomputable def f19_r1 (c : CallF) : RF := rg [1, 2, 3] <| aX 3 (pAl 34 20) <|
 aXZ
noncomputable def f19_r2 (c : CallF) : RF := rg [1, 2, 3] <| aX 4 (pF 0 1 1) <|
 aX 5 (pL false 1 4) <|
 aX 6 (pF 0 1 3) <|
 aX0 (pS 1 6 5) <|
 aXZ
noncomputable def f19_r3 (c : CallF) : RF := rg [1, 2, 3] <| aX 7 (pF 1 18 1) <|
 aX 8 (pL true 18 7) <|
 aX 9 (pK c false 49 [8]) <|
 aX 10 (pF 1 18 3) <|
 aX0 (pSK 18 10 9) <|
 aXZ
noncomputable def f19_r4 (c : CallF) : RF := rg [2, 3] <| aX 11 (pF 19 1 1) <|
 aX 12 (pL false 1 11) <|
 aX 13 (pK c false 50 [12]) <|
 aX 14 (pF 19 1 3) <|
 aX0 (pSK 1 14 13) <|
 aXZ
noncomputable def f19_r5 (c : CallF) : RF := rg [2] <| aX 15 (pL true 20 3) <|
 aX0 (pSK 20 2 15) <|
 aXZ
noncomputable def f19 (c : CallF) (k : Nat) : St :=
 (bSeq (bReg (f19_r0 c))
 (bSeq (bReg (f19_r1 c))
 (bSeq (bReg (f19_r2 c))
 (bSeq (bReg (f19_r3 c))
 (bSeq (bReg (f19_r4 c))
 (bSeq (bReg (f19_r5 c))
 (bEx .ret)))))))
theorem f19_eq (c : CallF) (k : Nat) : exec cx c 16 f19_an k (Tryd.f19.body.getD .skip) = f19 c k := by kernel_rfl
/-! ### f20: loop.example/g01263/laws.toParty -/
def f20_an : Ann := ⟨[(0, r0 [1, 2]), (1, r0 [1, 2, 3]), (2, r0 [1, 2, 3]), (3, r0 [2, 3]), (4, r0 [2])], []⟩
noncomputable def f20_r0 (c : CallF) : RF := rg [1, 2] <| aX 1 (pBox 2 0) <|
 aX 2 (pAl 46 2) <|
 aXZ
noncomputable def f20_r1 (c : CallF) : RF := rg [1, 2, 3] <| aX 3 (pAl 46 2) <|
 aXZ
noncomputable def f20_r2 (c : CallF) : RF := rg [1, 2, 3] <| aX 4 (pF 0 1 1) <|
 aX 5 (pL false 1 4) <|
 aX 6 (pF 0 1 3) <|
 aX0 (pS 1 6 5) <|
 aXZ
noncomputable def f20_r3 (c : CallF) : RF := rg [2, 3] <| aX 7 (pF 1 1 1) <|
 aX 8 (pL false 1 7) <|
 aX 9 (pF 1 1 3) <|
 aX0 (pS 1 9 8) <|
 aXZ
noncomputable def f20_r4 (c : CallF) : RF := rg [2] <| aX 10 (pL true 2 3) <|
 aX0 (pS 2 2 10) <|
 aXZ
noncomputable def f20 (c : CallF) (k : Nat) : St :=
 (bSeq (bReg (f20_r0 c))
 (bSeq (bReg (f20_r1 c))
 (bSeq (bReg (f20_r2 c))
 (bSeq (bReg (f20_r3 c))
 (bSeq (bReg (f20_r4 c))
 (bEx .ret))))))
theorem f20_eq (c : CallF) (k : Nat) : exec cx c 11 f20_an k (Tryd.f20.body.getD .skip) = f20 c k := by kernel_rfl
/-! ### f21: loop.example/g01263/laws.eqChain -/
def f21_an : Ann := ⟨[(0, r0 [2, 3]), (1, r0 [2, 3, 9]), (2, r0 [4]), (3, r0 [2, 3, 15]), (4, r0 [4]), (5, r0 [21]), (6, r0 [4]), (7, r0 [4])], []⟩
noncomputable def f21_r0 (c : CallF) : RF := rg [2, 3] <| aX 2 (pBox 20 0) <|
 aX 3 (pBox 20 1) <|
 aX 4 (pM (cn (.bool false))) <|
 aXZ
noncomputable def f21_r1 (c : CallF) : RF := rg [2, 3, 9] <| aX 5 (pF 0 1 2) <|
 aX 6 (pL false 1 5) <|
 aX 7 (pF 0 1 3) <|
 aX 8 (pL false 1 7) <|
 aX 9 (pB .neq 9 6 8) <|
 aXZ
noncomputable def f21_r2 (c : CallF) : RF := rg [4] <| aX 4 (pM (cn (.bool false))) <|
 aXZ
noncomputable def f21_r3 (c : CallF) : RF := rg [2, 3, 15] <| aX 10 (pF 1 18 2) <|
 aX 11 (pL true 18 10) <|
 aX 12 (pF 1 18 3) <|
 aX 13 (pL true 18 12) <|
 aX 14 (pK c false 51 [11, 13]) <|
 aX 15 (pU .not 14) <|
 aXZ
noncomputable def f21_r4 (c : CallF) : RF := rg [4] <| aX 4 (pM (cn (.bool false))) <|
 aXZ
noncomputable def f21_r5 (c : CallF) : RF := rg [21] <| aX 16 (pF 19 1 2) <|
 aX 17 (pL false 1 16) <|
 aX 18 (pF 19 1 3) <|
 aX 19 (pL false 1 18) <|
 aX 20 (pK c false 52 [17, 19]) <|
 aX 21 (pU .not 20) <|
 aXZ
noncomputable def f21_r6 (c : CallF) : RF := rg [4] <| aX 4 (pM (cn (.bool false))) <|
 aXZ
noncomputable def f21_r7 (c : CallF) : RF := rg [4] <| aX 4 (pM (cn (.bool true))) <|
 aXZ
noncomputable def f21 (c : CallF) (k : Nat) : St :=
 (bSeq (bReg (f21_r0 c))
 (bSeq (bSeq (bReg (f21_r1 c))
 (bCond (.tmp 9) (bSeq (bReg (f21_r2 c))
 (bEx .ret)) (bEx .nrm)))
 (bSeq (bSeq (bReg (f21_r3 c))
 (bCond (.tmp 15) (bSeq (bReg (f21_r4 c))
 (bEx .ret)) (bEx .nrm)))
 (bSeq (bSeq (bReg (f21_r5 c))
 (bCond (.tmp 21) (bSeq (bReg (f21_r6 c))
 (bEx .ret)) (bEx .nrm)))
 (bSeq (bReg (f21_r7 c))
 (bEx .ret))))))
theorem f21_eq (c : CallF) (k : Nat) : exec cx c 22 f21_an k (Tryd.f21.body.getD .skip) = f21 c k := by kernel_rfl
/-! ### f22: loop.example/g01263/laws.markChain -/
def f22_an : Ann := ⟨[(0, ⟨[0], [], [], [], [1, 2]⟩), (1, r0 [1, 2]), (2, r0 [1]), (3, r0 [4])], []⟩
noncomputable def f22_r0 (c : CallF) : RF := rg [1, 2] <| aX 2 (fun n e M => aBoxO n 34 20 (eget e 0) M) <|
 aX 4 (pM (cn (.int .i64 0))) <|
 aXZ
noncomputable def f22_r1 (c : CallF) : RF := rg [1, 2] <| aX 5 (pF 1 18 2) <|
 aX 6 (pL true 18 5) <|
 aX 7 (pM 1) <|
 aX 8 (pK c false 53 [6, 7]) <|
 aX 1 (pM 8) <|
 aXZ
noncomputable def f22_r2 (c : CallF) : RF := rg [1] <| aX 9 (pF 19 1 2) <|
 aX 10 (pL false 1 9) <|
 aX 11 (pM 1) <|
 aX 12 (pK c false 54 [10, 11]) <|
 aX 1 (pM 12) <|
 aXZ
noncomputable def f22_r3 (c : CallF) : RF := rg [4] <| aX 13 (pM 1) <|
 aX 4 (pM 13) <|
 aXZ
noncomputable def f22 (c : CallF) (k : Nat) : St :=
 (bSeq (bReg (f22_r0 c))
 (bSeq (bReg (f22_r1 c))
 (bSeq (bReg (f22_r2 c))
 (bSeq (bReg (f22_r3 c))
 (bEx .ret)))))
theorem f22_eq (c : CallF) (k : Nat) : exec cx c 14 f22_an k (Tryd.f22.body.getD .skip) = f22 c k := by kernel_rfl
/-! ### f23: loop.example/g01263/laws.heldChain -/
def f23_an : Ann := ⟨[(0, r0 [1, 2]), (1, r0 [1, 2]), (2, r0 [1, 2, 10]), (3, r0 [4]), (4, r0 [1]), (5, r0 [1, 16]), (6, r0 [4]), (7, r0 [4])], []⟩
noncomputable def f23_r0 (c : CallF) : RF := rg [1, 2] <| aX 2 (pBox 20 0) <|
 aX 4 (pM (cn (.int .i64 0))) <|
 aXZ
noncomputable def f23_r1 (c : CallF) : RF := rg [1, 2] <| aX 5 (pF 1 18 2) <|
 aX 6 (pL true 18 5) <|
 aX 7 (pM 1) <|
 aX 8 (pK c false 55 [6, 7]) <|
 aX 1 (pM 8) <|
 aXZ
noncomputable def f23_r2 (c : CallF) : RF := rg [1, 2, 10] <| aX 9 (pM 1) <|
 aX 10 (pB .lss 3 9 (cn (.int .i64 0))) <|
 aXZ
noncomputable def f23_r3 (c : CallF) : RF := rg [4] <| aX 4 (pM (cn (.int .i64 (-1)))) <|
 aXZ
noncomputable def f23_r4 (c : CallF) : RF := rg [1] <| aX 11 (pF 19 1 2) <|
 aX 12 (pL false 1 11) <|
 aX 13 (pM 1) <|
 aX 14 (pK c false 56 [12, 13]) <|
 aX 1 (pM 14) <|
 aXZ
noncomputable def f23_r5 (c : CallF) : RF := rg [1, 16] <| aX 15 (pM 1) <|
 aX 16 (pB .lss 3 15 (cn (.int .i64 0))) <|
 aXZ
noncomputable def f23_r6 (c : CallF) : RF := rg [4] <| aX 4 (pM (cn (.int .i64 (-1)))) <|
 aXZ
noncomputable def f23_r7 (c : CallF) : RF := rg [4] <| aX 17 (pM 1) <|
 aX 4 (pM 17) <|
 aXZ
noncomputable def f23 (c : CallF) (k : Nat) : St :=
 (bSeq (bReg (f23_r0 c))
 (bSeq (bReg (f23_r1 c))
 (bSeq (bSeq (bReg (f23_r2 c))
 (bCond (.tmp 10) (bSeq (bReg (f23_r3 c))
 (bEx .ret)) (bEx .nrm)))
 (bSeq (bReg (f23_r4 c))
 (bSeq (bSeq (bReg (f23_r5 c))
 (bCond (.tmp 16) (bSeq (bReg (f23_r6 c))
 (bEx .ret)) (bEx .nrm)))
 (bSeq (bReg (f23_r7 c))
 (bEx .ret)))))))
theorem f23_eq (c : CallF) (k : Nat) : exec cx c 18 f23_an k (Tryd.f23.body.getD .skip) = f23 c k := by kernel_rfl
/-! ### f28: loop.example/g01263/impl.ValidChain -/
def f28_an : Ann := ⟨[(0, r0 [1]), (1, r0 [1, 33]), (2, r0 [2]), (3, r0 [1, 3]), (4, r0 [3, 37, 38, 39]), (5, r0 [3, 37, 38, 39, 40]), (6, r0 [3, 5, 37, 38, 39]), (7, r0 [5, 37, 38, 39, 52]), (8, r0 [2]), (9, r0 [3, 37, 38, 39]), (10, r0 [3, 37, 38, 39]), (11, r0 [2])], [(5, [3, 37, 38, 39])]⟩
noncomputable def f28_r0 (c : CallF) : RF := rg [1] <| aX 1 (pBox 20 0) <|
 aX 2 (pM (cn (.bool false))) <|
 aXZ
noncomputable def f28_r1 (c : CallF) : RF := rg [1, 33] <| aX 6 (pF 0 1 1) <|
 aX 7 (pL false 1 6) <|
 aX 8 (pK c false 34 [7]) <|
 aX 9 (pU .not 8) <|
 aX 10 (pM 9) <|
 aX 11 (pG 10 false (pF 1 18 1)) <|
 aX 12 (pG 10 false (pL true 18 11)) <|
 aX 13 (pG 10 false (pK c false 33 [12])) <|
 aX 14 (pG 10 false (pU .not 13)) <|
 aX 15 (pP 10 (cn (.bool true)) 14) <|
 aX 16 (pM 15) <|
 aX 17 (pG 16 false (pF 1 18 1)) <|
 aX 18 (pG 16 false (pF 0 1 17)) <|
 aX 19 (pG 16 false (pL false 1 18)) <|
 aX 20 (pG 16 false (pU .not 19)) <|
 aX 21 (pP 16 (cn (.bool true)) 20) <|
 aX 22 (pM 21) <|
 aX 23 (pG 22 false (pF 19 1 1)) <|
 aX 24 (pG 22 false (pL false 1 23)) <|
 aX 25 (pG 22 false (pLen 32 24)) <|
 aX 26 (pG 22 false (pB .lss 3 25 (cn (.int .i64 1)))) <|
 aX 27 (pP 22 (cn (.bool true)) 26) <|
 aX 28 (pM 27) <|
 aX 29 (pG 28 false (pF 19 1 1)) <|
 aX 30 (pG 28 false (pL false 1 29)) <|
 aX 31 (pG 28 false (pLen 32 30)) <|
 aX 32 (pG 28 false (pB .gtr 3 31 (cn (.int .i64 30)))) <|
 aX 33 (pP 28 (cn (.bool true)) 32) <|
 aXZ
noncomputable def f28_r2 (c : CallF) : RF := rg [2] <| aX 2 (pM (cn (.bool false))) <|
 aXZ
noncomputable def f28_r3 (c : CallF) : RF := rg [1, 3] <| aX 34 (pF 0 1 1) <|
 aX 35 (pL false 1 34) <|
 aX 3 (pM 35) <|
 aXZ
noncomputable def f28_r4 (c : CallF) : RF := rg [3, 37, 38, 39] <| aX 36 (pF 19 1 1) <|
 aX 37 (pL false 1 36) <|
 aX 38 (pLen 32 37) <|
 aX 39 (pM (cn (.int .i64 0))) <|
 aXZ
noncomputable def f28_r5 (c : CallF) : RF := rg [3, 37, 38, 39, 40] <| aX 40 (pB .lss 3 39 38) <|
 aXZ
noncomputable def f28_r6 (c : CallF) : RF := rg [3, 5, 37, 38, 39] <| aX 41 (pI 2 37 39) <|
 aX 42 (pL true 2 41) <|
 aX 5 (pAl 39 2) <|
 aX0 (pS 2 5 42) <|
 aXZ
noncomputable def f28_r7 (c : CallF) : RF := rg [5, 37, 38, 39, 52] <| aX 43 (pF 0 1 5) <|
 aX 44 (pL false 1 43) <|
 aX 45 (pK c false 34 [44]) <|
 aX 46 (pU .not 45) <|
 aX 47 (pM 46) <|
 aX 48 (pG 47 false (pF 0 1 5)) <|
 aX 49 (pG 47 false (pL false 1 48)) <|
 aX 50 (pG 47 false (pM 3)) <|
 aX 51 (pG 47 false (pB .eql 9 49 50)) <|
 aX 52 (pP 47 (cn (.bool true)) 51) <|
 aXZ
noncomputable def f28_r8 (c : CallF) : RF := rg [2] <| aX 2 (pM (cn (.bool false))) <|
 aXZ
noncomputable def f28_r9 (c : CallF) : RF := rg [3, 37, 38, 39] <| aX 53 (pF 0 1 5) <|
 aX 54 (pL false 1 53) <|
 aX 3 (pM 54) <|
 aXZ
noncomputable def f28_r10 (c : CallF) : RF := rg [3, 37, 38, 39] <| aX 55 (pB .add 3 39 (cn (.int .i64 1))) <|
 aX 39 (pM 55) <|
 aXZ
noncomputable def f28_r11 (c : CallF) : RF := rg [2] <| aX 2 (pM (cn (.bool true))) <|
 aXZ
noncomputable def f28_l5 (c : CallF) (k : Nat) : St :=
 (bSeq (bReg (f28_r5 c))
 (bSeq (bCond (.tmp 40) (bEx .nrm) (bEx (.ext 0)))
 (bSeq (bBlock 1 (bSeq (bReg (f28_r6 c))
 (bSeq (bSeq (bReg (f28_r7 c))
 (bCond (.tmp 52) (bSeq (bReg (f28_r8 c))
 (bEx .ret)) (bEx .nrm)))
 (bReg (f28_r9 c)))))
 (bReg (f28_r10 c)))))
noncomputable def f28 (c : CallF) (k : Nat) : St :=
 (bSeq (bReg (f28_r0 c))
 (bSeq (bSeq (bReg (f28_r1 c))
 (bCond (.tmp 33) (bSeq (bReg (f28_r2 c))
 (bEx .ret)) (bEx .nrm)))
 (bSeq (bReg (f28_r3 c))
 (bSeq (bSeq (bReg (f28_r4 c))
 (bBlock 0 (bLoop [3, 37, 38, 39] (f28_l5 c k) k)))
 (bSeq (bReg (f28_r11 c))
 (bEx .ret))))))
theorem f28_eq (c : CallF) (k : Nat) : exec cx c 56 f28_an k (Tryd.f28.body.getD .skip) = f28 c k := by kernel_rfl
/-! ### f33: loop.example/g01263/impl.ValidHalf -/
def f33_an : Ann := ⟨[(0, r0 [1]), (1, r0 [1, 14]), (2, r0 [2]), (3, r0 [1, 16, 17, 18]), (4, r0 [1, 16, 17, 18, 19]), (5, r0 [1, 3, 4, 16, 17, 18]), (6, r0 [1, 3, 4, 16, 17, 18, 37]), (7, r0 [2]), (8, r0 [1, 16, 17, 18, 64]), (9, r0 [2]), (10, r0 [1, 16, 17, 18]), (11, r0 [2])], [(4, [1, 16, 17, 18])]⟩
noncomputable def f33_r0 (c : CallF) : RF := rg [1] <| aX 1 (pBox 18 0) <|
 aX 2 (pM (cn (.bool false))) <|
 aXZ
noncomputable def f33_r1 (c : CallF) : RF := rg [1, 14] <| aX 5 (pF 1 1 1) <|
 aX 6 (pL false 1 5) <|
 aX 7 (pLen 26 6) <|
 aX 8 (pB .gtr 3 7 (cn (.int .i64 60))) <|
 aX 9 (pM 8) <|
 aX 10 (pG 9 false (pF 2 16 1)) <|
 aX 11 (pG 9 false (pL true 16 10)) <|
 aX 12 (pG 9 false (pK c false 62 [11])) <|
 aX 13 (pG 9 false (pU .not 12)) <|
 aX 14 (pP 9 (cn (.bool true)) 13) <|
 aXZ
noncomputable def f33_r2 (c : CallF) : RF := rg [2] <| aX 2 (pM (cn (.bool false))) <|
 aXZ
noncomputable def f33_r3 (c : CallF) : RF := rg [1, 16, 17, 18] <| aX 15 (pF 1 1 1) <|
 aX 16 (pL false 1 15) <|
 aX 17 (pLen 26 16) <|
 aX 18 (pM (cn (.int .i64 0))) <|
 aXZ
noncomputable def f33_r4 (c : CallF) : RF := rg [1, 16, 17, 18, 19] <| aX 19 (pB .lss 3 18 17) <|
 aXZ
noncomputable def f33_r5 (c : CallF) : RF := rg [1, 3, 4, 16, 17, 18] <| aX 20 (pM 18) <|
 aX 21 (pI 2 16 18) <|
 aX 22 (pL true 2 21) <|
 aX 4 (pAl 107 2) <|
 aX 3 (pM 20) <|
 aX0 (pS 2 4 22) <|
 aXZ
noncomputable def f33_r6 (c : CallF) : RF := rg [1, 3, 4, 16, 17, 18, 37] <| aX 23 (pF 0 1 4) <|
 aX 24 (pL false 1 23) <|
 aX 25 (fun n e M => keep (aConvI .i64 (eget e 24))) <|
 aX 26 (pK c false 63 [25]) <|
 aX 27 (pU .not 26) <|
 aX 28 (pM 27) <|
 aX 29 (pG 28 false (pF 1 1 4)) <|
 aX 30 (pG 28 false (pL false 1 29)) <|
 aX 31 (pG 28 false (pB .lss 105 30 (cn (.int .i16 0)))) <|
 aX 32 (pP 28 (cn (.bool true)) 31) <|
 aX 33 (pM 32) <|
 aX 34 (pG 33 false (pL true 2 4)) <|
 aX 35 (pG 33 false (pK c false 64 [34])) <|
 aX 36 (pG 33 false (pB .gtr 2 35 (cn (.int .i64 200)))) <|
 aX 37 (pP 33 (cn (.bool true)) 36) <|
 aXZ
noncomputable def f33_r7 (c : CallF) : RF := rg [2] <| aX 2 (pM (cn (.bool false))) <|
 aXZ
noncomputable def f33_r8 (c : CallF) : RF := rgD [1, 16, 17, 18, 64] (aY 38 (pM 3) <|
 aY 39 (pB .gtr 3 38 (cn (.int .i64 0))) <|
 aY 40 (pM 39) <|
 aY 41 (pG 40 true (pF 1 1 4)) <|
 aY 42 (pG 40 true (pL false 1 41)) <|
 aY 43 (pG 40 true (fun n e M => keep (aConvI .i64 (eget e 42)))) <|
 aY 44 (pG 40 true (pF 1 1 1)) <|
 aY 45 (pG 40 true (pL false 1 44)) <|
 aY 46 (pG 40 true (pM 3)) <|
 aY 47 (pG 40 true (pB .sub 3 46 (cn (.int .i64 1)))) <|
 aY 48 (pG 40 true (pI 2 45 47)) <|
 aY 49 (pG 40 true (pL true 2 48)) <|
 aY 50 (pG 40 true (pK c false 64 [49])) <|
 aY 51 (pG 40 true (pB .leq 2 43 50)) <|
 aY 52 (pG 40 true (pM 51)) <|
 aY 53 (pG 52 false (pF 0 1 4)) <|
 aY 54 (pG 52 false (pL false 1 53)) <|
 aY 55 (pG 52 false (pF 1 1 1)) <|
 aY 56 (pG 52 false (pL false 1 55)) <|
 aY 57 (pG 52 false (pM 3)) <|
 aY 58 (pG 52 false (pB .sub 3 57 (cn (.int .i64 1)))) <|
 aY 59 (pG 52 false (pI 2 56 58)) <|
 aY 60 (pG 52 false (pF 0 1 59)) <|
 aY 61 (pG 52 false (pL false 1 60)) <|
 aY 62 (pG 52 false (pB .gtr 27 54 61)) <|
 aY 63 (pG 40 true (pP 52 (cn (.bool true)) 62)) <|
 aY 64 (pP 40 63 (cn (.bool false))) <|
 aYZ)
 (aXZ)
noncomputable def f33_r9 (c : CallF) : RF := rg [2] <| aX 2 (pM (cn (.bool false))) <|
 aXZ
noncomputable def f33_r10 (c : CallF) : RF := rg [1, 16, 17, 18] <| aX 65 (pB .add 3 18 (cn (.int .i64 1))) <|
 aX 18 (pM 65) <|
 aXZ
noncomputable def f33_r11 (c : CallF) : RF := rg [2] <| aX 2 (pM (cn (.bool true))) <|
 aXZ
noncomputable def f33_l4 (c : CallF) (k : Nat) : St :=
 (bSeq (bReg (f33_r4 c))
 (bSeq (bCond (.tmp 19) (bEx .nrm) (bEx (.ext 0)))
 (bSeq (bBlock 1 (bSeq (bReg (f33_r5 c))
 (bSeq (bSeq (bReg (f33_r6 c))
 (bCond (.tmp 37) (bSeq (bReg (f33_r7 c))
 (bEx .ret)) (bEx .nrm)))
 (bSeq (bReg (f33_r8 c))
 (bCond (.tmp 64) (bSeq (bReg (f33_r9 c))
 (bEx .ret)) (bEx .nrm))))))
 (bReg (f33_r10 c)))))
noncomputable def f33 (c : CallF) (k : Nat) : St :=
 (bSeq (bReg (f33_r0 c))
 (bSeq (bSeq (bReg (f33_r1 c))
 (bCond (.tmp 14) (bSeq (bReg (f33_r2 c))
 (bEx .ret)) (bEx .nrm)))
 (bSeq (bSeq (bReg (f33_r3 c))
 (bBlock 0 (bLoop [1, 16, 17, 18] (f33_l4 c k) k)))
 (bSeq (bReg (f33_r11 c))
 (bEx .ret)))))
theorem f33_eq (c : CallF) (k : Nat) : exec cx c 66 f33_an k (Tryd.f33.body.getD .skip) = f33 c k := by kernel_rfl
/-! ### f34: loop.example/g01263/impl.isName -/
def f34_an : Ann := ⟨[(0, r0 [0]), (1, r0 [2])], []⟩
noncomputable def f34_r0 (c : CallF) : RF := rg [0] <| aX 2 (pM (cn (.bool false))) <|
 aXZ
noncomputable def f34_r1 (c : CallF) : RF := rg [2] <| aX 3 (pM 0) <|
 aX 4 (pK c false 65 [3, (cn (.int .i64 12))]) <|
 aX 2 (pM 4) <|
 aXZ
noncomputable def f34 (c : CallF) (k : Nat) : St :=
 (bSeq (bReg (f34_r0 c))
 (bSeq (bReg (f34_r1 c))
 (bEx .ret)))
theorem f34_eq (c : CallF) (k : Nat) : exec cx c 5 f34_an k (Tryd.f34.body.getD .skip) = f34 c k := by kernel_rfl
/-! ### f35: loop.example/g01263/impl.ownHalf -/
def f35_an : Ann := ⟨[(0, ⟨[0], [], [], [], [1, 2]⟩), (1, ⟨[4], [], [], [], [1, 2]⟩), (2, ⟨[1], [], [], [], [2]⟩)], []⟩
noncomputable def f35_r0 (c : CallF) : RF := rg [1, 2] <| aX 1 (fun n e M => aBoxO n 31 18 (eget e 0) M) <|
 aX 2 (pAl 31 18) <|
 aXZ
noncomputable def f35_r1 (c : CallF) : RF := rg [1, 2] <| aX 3 (pF 1 1 1) <|
 aX 4 (pL false 1 3) <|
 aX 5 (pK c false 66 [4]) <|
 aX 6 (pF 1 1 1) <|
 aX0 (pSK 1 6 5) <|
 aXZ
noncomputable def f35_r2 (c : CallF) : RF := rg [2] <| aX 7 (pL true 18 1) <|
 aX0 (pSK 18 2 7) <|
 aXZ
noncomputable def f35 (c : CallF) (k : Nat) : St :=
 (bSeq (bReg (f35_r0 c))
 (bSeq (bReg (f35_r1 c))
 (bSeq (bReg (f35_r2 c))
 (bEx .ret))))
theorem f35_eq (c : CallF) (k : Nat) : exec cx c 8 f35_an k (Tryd.f35.body.getD .skip) = f35 c k := by kernel_rfl
/-! ### f36: loop.example/g01263/impl.seal -/
def f36_an : Ann := ⟨[(0, r0 [1, 2, 3, 4]), (1, r0 [1, 2, 3, 4, 9]), (2, r0 [9, 10]), (3, r0 [9, 10, 23, 24]), (4, r0 [9, 10, 23, 24, 25]), (5, r0 [9, 10, 11, 23, 24]), (6, r0 [9, 10, 23, 24]), (7, r0 [9, 10, 23, 24]), (8, r0 [8])], [(4, [9, 10, 23, 24])]⟩
noncomputable def f36_r0 (c : CallF) : RF := rg [1, 2, 3, 4] <| aX 4 (pBox 18 0) <|
 aX 8 (pM (cn (.int .u32 0))) <|
 aXZ
noncomputable def f36_r1 (c : CallF) : RF := rg [1, 2, 3, 4, 9] <| aX 9 (pM (cn (.int .u32 2166136261))) <|
 aXZ
noncomputable def f36_r2 (c : CallF) : RF := rg [9, 10] <| aX 12 (pL true 18 4) <|
 aX 13 (pK c false 67 [12]) <|
 aX 14 (pM 1) <|
 aX 15 (pK c false 68 [14]) <|
 aX 16 (pB .add 9 13 15) <|
 aX 17 (pM 2) <|
 aX 18 (pB .add 9 16 17) <|
 aX 19 (pM 3) <|
 aX 20 (pK c false 68 [19]) <|
 aX 21 (pB .add 9 18 20) <|
 aX 10 (pM 21) <|
 aXZ
noncomputable def f36_r3 (c : CallF) : RF := rg [9, 10, 23, 24] <| aX 22 (pM 10) <|
 aX 23 (pLen 9 22) <|
 aX 24 (pM (cn (.int .i64 0))) <|
 aXZ
noncomputable def f36_r4 (c : CallF) : RF := rg [9, 10, 23, 24, 25] <| aX 25 (pB .lss 3 24 23) <|
 aXZ
noncomputable def f36_r5 (c : CallF) : RF := rg [9, 10, 11, 23, 24] <| aX 26 (pM 24) <|
 aX 11 (pM 26) <|
 aXZ
noncomputable def f36_r6 (c : CallF) : RF := rg [9, 10, 23, 24] <| aX 27 (pM 9) <|
 aX 28 (pM 10) <|
 aX 29 (pM 11) <|
 aX 30 (fun n e M => keep (aIndexB (eget e 28) (eget e 29))) <|
 aX 31 (fun n e M => keep (aConvI .u32 (eget e 30))) <|
 aX 32 (pB .xor 37 27 31) <|
 aX 33 (pB .mul 37 32 (cn (.int .u32 16777619))) <|
 aX 9 (pM 33) <|
 aXZ
noncomputable def f36_r7 (c : CallF) : RF := rg [9, 10, 23, 24] <| aX 34 (pB .add 3 24 (cn (.int .i64 1))) <|
 aX 24 (pM 34) <|
 aXZ
noncomputable def f36_r8 (c : CallF) : RF := rg [8] <| aX 35 (pM 9) <|
 aX 8 (pM 35) <|
 aXZ
noncomputable def f36_l4 (c : CallF) (k : Nat) : St :=
 (bSeq (bReg (f36_r4 c))
 (bSeq (bCond (.tmp 25) (bEx .nrm) (bEx (.ext 0)))
 (bSeq (bBlock 1 (bSeq (bReg (f36_r5 c))
 (bReg (f36_r6 c))))
 (bReg (f36_r7 c)))))
noncomputable def f36 (c : CallF) (k : Nat) : St :=
 (bSeq (bReg (f36_r0 c))
 (bSeq (bReg (f36_r1 c))
 (bSeq (bReg (f36_r2 c))
 (bSeq (bSeq (bReg (f36_r3 c))
 (bBlock 0 (bLoop [9, 10, 23, 24] (f36_l4 c k) k)))
 (bSeq (bReg (f36_r8 c))
 (bEx .ret))))))
theorem f36_eq (c : CallF) (k : Nat) : exec cx c 36 f36_an k (Tryd.f36.body.getD .skip) = f36 c k := by kernel_rfl
/-! ### f37: loop.example/g01263/impl.last -/
def f37_an : Ann := ⟨[(0, r0 [1, 2]), (1, r0 [2])], []⟩
noncomputable def f37_r0 (c : CallF) : RF := rg [1, 2] <| aX 1 (pBox 20 0) <|
 aX 2 (pAl 39 2) <|
 aXZ
noncomputable def f37_r1 (c : CallF) : RF := rg [2] <| aX 3 (pF 19 1 1) <|
 aX 4 (pL false 1 3) <|
 aX 5 (pF 19 1 1) <|
 aX 6 (pL false 1 5) <|
 aX 7 (pLen 32 6) <|
 aX 8 (pB .sub 3 7 (cn (.int .i64 1))) <|
 aX 9 (pI 2 4 8) <|
 aX 10 (pL true 2 9) <|
 aX0 (pS 2 2 10) <|
 aXZ
noncomputable def f37 (c : CallF) (k : Nat) : St :=
 (bSeq (bReg (f37_r0 c))
 (bSeq (bReg (f37_r1 c))
 (bEx .ret)))
theorem f37_eq (c : CallF) (k : Nat) : exec cx c 11 f37_an k (Tryd.f37.body.getD .skip) = f37 c k := by kernel_rfl
/-! ### f38: slices.Clone[[]loop.example/g01263/impl.Mark,loop.example/g01263/impl.Mark] -/
def f38_an : Ann := ⟨[(0, r0 [0]), (1, r0 [0, 4]), (2, r0 [2]), (3, r0 [2])], []⟩
noncomputable def f38_r0 (c : CallF) : RF := rg [0] <| aX 2 (pM (cn .nils)) <|
 aXZ
noncomputable def f38_r1 (c : CallF) : RF := rg [0, 4] <| aX 3 (pM 0) <|
 aX 4 (pB .eql 32 3 (cn .nils)) <|
 aXZ
noncomputable def f38_r2 (c : CallF) : RF := rg [2] <| aX 2 (pM (cn .nils)) <|
 aXZ
noncomputable def f38_r3 (c : CallF) : RF := rg [2] <| aX 5 (fun n e M => keep (aLitI 39 2 [] M)) <|
 aX 6 (pM 0) <|
 aX 7 (fun n e M => aAppI 39 2 24 (eget e 5) (eget e 6) M) <|
 aX 2 (pM 7) <|
 aXZ
noncomputable def f38 (c : CallF) (k : Nat) : St :=
 (bSeq (bReg (f38_r0 c))
 (bSeq (bSeq (bReg (f38_r1 c))
 (bCond (.tmp 4) (bSeq (bReg (f38_r2 c))
 (bEx .ret)) (bEx .nrm)))
 (bSeq (bReg (f38_r3 c))
 (bEx .ret))))
theorem f38_eq (c : CallF) (k : Nat) : exec cx c 8 f38_an k (Tryd.f38.body.getD .skip) = f38 c k := by kernel_rfl
/-! ### f42: loop.example/g01263/laws.szHalf -/
def f42_an : Ann := ⟨[(0, r0 [1, 2]), (1, r0 [1]), (2, r0 [1, 10]), (3, r0 [4]), (4, r0 [4])], []⟩
noncomputable def f42_r0 (c : CallF) : RF := rg [1, 2] <| aX 2 (pBox 18 0) <|
 aX 4 (pM (cn (.int .i64 0))) <|
 aXZ
noncomputable def f42_r1 (c : CallF) : RF := rg [1] <| aX 5 (pF 1 1 2) <|
 aX 6 (pL false 1 5) <|
 aX 7 (pM 1) <|
 aX 8 (pK c false 72 [6, 7]) <|
 aX 1 (pM 8) <|
 aXZ
noncomputable def f42_r2 (c : CallF) : RF := rg [1, 10] <| aX 9 (pM 1) <|
 aX 10 (pB .lss 3 9 (cn (.int .i64 0))) <|
 aXZ
noncomputable def f42_r3 (c : CallF) : RF := rg [4] <| aX 4 (pM (cn (.int .i64 (-1)))) <|
 aXZ
noncomputable def f42_r4 (c : CallF) : RF := rg [4] <| aX 11 (pM 1) <|
 aX 4 (pM 11) <|
 aXZ
noncomputable def f42 (c : CallF) (k : Nat) : St :=
 (bSeq (bReg (f42_r0 c))
 (bSeq (bReg (f42_r1 c))
 (bSeq (bSeq (bReg (f42_r2 c))
 (bCond (.tmp 10) (bSeq (bReg (f42_r3 c))
 (bEx .ret)) (bEx .nrm)))
 (bSeq (bReg (f42_r4 c))
 (bEx .ret)))))
theorem f42_eq (c : CallF) (k : Nat) : exec cx c 12 f42_an k (Tryd.f42.body.getD .skip) = f42 c k := by kernel_rfl
/-! ### f43: loop.example/g01263/laws.szMarkS -/
def f43_an : Ann := ⟨[(0, r0 [0, 1]), (1, r0 [0, 1]), (2, r0 [0, 1, 11]), (3, r0 [4]), (4, r0 [0, 1, 5]), (5, r0 [0, 1, 5, 15]), (6, r0 [0, 1, 5]), (7, r0 [0, 1, 5]), (8, r0 [0, 1, 5, 25]), (9, r0 [4]), (10, r0 [4])], [(5, [0, 1, 5])]⟩
noncomputable def f43_r0 (c : CallF) : RF := rg [0, 1] <| aX 4 (pM (cn (.int .i64 0))) <|
 aXZ
noncomputable def f43_r1 (c : CallF) : RF := rg [0, 1] <| aX 6 (pM 1) <|
 aX 7 (pM 0) <|
 aX 8 (pLen 55 7) <|
 aX 9 (pB .sub 3 6 8) <|
 aX 1 (pM 9) <|
 aXZ
noncomputable def f43_r2 (c : CallF) : RF := rg [0, 1, 11] <| aX 10 (pM 1) <|
 aX 11 (pB .lss 3 10 (cn (.int .i64 0))) <|
 aXZ
noncomputable def f43_r3 (c : CallF) : RF := rg [4] <| aX 4 (pM (cn (.int .i64 (-1)))) <|
 aXZ
noncomputable def f43_r4 (c : CallF) : RF := rg [0, 1, 5] <| aX 5 (pM (cn (.int .i64 0))) <|
 aXZ
noncomputable def f43_r5 (c : CallF) : RF := rg [0, 1, 5, 15] <| aX 12 (pM 5) <|
 aX 13 (pM 0) <|
 aX 14 (pLen 55 13) <|
 aX 15 (pB .lss 3 12 14) <|
 aXZ
noncomputable def f43_r6 (c : CallF) : RF := rg [0, 1, 5] <| aX 16 (pM 5) <|
 aX 17 (pB .add 3 16 (cn (.int .i64 1))) <|
 aX 5 (pM 17) <|
 aXZ
noncomputable def f43_r7 (c : CallF) : RF := rg [0, 1, 5] <| aX 18 (pM 0) <|
 aX 19 (pM 5) <|
 aX 20 (pI 2 18 19) <|
 aX 21 (pL true 2 20) <|
 aX 22 (pM 1) <|
 aX 23 (pK c false 73 [21, 22]) <|
 aX 1 (pM 23) <|
 aXZ
noncomputable def f43_r8 (c : CallF) : RF := rg [0, 1, 5, 25] <| aX 24 (pM 1) <|
 aX 25 (pB .lss 3 24 (cn (.int .i64 0))) <|
 aXZ
noncomputable def f43_r9 (c : CallF) : RF := rg [4] <| aX 4 (pM (cn (.int .i64 (-1)))) <|
 aXZ
noncomputable def f43_r10 (c : CallF) : RF := rg [4] <| aX 26 (pM 1) <|
 aX 4 (pM 26) <|
 aXZ
noncomputable def f43_l5 (c : CallF) (k : Nat) : St :=
 (bSeq (bSeq (bReg (f43_r5 c))
 (bCond (.tmp 15) (bEx .nrm) (bEx (.ext 0))))
 (bSeq (bBlock 1 (bSeq (bReg (f43_r7 c))
 (bSeq (bReg (f43_r8 c))
 (bCond (.tmp 25) (bSeq (bReg (f43_r9 c))
 (bEx .ret)) (bEx .nrm)))))
 (bReg (f43_r6 c))))
noncomputable def f43 (c : CallF) (k : Nat) : St :=
 (bSeq (bReg (f43_r0 c))
 (bSeq (bReg (f43_r1 c))
 (bSeq (bSeq (bReg (f43_r2 c))
 (bCond (.tmp 11) (bSeq (bReg (f43_r3 c))
 (bEx .ret)) (bEx .nrm)))
 (bSeq (bSeq (bReg (f43_r4 c))
 (bBlock 0 (bLoop [0, 1, 5] (f43_l5 c k) k)))
 (bSeq (bReg (f43_r10 c))
 (bEx .ret))))))
theorem f43_eq (c : CallF) (k : Nat) : exec cx c 27 f43_an k (Tryd.f43.body.getD .skip) = f43 c k := by kernel_rfl
/-! ### f44: loop.example/g01263/spec.l06Ok -/
def f44_an : Ann := ⟨[(0, r0 [0]), (1, r0 [0, 34]), (2, r0 [2]), (3, r0 [0, 3]), (4, r0 [0, 3, 4]), (5, r0 [0, 3, 4, 45]), (6, r0 [0, 3, 4]), (7, r0 [0, 4, 69]), (8, r0 [2]), (9, r0 [0, 3, 4]), (10, r0 [2])], [(5, [0, 3, 4])]⟩
noncomputable def f44_r0 (c : CallF) : RF := rg [0] <| aX 2 (pM (cn (.bool false))) <|
 aXZ
noncomputable def f44_r1 (c : CallF) : RF := rg [0, 34] <| aX 5 (pM 0) <|
 aX 6 (pN 5) <|
 aX 7 (pF 0 1 6) <|
 aX 8 (pL false 1 7) <|
 aX 9 (pK c false 46 [8]) <|
 aX 10 (pU .not 9) <|
 aX 11 (pM 10) <|
 aX 12 (pG 11 false (pM 0)) <|
 aX 13 (pG 11 false (pN 12)) <|
 aX 14 (pG 11 false (pF 1 18 13)) <|
 aX 15 (pG 11 false (pK c false 74 [14])) <|
 aX 16 (pG 11 false (pU .not 15)) <|
 aX 17 (pP 11 (cn (.bool true)) 16) <|
 aX 18 (pM 17) <|
 aX 19 (pG 18 false (pM 0)) <|
 aX 20 (pG 18 false (pN 19)) <|
 aX 21 (pG 18 false (pF 1 18 20)) <|
 aX 22 (pG 18 false (pF 0 1 21)) <|
 aX 23 (pG 18 false (pL false 1 22)) <|
 aX 24 (pG 18 false (pU .not 23)) <|
 aX 25 (pP 18 (cn (.bool true)) 24) <|
 aX 26 (pM 25) <|
 aX 27 (pG 26 false (pM 0)) <|
 aX 28 (pG 26 false (pN 27)) <|
 aX 29 (pG 26 false (pF 19 1 28)) <|
 aX 30 (pG 26 false (pL false 1 29)) <|
 aX 31 (pG 26 false (pLen 32 30)) <|
 aX 32 (pG 26 false (pK c false 75 [31, (cn (.int .i64 1)), (cn (.int .i64 30))])) <|
 aX 33 (pG 26 false (pU .not 32)) <|
 aX 34 (pP 26 (cn (.bool true)) 33) <|
 aXZ
noncomputable def f44_r2 (c : CallF) : RF := rg [2] <| aX 2 (pM (cn (.bool false))) <|
 aXZ
noncomputable def f44_r3 (c : CallF) : RF := rg [0, 3] <| aX 35 (pM 0) <|
 aX 36 (pN 35) <|
 aX 37 (pF 0 1 36) <|
 aX 38 (pL false 1 37) <|
 aX 3 (pM 38) <|
 aXZ
noncomputable def f44_r4 (c : CallF) : RF := rg [0, 3, 4] <| aX 4 (pM (cn (.int .i64 0))) <|
 aXZ
noncomputable def f44_r5 (c : CallF) : RF := rg [0, 3, 4, 45] <| aX 39 (pM 4) <|
 aX 40 (pM 0) <|
 aX 41 (pN 40) <|
 aX 42 (pF 19 1 41) <|
 aX 43 (pL false 1 42) <|
 aX 44 (pLen 32 43) <|
 aX 45 (pB .lss 3 39 44) <|
 aXZ
noncomputable def f44_r6 (c : CallF) : RF := rg [0, 3, 4] <| aX 46 (pM 4) <|
 aX 47 (pB .add 3 46 (cn (.int .i64 1))) <|
 aX 4 (pM 47) <|
 aXZ
noncomputable def f44_r7 (c : CallF) : RF := rg [0, 4, 69] <| aX 48 (pM 0) <|
 aX 49 (pN 48) <|
 aX 50 (pF 19 1 49) <|
 aX 51 (pL false 1 50) <|
 aX 52 (pM 4) <|
 aX 53 (pI 2 51 52) <|
 aX 54 (pF 0 1 53) <|
 aX 55 (pL false 1 54) <|
 aX 56 (pK c false 46 [55]) <|
 aX 57 (pU .not 56) <|
 aX 58 (pM 57) <|
 aX 59 (pG 58 false (pM 0)) <|
 aX 60 (pG 58 false (pN 59)) <|
 aX 61 (pG 58 false (pF 19 1 60)) <|
 aX 62 (pG 58 false (pL false 1 61)) <|
 aX 63 (pG 58 false (pM 4)) <|
 aX 64 (pG 58 false (pI 2 62 63)) <|
 aX 65 (pG 58 false (pF 0 1 64)) <|
 aX 66 (pG 58 false (pL false 1 65)) <|
 aX 67 (pG 58 false (pM 3)) <|
 aX 68 (pG 58 false (pB .eql 9 66 67)) <|
 aX 69 (pP 58 (cn (.bool true)) 68) <|
 aXZ
noncomputable def f44_r8 (c : CallF) : RF := rg [2] <| aX 2 (pM (cn (.bool false))) <|
 aXZ
noncomputable def f44_r9 (c : CallF) : RF := rg [0, 3, 4] <| aX 70 (pM 0) <|
 aX 71 (pN 70) <|
 aX 72 (pF 19 1 71) <|
 aX 73 (pL false 1 72) <|
 aX 74 (pM 4) <|
 aX 75 (pI 2 73 74) <|
 aX 76 (pF 0 1 75) <|
 aX 77 (pL false 1 76) <|
 aX 3 (pM 77) <|
 aXZ
noncomputable def f44_r10 (c : CallF) : RF := rg [2] <| aX 2 (pM (cn (.bool true))) <|
 aXZ
noncomputable def f44_l5 (c : CallF) (k : Nat) : St :=
 (bSeq (bSeq (bReg (f44_r5 c))
 (bCond (.tmp 45) (bEx .nrm) (bEx (.ext 0))))
 (bSeq (bBlock 1 (bSeq (bSeq (bReg (f44_r7 c))
 (bCond (.tmp 69) (bSeq (bReg (f44_r8 c))
 (bEx .ret)) (bEx .nrm)))
 (bReg (f44_r9 c))))
 (bReg (f44_r6 c))))
noncomputable def f44 (c : CallF) (k : Nat) : St :=
 (bSeq (bReg (f44_r0 c))
 (bSeq (bSeq (bReg (f44_r1 c))
 (bCond (.tmp 34) (bSeq (bReg (f44_r2 c))
 (bEx .ret)) (bEx .nrm)))
 (bSeq (bReg (f44_r3 c))
 (bSeq (bSeq (bReg (f44_r4 c))
 (bBlock 0 (bLoop [0, 3, 4] (f44_l5 c k) k)))
 (bSeq (bReg (f44_r10 c))
 (bEx .ret))))))
theorem f44_eq (c : CallF) (k : Nat) : exec cx c 78 f44_an k (Tryd.f44.body.getD .skip) = f44 c k := by kernel_rfl
/-! ### f45: loop.example/g01263/spec.l06Last -/
def f45_an : Ann := ⟨[(0, r0 [0, 2]), (1, ⟨[], [], [], [12], [2]⟩)], []⟩
noncomputable def f45_r0 (c : CallF) : RF := rg [0, 2] <| aX 2 (pAl 39 2) <|
 aXZ
noncomputable def f45_r1 (c : CallF) : RF := rgD [2] (aY 3 (pM 0) <|
 aY 4 (pN 3) <|
 aY 5 (pF 19 1 4) <|
 aY 6 (pL false 1 5) <|
 aY 7 (pM 0) <|
 aY 8 (pN 7) <|
 aY 9 (pF 19 1 8) <|
 aY 10 (pL false 1 9) <|
 aY 11 (pLen 32 10) <|
 aY 12 (pB .sub 3 11 (cn (.int .i64 1))) <|
 aY 13 (pI 2 6 12) <|
 aY 14 (pL true 2 13) <|
 aYZ)
 (aX0 (pS 2 2 14) <|
 aXZ)
noncomputable def f45 (c : CallF) (k : Nat) : St :=
 (bSeq (bReg (f45_r0 c))
 (bSeq (bReg (f45_r1 c))
 (bEx .ret)))
theorem f45_eq (c : CallF) (k : Nat) : exec cx c 15 f45_an k (Tryd.f45.body.getD .skip) = f45 c k := by kernel_rfl
/-! ### f46: loop.example/g01263/spec.l06Name -/
def f46_an : Ann := ⟨[(0, r0 [0]), (1, r0 [0, 3]), (2, r0 [0, 3, 7]), (3, r0 [0, 3]), (4, r0 [0, 3, 19]), (5, r0 [2]), (6, r0 [2])], [(2, [0, 3])]⟩
noncomputable def f46_r0 (c : CallF) : RF := rg [0] <| aX 2 (pM (cn (.bool false))) <|
 aXZ
noncomputable def f46_r1 (c : CallF) : RF := rg [0, 3] <| aX 3 (pM (cn (.int .i64 0))) <|
 aXZ
noncomputable def f46_r2 (c : CallF) : RF := rg [0, 3, 7] <| aX 4 (pM 3) <|
 aX 5 (pM 0) <|
 aX 6 (pLen 9 5) <|
 aX 7 (pB .lss 3 4 6) <|
 aXZ
noncomputable def f46_r3 (c : CallF) : RF := rg [0, 3] <| aX 8 (pM 3) <|
 aX 9 (pB .add 3 8 (cn (.int .i64 1))) <|
 aX 3 (pM 9) <|
 aXZ
noncomputable def f46_r4 (c : CallF) : RF := rg [0, 3, 19] <| aX 10 (pM 0) <|
 aX 11 (pM 3) <|
 aX 12 (fun n e M => keep (aIndexB (eget e 10) (eget e 11))) <|
 aX 13 (pB .lss 5 12 (cn (.int .u8 97))) <|
 aX 14 (pM 13) <|
 aX 15 (pG 14 false (pM 0)) <|
 aX 16 (pG 14 false (pM 3)) <|
 aX 17 (pG 14 false (fun n e M => keep (aIndexB (eget e 15) (eget e 16)))) <|
 aX 18 (pG 14 false (pB .gtr 5 17 (cn (.int .u8 122)))) <|
 aX 19 (pP 14 (cn (.bool true)) 18) <|
 aXZ
noncomputable def f46_r5 (c : CallF) : RF := rg [2] <| aX 2 (pM (cn (.bool false))) <|
 aXZ
noncomputable def f46_r6 (c : CallF) : RF := rg [2] <| aX 20 (pM 0) <|
 aX 21 (pB .neq 9 20 (cn (.str []))) <|
 aX 22 (pM 21) <|
 aX 23 (pG 22 true (pM 0)) <|
 aX 24 (pG 22 true (pLen 9 23)) <|
 aX 25 (pG 22 true (pB .leq 3 24 (cn (.int .i64 12)))) <|
 aX 26 (pP 22 25 (cn (.bool false))) <|
 aX 2 (pM 26) <|
 aXZ
noncomputable def f46_l2 (c : CallF) (k : Nat) : St :=
 (bSeq (bSeq (bReg (f46_r2 c))
 (bCond (.tmp 7) (bEx .nrm) (bEx (.ext 0))))
 (bSeq (bBlock 1 (bSeq (bReg (f46_r4 c))
 (bCond (.tmp 19) (bSeq (bReg (f46_r5 c))
 (bEx .ret)) (bEx .nrm))))
 (bReg (f46_r3 c))))
noncomputable def f46 (c : CallF) (k : Nat) : St :=
 (bSeq (bReg (f46_r0 c))
 (bSeq (bSeq (bReg (f46_r1 c))
 (bBlock 0 (bLoop [0, 3] (f46_l2 c k) k)))
 (bSeq (bReg (f46_r6 c))
 (bEx .ret))))
theorem f46_eq (c : CallF) (k : Nat) : exec cx c 27 f46_an k (Tryd.f46.body.getD .skip) = f46 c k := by kernel_rfl
/-! ### f47: loop.example/g01263/spec.l06Seal -/
def f47_an : Ann := ⟨[(0, r0 [0, 1, 2, 3]), (1, r0 [1, 2, 3, 9]), (2, r0 [2, 3, 9]), (3, r0 [3, 9]), (4, r0 [8])], []⟩
noncomputable def f47_r0 (c : CallF) : RF := rg [0, 1, 2, 3] <| aX 8 (pM (cn (.int .u32 0))) <|
 aXZ
noncomputable def f47_r1 (c : CallF) : RF := rg [1, 2, 3, 9] <| aX 10 (pM 0) <|
 aX 11 (pK c false 77 [10]) <|
 aX 12 (pK c false 76 [(cn (.int .u32 2166136261)), 11]) <|
 aX 9 (pM 12) <|
 aXZ
noncomputable def f47_r2 (c : CallF) : RF := rg [2, 3, 9] <| aX 13 (pM 9) <|
 aX 14 (pM 1) <|
 aX 15 (pK c false 78 [13, 14]) <|
 aX 9 (pM 15) <|
 aXZ
noncomputable def f47_r3 (c : CallF) : RF := rg [3, 9] <| aX 16 (pM 9) <|
 aX 17 (pM 2) <|
 aX 18 (pK c false 76 [16, 17]) <|
 aX 9 (pM 18) <|
 aXZ
noncomputable def f47_r4 (c : CallF) : RF := rg [8] <| aX 19 (pM 9) <|
 aX 20 (pM 3) <|
 aX 21 (pK c false 78 [19, 20]) <|
 aX 8 (pM 21) <|
 aXZ
noncomputable def f47 (c : CallF) (k : Nat) : St :=
 (bSeq (bReg (f47_r0 c))
 (bSeq (bReg (f47_r1 c))
 (bSeq (bReg (f47_r2 c))
 (bSeq (bReg (f47_r3 c))
 (bSeq (bReg (f47_r4 c))
 (bEx .ret))))))
theorem f47_eq (c : CallF) (k : Nat) : exec cx c 22 f47_an k (Tryd.f47.body.getD .skip) = f47 c k := by kernel_rfl
/-! ### f48: loop.example/g01263/spec.l04Copy -/
def f48_an : Ann := ⟨[(0, r0 [0, 2]), (1, ⟨[14], [], [], [14], [2]⟩)], []⟩
noncomputable def f48_r0 (c : CallF) : RF := rg [0, 2] <| aX 2 (pAl 31 18) <|
 aXZ
noncomputable def f48_r1 (c : CallF) : RF := rgD [2] (aY 3 (pM 0) <|
 aY 4 (pN 3) <|
 aY 5 (pF 0 1 4) <|
 aY 6 (pL false 1 5) <|
 aY 7 (pM 0) <|
 aY 8 (pN 7) <|
 aY 9 (pF 1 1 8) <|
 aY 10 (pL false 1 9) <|
 aY 11 (pK c false 79 [10]) <|
 aY 12 (pM 0) <|
 aY 13 (pN 12) <|
 aY 14 (pF 2 16 13) <|
 aY 15 (pL true 16 14) <|
 aY 16 (fun n e M => keep (aBuild (zeroOf cx.P 31) [(0, 1, (eget e 6)), (1, 1, (eget e 11)), (2, 16, (eget e 15))] M)) <|
 aYZ)
 (aX0 (pSK 18 2 16) <|
 aXZ)
noncomputable def f48 (c : CallF) (k : Nat) : St :=
 (bSeq (bReg (f48_r0 c))
 (bSeq (bReg (f48_r1 c))
 (bEx .ret)))
theorem f48_eq (c : CallF) (k : Nat) : exec cx c 17 f48_an k (Tryd.f48.body.getD .skip) = f48 c k := by kernel_rfl
/-! ### f49: loop.example/g01263/laws.toHalf -/
def f49_an : Ann := ⟨[(0, r0 [1, 2]), (1, r0 [1, 2, 3]), (2, r0 [1, 2, 3]), (3, ⟨[4], [], [], [], [1, 2, 3]⟩), (4, r0 [2, 3]), (5, ⟨[1], [], [], [], [2]⟩)], []⟩
noncomputable def f49_r0 (c : CallF) : RF := rg [1, 2] <| aX 1 (pBox 18 0) <|
 aX 2 (pAl 31 18) <|
 aXZ
noncomputable def f49_r1 (c : CallF) : RF := rg [1, 2, 3] <| aX 3 (pAl 31 18) <|
 aXZ
noncomputable def f49_r2 (c : CallF) : RF := rg [1, 2, 3] <| aX 4 (pF 0 1 1) <|
 aX 5 (pL false 1 4) <|
 aX 6 (pF 0 1 3) <|
 aX0 (pS 1 6 5) <|
 aXZ
noncomputable def f49_r3 (c : CallF) : RF := rg [1, 2, 3] <| aX 7 (pF 1 1 1) <|
 aX 8 (pL false 1 7) <|
 aX 9 (pK c false 80 [8]) <|
 aX 10 (pF 1 1 3) <|
 aX0 (pSK 1 10 9) <|
 aXZ
noncomputable def f49_r4 (c : CallF) : RF := rg [2, 3] <| aX 11 (pF 2 16 1) <|
 aX 12 (pL true 16 11) <|
 aX 13 (pK c false 81 [12]) <|
 aX 14 (pF 2 16 3) <|
 aX0 (pS 16 14 13) <|
 aXZ
noncomputable def f49_r5 (c : CallF) : RF := rg [2] <| aX 15 (pL true 18 3) <|
 aX0 (pSK 18 2 15) <|
 aXZ
noncomputable def f49 (c : CallF) (k : Nat) : St :=
 (bSeq (bReg (f49_r0 c))
 (bSeq (bReg (f49_r1 c))
 (bSeq (bReg (f49_r2 c))
 (bSeq (bReg (f49_r3 c))
 (bSeq (bReg (f49_r4 c))
 (bSeq (bReg (f49_r5 c))
 (bEx .ret)))))))
theorem f49_eq (c : CallF) (k : Nat) : exec cx c 16 f49_an k (Tryd.f49.body.getD .skip) = f49 c k := by kernel_rfl
/-! ### f50: loop.example/g01263/laws.toMarkS -/
def f50_an : Ann := ⟨[(0, r0 [0]), (1, r0 [0, 3]), (2, r0 [0, 3, 4]), (3, r0 [0, 3, 4, 11]), (4, r0 [0, 3, 4]), (5, r0 [0, 3, 4]), (6, r0 [2])], [(3, [0, 3, 4])]⟩
noncomputable def f50_r0 (c : CallF) : RF := rg [0] <| aX 2 (pM (cn .nils)) <|
 aXZ
noncomputable def f50_r1 (c : CallF) : RF := rg [0, 3] <| aX 5 (pM 0) <|
 aX 6 (pLen 55 5) <|
 aX 7 (fun n e M => aMakeO n 39 2 24 (zeroOf cx.P 39) (eget e 6) (eget e 6)) <|
 aX 3 (pM 7) <|
 aXZ
noncomputable def f50_r2 (c : CallF) : RF := rg [0, 3, 4] <| aX 4 (pM (cn (.int .i64 0))) <|
 aXZ
noncomputable def f50_r3 (c : CallF) : RF := rg [0, 3, 4, 11] <| aX 8 (pM 4) <|
 aX 9 (pM 0) <|
 aX 10 (pLen 55 9) <|
 aX 11 (pB .lss 3 8 10) <|
 aXZ
noncomputable def f50_r4 (c : CallF) : RF := rg [0, 3, 4] <| aX 12 (pM 4) <|
 aX 13 (pB .add 3 12 (cn (.int .i64 1))) <|
 aX 4 (pM 13) <|
 aXZ
noncomputable def f50_r5 (c : CallF) : RF := rg [0, 3, 4] <| aX 14 (pM 3) <|
 aX 15 (pM 4) <|
 aX 16 (pM 0) <|
 aX 17 (pM 4) <|
 aX 18 (pI 2 16 17) <|
 aX 19 (pL true 2 18) <|
 aX 20 (pK c false 82 [19]) <|
 aX 21 (pI 2 14 15) <|
 aX0 (pS 2 21 20) <|
 aXZ
noncomputable def f50_r6 (c : CallF) : RF := rg [2] <| aX 22 (pM 3) <|
 aX 2 (pM 22) <|
 aXZ
noncomputable def f50_l3 (c : CallF) (k : Nat) : St :=
 (bSeq (bSeq (bReg (f50_r3 c))
 (bCond (.tmp 11) (bEx .nrm) (bEx (.ext 0))))
 (bSeq (bBlock 1 (bReg (f50_r5 c)))
 (bReg (f50_r4 c))))
noncomputable def f50 (c : CallF) (k : Nat) : St :=
 (bSeq (bReg (f50_r0 c))
 (bSeq (bReg (f50_r1 c))
 (bSeq (bSeq (bReg (f50_r2 c))
 (bBlock 0 (bLoop [0, 3, 4] (f50_l3 c k) k)))
 (bSeq (bReg (f50_r6 c))
 (bEx .ret)))))
theorem f50_eq (c : CallF) (k : Nat) : exec cx c 23 f50_an k (Tryd.f50.body.getD .skip) = f50 c k := by kernel_rfl
/-! ### f51: loop.example/g01263/laws.eqHalf -/
def f51_an : Ann := ⟨[(0, r0 [2, 3]), (1, r0 [2, 3, 9]), (2, r0 [4]), (3, r0 [2, 3, 15]), (4, r0 [4]), (5, r0 [21]), (6, r0 [4]), (7, r0 [4])], []⟩
noncomputable def f51_r0 (c : CallF) : RF := rg [2, 3] <| aX 2 (pBox 18 0) <|
 aX 3 (pBox 18 1) <|
 aX 4 (pM (cn (.bool false))) <|
 aXZ
noncomputable def f51_r1 (c : CallF) : RF := rg [2, 3, 9] <| aX 5 (pF 0 1 2) <|
 aX 6 (pL false 1 5) <|
 aX 7 (pF 0 1 3) <|
 aX 8 (pL false 1 7) <|
 aX 9 (pB .neq 4 6 8) <|
 aXZ
noncomputable def f51_r2 (c : CallF) : RF := rg [4] <| aX 4 (pM (cn (.bool false))) <|
 aXZ
noncomputable def f51_r3 (c : CallF) : RF := rg [2, 3, 15] <| aX 10 (pF 1 1 2) <|
 aX 11 (pL false 1 10) <|
 aX 12 (pF 1 1 3) <|
 aX 13 (pL false 1 12) <|
 aX 14 (pK c false 83 [11, 13]) <|
 aX 15 (pU .not 14) <|
 aXZ
noncomputable def f51_r4 (c : CallF) : RF := rg [4] <| aX 4 (pM (cn (.bool false))) <|
 aXZ
noncomputable def f51_r5 (c : CallF) : RF := rg [21] <| aX 16 (pF 2 16 2) <|
 aX 17 (pL true 16 16) <|
 aX 18 (pF 2 16 3) <|
 aX 19 (pL true 16 18) <|
 aX 20 (pK c false 84 [17, 19]) <|
 aX 21 (pU .not 20) <|
 aXZ
noncomputable def f51_r6 (c : CallF) : RF := rg [4] <| aX 4 (pM (cn (.bool false))) <|
 aXZ
noncomputable def f51_r7 (c : CallF) : RF := rg [4] <| aX 4 (pM (cn (.bool true))) <|
 aXZ
noncomputable def f51 (c : CallF) (k : Nat) : St :=
 (bSeq (bReg (f51_r0 c))
 (bSeq (bSeq (bReg (f51_r1 c))
 (bCond (.tmp 9) (bSeq (bReg (f51_r2 c))
 (bEx .ret)) (bEx .nrm)))
 (bSeq (bSeq (bReg (f51_r3 c))
 (bCond (.tmp 15) (bSeq (bReg (f51_r4 c))
 (bEx .ret)) (bEx .nrm)))
 (bSeq (bSeq (bReg (f51_r5 c))
 (bCond (.tmp 21) (bSeq (bReg (f51_r6 c))
 (bEx .ret)) (bEx .nrm)))
 (bSeq (bReg (f51_r7 c))
 (bEx .ret))))))
theorem f51_eq (c : CallF) (k : Nat) : exec cx c 22 f51_an k (Tryd.f51.body.getD .skip) = f51 c k := by kernel_rfl
/-! ### f52: loop.example/g01263/laws.eqMarkS -/
def f52_an : Ann := ⟨[(0, r0 [0, 1]), (1, r0 [0, 1, 10]), (2, r0 [4]), (3, r0 [0, 1, 5]), (4, r0 [0, 1, 5, 14]), (5, r0 [0, 1, 5]), (6, r0 [0, 1, 5, 26]), (7, r0 [4]), (8, r0 [4])], [(4, [0, 1, 5])]⟩
noncomputable def f52_r0 (c : CallF) : RF := rg [0, 1] <| aX 4 (pM (cn (.bool false))) <|
 aXZ
noncomputable def f52_r1 (c : CallF) : RF := rg [0, 1, 10] <| aX 6 (pM 0) <|
 aX 7 (pLen 32 6) <|
 aX 8 (pM 1) <|
 aX 9 (pLen 32 8) <|
 aX 10 (pB .neq 3 7 9) <|
 aXZ
noncomputable def f52_r2 (c : CallF) : RF := rg [4] <| aX 4 (pM (cn (.bool false))) <|
 aXZ
noncomputable def f52_r3 (c : CallF) : RF := rg [0, 1, 5] <| aX 5 (pM (cn (.int .i64 0))) <|
 aXZ
noncomputable def f52_r4 (c : CallF) : RF := rg [0, 1, 5, 14] <| aX 11 (pM 5) <|
 aX 12 (pM 0) <|
 aX 13 (pLen 32 12) <|
 aX 14 (pB .lss 3 11 13) <|
 aXZ
noncomputable def f52_r5 (c : CallF) : RF := rg [0, 1, 5] <| aX 15 (pM 5) <|
 aX 16 (pB .add 3 15 (cn (.int .i64 1))) <|
 aX 5 (pM 16) <|
 aXZ
noncomputable def f52_r6 (c : CallF) : RF := rgD [0, 1, 5, 26] (aY 17 (pM 0) <|
 aY 18 (pM 5) <|
 aY 19 (pI 2 17 18) <|
 aY 20 (pL true 2 19) <|
 aY 21 (pM 1) <|
 aY 22 (pM 5) <|
 aY 23 (pI 2 21 22) <|
 aY 24 (pL true 2 23) <|
 aY 25 (pK c false 85 [20, 24]) <|
 aY 26 (pU .not 25) <|
 aYZ)
 (aXZ)
noncomputable def f52_r7 (c : CallF) : RF := rg [4] <| aX 4 (pM (cn (.bool false))) <|
 aXZ
noncomputable def f52_r8 (c : CallF) : RF := rg [4] <| aX 4 (pM (cn (.bool true))) <|
 aXZ
noncomputable def f52_l4 (c : CallF) (k : Nat) : St :=
 (bSeq (bSeq (bReg (f52_r4 c))
 (bCond (.tmp 14) (bEx .nrm) (bEx (.ext 0))))
 (bSeq (bBlock 1 (bSeq (bReg (f52_r6 c))
 (bCond (.tmp 26) (bSeq (bReg (f52_r7 c))
 (bEx .ret)) (bEx .nrm))))
 (bReg (f52_r5 c))))
noncomputable def f52 (c : CallF) (k : Nat) : St :=
 (bSeq (bReg (f52_r0 c))
 (bSeq (bSeq (bReg (f52_r1 c))
 (bCond (.tmp 10) (bSeq (bReg (f52_r2 c))
 (bEx .ret)) (bEx .nrm)))
 (bSeq (bSeq (bReg (f52_r3 c))
 (bBlock 0 (bLoop [0, 1, 5] (f52_l4 c k) k)))
 (bSeq (bReg (f52_r8 c))
 (bEx .ret)))))
theorem f52_eq (c : CallF) (k : Nat) : exec cx c 27 f52_an k (Tryd.f52.body.getD .skip) = f52 c k := by kernel_rfl
/-! ### f53: loop.example/g01263/laws.markHalf -/
def f53_an : Ann := ⟨[(0, ⟨[0], [], [], [], [1, 2]⟩), (1, r0 [1]), (2, r0 [4])], []⟩
noncomputable def f53_r0 (c : CallF) : RF := rg [1, 2] <| aX 2 (fun n e M => aBoxO n 31 18 (eget e 0) M) <|
 aX 4 (pM (cn (.int .i64 0))) <|
 aXZ
noncomputable def f53_r1 (c : CallF) : RF := rg [1] <| aX 5 (pF 1 1 2) <|
 aX 6 (pL false 1 5) <|
 aX 7 (pM 1) <|
 aX 8 (pK c false 86 [6, 7]) <|
 aX 1 (pM 8) <|
 aXZ
noncomputable def f53_r2 (c : CallF) : RF := rg [4] <| aX 9 (pM 1) <|
 aX 4 (pM 9) <|
 aXZ
noncomputable def f53 (c : CallF) (k : Nat) : St :=
 (bSeq (bReg (f53_r0 c))
 (bSeq (bReg (f53_r1 c))
 (bSeq (bReg (f53_r2 c))
 (bEx .ret))))
theorem f53_eq (c : CallF) (k : Nat) : exec cx c 10 f53_an k (Tryd.f53.body.getD .skip) = f53 c k := by kernel_rfl
/-! ### f54: loop.example/g01263/laws.markMarkS -/
def f54_an : Ann := ⟨[(0, r0 [0, 1]), (1, r0 [0, 1, 5]), (2, r0 [0, 1, 5, 9]), (3, r0 [0, 1, 5]), (4, r0 [0, 1, 5]), (5, r0 [0, 1, 5]), (6, r0 [0, 1, 5]), (7, r0 [0, 1, 5]), (8, r0 [4])], [(2, [0, 1, 5])]⟩
noncomputable def f54_r0 (c : CallF) : RF := rg [0, 1] <| aX 4 (pM (cn (.int .i64 0))) <|
 aXZ
noncomputable def f54_r1 (c : CallF) : RF := rg [0, 1, 5] <| aX 5 (pM (cn (.int .i64 0))) <|
 aXZ
noncomputable def f54_r2 (c : CallF) : RF := rg [0, 1, 5, 9] <| aX 6 (pM 5) <|
 aX 7 (pM 0) <|
 aX 8 (pLen 32 7) <|
 aX 9 (pB .lss 3 6 8) <|
 aXZ
noncomputable def f54_r3 (c : CallF) : RF := rg [0, 1, 5] <| aX 10 (pM 5) <|
 aX 11 (pB .add 3 10 (cn (.int .i64 1))) <|
 aX 5 (pM 11) <|
 aXZ
noncomputable def f54_r4 (c : CallF) : RF := rg [0, 1, 5] <| aX 12 (pM 0) <|
 aX 13 (pM 5) <|
 aX 14 (pM 1) <|
 aX 15 (pK c false 87 [14]) <|
 aX 16 (pI 2 12 13) <|
 aX 17 (pF 0 1 16) <|
 aX0 (pS 1 17 15) <|
 aXZ
noncomputable def f54_r5 (c : CallF) : RF := rg [0, 1, 5] <| aX 18 (pM 1) <|
 aX 19 (pB .add 3 18 (cn (.int .i64 1))) <|
 aX 1 (pM 19) <|
 aXZ
noncomputable def f54_r6 (c : CallF) : RF := rg [0, 1, 5] <| aX 20 (pM 0) <|
 aX 21 (pM 5) <|
 aX 22 (pM 1) <|
 aX 23 (fun n e M => keep (aConvI .u32 (eget e 22))) <|
 aX 24 (pI 2 20 21) <|
 aX 25 (pF 1 1 24) <|
 aX0 (pS 1 25 23) <|
 aXZ
noncomputable def f54_r7 (c : CallF) : RF := rg [0, 1, 5] <| aX 26 (pM 1) <|
 aX 27 (pB .add 3 26 (cn (.int .i64 1))) <|
 aX 1 (pM 27) <|
 aXZ
noncomputable def f54_r8 (c : CallF) : RF := rg [4] <| aX 28 (pM 1) <|
 aX 4 (pM 28) <|
 aXZ
noncomputable def f54_l2 (c : CallF) (k : Nat) : St :=
 (bSeq (bSeq (bReg (f54_r2 c))
 (bCond (.tmp 9) (bEx .nrm) (bEx (.ext 0))))
 (bSeq (bBlock 1 (bSeq (bReg (f54_r4 c))
 (bSeq (bReg (f54_r5 c))
 (bSeq (bReg (f54_r6 c))
 (bReg (f54_r7 c))))))
 (bReg (f54_r3 c))))
noncomputable def f54 (c : CallF) (k : Nat) : St :=
 (bSeq (bReg (f54_r0 c))
 (bSeq (bSeq (bReg (f54_r1 c))
 (bBlock 0 (bLoop [0, 1, 5] (f54_l2 c k) k)))
 (bSeq (bReg (f54_r8 c))
 (bEx .ret))))
theorem f54_eq (c : CallF) (k : Nat) : exec cx c 29 f54_an k (Tryd.f54.body.getD .skip) = f54 c k := by kernel_rfl
/-! ### f55: loop.example/g01263/laws.heldHalf -/
def f55_an : Ann := ⟨[(0, r0 [1, 2]), (1, r0 [1]), (2, r0 [1, 10]), (3, r0 [4]), (4, r0 [4])], []⟩
noncomputable def f55_r0 (c : CallF) : RF := rg [1, 2] <| aX 2 (pBox 18 0) <|
 aX 4 (pM (cn (.int .i64 0))) <|
 aXZ
noncomputable def f55_r1 (c : CallF) : RF := rg [1] <| aX 5 (pF 1 1 2) <|
 aX 6 (pL false 1 5) <|
 aX 7 (pM 1) <|
 aX 8 (pK c false 88 [6, 7]) <|
 aX 1 (pM 8) <|
 aXZ
noncomputable def f55_r2 (c : CallF) : RF := rg [1, 10] <| aX 9 (pM 1) <|
 aX 10 (pB .lss 3 9 (cn (.int .i64 0))) <|
 aXZ
noncomputable def f55_r3 (c : CallF) : RF := rg [4] <| aX 4 (pM (cn (.int .i64 (-1)))) <|
 aXZ
noncomputable def f55_r4 (c : CallF) : RF := rg [4] <| aX 11 (pM 1) <|
 aX 4 (pM 11) <|
 aXZ
noncomputable def f55 (c : CallF) (k : Nat) : St :=
 (bSeq (bReg (f55_r0 c))
 (bSeq (bReg (f55_r1 c))
 (bSeq (bSeq (bReg (f55_r2 c))
 (bCond (.tmp 10) (bSeq (bReg (f55_r3 c))
 (bEx .ret)) (bEx .nrm)))
 (bSeq (bReg (f55_r4 c))
 (bEx .ret)))))
theorem f55_eq (c : CallF) (k : Nat) : exec cx c 12 f55_an k (Tryd.f55.body.getD .skip) = f55 c k := by kernel_rfl
/-! ### f56: loop.example/g01263/laws.heldMarkS -/
def f56_an : Ann := ⟨[(0, r0 [0, 1]), (1, r0 [0, 1, 5]), (2, r0 [0, 1, 5, 9]), (3, r0 [0, 1, 5]), (4, r0 [0, 1, 5, 19]), (5, r0 [4]), (6, r0 [0, 1, 5]), (7, r0 [0, 1, 5, 29]), (8, r0 [4]), (9, r0 [0, 1, 5]), (10, r0 [4])], [(2, [0, 1, 5])]⟩
noncomputable def f56_r0 (c : CallF) : RF := rg [0, 1] <| aX 4 (pM (cn (.int .i64 0))) <|
 aXZ
noncomputable def f56_r1 (c : CallF) : RF := rg [0, 1, 5] <| aX 5 (pM (cn (.int .i64 0))) <|
 aXZ
noncomputable def f56_r2 (c : CallF) : RF := rg [0, 1, 5, 9] <| aX 6 (pM 5) <|
 aX 7 (pM 0) <|
 aX 8 (pLen 32 7) <|
 aX 9 (pB .lss 3 6 8) <|
 aXZ
noncomputable def f56_r3 (c : CallF) : RF := rg [0, 1, 5] <| aX 10 (pM 5) <|
 aX 11 (pB .add 3 10 (cn (.int .i64 1))) <|
 aX 5 (pM 11) <|
 aXZ
noncomputable def f56_r4 (c : CallF) : RF := rgD [0, 1, 5, 19] (aY 12 (pM 0) <|
 aY 13 (pM 5) <|
 aY 14 (pI 2 12 13) <|
 aY 15 (pF 0 1 14) <|
 aY 16 (pL false 1 15) <|
 aY 17 (pM 1) <|
 aY 18 (pK c false 87 [17]) <|
 aY 19 (pB .neq 9 16 18) <|
 aYZ)
 (aXZ)
noncomputable def f56_r5 (c : CallF) : RF := rg [4] <| aX 4 (pM (cn (.int .i64 (-1)))) <|
 aXZ
noncomputable def f56_r6 (c : CallF) : RF := rg [0, 1, 5] <| aX 20 (pM 1) <|
 aX 21 (pB .add 3 20 (cn (.int .i64 1))) <|
 aX 1 (pM 21) <|
 aXZ
noncomputable def f56_r7 (c : CallF) : RF := rg [0, 1, 5, 29] <| aX 22 (pM 0) <|
 aX 23 (pM 5) <|
 aX 24 (pI 2 22 23) <|
 aX 25 (pF 1 1 24) <|
 aX 26 (pL false 1 25) <|
 aX 27 (pM 1) <|
 aX 28 (fun n e M => keep (aConvI .u32 (eget e 27))) <|
 aX 29 (pB .neq 37 26 28) <|
 aXZ
noncomputable def f56_r8 (c : CallF) : RF := rg [4] <| aX 4 (pM (cn (.int .i64 (-1)))) <|
 aXZ
noncomputable def f56_r9 (c : CallF) : RF := rg [0, 1, 5] <| aX 30 (pM 1) <|
 aX 31 (pB .add 3 30 (cn (.int .i64 1))) <|
 aX 1 (pM 31) <|
 aXZ
noncomputable def f56_r10 (c : CallF) : RF := rg [4] <| aX 32 (pM 1) <|
 aX 4 (pM 32) <|
 aXZ
noncomputable def f56_l2 (c : CallF) (k : Nat) : St :=
 (bSeq (bSeq (bReg (f56_r2 c))
 (bCond (.tmp 9) (bEx .nrm) (bEx (.ext 0))))
 (bSeq (bBlock 1 (bSeq (bSeq (bReg (f56_r4 c))
 (bCond (.tmp 19) (bSeq (bReg (f56_r5 c))
 (bEx .ret)) (bEx .nrm)))
 (bSeq (bReg (f56_r6 c))
 (bSeq (bSeq (bReg (f56_r7 c))
 (bCond (.tmp 29) (bSeq (bReg (f56_r8 c))
 (bEx .ret)) (bEx .nrm)))
 (bReg (f56_r9 c))))))
 (bReg (f56_r3 c))))
noncomputable def f56 (c : CallF) (k : Nat) : St :=
 (bSeq (bReg (f56_r0 c))
 (bSeq (bSeq (bReg (f56_r1 c))
 (bBlock 0 (bLoop [0, 1, 5] (f56_l2 c k) k)))
 (bSeq (bReg (f56_r10 c))
 (bEx .ret))))
theorem f56_eq (c : CallF) (k : Nat) : exec cx c 33 f56_an k (Tryd.f56.body.getD .skip) = f56 c k := by kernel_rfl
/-! ### f62: loop.example/g01263/impl.ValidGrain -/
def f62_an : Ann := ⟨[(0, r0 [1]), (1, r0 [5, 6]), (2, r0 [5, 6, 7]), (3, r0 [4, 5, 6]), (4, r0 [5, 6, 14]), (5, r0 [2]), (6, r0 [5, 6]), (7, r0 [2])], [(2, [5, 6])]⟩
noncomputable def f62_r0 (c : CallF) : RF := rg [1] <| aX 1 (pBox 16 0) <|
 aX 2 (pM (cn (.bool false))) <|
 aXZ
noncomputable def f62_r1 (c : CallF) : RF := rg [5, 6] <| aX 5 (pL true 16 1) <|
 aX 6 (pM (cn (.int .i64 0))) <|
 aXZ
noncomputable def f62_r2 (c : CallF) : RF := rg [5, 6, 7] <| aX 7 (pB .lss 3 6 (cn (.int .i64 16))) <|
 aXZ
noncomputable def f62_r3 (c : CallF) : RF := rg [4, 5, 6] <| aX 8 (fun n e M => keep (aIndexA false 16 1 (eget e 5) (eget e 6))) <|
 aX 4 (pM 8) <|
 aXZ
noncomputable def f62_r4 (c : CallF) : RF := rg [5, 6, 14] <| aX 9 (pM 4) <|
 aX 10 (pB .lss 27 9 (cn (.int .i8 (-3)))) <|
 aX 11 (pM 10) <|
 aX 12 (pG 11 false (pM 4)) <|
 aX 13 (pG 11 false (pB .gtr 27 12 (cn (.int .i8 3)))) <|
 aX 14 (pP 11 (cn (.bool true)) 13) <|
 aXZ
noncomputable def f62_r5 (c : CallF) : RF := rg [2] <| aX 2 (pM (cn (.bool false))) <|
 aXZ
noncomputable def f62_r6 (c : CallF) : RF := rg [5, 6] <| aX 15 (pB .add 3 6 (cn (.int .i64 1))) <|
 aX 6 (pM 15) <|
 aXZ
noncomputable def f62_r7 (c : CallF) : RF := rg [2] <| aX 2 (pM (cn (.bool true))) <|
 aXZ
noncomputable def f62_l2 (c : CallF) (k : Nat) : St :=
 (bSeq (bReg (f62_r2 c))
 (bSeq (bCond (.tmp 7) (bEx .nrm) (bEx (.ext 0)))
 (bSeq (bBlock 1 (bSeq (bReg (f62_r3 c))
 (bSeq (bReg (f62_r4 c))
 (bCond (.tmp 14) (bSeq (bReg (f62_r5 c))
 (bEx .ret)) (bEx .nrm)))))
 (bReg (f62_r6 c)))))
noncomputable def f62 (c : CallF) (k : Nat) : St :=
 (bSeq (bReg (f62_r0 c))
 (bSeq (bSeq (bReg (f62_r1 c))
 (bBlock 0 (bLoop [5, 6] (f62_l2 c k) k)))
 (bSeq (bReg (f62_r7 c))
 (bEx .ret))))
theorem f62_eq (c : CallF) (k : Nat) : exec cx c 16 f62_an k (Tryd.f62.body.getD .skip) = f62 c k := by kernel_rfl
/-! ### f63: loop.example/g01263/impl.isKind -/
def f63_an : Ann := ⟨[(0, r0 [0]), (1, r0 [2])], []⟩
noncomputable def f63_r0 (c : CallF) : RF := rg [0] <| aX 2 (pM (cn (.bool false))) <|
 aXZ
noncomputable def f63_r1 (c : CallF) : RF := rg [2] <| aX 3 (pM 0) <|
 aX 4 (pB .geq 2 3 (cn (.int .i64 0))) <|
 aX 5 (pM 4) <|
 aX 6 (pG 5 true (pM 0)) <|
 aX 7 (pG 5 true (pB .leq 2 6 (cn (.int .i64 5)))) <|
 aX 8 (pP 5 7 (cn (.bool false))) <|
 aX 2 (pM 8) <|
 aXZ
noncomputable def f63 (c : CallF) (k : Nat) : St :=
 (bSeq (bReg (f63_r0 c))
 (bSeq (bReg (f63_r1 c))
 (bEx .ret)))
theorem f63_eq (c : CallF) (k : Nat) : exec cx c 9 f63_an k (Tryd.f63.body.getD .skip) = f63 c k := by kernel_rfl
/-! ### f64: (loop.example/g01263/impl.Notch).end -/
def f64_an : Ann := ⟨[(0, r0 [1]), (1, r0 [2])], []⟩
noncomputable def f64_r0 (c : CallF) : RF := rg [1] <| aX 1 (pBox 2 0) <|
 aX 2 (pM (cn (.int .i64 0))) <|
 aXZ
noncomputable def f64_r1 (c : CallF) : RF := rgD [2] (aY 3 (pF 1 1 1) <|
 aY 4 (pL false 1 3) <|
 aY 5 (fun n e M => keep (aConvI .i64 (eget e 4))) <|
 aY 6 (pF 0 1 1) <|
 aY 7 (pL false 1 6) <|
 aY 8 (fun n e M => keep (aConvI .i64 (eget e 7))) <|
 aY 9 (pK c false 92 [8]) <|
 aY 10 (pB .add 2 5 9) <|
 aY 2 (pM 10) <|
 aYZ)
 (aXZ)
noncomputable def f64 (c : CallF) (k : Nat) : St :=
 (bSeq (bReg (f64_r0 c))
 (bSeq (bReg (f64_r1 c))
 (bEx .ret)))
theorem f64_eq (c : CallF) (k : Nat) : exec cx c 11 f64_an k (Tryd.f64.body.getD .skip) = f64 c k := by kernel_rfl
/-! ### f65: loop.example/g01263/impl.isLetters -/
def f65_an : Ann := ⟨[(0, r0 [0, 1]), (1, r0 [0, 1, 7, 8]), (2, r0 [0, 1, 7, 8, 9]), (3, r0 [0, 1, 5, 7, 8]), (4, r0 [0, 1, 7, 8, 20]), (5, r0 [4]), (6, r0 [0, 1, 7, 8]), (7, r0 [4])], [(2, [0, 1, 7, 8])]⟩
noncomputable def f65_r0 (c : CallF) : RF := rg [0, 1] <| aX 4 (pM (cn (.bool false))) <|
 aXZ
noncomputable def f65_r1 (c : CallF) : RF := rg [0, 1, 7, 8] <| aX 6 (pM 0) <|
 aX 7 (pLen 9 6) <|
 aX 8 (pM (cn (.int .i64 0))) <|
 aXZ
noncomputable def f65_r2 (c : CallF) : RF := rg [0, 1, 7, 8, 9] <| aX 9 (pB .lss 3 8 7) <|
 aXZ
noncomputable def f65_r3 (c : CallF) : RF := rg [0, 1, 5, 7, 8] <| aX 10 (pM 8) <|
 aX 5 (pM 10) <|
 aXZ
noncomputable def f65_r4 (c : CallF) : RF := rg [0, 1, 7, 8, 20] <| aX 11 (pM 0) <|
 aX 12 (pM 5) <|
 aX 13 (fun n e M => keep (aIndexB (eget e 11) (eget e 12))) <|
 aX 14 (pB .lss 5 13 (cn (.int .u8 97))) <|
 aX 15 (pM 14) <|
 aX 16 (pG 15 false (pM 0)) <|
 aX 17 (pG 15 false (pM 5)) <|
 aX 18 (pG 15 false (fun n e M => keep (aIndexB (eget e 16) (eget e 17)))) <|
 aX 19 (pG 15 false (pB .gtr 5 18 (cn (.int .u8 122)))) <|
 aX 20 (pP 15 (cn (.bool true)) 19) <|
 aXZ
noncomputable def f65_r5 (c : CallF) : RF := rg [4] <| aX 4 (pM (cn (.bool false))) <|
 aXZ
noncomputable def f65_r6 (c : CallF) : RF := rg [0, 1, 7, 8] <| aX 21 (pB .add 3 8 (cn (.int .i64 1))) <|
 aX 8 (pM 21) <|
 aXZ
noncomputable def f65_r7 (c : CallF) : RF := rg [4] <| aX 22 (pM 0) <|
 aX 23 (pLen 9 22) <|
 aX 24 (pB .geq 3 23 (cn (.int .i64 1))) <|
 aX 25 (pM 24) <|
 aX 26 (pG 25 true (pM 0)) <|
 aX 27 (pG 25 true (pLen 9 26)) <|
 aX 28 (pG 25 true (pM 1)) <|
 aX 29 (pG 25 true (pB .leq 3 27 28)) <|
 aX 30 (pP 25 29 (cn (.bool false))) <|
 aX 4 (pM 30) <|
 aXZ
noncomputable def f65_l2 (c : CallF) (k : Nat) : St :=
 (bSeq (bReg (f65_r2 c))
 (bSeq (bCond (.tmp 9) (bEx .nrm) (bEx (.ext 0)))
 (bSeq (bBlock 1 (bSeq (bReg (f65_r3 c))
 (bSeq (bReg (f65_r4 c))
 (bCond (.tmp 20) (bSeq (bReg (f65_r5 c))
 (bEx .ret)) (bEx .nrm)))))
 (bReg (f65_r6 c)))))
noncomputable def f65 (c : CallF) (k : Nat) : St :=
 (bSeq (bReg (f65_r0 c))
 (bSeq (bSeq (bReg (f65_r1 c))
 (bBlock 0 (bLoop [0, 1, 7, 8] (f65_l2 c k) k)))
 (bSeq (bReg (f65_r7 c))
 (bEx .ret))))
theorem f65_eq (c : CallF) (k : Nat) : exec cx c 31 f65_an k (Tryd.f65.body.getD .skip) = f65 c k := by kernel_rfl
/-! ### f66: slices.Clone[[]loop.example/g01263/impl.Notch,loop.example/g01263/impl.Notch] -/
def f66_an : Ann := ⟨[(0, r0 [0]), (1, r0 [0, 4]), (2, r0 [2]), (3, r0 [2])], []⟩
noncomputable def f66_r0 (c : CallF) : RF := rg [0] <| aX 2 (pM (cn .nils)) <|
 aXZ
noncomputable def f66_r1 (c : CallF) : RF := rg [0, 4] <| aX 3 (pM 0) <|
 aX 4 (pB .eql 26 3 (cn .nils)) <|
 aXZ
noncomputable def f66_r2 (c : CallF) : RF := rg [2] <| aX 2 (pM (cn .nils)) <|
 aXZ
noncomputable def f66_r3 (c : CallF) : RF := rg [2] <| aX 5 (fun n e M => keep (aLitI 107 2 [] M)) <|
 aX 6 (pM 0) <|
 aX 7 (fun n e M => aAppI 107 2 4 (eget e 5) (eget e 6) M) <|
 aX 2 (pM 7) <|
 aXZ
noncomputable def f66 (c : CallF) (k : Nat) : St :=
 (bSeq (bReg (f66_r0 c))
 (bSeq (bSeq (bReg (f66_r1 c))
 (bCond (.tmp 4) (bSeq (bReg (f66_r2 c))
 (bEx .ret)) (bEx .nrm)))
 (bSeq (bReg (f66_r3 c))
 (bEx .ret))))
theorem f66_eq (c : CallF) (k : Nat) : exec cx c 8 f66_an k (Tryd.f66.body.getD .skip) = f66 c k := by kernel_rfl
/-! ### f67: loop.example/g01263/impl.halfText -/
def f67_an : Ann := ⟨[(0, r0 [1]), (1, r0 [1, 3]), (2, r0 [1, 3, 11]), (3, r0 [1, 3]), (4, ⟨[0], [], [], [], [1, 3, 4]⟩), (5, r0 [1, 3, 4, 14, 15]), (6, r0 [1, 3, 4, 14, 15, 16]), (7, r0 [1, 3, 4, 6, 14, 15]), (8, ⟨[5], [], [], [], [1, 3, 4, 14, 15]⟩), (9, r0 [1, 3, 4, 14, 15]), (10, ⟨[3], [], [], [], [1, 7]⟩), (11, r0 [7, 30, 31, 32]), (12, r0 [7, 30, 31, 32, 33]), (13, r0 [7, 9, 30, 31, 32]), (14, ⟨[13], [], [], [13, 14], [7, 30, 31, 32]⟩), (15, r0 [7, 30, 31, 32]), (16, r0 [2])], [(6, [1, 3, 4, 14, 15]), (12, [7, 30, 31, 32])]⟩
noncomputable def f67_r0 (c : CallF) : RF := rg [1] <| aX 1 (pBox 18 0) <|
 aX 2 (pM (cn (.str []))) <|
 aXZ
noncomputable def f67_r1 (c : CallF) : RF := rg [1, 3] <| aX 3 (pM (cn (.str [102, 111, 105, 108]))) <|
 aXZ
noncomputable def f67_r2 (c : CallF) : RF := rg [1, 3, 11] <| aX 10 (pF 0 1 1) <|
 aX 11 (pL false 1 10) <|
 aXZ
noncomputable def f67_r3 (c : CallF) : RF := rg [1, 3] <| aX 3 (pM (cn (.str [115, 116, 111, 99, 107]))) <|
 aXZ
noncomputable def f67_r4 (c : CallF) : RF := rg [1, 3, 4] <| aX 12 (fun n e M => aLitO false n 5 1 [] M) <|
 aX 4 (pM 12) <|
 aXZ
noncomputable def f67_r5 (c : CallF) : RF := rg [1, 3, 4, 14, 15] <| aX 13 (pF 2 16 1) <|
 aX 14 (pL true 16 13) <|
 aX 15 (pM (cn (.int .i64 0))) <|
 aXZ
noncomputable def f67_r6 (c : CallF) : RF := rg [1, 3, 4, 14, 15, 16] <| aX 16 (pB .lss 3 15 (cn (.int .i64 16))) <|
 aXZ
noncomputable def f67_r7 (c : CallF) : RF := rg [1, 3, 4, 6, 14, 15] <| aX 17 (fun n e M => keep (aIndexA false 16 1 (eget e 14) (eget e 15))) <|
 aX 6 (pM 17) <|
 aXZ
noncomputable def f67_r8 (c : CallF) : RF := rg [1, 3, 4, 14, 15] <| aX 18 (pM 4) <|
 aX 19 (pM 6) <|
 aX 20 (pB .add 27 (cn (.int .i8 100)) 19) <|
 aX 21 (fun n e M => keep (aConvI .u8 (eget e 20))) <|
 aX 22 (fun n e M => keep (aLitI 5 1 [(eget e 21)] M)) <|
 aX 23 (fun n e M => aAppO n 5 1 1 (eget e 18) (eget e 22) M) <|
 aX 4 (pM 23) <|
 aXZ
noncomputable def f67_r9 (c : CallF) : RF := rg [1, 3, 4, 14, 15] <| aX 24 (pB .add 3 15 (cn (.int .i64 1))) <|
 aX 15 (pM 24) <|
 aXZ
noncomputable def f67_r10 (c : CallF) : RF := rg [1, 7] <| aX 25 (pM 3) <|
 aX 26 (pM 4) <|
 aX 27 (fun n e M => keep (aConvB (eget e 26) M)) <|
 aX 28 (fun n e M => aLitO false n 9 1 [(eget e 25), (eget e 27)] M) <|
 aX 7 (pM 28) <|
 aXZ
noncomputable def f67_r11 (c : CallF) : RF := rg [7, 30, 31, 32] <| aX 29 (pF 1 1 1) <|
 aX 30 (pL false 1 29) <|
 aX 31 (pLen 26 30) <|
 aX 32 (pM (cn (.int .i64 0))) <|
 aXZ
noncomputable def f67_r12 (c : CallF) : RF := rg [7, 30, 31, 32, 33] <| aX 33 (pB .lss 3 32 31) <|
 aXZ
noncomputable def f67_r13 (c : CallF) : RF := rg [7, 9, 30, 31, 32] <| aX 34 (pI 2 30 32) <|
 aX 35 (pL true 2 34) <|
 aX 9 (pAl 107 2) <|
 aX0 (pS 2 9 35) <|
 aXZ
noncomputable def f67_r14 (c : CallF) : RF := rgD [7, 30, 31, 32] (aY 36 (pM 7) <|
 aY 37 (pF 0 1 9) <|
 aY 38 (pL false 1 37) <|
 aY 39 (pF 0 1 9) <|
 aY 40 (pL false 1 39) <|
 aY 41 (pB .add 27 40 (cn (.int .i8 1))) <|
 aY 42 (fun n e M => keep (aSliceS (some (eget e 38)) (some (eget e 41)) (.str [100, 115, 108, 118, 99, 109]))) <|
 aY 43 (pF 1 1 9) <|
 aY 44 (pL false 1 43) <|
 aY 45 (fun n e M => keep (aConvI .i64 (eget e 44))) <|
 aY 46 (pK c false 93 [45]) <|
 aY 47 (pB .add 9 42 46) <|
 aY 48 (fun n e M => keep (aLitI 9 1 [(eget e 47)] M)) <|
 aYZ)
 (aX 49 (fun n e M => aAppO n 9 1 16 (eget e 36) (eget e 48) M) <|
 aX 7 (pM 49) <|
 aXZ)
noncomputable def f67_r15 (c : CallF) : RF := rg [7, 30, 31, 32] <| aX 50 (pB .add 3 32 (cn (.int .i64 1))) <|
 aX 32 (pM 50) <|
 aXZ
noncomputable def f67_r16 (c : CallF) : RF := rg [2] <| aX 51 (pM 7) <|
 aX 52 (pK c false 94 [51, (cn (.str [32]))]) <|
 aX 2 (pM 52) <|
 aXZ
noncomputable def f67_l6 (c : CallF) (k : Nat) : St :=
 (bSeq (bReg (f67_r6 c))
 (bSeq (bCond (.tmp 16) (bEx .nrm) (bEx (.ext 0)))
 (bSeq (bBlock 1 (bSeq (bReg (f67_r7 c))
 (bReg (f67_r8 c))))
 (bReg (f67_r9 c)))))
noncomputable def f67_l12 (c : CallF) (k : Nat) : St :=
 (bSeq (bReg (f67_r12 c))
 (bSeq (bCond (.tmp 33) (bEx .nrm) (bEx (.ext 2)))
 (bSeq (bBlock 3 (bSeq (bReg (f67_r13 c))
 (bReg (f67_r14 c))))
 (bReg (f67_r15 c)))))
noncomputable def f67 (c : CallF) (k : Nat) : St :=
 (bSeq (bReg (f67_r0 c))
 (bSeq (bReg (f67_r1 c))
 (bSeq (bSeq (bReg (f67_r2 c))
 (bCond (.tmp 11) (bReg (f67_r3 c)) (bEx .nrm)))
 (bSeq (bReg (f67_r4 c))
 (bSeq (bSeq (bReg (f67_r5 c))
 (bBlock 0 (bLoop [1, 3, 4, 14, 15] (f67_l6 c k) k)))
 (bSeq (bReg (f67_r10 c))
 (bSeq (bSeq (bReg (f67_r11 c))
 (bBlock 2 (bLoop [7, 30, 31, 32] (f67_l12 c k) k)))
 (bSeq (bReg (f67_r16 c))
 (bEx .ret)))))))))
theorem f67_eq (c : CallF) (k : Nat) : exec cx c 53 f67_an k (Tryd.f67.body.getD .skip) = f67 c k := by kernel_rfl
/-! ### f68: loop.example/g01263/impl.four -/
def f68_an : Ann := ⟨[(0, r0 [0]), (1, r0 [2])], []⟩
noncomputable def f68_r0 (c : CallF) : RF := rg [0] <| aX 2 (pM (cn (.str []))) <|
 aXZ
noncomputable def f68_r1 (c : CallF) : RF := rg [2] <| aX 3 (pM 0) <|
 aX 4 (pB .shr 37 3 (cn (.int .u64 24))) <|
 aX 5 (fun n e M => keep (aConvI .u8 (eget e 4))) <|
 aX 6 (pM 0) <|
 aX 7 (pB .shr 37 6 (cn (.int .u64 16))) <|
 aX 8 (fun n e M => keep (aConvI .u8 (eget e 7))) <|
 aX 9 (pM 0) <|
 aX 10 (pB .shr 37 9 (cn (.int .u64 8))) <|
 aX 11 (fun n e M => keep (aConvI .u8 (eget e 10))) <|
 aX 12 (pM 0) <|
 aX 13 (fun n e M => keep (aConvI .u8 (eget e 12))) <|
 aX 14 (fun n e M => keep (aLitI 5 1 [(eget e 5), (eget e 8), (eget e 11), (eget e 13)] M)) <|
 aX 15 (fun n e M => keep (aConvB (eget e 14) M)) <|
 aX 2 (pM 15) <|
 aXZ
noncomputable def f68 (c : CallF) (k : Nat) : St :=
 (bSeq (bReg (f68_r0 c))
 (bSeq (bReg (f68_r1 c))
 (bEx .ret)))
theorem f68_eq (c : CallF) (k : Nat) : exec cx c 16 f68_an k (Tryd.f68.body.getD .skip) = f68 c k := by kernel_rfl
/-! ### f72: loop.example/g01263/laws.szNotchS -/
def f72_an : Ann := ⟨[(0, r0 [0, 1]), (1, r0 [1]), (2, r0 [1, 10]), (3, r0 [4]), (4, r0 [4])], []⟩
noncomputable def f72_r0 (c : CallF) : RF := rg [0, 1] <| aX 4 (pM (cn (.int .i64 0))) <|
 aXZ
noncomputable def f72_r1 (c : CallF) : RF := rg [1] <| aX 5 (pM 1) <|
 aX 6 (pM 0) <|
 aX 7 (pLen 52 6) <|
 aX 8 (pB .sub 3 5 7) <|
 aX 1 (pM 8) <|
 aXZ
noncomputable def f72_r2 (c : CallF) : RF := rg [1, 10] <| aX 9 (pM 1) <|
 aX 10 (pB .lss 3 9 (cn (.int .i64 0))) <|
 aXZ
noncomputable def f72_r3 (c : CallF) : RF := rg [4] <| aX 4 (pM (cn (.int .i64 (-1)))) <|
 aXZ
noncomputable def f72_r4 (c : CallF) : RF := rg [4] <| aX 11 (pM 1) <|
 aX 4 (pM 11) <|
 aXZ
noncomputable def f72 (c : CallF) (k : Nat) : St :=
 (bSeq (bReg (f72_r0 c))
 (bSeq (bReg (f72_r1 c))
 (bSeq (bSeq (bReg (f72_r2 c))
 (bCond (.tmp 10) (bSeq (bReg (f72_r3 c))
 (bEx .ret)) (bEx .nrm)))
 (bSeq (bReg (f72_r4 c))
 (bEx .ret)))))
theorem f72_eq (c : CallF) (k : Nat) : exec cx c 12 f72_an k (Tryd.f72.body.getD .skip) = f72 c k := by kernel_rfl
/-! ### f73: loop.example/g01263/laws.szMark -/
def f73_an : Ann := ⟨[(0, r0 [1, 2]), (1, r0 [1]), (2, r0 [1, 11]), (3, r0 [4]), (4, r0 [4])], []⟩
noncomputable def f73_r0 (c : CallF) : RF := rg [1, 2] <| aX 2 (pBox 2 0) <|
 aX 4 (pM (cn (.int .i64 0))) <|
 aXZ
noncomputable def f73_r1 (c : CallF) : RF := rg [1] <| aX 5 (pM 1) <|
 aX 6 (pF 0 1 2) <|
 aX 7 (pL false 1 6) <|
 aX 8 (pLen 9 7) <|
 aX 9 (pB .sub 3 5 8) <|
 aX 1 (pM 9) <|
 aXZ
noncomputable def f73_r2 (c : CallF) : RF := rg [1, 11] <| aX 10 (pM 1) <|
 aX 11 (pB .lss 3 10 (cn (.int .i64 0))) <|
 aXZ
noncomputable def f73_r3 (c : CallF) : RF := rg [4] <| aX 4 (pM (cn (.int .i64 (-1)))) <|
 aXZ
noncomputable def f73_r4 (c : CallF) : RF := rg [4] <| aX 12 (pM 1) <|
 aX 4 (pM 12) <|
 aXZ
noncomputable def f73 (c : CallF) (k : Nat) : St :=
 (bSeq (bReg (f73_r0 c))
 (bSeq (bReg (f73_r1 c))
 (bSeq (bSeq (bReg (f73_r2 c))
 (bCond (.tmp 11) (bSeq (bReg (f73_r3 c))
 (bEx .ret)) (bEx .nrm)))
 (bSeq (bReg (f73_r4 c))
 (bEx .ret)))))
theorem f73_eq (c : CallF) (k : Nat) : exec cx c 13 f73_an k (Tryd.f73.body.getD .skip) = f73 c k := by kernel_rfl
/-! ### f74: loop.example/g01263/spec.l01Ok -/
def f74_an : Ann := ⟨[(0, r0 [0]), (1, r0 [2])], []⟩
noncomputable def f74_r0 (c : CallF) : RF := rg [0] <| aX 2 (pM (cn (.bool false))) <|
 aXZ
noncomputable def f74_r1 (c : CallF) : RF := rg [2] <| aX 3 (pM 0) <|
 aX 4 (pN 3) <|
 aX 5 (pF 1 1 4) <|
 aX 6 (pL false 1 5) <|
 aX 7 (pK c false 96 [6]) <|
 aX 8 (pM 7) <|
 aX 9 (pG 8 true (pM 0)) <|
 aX 10 (pG 8 true (pN 9)) <|
 aX 11 (pG 8 true (pF 2 16 10)) <|
 aX 12 (pG 8 true (pL true 16 11)) <|
 aX 13 (pG 8 true (pK c false 97 [12])) <|
 aX 14 (pP 8 13 (cn (.bool false))) <|
 aX 2 (pM 14) <|
 aXZ
noncomputable def f74 (c : CallF) (k : Nat) : St :=
 (bSeq (bReg (f74_r0 c))
 (bSeq (bReg (f74_r1 c))
 (bEx .ret)))
theorem f74_eq (c : CallF) (k : Nat) : exec cx c 15 f74_an k (Tryd.f74.body.getD .skip) = f74 c k := by kernel_rfl
/-! ### f75: loop.example/g01263/spec.l00In -/
def f75_an : Ann := ⟨[(0, r0 [0, 1, 2]), (1, r0 [6])], []⟩
noncomputable def f75_r0 (c : CallF) : RF := rg [0, 1, 2] <| aX 6 (pM (cn (.bool false))) <|
 aXZ
noncomputable def f75_r1 (c : CallF) : RF := rg [6] <| aX 7 (pM 0) <|
 aX 8 (pM 1) <|
 aX 9 (pB .geq 2 7 8) <|
 aX 10 (pM 9) <|
 aX 11 (pG 10 true (pM 0)) <|
 aX 12 (pG 10 true (pM 2)) <|
 aX 13 (pG 10 true (pB .leq 2 11 12)) <|
 aX 14 (pP 10 13 (cn (.bool false))) <|
 aX 6 (pM 14) <|
 aXZ
noncomputable def f75 (c : CallF) (k : Nat) : St :=
 (bSeq (bReg (f75_r0 c))
 (bSeq (bReg (f75_r1 c))
 (bEx .ret)))
theorem f75_eq (c : CallF) (k : Nat) : exec cx c 15 f75_an k (Tryd.f75.body.getD .skip) = f75 c k := by kernel_rfl
/-! ### f76: loop.example/g01263/spec.l06Text -/
def f76_an : Ann := ⟨[(0, r0 [0, 1]), (1, r0 [0, 1, 5]), (2, r0 [0, 1, 5, 9]), (3, r0 [0, 1, 5]), (4, r0 [0, 1, 5]), (5, r0 [4])], [(2, [0, 1, 5])]⟩
noncomputable def f76_r0 (c : CallF) : RF := rg [0, 1] <| aX 4 (pM (cn (.int .u32 0))) <|
 aXZ
noncomputable def f76_r1 (c : CallF) : RF := rg [0, 1, 5] <| aX 5 (pM (cn (.int .i64 0))) <|
 aXZ
noncomputable def f76_r2 (c : CallF) : RF := rg [0, 1, 5, 9] <| aX 6 (pM 5) <|
 aX 7 (pM 1) <|
 aX 8 (pLen 9 7) <|
 aX 9 (pB .lss 3 6 8) <|
 aXZ
noncomputable def f76_r3 (c : CallF) : RF := rg [0, 1, 5] <| aX 10 (pM 5) <|
 aX 11 (pB .add 3 10 (cn (.int .i64 1))) <|
 aX 5 (pM 11) <|
 aXZ
noncomputable def f76_r4 (c : CallF) : RF := rg [0, 1, 5] <| aX 12 (pM 0) <|
 aX 13 (pM 1) <|
 aX 14 (pM 5) <|
 aX 15 (fun n e M => keep (aIndexB (eget e 13) (eget e 14))) <|
 aX 16 (fun n e M => keep (aConvI .u32 (eget e 15))) <|
 aX 17 (pB .xor 37 12 16) <|
 aX 18 (pB .mul 37 17 (cn (.int .u32 16777619))) <|
 aX 0 (pM 18) <|
 aXZ
noncomputable def f76_r5 (c : CallF) : RF := rg [4] <| aX 19 (pM 0) <|
 aX 4 (pM 19) <|
 aXZ
noncomputable def f76_l2 (c : CallF) (k : Nat) : St :=
 (bSeq (bSeq (bReg (f76_r2 c))
 (bCond (.tmp 9) (bEx .nrm) (bEx (.ext 0))))
 (bSeq (bBlock 1 (bReg (f76_r4 c)))
 (bReg (f76_r3 c))))
noncomputable def f76 (c : CallF) (k : Nat) : St :=
 (bSeq (bReg (f76_r0 c))
 (bSeq (bSeq (bReg (f76_r1 c))
 (bBlock 0 (bLoop [0, 1, 5] (f76_l2 c k) k)))
 (bSeq (bReg (f76_r5 c))
 (bEx .ret))))
theorem f76_eq (c : CallF) (k : Nat) : exec cx c 20 f76_an k (Tryd.f76.body.getD .skip) = f76 c k := by kernel_rfl
/-! ### f77: loop.example/g01263/spec.l01Text -/
def f77_an : Ann := ⟨[(0, r0 [0]), (1, r0 [0, 3]), (2, r0 [0, 3, 10]), (3, r0 [0, 3]), (4, r0 [0, 3, 4]), (5, r0 [0, 3, 4, 12]), (6, r0 [0, 3, 4]), (7, r0 [0, 3, 4]), (8, r0 [0, 3, 5]), (9, r0 [0, 3, 5, 34]), (10, r0 [0, 3, 5]), (11, r0 [0, 3, 5, 6]), (12, r0 [0, 3, 5]), (13, r0 [2])], [(5, [0, 3, 4]), (9, [0, 3, 5])]⟩
noncomputable def f77_r0 (c : CallF) : RF := rg [0] <| aX 2 (pM (cn (.str []))) <|
 aXZ
noncomputable def f77_r1 (c : CallF) : RF := rg [0, 3] <| aX 3 (pM (cn (.str [102, 111, 105, 108, 32]))) <|
 aXZ
noncomputable def f77_r2 (c : CallF) : RF := rg [0, 3, 10] <| aX 7 (pM 0) <|
 aX 8 (pN 7) <|
 aX 9 (pF 0 1 8) <|
 aX 10 (pL false 1 9) <|
 aXZ
noncomputable def f77_r3 (c : CallF) : RF := rg [0, 3] <| aX 3 (pM (cn (.str [115, 116, 111, 99, 107, 32]))) <|
 aXZ
noncomputable def f77_r4 (c : CallF) : RF := rg [0, 3, 4] <| aX 4 (pM (cn (.int .i64 0))) <|
 aXZ
noncomputable def f77_r5 (c : CallF) : RF := rg [0, 3, 4, 12] <| aX 11 (pM 4) <|
 aX 12 (pB .lss 3 11 (cn (.int .i64 16))) <|
 aXZ
noncomputable def f77_r6 (c : CallF) : RF := rg [0, 3, 4] <| aX 13 (pM 4) <|
 aX 14 (pB .add 3 13 (cn (.int .i64 1))) <|
 aX 4 (pM 14) <|
 aXZ
noncomputable def f77_r7 (c : CallF) : RF := rg [0, 3, 4] <| aX 15 (pM 3) <|
 aX 16 (pM 0) <|
 aX 17 (pM 4) <|
 aX 18 (pN 16) <|
 aX 19 (pF 2 16 18) <|
 aX 20 (fun n e M => keep (aIndexP 16 1 (eget e 19) (eget e 17) M)) <|
 aX 21 (pL false 1 20) <|
 aX 22 (fun n e M => keep (aConvI .i64 (eget e 21))) <|
 aX 23 (pB .add 3 (cn (.int .i64 100)) 22) <|
 aX 24 (fun n e M => keep (aConvI .u8 (eget e 23))) <|
 aX 25 (fun n e M => keep (aLitI 5 1 [(eget e 24)] M)) <|
 aX 26 (fun n e M => keep (aConvB (eget e 25) M)) <|
 aX 27 (pB .add 9 15 26) <|
 aX 3 (pM 27) <|
 aXZ
noncomputable def f77_r8 (c : CallF) : RF := rg [0, 3, 5] <| aX 5 (pM (cn (.int .i64 0))) <|
 aXZ
noncomputable def f77_r9 (c : CallF) : RF := rg [0, 3, 5, 34] <| aX 28 (pM 5) <|
 aX 29 (pM 0) <|
 aX 30 (pN 29) <|
 aX 31 (pF 1 1 30) <|
 aX 32 (pL false 1 31) <|
 aX 33 (pLen 26 32) <|
 aX 34 (pB .lss 3 28 33) <|
 aXZ
noncomputable def f77_r10 (c : CallF) : RF := rg [0, 3, 5] <| aX 35 (pM 5) <|
 aX 36 (pB .add 3 35 (cn (.int .i64 1))) <|
 aX 5 (pM 36) <|
 aXZ
noncomputable def f77_r11 (c : CallF) : RF := rg [0, 3, 5, 6] <| aX 37 (pM 0) <|
 aX 38 (pN 37) <|
 aX 39 (pF 1 1 38) <|
 aX 40 (pL false 1 39) <|
 aX 41 (pM 5) <|
 aX 42 (pI 2 40 41) <|
 aX 43 (pL true 2 42) <|
 aX 6 (pAl 107 2) <|
 aX0 (pS 2 6 43) <|
 aXZ
noncomputable def f77_r12 (c : CallF) : RF := rgD [0, 3, 5] (aY 44 (pM 3) <|
 aY 45 (pK c false 98 []) <|
 aY 46 (pF 0 1 6) <|
 aY 47 (pL false 1 46) <|
 aY 48 (pF 0 1 6) <|
 aY 49 (pL false 1 48) <|
 aY 50 (pB .add 27 49 (cn (.int .i8 1))) <|
 aY 51 (fun n e M => keep (aSliceS (some (eget e 47)) (some (eget e 50)) (eget e 45))) <|
 aY 52 (pB .add 9 (cn (.str [32])) 51) <|
 aY 53 (pF 1 1 6) <|
 aY 54 (pL false 1 53) <|
 aY 55 (fun n e M => keep (aConvI .i64 (eget e 54))) <|
 aY 56 (pK c false 99 [55]) <|
 aY 57 (pB .add 9 52 56) <|
 aY 58 (pB .add 9 44 57) <|
 aY 3 (pM 58) <|
 aYZ)
 (aXZ)
noncomputable def f77_r13 (c : CallF) : RF := rg [2] <| aX 59 (pM 3) <|
 aX 2 (pM 59) <|
 aXZ
noncomputable def f77_l5 (c : CallF) (k : Nat) : St :=
 (bSeq (bSeq (bReg (f77_r5 c))
 (bCond (.tmp 12) (bEx .nrm) (bEx (.ext 0))))
 (bSeq (bBlock 1 (bReg (f77_r7 c)))
 (bReg (f77_r6 c))))
noncomputable def f77_l9 (c : CallF) (k : Nat) : St :=
 (bSeq (bSeq (bReg (f77_r9 c))
 (bCond (.tmp 34) (bEx .nrm) (bEx (.ext 2))))
 (bSeq (bBlock 3 (bSeq (bReg (f77_r11 c))
 (bReg (f77_r12 c))))
 (bReg (f77_r10 c))))
noncomputable def f77 (c : CallF) (k : Nat) : St :=
 (bSeq (bReg (f77_r0 c))
 (bSeq (bReg (f77_r1 c))
 (bSeq (bSeq (bReg (f77_r2 c))
 (bCond (.tmp 10) (bReg (f77_r3 c)) (bEx .nrm)))
 (bSeq (bSeq (bReg (f77_r4 c))
 (bBlock 0 (bLoop [0, 3, 4] (f77_l5 c k) k)))
 (bSeq (bSeq (bReg (f77_r8 c))
 (bBlock 2 (bLoop [0, 3, 5] (f77_l9 c k) k)))
 (bSeq (bReg (f77_r13 c))
 (bEx .ret)))))))
theorem f77_eq (c : CallF) (k : Nat) : exec cx c 60 f77_an k (Tryd.f77.body.getD .skip) = f77 c k := by kernel_rfl
/-! ### f78: loop.example/g01263/spec.l06Number -/
def f78_an : Ann := ⟨[(0, r0 [0, 1]), (1, r0 [0, 1, 5]), (2, r0 [0, 1, 5, 7]), (3, r0 [0, 1, 5]), (4, r0 [0, 1, 5]), (5, r0 [4])], [(2, [0, 1, 5])]⟩
noncomputable def f78_r0 (c : CallF) : RF := rg [0, 1] <| aX 4 (pM (cn (.int .u32 0))) <|
 aXZ
noncomputable def f78_r1 (c : CallF) : RF := rg [0, 1, 5] <| aX 5 (pM (cn (.int .i64 24))) <|
 aXZ
noncomputable def f78_r2 (c : CallF) : RF := rg [0, 1, 5, 7] <| aX 6 (pM 5) <|
 aX 7 (pB .geq 3 6 (cn (.int .i64 0))) <|
 aXZ
noncomputable def f78_r3 (c : CallF) : RF := rg [0, 1, 5] <| aX 8 (pM 5) <|
 aX 9 (pB .sub 3 8 (cn (.int .i64 8))) <|
 aX 5 (pM 9) <|
 aXZ
noncomputable def f78_r4 (c : CallF) : RF := rg [0, 1, 5] <| aX 10 (pM 0) <|
 aX 11 (pM 1) <|
 aX 12 (pM 5) <|
 aX 13 (fun n e M => keep (aConvI .u64 (eget e 12))) <|
 aX 14 (pB .shr 37 11 13) <|
 aX 15 (pB .and 37 14 (cn (.int .u32 255))) <|
 aX 16 (pB .xor 37 10 15) <|
 aX 17 (pB .mul 37 16 (cn (.int .u32 16777619))) <|
 aX 0 (pM 17) <|
 aXZ
noncomputable def f78_r5 (c : CallF) : RF := rg [4] <| aX 18 (pM 0) <|
 aX 4 (pM 18) <|
 aXZ
noncomputable def f78_l2 (c : CallF) (k : Nat) : St :=
 (bSeq (bSeq (bReg (f78_r2 c))
 (bCond (.tmp 7) (bEx .nrm) (bEx (.ext 0))))
 (bSeq (bBlock 1 (bReg (f78_r4 c)))
 (bReg (f78_r3 c))))
noncomputable def f78 (c : CallF) (k : Nat) : St :=
 (bSeq (bReg (f78_r0 c))
 (bSeq (bSeq (bReg (f78_r1 c))
 (bBlock 0 (bLoop [0, 1, 5] (f78_l2 c k) k)))
 (bSeq (bReg (f78_r5 c))
 (bEx .ret))))
theorem f78_eq (c : CallF) (k : Nat) : exec cx c 19 f78_an k (Tryd.f78.body.getD .skip) = f78 c k := by kernel_rfl
/-! ### f79: loop.example/g01263/spec.l01Copy -/
def f79_an : Ann := ⟨[(0, r0 [0]), (1, r0 [2])], []⟩
noncomputable def f79_r0 (c : CallF) : RF := rg [0] <| aX 2 (pM (cn .nils)) <|
 aXZ
noncomputable def f79_r1 (c : CallF) : RF := rg [2] <| aX 3 (fun n e M => keep (aLitI 107 2 [] M)) <|
 aX 4 (pM 0) <|
 aX 5 (fun n e M => aAppI 107 2 4 (eget e 3) (eget e 4) M) <|
 aX 2 (pM 5) <|
 aXZ
noncomputable def f79 (c : CallF) (k : Nat) : St :=
 (bSeq (bReg (f79_r0 c))
 (bSeq (bReg (f79_r1 c))
 (bEx .ret)))
theorem f79_eq (c : CallF) (k : Nat) : exec cx c 6 f79_an k (Tryd.f79.body.getD .skip) = f79 c k := by kernel_rfl
/-! ### f80: loop.example/g01263/laws.toNotchS -/
def f80_an : Ann := ⟨[(0, r0 [0]), (1, r0 [0, 3]), (2, r0 [0, 3, 4]), (3, r0 [0, 3, 4, 11]), (4, r0 [0, 3, 4]), (5, r0 [0, 3, 4]), (6, r0 [2])], [(3, [0, 3, 4])]⟩
noncomputable def f80_r0 (c : CallF) : RF := rg [0] <| aX 2 (pM (cn .nils)) <|
 aXZ
noncomputable def f80_r1 (c : CallF) : RF := rg [0, 3] <| aX 5 (pM 0) <|
 aX 6 (pLen 52 5) <|
 aX 7 (fun n e M => aMakeO n 107 2 4 (zeroOf cx.P 107) (eget e 6) (eget e 6)) <|
 aX 3 (pM 7) <|
 aXZ
noncomputable def f80_r2 (c : CallF) : RF := rg [0, 3, 4] <| aX 4 (pM (cn (.int .i64 0))) <|
 aXZ
noncomputable def f80_r3 (c : CallF) : RF := rg [0, 3, 4, 11] <| aX 8 (pM 4) <|
 aX 9 (pM 0) <|
 aX 10 (pLen 52 9) <|
 aX 11 (pB .lss 3 8 10) <|
 aXZ
noncomputable def f80_r4 (c : CallF) : RF := rg [0, 3, 4] <| aX 12 (pM 4) <|
 aX 13 (pB .add 3 12 (cn (.int .i64 1))) <|
 aX 4 (pM 13) <|
 aXZ
noncomputable def f80_r5 (c : CallF) : RF := rg [0, 3, 4] <| aX 14 (pM 3) <|
 aX 15 (pM 4) <|
 aX 16 (pM 0) <|
 aX 17 (pM 4) <|
 aX 18 (pI 2 16 17) <|
 aX 19 (pL true 2 18) <|
 aX 20 (pK c false 100 [19]) <|
 aX 21 (pI 2 14 15) <|
 aX0 (pS 2 21 20) <|
 aXZ
noncomputable def f80_r6 (c : CallF) : RF := rg [2] <| aX 22 (pM 3) <|
 aX 2 (pM 22) <|
 aXZ
noncomputable def f80_l3 (c : CallF) (k : Nat) : St :=
 (bSeq (bSeq (bReg (f80_r3 c))
 (bCond (.tmp 11) (bEx .nrm) (bEx (.ext 0))))
 (bSeq (bBlock 1 (bReg (f80_r5 c)))
 (bReg (f80_r4 c))))
noncomputable def f80 (c : CallF) (k : Nat) : St :=
 (bSeq (bReg (f80_r0 c))
 (bSeq (bReg (f80_r1 c))
 (bSeq (bSeq (bReg (f80_r2 c))
 (bBlock 0 (bLoop [0, 3, 4] (f80_l3 c k) k)))
 (bSeq (bReg (f80_r6 c))
 (bEx .ret)))))
theorem f80_eq (c : CallF) (k : Nat) : exec cx c 23 f80_an k (Tryd.f80.body.getD .skip) = f80 c k := by kernel_rfl
/-! ### f81: loop.example/g01263/laws.toGrain -/
def f81_an : Ann := ⟨[(0, r0 [1, 2]), (1, r0 [1, 2, 3]), (2, r0 [1, 2, 3, 4]), (3, r0 [1, 2, 3, 4, 6]), (4, r0 [1, 2, 3, 4]), (5, r0 [1, 2, 3, 4]), (6, r0 [2])], [(3, [1, 2, 3, 4])]⟩
noncomputable def f81_r0 (c : CallF) : RF := rg [1, 2] <| aX 1 (pBox 16 0) <|
 aX 2 (pAl 29 16) <|
 aXZ
noncomputable def f81_r1 (c : CallF) : RF := rg [1, 2, 3] <| aX 3 (pAl 29 16) <|
 aXZ
noncomputable def f81_r2 (c : CallF) : RF := rg [1, 2, 3, 4] <| aX 4 (pM (cn (.int .i64 0))) <|
 aXZ
noncomputable def f81_r3 (c : CallF) : RF := rg [1, 2, 3, 4, 6] <| aX 5 (pM 4) <|
 aX 6 (pB .lss 3 5 (cn (.int .i64 16))) <|
 aXZ
noncomputable def f81_r4 (c : CallF) : RF := rg [1, 2, 3, 4] <| aX 7 (pM 4) <|
 aX 8 (pB .add 3 7 (cn (.int .i64 1))) <|
 aX 4 (pM 8) <|
 aXZ
noncomputable def f81_r5 (c : CallF) : RF := rg [1, 2, 3, 4] <| aX 9 (pM 4) <|
 aX 10 (pM 4) <|
 aX 11 (fun n e M => keep (aIndexP 16 1 (eget e 1) (eget e 10) M)) <|
 aX 12 (pL false 1 11) <|
 aX 13 (fun n e M => keep (aIndexP 16 1 (eget e 3) (eget e 9) M)) <|
 aX0 (pS 1 13 12) <|
 aXZ
noncomputable def f81_r6 (c : CallF) : RF := rg [2] <| aX 14 (pL true 16 3) <|
 aX0 (pS 16 2 14) <|
 aXZ
noncomputable def f81_l3 (c : CallF) (k : Nat) : St :=
 (bSeq (bSeq (bReg (f81_r3 c))
 (bCond (.tmp 6) (bEx .nrm) (bEx (.ext 0))))
 (bSeq (bBlock 1 (bReg (f81_r5 c)))
 (bReg (f81_r4 c))))
noncomputable def f81 (c : CallF) (k : Nat) : St :=
 (bSeq (bReg (f81_r0 c))
 (bSeq (bReg (f81_r1 c))
 (bSeq (bSeq (bReg (f81_r2 c))
 (bBlock 0 (bLoop [1, 2, 3, 4] (f81_l3 c k) k)))
 (bSeq (bReg (f81_r6 c))
 (bEx .ret)))))
theorem f81_eq (c : CallF) (k : Nat) : exec cx c 15 f81_an k (Tryd.f81.body.getD .skip) = f81 c k := by kernel_rfl
/-! ### f82: loop.example/g01263/laws.toMark -/
def f82_an : Ann := ⟨[(0, r0 [1, 2]), (1, r0 [1, 2, 3]), (2, r0 [1, 2, 3]), (3, r0 [2, 3]), (4, r0 [2])], []⟩
noncomputable def f82_r0 (c : CallF) : RF := rg [1, 2] <| aX 1 (pBox 2 0) <|
 aX 2 (pAl 39 2) <|
 aXZ
noncomputable def f82_r1 (c : CallF) : RF := rg [1, 2, 3] <| aX 3 (pAl 39 2) <|
 aXZ
noncomputable def f82_r2 (c : CallF) : RF := rg [1, 2, 3] <| aX 4 (pF 0 1 1) <|
 aX 5 (pL false 1 4) <|
 aX 6 (pF 0 1 3) <|
 aX0 (pS 1 6 5) <|
 aXZ
noncomputable def f82_r3 (c : CallF) : RF := rg [2, 3] <| aX 7 (pF 1 1 1) <|
 aX 8 (pL false 1 7) <|
 aX 9 (pF 1 1 3) <|
 aX0 (pS 1 9 8) <|
 aXZ
noncomputable def f82_r4 (c : CallF) : RF := rg [2] <| aX 10 (pL true 2 3) <|
 aX0 (pS 2 2 10) <|
 aXZ
noncomputable def f82 (c : CallF) (k : Nat) : St :=
 (bSeq (bReg (f82_r0 c))
 (bSeq (bReg (f82_r1 c))
 (bSeq (bReg (f82_r2 c))
 (bSeq (bReg (f82_r3 c))
 (bSeq (bReg (f82_r4 c))
 (bEx .ret))))))
theorem f82_eq (c : CallF) (k : Nat) : exec cx c 11 f82_an k (Tryd.f82.body.getD .skip) = f82 c k := by kernel_rfl
/-! ### f83: loop.example/g01263/laws.eqNotchS -/
def f83_an : Ann := ⟨[(0, r0 [0, 1]), (1, r0 [0, 1, 10]), (2, r0 [4]), (3, r0 [0, 1, 5]), (4, r0 [0, 1, 5, 14]), (5, r0 [0, 1, 5]), (6, r0 [0, 1, 5, 26]), (7, r0 [4]), (8, r0 [4])], [(4, [0, 1, 5])]⟩
noncomputable def f83_r0 (c : CallF) : RF := rg [0, 1] <| aX 4 (pM (cn (.bool false))) <|
 aXZ
noncomputable def f83_r1 (c : CallF) : RF := rg [0, 1, 10] <| aX 6 (pM 0) <|
 aX 7 (pLen 26 6) <|
 aX 8 (pM 1) <|
 aX 9 (pLen 26 8) <|
 aX 10 (pB .neq 3 7 9) <|
 aXZ
noncomputable def f83_r2 (c : CallF) : RF := rg [4] <| aX 4 (pM (cn (.bool false))) <|
 aXZ
noncomputable def f83_r3 (c : CallF) : RF := rg [0, 1, 5] <| aX 5 (pM (cn (.int .i64 0))) <|
 aXZ
noncomputable def f83_r4 (c : CallF) : RF := rg [0, 1, 5, 14] <| aX 11 (pM 5) <|
 aX 12 (pM 0) <|
 aX 13 (pLen 26 12) <|
 aX 14 (pB .lss 3 11 13) <|
 aXZ
noncomputable def f83_r5 (c : CallF) : RF := rg [0, 1, 5] <| aX 15 (pM 5) <|
 aX 16 (pB .add 3 15 (cn (.int .i64 1))) <|
 aX 5 (pM 16) <|
 aXZ
noncomputable def f83_r6 (c : CallF) : RF := rgD [0, 1, 5, 26] (aY 17 (pM 0) <|
 aY 18 (pM 5) <|
 aY 19 (pI 2 17 18) <|
 aY 20 (pL true 2 19) <|
 aY 21 (pM 1) <|
 aY 22 (pM 5) <|
 aY 23 (pI 2 21 22) <|
 aY 24 (pL true 2 23) <|
 aY 25 (pK c false 101 [20, 24]) <|
 aY 26 (pU .not 25) <|
 aYZ)
 (aXZ)
noncomputable def f83_r7 (c : CallF) : RF := rg [4] <| aX 4 (pM (cn (.bool false))) <|
 aXZ
noncomputable def f83_r8 (c : CallF) : RF := rg [4] <| aX 4 (pM (cn (.bool true))) <|
 aXZ
noncomputable def f83_l4 (c : CallF) (k : Nat) : St :=
 (bSeq (bSeq (bReg (f83_r4 c))
 (bCond (.tmp 14) (bEx .nrm) (bEx (.ext 0))))
 (bSeq (bBlock 1 (bSeq (bReg (f83_r6 c))
 (bCond (.tmp 26) (bSeq (bReg (f83_r7 c))
 (bEx .ret)) (bEx .nrm))))
 (bReg (f83_r5 c))))
noncomputable def f83 (c : CallF) (k : Nat) : St :=
 (bSeq (bReg (f83_r0 c))
 (bSeq (bSeq (bReg (f83_r1 c))
 (bCond (.tmp 10) (bSeq (bReg (f83_r2 c))
 (bEx .ret)) (bEx .nrm)))
 (bSeq (bSeq (bReg (f83_r3 c))
 (bBlock 0 (bLoop [0, 1, 5] (f83_l4 c k) k)))
 (bSeq (bReg (f83_r8 c))
 (bEx .ret)))))
theorem f83_eq (c : CallF) (k : Nat) : exec cx c 27 f83_an k (Tryd.f83.body.getD .skip) = f83 c k := by kernel_rfl
/-! ### f84: loop.example/g01263/laws.eqGrain -/
def f84_an : Ann := ⟨[(0, r0 [2, 3]), (1, r0 [2, 3, 5]), (2, r0 [2, 3, 5, 7]), (3, r0 [2, 3, 5]), (4, r0 [2, 3, 5, 16]), (5, r0 [4]), (6, r0 [4])], [(2, [2, 3, 5])]⟩
noncomputable def f84_r0 (c : CallF) : RF := rg [2, 3] <| aX 2 (pBox 16 0) <|
 aX 3 (pBox 16 1) <|
 aX 4 (pM (cn (.bool false))) <|
 aXZ
noncomputable def f84_r1 (c : CallF) : RF := rg [2, 3, 5] <| aX 5 (pM (cn (.int .i64 0))) <|
 aXZ
noncomputable def f84_r2 (c : CallF) : RF := rg [2, 3, 5, 7] <| aX 6 (pM 5) <|
 aX 7 (pB .lss 3 6 (cn (.int .i64 16))) <|
 aXZ
noncomputable def f84_r3 (c : CallF) : RF := rg [2, 3, 5] <| aX 8 (pM 5) <|
 aX 9 (pB .add 3 8 (cn (.int .i64 1))) <|
 aX 5 (pM 9) <|
 aXZ
noncomputable def f84_r4 (c : CallF) : RF := rgD [2, 3, 5, 16] (aY 10 (pM 5) <|
 aY 11 (fun n e M => keep (aIndexP 16 1 (eget e 2) (eget e 10) M)) <|
 aY 12 (pL false 1 11) <|
 aY 13 (pM 5) <|
 aY 14 (fun n e M => keep (aIndexP 16 1 (eget e 3) (eget e 13) M)) <|
 aY 15 (pL false 1 14) <|
 aY 16 (pB .neq 27 12 15) <|
 aYZ)
 (aXZ)
noncomputable def f84_r5 (c : CallF) : RF := rg [4] <| aX 4 (pM (cn (.bool false))) <|
 aXZ
noncomputable def f84_r6 (c : CallF) : RF := rg [4] <| aX 4 (pM (cn (.bool true))) <|
 aXZ
noncomputable def f84_l2 (c : CallF) (k : Nat) : St :=
 (bSeq (bSeq (bReg (f84_r2 c))
 (bCond (.tmp 7) (bEx .nrm) (bEx (.ext 0))))
 (bSeq (bBlock 1 (bSeq (bReg (f84_r4 c))
 (bCond (.tmp 16) (bSeq (bReg (f84_r5 c))
 (bEx .ret)) (bEx .nrm))))
 (bReg (f84_r3 c))))
noncomputable def f84 (c : CallF) (k : Nat) : St :=
 (bSeq (bReg (f84_r0 c))
 (bSeq (bSeq (bReg (f84_r1 c))
 (bBlock 0 (bLoop [2, 3, 5] (f84_l2 c k) k)))
 (bSeq (bReg (f84_r6 c))
 (bEx .ret))))
theorem f84_eq (c : CallF) (k : Nat) : exec cx c 17 f84_an k (Tryd.f84.body.getD .skip) = f84 c k := by kernel_rfl
/-! ### f85: loop.example/g01263/laws.eqMark -/
def f85_an : Ann := ⟨[(0, r0 [2, 3]), (1, r0 [2, 3, 9]), (2, r0 [4]), (3, r0 [14]), (4, r0 [4]), (5, r0 [4])], []⟩
noncomputable def f85_r0 (c : CallF) : RF := rg [2, 3] <| aX 2 (pBox 2 0) <|
 aX 3 (pBox 2 1) <|
 aX 4 (pM (cn (.bool false))) <|
 aXZ
noncomputable def f85_r1 (c : CallF) : RF := rg [2, 3, 9] <| aX 5 (pF 0 1 2) <|
 aX 6 (pL false 1 5) <|
 aX 7 (pF 0 1 3) <|
 aX 8 (pL false 1 7) <|
 aX 9 (pB .neq 9 6 8) <|
 aXZ
noncomputable def f85_r2 (c : CallF) : RF := rg [4] <| aX 4 (pM (cn (.bool false))) <|
 aXZ
noncomputable def f85_r3 (c : CallF) : RF := rg [14] <| aX 10 (pF 1 1 2) <|
 aX 11 (pL false 1 10) <|
 aX 12 (pF 1 1 3) <|
 aX 13 (pL false 1 12) <|
 aX 14 (pB .neq 37 11 13) <|
 aXZ
noncomputable def f85_r4 (c : CallF) : RF := rg [4] <| aX 4 (pM (cn (.bool false))) <|
 aXZ
noncomputable def f85_r5 (c : CallF) : RF := rg [4] <| aX 4 (pM (cn (.bool true))) <|
 aXZ
noncomputable def f85 (c : CallF) (k : Nat) : St :=
 (bSeq (bReg (f85_r0 c))
 (bSeq (bSeq (bReg (f85_r1 c))
 (bCond (.tmp 9) (bSeq (bReg (f85_r2 c))
 (bEx .ret)) (bEx .nrm)))
 (bSeq (bSeq (bReg (f85_r3 c))
 (bCond (.tmp 14) (bSeq (bReg (f85_r4 c))
 (bEx .ret)) (bEx .nrm)))
 (bSeq (bReg (f85_r5 c))
 (bEx .ret)))))
theorem f85_eq (c : CallF) (k : Nat) : exec cx c 15 f85_an k (Tryd.f85.body.getD .skip) = f85 c k := by kernel_rfl
/-! ### f86: loop.example/g01263/laws.markNotchS -/
def f86_an : Ann := ⟨[(0, r0 [0, 1]), (1, r0 [0, 1, 5]), (2, r0 [0, 1, 5, 9]), (3, r0 [0, 1, 5]), (4, r0 [0, 1, 5]), (5, r0 [0, 1, 5]), (6, r0 [0, 1, 5]), (7, r0 [0, 1, 5]), (8, r0 [4])], [(2, [0, 1, 5])]⟩
noncomputable def f86_r0 (c : CallF) : RF := rg [0, 1] <| aX 4 (pM (cn (.int .i64 0))) <|
 aXZ
noncomputable def f86_r1 (c : CallF) : RF := rg [0, 1, 5] <| aX 5 (pM (cn (.int .i64 0))) <|
 aXZ
noncomputable def f86_r2 (c : CallF) : RF := rg [0, 1, 5, 9] <| aX 6 (pM 5) <|
 aX 7 (pM 0) <|
 aX 8 (pLen 26 7) <|
 aX 9 (pB .lss 3 6 8) <|
 aXZ
noncomputable def f86_r3 (c : CallF) : RF := rg [0, 1, 5] <| aX 10 (pM 5) <|
 aX 11 (pB .add 3 10 (cn (.int .i64 1))) <|
 aX 5 (pM 11) <|
 aXZ
noncomputable def f86_r4 (c : CallF) : RF := rg [0, 1, 5] <| aX 12 (pM 0) <|
 aX 13 (pM 5) <|
 aX 14 (pM 1) <|
 aX 15 (fun n e M => keep (aConvI .i8 (eget e 14))) <|
 aX 16 (pI 2 12 13) <|
 aX 17 (pF 0 1 16) <|
 aX0 (pS 1 17 15) <|
 aXZ
noncomputable def f86_r5 (c : CallF) : RF := rg [0, 1, 5] <| aX 18 (pM 1) <|
 aX 19 (pB .add 3 18 (cn (.int .i64 1))) <|
 aX 1 (pM 19) <|
 aXZ
noncomputable def f86_r6 (c : CallF) : RF := rg [0, 1, 5] <| aX 20 (pM 0) <|
 aX 21 (pM 5) <|
 aX 22 (pM 1) <|
 aX 23 (fun n e M => keep (aConvI .i16 (eget e 22))) <|
 aX 24 (pI 2 20 21) <|
 aX 25 (pF 1 1 24) <|
 aX0 (pS 1 25 23) <|
 aXZ
noncomputable def f86_r7 (c : CallF) : RF := rg [0, 1, 5] <| aX 26 (pM 1) <|
 aX 27 (pB .add 3 26 (cn (.int .i64 1))) <|
 aX 1 (pM 27) <|
 aXZ
noncomputable def f86_r8 (c : CallF) : RF := rg [4] <| aX 28 (pM 1) <|
 aX 4 (pM 28) <|
 aXZ
noncomputable def f86_l2 (c : CallF) (k : Nat) : St :=
 (bSeq (bSeq (bReg (f86_r2 c))
 (bCond (.tmp 9) (bEx .nrm) (bEx (.ext 0))))
 (bSeq (bBlock 1 (bSeq (bReg (f86_r4 c))
 (bSeq (bReg (f86_r5 c))
 (bSeq (bReg (f86_r6 c))
 (bReg (f86_r7 c))))))
 (bReg (f86_r3 c))))
noncomputable def f86 (c : CallF) (k : Nat) : St :=
 (bSeq (bReg (f86_r0 c))
 (bSeq (bSeq (bReg (f86_r1 c))
 (bBlock 0 (bLoop [0, 1, 5] (f86_l2 c k) k)))
 (bSeq (bReg (f86_r8 c))
 (bEx .ret))))
theorem f86_eq (c : CallF) (k : Nat) : exec cx c 29 f86_an k (Tryd.f86.body.getD .skip) = f86 c k := by kernel_rfl
/-! ### f87: loop.example/g01263/laws.markText -/
def f87_an : Ann := ⟨[(0, r0 [0]), (1, r0 [0, 5]), (2, r0 [2]), (3, r0 [0, 3]), (4, r0 [0, 3, 7]), (5, r0 [0, 3]), (6, r0 [0, 3]), (7, r0 [2])], [(4, [0, 3])]⟩
noncomputable def f87_r0 (c : CallF) : RF := rg [0] <| aX 2 (pM (cn (.str []))) <|
 aXZ
noncomputable def f87_r1 (c : CallF) : RF := rg [0, 5] <| aX 4 (pM 0) <|
 aX 5 (pB .leq 3 4 (cn (.int .i64 0))) <|
 aXZ
noncomputable def f87_r2 (c : CallF) : RF := rg [2] <| aX 2 (pM (cn (.str [109, 48]))) <|
 aXZ
noncomputable def f87_r3 (c : CallF) : RF := rg [0, 3] <| aX 3 (pM (cn (.str []))) <|
 aXZ
noncomputable def f87_r4 (c : CallF) : RF := rg [0, 3, 7] <| aX 6 (pM 0) <|
 aX 7 (pB .gtr 3 6 (cn (.int .i64 0))) <|
 aXZ
noncomputable def f87_r5 (c : CallF) : RF := rg [0, 3] <| aX 8 (pM 0) <|
 aX 9 (pB .rem 3 8 (cn (.int .i64 10))) <|
 aX 10 (pB .add 3 (cn (.int .i64 48)) 9) <|
 aX 11 (fun n e M => keep (aConvI .u8 (eget e 10))) <|
 aX 12 (fun n e M => keep (aLitI 5 1 [(eget e 11)] M)) <|
 aX 13 (fun n e M => keep (aConvB (eget e 12) M)) <|
 aX 14 (pM 3) <|
 aX 15 (pB .add 9 13 14) <|
 aX 3 (pM 15) <|
 aXZ
noncomputable def f87_r6 (c : CallF) : RF := rg [0, 3] <| aX 16 (pM 0) <|
 aX 17 (pB .quo 3 16 (cn (.int .i64 10))) <|
 aX 0 (pM 17) <|
 aXZ
noncomputable def f87_r7 (c : CallF) : RF := rg [2] <| aX 18 (pM 3) <|
 aX 19 (pB .add 9 (cn (.str [109])) 18) <|
 aX 2 (pM 19) <|
 aXZ
noncomputable def f87_l4 (c : CallF) (k : Nat) : St :=
 (bSeq (bSeq (bReg (f87_r4 c))
 (bCond (.tmp 7) (bEx .nrm) (bEx (.ext 0))))
 (bBlock 1 (bSeq (bReg (f87_r5 c))
 (bReg (f87_r6 c)))))
noncomputable def f87 (c : CallF) (k : Nat) : St :=
 (bSeq (bReg (f87_r0 c))
 (bSeq (bSeq (bReg (f87_r1 c))
 (bCond (.tmp 5) (bSeq (bReg (f87_r2 c))
 (bEx .ret)) (bEx .nrm)))
 (bSeq (bReg (f87_r3 c))
 (bSeq (bBlock 0 (bLoop [0, 3] (f87_l4 c k) k))
 (bSeq (bReg (f87_r7 c))
 (bEx .ret))))))
theorem f87_eq (c : CallF) (k : Nat) : exec cx c 20 f87_an k (Tryd.f87.body.getD .skip) = f87 c k := by kernel_rfl
/-! ### f88: loop.example/g01263/laws.heldNotchS -/
def f88_an : Ann := ⟨[(0, r0 [0, 1]), (1, r0 [0, 1, 5]), (2, r0 [0, 1, 5, 9]), (3, r0 [0, 1, 5]), (4, r0 [0, 1, 5, 19]), (5, r0 [4]), (6, r0 [0, 1, 5]), (7, r0 [0, 1, 5, 29]), (8, r0 [4]), (9, r0 [0, 1, 5]), (10, r0 [4])], [(2, [0, 1, 5])]⟩
noncomputable def f88_r0 (c : CallF) : RF := rg [0, 1] <| aX 4 (pM (cn (.int .i64 0))) <|
 aXZ
noncomputable def f88_r1 (c : CallF) : RF := rg [0, 1, 5] <| aX 5 (pM (cn (.int .i64 0))) <|
 aXZ
noncomputable def f88_r2 (c : CallF) : RF := rg [0, 1, 5, 9] <| aX 6 (pM 5) <|
 aX 7 (pM 0) <|
 aX 8 (pLen 26 7) <|
 aX 9 (pB .lss 3 6 8) <|
 aXZ
noncomputable def f88_r3 (c : CallF) : RF := rg [0, 1, 5] <| aX 10 (pM 5) <|
 aX 11 (pB .add 3 10 (cn (.int .i64 1))) <|
 aX 5 (pM 11) <|
 aXZ
noncomputable def f88_r4 (c : CallF) : RF := rg [0, 1, 5, 19] <| aX 12 (pM 0) <|
 aX 13 (pM 5) <|
 aX 14 (pI 2 12 13) <|
 aX 15 (pF 0 1 14) <|
 aX 16 (pL false 1 15) <|
 aX 17 (pM 1) <|
 aX 18 (fun n e M => keep (aConvI .i8 (eget e 17))) <|
 aX 19 (pB .neq 27 16 18) <|
 aXZ
noncomputable def f88_r5 (c : CallF) : RF := rg [4] <| aX 4 (pM (cn (.int .i64 (-1)))) <|
 aXZ
noncomputable def f88_r6 (c : CallF) : RF := rg [0, 1, 5] <| aX 20 (pM 1) <|
 aX 21 (pB .add 3 20 (cn (.int .i64 1))) <|
 aX 1 (pM 21) <|
 aXZ
noncomputable def f88_r7 (c : CallF) : RF := rg [0, 1, 5, 29] <| aX 22 (pM 0) <|
 aX 23 (pM 5) <|
 aX 24 (pI 2 22 23) <|
 aX 25 (pF 1 1 24) <|
 aX 26 (pL false 1 25) <|
 aX 27 (pM 1) <|
 aX 28 (fun n e M => keep (aConvI .i16 (eget e 27))) <|
 aX 29 (pB .neq 105 26 28) <|
 aXZ
noncomputable def f88_r8 (c : CallF) : RF := rg [4] <| aX 4 (pM (cn (.int .i64 (-1)))) <|
 aXZ
noncomputable def f88_r9 (c : CallF) : RF := rg [0, 1, 5] <| aX 30 (pM 1) <|
 aX 31 (pB .add 3 30 (cn (.int .i64 1))) <|
 aX 1 (pM 31) <|
 aXZ
noncomputable def f88_r10 (c : CallF) : RF := rg [4] <| aX 32 (pM 1) <|
 aX 4 (pM 32) <|
 aXZ
noncomputable def f88_l2 (c : CallF) (k : Nat) : St :=
 (bSeq (bSeq (bReg (f88_r2 c))
 (bCond (.tmp 9) (bEx .nrm) (bEx (.ext 0))))
 (bSeq (bBlock 1 (bSeq (bSeq (bReg (f88_r4 c))
 (bCond (.tmp 19) (bSeq (bReg (f88_r5 c))
 (bEx .ret)) (bEx .nrm)))
 (bSeq (bReg (f88_r6 c))
 (bSeq (bSeq (bReg (f88_r7 c))
 (bCond (.tmp 29) (bSeq (bReg (f88_r8 c))
 (bEx .ret)) (bEx .nrm)))
 (bReg (f88_r9 c))))))
 (bReg (f88_r3 c))))
noncomputable def f88 (c : CallF) (k : Nat) : St :=
 (bSeq (bReg (f88_r0 c))
 (bSeq (bSeq (bReg (f88_r1 c))
 (bBlock 0 (bLoop [0, 1, 5] (f88_l2 c k) k)))
 (bSeq (bReg (f88_r10 c))
 (bEx .ret))))
theorem f88_eq (c : CallF) (k : Nat) : exec cx c 33 f88_an k (Tryd.f88.body.getD .skip) = f88 c k := by kernel_rfl
/-! ### f91: loop.example/g01263/spec.l01Widths -/
def f91_an : Ann := ⟨[(0, r0 []), (1, r0 [0])], []⟩
noncomputable def f91_r0 (c : CallF) : RF := rg [] <| aX 0 (pM (cn .nils)) <|
 aXZ
noncomputable def f91_r1 (c : CallF) : RF := rg [0] <| aX 1 (fun n e M => keep (aLitI 2 1 [(.int .i64 1), (.int .i64 2), (.int .i64 4), (.int .i64 6), (.int .i64 9), (.int .i64 12)] M)) <|
 aX 0 (pM 1) <|
 aXZ
noncomputable def f91 (c : CallF) (k : Nat) : St :=
 (bSeq (bReg (f91_r0 c))
 (bSeq (bReg (f91_r1 c))
 (bEx .ret)))
theorem f91_eq (c : CallF) (k : Nat) : exec cx c 2 f91_an k (Tryd.f91.body.getD .skip) = f91 c k := by kernel_rfl
/-! ### f92: loop.example/g01263/impl.width -/
def f92_an : Ann := ⟨[(0, r0 [0]), (1, r0 [2])], []⟩
noncomputable def f92_r0 (c : CallF) : RF := rg [0] <| aX 2 (pM (cn (.int .i64 0))) <|
 aXZ
noncomputable def f92_r1 (c : CallF) : RF := rg [2] <| aX 3 (fun n e M => keep (aLitI 2 1 [(.int .i64 1), (.int .i64 2), (.int .i64 4), (.int .i64 6), (.int .i64 9), (.int .i64 12)] M)) <|
 aX 4 (pM 0) <|
 aX 5 (pI 1 3 4) <|
 aX 6 (pL false 1 5) <|
 aX 2 (pM 6) <|
 aXZ
noncomputable def f92 (c : CallF) (k : Nat) : St :=
 (bSeq (bReg (f92_r0 c))
 (bSeq (bReg (f92_r1 c))
 (bEx .ret)))
theorem f92_eq (c : CallF) (k : Nat) : exec cx c 7 f92_an k (Tryd.f92.body.getD .skip) = f92 c k := by kernel_rfl
/-! ### f93: loop.example/g01263/impl.decimal -/
def f93_an : Ann := ⟨[(0, r0 [0]), (1, r0 [2])], []⟩
noncomputable def f93_r0 (c : CallF) : RF := rg [0] <| aX 2 (pM (cn (.str []))) <|
 aXZ
noncomputable def f93_r1 (c : CallF) : RF := rg [2] <| aX 3 (pM 0) <|
 aX 4 (pK c false 102 [3, (cn (.int .i64 10))]) <|
 aX 2 (pM 4) <|
 aXZ
noncomputable def f93 (c : CallF) (k : Nat) : St :=
 (bSeq (bReg (f93_r0 c))
 (bSeq (bReg (f93_r1 c))
 (bEx .ret)))
theorem f93_eq (c : CallF) (k : Nat) : exec cx c 5 f93_an k (Tryd.f93.body.getD .skip) = f93 c k := by kernel_rfl
/-! ### f96: loop.example/g01263/spec.l01Notches -/
def f96_an : Ann := ⟨[(0, r0 [0]), (1, r0 [0, 7]), (2, r0 [2]), (3, r0 [0, 3]), (4, r0 [0, 3, 11]), (5, r0 [0, 3]), (6, r0 [0, 3, 4]), (7, r0 [0, 3, 4, 32]), (8, r0 [2]), (9, r0 [0, 3, 57]), (10, r0 [2]), (11, r0 [2])], [(4, [0, 3])]⟩
noncomputable def f96_r0 (c : CallF) : RF := rg [0] <| aX 2 (pM (cn (.bool false))) <|
 aXZ
noncomputable def f96_r1 (c : CallF) : RF := rg [0, 7] <| aX 5 (pM 0) <|
 aX 6 (pLen 26 5) <|
 aX 7 (pB .gtr 3 6 (cn (.int .i64 60))) <|
 aXZ
noncomputable def f96_r2 (c : CallF) : RF := rg [2] <| aX 2 (pM (cn (.bool false))) <|
 aXZ
noncomputable def f96_r3 (c : CallF) : RF := rg [0, 3] <| aX 3 (pM (cn (.int .i64 0))) <|
 aXZ
noncomputable def f96_r4 (c : CallF) : RF := rg [0, 3, 11] <| aX 8 (pM 3) <|
 aX 9 (pM 0) <|
 aX 10 (pLen 26 9) <|
 aX 11 (pB .lss 3 8 10) <|
 aXZ
noncomputable def f96_r5 (c : CallF) : RF := rg [0, 3] <| aX 12 (pM 3) <|
 aX 13 (pB .add 3 12 (cn (.int .i64 1))) <|
 aX 3 (pM 13) <|
 aXZ
noncomputable def f96_r6 (c : CallF) : RF := rg [0, 3, 4] <| aX 14 (pM 0) <|
 aX 15 (pM 3) <|
 aX 16 (pI 2 14 15) <|
 aX 17 (pL true 2 16) <|
 aX 4 (pAl 107 2) <|
 aX0 (pS 2 4 17) <|
 aXZ
noncomputable def f96_r7 (c : CallF) : RF := rg [0, 3, 4, 32] <| aX 18 (pF 0 1 4) <|
 aX 19 (pL false 1 18) <|
 aX 20 (fun n e M => keep (aConvI .i64 (eget e 19))) <|
 aX 21 (pK c false 106 [20]) <|
 aX 22 (pU .not 21) <|
 aX 23 (pM 22) <|
 aX 24 (pG 23 false (pF 1 1 4)) <|
 aX 25 (pG 23 false (pL false 1 24)) <|
 aX 26 (pG 23 false (pB .lss 105 25 (cn (.int .i16 0)))) <|
 aX 27 (pP 23 (cn (.bool true)) 26) <|
 aX 28 (pM 27) <|
 aX 29 (pG 28 false (pL true 2 4)) <|
 aX 30 (pG 28 false (pK c false 107 [29])) <|
 aX 31 (pG 28 false (pB .gtr 2 30 (cn (.int .i64 200)))) <|
 aX 32 (pP 28 (cn (.bool true)) 31) <|
 aXZ
noncomputable def f96_r8 (c : CallF) : RF := rg [2] <| aX 2 (pM (cn (.bool false))) <|
 aXZ
noncomputable def f96_r9 (c : CallF) : RF := rgD [0, 3, 57] (aY 33 (pM 3) <|
 aY 34 (pB .gtr 3 33 (cn (.int .i64 0))) <|
 aY 35 (pM 34) <|
 aY 36 (pG 35 true (pF 0 1 4)) <|
 aY 37 (pG 35 true (pL false 1 36)) <|
 aY 38 (pG 35 true (pM 0)) <|
 aY 39 (pG 35 true (pM 3)) <|
 aY 40 (pG 35 true (pB .sub 3 39 (cn (.int .i64 1)))) <|
 aY 41 (pG 35 true (pI 2 38 40)) <|
 aY 42 (pG 35 true (pF 0 1 41)) <|
 aY 43 (pG 35 true (pL false 1 42)) <|
 aY 44 (pG 35 true (pB .gtr 27 37 43)) <|
 aY 45 (pG 35 true (pM 44)) <|
 aY 46 (pG 45 false (pF 1 1 4)) <|
 aY 47 (pG 45 false (pL false 1 46)) <|
 aY 48 (pG 45 false (fun n e M => keep (aConvI .i64 (eget e 47)))) <|
 aY 49 (pG 45 false (pM 0)) <|
 aY 50 (pG 45 false (pM 3)) <|
 aY 51 (pG 45 false (pB .sub 3 50 (cn (.int .i64 1)))) <|
 aY 52 (pG 45 false (pI 2 49 51)) <|
 aY 53 (pG 45 false (pL true 2 52)) <|
 aY 54 (pG 45 false (pK c false 107 [53])) <|
 aY 55 (pG 45 false (pB .leq 2 48 54)) <|
 aY 56 (pG 35 true (pP 45 (cn (.bool true)) 55)) <|
 aY 57 (pP 35 56 (cn (.bool false))) <|
 aYZ)
 (aXZ)
noncomputable def f96_r10 (c : CallF) : RF := rg [2] <| aX 2 (pM (cn (.bool false))) <|
 aXZ
noncomputable def f96_r11 (c : CallF) : RF := rg [2] <| aX 2 (pM (cn (.bool true))) <|
 aXZ
noncomputable def f96_l4 (c : CallF) (k : Nat) : St :=
 (bSeq (bSeq (bReg (f96_r4 c))
 (bCond (.tmp 11) (bEx .nrm) (bEx (.ext 0))))
 (bSeq (bBlock 1 (bSeq (bReg (f96_r6 c))
 (bSeq (bSeq (bReg (f96_r7 c))
 (bCond (.tmp 32) (bSeq (bReg (f96_r8 c))
 (bEx .ret)) (bEx .nrm)))
 (bSeq (bReg (f96_r9 c))
 (bCond (.tmp 57) (bSeq (bReg (f96_r10 c))
 (bEx .ret)) (bEx .nrm))))))
 (bReg (f96_r5 c))))
noncomputable def f96 (c : CallF) (k : Nat) : St :=
 (bSeq (bReg (f96_r0 c))
 (bSeq (bSeq (bReg (f96_r1 c))
 (bCond (.tmp 7) (bSeq (bReg (f96_r2 c))
 (bEx .ret)) (bEx .nrm)))
 (bSeq (bSeq (bReg (f96_r3 c))
 (bBlock 0 (bLoop [0, 3] (f96_l4 c k) k)))
 (bSeq (bReg (f96_r11 c))
 (bEx .ret)))))
theorem f96_eq (c : CallF) (k : Nat) : exec cx c 58 f96_an k (Tryd.f96.body.getD .skip) = f96 c k := by kernel_rfl
/-! ### f97: loop.example/g01263/spec.l01Grain -/
def f97_an : Ann := ⟨[(0, r0 [1]), (1, r0 [1, 3]), (2, r0 [1, 3, 5]), (3, r0 [1, 3]), (4, r0 [1, 3, 17]), (5, r0 [2]), (6, r0 [2])], [(2, [1, 3])]⟩
noncomputable def f97_r0 (c : CallF) : RF := rg [1] <| aX 1 (pBox 16 0) <|
 aX 2 (pM (cn (.bool false))) <|
 aXZ
noncomputable def f97_r1 (c : CallF) : RF := rg [1, 3] <| aX 3 (pM (cn (.int .i64 0))) <|
 aXZ
noncomputable def f97_r2 (c : CallF) : RF := rg [1, 3, 5] <| aX 4 (pM 3) <|
 aX 5 (pB .lss 3 4 (cn (.int .i64 16))) <|
 aXZ
noncomputable def f97_r3 (c : CallF) : RF := rg [1, 3] <| aX 6 (pM 3) <|
 aX 7 (pB .add 3 6 (cn (.int .i64 1))) <|
 aX 3 (pM 7) <|
 aXZ
noncomputable def f97_r4 (c : CallF) : RF := rg [1, 3, 17] <| aX 8 (pM 3) <|
 aX 9 (fun n e M => keep (aIndexP 16 1 (eget e 1) (eget e 8) M)) <|
 aX 10 (pL false 1 9) <|
 aX 11 (pB .lss 27 10 (cn (.int .i8 (-3)))) <|
 aX 12 (pM 11) <|
 aX 13 (pG 12 false (pM 3)) <|
 aX 14 (pG 12 false (fun n e M => keep (aIndexP 16 1 (eget e 1) (eget e 13) M))) <|
 aX 15 (pG 12 false (pL false 1 14)) <|
 aX 16 (pG 12 false (pB .gtr 27 15 (cn (.int .i8 3)))) <|
 aX 17 (pP 12 (cn (.bool true)) 16) <|
 aXZ
noncomputable def f97_r5 (c : CallF) : RF := rg [2] <| aX 2 (pM (cn (.bool false))) <|
 aXZ
noncomputable def f97_r6 (c : CallF) : RF := rg [2] <| aX 2 (pM (cn (.bool true))) <|
 aXZ
noncomputable def f97_l2 (c : CallF) (k : Nat) : St :=
 (bSeq (bSeq (bReg (f97_r2 c))
 (bCond (.tmp 5) (bEx .nrm) (bEx (.ext 0))))
 (bSeq (bBlock 1 (bSeq (bReg (f97_r4 c))
 (bCond (.tmp 17) (bSeq (bReg (f97_r5 c))
 (bEx .ret)) (bEx .nrm))))
 (bReg (f97_r3 c))))
noncomputable def f97 (c : CallF) (k : Nat) : St :=
 (bSeq (bReg (f97_r0 c))
 (bSeq (bSeq (bReg (f97_r1 c))
 (bBlock 0 (bLoop [1, 3] (f97_l2 c k) k)))
 (bSeq (bReg (f97_r6 c))
 (bEx .ret))))
theorem f97_eq (c : CallF) (k : Nat) : exec cx c 18 f97_an k (Tryd.f97.body.getD .skip) = f97 c k := by kernel_rfl
/-! ### f98: loop.example/g01263/spec.l01Letters -/
def f98_an : Ann := ⟨[(0, r0 []), (1, r0 [0])], []⟩
noncomputable def f98_r0 (c : CallF) : RF := rg [] <| aX 0 (pM (cn (.str []))) <|
 aXZ
noncomputable def f98_r1 (c : CallF) : RF := rg [0] <| aX 0 (pM (cn (.str [100, 115, 108, 118, 99, 109]))) <|
 aXZ
noncomputable def f98 (c : CallF) (k : Nat) : St :=
 (bSeq (bReg (f98_r0 c))
 (bSeq (bReg (f98_r1 c))
 (bEx .ret)))
theorem f98_eq (c : CallF) (k : Nat) : exec cx c 1 f98_an k (Tryd.f98.body.getD .skip) = f98 c k := by kernel_rfl
/-! ### f99: loop.example/g01263/spec.Decimal -/
def f99_an : Ann := ⟨[(0, r0 [0]), (1, r0 [0, 4]), (2, r0 [2]), (3, r0 [2])], []⟩
noncomputable def f99_r0 (c : CallF) : RF := rg [0] <| aX 2 (pM (cn (.str []))) <|
 aXZ
noncomputable def f99_r1 (c : CallF) : RF := rg [0, 4] <| aX 3 (pM 0) <|
 aX 4 (pB .lss 2 3 (cn (.int .i64 10))) <|
 aXZ
noncomputable def f99_r2 (c : CallF) : RF := rg [2] <| aX 5 (pM 0) <|
 aX 6 (pB .rem 2 5 (cn (.int .i64 10))) <|
 aX 7 (pB .add 2 (cn (.int .i64 48)) 6) <|
 aX 8 (fun n e M => keep (aConvI .u8 (eget e 7))) <|
 aX 9 (fun n e M => keep (aLitI 5 1 [(eget e 8)] M)) <|
 aX 10 (fun n e M => keep (aConvB (eget e 9) M)) <|
 aX 2 (pM 10) <|
 aXZ
noncomputable def f99_r3 (c : CallF) : RF := rgD [2] (aY 11 (pM 0) <|
 aY 12 (pB .quo 2 11 (cn (.int .i64 10))) <|
 aY 13 (pK c false 99 [12]) <|
 aY 14 (pM 0) <|
 aY 15 (pB .rem 2 14 (cn (.int .i64 10))) <|
 aY 16 (pB .add 2 (cn (.int .i64 48)) 15) <|
 aY 17 (fun n e M => keep (aConvI .u8 (eget e 16))) <|
 aY 18 (fun n e M => keep (aLitI 5 1 [(eget e 17)] M)) <|
 aY 19 (fun n e M => keep (aConvB (eget e 18) M)) <|
 aY 20 (pB .add 9 13 19) <|
 aY 2 (pM 20) <|
 aYZ)
 (aXZ)
noncomputable def f99 (c : CallF) (k : Nat) : St :=
 (bSeq (bReg (f99_r0 c))
 (bSeq (bSeq (bReg (f99_r1 c))
 (bCond (.tmp 4) (bSeq (bReg (f99_r2 c))
 (bEx .ret)) (bEx .nrm)))
 (bSeq (bReg (f99_r3 c))
 (bEx .ret))))
theorem f99_eq (c : CallF) (k : Nat) : exec cx c 21 f99_an k (Tryd.f99.body.getD .skip) = f99 c k := by kernel_rfl
/-! ### f100: loop.example/g01263/laws.toNotch -/
def f100_an : Ann := ⟨[(0, r0 [1, 2]), (1, r0 [1, 2, 3]), (2, r0 [1, 2, 3]), (3, r0 [2, 3]), (4, r0 [2])], []⟩
noncomputable def f100_r0 (c : CallF) : RF := rg [1, 2] <| aX 1 (pBox 2 0) <|
 aX 2 (pAl 107 2) <|
 aXZ
noncomputable def f100_r1 (c : CallF) : RF := rg [1, 2, 3] <| aX 3 (pAl 107 2) <|
 aXZ
noncomputable def f100_r2 (c : CallF) : RF := rg [1, 2, 3] <| aX 4 (pF 0 1 1) <|
 aX 5 (pL false 1 4) <|
 aX 6 (pF 0 1 3) <|
 aX0 (pS 1 6 5) <|
 aXZ
noncomputable def f100_r3 (c : CallF) : RF := rg [2, 3] <| aX 7 (pF 1 1 1) <|
 aX 8 (pL false 1 7) <|
 aX 9 (pF 1 1 3) <|
 aX0 (pS 1 9 8) <|
 aXZ
noncomputable def f100_r4 (c : CallF) : RF := rg [2] <| aX 10 (pL true 2 3) <|
 aX0 (pS 2 2 10) <|
 aXZ
noncomputable def f100 (c : CallF) (k : Nat) : St :=
 (bSeq (bReg (f100_r0 c))
 (bSeq (bReg (f100_r1 c))
 (bSeq (bReg (f100_r2 c))
 (bSeq (bReg (f100_r3 c))
 (bSeq (bReg (f100_r4 c))
 (bEx .ret))))))
theorem f100_eq (c : CallF) (k : Nat) : exec cx c 11 f100_an k (Tryd.f100.body.getD .skip) = f100 c k := by kernel_rfl
/-! ### f101: loop.example/g01263/laws.eqNotch -/
def f101_an : Ann := ⟨[(0, r0 [2, 3]), (1, r0 [2, 3, 9]), (2, r0 [4]), (3, r0 [14]), (4, r0 [4]), (5, r0 [4])], []⟩
noncomputable def f101_r0 (c : CallF) : RF := rg [2, 3] <| aX 2 (pBox 2 0) <|
 aX 3 (pBox 2 1) <|
 aX 4 (pM (cn (.bool false))) <|
 aXZ
noncomputable def f101_r1 (c : CallF) : RF := rg [2, 3, 9] <| aX 5 (pF 0 1 2) <|
 aX 6 (pL false 1 5) <|
 aX 7 (pF 0 1 3) <|
 aX 8 (pL false 1 7) <|
 aX 9 (pB .neq 27 6 8) <|
 aXZ
noncomputable def f101_r2 (c : CallF) : RF := rg [4] <| aX 4 (pM (cn (.bool false))) <|
 aXZ
noncomputable def f101_r3 (c : CallF) : RF := rg [14] <| aX 10 (pF 1 1 2) <|
 aX 11 (pL false 1 10) <|
 aX 12 (pF 1 1 3) <|
 aX 13 (pL false 1 12) <|
 aX 14 (pB .neq 105 11 13) <|
 aXZ
noncomputable def f101_r4 (c : CallF) : RF := rg [4] <| aX 4 (pM (cn (.bool false))) <|
 aXZ
noncomputable def f101_r5 (c : CallF) : RF := rg [4] <| aX 4 (pM (cn (.bool true))) <|
 aXZ
noncomputable def f101 (c : CallF) (k : Nat) : St :=
 (bSeq (bReg (f101_r0 c))
 (bSeq (bSeq (bReg (f101_r1 c))
 (bCond (.tmp 9) (bSeq (bReg (f101_r2 c))
 (bEx .ret)) (bEx .nrm)))
 (bSeq (bSeq (bReg (f101_r3 c))
 (bCond (.tmp 14) (bSeq (bReg (f101_r4 c))
 (bEx .ret)) (bEx .nrm)))
 (bSeq (bReg (f101_r5 c))
 (bEx .ret)))))
theorem f101_eq (c : CallF) (k : Nat) : exec cx c 15 f101_an k (Tryd.f101.body.getD .skip) = f101 c k := by kernel_rfl
/-! ### f106: loop.example/g01263/spec.l01Kind -/
def f106_an : Ann := ⟨[(0, r0 [0]), (1, r0 [2])], []⟩
noncomputable def f106_r0 (c : CallF) : RF := rg [0] <| aX 2 (pM (cn (.bool false))) <|
 aXZ
noncomputable def f106_r1 (c : CallF) : RF := rg [2] <| aX 3 (pM 0) <|
 aX 4 (pK c false 75 [3, (cn (.int .i64 0)), (cn (.int .i64 5))]) <|
 aX 2 (pM 4) <|
 aXZ
noncomputable def f106 (c : CallF) (k : Nat) : St :=
 (bSeq (bReg (f106_r0 c))
 (bSeq (bReg (f106_r1 c))
 (bEx .ret)))
theorem f106_eq (c : CallF) (k : Nat) : exec cx c 5 f106_an k (Tryd.f106.body.getD .skip) = f106 c k := by kernel_rfl
/-! ### f107: loop.example/g01263/spec.l01Ends -/
def f107_an : Ann := ⟨[(0, r0 [1]), (1, r0 [2])], []⟩
noncomputable def f107_r0 (c : CallF) : RF := rg [1] <| aX 1 (pBox 2 0) <|
 aX 2 (pM (cn (.int .i64 0))) <|
 aXZ
noncomputable def f107_r1 (c : CallF) : RF := rgD [2] (aY 3 (pF 1 1 1) <|
 aY 4 (pL false 1 3) <|
 aY 5 (fun n e M => keep (aConvI .i64 (eget e 4))) <|
 aY 6 (pK c false 91 []) <|
 aY 7 (pF 0 1 1) <|
 aY 8 (pL false 1 7) <|
 aY 9 (pI 1 6 8) <|
 aY 10 (pL false 1 9) <|
 aY 11 (pB .add 2 5 10) <|
 aY 2 (pM 11) <|
 aYZ)
 (aXZ)
noncomputable def f107 (c : CallF) (k : Nat) : St :=
 (bSeq (bReg (f107_r0 c))
 (bSeq (bReg (f107_r1 c))
 (bEx .ret)))
theorem f107_eq (c : CallF) (k : Nat) : exec cx c 12 f107_an k (Tryd.f107.body.getD .skip) = f107 c k := by kernel_rfl
def anns : List (Nat × Ann) := [(4, f4_an), (13, f13_an), (16, f16_an), (17, f17_an), (18, f18_an), (19, f19_an), (20, f20_an), (21, f21_an), (22, f22_an), (23, f23_an), (28, f28_an), (33, f33_an), (34, f34_an), (35, f35_an), (36, f36_an), (37, f37_an), (38, f38_an), (42, f42_an), (43, f43_an), (44, f44_an), (45, f45_an), (46, f46_an), (47, f47_an), (48, f48_an), (49, f49_an), (50, f50_an), (51, f51_an), (52, f52_an), (53, f53_an), (54, f54_an), (55, f55_an), (56, f56_an), (62, f62_an), (63, f63_an), (64, f64_an), (65, f65_an), (66, f66_an), (67, f67_an), (68, f68_an), (72, f72_an), (73, f73_an), (74, f74_an), (75, f75_an), (76, f76_an), (77, f77_an), (78, f78_an), (79, f79_an), (80, f80_an), (81, f81_an), (82, f82_an), (83, f83_an), (84, f84_an), (85, f85_an), (86, f86_an), (87, f87_an), (88, f88_an), (91, f91_an), (92, f92_an), (93, f93_an), (96, f96_an), (97, f97_an), (98, f98_an), (99, f99_an), (100, f100_an), (101, f101_an), (106, f106_an), (107, f107_an)]
noncomputable def CN0 : Nat → CallF := callN cx (Go.Ab.look anns) (fun _ _ _ => none) (fun _ => false)
def isP (f : Nat) : Bool := has [38, 66, 94, 102] f
noncomputable def primF : CallF := splitNil (callN cx (Go.Ab.look anns) (fun _ _ _ => none) (fun _ => false) 3)
noncomputable def CN : Nat → CallF := callN cx (Go.Ab.look anns) (withLib libT primF) isP
end Go.Proofs.YtonpeobfmgdamabDoor

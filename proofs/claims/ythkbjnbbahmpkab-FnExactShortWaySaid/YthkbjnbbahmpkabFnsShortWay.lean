/- Printed by a program of ours (ext.py). -/
import Derived.Test.YthkbjnbbahmpkabAbWin
import Derived.Test.YthkbjnbbahmpkabProg
set_option linter.unusedVariables false
set_option linter.unusedSimpArgs false
set_option maxRecDepth 100000
set_option maxHeartbeats 2000000
namespace Go.Proofs.Ythkbjnbbahmpkab
open Go Go.Ab
noncomputable def cx : Cx := ⟨Try.prog, fun f => has [13, 14, 27, 28, 46] f⟩
noncomputable abbrev pB := pB_ cx.P
noncomputable abbrev pLen := pLen_ cx.P
noncomputable abbrev pAl := pAl_ cx.P
noncomputable abbrev pK := pK_ cx
/-! ### f4: loop.example/g01263/laws.FnExactShortWay -/
def f4_an : Ann := ⟨[(0, r0 [1]), (1, r0 [1, 3]), (2, r0 [1, 3]), (3, r0 [1, 18]), (4, r0 [2]), (5, r0 [1, 4, 5]), (6, ⟨[], [1], [], [], [1, 4, 5, 6]⟩), (7, ⟨[], [1], [], [], [1, 4, 5, 6, 7, 8]⟩), (8, r0 [1, 4, 5, 6, 7, 8, 40]), (9, r0 [2]), (10, r0 [1, 4, 5, 6, 7, 8, 45]), (11, r0 [2]), (12, r0 [1, 4, 5, 6, 7, 8, 9]), (13, r0 [1, 4, 5, 7, 8, 9]), (14, r0 [1, 4, 5, 7, 61]), (15, r0 [2]), (16, r0 [1, 4, 5, 7, 10]), (17, r0 [1, 4, 5, 7, 10]), (18, r0 [1, 4, 5, 7, 10, 11]), (19, r0 [1, 4, 5, 7, 10, 11]), (20, r0 [1, 4, 5, 7, 10, 11, 69]), (21, r0 [2]), (22, r0 [1, 4, 5, 7, 10, 72]), (23, r0 [2]), (24, r0 [4, 5, 7, 10, 12, 13]), (25, r0 [7, 10, 87]), (26, r0 [2]), (27, r0 [7, 10, 11]), (28, r0 [10, 11]), (29, r0 [10, 11, 92]), (30, r0 [2]), (31, r0 [95]), (32, r0 [2]), (33, r0 [2])], []⟩
noncomputable def f4_r0 (c : CallF) : RF := rg [1] <| aX 1 (pBox 20 0) <|
 aX 2 (pM (cn (.bool false))) <|
 aXZ
noncomputable def f4_r1 (c : CallF) : RF := rg [1, 3] <| aX 3 (pM (cn (.int .i64 1048576))) <|
 aXZ
noncomputable def f4_r2 (c : CallF) : RF := rg [1, 3] <| aX 14 (pL true 20 1) <|
 aX 15 (pM 3) <|
 aX 16 (pK c false 5 [14, 15]) <|
 aX 3 (pM 16) <|
 aXZ
noncomputable def f4_r3 (c : CallF) : RF := rg [1, 18] <| aX 17 (pM 3) <|
 aX 18 (pB .lss 3 17 (cn (.int .i64 0))) <|
 aXZ
noncomputable def f4_r4 (c : CallF) : RF := rg [2] <| aX 2 (pM (cn (.bool true))) <|
 aXZ
noncomputable def f4_r5 (c : CallF) : RF := rg [1, 4, 5] <| aX 20 (pL true 20 1) <|
 aX 21 (pK c false 7 [20]) <|
 aX 22 (pK c false 10 [21]) <|
 aX 19 (pM 22) <|
 aX 23 (pE 0 19) <|
 aX 24 (pE 1 19) <|
 aX 4 (pM 23) <|
 aX 5 (pM 24) <|
 aXZ
noncomputable def f4_r6 (c : CallF) : RF := rg [1, 4, 5, 6] <| aX 25 (pL true 20 1) <|
 aX 26 (pK c true 7 [25]) <|
 aX 6 (pAl 39 20) <|
 aX0 (pS 20 6 26) <|
 aXZ
noncomputable def f4_r7 (c : CallF) : RF := rg [1, 4, 5, 6, 7, 8] <| aX 28 (pL true 20 6) <|
 aX 29 (pK c true 11 [28]) <|
 aX 27 (pM 29) <|
 aX 30 (pE 0 27) <|
 aX 31 (pE 1 27) <|
 aX 7 (pM 30) <|
 aX 8 (pM 31) <|
 aXZ
noncomputable def f4_r8 (c : CallF) : RF := rg [1, 4, 5, 6, 7, 8, 40] <| aX 32 (pM 7) <|
 aX 33 (pM 4) <|
 aX 34 (pK c false 12 [32, 33]) <|
 aX 35 (pU .not 34) <|
 aX 36 (pM 35) <|
 aX 37 (pG 36 false (pM 8)) <|
 aX 38 (pG 36 false (pM 5)) <|
 aX 39 (pG 36 false (pB .neq 2 37 38)) <|
 aX 40 (pP 36 (cn (.bool true)) 39) <|
 aXZ
noncomputable def f4_r9 (c : CallF) : RF := rg [2] <| aX 2 (pM (cn (.bool false))) <|
 aXZ
noncomputable def f4_r10 (c : CallF) : RF := rgD [1, 4, 5, 6, 7, 8, 45] (aY 41 (pL true 20 6) <|
 aY 42 (pL true 20 1) <|
 aY 43 (pK c false 7 [42]) <|
 aY 44 (pK c false 9 [41, 43]) <|
 aY 45 (pU .not 44) <|
 aYZ)
 (aXZ)
noncomputable def f4_r11 (c : CallF) : RF := rg [2] <| aX 2 (pM (cn (.bool false))) <|
 aXZ
noncomputable def f4_r12 (c : CallF) : RF := rg [1, 4, 5, 6, 7, 8, 9] <| aX 9 (pM (cn (.int .i64 1))) <|
 aXZ
noncomputable def f4_r13 (c : CallF) : RF := rg [1, 4, 5, 7, 8, 9] <| aX 46 (pL true 20 6) <|
 aX 47 (pM 9) <|
 aX 48 (pK c false 13 [46, 47]) <|
 aX 9 (pM 48) <|
 aXZ
noncomputable def f4_r14 (c : CallF) : RF := rg [1, 4, 5, 7, 61] <| aX 49 (pM 9) <|
 aX 50 (pB .lss 3 49 (cn (.int .i64 0))) <|
 aX 51 (pM 50) <|
 aX 52 (pG 51 false (pM 7)) <|
 aX 53 (pG 51 false (pM 4)) <|
 aX 54 (pG 51 false (pK c false 12 [52, 53])) <|
 aX 55 (pG 51 false (pU .not 54)) <|
 aX 56 (pP 51 (cn (.bool true)) 55) <|
 aX 57 (pM 56) <|
 aX 58 (pG 57 false (pM 8)) <|
 aX 59 (pG 57 false (pM 5)) <|
 aX 60 (pG 57 false (pB .neq 2 58 59)) <|
 aX 61 (pP 57 (cn (.bool true)) 60) <|
 aXZ
noncomputable def f4_r15 (c : CallF) : RF := rg [2] <| aX 2 (pM (cn (.bool false))) <|
 aXZ
noncomputable def f4_r16 (c : CallF) : RF := rg [1, 4, 5, 7, 10] <| aX 10 (pM (cn (.int .i64 1))) <|
 aXZ
noncomputable def f4_r17 (c : CallF) : RF := rg [1, 4, 5, 7, 10] <| aX 62 (pM 7) <|
 aX 63 (pM 10) <|
 aX 64 (pK c false 14 [62, 63]) <|
 aX 10 (pM 64) <|
 aXZ
noncomputable def f4_r18 (c : CallF) : RF := rg [1, 4, 5, 7, 10, 11] <| aX 11 (pM (cn (.int .i64 1))) <|
 aXZ
noncomputable def f4_r19 (c : CallF) : RF := rg [1, 4, 5, 7, 10, 11] <| aX 65 (pM 7) <|
 aX 66 (pM 11) <|
 aX 67 (pK c false 15 [65, 66]) <|
 aX 11 (pM 67) <|
 aXZ
noncomputable def f4_r20 (c : CallF) : RF := rg [1, 4, 5, 7, 10, 11, 69] <| aX 68 (pM 11) <|
 aX 69 (pB .lss 3 68 (cn (.int .i64 0))) <|
 aXZ
noncomputable def f4_r21 (c : CallF) : RF := rg [2] <| aX 2 (pM (cn (.bool false))) <|
 aXZ
noncomputable def f4_r22 (c : CallF) : RF := rg [1, 4, 5, 7, 10, 72] <| aX 70 (pM 11) <|
 aX 71 (pM 10) <|
 aX 72 (pB .neq 3 70 71) <|
 aXZ
noncomputable def f4_r23 (c : CallF) : RF := rg [2] <| aX 2 (pM (cn (.bool false))) <|
 aXZ
noncomputable def f4_r24 (c : CallF) : RF := rg [4, 5, 7, 10, 12, 13] <| aX 74 (pL true 20 1) <|
 aX 75 (pK c false 7 [74]) <|
 aX 76 (pK c false 11 [75]) <|
 aX 73 (pM 76) <|
 aX 77 (pE 0 73) <|
 aX 78 (pE 1 73) <|
 aX 12 (pM 77) <|
 aX 13 (pM 78) <|
 aXZ
noncomputable def f4_r25 (c : CallF) : RF := rg [7, 10, 87] <| aX 79 (pM 12) <|
 aX 80 (pM 4) <|
 aX 81 (pK c false 12 [79, 80]) <|
 aX 82 (pU .not 81) <|
 aX 83 (pM 82) <|
 aX 84 (pG 83 false (pM 13)) <|
 aX 85 (pG 83 false (pM 5)) <|
 aX 86 (pG 83 false (pB .neq 2 84 85)) <|
 aX 87 (pP 83 (cn (.bool true)) 86) <|
 aXZ
noncomputable def f4_r26 (c : CallF) : RF := rg [2] <| aX 2 (pM (cn (.bool false))) <|
 aXZ
noncomputable def f4_r27 (c : CallF) : RF := rg [7, 10, 11] <| aX 11 (pM (cn (.int .i64 1))) <|
 aXZ
noncomputable def f4_r28 (c : CallF) : RF := rg [10, 11] <| aX 88 (pM 7) <|
 aX 89 (pM 11) <|
 aX 90 (pK c false 15 [88, 89]) <|
 aX 11 (pM 90) <|
 aXZ
noncomputable def f4_r29 (c : CallF) : RF := rg [10, 11, 92] <| aX 91 (pM 11) <|
 aX 92 (pB .lss 3 91 (cn (.int .i64 0))) <|
 aXZ
noncomputable def f4_r30 (c : CallF) : RF := rg [2] <| aX 2 (pM (cn (.bool false))) <|
 aXZ
noncomputable def f4_r31 (c : CallF) : RF := rg [95] <| aX 93 (pM 11) <|
 aX 94 (pM 10) <|
 aX 95 (pB .neq 3 93 94) <|
 aXZ
noncomputable def f4_r32 (c : CallF) : RF := rg [2] <| aX 2 (pM (cn (.bool false))) <|
 aXZ
noncomputable def f4_r33 (c : CallF) : RF := rg [2] <| aX 2 (pM (cn (.bool true))) <|
 aXZ
noncomputable def f4 (c : CallF) (k : Nat) : St :=
 (bSeq (bReg (f4_r0 c))
 (bSeq (bReg (f4_r1 c))
 (bSeq (bReg (f4_r2 c))
 (bSeq (bSeq (bReg (f4_r3 c))
 (bCond (.tmp 18) (bSeq (bReg (f4_r4 c))
 (bEx .ret)) (bEx .nrm)))
 (bSeq (bReg (f4_r5 c))
 (bSeq (bReg (f4_r6 c))
 (bSeq (bReg (f4_r7 c))
 (bSeq (bSeq (bReg (f4_r8 c))
 (bCond (.tmp 40) (bSeq (bReg (f4_r9 c))
 (bEx .ret)) (bEx .nrm)))
 (bSeq (bSeq (bReg (f4_r10 c))
 (bCond (.tmp 45) (bSeq (bReg (f4_r11 c))
 (bEx .ret)) (bEx .nrm)))
 (bSeq (bReg (f4_r12 c))
 (bSeq (bReg (f4_r13 c))
 (bSeq (bSeq (bReg (f4_r14 c))
 (bCond (.tmp 61) (bSeq (bReg (f4_r15 c))
 (bEx .ret)) (bEx .nrm)))
 (bSeq (bReg (f4_r16 c))
 (bSeq (bReg (f4_r17 c))
 (bSeq (bReg (f4_r18 c))
 (bSeq (bReg (f4_r19 c))
 (bSeq (bSeq (bReg (f4_r20 c))
 (bCond (.tmp 69) (bSeq (bReg (f4_r21 c))
 (bEx .ret)) (bEx .nrm)))
 (bSeq (bSeq (bReg (f4_r22 c))
 (bCond (.tmp 72) (bSeq (bReg (f4_r23 c))
 (bEx .ret)) (bEx .nrm)))
 (bSeq (bReg (f4_r24 c))
 (bSeq (bSeq (bReg (f4_r25 c))
 (bCond (.tmp 87) (bSeq (bReg (f4_r26 c))
 (bEx .ret)) (bEx .nrm)))
 (bSeq (bReg (f4_r27 c))
 (bSeq (bReg (f4_r28 c))
 (bSeq (bSeq (bReg (f4_r29 c))
 (bCond (.tmp 92) (bSeq (bReg (f4_r30 c))
 (bEx .ret)) (bEx .nrm)))
 (bSeq (bSeq (bReg (f4_r31 c))
 (bCond (.tmp 95) (bSeq (bReg (f4_r32 c))
 (bEx .ret)) (bEx .nrm)))
 (bSeq (bReg (f4_r33 c))
 (bEx .ret))))))))))))))))))))))))))
theorem f4_eq (c : CallF) (k : Nat) : exec cx c 96 f4_an k (Try.f4.body.getD .skip) = f4 c k := by kernel_rfl
/-! ### f5: loop.example/g01263/laws.szChain -/
def f5_an : Ann := ⟨[(0, r0 [1, 2]), (1, r0 [1, 2]), (2, r0 [1, 2, 11]), (3, r0 [4]), (4, r0 [1, 2]), (5, r0 [1, 2, 17]), (6, r0 [4]), (7, r0 [1]), (8, r0 [1, 23]), (9, r0 [4]), (10, r0 [4])], []⟩
noncomputable def f5_r0 (c : CallF) : RF := rg [1, 2] <| aX 2 (pBox 20 0) <|
 aX 4 (pM (cn (.int .i64 0))) <|
 aXZ
noncomputable def f5_r1 (c : CallF) : RF := rg [1, 2] <| aX 5 (pM 1) <|
 aX 6 (pF 0 1 2) <|
 aX 7 (pL false 1 6) <|
 aX 8 (pLen 9 7) <|
 aX 9 (pB .sub 3 5 8) <|
 aX 1 (pM 9) <|
 aXZ
noncomputable def f5_r2 (c : CallF) : RF := rg [1, 2, 11] <| aX 10 (pM 1) <|
 aX 11 (pB .lss 3 10 (cn (.int .i64 0))) <|
 aXZ
noncomputable def f5_r3 (c : CallF) : RF := rg [4] <| aX 4 (pM (cn (.int .i64 (-1)))) <|
 aXZ
noncomputable def f5_r4 (c : CallF) : RF := rg [1, 2] <| aX 12 (pF 1 18 2) <|
 aX 13 (pL true 18 12) <|
 aX 14 (pM 1) <|
 aX 15 (pK c false 16 [13, 14]) <|
 aX 1 (pM 15) <|
 aXZ
noncomputable def f5_r5 (c : CallF) : RF := rg [1, 2, 17] <| aX 16 (pM 1) <|
 aX 17 (pB .lss 3 16 (cn (.int .i64 0))) <|
 aXZ
noncomputable def f5_r6 (c : CallF) : RF := rg [4] <| aX 4 (pM (cn (.int .i64 (-1)))) <|
 aXZ
noncomputable def f5_r7 (c : CallF) : RF := rg [1] <| aX 18 (pF 19 1 2) <|
 aX 19 (pL false 1 18) <|
 aX 20 (pM 1) <|
 aX 21 (pK c false 17 [19, 20]) <|
 aX 1 (pM 21) <|
 aXZ
noncomputable def f5_r8 (c : CallF) : RF := rg [1, 23] <| aX 22 (pM 1) <|
 aX 23 (pB .lss 3 22 (cn (.int .i64 0))) <|
 aXZ
noncomputable def f5_r9 (c : CallF) : RF := rg [4] <| aX 4 (pM (cn (.int .i64 (-1)))) <|
 aXZ
noncomputable def f5_r10 (c : CallF) : RF := rg [4] <| aX 24 (pM 1) <|
 aX 4 (pM 24) <|
 aXZ
noncomputable def f5 (c : CallF) (k : Nat) : St :=
 (bSeq (bReg (f5_r0 c))
 (bSeq (bReg (f5_r1 c))
 (bSeq (bSeq (bReg (f5_r2 c))
 (bCond (.tmp 11) (bSeq (bReg (f5_r3 c))
 (bEx .ret)) (bEx .nrm)))
 (bSeq (bReg (f5_r4 c))
 (bSeq (bSeq (bReg (f5_r5 c))
 (bCond (.tmp 17) (bSeq (bReg (f5_r6 c))
 (bEx .ret)) (bEx .nrm)))
 (bSeq (bReg (f5_r7 c))
 (bSeq (bSeq (bReg (f5_r8 c))
 (bCond (.tmp 23) (bSeq (bReg (f5_r9 c))
 (bEx .ret)) (bEx .nrm)))
 (bSeq (bReg (f5_r10 c))
 (bEx .ret)))))))))
theorem f5_eq (c : CallF) (k : Nat) : exec cx c 25 f5_an k (Try.f5.body.getD .skip) = f5 c k := by kernel_rfl
/-! ### f7: loop.example/g01263/laws.toChain -/
def f7_an : Ann := ⟨[(0, r0 [1, 2]), (1, r0 [1, 2, 3]), (2, r0 [1, 2, 3]), (3, ⟨[4], [], [], [], [1, 2, 3]⟩), (4, ⟨[4], [], [], [], [2, 3]⟩), (5, ⟨[1], [], [], [], [2]⟩)], []⟩
noncomputable def f7_r0 (c : CallF) : RF := rg [1, 2] <| aX 1 (pBox 20 0) <|
 aX 2 (pAl 39 20) <|
 aXZ
noncomputable def f7_r1 (c : CallF) : RF := rg [1, 2, 3] <| aX 3 (pAl 39 20) <|
 aXZ
noncomputable def f7_r2 (c : CallF) : RF := rg [1, 2, 3] <| aX 4 (pF 0 1 1) <|
 aX 5 (pL false 1 4) <|
 aX 6 (pF 0 1 3) <|
 aX0 (pS 1 6 5) <|
 aXZ
noncomputable def f7_r3 (c : CallF) : RF := rg [1, 2, 3] <| aX 7 (pF 1 18 1) <|
 aX 8 (pL true 18 7) <|
 aX 9 (pK c false 19 [8]) <|
 aX 10 (pF 1 18 3) <|
 aX0 (pSK 18 10 9) <|
 aXZ
noncomputable def f7_r4 (c : CallF) : RF := rg [2, 3] <| aX 11 (pF 19 1 1) <|
 aX 12 (pL false 1 11) <|
 aX 13 (pK c false 20 [12]) <|
 aX 14 (pF 19 1 3) <|
 aX0 (pSK 1 14 13) <|
 aXZ
noncomputable def f7_r5 (c : CallF) : RF := rg [2] <| aX 15 (pL true 20 3) <|
 aX0 (pSK 20 2 15) <|
 aXZ
noncomputable def f7 (c : CallF) (k : Nat) : St :=
 (bSeq (bReg (f7_r0 c))
 (bSeq (bReg (f7_r1 c))
 (bSeq (bReg (f7_r2 c))
 (bSeq (bReg (f7_r3 c))
 (bSeq (bReg (f7_r4 c))
 (bSeq (bReg (f7_r5 c))
 (bEx .ret)))))))
theorem f7_eq (c : CallF) (k : Nat) : exec cx c 16 f7_an k (Try.f7.body.getD .skip) = f7 c k := by kernel_rfl
/-! ### f9: loop.example/g01263/laws.eqChain -/
def f9_an : Ann := ⟨[(0, r0 [2, 3]), (1, r0 [2, 3, 9]), (2, r0 [4]), (3, r0 [2, 3, 15]), (4, r0 [4]), (5, r0 [21]), (6, r0 [4]), (7, r0 [4])], []⟩
noncomputable def f9_r0 (c : CallF) : RF := rg [2, 3] <| aX 2 (pBox 20 0) <|
 aX 3 (pBox 20 1) <|
 aX 4 (pM (cn (.bool false))) <|
 aXZ
noncomputable def f9_r1 (c : CallF) : RF := rg [2, 3, 9] <| aX 5 (pF 0 1 2) <|
 aX 6 (pL false 1 5) <|
 aX 7 (pF 0 1 3) <|
 aX 8 (pL false 1 7) <|
 aX 9 (pB .neq 9 6 8) <|
 aXZ
noncomputable def f9_r2 (c : CallF) : RF := rg [4] <| aX 4 (pM (cn (.bool false))) <|
 aXZ
noncomputable def f9_r3 (c : CallF) : RF := rg [2, 3, 15] <| aX 10 (pF 1 18 2) <|
 aX 11 (pL true 18 10) <|
 aX 12 (pF 1 18 3) <|
 aX 13 (pL true 18 12) <|
 aX 14 (pK c false 22 [11, 13]) <|
 aX 15 (pU .not 14) <|
 aXZ
noncomputable def f9_r4 (c : CallF) : RF := rg [4] <| aX 4 (pM (cn (.bool false))) <|
 aXZ
noncomputable def f9_r5 (c : CallF) : RF := rg [21] <| aX 16 (pF 19 1 2) <|
 aX 17 (pL false 1 16) <|
 aX 18 (pF 19 1 3) <|
 aX 19 (pL false 1 18) <|
 aX 20 (pK c false 23 [17, 19]) <|
 aX 21 (pU .not 20) <|
 aXZ
noncomputable def f9_r6 (c : CallF) : RF := rg [4] <| aX 4 (pM (cn (.bool false))) <|
 aXZ
noncomputable def f9_r7 (c : CallF) : RF := rg [4] <| aX 4 (pM (cn (.bool true))) <|
 aXZ
noncomputable def f9 (c : CallF) (k : Nat) : St :=
 (bSeq (bReg (f9_r0 c))
 (bSeq (bSeq (bReg (f9_r1 c))
 (bCond (.tmp 9) (bSeq (bReg (f9_r2 c))
 (bEx .ret)) (bEx .nrm)))
 (bSeq (bSeq (bReg (f9_r3 c))
 (bCond (.tmp 15) (bSeq (bReg (f9_r4 c))
 (bEx .ret)) (bEx .nrm)))
 (bSeq (bSeq (bReg (f9_r5 c))
 (bCond (.tmp 21) (bSeq (bReg (f9_r6 c))
 (bEx .ret)) (bEx .nrm)))
 (bSeq (bReg (f9_r7 c))
 (bEx .ret))))))
theorem f9_eq (c : CallF) (k : Nat) : exec cx c 22 f9_an k (Try.f9.body.getD .skip) = f9 c k := by kernel_rfl
/-! ### f10: loop.example/g01263/spec.ShortWay -/
def f10_an : Ann := ⟨[(0, r0 [1]), (1, r0 [1, 8]), (2, r0 [2, 3]), (3, ⟨[2], [], [], [], [1, 4]⟩), (4, r0 [1, 4, 5]), (5, r0 [1, 4, 5, 17]), (6, r0 [1, 4, 5]), (7, r0 [1, 4, 5, 6]), (8, r0 [1, 4, 5, 6, 36]), (9, r0 [1, 4, 5, 6]), (10, r0 [1, 4, 5, 6, 42]), (11, r0 [1, 4, 5]), (12, ⟨[8], [], [], [], [1, 4, 5]⟩), (13, r0 [2, 3])], [(8, [1, 4, 5, 6]), (5, [1, 4, 5])]⟩
noncomputable def f10_r0 (c : CallF) : RF := rg [1] <| aX 1 (pBox 20 0) <|
 aX 2 (pM (cn .nils)) <|
 aX 3 (pM (cn (.int .i64 0))) <|
 aXZ
noncomputable def f10_r1 (c : CallF) : RF := rg [1, 8] <| aX 7 (pK c false 24 [1]) <|
 aX 8 (pU .not 7) <|
 aXZ
noncomputable def f10_r2 (c : CallF) : RF := rg [2, 3] <| aX 9 (fun n e M => keep (aLitI 9 1 [] M)) <|
 aX 2 (pM 9) <|
 aX 3 (pM (cn (.int .i64 1))) <|
 aXZ
noncomputable def f10_r3 (c : CallF) : RF := rg [1, 4] <| aX 10 (pF 0 1 1) <|
 aX 11 (pL false 1 10) <|
 aX 12 (fun n e M => aLitO n 9 1 [(eget e 11)] M) <|
 aX 4 (pM 12) <|
 aXZ
noncomputable def f10_r4 (c : CallF) : RF := rg [1, 4, 5] <| aX 5 (pM (cn (.int .i64 0))) <|
 aXZ
noncomputable def f10_r5 (c : CallF) : RF := rg [1, 4, 5, 17] <| aX 13 (pM 5) <|
 aX 14 (pF 19 1 1) <|
 aX 15 (pL false 1 14) <|
 aX 16 (pLen 37 15) <|
 aX 17 (pB .lss 3 13 16) <|
 aXZ
noncomputable def f10_r6 (c : CallF) : RF := rg [1, 4, 5] <| aX 18 (pM 5) <|
 aX 19 (pB .add 3 18 (cn (.int .i64 1))) <|
 aX 5 (pM 19) <|
 aXZ
noncomputable def f10_r7 (c : CallF) : RF := rg [1, 4, 5, 6] <| aX 6 (pM (cn (.int .i64 0))) <|
 aXZ
noncomputable def f10_r8 (c : CallF) : RF := rgD [1, 4, 5, 6, 36] (aY 20 (pM 6) <|
 aY 21 (pM 4) <|
 aY 22 (pLen 43 21) <|
 aY 23 (pB .lss 3 20 22) <|
 aY 24 (pM 23) <|
 aY 25 (pG 24 true (pM 4)) <|
 aY 26 (pG 24 true (pM 6)) <|
 aY 27 (pG 24 true (pI 1 25 26)) <|
 aY 28 (pG 24 true (pL false 1 27)) <|
 aY 29 (pG 24 true (pF 19 1 1)) <|
 aY 30 (pG 24 true (pL false 1 29)) <|
 aY 31 (pG 24 true (pM 5)) <|
 aY 32 (pG 24 true (pI 2 30 31)) <|
 aY 33 (pG 24 true (pF 0 1 32)) <|
 aY 34 (pG 24 true (pL false 1 33)) <|
 aY 35 (pG 24 true (pB .neq 9 28 34)) <|
 aY 36 (pP 24 35 (cn (.bool false))) <|
 aYZ)
 (aXZ)
noncomputable def f10_r9 (c : CallF) : RF := rg [1, 4, 5, 6] <| aX 37 (pM 6) <|
 aX 38 (pB .add 3 37 (cn (.int .i64 1))) <|
 aX 6 (pM 38) <|
 aXZ
noncomputable def f10_r10 (c : CallF) : RF := rg [1, 4, 5, 6, 42] <| aX 39 (pM 6) <|
 aX 40 (pM 4) <|
 aX 41 (pLen 43 40) <|
 aX 42 (pB .lss 3 39 41) <|
 aXZ
noncomputable def f10_r11 (c : CallF) : RF := rg [1, 4, 5] <| aX 43 (pM 4) <|
 aX 44 (pM 6) <|
 aX 45 (pB .add 3 44 (cn (.int .i64 1))) <|
 aX 46 (fun n e M => keep (aSlice 1 none (some (eget e 45)) (eget e 43) M)) <|
 aX 4 (pM 46) <|
 aXZ
noncomputable def f10_r12 (c : CallF) : RF := rg [1, 4, 5] <| aX 47 (pM 4) <|
 aX 48 (pF 19 1 1) <|
 aX 49 (pL false 1 48) <|
 aX 50 (pM 5) <|
 aX 51 (pI 2 49 50) <|
 aX 52 (pF 0 1 51) <|
 aX 53 (pL false 1 52) <|
 aX 54 (fun n e M => keep (aLitI 9 1 [(eget e 53)] M)) <|
 aX 55 (fun n e M => aAppO n 9 1 16 (eget e 47) (eget e 54) M) <|
 aX 4 (pM 55) <|
 aXZ
noncomputable def f10_r13 (c : CallF) : RF := rg [2, 3] <| aX 56 (fun n e M => keep (aLitI 9 1 [] M)) <|
 aX 57 (pM 4) <|
 aX 58 (fun n e M => aAppI 9 1 16 (eget e 56) (eget e 57) M) <|
 aX 2 (pM 58) <|
 aX 3 (pM (cn (.int .i64 0))) <|
 aXZ
noncomputable def f10_l8 (c : CallF) (k : Nat) : St :=
 (bSeq (bSeq (bReg (f10_r8 c))
 (bCond (.tmp 36) (bEx .nrm) (bEx (.ext 2))))
 (bBlock 3 (bReg (f10_r9 c))))
noncomputable def f10_l5 (c : CallF) (k : Nat) : St :=
 (bSeq (bSeq (bReg (f10_r5 c))
 (bCond (.tmp 17) (bEx .nrm) (bEx (.ext 0))))
 (bSeq (bBlock 1 (bSeq (bReg (f10_r7 c))
 (bSeq (bBlock 2 (bLoop [1, 4, 5, 6] (f10_l8 c k) k))
 (bSeq (bReg (f10_r10 c))
 (bCond (.tmp 42) (bReg (f10_r11 c)) (bReg (f10_r12 c)))))))
 (bReg (f10_r6 c))))
noncomputable def f10 (c : CallF) (k : Nat) : St :=
 (bSeq (bReg (f10_r0 c))
 (bSeq (bSeq (bReg (f10_r1 c))
 (bCond (.tmp 8) (bSeq (bReg (f10_r2 c))
 (bEx .ret)) (bEx .nrm)))
 (bSeq (bReg (f10_r3 c))
 (bSeq (bSeq (bReg (f10_r4 c))
 (bBlock 0 (bLoop [1, 4, 5] (f10_l5 c k) k)))
 (bSeq (bReg (f10_r13 c))
 (bEx .ret))))))
theorem f10_eq (c : CallF) (k : Nat) : exec cx c 59 f10_an k (Try.f10.body.getD .skip) = f10 c k := by kernel_rfl
/-! ### f11: loop.example/g01263/impl.ShortWay -/
def f11_an : Ann := ⟨[(0, r0 [1]), (1, r0 [1, 10]), (2, r0 [2, 3]), (3, ⟨[2], [], [], [], [1, 4]⟩), (4, r0 [4, 15, 16, 17]), (5, r0 [4, 15, 16, 17, 18]), (6, r0 [4, 6, 15, 16, 17]), (7, r0 [4, 6, 7, 15, 16, 17]), (8, r0 [4, 6, 7, 15, 16, 17, 26]), (9, r0 [4, 15, 16, 17]), (10, ⟨[4], [], [], [], [4, 15, 16, 17]⟩), (11, r0 [4, 15, 16, 17]), (12, r0 [2, 3])], [(5, [4, 15, 16, 17])]⟩
noncomputable def f11_r0 (c : CallF) : RF := rg [1] <| aX 1 (pBox 20 0) <|
 aX 2 (pM (cn .nils)) <|
 aX 3 (pM (cn (.int .i64 0))) <|
 aXZ
noncomputable def f11_r1 (c : CallF) : RF := rg [1, 10] <| aX 8 (pL true 20 1) <|
 aX 9 (pK c false 25 [8]) <|
 aX 10 (pU .not 9) <|
 aXZ
noncomputable def f11_r2 (c : CallF) : RF := rg [2, 3] <| aX 2 (pM (cn .nils)) <|
 aX 3 (pM (cn (.int .i64 1))) <|
 aXZ
noncomputable def f11_r3 (c : CallF) : RF := rg [1, 4] <| aX 11 (pF 0 1 1) <|
 aX 12 (pL false 1 11) <|
 aX 13 (fun n e M => aLitO n 9 1 [(eget e 12)] M) <|
 aX 4 (pM 13) <|
 aXZ
noncomputable def f11_r4 (c : CallF) : RF := rg [4, 15, 16, 17] <| aX 14 (pF 19 1 1) <|
 aX 15 (pL false 1 14) <|
 aX 16 (pLen 37 15) <|
 aX 17 (pM (cn (.int .i64 0))) <|
 aXZ
noncomputable def f11_r5 (c : CallF) : RF := rg [4, 15, 16, 17, 18] <| aX 18 (pB .lss 3 17 16) <|
 aXZ
noncomputable def f11_r6 (c : CallF) : RF := rg [4, 6, 15, 16, 17] <| aX 19 (pI 2 15 17) <|
 aX 20 (pL true 2 19) <|
 aX 6 (pAl 57 2) <|
 aX0 (pS 2 6 20) <|
 aXZ
noncomputable def f11_r7 (c : CallF) : RF := rg [4, 6, 7, 15, 16, 17] <| aX 21 (pM 4) <|
 aX 22 (pF 0 1 6) <|
 aX 23 (pL false 1 22) <|
 aX 24 (pK c false 26 [21, 23]) <|
 aX 7 (pM 24) <|
 aXZ
noncomputable def f11_r8 (c : CallF) : RF := rg [4, 6, 7, 15, 16, 17, 26] <| aX 25 (pM 7) <|
 aX 26 (pB .geq 3 25 (cn (.int .i64 0))) <|
 aXZ
noncomputable def f11_r9 (c : CallF) : RF := rg [4, 15, 16, 17] <| aX 27 (pM 4) <|
 aX 28 (pM 7) <|
 aX 29 (pB .add 3 28 (cn (.int .i64 1))) <|
 aX 30 (fun n e M => keep (aSlice 1 none (some (eget e 29)) (eget e 27) M)) <|
 aX 4 (pM 30) <|
 aXZ
noncomputable def f11_r10 (c : CallF) : RF := rg [4, 15, 16, 17] <| aX 31 (pM 4) <|
 aX 32 (pF 0 1 6) <|
 aX 33 (pL false 1 32) <|
 aX 34 (fun n e M => keep (aLitI 9 1 [(eget e 33)] M)) <|
 aX 35 (fun n e M => aAppO n 9 1 16 (eget e 31) (eget e 34) M) <|
 aX 4 (pM 35) <|
 aXZ
noncomputable def f11_r11 (c : CallF) : RF := rg [4, 15, 16, 17] <| aX 36 (pB .add 3 17 (cn (.int .i64 1))) <|
 aX 17 (pM 36) <|
 aXZ
noncomputable def f11_r12 (c : CallF) : RF := rg [2, 3] <| aX 37 (pM 4) <|
 aX 2 (pM 37) <|
 aX 3 (pM (cn (.int .i64 0))) <|
 aXZ
noncomputable def f11_l5 (c : CallF) (k : Nat) : St :=
 (bSeq (bReg (f11_r5 c))
 (bSeq (bCond (.tmp 18) (bEx .nrm) (bEx (.ext 0)))
 (bSeq (bBlock 1 (bSeq (bReg (f11_r6 c))
 (bSeq (bReg (f11_r7 c))
 (bSeq (bReg (f11_r8 c))
 (bCond (.tmp 26) (bReg (f11_r9 c)) (bReg (f11_r10 c)))))))
 (bReg (f11_r11 c)))))
noncomputable def f11 (c : CallF) (k : Nat) : St :=
 (bSeq (bReg (f11_r0 c))
 (bSeq (bSeq (bReg (f11_r1 c))
 (bCond (.tmp 10) (bSeq (bReg (f11_r2 c))
 (bEx .ret)) (bEx .nrm)))
 (bSeq (bReg (f11_r3 c))
 (bSeq (bSeq (bReg (f11_r4 c))
 (bBlock 0 (bLoop [4, 15, 16, 17] (f11_l5 c k) k)))
 (bSeq (bReg (f11_r12 c))
 (bEx .ret))))))
theorem f11_eq (c : CallF) (k : Nat) : exec cx c 38 f11_an k (Try.f11.body.getD .skip) = f11 c k := by kernel_rfl
/-! ### f12: loop.example/g01263/laws.eqStringS -/
def f12_an : Ann := ⟨[(0, r0 [0, 1]), (1, r0 [0, 1, 10]), (2, r0 [4]), (3, r0 [0, 1, 5]), (4, r0 [0, 1, 5, 14]), (5, r0 [0, 1, 5]), (6, r0 [0, 1, 5, 25]), (7, r0 [4]), (8, r0 [4])], [(4, [0, 1, 5])]⟩
noncomputable def f12_r0 (c : CallF) : RF := rg [0, 1] <| aX 4 (pM (cn (.bool false))) <|
 aXZ
noncomputable def f12_r1 (c : CallF) : RF := rg [0, 1, 10] <| aX 6 (pM 0) <|
 aX 7 (pLen 43 6) <|
 aX 8 (pM 1) <|
 aX 9 (pLen 43 8) <|
 aX 10 (pB .neq 3 7 9) <|
 aXZ
noncomputable def f12_r2 (c : CallF) : RF := rg [4] <| aX 4 (pM (cn (.bool false))) <|
 aXZ
noncomputable def f12_r3 (c : CallF) : RF := rg [0, 1, 5] <| aX 5 (pM (cn (.int .i64 0))) <|
 aXZ
noncomputable def f12_r4 (c : CallF) : RF := rg [0, 1, 5, 14] <| aX 11 (pM 5) <|
 aX 12 (pM 0) <|
 aX 13 (pLen 43 12) <|
 aX 14 (pB .lss 3 11 13) <|
 aXZ
noncomputable def f12_r5 (c : CallF) : RF := rg [0, 1, 5] <| aX 15 (pM 5) <|
 aX 16 (pB .add 3 15 (cn (.int .i64 1))) <|
 aX 5 (pM 16) <|
 aXZ
noncomputable def f12_r6 (c : CallF) : RF := rgD [0, 1, 5, 25] (aY 17 (pM 0) <|
 aY 18 (pM 5) <|
 aY 19 (pI 1 17 18) <|
 aY 20 (pL false 1 19) <|
 aY 21 (pM 1) <|
 aY 22 (pM 5) <|
 aY 23 (pI 1 21 22) <|
 aY 24 (pL false 1 23) <|
 aY 25 (pB .neq 9 20 24) <|
 aYZ)
 (aXZ)
noncomputable def f12_r7 (c : CallF) : RF := rg [4] <| aX 4 (pM (cn (.bool false))) <|
 aXZ
noncomputable def f12_r8 (c : CallF) : RF := rg [4] <| aX 4 (pM (cn (.bool true))) <|
 aXZ
noncomputable def f12_l4 (c : CallF) (k : Nat) : St :=
 (bSeq (bSeq (bReg (f12_r4 c))
 (bCond (.tmp 14) (bEx .nrm) (bEx (.ext 0))))
 (bSeq (bBlock 1 (bSeq (bReg (f12_r6 c))
 (bCond (.tmp 25) (bSeq (bReg (f12_r7 c))
 (bEx .ret)) (bEx .nrm))))
 (bReg (f12_r5 c))))
noncomputable def f12 (c : CallF) (k : Nat) : St :=
 (bSeq (bReg (f12_r0 c))
 (bSeq (bSeq (bReg (f12_r1 c))
 (bCond (.tmp 10) (bSeq (bReg (f12_r2 c))
 (bEx .ret)) (bEx .nrm)))
 (bSeq (bSeq (bReg (f12_r3 c))
 (bBlock 0 (bLoop [0, 1, 5] (f12_l4 c k) k)))
 (bSeq (bReg (f12_r8 c))
 (bEx .ret)))))
theorem f12_eq (c : CallF) (k : Nat) : exec cx c 26 f12_an k (Try.f12.body.getD .skip) = f12 c k := by kernel_rfl
/-! ### f13: loop.example/g01263/laws.markChain -/
def f13_an : Ann := ⟨[(0, ⟨[0], [], [], [], [1, 2]⟩), (1, r0 [1, 2]), (2, r0 [1]), (3, r0 [4])], []⟩
noncomputable def f13_r0 (c : CallF) : RF := rg [1, 2] <| aX 2 (fun n e M => aBoxO n 39 20 (eget e 0) M) <|
 aX 4 (pM (cn (.int .i64 0))) <|
 aXZ
noncomputable def f13_r1 (c : CallF) : RF := rg [1, 2] <| aX 5 (pF 1 18 2) <|
 aX 6 (pL true 18 5) <|
 aX 7 (pM 1) <|
 aX 8 (pK c false 27 [6, 7]) <|
 aX 1 (pM 8) <|
 aXZ
noncomputable def f13_r2 (c : CallF) : RF := rg [1] <| aX 9 (pF 19 1 2) <|
 aX 10 (pL false 1 9) <|
 aX 11 (pM 1) <|
 aX 12 (pK c false 28 [10, 11]) <|
 aX 1 (pM 12) <|
 aXZ
noncomputable def f13_r3 (c : CallF) : RF := rg [4] <| aX 13 (pM 1) <|
 aX 4 (pM 13) <|
 aXZ
noncomputable def f13 (c : CallF) (k : Nat) : St :=
 (bSeq (bReg (f13_r0 c))
 (bSeq (bReg (f13_r1 c))
 (bSeq (bReg (f13_r2 c))
 (bSeq (bReg (f13_r3 c))
 (bEx .ret)))))
theorem f13_eq (c : CallF) (k : Nat) : exec cx c 14 f13_an k (Try.f13.body.getD .skip) = f13 c k := by kernel_rfl
/-! ### f14: loop.example/g01263/laws.markStringS -/
def f14_an : Ann := ⟨[(0, r0 [0, 1]), (1, r0 [0, 1, 5]), (2, r0 [0, 1, 5, 9]), (3, r0 [0, 1, 5]), (4, r0 [0, 1, 5]), (5, r0 [0, 1, 5]), (6, r0 [4])], [(2, [0, 1, 5])]⟩
noncomputable def f14_r0 (c : CallF) : RF := rg [0, 1] <| aX 4 (pM (cn (.int .i64 0))) <|
 aXZ
noncomputable def f14_r1 (c : CallF) : RF := rg [0, 1, 5] <| aX 5 (pM (cn (.int .i64 0))) <|
 aXZ
noncomputable def f14_r2 (c : CallF) : RF := rg [0, 1, 5, 9] <| aX 6 (pM 5) <|
 aX 7 (pM 0) <|
 aX 8 (pLen 43 7) <|
 aX 9 (pB .lss 3 6 8) <|
 aXZ
noncomputable def f14_r3 (c : CallF) : RF := rg [0, 1, 5] <| aX 10 (pM 5) <|
 aX 11 (pB .add 3 10 (cn (.int .i64 1))) <|
 aX 5 (pM 11) <|
 aXZ
noncomputable def f14_r4 (c : CallF) : RF := rg [0, 1, 5] <| aX 12 (pM 0) <|
 aX 13 (pM 5) <|
 aX 14 (pM 1) <|
 aX 15 (pK c false 29 [14]) <|
 aX 16 (pI 1 12 13) <|
 aX0 (pS 1 16 15) <|
 aXZ
noncomputable def f14_r5 (c : CallF) : RF := rg [0, 1, 5] <| aX 17 (pM 1) <|
 aX 18 (pB .add 3 17 (cn (.int .i64 1))) <|
 aX 1 (pM 18) <|
 aXZ
noncomputable def f14_r6 (c : CallF) : RF := rg [4] <| aX 19 (pM 1) <|
 aX 4 (pM 19) <|
 aXZ
noncomputable def f14_l2 (c : CallF) (k : Nat) : St :=
 (bSeq (bSeq (bReg (f14_r2 c))
 (bCond (.tmp 9) (bEx .nrm) (bEx (.ext 0))))
 (bSeq (bBlock 1 (bSeq (bReg (f14_r4 c))
 (bReg (f14_r5 c))))
 (bReg (f14_r3 c))))
noncomputable def f14 (c : CallF) (k : Nat) : St :=
 (bSeq (bReg (f14_r0 c))
 (bSeq (bSeq (bReg (f14_r1 c))
 (bBlock 0 (bLoop [0, 1, 5] (f14_l2 c k) k)))
 (bSeq (bReg (f14_r6 c))
 (bEx .ret))))
theorem f14_eq (c : CallF) (k : Nat) : exec cx c 20 f14_an k (Try.f14.body.getD .skip) = f14 c k := by kernel_rfl
/-! ### f15: loop.example/g01263/laws.heldStringS -/
def f15_an : Ann := ⟨[(0, r0 [0, 1]), (1, r0 [0, 1, 5]), (2, r0 [0, 1, 5, 9]), (3, r0 [0, 1, 5]), (4, r0 [0, 1, 5, 18]), (5, r0 [4]), (6, r0 [0, 1, 5]), (7, r0 [4])], [(2, [0, 1, 5])]⟩
noncomputable def f15_r0 (c : CallF) : RF := rg [0, 1] <| aX 4 (pM (cn (.int .i64 0))) <|
 aXZ
noncomputable def f15_r1 (c : CallF) : RF := rg [0, 1, 5] <| aX 5 (pM (cn (.int .i64 0))) <|
 aXZ
noncomputable def f15_r2 (c : CallF) : RF := rg [0, 1, 5, 9] <| aX 6 (pM 5) <|
 aX 7 (pM 0) <|
 aX 8 (pLen 43 7) <|
 aX 9 (pB .lss 3 6 8) <|
 aXZ
noncomputable def f15_r3 (c : CallF) : RF := rg [0, 1, 5] <| aX 10 (pM 5) <|
 aX 11 (pB .add 3 10 (cn (.int .i64 1))) <|
 aX 5 (pM 11) <|
 aXZ
noncomputable def f15_r4 (c : CallF) : RF := rgD [0, 1, 5, 18] (aY 12 (pM 0) <|
 aY 13 (pM 5) <|
 aY 14 (pI 1 12 13) <|
 aY 15 (pL false 1 14) <|
 aY 16 (pM 1) <|
 aY 17 (pK c false 29 [16]) <|
 aY 18 (pB .neq 9 15 17) <|
 aYZ)
 (aXZ)
noncomputable def f15_r5 (c : CallF) : RF := rg [4] <| aX 4 (pM (cn (.int .i64 (-1)))) <|
 aXZ
noncomputable def f15_r6 (c : CallF) : RF := rg [0, 1, 5] <| aX 19 (pM 1) <|
 aX 20 (pB .add 3 19 (cn (.int .i64 1))) <|
 aX 1 (pM 20) <|
 aXZ
noncomputable def f15_r7 (c : CallF) : RF := rg [4] <| aX 21 (pM 1) <|
 aX 4 (pM 21) <|
 aXZ
noncomputable def f15_l2 (c : CallF) (k : Nat) : St :=
 (bSeq (bSeq (bReg (f15_r2 c))
 (bCond (.tmp 9) (bEx .nrm) (bEx (.ext 0))))
 (bSeq (bBlock 1 (bSeq (bSeq (bReg (f15_r4 c))
 (bCond (.tmp 18) (bSeq (bReg (f15_r5 c))
 (bEx .ret)) (bEx .nrm)))
 (bReg (f15_r6 c))))
 (bReg (f15_r3 c))))
noncomputable def f15 (c : CallF) (k : Nat) : St :=
 (bSeq (bReg (f15_r0 c))
 (bSeq (bSeq (bReg (f15_r1 c))
 (bBlock 0 (bLoop [0, 1, 5] (f15_l2 c k) k)))
 (bSeq (bReg (f15_r7 c))
 (bEx .ret))))
theorem f15_eq (c : CallF) (k : Nat) : exec cx c 22 f15_an k (Try.f15.body.getD .skip) = f15 c k := by kernel_rfl
/-! ### f16: loop.example/g01263/laws.szHalf -/
def f16_an : Ann := ⟨[(0, r0 [1, 2]), (1, r0 [1]), (2, r0 [1, 10]), (3, r0 [4]), (4, r0 [4])], []⟩
noncomputable def f16_r0 (c : CallF) : RF := rg [1, 2] <| aX 2 (pBox 18 0) <|
 aX 4 (pM (cn (.int .i64 0))) <|
 aXZ
noncomputable def f16_r1 (c : CallF) : RF := rg [1] <| aX 5 (pF 1 1 2) <|
 aX 6 (pL false 1 5) <|
 aX 7 (pM 1) <|
 aX 8 (pK c false 30 [6, 7]) <|
 aX 1 (pM 8) <|
 aXZ
noncomputable def f16_r2 (c : CallF) : RF := rg [1, 10] <| aX 9 (pM 1) <|
 aX 10 (pB .lss 3 9 (cn (.int .i64 0))) <|
 aXZ
noncomputable def f16_r3 (c : CallF) : RF := rg [4] <| aX 4 (pM (cn (.int .i64 (-1)))) <|
 aXZ
noncomputable def f16_r4 (c : CallF) : RF := rg [4] <| aX 11 (pM 1) <|
 aX 4 (pM 11) <|
 aXZ
noncomputable def f16 (c : CallF) (k : Nat) : St :=
 (bSeq (bReg (f16_r0 c))
 (bSeq (bReg (f16_r1 c))
 (bSeq (bSeq (bReg (f16_r2 c))
 (bCond (.tmp 10) (bSeq (bReg (f16_r3 c))
 (bEx .ret)) (bEx .nrm)))
 (bSeq (bReg (f16_r4 c))
 (bEx .ret)))))
theorem f16_eq (c : CallF) (k : Nat) : exec cx c 12 f16_an k (Try.f16.body.getD .skip) = f16 c k := by kernel_rfl
/-! ### f17: loop.example/g01263/laws.szMarkS -/
def f17_an : Ann := ⟨[(0, r0 [0, 1]), (1, r0 [0, 1]), (2, r0 [0, 1, 11]), (3, r0 [4]), (4, r0 [0, 1, 5]), (5, r0 [0, 1, 5, 15]), (6, r0 [0, 1, 5]), (7, r0 [0, 1, 5]), (8, r0 [0, 1, 5, 25]), (9, r0 [4]), (10, r0 [4])], [(5, [0, 1, 5])]⟩
noncomputable def f17_r0 (c : CallF) : RF := rg [0, 1] <| aX 4 (pM (cn (.int .i64 0))) <|
 aXZ
noncomputable def f17_r1 (c : CallF) : RF := rg [0, 1] <| aX 6 (pM 1) <|
 aX 7 (pM 0) <|
 aX 8 (pLen 27 7) <|
 aX 9 (pB .sub 3 6 8) <|
 aX 1 (pM 9) <|
 aXZ
noncomputable def f17_r2 (c : CallF) : RF := rg [0, 1, 11] <| aX 10 (pM 1) <|
 aX 11 (pB .lss 3 10 (cn (.int .i64 0))) <|
 aXZ
noncomputable def f17_r3 (c : CallF) : RF := rg [4] <| aX 4 (pM (cn (.int .i64 (-1)))) <|
 aXZ
noncomputable def f17_r4 (c : CallF) : RF := rg [0, 1, 5] <| aX 5 (pM (cn (.int .i64 0))) <|
 aXZ
noncomputable def f17_r5 (c : CallF) : RF := rg [0, 1, 5, 15] <| aX 12 (pM 5) <|
 aX 13 (pM 0) <|
 aX 14 (pLen 27 13) <|
 aX 15 (pB .lss 3 12 14) <|
 aXZ
noncomputable def f17_r6 (c : CallF) : RF := rg [0, 1, 5] <| aX 16 (pM 5) <|
 aX 17 (pB .add 3 16 (cn (.int .i64 1))) <|
 aX 5 (pM 17) <|
 aXZ
noncomputable def f17_r7 (c : CallF) : RF := rg [0, 1, 5] <| aX 18 (pM 0) <|
 aX 19 (pM 5) <|
 aX 20 (pI 2 18 19) <|
 aX 21 (pL true 2 20) <|
 aX 22 (pM 1) <|
 aX 23 (pK c false 31 [21, 22]) <|
 aX 1 (pM 23) <|
 aXZ
noncomputable def f17_r8 (c : CallF) : RF := rg [0, 1, 5, 25] <| aX 24 (pM 1) <|
 aX 25 (pB .lss 3 24 (cn (.int .i64 0))) <|
 aXZ
noncomputable def f17_r9 (c : CallF) : RF := rg [4] <| aX 4 (pM (cn (.int .i64 (-1)))) <|
 aXZ
noncomputable def f17_r10 (c : CallF) : RF := rg [4] <| aX 26 (pM 1) <|
 aX 4 (pM 26) <|
 aXZ
noncomputable def f17_l5 (c : CallF) (k : Nat) : St :=
 (bSeq (bSeq (bReg (f17_r5 c))
 (bCond (.tmp 15) (bEx .nrm) (bEx (.ext 0))))
 (bSeq (bBlock 1 (bSeq (bReg (f17_r7 c))
 (bSeq (bReg (f17_r8 c))
 (bCond (.tmp 25) (bSeq (bReg (f17_r9 c))
 (bEx .ret)) (bEx .nrm)))))
 (bReg (f17_r6 c))))
noncomputable def f17 (c : CallF) (k : Nat) : St :=
 (bSeq (bReg (f17_r0 c))
 (bSeq (bReg (f17_r1 c))
 (bSeq (bSeq (bReg (f17_r2 c))
 (bCond (.tmp 11) (bSeq (bReg (f17_r3 c))
 (bEx .ret)) (bEx .nrm)))
 (bSeq (bSeq (bReg (f17_r4 c))
 (bBlock 0 (bLoop [0, 1, 5] (f17_l5 c k) k)))
 (bSeq (bReg (f17_r10 c))
 (bEx .ret))))))
theorem f17_eq (c : CallF) (k : Nat) : exec cx c 27 f17_an k (Try.f17.body.getD .skip) = f17 c k := by kernel_rfl
/-! ### f19: loop.example/g01263/laws.toHalf -/
def f19_an : Ann := ⟨[(0, r0 [1, 2]), (1, r0 [1, 2, 3]), (2, r0 [1, 2, 3]), (3, ⟨[4], [], [], [], [1, 2, 3]⟩), (4, r0 [2, 3]), (5, ⟨[1], [], [], [], [2]⟩)], []⟩
noncomputable def f19_r0 (c : CallF) : RF := rg [1, 2] <| aX 1 (pBox 18 0) <|
 aX 2 (pAl 36 18) <|
 aXZ
noncomputable def f19_r1 (c : CallF) : RF := rg [1, 2, 3] <| aX 3 (pAl 36 18) <|
 aXZ
noncomputable def f19_r2 (c : CallF) : RF := rg [1, 2, 3] <| aX 4 (pF 0 1 1) <|
 aX 5 (pL false 1 4) <|
 aX 6 (pF 0 1 3) <|
 aX0 (pS 1 6 5) <|
 aXZ
noncomputable def f19_r3 (c : CallF) : RF := rg [1, 2, 3] <| aX 7 (pF 1 1 1) <|
 aX 8 (pL false 1 7) <|
 aX 9 (pK c false 33 [8]) <|
 aX 10 (pF 1 1 3) <|
 aX0 (pSK 1 10 9) <|
 aXZ
noncomputable def f19_r4 (c : CallF) : RF := rg [2, 3] <| aX 11 (pF 2 16 1) <|
 aX 12 (pL true 16 11) <|
 aX 13 (pK c false 34 [12]) <|
 aX 14 (pF 2 16 3) <|
 aX0 (pS 16 14 13) <|
 aXZ
noncomputable def f19_r5 (c : CallF) : RF := rg [2] <| aX 15 (pL true 18 3) <|
 aX0 (pSK 18 2 15) <|
 aXZ
noncomputable def f19 (c : CallF) (k : Nat) : St :=
 (bSeq (bReg (f19_r0 c))
 (bSeq (bReg (f19_r1 c))
 (bSeq (bReg (f19_r2 c))
 (bSeq (bReg (f19_r3 c))
 (bSeq (bReg (f19_r4 c))
 (bSeq (bReg (f19_r5 c))
 (bEx .ret)))))))
theorem f19_eq (c : CallF) (k : Nat) : exec cx c 16 f19_an k (Try.f19.body.getD .skip) = f19 c k := by kernel_rfl
/-! ### f20: loop.example/g01263/laws.toMarkS -/
def f20_an : Ann := ⟨[(0, r0 [0]), (1, r0 [0, 3]), (2, r0 [0, 3, 4]), (3, r0 [0, 3, 4, 11]), (4, r0 [0, 3, 4]), (5, r0 [0, 3, 4]), (6, r0 [2])], [(3, [0, 3, 4])]⟩
noncomputable def f20_r0 (c : CallF) : RF := rg [0] <| aX 2 (pM (cn .nils)) <|
 aXZ
noncomputable def f20_r1 (c : CallF) : RF := rg [0, 3] <| aX 5 (pM 0) <|
 aX 6 (pLen 27 5) <|
 aX 7 (fun n e M => aMakeO n 57 2 24 (zeroOf cx.P 57) (eget e 6) (eget e 6)) <|
 aX 3 (pM 7) <|
 aXZ
noncomputable def f20_r2 (c : CallF) : RF := rg [0, 3, 4] <| aX 4 (pM (cn (.int .i64 0))) <|
 aXZ
noncomputable def f20_r3 (c : CallF) : RF := rg [0, 3, 4, 11] <| aX 8 (pM 4) <|
 aX 9 (pM 0) <|
 aX 10 (pLen 27 9) <|
 aX 11 (pB .lss 3 8 10) <|
 aXZ
noncomputable def f20_r4 (c : CallF) : RF := rg [0, 3, 4] <| aX 12 (pM 4) <|
 aX 13 (pB .add 3 12 (cn (.int .i64 1))) <|
 aX 4 (pM 13) <|
 aXZ
noncomputable def f20_r5 (c : CallF) : RF := rg [0, 3, 4] <| aX 14 (pM 3) <|
 aX 15 (pM 4) <|
 aX 16 (pM 0) <|
 aX 17 (pM 4) <|
 aX 18 (pI 2 16 17) <|
 aX 19 (pL true 2 18) <|
 aX 20 (pK c false 35 [19]) <|
 aX 21 (pI 2 14 15) <|
 aX0 (pS 2 21 20) <|
 aXZ
noncomputable def f20_r6 (c : CallF) : RF := rg [2] <| aX 22 (pM 3) <|
 aX 2 (pM 22) <|
 aXZ
noncomputable def f20_l3 (c : CallF) (k : Nat) : St :=
 (bSeq (bSeq (bReg (f20_r3 c))
 (bCond (.tmp 11) (bEx .nrm) (bEx (.ext 0))))
 (bSeq (bBlock 1 (bReg (f20_r5 c)))
 (bReg (f20_r4 c))))
noncomputable def f20 (c : CallF) (k : Nat) : St :=
 (bSeq (bReg (f20_r0 c))
 (bSeq (bReg (f20_r1 c))
 (bSeq (bSeq (bReg (f20_r2 c))
 (bBlock 0 (bLoop [0, 3, 4] (f20_l3 c k) k)))
 (bSeq (bReg (f20_r6 c))
 (bEx .ret)))))
theorem f20_eq (c : CallF) (k : Nat) : exec cx c 23 f20_an k (Try.f20.body.getD .skip) = f20 c k := by kernel_rfl
/-! ### f22: loop.example/g01263/laws.eqHalf -/
def f22_an : Ann := ⟨[(0, r0 [2, 3]), (1, r0 [2, 3, 9]), (2, r0 [4]), (3, r0 [2, 3, 15]), (4, r0 [4]), (5, r0 [21]), (6, r0 [4]), (7, r0 [4])], []⟩
noncomputable def f22_r0 (c : CallF) : RF := rg [2, 3] <| aX 2 (pBox 18 0) <|
 aX 3 (pBox 18 1) <|
 aX 4 (pM (cn (.bool false))) <|
 aXZ
noncomputable def f22_r1 (c : CallF) : RF := rg [2, 3, 9] <| aX 5 (pF 0 1 2) <|
 aX 6 (pL false 1 5) <|
 aX 7 (pF 0 1 3) <|
 aX 8 (pL false 1 7) <|
 aX 9 (pB .neq 4 6 8) <|
 aXZ
noncomputable def f22_r2 (c : CallF) : RF := rg [4] <| aX 4 (pM (cn (.bool false))) <|
 aXZ
noncomputable def f22_r3 (c : CallF) : RF := rg [2, 3, 15] <| aX 10 (pF 1 1 2) <|
 aX 11 (pL false 1 10) <|
 aX 12 (pF 1 1 3) <|
 aX 13 (pL false 1 12) <|
 aX 14 (pK c false 38 [11, 13]) <|
 aX 15 (pU .not 14) <|
 aXZ
noncomputable def f22_r4 (c : CallF) : RF := rg [4] <| aX 4 (pM (cn (.bool false))) <|
 aXZ
noncomputable def f22_r5 (c : CallF) : RF := rg [21] <| aX 16 (pF 2 16 2) <|
 aX 17 (pL true 16 16) <|
 aX 18 (pF 2 16 3) <|
 aX 19 (pL true 16 18) <|
 aX 20 (pK c false 39 [17, 19]) <|
 aX 21 (pU .not 20) <|
 aXZ
noncomputable def f22_r6 (c : CallF) : RF := rg [4] <| aX 4 (pM (cn (.bool false))) <|
 aXZ
noncomputable def f22_r7 (c : CallF) : RF := rg [4] <| aX 4 (pM (cn (.bool true))) <|
 aXZ
noncomputable def f22 (c : CallF) (k : Nat) : St :=
 (bSeq (bReg (f22_r0 c))
 (bSeq (bSeq (bReg (f22_r1 c))
 (bCond (.tmp 9) (bSeq (bReg (f22_r2 c))
 (bEx .ret)) (bEx .nrm)))
 (bSeq (bSeq (bReg (f22_r3 c))
 (bCond (.tmp 15) (bSeq (bReg (f22_r4 c))
 (bEx .ret)) (bEx .nrm)))
 (bSeq (bSeq (bReg (f22_r5 c))
 (bCond (.tmp 21) (bSeq (bReg (f22_r6 c))
 (bEx .ret)) (bEx .nrm)))
 (bSeq (bReg (f22_r7 c))
 (bEx .ret))))))
theorem f22_eq (c : CallF) (k : Nat) : exec cx c 22 f22_an k (Try.f22.body.getD .skip) = f22 c k := by kernel_rfl
/-! ### f23: loop.example/g01263/laws.eqMarkS -/
def f23_an : Ann := ⟨[(0, r0 [0, 1]), (1, r0 [0, 1, 10]), (2, r0 [4]), (3, r0 [0, 1, 5]), (4, r0 [0, 1, 5, 14]), (5, r0 [0, 1, 5]), (6, r0 [0, 1, 5, 26]), (7, r0 [4]), (8, r0 [4])], [(4, [0, 1, 5])]⟩
noncomputable def f23_r0 (c : CallF) : RF := rg [0, 1] <| aX 4 (pM (cn (.bool false))) <|
 aXZ
noncomputable def f23_r1 (c : CallF) : RF := rg [0, 1, 10] <| aX 6 (pM 0) <|
 aX 7 (pLen 37 6) <|
 aX 8 (pM 1) <|
 aX 9 (pLen 37 8) <|
 aX 10 (pB .neq 3 7 9) <|
 aXZ
noncomputable def f23_r2 (c : CallF) : RF := rg [4] <| aX 4 (pM (cn (.bool false))) <|
 aXZ
noncomputable def f23_r3 (c : CallF) : RF := rg [0, 1, 5] <| aX 5 (pM (cn (.int .i64 0))) <|
 aXZ
noncomputable def f23_r4 (c : CallF) : RF := rg [0, 1, 5, 14] <| aX 11 (pM 5) <|
 aX 12 (pM 0) <|
 aX 13 (pLen 37 12) <|
 aX 14 (pB .lss 3 11 13) <|
 aXZ
noncomputable def f23_r5 (c : CallF) : RF := rg [0, 1, 5] <| aX 15 (pM 5) <|
 aX 16 (pB .add 3 15 (cn (.int .i64 1))) <|
 aX 5 (pM 16) <|
 aXZ
noncomputable def f23_r6 (c : CallF) : RF := rgD [0, 1, 5, 26] (aY 17 (pM 0) <|
 aY 18 (pM 5) <|
 aY 19 (pI 2 17 18) <|
 aY 20 (pL true 2 19) <|
 aY 21 (pM 1) <|
 aY 22 (pM 5) <|
 aY 23 (pI 2 21 22) <|
 aY 24 (pL true 2 23) <|
 aY 25 (pK c false 40 [20, 24]) <|
 aY 26 (pU .not 25) <|
 aYZ)
 (aXZ)
noncomputable def f23_r7 (c : CallF) : RF := rg [4] <| aX 4 (pM (cn (.bool false))) <|
 aXZ
noncomputable def f23_r8 (c : CallF) : RF := rg [4] <| aX 4 (pM (cn (.bool true))) <|
 aXZ
noncomputable def f23_l4 (c : CallF) (k : Nat) : St :=
 (bSeq (bSeq (bReg (f23_r4 c))
 (bCond (.tmp 14) (bEx .nrm) (bEx (.ext 0))))
 (bSeq (bBlock 1 (bSeq (bReg (f23_r6 c))
 (bCond (.tmp 26) (bSeq (bReg (f23_r7 c))
 (bEx .ret)) (bEx .nrm))))
 (bReg (f23_r5 c))))
noncomputable def f23 (c : CallF) (k : Nat) : St :=
 (bSeq (bReg (f23_r0 c))
 (bSeq (bSeq (bReg (f23_r1 c))
 (bCond (.tmp 10) (bSeq (bReg (f23_r2 c))
 (bEx .ret)) (bEx .nrm)))
 (bSeq (bSeq (bReg (f23_r3 c))
 (bBlock 0 (bLoop [0, 1, 5] (f23_l4 c k) k)))
 (bSeq (bReg (f23_r8 c))
 (bEx .ret)))))
theorem f23_eq (c : CallF) (k : Nat) : exec cx c 27 f23_an k (Try.f23.body.getD .skip) = f23 c k := by kernel_rfl
/-! ### f24: loop.example/g01263/spec.l06Ok -/
def f24_an : Ann := ⟨[(0, r0 [0]), (1, r0 [0, 34]), (2, r0 [2]), (3, r0 [0, 3]), (4, r0 [0, 3, 4]), (5, r0 [0, 3, 4, 45]), (6, r0 [0, 3, 4]), (7, r0 [0, 4, 69]), (8, r0 [2]), (9, r0 [0, 3, 4]), (10, r0 [2])], [(5, [0, 3, 4])]⟩
noncomputable def f24_r0 (c : CallF) : RF := rg [0] <| aX 2 (pM (cn (.bool false))) <|
 aXZ
noncomputable def f24_r1 (c : CallF) : RF := rg [0, 34] <| aX 5 (pM 0) <|
 aX 6 (pN 5) <|
 aX 7 (pF 0 1 6) <|
 aX 8 (pL false 1 7) <|
 aX 9 (pK c false 41 [8]) <|
 aX 10 (pU .not 9) <|
 aX 11 (pM 10) <|
 aX 12 (pG 11 false (pM 0)) <|
 aX 13 (pG 11 false (pN 12)) <|
 aX 14 (pG 11 false (pF 1 18 13)) <|
 aX 15 (pG 11 false (pK c false 42 [14])) <|
 aX 16 (pG 11 false (pU .not 15)) <|
 aX 17 (pP 11 (cn (.bool true)) 16) <|
 aX 18 (pM 17) <|
 aX 19 (pG 18 false (pM 0)) <|
 aX 20 (pG 18 false (pN 19)) <|
 aX 21 (pG 18 false (pF 1 18 20)) <|
 aX 22 (pG 18 false (pF 0 1 21)) <|
 aX 23 (pG 18 false (pL false 1 22)) <|
 aX 24 (pG 18 false (pU .not 23)) <|
 aX 25 (pP 18 (cn (.bool true)) 24) <|
 aX 26 (pM 25) <|
 aX 27 (pG 26 false (pM 0)) <|
 aX 28 (pG 26 false (pN 27)) <|
 aX 29 (pG 26 false (pF 19 1 28)) <|
 aX 30 (pG 26 false (pL false 1 29)) <|
 aX 31 (pG 26 false (pLen 37 30)) <|
 aX 32 (pG 26 false (pK c false 43 [31, (cn (.int .i64 1)), (cn (.int .i64 30))])) <|
 aX 33 (pG 26 false (pU .not 32)) <|
 aX 34 (pP 26 (cn (.bool true)) 33) <|
 aXZ
noncomputable def f24_r2 (c : CallF) : RF := rg [2] <| aX 2 (pM (cn (.bool false))) <|
 aXZ
noncomputable def f24_r3 (c : CallF) : RF := rg [0, 3] <| aX 35 (pM 0) <|
 aX 36 (pN 35) <|
 aX 37 (pF 0 1 36) <|
 aX 38 (pL false 1 37) <|
 aX 3 (pM 38) <|
 aXZ
noncomputable def f24_r4 (c : CallF) : RF := rg [0, 3, 4] <| aX 4 (pM (cn (.int .i64 0))) <|
 aXZ
noncomputable def f24_r5 (c : CallF) : RF := rg [0, 3, 4, 45] <| aX 39 (pM 4) <|
 aX 40 (pM 0) <|
 aX 41 (pN 40) <|
 aX 42 (pF 19 1 41) <|
 aX 43 (pL false 1 42) <|
 aX 44 (pLen 37 43) <|
 aX 45 (pB .lss 3 39 44) <|
 aXZ
noncomputable def f24_r6 (c : CallF) : RF := rg [0, 3, 4] <| aX 46 (pM 4) <|
 aX 47 (pB .add 3 46 (cn (.int .i64 1))) <|
 aX 4 (pM 47) <|
 aXZ
noncomputable def f24_r7 (c : CallF) : RF := rg [0, 4, 69] <| aX 48 (pM 0) <|
 aX 49 (pN 48) <|
 aX 50 (pF 19 1 49) <|
 aX 51 (pL false 1 50) <|
 aX 52 (pM 4) <|
 aX 53 (pI 2 51 52) <|
 aX 54 (pF 0 1 53) <|
 aX 55 (pL false 1 54) <|
 aX 56 (pK c false 41 [55]) <|
 aX 57 (pU .not 56) <|
 aX 58 (pM 57) <|
 aX 59 (pG 58 false (pM 0)) <|
 aX 60 (pG 58 false (pN 59)) <|
 aX 61 (pG 58 false (pF 19 1 60)) <|
 aX 62 (pG 58 false (pL false 1 61)) <|
 aX 63 (pG 58 false (pM 4)) <|
 aX 64 (pG 58 false (pI 2 62 63)) <|
 aX 65 (pG 58 false (pF 0 1 64)) <|
 aX 66 (pG 58 false (pL false 1 65)) <|
 aX 67 (pG 58 false (pM 3)) <|
 aX 68 (pG 58 false (pB .eql 9 66 67)) <|
 aX 69 (pP 58 (cn (.bool true)) 68) <|
 aXZ
noncomputable def f24_r8 (c : CallF) : RF := rg [2] <| aX 2 (pM (cn (.bool false))) <|
 aXZ
noncomputable def f24_r9 (c : CallF) : RF := rg [0, 3, 4] <| aX 70 (pM 0) <|
 aX 71 (pN 70) <|
 aX 72 (pF 19 1 71) <|
 aX 73 (pL false 1 72) <|
 aX 74 (pM 4) <|
 aX 75 (pI 2 73 74) <|
 aX 76 (pF 0 1 75) <|
 aX 77 (pL false 1 76) <|
 aX 3 (pM 77) <|
 aXZ
noncomputable def f24_r10 (c : CallF) : RF := rg [2] <| aX 2 (pM (cn (.bool true))) <|
 aXZ
noncomputable def f24_l5 (c : CallF) (k : Nat) : St :=
 (bSeq (bSeq (bReg (f24_r5 c))
 (bCond (.tmp 45) (bEx .nrm) (bEx (.ext 0))))
 (bSeq (bBlock 1 (bSeq (bSeq (bReg (f24_r7 c))
 (bCond (.tmp 69) (bSeq (bReg (f24_r8 c))
 (bEx .ret)) (bEx .nrm)))
 (bReg (f24_r9 c))))
 (bReg (f24_r6 c))))
noncomputable def f24 (c : CallF) (k : Nat) : St :=
 (bSeq (bReg (f24_r0 c))
 (bSeq (bSeq (bReg (f24_r1 c))
 (bCond (.tmp 34) (bSeq (bReg (f24_r2 c))
 (bEx .ret)) (bEx .nrm)))
 (bSeq (bReg (f24_r3 c))
 (bSeq (bSeq (bReg (f24_r4 c))
 (bBlock 0 (bLoop [0, 3, 4] (f24_l5 c k) k)))
 (bSeq (bReg (f24_r10 c))
 (bEx .ret))))))
theorem f24_eq (c : CallF) (k : Nat) : exec cx c 78 f24_an k (Try.f24.body.getD .skip) = f24 c k := by kernel_rfl
/-! ### f25: loop.example/g01263/impl.ValidChain -/
def f25_an : Ann := ⟨[(0, r0 [1]), (1, r0 [1, 33]), (2, r0 [2]), (3, r0 [1, 3]), (4, r0 [3, 37, 38, 39]), (5, r0 [3, 37, 38, 39, 40]), (6, r0 [3, 5, 37, 38, 39]), (7, r0 [5, 37, 38, 39, 52]), (8, r0 [2]), (9, r0 [3, 37, 38, 39]), (10, r0 [3, 37, 38, 39]), (11, r0 [2])], [(5, [3, 37, 38, 39])]⟩
noncomputable def f25_r0 (c : CallF) : RF := rg [1] <| aX 1 (pBox 20 0) <|
 aX 2 (pM (cn (.bool false))) <|
 aXZ
noncomputable def f25_r1 (c : CallF) : RF := rg [1, 33] <| aX 6 (pF 0 1 1) <|
 aX 7 (pL false 1 6) <|
 aX 8 (pK c false 44 [7]) <|
 aX 9 (pU .not 8) <|
 aX 10 (pM 9) <|
 aX 11 (pG 10 false (pF 1 18 1)) <|
 aX 12 (pG 10 false (pL true 18 11)) <|
 aX 13 (pG 10 false (pK c false 45 [12])) <|
 aX 14 (pG 10 false (pU .not 13)) <|
 aX 15 (pP 10 (cn (.bool true)) 14) <|
 aX 16 (pM 15) <|
 aX 17 (pG 16 false (pF 1 18 1)) <|
 aX 18 (pG 16 false (pF 0 1 17)) <|
 aX 19 (pG 16 false (pL false 1 18)) <|
 aX 20 (pG 16 false (pU .not 19)) <|
 aX 21 (pP 16 (cn (.bool true)) 20) <|
 aX 22 (pM 21) <|
 aX 23 (pG 22 false (pF 19 1 1)) <|
 aX 24 (pG 22 false (pL false 1 23)) <|
 aX 25 (pG 22 false (pLen 37 24)) <|
 aX 26 (pG 22 false (pB .lss 3 25 (cn (.int .i64 1)))) <|
 aX 27 (pP 22 (cn (.bool true)) 26) <|
 aX 28 (pM 27) <|
 aX 29 (pG 28 false (pF 19 1 1)) <|
 aX 30 (pG 28 false (pL false 1 29)) <|
 aX 31 (pG 28 false (pLen 37 30)) <|
 aX 32 (pG 28 false (pB .gtr 3 31 (cn (.int .i64 30)))) <|
 aX 33 (pP 28 (cn (.bool true)) 32) <|
 aXZ
noncomputable def f25_r2 (c : CallF) : RF := rg [2] <| aX 2 (pM (cn (.bool false))) <|
 aXZ
noncomputable def f25_r3 (c : CallF) : RF := rg [1, 3] <| aX 34 (pF 0 1 1) <|
 aX 35 (pL false 1 34) <|
 aX 3 (pM 35) <|
 aXZ
noncomputable def f25_r4 (c : CallF) : RF := rg [3, 37, 38, 39] <| aX 36 (pF 19 1 1) <|
 aX 37 (pL false 1 36) <|
 aX 38 (pLen 37 37) <|
 aX 39 (pM (cn (.int .i64 0))) <|
 aXZ
noncomputable def f25_r5 (c : CallF) : RF := rg [3, 37, 38, 39, 40] <| aX 40 (pB .lss 3 39 38) <|
 aXZ
noncomputable def f25_r6 (c : CallF) : RF := rg [3, 5, 37, 38, 39] <| aX 41 (pI 2 37 39) <|
 aX 42 (pL true 2 41) <|
 aX 5 (pAl 57 2) <|
 aX0 (pS 2 5 42) <|
 aXZ
noncomputable def f25_r7 (c : CallF) : RF := rg [5, 37, 38, 39, 52] <| aX 43 (pF 0 1 5) <|
 aX 44 (pL false 1 43) <|
 aX 45 (pK c false 44 [44]) <|
 aX 46 (pU .not 45) <|
 aX 47 (pM 46) <|
 aX 48 (pG 47 false (pF 0 1 5)) <|
 aX 49 (pG 47 false (pL false 1 48)) <|
 aX 50 (pG 47 false (pM 3)) <|
 aX 51 (pG 47 false (pB .eql 9 49 50)) <|
 aX 52 (pP 47 (cn (.bool true)) 51) <|
 aXZ
noncomputable def f25_r8 (c : CallF) : RF := rg [2] <| aX 2 (pM (cn (.bool false))) <|
 aXZ
noncomputable def f25_r9 (c : CallF) : RF := rg [3, 37, 38, 39] <| aX 53 (pF 0 1 5) <|
 aX 54 (pL false 1 53) <|
 aX 3 (pM 54) <|
 aXZ
noncomputable def f25_r10 (c : CallF) : RF := rg [3, 37, 38, 39] <| aX 55 (pB .add 3 39 (cn (.int .i64 1))) <|
 aX 39 (pM 55) <|
 aXZ
noncomputable def f25_r11 (c : CallF) : RF := rg [2] <| aX 2 (pM (cn (.bool true))) <|
 aXZ
noncomputable def f25_l5 (c : CallF) (k : Nat) : St :=
 (bSeq (bReg (f25_r5 c))
 (bSeq (bCond (.tmp 40) (bEx .nrm) (bEx (.ext 0)))
 (bSeq (bBlock 1 (bSeq (bReg (f25_r6 c))
 (bSeq (bSeq (bReg (f25_r7 c))
 (bCond (.tmp 52) (bSeq (bReg (f25_r8 c))
 (bEx .ret)) (bEx .nrm)))
 (bReg (f25_r9 c)))))
 (bReg (f25_r10 c)))))
noncomputable def f25 (c : CallF) (k : Nat) : St :=
 (bSeq (bReg (f25_r0 c))
 (bSeq (bSeq (bReg (f25_r1 c))
 (bCond (.tmp 33) (bSeq (bReg (f25_r2 c))
 (bEx .ret)) (bEx .nrm)))
 (bSeq (bReg (f25_r3 c))
 (bSeq (bSeq (bReg (f25_r4 c))
 (bBlock 0 (bLoop [3, 37, 38, 39] (f25_l5 c k) k)))
 (bSeq (bReg (f25_r11 c))
 (bEx .ret))))))
theorem f25_eq (c : CallF) (k : Nat) : exec cx c 56 f25_an k (Try.f25.body.getD .skip) = f25 c k := by kernel_rfl
/-! ### f26: slices.Index[[]string,string] -/
def f26_an : Ann := ⟨[(0, r0 [0, 1]), (1, r0 [0, 1, 7, 8]), (2, r0 [0, 1, 7, 8, 9]), (3, r0 [0, 1, 5, 7, 8]), (4, r0 [0, 1, 5, 7, 8, 16]), (5, r0 [4]), (6, r0 [0, 1, 7, 8]), (7, r0 [4])], [(2, [0, 1, 7, 8])]⟩
noncomputable def f26_r0 (c : CallF) : RF := rg [0, 1] <| aX 4 (pM (cn (.int .i64 0))) <|
 aXZ
noncomputable def f26_r1 (c : CallF) : RF := rg [0, 1, 7, 8] <| aX 6 (pM 0) <|
 aX 7 (pLen 43 6) <|
 aX 8 (pM (cn (.int .i64 0))) <|
 aXZ
noncomputable def f26_r2 (c : CallF) : RF := rg [0, 1, 7, 8, 9] <| aX 9 (pB .lss 3 8 7) <|
 aXZ
noncomputable def f26_r3 (c : CallF) : RF := rg [0, 1, 5, 7, 8] <| aX 10 (pM 8) <|
 aX 5 (pM 10) <|
 aXZ
noncomputable def f26_r4 (c : CallF) : RF := rg [0, 1, 5, 7, 8, 16] <| aX 11 (pM 1) <|
 aX 12 (pM 0) <|
 aX 13 (pM 5) <|
 aX 14 (pI 1 12 13) <|
 aX 15 (pL false 1 14) <|
 aX 16 (pB .eql 9 11 15) <|
 aXZ
noncomputable def f26_r5 (c : CallF) : RF := rg [4] <| aX 17 (pM 5) <|
 aX 4 (pM 17) <|
 aXZ
noncomputable def f26_r6 (c : CallF) : RF := rg [0, 1, 7, 8] <| aX 18 (pB .add 3 8 (cn (.int .i64 1))) <|
 aX 8 (pM 18) <|
 aXZ
noncomputable def f26_r7 (c : CallF) : RF := rg [4] <| aX 4 (pM (cn (.int .i64 (-1)))) <|
 aXZ
noncomputable def f26_l2 (c : CallF) (k : Nat) : St :=
 (bSeq (bReg (f26_r2 c))
 (bSeq (bCond (.tmp 9) (bEx .nrm) (bEx (.ext 0)))
 (bSeq (bBlock 1 (bSeq (bReg (f26_r3 c))
 (bSeq (bReg (f26_r4 c))
 (bCond (.tmp 16) (bSeq (bReg (f26_r5 c))
 (bEx .ret)) (bEx .nrm)))))
 (bReg (f26_r6 c)))))
noncomputable def f26 (c : CallF) (k : Nat) : St :=
 (bSeq (bReg (f26_r0 c))
 (bSeq (bSeq (bReg (f26_r1 c))
 (bBlock 0 (bLoop [0, 1, 7, 8] (f26_l2 c k) k)))
 (bSeq (bReg (f26_r7 c))
 (bEx .ret))))
theorem f26_eq (c : CallF) (k : Nat) : exec cx c 19 f26_an k (Try.f26.body.getD .skip) = f26 c k := by kernel_rfl
/-! ### f27: loop.example/g01263/laws.markHalf -/
def f27_an : Ann := ⟨[(0, ⟨[0], [], [], [], [1, 2]⟩), (1, r0 [1]), (2, r0 [4])], []⟩
noncomputable def f27_r0 (c : CallF) : RF := rg [1, 2] <| aX 2 (fun n e M => aBoxO n 36 18 (eget e 0) M) <|
 aX 4 (pM (cn (.int .i64 0))) <|
 aXZ
noncomputable def f27_r1 (c : CallF) : RF := rg [1] <| aX 5 (pF 1 1 2) <|
 aX 6 (pL false 1 5) <|
 aX 7 (pM 1) <|
 aX 8 (pK c false 46 [6, 7]) <|
 aX 1 (pM 8) <|
 aXZ
noncomputable def f27_r2 (c : CallF) : RF := rg [4] <| aX 9 (pM 1) <|
 aX 4 (pM 9) <|
 aXZ
noncomputable def f27 (c : CallF) (k : Nat) : St :=
 (bSeq (bReg (f27_r0 c))
 (bSeq (bReg (f27_r1 c))
 (bSeq (bReg (f27_r2 c))
 (bEx .ret))))
theorem f27_eq (c : CallF) (k : Nat) : exec cx c 10 f27_an k (Try.f27.body.getD .skip) = f27 c k := by kernel_rfl
/-! ### f28: loop.example/g01263/laws.markMarkS -/
def f28_an : Ann := ⟨[(0, r0 [0, 1]), (1, r0 [0, 1, 5]), (2, r0 [0, 1, 5, 9]), (3, r0 [0, 1, 5]), (4, r0 [0, 1, 5]), (5, r0 [0, 1, 5]), (6, r0 [0, 1, 5]), (7, r0 [0, 1, 5]), (8, r0 [4])], [(2, [0, 1, 5])]⟩
noncomputable def f28_r0 (c : CallF) : RF := rg [0, 1] <| aX 4 (pM (cn (.int .i64 0))) <|
 aXZ
noncomputable def f28_r1 (c : CallF) : RF := rg [0, 1, 5] <| aX 5 (pM (cn (.int .i64 0))) <|
 aXZ
noncomputable def f28_r2 (c : CallF) : RF := rg [0, 1, 5, 9] <| aX 6 (pM 5) <|
 aX 7 (pM 0) <|
 aX 8 (pLen 37 7) <|
 aX 9 (pB .lss 3 6 8) <|
 aXZ
noncomputable def f28_r3 (c : CallF) : RF := rg [0, 1, 5] <| aX 10 (pM 5) <|
 aX 11 (pB .add 3 10 (cn (.int .i64 1))) <|
 aX 5 (pM 11) <|
 aXZ
noncomputable def f28_r4 (c : CallF) : RF := rg [0, 1, 5] <| aX 12 (pM 0) <|
 aX 13 (pM 5) <|
 aX 14 (pM 1) <|
 aX 15 (pK c false 29 [14]) <|
 aX 16 (pI 2 12 13) <|
 aX 17 (pF 0 1 16) <|
 aX0 (pS 1 17 15) <|
 aXZ
noncomputable def f28_r5 (c : CallF) : RF := rg [0, 1, 5] <| aX 18 (pM 1) <|
 aX 19 (pB .add 3 18 (cn (.int .i64 1))) <|
 aX 1 (pM 19) <|
 aXZ
noncomputable def f28_r6 (c : CallF) : RF := rg [0, 1, 5] <| aX 20 (pM 0) <|
 aX 21 (pM 5) <|
 aX 22 (pM 1) <|
 aX 23 (fun n e M => keep (aConvI .u32 (eget e 22))) <|
 aX 24 (pI 2 20 21) <|
 aX 25 (pF 1 1 24) <|
 aX0 (pS 1 25 23) <|
 aXZ
noncomputable def f28_r7 (c : CallF) : RF := rg [0, 1, 5] <| aX 26 (pM 1) <|
 aX 27 (pB .add 3 26 (cn (.int .i64 1))) <|
 aX 1 (pM 27) <|
 aXZ
noncomputable def f28_r8 (c : CallF) : RF := rg [4] <| aX 28 (pM 1) <|
 aX 4 (pM 28) <|
 aXZ
noncomputable def f28_l2 (c : CallF) (k : Nat) : St :=
 (bSeq (bSeq (bReg (f28_r2 c))
 (bCond (.tmp 9) (bEx .nrm) (bEx (.ext 0))))
 (bSeq (bBlock 1 (bSeq (bReg (f28_r4 c))
 (bSeq (bReg (f28_r5 c))
 (bSeq (bReg (f28_r6 c))
 (bReg (f28_r7 c))))))
 (bReg (f28_r3 c))))
noncomputable def f28 (c : CallF) (k : Nat) : St :=
 (bSeq (bReg (f28_r0 c))
 (bSeq (bSeq (bReg (f28_r1 c))
 (bBlock 0 (bLoop [0, 1, 5] (f28_l2 c k) k)))
 (bSeq (bReg (f28_r8 c))
 (bEx .ret))))
theorem f28_eq (c : CallF) (k : Nat) : exec cx c 29 f28_an k (Try.f28.body.getD .skip) = f28 c k := by kernel_rfl
/-! ### f29: loop.example/g01263/laws.markText -/
def f29_an : Ann := ⟨[(0, r0 [0]), (1, r0 [0, 5]), (2, r0 [2]), (3, r0 [0, 3]), (4, r0 [0, 3, 7]), (5, r0 [0, 3]), (6, r0 [0, 3]), (7, r0 [2])], [(4, [0, 3])]⟩
noncomputable def f29_r0 (c : CallF) : RF := rg [0] <| aX 2 (pM (cn (.str []))) <|
 aXZ
noncomputable def f29_r1 (c : CallF) : RF := rg [0, 5] <| aX 4 (pM 0) <|
 aX 5 (pB .leq 3 4 (cn (.int .i64 0))) <|
 aXZ
noncomputable def f29_r2 (c : CallF) : RF := rg [2] <| aX 2 (pM (cn (.str [109, 48]))) <|
 aXZ
noncomputable def f29_r3 (c : CallF) : RF := rg [0, 3] <| aX 3 (pM (cn (.str []))) <|
 aXZ
noncomputable def f29_r4 (c : CallF) : RF := rg [0, 3, 7] <| aX 6 (pM 0) <|
 aX 7 (pB .gtr 3 6 (cn (.int .i64 0))) <|
 aXZ
noncomputable def f29_r5 (c : CallF) : RF := rg [0, 3] <| aX 8 (pM 0) <|
 aX 9 (pB .rem 3 8 (cn (.int .i64 10))) <|
 aX 10 (pB .add 3 (cn (.int .i64 48)) 9) <|
 aX 11 (fun n e M => keep (aConvI .u8 (eget e 10))) <|
 aX 12 (fun n e M => keep (aLitI 5 1 [(eget e 11)] M)) <|
 aX 13 (fun n e M => keep (aConvB (eget e 12) M)) <|
 aX 14 (pM 3) <|
 aX 15 (pB .add 9 13 14) <|
 aX 3 (pM 15) <|
 aXZ
noncomputable def f29_r6 (c : CallF) : RF := rg [0, 3] <| aX 16 (pM 0) <|
 aX 17 (pB .quo 3 16 (cn (.int .i64 10))) <|
 aX 0 (pM 17) <|
 aXZ
noncomputable def f29_r7 (c : CallF) : RF := rg [2] <| aX 18 (pM 3) <|
 aX 19 (pB .add 9 (cn (.str [109])) 18) <|
 aX 2 (pM 19) <|
 aXZ
noncomputable def f29_l4 (c : CallF) (k : Nat) : St :=
 (bSeq (bSeq (bReg (f29_r4 c))
 (bCond (.tmp 7) (bEx .nrm) (bEx (.ext 0))))
 (bBlock 1 (bSeq (bReg (f29_r5 c))
 (bReg (f29_r6 c)))))
noncomputable def f29 (c : CallF) (k : Nat) : St :=
 (bSeq (bReg (f29_r0 c))
 (bSeq (bSeq (bReg (f29_r1 c))
 (bCond (.tmp 5) (bSeq (bReg (f29_r2 c))
 (bEx .ret)) (bEx .nrm)))
 (bSeq (bReg (f29_r3 c))
 (bSeq (bBlock 0 (bLoop [0, 3] (f29_l4 c k) k))
 (bSeq (bReg (f29_r7 c))
 (bEx .ret))))))
theorem f29_eq (c : CallF) (k : Nat) : exec cx c 20 f29_an k (Try.f29.body.getD .skip) = f29 c k := by kernel_rfl
/-! ### f30: loop.example/g01263/laws.szNotchS -/
def f30_an : Ann := ⟨[(0, r0 [0, 1]), (1, r0 [1]), (2, r0 [1, 10]), (3, r0 [4]), (4, r0 [4])], []⟩
noncomputable def f30_r0 (c : CallF) : RF := rg [0, 1] <| aX 4 (pM (cn (.int .i64 0))) <|
 aXZ
noncomputable def f30_r1 (c : CallF) : RF := rg [1] <| aX 5 (pM 1) <|
 aX 6 (pM 0) <|
 aX 7 (pLen 22 6) <|
 aX 8 (pB .sub 3 5 7) <|
 aX 1 (pM 8) <|
 aXZ
noncomputable def f30_r2 (c : CallF) : RF := rg [1, 10] <| aX 9 (pM 1) <|
 aX 10 (pB .lss 3 9 (cn (.int .i64 0))) <|
 aXZ
noncomputable def f30_r3 (c : CallF) : RF := rg [4] <| aX 4 (pM (cn (.int .i64 (-1)))) <|
 aXZ
noncomputable def f30_r4 (c : CallF) : RF := rg [4] <| aX 11 (pM 1) <|
 aX 4 (pM 11) <|
 aXZ
noncomputable def f30 (c : CallF) (k : Nat) : St :=
 (bSeq (bReg (f30_r0 c))
 (bSeq (bReg (f30_r1 c))
 (bSeq (bSeq (bReg (f30_r2 c))
 (bCond (.tmp 10) (bSeq (bReg (f30_r3 c))
 (bEx .ret)) (bEx .nrm)))
 (bSeq (bReg (f30_r4 c))
 (bEx .ret)))))
theorem f30_eq (c : CallF) (k : Nat) : exec cx c 12 f30_an k (Try.f30.body.getD .skip) = f30 c k := by kernel_rfl
/-! ### f31: loop.example/g01263/laws.szMark -/
def f31_an : Ann := ⟨[(0, r0 [1, 2]), (1, r0 [1]), (2, r0 [1, 11]), (3, r0 [4]), (4, r0 [4])], []⟩
noncomputable def f31_r0 (c : CallF) : RF := rg [1, 2] <| aX 2 (pBox 2 0) <|
 aX 4 (pM (cn (.int .i64 0))) <|
 aXZ
noncomputable def f31_r1 (c : CallF) : RF := rg [1] <| aX 5 (pM 1) <|
 aX 6 (pF 0 1 2) <|
 aX 7 (pL false 1 6) <|
 aX 8 (pLen 9 7) <|
 aX 9 (pB .sub 3 5 8) <|
 aX 1 (pM 9) <|
 aXZ
noncomputable def f31_r2 (c : CallF) : RF := rg [1, 11] <| aX 10 (pM 1) <|
 aX 11 (pB .lss 3 10 (cn (.int .i64 0))) <|
 aXZ
noncomputable def f31_r3 (c : CallF) : RF := rg [4] <| aX 4 (pM (cn (.int .i64 (-1)))) <|
 aXZ
noncomputable def f31_r4 (c : CallF) : RF := rg [4] <| aX 12 (pM 1) <|
 aX 4 (pM 12) <|
 aXZ
noncomputable def f31 (c : CallF) (k : Nat) : St :=
 (bSeq (bReg (f31_r0 c))
 (bSeq (bReg (f31_r1 c))
 (bSeq (bSeq (bReg (f31_r2 c))
 (bCond (.tmp 11) (bSeq (bReg (f31_r3 c))
 (bEx .ret)) (bEx .nrm)))
 (bSeq (bReg (f31_r4 c))
 (bEx .ret)))))
theorem f31_eq (c : CallF) (k : Nat) : exec cx c 13 f31_an k (Try.f31.body.getD .skip) = f31 c k := by kernel_rfl
/-! ### f33: loop.example/g01263/laws.toNotchS -/
def f33_an : Ann := ⟨[(0, r0 [0]), (1, r0 [0, 3]), (2, r0 [0, 3, 4]), (3, r0 [0, 3, 4, 11]), (4, r0 [0, 3, 4]), (5, r0 [0, 3, 4]), (6, r0 [2])], [(3, [0, 3, 4])]⟩
noncomputable def f33_r0 (c : CallF) : RF := rg [0] <| aX 2 (pM (cn .nils)) <|
 aXZ
noncomputable def f33_r1 (c : CallF) : RF := rg [0, 3] <| aX 5 (pM 0) <|
 aX 6 (pLen 22 5) <|
 aX 7 (fun n e M => aMakeO n 90 2 4 (zeroOf cx.P 90) (eget e 6) (eget e 6)) <|
 aX 3 (pM 7) <|
 aXZ
noncomputable def f33_r2 (c : CallF) : RF := rg [0, 3, 4] <| aX 4 (pM (cn (.int .i64 0))) <|
 aXZ
noncomputable def f33_r3 (c : CallF) : RF := rg [0, 3, 4, 11] <| aX 8 (pM 4) <|
 aX 9 (pM 0) <|
 aX 10 (pLen 22 9) <|
 aX 11 (pB .lss 3 8 10) <|
 aXZ
noncomputable def f33_r4 (c : CallF) : RF := rg [0, 3, 4] <| aX 12 (pM 4) <|
 aX 13 (pB .add 3 12 (cn (.int .i64 1))) <|
 aX 4 (pM 13) <|
 aXZ
noncomputable def f33_r5 (c : CallF) : RF := rg [0, 3, 4] <| aX 14 (pM 3) <|
 aX 15 (pM 4) <|
 aX 16 (pM 0) <|
 aX 17 (pM 4) <|
 aX 18 (pI 2 16 17) <|
 aX 19 (pL true 2 18) <|
 aX 20 (pK c false 48 [19]) <|
 aX 21 (pI 2 14 15) <|
 aX0 (pS 2 21 20) <|
 aXZ
noncomputable def f33_r6 (c : CallF) : RF := rg [2] <| aX 22 (pM 3) <|
 aX 2 (pM 22) <|
 aXZ
noncomputable def f33_l3 (c : CallF) (k : Nat) : St :=
 (bSeq (bSeq (bReg (f33_r3 c))
 (bCond (.tmp 11) (bEx .nrm) (bEx (.ext 0))))
 (bSeq (bBlock 1 (bReg (f33_r5 c)))
 (bReg (f33_r4 c))))
noncomputable def f33 (c : CallF) (k : Nat) : St :=
 (bSeq (bReg (f33_r0 c))
 (bSeq (bReg (f33_r1 c))
 (bSeq (bSeq (bReg (f33_r2 c))
 (bBlock 0 (bLoop [0, 3, 4] (f33_l3 c k) k)))
 (bSeq (bReg (f33_r6 c))
 (bEx .ret)))))
theorem f33_eq (c : CallF) (k : Nat) : exec cx c 23 f33_an k (Try.f33.body.getD .skip) = f33 c k := by kernel_rfl
/-! ### f34: loop.example/g01263/laws.toGrain -/
def f34_an : Ann := ⟨[(0, r0 [1, 2]), (1, r0 [1, 2, 3]), (2, r0 [1, 2, 3, 4]), (3, r0 [1, 2, 3, 4, 6]), (4, r0 [1, 2, 3, 4]), (5, r0 [1, 2, 3, 4]), (6, r0 [2])], [(3, [1, 2, 3, 4])]⟩
noncomputable def f34_r0 (c : CallF) : RF := rg [1, 2] <| aX 1 (pBox 16 0) <|
 aX 2 (pAl 34 16) <|
 aXZ
noncomputable def f34_r1 (c : CallF) : RF := rg [1, 2, 3] <| aX 3 (pAl 34 16) <|
 aXZ
noncomputable def f34_r2 (c : CallF) : RF := rg [1, 2, 3, 4] <| aX 4 (pM (cn (.int .i64 0))) <|
 aXZ
noncomputable def f34_r3 (c : CallF) : RF := rg [1, 2, 3, 4, 6] <| aX 5 (pM 4) <|
 aX 6 (pB .lss 3 5 (cn (.int .i64 16))) <|
 aXZ
noncomputable def f34_r4 (c : CallF) : RF := rg [1, 2, 3, 4] <| aX 7 (pM 4) <|
 aX 8 (pB .add 3 7 (cn (.int .i64 1))) <|
 aX 4 (pM 8) <|
 aXZ
noncomputable def f34_r5 (c : CallF) : RF := rg [1, 2, 3, 4] <| aX 9 (pM 4) <|
 aX 10 (pM 4) <|
 aX 11 (fun n e M => keep (aIndexP 16 1 (eget e 1) (eget e 10) M)) <|
 aX 12 (pL false 1 11) <|
 aX 13 (fun n e M => keep (aIndexP 16 1 (eget e 3) (eget e 9) M)) <|
 aX0 (pS 1 13 12) <|
 aXZ
noncomputable def f34_r6 (c : CallF) : RF := rg [2] <| aX 14 (pL true 16 3) <|
 aX0 (pS 16 2 14) <|
 aXZ
noncomputable def f34_l3 (c : CallF) (k : Nat) : St :=
 (bSeq (bSeq (bReg (f34_r3 c))
 (bCond (.tmp 6) (bEx .nrm) (bEx (.ext 0))))
 (bSeq (bBlock 1 (bReg (f34_r5 c)))
 (bReg (f34_r4 c))))
noncomputable def f34 (c : CallF) (k : Nat) : St :=
 (bSeq (bReg (f34_r0 c))
 (bSeq (bReg (f34_r1 c))
 (bSeq (bSeq (bReg (f34_r2 c))
 (bBlock 0 (bLoop [1, 2, 3, 4] (f34_l3 c k) k)))
 (bSeq (bReg (f34_r6 c))
 (bEx .ret)))))
theorem f34_eq (c : CallF) (k : Nat) : exec cx c 15 f34_an k (Try.f34.body.getD .skip) = f34 c k := by kernel_rfl
/-! ### f35: loop.example/g01263/laws.toMark -/
def f35_an : Ann := ⟨[(0, r0 [1, 2]), (1, r0 [1, 2, 3]), (2, r0 [1, 2, 3]), (3, r0 [2, 3]), (4, r0 [2])], []⟩
noncomputable def f35_r0 (c : CallF) : RF := rg [1, 2] <| aX 1 (pBox 2 0) <|
 aX 2 (pAl 57 2) <|
 aXZ
noncomputable def f35_r1 (c : CallF) : RF := rg [1, 2, 3] <| aX 3 (pAl 57 2) <|
 aXZ
noncomputable def f35_r2 (c : CallF) : RF := rg [1, 2, 3] <| aX 4 (pF 0 1 1) <|
 aX 5 (pL false 1 4) <|
 aX 6 (pF 0 1 3) <|
 aX0 (pS 1 6 5) <|
 aXZ
noncomputable def f35_r3 (c : CallF) : RF := rg [2, 3] <| aX 7 (pF 1 1 1) <|
 aX 8 (pL false 1 7) <|
 aX 9 (pF 1 1 3) <|
 aX0 (pS 1 9 8) <|
 aXZ
noncomputable def f35_r4 (c : CallF) : RF := rg [2] <| aX 10 (pL true 2 3) <|
 aX0 (pS 2 2 10) <|
 aXZ
noncomputable def f35 (c : CallF) (k : Nat) : St :=
 (bSeq (bReg (f35_r0 c))
 (bSeq (bReg (f35_r1 c))
 (bSeq (bReg (f35_r2 c))
 (bSeq (bReg (f35_r3 c))
 (bSeq (bReg (f35_r4 c))
 (bEx .ret))))))
theorem f35_eq (c : CallF) (k : Nat) : exec cx c 11 f35_an k (Try.f35.body.getD .skip) = f35 c k := by kernel_rfl
/-! ### f38: loop.example/g01263/laws.eqNotchS -/
def f38_an : Ann := ⟨[(0, r0 [0, 1]), (1, r0 [0, 1, 10]), (2, r0 [4]), (3, r0 [0, 1, 5]), (4, r0 [0, 1, 5, 14]), (5, r0 [0, 1, 5]), (6, r0 [0, 1, 5, 26]), (7, r0 [4]), (8, r0 [4])], [(4, [0, 1, 5])]⟩
noncomputable def f38_r0 (c : CallF) : RF := rg [0, 1] <| aX 4 (pM (cn (.bool false))) <|
 aXZ
noncomputable def f38_r1 (c : CallF) : RF := rg [0, 1, 10] <| aX 6 (pM 0) <|
 aX 7 (pLen 33 6) <|
 aX 8 (pM 1) <|
 aX 9 (pLen 33 8) <|
 aX 10 (pB .neq 3 7 9) <|
 aXZ
noncomputable def f38_r2 (c : CallF) : RF := rg [4] <| aX 4 (pM (cn (.bool false))) <|
 aXZ
noncomputable def f38_r3 (c : CallF) : RF := rg [0, 1, 5] <| aX 5 (pM (cn (.int .i64 0))) <|
 aXZ
noncomputable def f38_r4 (c : CallF) : RF := rg [0, 1, 5, 14] <| aX 11 (pM 5) <|
 aX 12 (pM 0) <|
 aX 13 (pLen 33 12) <|
 aX 14 (pB .lss 3 11 13) <|
 aXZ
noncomputable def f38_r5 (c : CallF) : RF := rg [0, 1, 5] <| aX 15 (pM 5) <|
 aX 16 (pB .add 3 15 (cn (.int .i64 1))) <|
 aX 5 (pM 16) <|
 aXZ
noncomputable def f38_r6 (c : CallF) : RF := rgD [0, 1, 5, 26] (aY 17 (pM 0) <|
 aY 18 (pM 5) <|
 aY 19 (pI 2 17 18) <|
 aY 20 (pL true 2 19) <|
 aY 21 (pM 1) <|
 aY 22 (pM 5) <|
 aY 23 (pI 2 21 22) <|
 aY 24 (pL true 2 23) <|
 aY 25 (pK c false 50 [20, 24]) <|
 aY 26 (pU .not 25) <|
 aYZ)
 (aXZ)
noncomputable def f38_r7 (c : CallF) : RF := rg [4] <| aX 4 (pM (cn (.bool false))) <|
 aXZ
noncomputable def f38_r8 (c : CallF) : RF := rg [4] <| aX 4 (pM (cn (.bool true))) <|
 aXZ
noncomputable def f38_l4 (c : CallF) (k : Nat) : St :=
 (bSeq (bSeq (bReg (f38_r4 c))
 (bCond (.tmp 14) (bEx .nrm) (bEx (.ext 0))))
 (bSeq (bBlock 1 (bSeq (bReg (f38_r6 c))
 (bCond (.tmp 26) (bSeq (bReg (f38_r7 c))
 (bEx .ret)) (bEx .nrm))))
 (bReg (f38_r5 c))))
noncomputable def f38 (c : CallF) (k : Nat) : St :=
 (bSeq (bReg (f38_r0 c))
 (bSeq (bSeq (bReg (f38_r1 c))
 (bCond (.tmp 10) (bSeq (bReg (f38_r2 c))
 (bEx .ret)) (bEx .nrm)))
 (bSeq (bSeq (bReg (f38_r3 c))
 (bBlock 0 (bLoop [0, 1, 5] (f38_l4 c k) k)))
 (bSeq (bReg (f38_r8 c))
 (bEx .ret)))))
theorem f38_eq (c : CallF) (k : Nat) : exec cx c 27 f38_an k (Try.f38.body.getD .skip) = f38 c k := by kernel_rfl
/-! ### f39: loop.example/g01263/laws.eqGrain -/
def f39_an : Ann := ⟨[(0, r0 [2, 3]), (1, r0 [2, 3, 5]), (2, r0 [2, 3, 5, 7]), (3, r0 [2, 3, 5]), (4, r0 [2, 3, 5, 16]), (5, r0 [4]), (6, r0 [4])], [(2, [2, 3, 5])]⟩
noncomputable def f39_r0 (c : CallF) : RF := rg [2, 3] <| aX 2 (pBox 16 0) <|
 aX 3 (pBox 16 1) <|
 aX 4 (pM (cn (.bool false))) <|
 aXZ
noncomputable def f39_r1 (c : CallF) : RF := rg [2, 3, 5] <| aX 5 (pM (cn (.int .i64 0))) <|
 aXZ
noncomputable def f39_r2 (c : CallF) : RF := rg [2, 3, 5, 7] <| aX 6 (pM 5) <|
 aX 7 (pB .lss 3 6 (cn (.int .i64 16))) <|
 aXZ
noncomputable def f39_r3 (c : CallF) : RF := rg [2, 3, 5] <| aX 8 (pM 5) <|
 aX 9 (pB .add 3 8 (cn (.int .i64 1))) <|
 aX 5 (pM 9) <|
 aXZ
noncomputable def f39_r4 (c : CallF) : RF := rgD [2, 3, 5, 16] (aY 10 (pM 5) <|
 aY 11 (fun n e M => keep (aIndexP 16 1 (eget e 2) (eget e 10) M)) <|
 aY 12 (pL false 1 11) <|
 aY 13 (pM 5) <|
 aY 14 (fun n e M => keep (aIndexP 16 1 (eget e 3) (eget e 13) M)) <|
 aY 15 (pL false 1 14) <|
 aY 16 (pB .neq 23 12 15) <|
 aYZ)
 (aXZ)
noncomputable def f39_r5 (c : CallF) : RF := rg [4] <| aX 4 (pM (cn (.bool false))) <|
 aXZ
noncomputable def f39_r6 (c : CallF) : RF := rg [4] <| aX 4 (pM (cn (.bool true))) <|
 aXZ
noncomputable def f39_l2 (c : CallF) (k : Nat) : St :=
 (bSeq (bSeq (bReg (f39_r2 c))
 (bCond (.tmp 7) (bEx .nrm) (bEx (.ext 0))))
 (bSeq (bBlock 1 (bSeq (bReg (f39_r4 c))
 (bCond (.tmp 16) (bSeq (bReg (f39_r5 c))
 (bEx .ret)) (bEx .nrm))))
 (bReg (f39_r3 c))))
noncomputable def f39 (c : CallF) (k : Nat) : St :=
 (bSeq (bReg (f39_r0 c))
 (bSeq (bSeq (bReg (f39_r1 c))
 (bBlock 0 (bLoop [2, 3, 5] (f39_l2 c k) k)))
 (bSeq (bReg (f39_r6 c))
 (bEx .ret))))
theorem f39_eq (c : CallF) (k : Nat) : exec cx c 17 f39_an k (Try.f39.body.getD .skip) = f39 c k := by kernel_rfl
/-! ### f40: loop.example/g01263/laws.eqMark -/
def f40_an : Ann := ⟨[(0, r0 [2, 3]), (1, r0 [2, 3, 9]), (2, r0 [4]), (3, r0 [14]), (4, r0 [4]), (5, r0 [4])], []⟩
noncomputable def f40_r0 (c : CallF) : RF := rg [2, 3] <| aX 2 (pBox 2 0) <|
 aX 3 (pBox 2 1) <|
 aX 4 (pM (cn (.bool false))) <|
 aXZ
noncomputable def f40_r1 (c : CallF) : RF := rg [2, 3, 9] <| aX 5 (pF 0 1 2) <|
 aX 6 (pL false 1 5) <|
 aX 7 (pF 0 1 3) <|
 aX 8 (pL false 1 7) <|
 aX 9 (pB .neq 9 6 8) <|
 aXZ
noncomputable def f40_r2 (c : CallF) : RF := rg [4] <| aX 4 (pM (cn (.bool false))) <|
 aXZ
noncomputable def f40_r3 (c : CallF) : RF := rg [14] <| aX 10 (pF 1 1 2) <|
 aX 11 (pL false 1 10) <|
 aX 12 (pF 1 1 3) <|
 aX 13 (pL false 1 12) <|
 aX 14 (pB .neq 55 11 13) <|
 aXZ
noncomputable def f40_r4 (c : CallF) : RF := rg [4] <| aX 4 (pM (cn (.bool false))) <|
 aXZ
noncomputable def f40_r5 (c : CallF) : RF := rg [4] <| aX 4 (pM (cn (.bool true))) <|
 aXZ
noncomputable def f40 (c : CallF) (k : Nat) : St :=
 (bSeq (bReg (f40_r0 c))
 (bSeq (bSeq (bReg (f40_r1 c))
 (bCond (.tmp 9) (bSeq (bReg (f40_r2 c))
 (bEx .ret)) (bEx .nrm)))
 (bSeq (bSeq (bReg (f40_r3 c))
 (bCond (.tmp 14) (bSeq (bReg (f40_r4 c))
 (bEx .ret)) (bEx .nrm)))
 (bSeq (bReg (f40_r5 c))
 (bEx .ret)))))
theorem f40_eq (c : CallF) (k : Nat) : exec cx c 15 f40_an k (Try.f40.body.getD .skip) = f40 c k := by kernel_rfl
/-! ### f41: loop.example/g01263/spec.l06Name -/
def f41_an : Ann := ⟨[(0, r0 [0]), (1, r0 [0, 3]), (2, r0 [0, 3, 7]), (3, r0 [0, 3]), (4, r0 [0, 3, 19]), (5, r0 [2]), (6, r0 [2])], [(2, [0, 3])]⟩
noncomputable def f41_r0 (c : CallF) : RF := rg [0] <| aX 2 (pM (cn (.bool false))) <|
 aXZ
noncomputable def f41_r1 (c : CallF) : RF := rg [0, 3] <| aX 3 (pM (cn (.int .i64 0))) <|
 aXZ
noncomputable def f41_r2 (c : CallF) : RF := rg [0, 3, 7] <| aX 4 (pM 3) <|
 aX 5 (pM 0) <|
 aX 6 (pLen 9 5) <|
 aX 7 (pB .lss 3 4 6) <|
 aXZ
noncomputable def f41_r3 (c : CallF) : RF := rg [0, 3] <| aX 8 (pM 3) <|
 aX 9 (pB .add 3 8 (cn (.int .i64 1))) <|
 aX 3 (pM 9) <|
 aXZ
noncomputable def f41_r4 (c : CallF) : RF := rg [0, 3, 19] <| aX 10 (pM 0) <|
 aX 11 (pM 3) <|
 aX 12 (fun n e M => keep (aIndexB (eget e 10) (eget e 11))) <|
 aX 13 (pB .lss 5 12 (cn (.int .u8 97))) <|
 aX 14 (pM 13) <|
 aX 15 (pG 14 false (pM 0)) <|
 aX 16 (pG 14 false (pM 3)) <|
 aX 17 (pG 14 false (fun n e M => keep (aIndexB (eget e 15) (eget e 16)))) <|
 aX 18 (pG 14 false (pB .gtr 5 17 (cn (.int .u8 122)))) <|
 aX 19 (pP 14 (cn (.bool true)) 18) <|
 aXZ
noncomputable def f41_r5 (c : CallF) : RF := rg [2] <| aX 2 (pM (cn (.bool false))) <|
 aXZ
noncomputable def f41_r6 (c : CallF) : RF := rg [2] <| aX 20 (pM 0) <|
 aX 21 (pB .neq 9 20 (cn (.str []))) <|
 aX 22 (pM 21) <|
 aX 23 (pG 22 true (pM 0)) <|
 aX 24 (pG 22 true (pLen 9 23)) <|
 aX 25 (pG 22 true (pB .leq 3 24 (cn (.int .i64 12)))) <|
 aX 26 (pP 22 25 (cn (.bool false))) <|
 aX 2 (pM 26) <|
 aXZ
noncomputable def f41_l2 (c : CallF) (k : Nat) : St :=
 (bSeq (bSeq (bReg (f41_r2 c))
 (bCond (.tmp 7) (bEx .nrm) (bEx (.ext 0))))
 (bSeq (bBlock 1 (bSeq (bReg (f41_r4 c))
 (bCond (.tmp 19) (bSeq (bReg (f41_r5 c))
 (bEx .ret)) (bEx .nrm))))
 (bReg (f41_r3 c))))
noncomputable def f41 (c : CallF) (k : Nat) : St :=
 (bSeq (bReg (f41_r0 c))
 (bSeq (bSeq (bReg (f41_r1 c))
 (bBlock 0 (bLoop [0, 3] (f41_l2 c k) k)))
 (bSeq (bReg (f41_r6 c))
 (bEx .ret))))
theorem f41_eq (c : CallF) (k : Nat) : exec cx c 27 f41_an k (Try.f41.body.getD .skip) = f41 c k := by kernel_rfl
/-! ### f42: loop.example/g01263/spec.l01Ok -/
def f42_an : Ann := ⟨[(0, r0 [0]), (1, r0 [2])], []⟩
noncomputable def f42_r0 (c : CallF) : RF := rg [0] <| aX 2 (pM (cn (.bool false))) <|
 aXZ
noncomputable def f42_r1 (c : CallF) : RF := rg [2] <| aX 3 (pM 0) <|
 aX 4 (pN 3) <|
 aX 5 (pF 1 1 4) <|
 aX 6 (pL false 1 5) <|
 aX 7 (pK c false 51 [6]) <|
 aX 8 (pM 7) <|
 aX 9 (pG 8 true (pM 0)) <|
 aX 10 (pG 8 true (pN 9)) <|
 aX 11 (pG 8 true (pF 2 16 10)) <|
 aX 12 (pG 8 true (pL true 16 11)) <|
 aX 13 (pG 8 true (pK c false 52 [12])) <|
 aX 14 (pP 8 13 (cn (.bool false))) <|
 aX 2 (pM 14) <|
 aXZ
noncomputable def f42 (c : CallF) (k : Nat) : St :=
 (bSeq (bReg (f42_r0 c))
 (bSeq (bReg (f42_r1 c))
 (bEx .ret)))
theorem f42_eq (c : CallF) (k : Nat) : exec cx c 15 f42_an k (Try.f42.body.getD .skip) = f42 c k := by kernel_rfl
/-! ### f43: loop.example/g01263/spec.l00In -/
def f43_an : Ann := ⟨[(0, r0 [0, 1, 2]), (1, r0 [6])], []⟩
noncomputable def f43_r0 (c : CallF) : RF := rg [0, 1, 2] <| aX 6 (pM (cn (.bool false))) <|
 aXZ
noncomputable def f43_r1 (c : CallF) : RF := rg [6] <| aX 7 (pM 0) <|
 aX 8 (pM 1) <|
 aX 9 (pB .geq 2 7 8) <|
 aX 10 (pM 9) <|
 aX 11 (pG 10 true (pM 0)) <|
 aX 12 (pG 10 true (pM 2)) <|
 aX 13 (pG 10 true (pB .leq 2 11 12)) <|
 aX 14 (pP 10 13 (cn (.bool false))) <|
 aX 6 (pM 14) <|
 aXZ
noncomputable def f43 (c : CallF) (k : Nat) : St :=
 (bSeq (bReg (f43_r0 c))
 (bSeq (bReg (f43_r1 c))
 (bEx .ret)))
theorem f43_eq (c : CallF) (k : Nat) : exec cx c 15 f43_an k (Try.f43.body.getD .skip) = f43 c k := by kernel_rfl
/-! ### f44: loop.example/g01263/impl.isName -/
def f44_an : Ann := ⟨[(0, r0 [0]), (1, r0 [2])], []⟩
noncomputable def f44_r0 (c : CallF) : RF := rg [0] <| aX 2 (pM (cn (.bool false))) <|
 aXZ
noncomputable def f44_r1 (c : CallF) : RF := rg [2] <| aX 3 (pM 0) <|
 aX 4 (pK c false 53 [3, (cn (.int .i64 12))]) <|
 aX 2 (pM 4) <|
 aXZ
noncomputable def f44 (c : CallF) (k : Nat) : St :=
 (bSeq (bReg (f44_r0 c))
 (bSeq (bReg (f44_r1 c))
 (bEx .ret)))
theorem f44_eq (c : CallF) (k : Nat) : exec cx c 5 f44_an k (Try.f44.body.getD .skip) = f44 c k := by kernel_rfl
/-! ### f45: loop.example/g01263/impl.ValidHalf -/
def f45_an : Ann := ⟨[(0, r0 [1]), (1, r0 [1, 14]), (2, r0 [2]), (3, r0 [1, 16, 17, 18]), (4, r0 [1, 16, 17, 18, 19]), (5, r0 [1, 3, 4, 16, 17, 18]), (6, r0 [1, 3, 4, 16, 17, 18, 37]), (7, r0 [2]), (8, r0 [1, 16, 17, 18, 64]), (9, r0 [2]), (10, r0 [1, 16, 17, 18]), (11, r0 [2])], [(4, [1, 16, 17, 18])]⟩
noncomputable def f45_r0 (c : CallF) : RF := rg [1] <| aX 1 (pBox 18 0) <|
 aX 2 (pM (cn (.bool false))) <|
 aXZ
noncomputable def f45_r1 (c : CallF) : RF := rg [1, 14] <| aX 5 (pF 1 1 1) <|
 aX 6 (pL false 1 5) <|
 aX 7 (pLen 33 6) <|
 aX 8 (pB .gtr 3 7 (cn (.int .i64 60))) <|
 aX 9 (pM 8) <|
 aX 10 (pG 9 false (pF 2 16 1)) <|
 aX 11 (pG 9 false (pL true 16 10)) <|
 aX 12 (pG 9 false (pK c false 54 [11])) <|
 aX 13 (pG 9 false (pU .not 12)) <|
 aX 14 (pP 9 (cn (.bool true)) 13) <|
 aXZ
noncomputable def f45_r2 (c : CallF) : RF := rg [2] <| aX 2 (pM (cn (.bool false))) <|
 aXZ
noncomputable def f45_r3 (c : CallF) : RF := rg [1, 16, 17, 18] <| aX 15 (pF 1 1 1) <|
 aX 16 (pL false 1 15) <|
 aX 17 (pLen 33 16) <|
 aX 18 (pM (cn (.int .i64 0))) <|
 aXZ
noncomputable def f45_r4 (c : CallF) : RF := rg [1, 16, 17, 18, 19] <| aX 19 (pB .lss 3 18 17) <|
 aXZ
noncomputable def f45_r5 (c : CallF) : RF := rg [1, 3, 4, 16, 17, 18] <| aX 20 (pM 18) <|
 aX 21 (pI 2 16 18) <|
 aX 22 (pL true 2 21) <|
 aX 4 (pAl 90 2) <|
 aX 3 (pM 20) <|
 aX0 (pS 2 4 22) <|
 aXZ
noncomputable def f45_r6 (c : CallF) : RF := rg [1, 3, 4, 16, 17, 18, 37] <| aX 23 (pF 0 1 4) <|
 aX 24 (pL false 1 23) <|
 aX 25 (fun n e M => keep (aConvI .i64 (eget e 24))) <|
 aX 26 (pK c false 55 [25]) <|
 aX 27 (pU .not 26) <|
 aX 28 (pM 27) <|
 aX 29 (pG 28 false (pF 1 1 4)) <|
 aX 30 (pG 28 false (pL false 1 29)) <|
 aX 31 (pG 28 false (pB .lss 88 30 (cn (.int .i16 0)))) <|
 aX 32 (pP 28 (cn (.bool true)) 31) <|
 aX 33 (pM 32) <|
 aX 34 (pG 33 false (pL true 2 4)) <|
 aX 35 (pG 33 false (pK c false 56 [34])) <|
 aX 36 (pG 33 false (pB .gtr 2 35 (cn (.int .i64 200)))) <|
 aX 37 (pP 33 (cn (.bool true)) 36) <|
 aXZ
noncomputable def f45_r7 (c : CallF) : RF := rg [2] <| aX 2 (pM (cn (.bool false))) <|
 aXZ
noncomputable def f45_r8 (c : CallF) : RF := rgD [1, 16, 17, 18, 64] (aY 38 (pM 3) <|
 aY 39 (pB .gtr 3 38 (cn (.int .i64 0))) <|
 aY 40 (pM 39) <|
 aY 41 (pG 40 true (pF 1 1 4)) <|
 aY 42 (pG 40 true (pL false 1 41)) <|
 aY 43 (pG 40 true (fun n e M => keep (aConvI .i64 (eget e 42)))) <|
 aY 44 (pG 40 true (pF 1 1 1)) <|
 aY 45 (pG 40 true (pL false 1 44)) <|
 aY 46 (pG 40 true (pM 3)) <|
 aY 47 (pG 40 true (pB .sub 3 46 (cn (.int .i64 1)))) <|
 aY 48 (pG 40 true (pI 2 45 47)) <|
 aY 49 (pG 40 true (pL true 2 48)) <|
 aY 50 (pG 40 true (pK c false 56 [49])) <|
 aY 51 (pG 40 true (pB .leq 2 43 50)) <|
 aY 52 (pG 40 true (pM 51)) <|
 aY 53 (pG 52 false (pF 0 1 4)) <|
 aY 54 (pG 52 false (pL false 1 53)) <|
 aY 55 (pG 52 false (pF 1 1 1)) <|
 aY 56 (pG 52 false (pL false 1 55)) <|
 aY 57 (pG 52 false (pM 3)) <|
 aY 58 (pG 52 false (pB .sub 3 57 (cn (.int .i64 1)))) <|
 aY 59 (pG 52 false (pI 2 56 58)) <|
 aY 60 (pG 52 false (pF 0 1 59)) <|
 aY 61 (pG 52 false (pL false 1 60)) <|
 aY 62 (pG 52 false (pB .gtr 23 54 61)) <|
 aY 63 (pG 40 true (pP 52 (cn (.bool true)) 62)) <|
 aY 64 (pP 40 63 (cn (.bool false))) <|
 aYZ)
 (aXZ)
noncomputable def f45_r9 (c : CallF) : RF := rg [2] <| aX 2 (pM (cn (.bool false))) <|
 aXZ
noncomputable def f45_r10 (c : CallF) : RF := rg [1, 16, 17, 18] <| aX 65 (pB .add 3 18 (cn (.int .i64 1))) <|
 aX 18 (pM 65) <|
 aXZ
noncomputable def f45_r11 (c : CallF) : RF := rg [2] <| aX 2 (pM (cn (.bool true))) <|
 aXZ
noncomputable def f45_l4 (c : CallF) (k : Nat) : St :=
 (bSeq (bReg (f45_r4 c))
 (bSeq (bCond (.tmp 19) (bEx .nrm) (bEx (.ext 0)))
 (bSeq (bBlock 1 (bSeq (bReg (f45_r5 c))
 (bSeq (bSeq (bReg (f45_r6 c))
 (bCond (.tmp 37) (bSeq (bReg (f45_r7 c))
 (bEx .ret)) (bEx .nrm)))
 (bSeq (bReg (f45_r8 c))
 (bCond (.tmp 64) (bSeq (bReg (f45_r9 c))
 (bEx .ret)) (bEx .nrm))))))
 (bReg (f45_r10 c)))))
noncomputable def f45 (c : CallF) (k : Nat) : St :=
 (bSeq (bReg (f45_r0 c))
 (bSeq (bSeq (bReg (f45_r1 c))
 (bCond (.tmp 14) (bSeq (bReg (f45_r2 c))
 (bEx .ret)) (bEx .nrm)))
 (bSeq (bSeq (bReg (f45_r3 c))
 (bBlock 0 (bLoop [1, 16, 17, 18] (f45_l4 c k) k)))
 (bSeq (bReg (f45_r11 c))
 (bEx .ret)))))
theorem f45_eq (c : CallF) (k : Nat) : exec cx c 66 f45_an k (Try.f45.body.getD .skip) = f45 c k := by kernel_rfl
/-! ### f46: loop.example/g01263/laws.markNotchS -/
def f46_an : Ann := ⟨[(0, r0 [0, 1]), (1, r0 [0, 1, 5]), (2, r0 [0, 1, 5, 9]), (3, r0 [0, 1, 5]), (4, r0 [0, 1, 5]), (5, r0 [0, 1, 5]), (6, r0 [0, 1, 5]), (7, r0 [0, 1, 5]), (8, r0 [4])], [(2, [0, 1, 5])]⟩
noncomputable def f46_r0 (c : CallF) : RF := rg [0, 1] <| aX 4 (pM (cn (.int .i64 0))) <|
 aXZ
noncomputable def f46_r1 (c : CallF) : RF := rg [0, 1, 5] <| aX 5 (pM (cn (.int .i64 0))) <|
 aXZ
noncomputable def f46_r2 (c : CallF) : RF := rg [0, 1, 5, 9] <| aX 6 (pM 5) <|
 aX 7 (pM 0) <|
 aX 8 (pLen 33 7) <|
 aX 9 (pB .lss 3 6 8) <|
 aXZ
noncomputable def f46_r3 (c : CallF) : RF := rg [0, 1, 5] <| aX 10 (pM 5) <|
 aX 11 (pB .add 3 10 (cn (.int .i64 1))) <|
 aX 5 (pM 11) <|
 aXZ
noncomputable def f46_r4 (c : CallF) : RF := rg [0, 1, 5] <| aX 12 (pM 0) <|
 aX 13 (pM 5) <|
 aX 14 (pM 1) <|
 aX 15 (fun n e M => keep (aConvI .i8 (eget e 14))) <|
 aX 16 (pI 2 12 13) <|
 aX 17 (pF 0 1 16) <|
 aX0 (pS 1 17 15) <|
 aXZ
noncomputable def f46_r5 (c : CallF) : RF := rg [0, 1, 5] <| aX 18 (pM 1) <|
 aX 19 (pB .add 3 18 (cn (.int .i64 1))) <|
 aX 1 (pM 19) <|
 aXZ
noncomputable def f46_r6 (c : CallF) : RF := rg [0, 1, 5] <| aX 20 (pM 0) <|
 aX 21 (pM 5) <|
 aX 22 (pM 1) <|
 aX 23 (fun n e M => keep (aConvI .i16 (eget e 22))) <|
 aX 24 (pI 2 20 21) <|
 aX 25 (pF 1 1 24) <|
 aX0 (pS 1 25 23) <|
 aXZ
noncomputable def f46_r7 (c : CallF) : RF := rg [0, 1, 5] <| aX 26 (pM 1) <|
 aX 27 (pB .add 3 26 (cn (.int .i64 1))) <|
 aX 1 (pM 27) <|
 aXZ
noncomputable def f46_r8 (c : CallF) : RF := rg [4] <| aX 28 (pM 1) <|
 aX 4 (pM 28) <|
 aXZ
noncomputable def f46_l2 (c : CallF) (k : Nat) : St :=
 (bSeq (bSeq (bReg (f46_r2 c))
 (bCond (.tmp 9) (bEx .nrm) (bEx (.ext 0))))
 (bSeq (bBlock 1 (bSeq (bReg (f46_r4 c))
 (bSeq (bReg (f46_r5 c))
 (bSeq (bReg (f46_r6 c))
 (bReg (f46_r7 c))))))
 (bReg (f46_r3 c))))
noncomputable def f46 (c : CallF) (k : Nat) : St :=
 (bSeq (bReg (f46_r0 c))
 (bSeq (bSeq (bReg (f46_r1 c))
 (bBlock 0 (bLoop [0, 1, 5] (f46_l2 c k) k)))
 (bSeq (bReg (f46_r8 c))
 (bEx .ret))))
theorem f46_eq (c : CallF) (k : Nat) : exec cx c 29 f46_an k (Try.f46.body.getD .skip) = f46 c k := by kernel_rfl
/-! ### f48: loop.example/g01263/laws.toNotch -/
def f48_an : Ann := ⟨[(0, r0 [1, 2]), (1, r0 [1, 2, 3]), (2, r0 [1, 2, 3]), (3, r0 [2, 3]), (4, r0 [2])], []⟩
noncomputable def f48_r0 (c : CallF) : RF := rg [1, 2] <| aX 1 (pBox 2 0) <|
 aX 2 (pAl 90 2) <|
 aXZ
noncomputable def f48_r1 (c : CallF) : RF := rg [1, 2, 3] <| aX 3 (pAl 90 2) <|
 aXZ
noncomputable def f48_r2 (c : CallF) : RF := rg [1, 2, 3] <| aX 4 (pF 0 1 1) <|
 aX 5 (pL false 1 4) <|
 aX 6 (pF 0 1 3) <|
 aX0 (pS 1 6 5) <|
 aXZ
noncomputable def f48_r3 (c : CallF) : RF := rg [2, 3] <| aX 7 (pF 1 1 1) <|
 aX 8 (pL false 1 7) <|
 aX 9 (pF 1 1 3) <|
 aX0 (pS 1 9 8) <|
 aXZ
noncomputable def f48_r4 (c : CallF) : RF := rg [2] <| aX 10 (pL true 2 3) <|
 aX0 (pS 2 2 10) <|
 aXZ
noncomputable def f48 (c : CallF) (k : Nat) : St :=
 (bSeq (bReg (f48_r0 c))
 (bSeq (bReg (f48_r1 c))
 (bSeq (bReg (f48_r2 c))
 (bSeq (bReg (f48_r3 c))
 (bSeq (bReg (f48_r4 c))
 (bEx .ret))))))
theorem f48_eq (c : CallF) (k : Nat) : exec cx c 11 f48_an k (Try.f48.body.getD .skip) = f48 c k := by kernel_rfl
/-! ### f50: loop.example/g01263/laws.eqNotch -/
def f50_an : Ann := ⟨[(0, r0 [2, 3]), (1, r0 [2, 3, 9]), (2, r0 [4]), (3, r0 [14]), (4, r0 [4]), (5, r0 [4])], []⟩
noncomputable def f50_r0 (c : CallF) : RF := rg [2, 3] <| aX 2 (pBox 2 0) <|
 aX 3 (pBox 2 1) <|
 aX 4 (pM (cn (.bool false))) <|
 aXZ
noncomputable def f50_r1 (c : CallF) : RF := rg [2, 3, 9] <| aX 5 (pF 0 1 2) <|
 aX 6 (pL false 1 5) <|
 aX 7 (pF 0 1 3) <|
 aX 8 (pL false 1 7) <|
 aX 9 (pB .neq 23 6 8) <|
 aXZ
noncomputable def f50_r2 (c : CallF) : RF := rg [4] <| aX 4 (pM (cn (.bool false))) <|
 aXZ
noncomputable def f50_r3 (c : CallF) : RF := rg [14] <| aX 10 (pF 1 1 2) <|
 aX 11 (pL false 1 10) <|
 aX 12 (pF 1 1 3) <|
 aX 13 (pL false 1 12) <|
 aX 14 (pB .neq 88 11 13) <|
 aXZ
noncomputable def f50_r4 (c : CallF) : RF := rg [4] <| aX 4 (pM (cn (.bool false))) <|
 aXZ
noncomputable def f50_r5 (c : CallF) : RF := rg [4] <| aX 4 (pM (cn (.bool true))) <|
 aXZ
noncomputable def f50 (c : CallF) (k : Nat) : St :=
 (bSeq (bReg (f50_r0 c))
 (bSeq (bSeq (bReg (f50_r1 c))
 (bCond (.tmp 9) (bSeq (bReg (f50_r2 c))
 (bEx .ret)) (bEx .nrm)))
 (bSeq (bSeq (bReg (f50_r3 c))
 (bCond (.tmp 14) (bSeq (bReg (f50_r4 c))
 (bEx .ret)) (bEx .nrm)))
 (bSeq (bReg (f50_r5 c))
 (bEx .ret)))))
theorem f50_eq (c : CallF) (k : Nat) : exec cx c 15 f50_an k (Try.f50.body.getD .skip) = f50 c k := by kernel_rfl
/-! ### f51: loop.example/g01263/spec.l01Notches -/
def f51_an : Ann := ⟨[(0, r0 [0]), (1, r0 [0, 7]), (2, r0 [2]), (3, r0 [0, 3]), (4, r0 [0, 3, 11]), (5, r0 [0, 3]), (6, r0 [0, 3, 4]), (7, r0 [0, 3, 4, 32]), (8, r0 [2]), (9, r0 [0, 3, 57]), (10, r0 [2]), (11, r0 [2])], [(4, [0, 3])]⟩
noncomputable def f51_r0 (c : CallF) : RF := rg [0] <| aX 2 (pM (cn (.bool false))) <|
 aXZ
noncomputable def f51_r1 (c : CallF) : RF := rg [0, 7] <| aX 5 (pM 0) <|
 aX 6 (pLen 33 5) <|
 aX 7 (pB .gtr 3 6 (cn (.int .i64 60))) <|
 aXZ
noncomputable def f51_r2 (c : CallF) : RF := rg [2] <| aX 2 (pM (cn (.bool false))) <|
 aXZ
noncomputable def f51_r3 (c : CallF) : RF := rg [0, 3] <| aX 3 (pM (cn (.int .i64 0))) <|
 aXZ
noncomputable def f51_r4 (c : CallF) : RF := rg [0, 3, 11] <| aX 8 (pM 3) <|
 aX 9 (pM 0) <|
 aX 10 (pLen 33 9) <|
 aX 11 (pB .lss 3 8 10) <|
 aXZ
noncomputable def f51_r5 (c : CallF) : RF := rg [0, 3] <| aX 12 (pM 3) <|
 aX 13 (pB .add 3 12 (cn (.int .i64 1))) <|
 aX 3 (pM 13) <|
 aXZ
noncomputable def f51_r6 (c : CallF) : RF := rg [0, 3, 4] <| aX 14 (pM 0) <|
 aX 15 (pM 3) <|
 aX 16 (pI 2 14 15) <|
 aX 17 (pL true 2 16) <|
 aX 4 (pAl 90 2) <|
 aX0 (pS 2 4 17) <|
 aXZ
noncomputable def f51_r7 (c : CallF) : RF := rg [0, 3, 4, 32] <| aX 18 (pF 0 1 4) <|
 aX 19 (pL false 1 18) <|
 aX 20 (fun n e M => keep (aConvI .i64 (eget e 19))) <|
 aX 21 (pK c false 57 [20]) <|
 aX 22 (pU .not 21) <|
 aX 23 (pM 22) <|
 aX 24 (pG 23 false (pF 1 1 4)) <|
 aX 25 (pG 23 false (pL false 1 24)) <|
 aX 26 (pG 23 false (pB .lss 88 25 (cn (.int .i16 0)))) <|
 aX 27 (pP 23 (cn (.bool true)) 26) <|
 aX 28 (pM 27) <|
 aX 29 (pG 28 false (pL true 2 4)) <|
 aX 30 (pG 28 false (pK c false 58 [29])) <|
 aX 31 (pG 28 false (pB .gtr 2 30 (cn (.int .i64 200)))) <|
 aX 32 (pP 28 (cn (.bool true)) 31) <|
 aXZ
noncomputable def f51_r8 (c : CallF) : RF := rg [2] <| aX 2 (pM (cn (.bool false))) <|
 aXZ
noncomputable def f51_r9 (c : CallF) : RF := rgD [0, 3, 57] (aY 33 (pM 3) <|
 aY 34 (pB .gtr 3 33 (cn (.int .i64 0))) <|
 aY 35 (pM 34) <|
 aY 36 (pG 35 true (pF 0 1 4)) <|
 aY 37 (pG 35 true (pL false 1 36)) <|
 aY 38 (pG 35 true (pM 0)) <|
 aY 39 (pG 35 true (pM 3)) <|
 aY 40 (pG 35 true (pB .sub 3 39 (cn (.int .i64 1)))) <|
 aY 41 (pG 35 true (pI 2 38 40)) <|
 aY 42 (pG 35 true (pF 0 1 41)) <|
 aY 43 (pG 35 true (pL false 1 42)) <|
 aY 44 (pG 35 true (pB .gtr 23 37 43)) <|
 aY 45 (pG 35 true (pM 44)) <|
 aY 46 (pG 45 false (pF 1 1 4)) <|
 aY 47 (pG 45 false (pL false 1 46)) <|
 aY 48 (pG 45 false (fun n e M => keep (aConvI .i64 (eget e 47)))) <|
 aY 49 (pG 45 false (pM 0)) <|
 aY 50 (pG 45 false (pM 3)) <|
 aY 51 (pG 45 false (pB .sub 3 50 (cn (.int .i64 1)))) <|
 aY 52 (pG 45 false (pI 2 49 51)) <|
 aY 53 (pG 45 false (pL true 2 52)) <|
 aY 54 (pG 45 false (pK c false 58 [53])) <|
 aY 55 (pG 45 false (pB .leq 2 48 54)) <|
 aY 56 (pG 35 true (pP 45 (cn (.bool true)) 55)) <|
 aY 57 (pP 35 56 (cn (.bool false))) <|
 aYZ)
 (aXZ)
noncomputable def f51_r10 (c : CallF) : RF := rg [2] <| aX 2 (pM (cn (.bool false))) <|
 aXZ
noncomputable def f51_r11 (c : CallF) : RF := rg [2] <| aX 2 (pM (cn (.bool true))) <|
 aXZ
noncomputable def f51_l4 (c : CallF) (k : Nat) : St :=
 (bSeq (bSeq (bReg (f51_r4 c))
 (bCond (.tmp 11) (bEx .nrm) (bEx (.ext 0))))
 (bSeq (bBlock 1 (bSeq (bReg (f51_r6 c))
 (bSeq (bSeq (bReg (f51_r7 c))
 (bCond (.tmp 32) (bSeq (bReg (f51_r8 c))
 (bEx .ret)) (bEx .nrm)))
 (bSeq (bReg (f51_r9 c))
 (bCond (.tmp 57) (bSeq (bReg (f51_r10 c))
 (bEx .ret)) (bEx .nrm))))))
 (bReg (f51_r5 c))))
noncomputable def f51 (c : CallF) (k : Nat) : St :=
 (bSeq (bReg (f51_r0 c))
 (bSeq (bSeq (bReg (f51_r1 c))
 (bCond (.tmp 7) (bSeq (bReg (f51_r2 c))
 (bEx .ret)) (bEx .nrm)))
 (bSeq (bSeq (bReg (f51_r3 c))
 (bBlock 0 (bLoop [0, 3] (f51_l4 c k) k)))
 (bSeq (bReg (f51_r11 c))
 (bEx .ret)))))
theorem f51_eq (c : CallF) (k : Nat) : exec cx c 58 f51_an k (Try.f51.body.getD .skip) = f51 c k := by kernel_rfl
/-! ### f52: loop.example/g01263/spec.l01Grain -/
def f52_an : Ann := ⟨[(0, r0 [1]), (1, r0 [1, 3]), (2, r0 [1, 3, 5]), (3, r0 [1, 3]), (4, r0 [1, 3, 17]), (5, r0 [2]), (6, r0 [2])], [(2, [1, 3])]⟩
noncomputable def f52_r0 (c : CallF) : RF := rg [1] <| aX 1 (pBox 16 0) <|
 aX 2 (pM (cn (.bool false))) <|
 aXZ
noncomputable def f52_r1 (c : CallF) : RF := rg [1, 3] <| aX 3 (pM (cn (.int .i64 0))) <|
 aXZ
noncomputable def f52_r2 (c : CallF) : RF := rg [1, 3, 5] <| aX 4 (pM 3) <|
 aX 5 (pB .lss 3 4 (cn (.int .i64 16))) <|
 aXZ
noncomputable def f52_r3 (c : CallF) : RF := rg [1, 3] <| aX 6 (pM 3) <|
 aX 7 (pB .add 3 6 (cn (.int .i64 1))) <|
 aX 3 (pM 7) <|
 aXZ
noncomputable def f52_r4 (c : CallF) : RF := rg [1, 3, 17] <| aX 8 (pM 3) <|
 aX 9 (fun n e M => keep (aIndexP 16 1 (eget e 1) (eget e 8) M)) <|
 aX 10 (pL false 1 9) <|
 aX 11 (pB .lss 23 10 (cn (.int .i8 (-3)))) <|
 aX 12 (pM 11) <|
 aX 13 (pG 12 false (pM 3)) <|
 aX 14 (pG 12 false (fun n e M => keep (aIndexP 16 1 (eget e 1) (eget e 13) M))) <|
 aX 15 (pG 12 false (pL false 1 14)) <|
 aX 16 (pG 12 false (pB .gtr 23 15 (cn (.int .i8 3)))) <|
 aX 17 (pP 12 (cn (.bool true)) 16) <|
 aXZ
noncomputable def f52_r5 (c : CallF) : RF := rg [2] <| aX 2 (pM (cn (.bool false))) <|
 aXZ
noncomputable def f52_r6 (c : CallF) : RF := rg [2] <| aX 2 (pM (cn (.bool true))) <|
 aXZ
noncomputable def f52_l2 (c : CallF) (k : Nat) : St :=
 (bSeq (bSeq (bReg (f52_r2 c))
 (bCond (.tmp 5) (bEx .nrm) (bEx (.ext 0))))
 (bSeq (bBlock 1 (bSeq (bReg (f52_r4 c))
 (bCond (.tmp 17) (bSeq (bReg (f52_r5 c))
 (bEx .ret)) (bEx .nrm))))
 (bReg (f52_r3 c))))
noncomputable def f52 (c : CallF) (k : Nat) : St :=
 (bSeq (bReg (f52_r0 c))
 (bSeq (bSeq (bReg (f52_r1 c))
 (bBlock 0 (bLoop [1, 3] (f52_l2 c k) k)))
 (bSeq (bReg (f52_r6 c))
 (bEx .ret))))
theorem f52_eq (c : CallF) (k : Nat) : exec cx c 18 f52_an k (Try.f52.body.getD .skip) = f52 c k := by kernel_rfl
/-! ### f53: loop.example/g01263/impl.isLetters -/
def f53_an : Ann := ⟨[(0, r0 [0, 1]), (1, r0 [0, 1, 7, 8]), (2, r0 [0, 1, 7, 8, 9]), (3, r0 [0, 1, 5, 7, 8]), (4, r0 [0, 1, 7, 8, 20]), (5, r0 [4]), (6, r0 [0, 1, 7, 8]), (7, r0 [4])], [(2, [0, 1, 7, 8])]⟩
noncomputable def f53_r0 (c : CallF) : RF := rg [0, 1] <| aX 4 (pM (cn (.bool false))) <|
 aXZ
noncomputable def f53_r1 (c : CallF) : RF := rg [0, 1, 7, 8] <| aX 6 (pM 0) <|
 aX 7 (pLen 9 6) <|
 aX 8 (pM (cn (.int .i64 0))) <|
 aXZ
noncomputable def f53_r2 (c : CallF) : RF := rg [0, 1, 7, 8, 9] <| aX 9 (pB .lss 3 8 7) <|
 aXZ
noncomputable def f53_r3 (c : CallF) : RF := rg [0, 1, 5, 7, 8] <| aX 10 (pM 8) <|
 aX 5 (pM 10) <|
 aXZ
noncomputable def f53_r4 (c : CallF) : RF := rg [0, 1, 7, 8, 20] <| aX 11 (pM 0) <|
 aX 12 (pM 5) <|
 aX 13 (fun n e M => keep (aIndexB (eget e 11) (eget e 12))) <|
 aX 14 (pB .lss 5 13 (cn (.int .u8 97))) <|
 aX 15 (pM 14) <|
 aX 16 (pG 15 false (pM 0)) <|
 aX 17 (pG 15 false (pM 5)) <|
 aX 18 (pG 15 false (fun n e M => keep (aIndexB (eget e 16) (eget e 17)))) <|
 aX 19 (pG 15 false (pB .gtr 5 18 (cn (.int .u8 122)))) <|
 aX 20 (pP 15 (cn (.bool true)) 19) <|
 aXZ
noncomputable def f53_r5 (c : CallF) : RF := rg [4] <| aX 4 (pM (cn (.bool false))) <|
 aXZ
noncomputable def f53_r6 (c : CallF) : RF := rg [0, 1, 7, 8] <| aX 21 (pB .add 3 8 (cn (.int .i64 1))) <|
 aX 8 (pM 21) <|
 aXZ
noncomputable def f53_r7 (c : CallF) : RF := rg [4] <| aX 22 (pM 0) <|
 aX 23 (pLen 9 22) <|
 aX 24 (pB .geq 3 23 (cn (.int .i64 1))) <|
 aX 25 (pM 24) <|
 aX 26 (pG 25 true (pM 0)) <|
 aX 27 (pG 25 true (pLen 9 26)) <|
 aX 28 (pG 25 true (pM 1)) <|
 aX 29 (pG 25 true (pB .leq 3 27 28)) <|
 aX 30 (pP 25 29 (cn (.bool false))) <|
 aX 4 (pM 30) <|
 aXZ
noncomputable def f53_l2 (c : CallF) (k : Nat) : St :=
 (bSeq (bReg (f53_r2 c))
 (bSeq (bCond (.tmp 9) (bEx .nrm) (bEx (.ext 0)))
 (bSeq (bBlock 1 (bSeq (bReg (f53_r3 c))
 (bSeq (bReg (f53_r4 c))
 (bCond (.tmp 20) (bSeq (bReg (f53_r5 c))
 (bEx .ret)) (bEx .nrm)))))
 (bReg (f53_r6 c)))))
noncomputable def f53 (c : CallF) (k : Nat) : St :=
 (bSeq (bReg (f53_r0 c))
 (bSeq (bSeq (bReg (f53_r1 c))
 (bBlock 0 (bLoop [0, 1, 7, 8] (f53_l2 c k) k)))
 (bSeq (bReg (f53_r7 c))
 (bEx .ret))))
theorem f53_eq (c : CallF) (k : Nat) : exec cx c 31 f53_an k (Try.f53.body.getD .skip) = f53 c k := by kernel_rfl
/-! ### f54: loop.example/g01263/impl.ValidGrain -/
def f54_an : Ann := ⟨[(0, r0 [1]), (1, r0 [5, 6]), (2, r0 [5, 6, 7]), (3, r0 [4, 5, 6]), (4, r0 [5, 6, 14]), (5, r0 [2]), (6, r0 [5, 6]), (7, r0 [2])], [(2, [5, 6])]⟩
noncomputable def f54_r0 (c : CallF) : RF := rg [1] <| aX 1 (pBox 16 0) <|
 aX 2 (pM (cn (.bool false))) <|
 aXZ
noncomputable def f54_r1 (c : CallF) : RF := rg [5, 6] <| aX 5 (pL true 16 1) <|
 aX 6 (pM (cn (.int .i64 0))) <|
 aXZ
noncomputable def f54_r2 (c : CallF) : RF := rg [5, 6, 7] <| aX 7 (pB .lss 3 6 (cn (.int .i64 16))) <|
 aXZ
noncomputable def f54_r3 (c : CallF) : RF := rg [4, 5, 6] <| aX 8 (fun n e M => keep (aIndexA false 16 1 (eget e 5) (eget e 6))) <|
 aX 4 (pM 8) <|
 aXZ
noncomputable def f54_r4 (c : CallF) : RF := rg [5, 6, 14] <| aX 9 (pM 4) <|
 aX 10 (pB .lss 23 9 (cn (.int .i8 (-3)))) <|
 aX 11 (pM 10) <|
 aX 12 (pG 11 false (pM 4)) <|
 aX 13 (pG 11 false (pB .gtr 23 12 (cn (.int .i8 3)))) <|
 aX 14 (pP 11 (cn (.bool true)) 13) <|
 aXZ
noncomputable def f54_r5 (c : CallF) : RF := rg [2] <| aX 2 (pM (cn (.bool false))) <|
 aXZ
noncomputable def f54_r6 (c : CallF) : RF := rg [5, 6] <| aX 15 (pB .add 3 6 (cn (.int .i64 1))) <|
 aX 6 (pM 15) <|
 aXZ
noncomputable def f54_r7 (c : CallF) : RF := rg [2] <| aX 2 (pM (cn (.bool true))) <|
 aXZ
noncomputable def f54_l2 (c : CallF) (k : Nat) : St :=
 (bSeq (bReg (f54_r2 c))
 (bSeq (bCond (.tmp 7) (bEx .nrm) (bEx (.ext 0)))
 (bSeq (bBlock 1 (bSeq (bReg (f54_r3 c))
 (bSeq (bReg (f54_r4 c))
 (bCond (.tmp 14) (bSeq (bReg (f54_r5 c))
 (bEx .ret)) (bEx .nrm)))))
 (bReg (f54_r6 c)))))
noncomputable def f54 (c : CallF) (k : Nat) : St :=
 (bSeq (bReg (f54_r0 c))
 (bSeq (bSeq (bReg (f54_r1 c))
 (bBlock 0 (bLoop [5, 6] (f54_l2 c k) k)))
 (bSeq (bReg (f54_r7 c))
 (bEx .ret))))
theorem f54_eq (c : CallF) (k : Nat) : exec cx c 16 f54_an k (Try.f54.body.getD .skip) = f54 c k := by kernel_rfl
/-! ### f55: loop.example/g01263/impl.isKind -/
def f55_an : Ann := ⟨[(0, r0 [0]), (1, r0 [2])], []⟩
noncomputable def f55_r0 (c : CallF) : RF := rg [0] <| aX 2 (pM (cn (.bool false))) <|
 aXZ
noncomputable def f55_r1 (c : CallF) : RF := rg [2] <| aX 3 (pM 0) <|
 aX 4 (pB .geq 2 3 (cn (.int .i64 0))) <|
 aX 5 (pM 4) <|
 aX 6 (pG 5 true (pM 0)) <|
 aX 7 (pG 5 true (pB .leq 2 6 (cn (.int .i64 5)))) <|
 aX 8 (pP 5 7 (cn (.bool false))) <|
 aX 2 (pM 8) <|
 aXZ
noncomputable def f55 (c : CallF) (k : Nat) : St :=
 (bSeq (bReg (f55_r0 c))
 (bSeq (bReg (f55_r1 c))
 (bEx .ret)))
theorem f55_eq (c : CallF) (k : Nat) : exec cx c 9 f55_an k (Try.f55.body.getD .skip) = f55 c k := by kernel_rfl
/-! ### f56: (loop.example/g01263/impl.Notch).end -/
def f56_an : Ann := ⟨[(0, r0 [1]), (1, r0 [2])], []⟩
noncomputable def f56_r0 (c : CallF) : RF := rg [1] <| aX 1 (pBox 2 0) <|
 aX 2 (pM (cn (.int .i64 0))) <|
 aXZ
noncomputable def f56_r1 (c : CallF) : RF := rgD [2] (aY 3 (pF 1 1 1) <|
 aY 4 (pL false 1 3) <|
 aY 5 (fun n e M => keep (aConvI .i64 (eget e 4))) <|
 aY 6 (pF 0 1 1) <|
 aY 7 (pL false 1 6) <|
 aY 8 (fun n e M => keep (aConvI .i64 (eget e 7))) <|
 aY 9 (pK c false 59 [8]) <|
 aY 10 (pB .add 2 5 9) <|
 aY 2 (pM 10) <|
 aYZ)
 (aXZ)
noncomputable def f56 (c : CallF) (k : Nat) : St :=
 (bSeq (bReg (f56_r0 c))
 (bSeq (bReg (f56_r1 c))
 (bEx .ret)))
theorem f56_eq (c : CallF) (k : Nat) : exec cx c 11 f56_an k (Try.f56.body.getD .skip) = f56 c k := by kernel_rfl
/-! ### f57: loop.example/g01263/spec.l01Kind -/
def f57_an : Ann := ⟨[(0, r0 [0]), (1, r0 [2])], []⟩
noncomputable def f57_r0 (c : CallF) : RF := rg [0] <| aX 2 (pM (cn (.bool false))) <|
 aXZ
noncomputable def f57_r1 (c : CallF) : RF := rg [2] <| aX 3 (pM 0) <|
 aX 4 (pK c false 43 [3, (cn (.int .i64 0)), (cn (.int .i64 5))]) <|
 aX 2 (pM 4) <|
 aXZ
noncomputable def f57 (c : CallF) (k : Nat) : St :=
 (bSeq (bReg (f57_r0 c))
 (bSeq (bReg (f57_r1 c))
 (bEx .ret)))
theorem f57_eq (c : CallF) (k : Nat) : exec cx c 5 f57_an k (Try.f57.body.getD .skip) = f57 c k := by kernel_rfl
/-! ### f58: loop.example/g01263/spec.l01Ends -/
def f58_an : Ann := ⟨[(0, r0 [1]), (1, r0 [2])], []⟩
noncomputable def f58_r0 (c : CallF) : RF := rg [1] <| aX 1 (pBox 2 0) <|
 aX 2 (pM (cn (.int .i64 0))) <|
 aXZ
noncomputable def f58_r1 (c : CallF) : RF := rgD [2] (aY 3 (pF 1 1 1) <|
 aY 4 (pL false 1 3) <|
 aY 5 (fun n e M => keep (aConvI .i64 (eget e 4))) <|
 aY 6 (pK c false 60 []) <|
 aY 7 (pF 0 1 1) <|
 aY 8 (pL false 1 7) <|
 aY 9 (pI 1 6 8) <|
 aY 10 (pL false 1 9) <|
 aY 11 (pB .add 2 5 10) <|
 aY 2 (pM 11) <|
 aYZ)
 (aXZ)
noncomputable def f58 (c : CallF) (k : Nat) : St :=
 (bSeq (bReg (f58_r0 c))
 (bSeq (bReg (f58_r1 c))
 (bEx .ret)))
theorem f58_eq (c : CallF) (k : Nat) : exec cx c 12 f58_an k (Try.f58.body.getD .skip) = f58 c k := by kernel_rfl
/-! ### f59: loop.example/g01263/impl.width -/
def f59_an : Ann := ⟨[(0, r0 [0]), (1, r0 [2])], []⟩
noncomputable def f59_r0 (c : CallF) : RF := rg [0] <| aX 2 (pM (cn (.int .i64 0))) <|
 aXZ
noncomputable def f59_r1 (c : CallF) : RF := rg [2] <| aX 3 (fun n e M => keep (aLitI 2 1 [(.int .i64 1), (.int .i64 2), (.int .i64 4), (.int .i64 6), (.int .i64 9), (.int .i64 12)] M)) <|
 aX 4 (pM 0) <|
 aX 5 (pI 1 3 4) <|
 aX 6 (pL false 1 5) <|
 aX 2 (pM 6) <|
 aXZ
noncomputable def f59 (c : CallF) (k : Nat) : St :=
 (bSeq (bReg (f59_r0 c))
 (bSeq (bReg (f59_r1 c))
 (bEx .ret)))
theorem f59_eq (c : CallF) (k : Nat) : exec cx c 7 f59_an k (Try.f59.body.getD .skip) = f59 c k := by kernel_rfl
/-! ### f60: loop.example/g01263/spec.l01Widths -/
def f60_an : Ann := ⟨[(0, r0 []), (1, r0 [0])], []⟩
noncomputable def f60_r0 (c : CallF) : RF := rg [] <| aX 0 (pM (cn .nils)) <|
 aXZ
noncomputable def f60_r1 (c : CallF) : RF := rg [0] <| aX 1 (fun n e M => keep (aLitI 2 1 [(.int .i64 1), (.int .i64 2), (.int .i64 4), (.int .i64 6), (.int .i64 9), (.int .i64 12)] M)) <|
 aX 0 (pM 1) <|
 aXZ
noncomputable def f60 (c : CallF) (k : Nat) : St :=
 (bSeq (bReg (f60_r0 c))
 (bSeq (bReg (f60_r1 c))
 (bEx .ret)))
theorem f60_eq (c : CallF) (k : Nat) : exec cx c 2 f60_an k (Try.f60.body.getD .skip) = f60 c k := by kernel_rfl
def anns : List (Nat × Ann) := [(4, f4_an), (5, f5_an), (7, f7_an), (9, f9_an), (10, f10_an), (11, f11_an), (12, f12_an), (13, f13_an), (14, f14_an), (15, f15_an), (16, f16_an), (17, f17_an), (19, f19_an), (20, f20_an), (22, f22_an), (23, f23_an), (24, f24_an), (25, f25_an), (26, f26_an), (27, f27_an), (28, f28_an), (29, f29_an), (30, f30_an), (31, f31_an), (33, f33_an), (34, f34_an), (35, f35_an), (38, f38_an), (39, f39_an), (40, f40_an), (41, f41_an), (42, f42_an), (43, f43_an), (44, f44_an), (45, f45_an), (46, f46_an), (48, f48_an), (50, f50_an), (51, f51_an), (52, f52_an), (53, f53_an), (54, f54_an), (55, f55_an), (56, f56_an), (57, f57_an), (58, f58_an), (59, f59_an), (60, f60_an)]
noncomputable def CN0 : Nat → CallF := callN cx (Go.Ab.look anns) (fun _ _ _ => none) (fun _ => false)
def isP (f : Nat) : Bool := has [] f
noncomputable def primF : CallF := splitNil (callN cx (Go.Ab.look anns) (fun _ _ _ => none) (fun _ => false) 3)
noncomputable def CN : Nat → CallF := callN cx (Go.Ab.look anns) primF isP
end Go.Proofs.Ythkbjnbbahmpkab

/- Printed by a program of ours (ext.py). -/
import Derived.Test.YthkbjnbbahmpkaaAbArr
import Derived.Test.YthkbjnbbahmpkaaProg
set_option linter.unusedVariables false
set_option linter.unusedSimpArgs false
set_option maxRecDepth 100000
set_option maxHeartbeats 2000000
namespace Go.Proofs.Ythkbjnbbahmpkaa
open Go Go.Ab
noncomputable def cx : Cx := ⟨Try.prog, fun f => has [28, 29, 59, 60] f⟩
noncomputable abbrev pB := pB_ cx.P
noncomputable abbrev pLen := pLen_ cx.P
noncomputable abbrev pAl := pAl_ cx.P
noncomputable abbrev pK := pK_ cx
/-! ### f8: loop.example/g01263/laws.FnExactDebtsIn -/
def f8_an : Ann := ⟨[(0, r0 [1]), (1, r0 [1, 3]), (2, r0 [1, 3]), (3, r0 [1, 18]), (4, r0 [2]), (5, r0 [1, 4, 5]), (6, ⟨[], [1], [], [], [1, 4, 5, 6]⟩), (7, ⟨[], [1], [], [], [1, 4, 5, 6, 7, 8]⟩), (8, r0 [1, 4, 5, 6, 7, 8, 40]), (9, r0 [2]), (10, r0 [1, 4, 5, 6, 7, 8, 45]), (11, r0 [2]), (12, r0 [1, 4, 5, 6, 7, 8, 9]), (13, r0 [1, 4, 5, 7, 8, 9]), (14, r0 [1, 4, 5, 7, 61]), (15, r0 [2]), (16, r0 [1, 4, 5, 7, 10]), (17, r0 [1, 4, 5, 7, 10]), (18, r0 [1, 4, 5, 7, 10, 11]), (19, r0 [1, 4, 5, 7, 10, 11]), (20, r0 [1, 4, 5, 7, 10, 11, 69]), (21, r0 [2]), (22, r0 [1, 4, 5, 7, 10, 72]), (23, r0 [2]), (24, r0 [4, 5, 7, 10, 12, 13]), (25, r0 [7, 10, 87]), (26, r0 [2]), (27, r0 [7, 10, 11]), (28, r0 [10, 11]), (29, r0 [10, 11, 92]), (30, r0 [2]), (31, r0 [95]), (32, r0 [2]), (33, r0 [2])], []⟩
noncomputable def f8_r0 (c : CallF) : RF := rg [1] <| aX 1 (pBox 3 0) <|
 aX 2 (pM (cn (.bool false))) <|
 aXZ
noncomputable def f8_r1 (c : CallF) : RF := rg [1, 3] <| aX 3 (pM (cn (.int .i64 1048576))) <|
 aXZ
noncomputable def f8_r2 (c : CallF) : RF := rg [1, 3] <| aX 14 (pL true 3 1) <|
 aX 15 (pM 3) <|
 aX 16 (pK c false 22 [14, 15]) <|
 aX 3 (pM 16) <|
 aXZ
noncomputable def f8_r3 (c : CallF) : RF := rg [1, 18] <| aX 17 (pM 3) <|
 aX 18 (pB .lss 3 17 (cn (.int .i64 0))) <|
 aXZ
noncomputable def f8_r4 (c : CallF) : RF := rg [2] <| aX 2 (pM (cn (.bool true))) <|
 aXZ
noncomputable def f8_r5 (c : CallF) : RF := rg [1, 4, 5] <| aX 20 (pL true 3 1) <|
 aX 21 (pK c false 24 [20]) <|
 aX 22 (pK c false 23 [21]) <|
 aX 19 (pM 22) <|
 aX 23 (pE 0 19) <|
 aX 24 (pE 1 19) <|
 aX 4 (pM 23) <|
 aX 5 (pM 24) <|
 aXZ
noncomputable def f8_r6 (c : CallF) : RF := rg [1, 4, 5, 6] <| aX 25 (pL true 3 1) <|
 aX 26 (pK c true 24 [25]) <|
 aX 6 (pAl 59 3) <|
 aX0 (pS 3 6 26) <|
 aXZ
noncomputable def f8_r7 (c : CallF) : RF := rg [1, 4, 5, 6, 7, 8] <| aX 28 (pL true 3 6) <|
 aX 29 (pK c true 25 [28]) <|
 aX 27 (pM 29) <|
 aX 30 (pE 0 27) <|
 aX 31 (pE 1 27) <|
 aX 7 (pM 30) <|
 aX 8 (pM 31) <|
 aXZ
noncomputable def f8_r8 (c : CallF) : RF := rg [1, 4, 5, 6, 7, 8, 40] <| aX 32 (pM 7) <|
 aX 33 (pM 4) <|
 aX 34 (pK c false 26 [32, 33]) <|
 aX 35 (pU .not 34) <|
 aX 36 (pM 35) <|
 aX 37 (pG 36 false (pM 8)) <|
 aX 38 (pG 36 false (pM 5)) <|
 aX 39 (pG 36 false (pB .neq 2 37 38)) <|
 aX 40 (pP 36 (cn (.bool true)) 39) <|
 aXZ
noncomputable def f8_r9 (c : CallF) : RF := rg [2] <| aX 2 (pM (cn (.bool false))) <|
 aXZ
noncomputable def f8_r10 (c : CallF) : RF := rgD [1, 4, 5, 6, 7, 8, 45] (aY 41 (pL true 3 6) <|
 aY 42 (pL true 3 1) <|
 aY 43 (pK c false 24 [42]) <|
 aY 44 (pK c false 27 [41, 43]) <|
 aY 45 (pU .not 44) <|
 aYZ)
 (aXZ)
noncomputable def f8_r11 (c : CallF) : RF := rg [2] <| aX 2 (pM (cn (.bool false))) <|
 aXZ
noncomputable def f8_r12 (c : CallF) : RF := rg [1, 4, 5, 6, 7, 8, 9] <| aX 9 (pM (cn (.int .i64 1))) <|
 aXZ
noncomputable def f8_r13 (c : CallF) : RF := rg [1, 4, 5, 7, 8, 9] <| aX 46 (pL true 3 6) <|
 aX 47 (pM 9) <|
 aX 48 (pK c false 28 [46, 47]) <|
 aX 9 (pM 48) <|
 aXZ
noncomputable def f8_r14 (c : CallF) : RF := rg [1, 4, 5, 7, 61] <| aX 49 (pM 9) <|
 aX 50 (pB .lss 3 49 (cn (.int .i64 0))) <|
 aX 51 (pM 50) <|
 aX 52 (pG 51 false (pM 7)) <|
 aX 53 (pG 51 false (pM 4)) <|
 aX 54 (pG 51 false (pK c false 26 [52, 53])) <|
 aX 55 (pG 51 false (pU .not 54)) <|
 aX 56 (pP 51 (cn (.bool true)) 55) <|
 aX 57 (pM 56) <|
 aX 58 (pG 57 false (pM 8)) <|
 aX 59 (pG 57 false (pM 5)) <|
 aX 60 (pG 57 false (pB .neq 2 58 59)) <|
 aX 61 (pP 57 (cn (.bool true)) 60) <|
 aXZ
noncomputable def f8_r15 (c : CallF) : RF := rg [2] <| aX 2 (pM (cn (.bool false))) <|
 aXZ
noncomputable def f8_r16 (c : CallF) : RF := rg [1, 4, 5, 7, 10] <| aX 10 (pM (cn (.int .i64 1))) <|
 aXZ
noncomputable def f8_r17 (c : CallF) : RF := rg [1, 4, 5, 7, 10] <| aX 62 (pM 7) <|
 aX 63 (pM 10) <|
 aX 64 (pK c false 29 [62, 63]) <|
 aX 10 (pM 64) <|
 aXZ
noncomputable def f8_r18 (c : CallF) : RF := rg [1, 4, 5, 7, 10, 11] <| aX 11 (pM (cn (.int .i64 1))) <|
 aXZ
noncomputable def f8_r19 (c : CallF) : RF := rg [1, 4, 5, 7, 10, 11] <| aX 65 (pM 7) <|
 aX 66 (pM 11) <|
 aX 67 (pK c false 30 [65, 66]) <|
 aX 11 (pM 67) <|
 aXZ
noncomputable def f8_r20 (c : CallF) : RF := rg [1, 4, 5, 7, 10, 11, 69] <| aX 68 (pM 11) <|
 aX 69 (pB .lss 3 68 (cn (.int .i64 0))) <|
 aXZ
noncomputable def f8_r21 (c : CallF) : RF := rg [2] <| aX 2 (pM (cn (.bool false))) <|
 aXZ
noncomputable def f8_r22 (c : CallF) : RF := rg [1, 4, 5, 7, 10, 72] <| aX 70 (pM 11) <|
 aX 71 (pM 10) <|
 aX 72 (pB .neq 3 70 71) <|
 aXZ
noncomputable def f8_r23 (c : CallF) : RF := rg [2] <| aX 2 (pM (cn (.bool false))) <|
 aXZ
noncomputable def f8_r24 (c : CallF) : RF := rg [4, 5, 7, 10, 12, 13] <| aX 74 (pL true 3 1) <|
 aX 75 (pK c false 24 [74]) <|
 aX 76 (pK c false 25 [75]) <|
 aX 73 (pM 76) <|
 aX 77 (pE 0 73) <|
 aX 78 (pE 1 73) <|
 aX 12 (pM 77) <|
 aX 13 (pM 78) <|
 aXZ
noncomputable def f8_r25 (c : CallF) : RF := rg [7, 10, 87] <| aX 79 (pM 12) <|
 aX 80 (pM 4) <|
 aX 81 (pK c false 26 [79, 80]) <|
 aX 82 (pU .not 81) <|
 aX 83 (pM 82) <|
 aX 84 (pG 83 false (pM 13)) <|
 aX 85 (pG 83 false (pM 5)) <|
 aX 86 (pG 83 false (pB .neq 2 84 85)) <|
 aX 87 (pP 83 (cn (.bool true)) 86) <|
 aXZ
noncomputable def f8_r26 (c : CallF) : RF := rg [2] <| aX 2 (pM (cn (.bool false))) <|
 aXZ
noncomputable def f8_r27 (c : CallF) : RF := rg [7, 10, 11] <| aX 11 (pM (cn (.int .i64 1))) <|
 aXZ
noncomputable def f8_r28 (c : CallF) : RF := rg [10, 11] <| aX 88 (pM 7) <|
 aX 89 (pM 11) <|
 aX 90 (pK c false 30 [88, 89]) <|
 aX 11 (pM 90) <|
 aXZ
noncomputable def f8_r29 (c : CallF) : RF := rg [10, 11, 92] <| aX 91 (pM 11) <|
 aX 92 (pB .lss 3 91 (cn (.int .i64 0))) <|
 aXZ
noncomputable def f8_r30 (c : CallF) : RF := rg [2] <| aX 2 (pM (cn (.bool false))) <|
 aXZ
noncomputable def f8_r31 (c : CallF) : RF := rg [95] <| aX 93 (pM 11) <|
 aX 94 (pM 10) <|
 aX 95 (pB .neq 3 93 94) <|
 aXZ
noncomputable def f8_r32 (c : CallF) : RF := rg [2] <| aX 2 (pM (cn (.bool false))) <|
 aXZ
noncomputable def f8_r33 (c : CallF) : RF := rg [2] <| aX 2 (pM (cn (.bool true))) <|
 aXZ
noncomputable def f8 (c : CallF) (k : Nat) : St :=
 (bSeq (bReg (f8_r0 c))
 (bSeq (bReg (f8_r1 c))
 (bSeq (bReg (f8_r2 c))
 (bSeq (bSeq (bReg (f8_r3 c))
 (bCond (.tmp 18) (bSeq (bReg (f8_r4 c))
 (bEx .ret)) (bEx .nrm)))
 (bSeq (bReg (f8_r5 c))
 (bSeq (bReg (f8_r6 c))
 (bSeq (bReg (f8_r7 c))
 (bSeq (bSeq (bReg (f8_r8 c))
 (bCond (.tmp 40) (bSeq (bReg (f8_r9 c))
 (bEx .ret)) (bEx .nrm)))
 (bSeq (bSeq (bReg (f8_r10 c))
 (bCond (.tmp 45) (bSeq (bReg (f8_r11 c))
 (bEx .ret)) (bEx .nrm)))
 (bSeq (bReg (f8_r12 c))
 (bSeq (bReg (f8_r13 c))
 (bSeq (bSeq (bReg (f8_r14 c))
 (bCond (.tmp 61) (bSeq (bReg (f8_r15 c))
 (bEx .ret)) (bEx .nrm)))
 (bSeq (bReg (f8_r16 c))
 (bSeq (bReg (f8_r17 c))
 (bSeq (bReg (f8_r18 c))
 (bSeq (bReg (f8_r19 c))
 (bSeq (bSeq (bReg (f8_r20 c))
 (bCond (.tmp 69) (bSeq (bReg (f8_r21 c))
 (bEx .ret)) (bEx .nrm)))
 (bSeq (bSeq (bReg (f8_r22 c))
 (bCond (.tmp 72) (bSeq (bReg (f8_r23 c))
 (bEx .ret)) (bEx .nrm)))
 (bSeq (bReg (f8_r24 c))
 (bSeq (bSeq (bReg (f8_r25 c))
 (bCond (.tmp 87) (bSeq (bReg (f8_r26 c))
 (bEx .ret)) (bEx .nrm)))
 (bSeq (bReg (f8_r27 c))
 (bSeq (bReg (f8_r28 c))
 (bSeq (bSeq (bReg (f8_r29 c))
 (bCond (.tmp 92) (bSeq (bReg (f8_r30 c))
 (bEx .ret)) (bEx .nrm)))
 (bSeq (bSeq (bReg (f8_r31 c))
 (bCond (.tmp 95) (bSeq (bReg (f8_r32 c))
 (bEx .ret)) (bEx .nrm)))
 (bSeq (bReg (f8_r33 c))
 (bEx .ret))))))))))))))))))))))))))
theorem f8_eq (c : CallF) (k : Nat) : exec cx c 96 f8_an k (Try.f8.body.getD .skip) = f8 c k := by kernel_rfl
/-! ### f22: loop.example/g01263/laws.szBook -/
def f22_an : Ann := ⟨[(0, r0 [1, 2]), (1, r0 [1, 2]), (2, r0 [1, 2, 10]), (3, r0 [4]), (4, r0 [1]), (5, r0 [1, 16]), (6, r0 [4]), (7, r0 [4])], []⟩
noncomputable def f22_r0 (c : CallF) : RF := rg [1, 2] <| aX 2 (pBox 3 0) <|
 aX 4 (pM (cn (.int .i64 0))) <|
 aXZ
noncomputable def f22_r1 (c : CallF) : RF := rg [1, 2] <| aX 5 (pF 1 1 2) <|
 aX 6 (pL false 1 5) <|
 aX 7 (pM 1) <|
 aX 8 (pK c false 47 [6, 7]) <|
 aX 1 (pM 8) <|
 aXZ
noncomputable def f22_r2 (c : CallF) : RF := rg [1, 2, 10] <| aX 9 (pM 1) <|
 aX 10 (pB .lss 3 9 (cn (.int .i64 0))) <|
 aXZ
noncomputable def f22_r3 (c : CallF) : RF := rg [4] <| aX 4 (pM (cn (.int .i64 (-1)))) <|
 aXZ
noncomputable def f22_r4 (c : CallF) : RF := rg [1] <| aX 11 (pF 2 1 2) <|
 aX 12 (pL false 1 11) <|
 aX 13 (pM 1) <|
 aX 14 (pK c false 48 [12, 13]) <|
 aX 1 (pM 14) <|
 aXZ
noncomputable def f22_r5 (c : CallF) : RF := rg [1, 16] <| aX 15 (pM 1) <|
 aX 16 (pB .lss 3 15 (cn (.int .i64 0))) <|
 aXZ
noncomputable def f22_r6 (c : CallF) : RF := rg [4] <| aX 4 (pM (cn (.int .i64 (-1)))) <|
 aXZ
noncomputable def f22_r7 (c : CallF) : RF := rg [4] <| aX 17 (pM 1) <|
 aX 4 (pM 17) <|
 aXZ
noncomputable def f22 (c : CallF) (k : Nat) : St :=
 (bSeq (bReg (f22_r0 c))
 (bSeq (bReg (f22_r1 c))
 (bSeq (bSeq (bReg (f22_r2 c))
 (bCond (.tmp 10) (bSeq (bReg (f22_r3 c))
 (bEx .ret)) (bEx .nrm)))
 (bSeq (bReg (f22_r4 c))
 (bSeq (bSeq (bReg (f22_r5 c))
 (bCond (.tmp 16) (bSeq (bReg (f22_r6 c))
 (bEx .ret)) (bEx .nrm)))
 (bSeq (bReg (f22_r7 c))
 (bEx .ret)))))))
theorem f22_eq (c : CallF) (k : Nat) : exec cx c 18 f22_an k (Try.f22.body.getD .skip) = f22 c k := by kernel_rfl
/-! ### f23: loop.example/g01263/spec.DebtsIn -/
def f23_an : Ann := ⟨[(0, r0 [1]), (1, r0 [1, 8]), (2, r0 [2, 3]), (3, ⟨[0], [], [], [], [1, 4]⟩), (4, r0 [1, 4, 5]), (5, r0 [1, 4, 5, 15]), (6, r0 [1, 4, 5]), (7, r0 [1, 4, 5, 6]), (8, r0 [1, 4, 5, 6, 26]), (9, ⟨[15], [], [], [15, 16], [1, 4, 5]⟩), (10, r0 [2, 3])], [(5, [1, 4, 5])]⟩
noncomputable def f23_r0 (c : CallF) : RF := rg [1] <| aX 1 (pBox 3 0) <|
 aX 2 (pM (cn .nils)) <|
 aX 3 (pM (cn (.int .i64 0))) <|
 aXZ
noncomputable def f23_r1 (c : CallF) : RF := rg [1, 8] <| aX 7 (pK c false 49 [1]) <|
 aX 8 (pU .not 7) <|
 aXZ
noncomputable def f23_r2 (c : CallF) : RF := rg [2, 3] <| aX 9 (fun n e M => keep (aLitI 94 3 [] M)) <|
 aX 2 (pM 9) <|
 aX 3 (pM (cn (.int .i64 1))) <|
 aXZ
noncomputable def f23_r3 (c : CallF) : RF := rg [1, 4] <| aX 10 (fun n e M => aLitO n 94 3 [] M) <|
 aX 4 (pM 10) <|
 aXZ
noncomputable def f23_r4 (c : CallF) : RF := rg [1, 4, 5] <| aX 5 (pM (cn (.int .i64 0))) <|
 aXZ
noncomputable def f23_r5 (c : CallF) : RF := rg [1, 4, 5, 15] <| aX 11 (pM 5) <|
 aX 12 (pF 2 1 1) <|
 aX 13 (pL false 1 12) <|
 aX 14 (pLen 57 13) <|
 aX 15 (pB .lss 3 11 14) <|
 aXZ
noncomputable def f23_r6 (c : CallF) : RF := rg [1, 4, 5] <| aX 16 (pM 5) <|
 aX 17 (pB .add 3 16 (cn (.int .i64 1))) <|
 aX 5 (pM 17) <|
 aXZ
noncomputable def f23_r7 (c : CallF) : RF := rg [1, 4, 5, 6] <| aX 18 (pF 2 1 1) <|
 aX 19 (pL false 1 18) <|
 aX 20 (pM 5) <|
 aX 21 (pI 5 19 20) <|
 aX 6 (pM 21) <|
 aXZ
noncomputable def f23_r8 (c : CallF) : RF := rg [1, 4, 5, 6, 26] <| aX 22 (pM 6) <|
 aX 23 (pN 22) <|
 aX 24 (pF 4 1 23) <|
 aX 25 (pL false 1 24) <|
 aX 26 (pB .gtr 2 25 (cn (.int .i64 0))) <|
 aXZ
noncomputable def f23_r9 (c : CallF) : RF := rgD [1, 4, 5] (aY 27 (pM 4) <|
 aY 28 (pM 6) <|
 aY 29 (pN 28) <|
 aY 30 (pF 0 1 29) <|
 aY 31 (pL false 1 30) <|
 aY 32 (pM 6) <|
 aY 33 (pN 32) <|
 aY 34 (pF 1 1 33) <|
 aY 35 (pL false 1 34) <|
 aY 36 (pM 6) <|
 aY 37 (pN 36) <|
 aY 38 (pF 4 1 37) <|
 aY 39 (pL false 1 38) <|
 aY 40 (fun n e M => keep (aBuild (zeroOf cx.P 94) [(0, 1, (eget e 31)), (1, 1, (eget e 35)), (2, 1, (eget e 39))] M)) <|
 aY 41 (fun n e M => keep (aLitI 94 3 [(eget e 40)] M)) <|
 aYZ)
 (aX 42 (fun n e M => aAppO n 94 3 24 (eget e 27) (eget e 41) M) <|
 aX 4 (pM 42) <|
 aXZ)
noncomputable def f23_r10 (c : CallF) : RF := rg [2, 3] <| aX 43 (pM 4) <|
 aX 44 (pK c false 51 [43]) <|
 aX 45 (pK c false 50 [44]) <|
 aX 46 (pE 0 45) <|
 aX 47 (pE 1 45) <|
 aX 2 (pM 46) <|
 aX 3 (pM 47) <|
 aXZ
noncomputable def f23_l5 (c : CallF) (k : Nat) : St :=
 (bSeq (bSeq (bReg (f23_r5 c))
 (bCond (.tmp 15) (bEx .nrm) (bEx (.ext 0))))
 (bSeq (bBlock 1 (bSeq (bReg (f23_r7 c))
 (bSeq (bReg (f23_r8 c))
 (bCond (.tmp 26) (bReg (f23_r9 c)) (bEx .nrm)))))
 (bReg (f23_r6 c))))
noncomputable def f23 (c : CallF) (k : Nat) : St :=
 (bSeq (bReg (f23_r0 c))
 (bSeq (bSeq (bReg (f23_r1 c))
 (bCond (.tmp 8) (bSeq (bReg (f23_r2 c))
 (bEx .ret)) (bEx .nrm)))
 (bSeq (bReg (f23_r3 c))
 (bSeq (bSeq (bReg (f23_r4 c))
 (bBlock 0 (bLoop [1, 4, 5] (f23_l5 c k) k)))
 (bSeq (bReg (f23_r10 c))
 (bEx .ret))))))
theorem f23_eq (c : CallF) (k : Nat) : exec cx c 48 f23_an k (Try.f23.body.getD .skip) = f23 c k := by kernel_rfl
/-! ### f24: loop.example/g01263/laws.toBook -/
def f24_an : Ann := ⟨[(0, r0 [1, 2]), (1, r0 [1, 2, 3]), (2, r0 [1, 2, 3]), (3, ⟨[4], [], [], [], [1, 2, 3]⟩), (4, ⟨[4], [], [], [], [2, 3]⟩), (5, ⟨[1], [], [], [], [2]⟩)], []⟩
noncomputable def f24_r0 (c : CallF) : RF := rg [1, 2] <| aX 1 (pBox 3 0) <|
 aX 2 (pAl 59 3) <|
 aXZ
noncomputable def f24_r1 (c : CallF) : RF := rg [1, 2, 3] <| aX 3 (pAl 59 3) <|
 aXZ
noncomputable def f24_r2 (c : CallF) : RF := rg [1, 2, 3] <| aX 4 (pF 0 1 1) <|
 aX 5 (pL false 1 4) <|
 aX 6 (pF 0 1 3) <|
 aX0 (pS 1 6 5) <|
 aXZ
noncomputable def f24_r3 (c : CallF) : RF := rg [1, 2, 3] <| aX 7 (pF 1 1 1) <|
 aX 8 (pL false 1 7) <|
 aX 9 (pK c false 52 [8]) <|
 aX 10 (pF 1 1 3) <|
 aX0 (pSK 1 10 9) <|
 aXZ
noncomputable def f24_r4 (c : CallF) : RF := rg [2, 3] <| aX 11 (pF 2 1 1) <|
 aX 12 (pL false 1 11) <|
 aX 13 (pK c false 53 [12]) <|
 aX 14 (pF 2 1 3) <|
 aX0 (pSK 1 14 13) <|
 aXZ
noncomputable def f24_r5 (c : CallF) : RF := rg [2] <| aX 15 (pL true 3 3) <|
 aX0 (pSK 3 2 15) <|
 aXZ
noncomputable def f24 (c : CallF) (k : Nat) : St :=
 (bSeq (bReg (f24_r0 c))
 (bSeq (bReg (f24_r1 c))
 (bSeq (bReg (f24_r2 c))
 (bSeq (bReg (f24_r3 c))
 (bSeq (bReg (f24_r4 c))
 (bSeq (bReg (f24_r5 c))
 (bEx .ret)))))))
theorem f24_eq (c : CallF) (k : Nat) : exec cx c 16 f24_an k (Try.f24.body.getD .skip) = f24 c k := by kernel_rfl
/-! ### f25: loop.example/g01263/impl.DebtsIn -/
def f25_an : Ann := ⟨[(0, r0 [1]), (1, r0 [1, 9]), (2, r0 [2, 3]), (3, ⟨[0], [], [], [], [1, 4]⟩), (4, r0 [1, 4, 12, 13, 14]), (5, r0 [1, 4, 12, 13, 14, 15]), (6, r0 [1, 4, 6, 12, 13, 14]), (7, r0 [1, 4, 6, 12, 13, 14, 20]), (8, ⟨[9], [], [], [], [1, 4, 12, 13, 14]⟩), (9, r0 [1, 4, 12, 13, 14]), (10, r0 [2, 3])], [(5, [1, 4, 12, 13, 14])]⟩
noncomputable def f25_r0 (c : CallF) : RF := rg [1] <| aX 1 (pBox 3 0) <|
 aX 2 (pM (cn .nils)) <|
 aX 3 (pM (cn (.int .i64 0))) <|
 aXZ
noncomputable def f25_r1 (c : CallF) : RF := rg [1, 9] <| aX 7 (pL true 3 1) <|
 aX 8 (pK c false 54 [7]) <|
 aX 9 (pU .not 8) <|
 aXZ
noncomputable def f25_r2 (c : CallF) : RF := rg [2, 3] <| aX 2 (pM (cn .nils)) <|
 aX 3 (pM (cn (.int .i64 1))) <|
 aXZ
noncomputable def f25_r3 (c : CallF) : RF := rg [1, 4] <| aX 10 (fun n e M => aLitO n 94 3 [] M) <|
 aX 4 (pM 10) <|
 aXZ
noncomputable def f25_r4 (c : CallF) : RF := rg [1, 4, 12, 13, 14] <| aX 11 (pF 2 1 1) <|
 aX 12 (pL false 1 11) <|
 aX 13 (pLen 57 12) <|
 aX 14 (pM (cn (.int .i64 0))) <|
 aXZ
noncomputable def f25_r5 (c : CallF) : RF := rg [1, 4, 12, 13, 14, 15] <| aX 15 (pB .lss 3 14 13) <|
 aXZ
noncomputable def f25_r6 (c : CallF) : RF := rg [1, 4, 6, 12, 13, 14] <| aX 16 (pI 5 12 14) <|
 aX 17 (pL true 5 16) <|
 aX 6 (pAl 92 5) <|
 aX0 (pS 5 6 17) <|
 aXZ
noncomputable def f25_r7 (c : CallF) : RF := rg [1, 4, 6, 12, 13, 14, 20] <| aX 18 (pF 4 1 6) <|
 aX 19 (pL false 1 18) <|
 aX 20 (pB .gtr 2 19 (cn (.int .i64 0))) <|
 aXZ
noncomputable def f25_r8 (c : CallF) : RF := rg [1, 4, 12, 13, 14] <| aX 21 (pM 4) <|
 aX 22 (pF 0 1 6) <|
 aX 23 (pL false 1 22) <|
 aX 24 (pF 1 1 6) <|
 aX 25 (pL false 1 24) <|
 aX 26 (pF 4 1 6) <|
 aX 27 (pL false 1 26) <|
 aX 28 (fun n e M => keep (aBuild (zeroOf cx.P 94) [(0, 1, (eget e 23)), (1, 1, (eget e 25)), (2, 1, (eget e 27))] M)) <|
 aX 29 (fun n e M => keep (aLitI 94 3 [(eget e 28)] M)) <|
 aX 30 (fun n e M => aAppO n 94 3 24 (eget e 21) (eget e 29) M) <|
 aX 4 (pM 30) <|
 aXZ
noncomputable def f25_r9 (c : CallF) : RF := rg [1, 4, 12, 13, 14] <| aX 31 (pB .add 3 14 (cn (.int .i64 1))) <|
 aX 14 (pM 31) <|
 aXZ
noncomputable def f25_r10 (c : CallF) : RF := rg [2, 3] <| aX 32 (pF 1 1 1) <|
 aX 33 (pL false 1 32) <|
 aX 34 (pLen 49 33) <|
 aX 35 (pM 4) <|
 aX 36 (pK c false 55 [34, 35]) <|
 aX 37 (pE 0 36) <|
 aX 38 (pE 1 36) <|
 aX 2 (pM 37) <|
 aX 3 (pM 38) <|
 aXZ
noncomputable def f25_l5 (c : CallF) (k : Nat) : St :=
 (bSeq (bReg (f25_r5 c))
 (bSeq (bCond (.tmp 15) (bEx .nrm) (bEx (.ext 0)))
 (bSeq (bBlock 1 (bSeq (bReg (f25_r6 c))
 (bSeq (bReg (f25_r7 c))
 (bCond (.tmp 20) (bReg (f25_r8 c)) (bEx .nrm)))))
 (bReg (f25_r9 c)))))
noncomputable def f25 (c : CallF) (k : Nat) : St :=
 (bSeq (bReg (f25_r0 c))
 (bSeq (bSeq (bReg (f25_r1 c))
 (bCond (.tmp 9) (bSeq (bReg (f25_r2 c))
 (bEx .ret)) (bEx .nrm)))
 (bSeq (bReg (f25_r3 c))
 (bSeq (bSeq (bReg (f25_r4 c))
 (bBlock 0 (bLoop [1, 4, 12, 13, 14] (f25_l5 c k) k)))
 (bSeq (bReg (f25_r10 c))
 (bEx .ret))))))
theorem f25_eq (c : CallF) (k : Nat) : exec cx c 39 f25_an k (Try.f25.body.getD .skip) = f25 c k := by kernel_rfl
/-! ### f26: loop.example/g01263/laws.eqDebtS -/
def f26_an : Ann := ⟨[(0, r0 [0, 1]), (1, r0 [0, 1, 10]), (2, r0 [4]), (3, r0 [0, 1, 5]), (4, r0 [0, 1, 5, 14]), (5, r0 [0, 1, 5]), (6, r0 [0, 1, 5, 26]), (7, r0 [4]), (8, r0 [4])], [(4, [0, 1, 5])]⟩
noncomputable def f26_r0 (c : CallF) : RF := rg [0, 1] <| aX 4 (pM (cn (.bool false))) <|
 aXZ
noncomputable def f26_r1 (c : CallF) : RF := rg [0, 1, 10] <| aX 6 (pM 0) <|
 aX 7 (pLen 54 6) <|
 aX 8 (pM 1) <|
 aX 9 (pLen 54 8) <|
 aX 10 (pB .neq 3 7 9) <|
 aXZ
noncomputable def f26_r2 (c : CallF) : RF := rg [4] <| aX 4 (pM (cn (.bool false))) <|
 aXZ
noncomputable def f26_r3 (c : CallF) : RF := rg [0, 1, 5] <| aX 5 (pM (cn (.int .i64 0))) <|
 aXZ
noncomputable def f26_r4 (c : CallF) : RF := rg [0, 1, 5, 14] <| aX 11 (pM 5) <|
 aX 12 (pM 0) <|
 aX 13 (pLen 54 12) <|
 aX 14 (pB .lss 3 11 13) <|
 aXZ
noncomputable def f26_r5 (c : CallF) : RF := rg [0, 1, 5] <| aX 15 (pM 5) <|
 aX 16 (pB .add 3 15 (cn (.int .i64 1))) <|
 aX 5 (pM 16) <|
 aXZ
noncomputable def f26_r6 (c : CallF) : RF := rgD [0, 1, 5, 26] (aY 17 (pM 0) <|
 aY 18 (pM 5) <|
 aY 19 (pI 3 17 18) <|
 aY 20 (pL true 3 19) <|
 aY 21 (pM 1) <|
 aY 22 (pM 5) <|
 aY 23 (pI 3 21 22) <|
 aY 24 (pL true 3 23) <|
 aY 25 (pK c false 56 [20, 24]) <|
 aY 26 (pU .not 25) <|
 aYZ)
 (aXZ)
noncomputable def f26_r7 (c : CallF) : RF := rg [4] <| aX 4 (pM (cn (.bool false))) <|
 aXZ
noncomputable def f26_r8 (c : CallF) : RF := rg [4] <| aX 4 (pM (cn (.bool true))) <|
 aXZ
noncomputable def f26_l4 (c : CallF) (k : Nat) : St :=
 (bSeq (bSeq (bReg (f26_r4 c))
 (bCond (.tmp 14) (bEx .nrm) (bEx (.ext 0))))
 (bSeq (bBlock 1 (bSeq (bReg (f26_r6 c))
 (bCond (.tmp 26) (bSeq (bReg (f26_r7 c))
 (bEx .ret)) (bEx .nrm))))
 (bReg (f26_r5 c))))
noncomputable def f26 (c : CallF) (k : Nat) : St :=
 (bSeq (bReg (f26_r0 c))
 (bSeq (bSeq (bReg (f26_r1 c))
 (bCond (.tmp 10) (bSeq (bReg (f26_r2 c))
 (bEx .ret)) (bEx .nrm)))
 (bSeq (bSeq (bReg (f26_r3 c))
 (bBlock 0 (bLoop [0, 1, 5] (f26_l4 c k) k)))
 (bSeq (bReg (f26_r8 c))
 (bEx .ret)))))
theorem f26_eq (c : CallF) (k : Nat) : exec cx c 27 f26_an k (Try.f26.body.getD .skip) = f26 c k := by kernel_rfl
/-! ### f27: loop.example/g01263/laws.eqBook -/
def f27_an : Ann := ⟨[(0, r0 [2, 3]), (1, r0 [2, 3, 9]), (2, r0 [4]), (3, r0 [2, 3, 15]), (4, r0 [4]), (5, r0 [21]), (6, r0 [4]), (7, r0 [4])], []⟩
noncomputable def f27_r0 (c : CallF) : RF := rg [2, 3] <| aX 2 (pBox 3 0) <|
 aX 3 (pBox 3 1) <|
 aX 4 (pM (cn (.bool false))) <|
 aXZ
noncomputable def f27_r1 (c : CallF) : RF := rg [2, 3, 9] <| aX 5 (pF 0 1 2) <|
 aX 6 (pL false 1 5) <|
 aX 7 (pF 0 1 3) <|
 aX 8 (pL false 1 7) <|
 aX 9 (pB .neq 2 6 8) <|
 aXZ
noncomputable def f27_r2 (c : CallF) : RF := rg [4] <| aX 4 (pM (cn (.bool false))) <|
 aXZ
noncomputable def f27_r3 (c : CallF) : RF := rg [2, 3, 15] <| aX 10 (pF 1 1 2) <|
 aX 11 (pL false 1 10) <|
 aX 12 (pF 1 1 3) <|
 aX 13 (pL false 1 12) <|
 aX 14 (pK c false 57 [11, 13]) <|
 aX 15 (pU .not 14) <|
 aXZ
noncomputable def f27_r4 (c : CallF) : RF := rg [4] <| aX 4 (pM (cn (.bool false))) <|
 aXZ
noncomputable def f27_r5 (c : CallF) : RF := rg [21] <| aX 16 (pF 2 1 2) <|
 aX 17 (pL false 1 16) <|
 aX 18 (pF 2 1 3) <|
 aX 19 (pL false 1 18) <|
 aX 20 (pK c false 58 [17, 19]) <|
 aX 21 (pU .not 20) <|
 aXZ
noncomputable def f27_r6 (c : CallF) : RF := rg [4] <| aX 4 (pM (cn (.bool false))) <|
 aXZ
noncomputable def f27_r7 (c : CallF) : RF := rg [4] <| aX 4 (pM (cn (.bool true))) <|
 aXZ
noncomputable def f27 (c : CallF) (k : Nat) : St :=
 (bSeq (bReg (f27_r0 c))
 (bSeq (bSeq (bReg (f27_r1 c))
 (bCond (.tmp 9) (bSeq (bReg (f27_r2 c))
 (bEx .ret)) (bEx .nrm)))
 (bSeq (bSeq (bReg (f27_r3 c))
 (bCond (.tmp 15) (bSeq (bReg (f27_r4 c))
 (bEx .ret)) (bEx .nrm)))
 (bSeq (bSeq (bReg (f27_r5 c))
 (bCond (.tmp 21) (bSeq (bReg (f27_r6 c))
 (bEx .ret)) (bEx .nrm)))
 (bSeq (bReg (f27_r7 c))
 (bEx .ret))))))
theorem f27_eq (c : CallF) (k : Nat) : exec cx c 22 f27_an k (Try.f27.body.getD .skip) = f27 c k := by kernel_rfl
/-! ### f28: loop.example/g01263/laws.markBook -/
def f28_an : Ann := ⟨[(0, ⟨[0], [], [], [], [1, 2]⟩), (1, r0 [1, 2]), (2, r0 [1]), (3, r0 [4])], []⟩
noncomputable def f28_r0 (c : CallF) : RF := rg [1, 2] <| aX 2 (fun n e M => aBoxO n 59 3 (eget e 0) M) <|
 aX 4 (pM (cn (.int .i64 0))) <|
 aXZ
noncomputable def f28_r1 (c : CallF) : RF := rg [1, 2] <| aX 5 (pF 1 1 2) <|
 aX 6 (pL false 1 5) <|
 aX 7 (pM 1) <|
 aX 8 (pK c false 59 [6, 7]) <|
 aX 1 (pM 8) <|
 aXZ
noncomputable def f28_r2 (c : CallF) : RF := rg [1] <| aX 9 (pF 2 1 2) <|
 aX 10 (pL false 1 9) <|
 aX 11 (pM 1) <|
 aX 12 (pK c false 60 [10, 11]) <|
 aX 1 (pM 12) <|
 aXZ
noncomputable def f28_r3 (c : CallF) : RF := rg [4] <| aX 13 (pM 1) <|
 aX 4 (pM 13) <|
 aXZ
noncomputable def f28 (c : CallF) (k : Nat) : St :=
 (bSeq (bReg (f28_r0 c))
 (bSeq (bReg (f28_r1 c))
 (bSeq (bReg (f28_r2 c))
 (bSeq (bReg (f28_r3 c))
 (bEx .ret)))))
theorem f28_eq (c : CallF) (k : Nat) : exec cx c 14 f28_an k (Try.f28.body.getD .skip) = f28 c k := by kernel_rfl
/-! ### f29: loop.example/g01263/laws.markDebtS -/
def f29_an : Ann := ⟨[(0, r0 [0, 1]), (1, r0 [0, 1, 5]), (2, r0 [0, 1, 5, 9]), (3, r0 [0, 1, 5]), (4, r0 [0, 1, 5]), (5, r0 [0, 1, 5]), (6, r0 [0, 1, 5]), (7, r0 [0, 1, 5]), (8, r0 [0, 1, 5]), (9, r0 [0, 1, 5]), (10, r0 [4])], [(2, [0, 1, 5])]⟩
noncomputable def f29_r0 (c : CallF) : RF := rg [0, 1] <| aX 4 (pM (cn (.int .i64 0))) <|
 aXZ
noncomputable def f29_r1 (c : CallF) : RF := rg [0, 1, 5] <| aX 5 (pM (cn (.int .i64 0))) <|
 aXZ
noncomputable def f29_r2 (c : CallF) : RF := rg [0, 1, 5, 9] <| aX 6 (pM 5) <|
 aX 7 (pM 0) <|
 aX 8 (pLen 54 7) <|
 aX 9 (pB .lss 3 6 8) <|
 aXZ
noncomputable def f29_r3 (c : CallF) : RF := rg [0, 1, 5] <| aX 10 (pM 5) <|
 aX 11 (pB .add 3 10 (cn (.int .i64 1))) <|
 aX 5 (pM 11) <|
 aXZ
noncomputable def f29_r4 (c : CallF) : RF := rg [0, 1, 5] <| aX 12 (pM 0) <|
 aX 13 (pM 5) <|
 aX 14 (pM 1) <|
 aX 15 (pI 3 12 13) <|
 aX 16 (pF 0 1 15) <|
 aX0 (pS 1 16 14) <|
 aXZ
noncomputable def f29_r5 (c : CallF) : RF := rg [0, 1, 5] <| aX 17 (pM 1) <|
 aX 18 (pB .add 3 17 (cn (.int .i64 1))) <|
 aX 1 (pM 18) <|
 aXZ
noncomputable def f29_r6 (c : CallF) : RF := rg [0, 1, 5] <| aX 19 (pM 0) <|
 aX 20 (pM 5) <|
 aX 21 (pM 1) <|
 aX 22 (pI 3 19 20) <|
 aX 23 (pF 1 1 22) <|
 aX0 (pS 1 23 21) <|
 aXZ
noncomputable def f29_r7 (c : CallF) : RF := rg [0, 1, 5] <| aX 24 (pM 1) <|
 aX 25 (pB .add 3 24 (cn (.int .i64 1))) <|
 aX 1 (pM 25) <|
 aXZ
noncomputable def f29_r8 (c : CallF) : RF := rg [0, 1, 5] <| aX 26 (pM 0) <|
 aX 27 (pM 5) <|
 aX 28 (pM 1) <|
 aX 29 (pI 3 26 27) <|
 aX 30 (pF 2 1 29) <|
 aX0 (pS 1 30 28) <|
 aXZ
noncomputable def f29_r9 (c : CallF) : RF := rg [0, 1, 5] <| aX 31 (pM 1) <|
 aX 32 (pB .add 3 31 (cn (.int .i64 1))) <|
 aX 1 (pM 32) <|
 aXZ
noncomputable def f29_r10 (c : CallF) : RF := rg [4] <| aX 33 (pM 1) <|
 aX 4 (pM 33) <|
 aXZ
noncomputable def f29_l2 (c : CallF) (k : Nat) : St :=
 (bSeq (bSeq (bReg (f29_r2 c))
 (bCond (.tmp 9) (bEx .nrm) (bEx (.ext 0))))
 (bSeq (bBlock 1 (bSeq (bReg (f29_r4 c))
 (bSeq (bReg (f29_r5 c))
 (bSeq (bReg (f29_r6 c))
 (bSeq (bReg (f29_r7 c))
 (bSeq (bReg (f29_r8 c))
 (bReg (f29_r9 c))))))))
 (bReg (f29_r3 c))))
noncomputable def f29 (c : CallF) (k : Nat) : St :=
 (bSeq (bReg (f29_r0 c))
 (bSeq (bSeq (bReg (f29_r1 c))
 (bBlock 0 (bLoop [0, 1, 5] (f29_l2 c k) k)))
 (bSeq (bReg (f29_r10 c))
 (bEx .ret))))
theorem f29_eq (c : CallF) (k : Nat) : exec cx c 34 f29_an k (Try.f29.body.getD .skip) = f29 c k := by kernel_rfl
/-! ### f30: loop.example/g01263/laws.heldDebtS -/
def f30_an : Ann := ⟨[(0, r0 [0, 1]), (1, r0 [0, 1, 5]), (2, r0 [0, 1, 5, 9]), (3, r0 [0, 1, 5]), (4, r0 [0, 1, 5, 18]), (5, r0 [4]), (6, r0 [0, 1, 5]), (7, r0 [0, 1, 5, 27]), (8, r0 [4]), (9, r0 [0, 1, 5]), (10, r0 [0, 1, 5, 36]), (11, r0 [4]), (12, r0 [0, 1, 5]), (13, r0 [4])], [(2, [0, 1, 5])]⟩
noncomputable def f30_r0 (c : CallF) : RF := rg [0, 1] <| aX 4 (pM (cn (.int .i64 0))) <|
 aXZ
noncomputable def f30_r1 (c : CallF) : RF := rg [0, 1, 5] <| aX 5 (pM (cn (.int .i64 0))) <|
 aXZ
noncomputable def f30_r2 (c : CallF) : RF := rg [0, 1, 5, 9] <| aX 6 (pM 5) <|
 aX 7 (pM 0) <|
 aX 8 (pLen 54 7) <|
 aX 9 (pB .lss 3 6 8) <|
 aXZ
noncomputable def f30_r3 (c : CallF) : RF := rg [0, 1, 5] <| aX 10 (pM 5) <|
 aX 11 (pB .add 3 10 (cn (.int .i64 1))) <|
 aX 5 (pM 11) <|
 aXZ
noncomputable def f30_r4 (c : CallF) : RF := rg [0, 1, 5, 18] <| aX 12 (pM 0) <|
 aX 13 (pM 5) <|
 aX 14 (pI 3 12 13) <|
 aX 15 (pF 0 1 14) <|
 aX 16 (pL false 1 15) <|
 aX 17 (pM 1) <|
 aX 18 (pB .neq 2 16 17) <|
 aXZ
noncomputable def f30_r5 (c : CallF) : RF := rg [4] <| aX 4 (pM (cn (.int .i64 (-1)))) <|
 aXZ
noncomputable def f30_r6 (c : CallF) : RF := rg [0, 1, 5] <| aX 19 (pM 1) <|
 aX 20 (pB .add 3 19 (cn (.int .i64 1))) <|
 aX 1 (pM 20) <|
 aXZ
noncomputable def f30_r7 (c : CallF) : RF := rg [0, 1, 5, 27] <| aX 21 (pM 0) <|
 aX 22 (pM 5) <|
 aX 23 (pI 3 21 22) <|
 aX 24 (pF 1 1 23) <|
 aX 25 (pL false 1 24) <|
 aX 26 (pM 1) <|
 aX 27 (pB .neq 2 25 26) <|
 aXZ
noncomputable def f30_r8 (c : CallF) : RF := rg [4] <| aX 4 (pM (cn (.int .i64 (-1)))) <|
 aXZ
noncomputable def f30_r9 (c : CallF) : RF := rg [0, 1, 5] <| aX 28 (pM 1) <|
 aX 29 (pB .add 3 28 (cn (.int .i64 1))) <|
 aX 1 (pM 29) <|
 aXZ
noncomputable def f30_r10 (c : CallF) : RF := rg [0, 1, 5, 36] <| aX 30 (pM 0) <|
 aX 31 (pM 5) <|
 aX 32 (pI 3 30 31) <|
 aX 33 (pF 2 1 32) <|
 aX 34 (pL false 1 33) <|
 aX 35 (pM 1) <|
 aX 36 (pB .neq 2 34 35) <|
 aXZ
noncomputable def f30_r11 (c : CallF) : RF := rg [4] <| aX 4 (pM (cn (.int .i64 (-1)))) <|
 aXZ
noncomputable def f30_r12 (c : CallF) : RF := rg [0, 1, 5] <| aX 37 (pM 1) <|
 aX 38 (pB .add 3 37 (cn (.int .i64 1))) <|
 aX 1 (pM 38) <|
 aXZ
noncomputable def f30_r13 (c : CallF) : RF := rg [4] <| aX 39 (pM 1) <|
 aX 4 (pM 39) <|
 aXZ
noncomputable def f30_l2 (c : CallF) (k : Nat) : St :=
 (bSeq (bSeq (bReg (f30_r2 c))
 (bCond (.tmp 9) (bEx .nrm) (bEx (.ext 0))))
 (bSeq (bBlock 1 (bSeq (bSeq (bReg (f30_r4 c))
 (bCond (.tmp 18) (bSeq (bReg (f30_r5 c))
 (bEx .ret)) (bEx .nrm)))
 (bSeq (bReg (f30_r6 c))
 (bSeq (bSeq (bReg (f30_r7 c))
 (bCond (.tmp 27) (bSeq (bReg (f30_r8 c))
 (bEx .ret)) (bEx .nrm)))
 (bSeq (bReg (f30_r9 c))
 (bSeq (bSeq (bReg (f30_r10 c))
 (bCond (.tmp 36) (bSeq (bReg (f30_r11 c))
 (bEx .ret)) (bEx .nrm)))
 (bReg (f30_r12 c))))))))
 (bReg (f30_r3 c))))
noncomputable def f30 (c : CallF) (k : Nat) : St :=
 (bSeq (bReg (f30_r0 c))
 (bSeq (bSeq (bReg (f30_r1 c))
 (bBlock 0 (bLoop [0, 1, 5] (f30_l2 c k) k)))
 (bSeq (bReg (f30_r13 c))
 (bEx .ret))))
theorem f30_eq (c : CallF) (k : Nat) : exec cx c 40 f30_an k (Try.f30.body.getD .skip) = f30 c k := by kernel_rfl
/-! ### f47: loop.example/g01263/laws.szInt64S -/
def f47_an : Ann := ⟨[(0, r0 [0, 1]), (1, r0 [1]), (2, r0 [1, 10]), (3, r0 [4]), (4, r0 [4])], []⟩
noncomputable def f47_r0 (c : CallF) : RF := rg [0, 1] <| aX 4 (pM (cn (.int .i64 0))) <|
 aXZ
noncomputable def f47_r1 (c : CallF) : RF := rg [1] <| aX 5 (pM 1) <|
 aX 6 (pM 0) <|
 aX 7 (pLen 49 6) <|
 aX 8 (pB .sub 3 5 7) <|
 aX 1 (pM 8) <|
 aXZ
noncomputable def f47_r2 (c : CallF) : RF := rg [1, 10] <| aX 9 (pM 1) <|
 aX 10 (pB .lss 3 9 (cn (.int .i64 0))) <|
 aXZ
noncomputable def f47_r3 (c : CallF) : RF := rg [4] <| aX 4 (pM (cn (.int .i64 (-1)))) <|
 aXZ
noncomputable def f47_r4 (c : CallF) : RF := rg [4] <| aX 11 (pM 1) <|
 aX 4 (pM 11) <|
 aXZ
noncomputable def f47 (c : CallF) (k : Nat) : St :=
 (bSeq (bReg (f47_r0 c))
 (bSeq (bReg (f47_r1 c))
 (bSeq (bSeq (bReg (f47_r2 c))
 (bCond (.tmp 10) (bSeq (bReg (f47_r3 c))
 (bEx .ret)) (bEx .nrm)))
 (bSeq (bReg (f47_r4 c))
 (bEx .ret)))))
theorem f47_eq (c : CallF) (k : Nat) : exec cx c 12 f47_an k (Try.f47.body.getD .skip) = f47 c k := by kernel_rfl
/-! ### f48: loop.example/g01263/laws.szTallyS -/
def f48_an : Ann := ⟨[(0, r0 [0, 1]), (1, r0 [1]), (2, r0 [1, 10]), (3, r0 [4]), (4, r0 [4])], []⟩
noncomputable def f48_r0 (c : CallF) : RF := rg [0, 1] <| aX 4 (pM (cn (.int .i64 0))) <|
 aXZ
noncomputable def f48_r1 (c : CallF) : RF := rg [1] <| aX 5 (pM 1) <|
 aX 6 (pM 0) <|
 aX 7 (pLen 50 6) <|
 aX 8 (pB .sub 3 5 7) <|
 aX 1 (pM 8) <|
 aXZ
noncomputable def f48_r2 (c : CallF) : RF := rg [1, 10] <| aX 9 (pM 1) <|
 aX 10 (pB .lss 3 9 (cn (.int .i64 0))) <|
 aXZ
noncomputable def f48_r3 (c : CallF) : RF := rg [4] <| aX 4 (pM (cn (.int .i64 (-1)))) <|
 aXZ
noncomputable def f48_r4 (c : CallF) : RF := rg [4] <| aX 11 (pM 1) <|
 aX 4 (pM 11) <|
 aXZ
noncomputable def f48 (c : CallF) (k : Nat) : St :=
 (bSeq (bReg (f48_r0 c))
 (bSeq (bReg (f48_r1 c))
 (bSeq (bSeq (bReg (f48_r2 c))
 (bCond (.tmp 10) (bSeq (bReg (f48_r3 c))
 (bEx .ret)) (bEx .nrm)))
 (bSeq (bReg (f48_r4 c))
 (bEx .ret)))))
theorem f48_eq (c : CallF) (k : Nat) : exec cx c 12 f48_an k (Try.f48.body.getD .skip) = f48 c k := by kernel_rfl
/-! ### f49: loop.example/g01263/spec.l07Ok -/
def f49_an : Ann := ⟨[(0, r0 [0]), (1, r0 [0, 27]), (2, r0 [2]), (3, r0 [0, 3]), (4, r0 [0, 3, 4]), (5, r0 [0, 3, 4, 39]), (6, r0 [0, 3, 4]), (7, r0 [0, 3, 4, 5]), (8, r0 [0, 3, 4, 5, 95]), (9, r0 [2]), (10, r0 [0, 3, 4, 131]), (11, r0 [2]), (12, r0 [2])], [(5, [0, 3, 4])]⟩
noncomputable def f49_r0 (c : CallF) : RF := rg [0] <| aX 2 (pM (cn (.bool false))) <|
 aXZ
noncomputable def f49_r1 (c : CallF) : RF := rg [0, 27] <| aX 6 (pM 0) <|
 aX 7 (pN 6) <|
 aX 8 (pF 0 1 7) <|
 aX 9 (pL false 1 8) <|
 aX 10 (pK c false 78 [9]) <|
 aX 11 (pU .not 10) <|
 aX 12 (pM 11) <|
 aX 13 (pG 12 false (pM 0)) <|
 aX 14 (pG 12 false (pN 13)) <|
 aX 15 (pG 12 false (pF 1 1 14)) <|
 aX 16 (pG 12 false (pL false 1 15)) <|
 aX 17 (pG 12 false (pK c false 79 [16])) <|
 aX 18 (pG 12 false (pU .not 17)) <|
 aX 19 (pP 12 (cn (.bool true)) 18) <|
 aX 20 (pM 19) <|
 aX 21 (pG 20 false (pM 0)) <|
 aX 22 (pG 20 false (pN 21)) <|
 aX 23 (pG 20 false (pF 2 1 22)) <|
 aX 24 (pG 20 false (pL false 1 23)) <|
 aX 25 (pG 20 false (pLen 57 24)) <|
 aX 26 (pG 20 false (pB .gtr 3 25 (cn (.int .i64 40)))) <|
 aX 27 (pP 20 (cn (.bool true)) 26) <|
 aXZ
noncomputable def f49_r2 (c : CallF) : RF := rg [2] <| aX 2 (pM (cn (.bool false))) <|
 aXZ
noncomputable def f49_r3 (c : CallF) : RF := rg [0, 3] <| aX 28 (pM 0) <|
 aX 29 (pN 28) <|
 aX 30 (pF 1 1 29) <|
 aX 31 (pL false 1 30) <|
 aX 32 (pLen 49 31) <|
 aX 3 (pM 32) <|
 aXZ
noncomputable def f49_r4 (c : CallF) : RF := rg [0, 3, 4] <| aX 4 (pM (cn (.int .i64 0))) <|
 aXZ
noncomputable def f49_r5 (c : CallF) : RF := rg [0, 3, 4, 39] <| aX 33 (pM 4) <|
 aX 34 (pM 0) <|
 aX 35 (pN 34) <|
 aX 36 (pF 2 1 35) <|
 aX 37 (pL false 1 36) <|
 aX 38 (pLen 57 37) <|
 aX 39 (pB .lss 3 33 38) <|
 aXZ
noncomputable def f49_r6 (c : CallF) : RF := rg [0, 3, 4] <| aX 40 (pM 4) <|
 aX 41 (pB .add 3 40 (cn (.int .i64 1))) <|
 aX 4 (pM 41) <|
 aXZ
noncomputable def f49_r7 (c : CallF) : RF := rg [0, 3, 4, 5] <| aX 42 (pM 0) <|
 aX 43 (pN 42) <|
 aX 44 (pF 2 1 43) <|
 aX 45 (pL false 1 44) <|
 aX 46 (pM 4) <|
 aX 47 (pI 5 45 46) <|
 aX 5 (pM 47) <|
 aXZ
noncomputable def f49_r8 (c : CallF) : RF := rgD [0, 3, 4, 5, 95] (aY 48 (pM 3) <|
 aY 49 (pM 5) <|
 aY 50 (pN 49) <|
 aY 51 (pF 0 1 50) <|
 aY 52 (pL false 1 51) <|
 aY 53 (pK c false 80 [48, 52]) <|
 aY 54 (pU .not 53) <|
 aY 55 (pM 54) <|
 aY 56 (pG 55 false (pM 3)) <|
 aY 57 (pG 55 false (pM 5)) <|
 aY 58 (pG 55 false (pN 57)) <|
 aY 59 (pG 55 false (pF 1 1 58)) <|
 aY 60 (pG 55 false (pL false 1 59)) <|
 aY 61 (pG 55 false (pK c false 80 [56, 60])) <|
 aY 62 (pG 55 false (pU .not 61)) <|
 aY 63 (pP 55 (cn (.bool true)) 62) <|
 aY 64 (pM 63) <|
 aY 65 (pG 64 false (pM 5)) <|
 aY 66 (pG 64 false (pN 65)) <|
 aY 67 (pG 64 false (pF 2 1 66)) <|
 aY 68 (pG 64 false (pL false 1 67)) <|
 aY 69 (pG 64 false (pM 0)) <|
 aY 70 (pG 64 false (pN 69)) <|
 aY 71 (pG 64 false (pF 0 1 70)) <|
 aY 72 (pG 64 false (pL false 1 71)) <|
 aY 73 (pG 64 false (pK c false 73 [68, (cn (.int .i64 0)), 72])) <|
 aY 74 (pG 64 false (pU .not 73)) <|
 aY 75 (pP 64 (cn (.bool true)) 74) <|
 aY 76 (pM 75) <|
 aY 77 (pG 76 false (pM 5)) <|
 aY 78 (pG 76 false (pN 77)) <|
 aY 79 (pG 76 false (pF 3 1 78)) <|
 aY 80 (pG 76 false (pL false 1 79)) <|
 aY 81 (pG 76 false (pK c false 73 [80, (cn (.int .i64 1)), (cn (.int .i64 100000000))])) <|
 aY 82 (pG 76 false (pU .not 81)) <|
 aY 83 (pP 76 (cn (.bool true)) 82) <|
 aY 84 (pM 83) <|
 aY 85 (pG 84 false (pM 5)) <|
 aY 86 (pG 84 false (pN 85)) <|
 aY 87 (pG 84 false (pF 4 1 86)) <|
 aY 88 (pG 84 false (pL false 1 87)) <|
 aY 89 (pG 84 false (pM 5)) <|
 aY 90 (pG 84 false (pN 89)) <|
 aY 91 (pG 84 false (pF 3 1 90)) <|
 aY 92 (pG 84 false (pL false 1 91)) <|
 aY 93 (pG 84 false (pK c false 73 [88, (cn (.int .i64 0)), 92])) <|
 aY 94 (pG 84 false (pU .not 93)) <|
 aY 95 (pP 84 (cn (.bool true)) 94) <|
 aYZ)
 (aXZ)
noncomputable def f49_r9 (c : CallF) : RF := rg [2] <| aX 2 (pM (cn (.bool false))) <|
 aXZ
noncomputable def f49_r10 (c : CallF) : RF := rgD [0, 3, 4, 131] (aY 96 (pM 5) <|
 aY 97 (pN 96) <|
 aY 98 (pF 0 1 97) <|
 aY 99 (pL false 1 98) <|
 aY 100 (pM 5) <|
 aY 101 (pN 100) <|
 aY 102 (pF 1 1 101) <|
 aY 103 (pL false 1 102) <|
 aY 104 (pB .eql 2 99 103) <|
 aY 105 (pM 104) <|
 aY 106 (pG 105 true (pM 5)) <|
 aY 107 (pG 105 true (pN 106)) <|
 aY 108 (pG 105 true (pF 4 1 107)) <|
 aY 109 (pG 105 true (pL false 1 108)) <|
 aY 110 (pG 105 true (pB .neq 2 109 (cn (.int .i64 0)))) <|
 aY 111 (pP 105 110 (cn (.bool false))) <|
 aY 112 (pM 111) <|
 aY 113 (pG 112 false (pM 4)) <|
 aY 114 (pG 112 false (pB .gtr 3 113 (cn (.int .i64 0)))) <|
 aY 115 (pG 112 false (pM 114)) <|
 aY 116 (pG 115 true (pM 5)) <|
 aY 117 (pG 115 true (pN 116)) <|
 aY 118 (pG 115 true (pF 2 1 117)) <|
 aY 119 (pG 115 true (pL false 1 118)) <|
 aY 120 (pG 115 true (pM 0)) <|
 aY 121 (pG 115 true (pN 120)) <|
 aY 122 (pG 115 true (pF 2 1 121)) <|
 aY 123 (pG 115 true (pL false 1 122)) <|
 aY 124 (pG 115 true (pM 4)) <|
 aY 125 (pG 115 true (pB .sub 3 124 (cn (.int .i64 1)))) <|
 aY 126 (pG 115 true (pI 5 123 125)) <|
 aY 127 (pG 115 true (pF 2 1 126)) <|
 aY 128 (pG 115 true (pL false 1 127)) <|
 aY 129 (pG 115 true (pB .lss 2 119 128)) <|
 aY 130 (pG 112 false (pP 115 129 (cn (.bool false)))) <|
 aY 131 (pP 112 (cn (.bool true)) 130) <|
 aYZ)
 (aXZ)
noncomputable def f49_r11 (c : CallF) : RF := rg [2] <| aX 2 (pM (cn (.bool false))) <|
 aXZ
noncomputable def f49_r12 (c : CallF) : RF := rg [2] <| aX 2 (pM (cn (.bool true))) <|
 aXZ
noncomputable def f49_l5 (c : CallF) (k : Nat) : St :=
 (bSeq (bSeq (bReg (f49_r5 c))
 (bCond (.tmp 39) (bEx .nrm) (bEx (.ext 0))))
 (bSeq (bBlock 1 (bSeq (bReg (f49_r7 c))
 (bSeq (bSeq (bReg (f49_r8 c))
 (bCond (.tmp 95) (bSeq (bReg (f49_r9 c))
 (bEx .ret)) (bEx .nrm)))
 (bSeq (bReg (f49_r10 c))
 (bCond (.tmp 131) (bSeq (bReg (f49_r11 c))
 (bEx .ret)) (bEx .nrm))))))
 (bReg (f49_r6 c))))
noncomputable def f49 (c : CallF) (k : Nat) : St :=
 (bSeq (bReg (f49_r0 c))
 (bSeq (bSeq (bReg (f49_r1 c))
 (bCond (.tmp 27) (bSeq (bReg (f49_r2 c))
 (bEx .ret)) (bEx .nrm)))
 (bSeq (bReg (f49_r3 c))
 (bSeq (bSeq (bReg (f49_r4 c))
 (bBlock 0 (bLoop [0, 3, 4] (f49_l5 c k) k)))
 (bSeq (bReg (f49_r12 c))
 (bEx .ret))))))
theorem f49_eq (c : CallF) (k : Nat) : exec cx c 132 f49_an k (Try.f49.body.getD .skip) = f49 c k := by kernel_rfl
/-! ### f50: loop.example/g01263/spec.l02List -/
def f50_an : Ann := ⟨[(0, r0 [0]), (1, ⟨[0], [], [], [], [0, 4]⟩), (2, r0 [0, 4, 5]), (3, r0 [0, 4, 5, 9]), (4, r0 [0, 4, 5]), (5, r0 [0, 4, 5, 6]), (6, r0 [0, 4, 5, 6, 13]), (7, r0 [0, 4, 5, 6]), (8, r0 [0, 4, 5, 6, 23]), (9, r0 [2, 3]), (10, r0 [0, 4, 5, 6, 32]), (11, ⟨[12], [], [], [], [0, 4, 5, 6]⟩), (12, r0 [4, 48]), (13, r0 [2, 3]), (14, r0 [2, 3])], [(6, [0, 4, 5, 6]), (3, [0, 4, 5])]⟩
noncomputable def f50_r0 (c : CallF) : RF := rg [0] <| aX 2 (pM (cn .nils)) <|
 aX 3 (pM (cn (.int .i64 0))) <|
 aXZ
noncomputable def f50_r1 (c : CallF) : RF := rg [0, 4] <| aX 7 (fun n e M => aLitO n 94 3 [] M) <|
 aX 4 (pM 7) <|
 aXZ
noncomputable def f50_r2 (c : CallF) : RF := rg [0, 4, 5] <| aX 5 (pM (cn (.int .i64 0))) <|
 aXZ
noncomputable def f50_r3 (c : CallF) : RF := rg [0, 4, 5, 9] <| aX 8 (pM 5) <|
 aX 9 (pB .lss 2 8 (cn (.int .i64 16))) <|
 aXZ
noncomputable def f50_r4 (c : CallF) : RF := rg [0, 4, 5] <| aX 10 (pM 5) <|
 aX 11 (pB .add 2 10 (cn (.int .i64 1))) <|
 aX 5 (pM 11) <|
 aXZ
noncomputable def f50_r5 (c : CallF) : RF := rg [0, 4, 5, 6] <| aX 6 (pM (cn (.int .i64 0))) <|
 aXZ
noncomputable def f50_r6 (c : CallF) : RF := rg [0, 4, 5, 6, 13] <| aX 12 (pM 6) <|
 aX 13 (pB .lss 2 12 (cn (.int .i64 16))) <|
 aXZ
noncomputable def f50_r7 (c : CallF) : RF := rg [0, 4, 5, 6] <| aX 14 (pM 6) <|
 aX 15 (pB .add 2 14 (cn (.int .i64 1))) <|
 aX 6 (pM 15) <|
 aXZ
noncomputable def f50_r8 (c : CallF) : RF := rg [0, 4, 5, 6, 23] <| aX 16 (pM 0) <|
 aX 17 (pM 5) <|
 aX 18 (pM 6) <|
 aX 19 (pN 16) <|
 aX 20 (fun n e M => keep (aIndexP 16 16 (eget e 19) (eget e 17) M)) <|
 aX 21 (fun n e M => keep (aIndexP 16 1 (eget e 20) (eget e 18) M)) <|
 aX 22 (pL false 1 21) <|
 aX 23 (pB .gtr 2 22 (cn (.int .i64 100000000))) <|
 aXZ
noncomputable def f50_r9 (c : CallF) : RF := rg [2, 3] <| aX 24 (fun n e M => keep (aLitI 94 3 [] M)) <|
 aX 2 (pM 24) <|
 aX 3 (pM (cn (.int .i64 3))) <|
 aXZ
noncomputable def f50_r10 (c : CallF) : RF := rg [0, 4, 5, 6, 32] <| aX 25 (pM 0) <|
 aX 26 (pM 5) <|
 aX 27 (pM 6) <|
 aX 28 (pN 25) <|
 aX 29 (fun n e M => keep (aIndexP 16 16 (eget e 28) (eget e 26) M)) <|
 aX 30 (fun n e M => keep (aIndexP 16 1 (eget e 29) (eget e 27) M)) <|
 aX 31 (pL false 1 30) <|
 aX 32 (pB .gtr 2 31 (cn (.int .i64 0))) <|
 aXZ
noncomputable def f50_r11 (c : CallF) : RF := rg [0, 4, 5, 6] <| aX 33 (pM 4) <|
 aX 34 (pM 5) <|
 aX 35 (pM 6) <|
 aX 36 (pM 0) <|
 aX 37 (pM 5) <|
 aX 38 (pM 6) <|
 aX 39 (pN 36) <|
 aX 40 (fun n e M => keep (aIndexP 16 16 (eget e 39) (eget e 37) M)) <|
 aX 41 (fun n e M => keep (aIndexP 16 1 (eget e 40) (eget e 38) M)) <|
 aX 42 (pL false 1 41) <|
 aX 43 (fun n e M => keep (aBuild (zeroOf cx.P 94) [(0, 1, (eget e 34)), (1, 1, (eget e 35)), (2, 1, (eget e 42))] M)) <|
 aX 44 (fun n e M => keep (aLitI 94 3 [(eget e 43)] M)) <|
 aX 45 (fun n e M => aAppO n 94 3 24 (eget e 33) (eget e 44) M) <|
 aX 4 (pM 45) <|
 aXZ
noncomputable def f50_r12 (c : CallF) : RF := rg [4, 48] <| aX 46 (pM 4) <|
 aX 47 (pLen 54 46) <|
 aX 48 (pB .gtr 3 47 (cn (.int .i64 60))) <|
 aXZ
noncomputable def f50_r13 (c : CallF) : RF := rg [2, 3] <| aX 49 (fun n e M => keep (aLitI 94 3 [] M)) <|
 aX 2 (pM 49) <|
 aX 3 (pM (cn (.int .i64 3))) <|
 aXZ
noncomputable def f50_r14 (c : CallF) : RF := rg [2, 3] <| aX 50 (pM 4) <|
 aX 2 (pM 50) <|
 aX 3 (pM (cn (.int .i64 0))) <|
 aXZ
noncomputable def f50_l6 (c : CallF) (k : Nat) : St :=
 (bSeq (bSeq (bReg (f50_r6 c))
 (bCond (.tmp 13) (bEx .nrm) (bEx (.ext 2))))
 (bSeq (bBlock 3 (bSeq (bSeq (bReg (f50_r8 c))
 (bCond (.tmp 23) (bSeq (bReg (f50_r9 c))
 (bEx .ret)) (bEx .nrm)))
 (bSeq (bReg (f50_r10 c))
 (bCond (.tmp 32) (bReg (f50_r11 c)) (bEx .nrm)))))
 (bReg (f50_r7 c))))
noncomputable def f50_l3 (c : CallF) (k : Nat) : St :=
 (bSeq (bSeq (bReg (f50_r3 c))
 (bCond (.tmp 9) (bEx .nrm) (bEx (.ext 0))))
 (bSeq (bBlock 1 (bSeq (bReg (f50_r5 c))
 (bBlock 2 (bLoop [0, 4, 5, 6] (f50_l6 c k) k))))
 (bReg (f50_r4 c))))
noncomputable def f50 (c : CallF) (k : Nat) : St :=
 (bSeq (bReg (f50_r0 c))
 (bSeq (bReg (f50_r1 c))
 (bSeq (bSeq (bReg (f50_r2 c))
 (bBlock 0 (bLoop [0, 4, 5] (f50_l3 c k) k)))
 (bSeq (bSeq (bReg (f50_r12 c))
 (bCond (.tmp 48) (bSeq (bReg (f50_r13 c))
 (bEx .ret)) (bEx .nrm)))
 (bSeq (bReg (f50_r14 c))
 (bEx .ret))))))
theorem f50_eq (c : CallF) (k : Nat) : exec cx c 51 f50_an k (Try.f50.body.getD .skip) = f50 c k := by kernel_rfl
/-! ### f51: loop.example/g01263/spec.l02Sums -/
def f51_an : Ann := ⟨[(0, r0 [0]), (1, ⟨[1], [], [], [], [0, 3]⟩), (2, r0 [0, 3, 4]), (3, r0 [0, 3, 4, 10]), (4, r0 [0, 3, 4]), (5, ⟨[], [], [], [24], [0, 3, 4]⟩), (6, r0 [2])], [(3, [0, 3, 4])]⟩
noncomputable def f51_r0 (c : CallF) : RF := rg [0] <| aX 2 (pM (cn .nilp)) <|
 aXZ
noncomputable def f51_r1 (c : CallF) : RF := rg [0, 3] <| aX 5 (fun n e M => keep (aBuild (zeroOf cx.P 128) [] M)) <|
 aX 6 (fun n e M => aBoxO n 128 256 (eget e 5) M) <|
 aX 3 (pM 6) <|
 aXZ
noncomputable def f51_r2 (c : CallF) : RF := rg [0, 3, 4] <| aX 4 (pM (cn (.int .i64 0))) <|
 aXZ
noncomputable def f51_r3 (c : CallF) : RF := rg [0, 3, 4, 10] <| aX 7 (pM 4) <|
 aX 8 (pM 0) <|
 aX 9 (pLen 54 8) <|
 aX 10 (pB .lss 3 7 9) <|
 aXZ
noncomputable def f51_r4 (c : CallF) : RF := rg [0, 3, 4] <| aX 11 (pM 4) <|
 aX 12 (pB .add 3 11 (cn (.int .i64 1))) <|
 aX 4 (pM 12) <|
 aXZ
noncomputable def f51_r5 (c : CallF) : RF := rgD [0, 3, 4] (aY 13 (pM 3) <|
 aY 14 (pM 0) <|
 aY 15 (pM 4) <|
 aY 16 (pI 3 14 15) <|
 aY 17 (pF 0 1 16) <|
 aY 18 (pL false 1 17) <|
 aY 19 (pM 0) <|
 aY 20 (pM 4) <|
 aY 21 (pI 3 19 20) <|
 aY 22 (pF 1 1 21) <|
 aY 23 (pL false 1 22) <|
 aY 24 (pN 13) <|
 aY 25 (fun n e M => keep (aIndexP 16 16 (eget e 24) (eget e 18) M)) <|
 aY 26 (fun n e M => keep (aIndexP 16 1 (eget e 25) (eget e 23) M)) <|
 aY 27 (pL false 1 26) <|
 aY 28 (pM 0) <|
 aY 29 (pM 4) <|
 aY 30 (pI 3 28 29) <|
 aY 31 (pF 2 1 30) <|
 aY 32 (pL false 1 31) <|
 aY 33 (pB .add 2 27 32) <|
 aY 34 (pN 13) <|
 aY 35 (fun n e M => keep (aIndexP 16 16 (eget e 34) (eget e 18) M)) <|
 aY 36 (fun n e M => keep (aIndexP 16 1 (eget e 35) (eget e 23) M)) <|
 aYZ)
 (aX0 (pS 1 36 33) <|
 aXZ)
noncomputable def f51_r6 (c : CallF) : RF := rg [2] <| aX 37 (pM 3) <|
 aX 2 (pM 37) <|
 aXZ
noncomputable def f51_l3 (c : CallF) (k : Nat) : St :=
 (bSeq (bSeq (bReg (f51_r3 c))
 (bCond (.tmp 10) (bEx .nrm) (bEx (.ext 0))))
 (bSeq (bBlock 1 (bReg (f51_r5 c)))
 (bReg (f51_r4 c))))
noncomputable def f51 (c : CallF) (k : Nat) : St :=
 (bSeq (bReg (f51_r0 c))
 (bSeq (bReg (f51_r1 c))
 (bSeq (bSeq (bReg (f51_r2 c))
 (bBlock 0 (bLoop [0, 3, 4] (f51_l3 c k) k)))
 (bSeq (bReg (f51_r6 c))
 (bEx .ret)))))
theorem f51_eq (c : CallF) (k : Nat) : exec cx c 38 f51_an k (Try.f51.body.getD .skip) = f51 c k := by kernel_rfl
/-! ### f52: loop.example/g01263/laws.toInt64S -/
def f52_an : Ann := ⟨[(0, r0 [0]), (1, r0 [0, 3]), (2, r0 [0, 3, 4]), (3, r0 [0, 3, 4, 11]), (4, r0 [0, 3, 4]), (5, r0 [0, 3, 4]), (6, r0 [2])], [(3, [0, 3, 4])]⟩
noncomputable def f52_r0 (c : CallF) : RF := rg [0] <| aX 2 (pM (cn .nils)) <|
 aXZ
noncomputable def f52_r1 (c : CallF) : RF := rg [0, 3] <| aX 5 (pM 0) <|
 aX 6 (pLen 49 5) <|
 aX 7 (fun n e M => aMakeO n 2 1 8 (zeroOf cx.P 2) (eget e 6) (eget e 6)) <|
 aX 3 (pM 7) <|
 aXZ
noncomputable def f52_r2 (c : CallF) : RF := rg [0, 3, 4] <| aX 4 (pM (cn (.int .i64 0))) <|
 aXZ
noncomputable def f52_r3 (c : CallF) : RF := rg [0, 3, 4, 11] <| aX 8 (pM 4) <|
 aX 9 (pM 0) <|
 aX 10 (pLen 49 9) <|
 aX 11 (pB .lss 3 8 10) <|
 aXZ
noncomputable def f52_r4 (c : CallF) : RF := rg [0, 3, 4] <| aX 12 (pM 4) <|
 aX 13 (pB .add 3 12 (cn (.int .i64 1))) <|
 aX 4 (pM 13) <|
 aXZ
noncomputable def f52_r5 (c : CallF) : RF := rg [0, 3, 4] <| aX 14 (pM 3) <|
 aX 15 (pM 4) <|
 aX 16 (pM 0) <|
 aX 17 (pM 4) <|
 aX 18 (pI 1 16 17) <|
 aX 19 (pL false 1 18) <|
 aX 20 (pI 1 14 15) <|
 aX0 (pS 1 20 19) <|
 aXZ
noncomputable def f52_r6 (c : CallF) : RF := rg [2] <| aX 21 (pM 3) <|
 aX 2 (pM 21) <|
 aXZ
noncomputable def f52_l3 (c : CallF) (k : Nat) : St :=
 (bSeq (bSeq (bReg (f52_r3 c))
 (bCond (.tmp 11) (bEx .nrm) (bEx (.ext 0))))
 (bSeq (bBlock 1 (bReg (f52_r5 c)))
 (bReg (f52_r4 c))))
noncomputable def f52 (c : CallF) (k : Nat) : St :=
 (bSeq (bReg (f52_r0 c))
 (bSeq (bReg (f52_r1 c))
 (bSeq (bSeq (bReg (f52_r2 c))
 (bBlock 0 (bLoop [0, 3, 4] (f52_l3 c k) k)))
 (bSeq (bReg (f52_r6 c))
 (bEx .ret)))))
theorem f52_eq (c : CallF) (k : Nat) : exec cx c 22 f52_an k (Try.f52.body.getD .skip) = f52 c k := by kernel_rfl
/-! ### f53: loop.example/g01263/laws.toTallyS -/
def f53_an : Ann := ⟨[(0, r0 [0]), (1, r0 [0, 3]), (2, r0 [0, 3, 4]), (3, r0 [0, 3, 4, 11]), (4, r0 [0, 3, 4]), (5, r0 [0, 3, 4]), (6, r0 [2])], [(3, [0, 3, 4])]⟩
noncomputable def f53_r0 (c : CallF) : RF := rg [0] <| aX 2 (pM (cn .nils)) <|
 aXZ
noncomputable def f53_r1 (c : CallF) : RF := rg [0, 3] <| aX 5 (pM 0) <|
 aX 6 (pLen 50 5) <|
 aX 7 (fun n e M => aMakeO n 92 5 40 (zeroOf cx.P 92) (eget e 6) (eget e 6)) <|
 aX 3 (pM 7) <|
 aXZ
noncomputable def f53_r2 (c : CallF) : RF := rg [0, 3, 4] <| aX 4 (pM (cn (.int .i64 0))) <|
 aXZ
noncomputable def f53_r3 (c : CallF) : RF := rg [0, 3, 4, 11] <| aX 8 (pM 4) <|
 aX 9 (pM 0) <|
 aX 10 (pLen 50 9) <|
 aX 11 (pB .lss 3 8 10) <|
 aXZ
noncomputable def f53_r4 (c : CallF) : RF := rg [0, 3, 4] <| aX 12 (pM 4) <|
 aX 13 (pB .add 3 12 (cn (.int .i64 1))) <|
 aX 4 (pM 13) <|
 aXZ
noncomputable def f53_r5 (c : CallF) : RF := rg [0, 3, 4] <| aX 14 (pM 3) <|
 aX 15 (pM 4) <|
 aX 16 (pM 0) <|
 aX 17 (pM 4) <|
 aX 18 (pI 5 16 17) <|
 aX 19 (pL true 5 18) <|
 aX 20 (pK c false 81 [19]) <|
 aX 21 (pI 5 14 15) <|
 aX0 (pS 5 21 20) <|
 aXZ
noncomputable def f53_r6 (c : CallF) : RF := rg [2] <| aX 22 (pM 3) <|
 aX 2 (pM 22) <|
 aXZ
noncomputable def f53_l3 (c : CallF) (k : Nat) : St :=
 (bSeq (bSeq (bReg (f53_r3 c))
 (bCond (.tmp 11) (bEx .nrm) (bEx (.ext 0))))
 (bSeq (bBlock 1 (bReg (f53_r5 c)))
 (bReg (f53_r4 c))))
noncomputable def f53 (c : CallF) (k : Nat) : St :=
 (bSeq (bReg (f53_r0 c))
 (bSeq (bReg (f53_r1 c))
 (bSeq (bSeq (bReg (f53_r2 c))
 (bBlock 0 (bLoop [0, 3, 4] (f53_l3 c k) k)))
 (bSeq (bReg (f53_r6 c))
 (bEx .ret)))))
theorem f53_eq (c : CallF) (k : Nat) : exec cx c 23 f53_an k (Try.f53.body.getD .skip) = f53 c k := by kernel_rfl
/-! ### f54: loop.example/g01263/impl.ValidBook -/
def f54_an : Ann := ⟨[(0, r0 [1]), (1, r0 [1, 3]), (2, r0 [1, 3, 29]), (3, r0 [2]), (4, r0 [1, 3, 31, 32, 33]), (5, r0 [1, 3, 31, 32, 33, 34]), (6, r0 [1, 3, 5, 31, 32, 33]), (7, r0 [1, 3, 31, 32, 33, 39]), (8, r0 [2]), (9, r0 [1, 3, 31, 32, 33]), (10, r0 [1, 3, 6]), (11, r0 [1, 3, 6, 42, 43, 44]), (12, r0 [1, 3, 6, 42, 43, 44, 45]), (13, r0 [1, 3, 6, 8, 42, 43, 44]), (14, r0 [1, 3, 8, 42, 43, 44, 102]), (15, r0 [2]), (16, r0 [1, 3, 6, 42, 43, 44]), (17, r0 [1, 3, 6, 42, 43, 44]), (18, r0 [2])], [(5, [1, 3, 31, 32, 33]), (12, [1, 3, 6, 42, 43, 44])]⟩
noncomputable def f54_r0 (c : CallF) : RF := rg [1] <| aX 1 (pBox 3 0) <|
 aX 2 (pM (cn (.bool false))) <|
 aXZ
noncomputable def f54_r1 (c : CallF) : RF := rg [1, 3] <| aX 9 (pF 1 1 1) <|
 aX 10 (pL false 1 9) <|
 aX 11 (pLen 49 10) <|
 aX 3 (pM 11) <|
 aXZ
noncomputable def f54_r2 (c : CallF) : RF := rg [1, 3, 29] <| aX 12 (pF 0 1 1) <|
 aX 13 (pL false 1 12) <|
 aX 14 (pK c false 82 [13]) <|
 aX 15 (pU .not 14) <|
 aX 16 (pM 15) <|
 aX 17 (pG 16 false (pM 3)) <|
 aX 18 (pG 16 false (pB .lss 2 17 (cn (.int .i64 1)))) <|
 aX 19 (pP 16 (cn (.bool true)) 18) <|
 aX 20 (pM 19) <|
 aX 21 (pG 20 false (pM 3)) <|
 aX 22 (pG 20 false (pB .gtr 2 21 (cn (.int .i64 16)))) <|
 aX 23 (pP 20 (cn (.bool true)) 22) <|
 aX 24 (pM 23) <|
 aX 25 (pG 24 false (pF 2 1 1)) <|
 aX 26 (pG 24 false (pL false 1 25)) <|
 aX 27 (pG 24 false (pLen 57 26)) <|
 aX 28 (pG 24 false (pB .gtr 3 27 (cn (.int .i64 40)))) <|
 aX 29 (pP 24 (cn (.bool true)) 28) <|
 aXZ
noncomputable def f54_r3 (c : CallF) : RF := rg [2] <| aX 2 (pM (cn (.bool false))) <|
 aXZ
noncomputable def f54_r4 (c : CallF) : RF := rg [1, 3, 31, 32, 33] <| aX 30 (pF 1 1 1) <|
 aX 31 (pL false 1 30) <|
 aX 32 (pLen 49 31) <|
 aX 33 (pM (cn (.int .i64 0))) <|
 aXZ
noncomputable def f54_r5 (c : CallF) : RF := rg [1, 3, 31, 32, 33, 34] <| aX 34 (pB .lss 3 33 32) <|
 aXZ
noncomputable def f54_r6 (c : CallF) : RF := rg [1, 3, 5, 31, 32, 33] <| aX 35 (pI 1 31 33) <|
 aX 36 (pL false 1 35) <|
 aX 5 (pM 36) <|
 aXZ
noncomputable def f54_r7 (c : CallF) : RF := rg [1, 3, 31, 32, 33, 39] <| aX 37 (pM 5) <|
 aX 38 (pK c false 83 [37]) <|
 aX 39 (pU .not 38) <|
 aXZ
noncomputable def f54_r8 (c : CallF) : RF := rg [2] <| aX 2 (pM (cn (.bool false))) <|
 aXZ
noncomputable def f54_r9 (c : CallF) : RF := rg [1, 3, 31, 32, 33] <| aX 40 (pB .add 3 33 (cn (.int .i64 1))) <|
 aX 33 (pM 40) <|
 aXZ
noncomputable def f54_r10 (c : CallF) : RF := rg [1, 3, 6] <| aX 6 (pM (cn (.int .i64 0))) <|
 aXZ
noncomputable def f54_r11 (c : CallF) : RF := rg [1, 3, 6, 42, 43, 44] <| aX 41 (pF 2 1 1) <|
 aX 42 (pL false 1 41) <|
 aX 43 (pLen 57 42) <|
 aX 44 (pM (cn (.int .i64 0))) <|
 aXZ
noncomputable def f54_r12 (c : CallF) : RF := rg [1, 3, 6, 42, 43, 44, 45] <| aX 45 (pB .lss 3 44 43) <|
 aXZ
noncomputable def f54_r13 (c : CallF) : RF := rg [1, 3, 6, 8, 42, 43, 44] <| aX 46 (pI 5 42 44) <|
 aX 47 (pL true 5 46) <|
 aX 8 (pAl 92 5) <|
 aX0 (pS 5 8 47) <|
 aXZ
noncomputable def f54_r14 (c : CallF) : RF := rg [1, 3, 8, 42, 43, 44, 102] <| aX 48 (pM 3) <|
 aX 49 (pF 0 1 8) <|
 aX 50 (pL false 1 49) <|
 aX 51 (pF 1 1 8) <|
 aX 52 (pL false 1 51) <|
 aX 53 (fun n e M => keep (aLitI 2 1 [(eget e 50), (eget e 52)] M)) <|
 aX 54 (pK c false 84 [48, 53]) <|
 aX 55 (pU .not 54) <|
 aX 56 (pM 55) <|
 aX 57 (pG 56 false (pF 2 1 8)) <|
 aX 58 (pG 56 false (pL false 1 57)) <|
 aX 59 (pG 56 false (pM 6)) <|
 aX 60 (pG 56 false (pB .lss 2 58 59)) <|
 aX 61 (pP 56 (cn (.bool true)) 60) <|
 aX 62 (pM 61) <|
 aX 63 (pG 62 false (pF 2 1 8)) <|
 aX 64 (pG 62 false (pL false 1 63)) <|
 aX 65 (pG 62 false (pF 0 1 1)) <|
 aX 66 (pG 62 false (pL false 1 65)) <|
 aX 67 (pG 62 false (pB .gtr 2 64 66)) <|
 aX 68 (pP 62 (cn (.bool true)) 67) <|
 aX 69 (pM 68) <|
 aX 70 (pG 69 false (pF 3 1 8)) <|
 aX 71 (pG 69 false (pL false 1 70)) <|
 aX 72 (pG 69 false (pB .lss 2 71 (cn (.int .i64 1)))) <|
 aX 73 (pP 69 (cn (.bool true)) 72) <|
 aX 74 (pM 73) <|
 aX 75 (pG 74 false (pF 3 1 8)) <|
 aX 76 (pG 74 false (pL false 1 75)) <|
 aX 77 (pG 74 false (pB .gtr 2 76 (cn (.int .i64 100000000)))) <|
 aX 78 (pP 74 (cn (.bool true)) 77) <|
 aX 79 (pM 78) <|
 aX 80 (pG 79 false (pF 4 1 8)) <|
 aX 81 (pG 79 false (pL false 1 80)) <|
 aX 82 (pG 79 false (pB .lss 2 81 (cn (.int .i64 0)))) <|
 aX 83 (pP 79 (cn (.bool true)) 82) <|
 aX 84 (pM 83) <|
 aX 85 (pG 84 false (pF 4 1 8)) <|
 aX 86 (pG 84 false (pL false 1 85)) <|
 aX 87 (pG 84 false (pF 3 1 8)) <|
 aX 88 (pG 84 false (pL false 1 87)) <|
 aX 89 (pG 84 false (pB .gtr 2 86 88)) <|
 aX 90 (pP 84 (cn (.bool true)) 89) <|
 aX 91 (pM 90) <|
 aX 92 (pG 91 false (pF 0 1 8)) <|
 aX 93 (pG 91 false (pL false 1 92)) <|
 aX 94 (pG 91 false (pF 1 1 8)) <|
 aX 95 (pG 91 false (pL false 1 94)) <|
 aX 96 (pG 91 false (pB .eql 2 93 95)) <|
 aX 97 (pG 91 false (pM 96)) <|
 aX 98 (pG 97 true (pF 4 1 8)) <|
 aX 99 (pG 97 true (pL false 1 98)) <|
 aX 100 (pG 97 true (pB .neq 2 99 (cn (.int .i64 0)))) <|
 aX 101 (pG 91 false (pP 97 100 (cn (.bool false)))) <|
 aX 102 (pP 91 (cn (.bool true)) 101) <|
 aXZ
noncomputable def f54_r15 (c : CallF) : RF := rg [2] <| aX 2 (pM (cn (.bool false))) <|
 aXZ
noncomputable def f54_r16 (c : CallF) : RF := rg [1, 3, 6, 42, 43, 44] <| aX 103 (pF 2 1 8) <|
 aX 104 (pL false 1 103) <|
 aX 6 (pM 104) <|
 aXZ
noncomputable def f54_r17 (c : CallF) : RF := rg [1, 3, 6, 42, 43, 44] <| aX 105 (pB .add 3 44 (cn (.int .i64 1))) <|
 aX 44 (pM 105) <|
 aXZ
noncomputable def f54_r18 (c : CallF) : RF := rg [2] <| aX 2 (pM (cn (.bool true))) <|
 aXZ
noncomputable def f54_l5 (c : CallF) (k : Nat) : St :=
 (bSeq (bReg (f54_r5 c))
 (bSeq (bCond (.tmp 34) (bEx .nrm) (bEx (.ext 0)))
 (bSeq (bBlock 1 (bSeq (bReg (f54_r6 c))
 (bSeq (bReg (f54_r7 c))
 (bCond (.tmp 39) (bSeq (bReg (f54_r8 c))
 (bEx .ret)) (bEx .nrm)))))
 (bReg (f54_r9 c)))))
noncomputable def f54_l12 (c : CallF) (k : Nat) : St :=
 (bSeq (bReg (f54_r12 c))
 (bSeq (bCond (.tmp 45) (bEx .nrm) (bEx (.ext 2)))
 (bSeq (bBlock 3 (bSeq (bReg (f54_r13 c))
 (bSeq (bSeq (bReg (f54_r14 c))
 (bCond (.tmp 102) (bSeq (bReg (f54_r15 c))
 (bEx .ret)) (bEx .nrm)))
 (bReg (f54_r16 c)))))
 (bReg (f54_r17 c)))))
noncomputable def f54 (c : CallF) (k : Nat) : St :=
 (bSeq (bReg (f54_r0 c))
 (bSeq (bReg (f54_r1 c))
 (bSeq (bSeq (bReg (f54_r2 c))
 (bCond (.tmp 29) (bSeq (bReg (f54_r3 c))
 (bEx .ret)) (bEx .nrm)))
 (bSeq (bSeq (bReg (f54_r4 c))
 (bBlock 0 (bLoop [1, 3, 31, 32, 33] (f54_l5 c k) k)))
 (bSeq (bReg (f54_r10 c))
 (bSeq (bSeq (bReg (f54_r11 c))
 (bBlock 2 (bLoop [1, 3, 6, 42, 43, 44] (f54_l12 c k) k)))
 (bSeq (bReg (f54_r18 c))
 (bEx .ret))))))))
theorem f54_eq (c : CallF) (k : Nat) : exec cx c 106 f54_an k (Try.f54.body.getD .skip) = f54 c k := by kernel_rfl
/-! ### f55: loop.example/g01263/impl.JoinDebts -/
def f55_an : Ann := ⟨[(0, r0 [0, 1]), (1, r0 [1, 9]), (2, r0 [4, 5]), (3, r0 [4, 5])], []⟩
noncomputable def f55_r0 (c : CallF) : RF := rg [0, 1] <| aX 4 (pM (cn .nils)) <|
 aX 5 (pM (cn (.int .i64 0))) <|
 aXZ
noncomputable def f55_r1 (c : CallF) : RF := rg [1, 9] <| aX 6 (pM 0) <|
 aX 7 (pM 1) <|
 aX 8 (pK c false 85 [6, 7]) <|
 aX 9 (pU .not 8) <|
 aXZ
noncomputable def f55_r2 (c : CallF) : RF := rg [4, 5] <| aX 4 (pM (cn .nils)) <|
 aX 5 (pM (cn (.int .i64 1))) <|
 aXZ
noncomputable def f55_r3 (c : CallF) : RF := rg [4, 5] <| aX 10 (pM 1) <|
 aX 11 (pK c false 86 [10]) <|
 aX 12 (pK c false 87 [11]) <|
 aX 13 (pE 0 12) <|
 aX 14 (pE 1 12) <|
 aX 4 (pM 13) <|
 aX 5 (pM 14) <|
 aXZ
noncomputable def f55 (c : CallF) (k : Nat) : St :=
 (bSeq (bReg (f55_r0 c))
 (bSeq (bSeq (bReg (f55_r1 c))
 (bCond (.tmp 9) (bSeq (bReg (f55_r2 c))
 (bEx .ret)) (bEx .nrm)))
 (bSeq (bReg (f55_r3 c))
 (bEx .ret))))
theorem f55_eq (c : CallF) (k : Nat) : exec cx c 15 f55_an k (Try.f55.body.getD .skip) = f55 c k := by kernel_rfl
/-! ### f56: loop.example/g01263/laws.eqDebt -/
def f56_an : Ann := ⟨[(0, r0 [2, 3]), (1, r0 [2, 3, 9]), (2, r0 [4]), (3, r0 [2, 3, 14]), (4, r0 [4]), (5, r0 [19]), (6, r0 [4]), (7, r0 [4])], []⟩
noncomputable def f56_r0 (c : CallF) : RF := rg [2, 3] <| aX 2 (pBox 3 0) <|
 aX 3 (pBox 3 1) <|
 aX 4 (pM (cn (.bool false))) <|
 aXZ
noncomputable def f56_r1 (c : CallF) : RF := rg [2, 3, 9] <| aX 5 (pF 0 1 2) <|
 aX 6 (pL false 1 5) <|
 aX 7 (pF 0 1 3) <|
 aX 8 (pL false 1 7) <|
 aX 9 (pB .neq 2 6 8) <|
 aXZ
noncomputable def f56_r2 (c : CallF) : RF := rg [4] <| aX 4 (pM (cn (.bool false))) <|
 aXZ
noncomputable def f56_r3 (c : CallF) : RF := rg [2, 3, 14] <| aX 10 (pF 1 1 2) <|
 aX 11 (pL false 1 10) <|
 aX 12 (pF 1 1 3) <|
 aX 13 (pL false 1 12) <|
 aX 14 (pB .neq 2 11 13) <|
 aXZ
noncomputable def f56_r4 (c : CallF) : RF := rg [4] <| aX 4 (pM (cn (.bool false))) <|
 aXZ
noncomputable def f56_r5 (c : CallF) : RF := rg [19] <| aX 15 (pF 2 1 2) <|
 aX 16 (pL false 1 15) <|
 aX 17 (pF 2 1 3) <|
 aX 18 (pL false 1 17) <|
 aX 19 (pB .neq 2 16 18) <|
 aXZ
noncomputable def f56_r6 (c : CallF) : RF := rg [4] <| aX 4 (pM (cn (.bool false))) <|
 aXZ
noncomputable def f56_r7 (c : CallF) : RF := rg [4] <| aX 4 (pM (cn (.bool true))) <|
 aXZ
noncomputable def f56 (c : CallF) (k : Nat) : St :=
 (bSeq (bReg (f56_r0 c))
 (bSeq (bSeq (bReg (f56_r1 c))
 (bCond (.tmp 9) (bSeq (bReg (f56_r2 c))
 (bEx .ret)) (bEx .nrm)))
 (bSeq (bSeq (bReg (f56_r3 c))
 (bCond (.tmp 14) (bSeq (bReg (f56_r4 c))
 (bEx .ret)) (bEx .nrm)))
 (bSeq (bSeq (bReg (f56_r5 c))
 (bCond (.tmp 19) (bSeq (bReg (f56_r6 c))
 (bEx .ret)) (bEx .nrm)))
 (bSeq (bReg (f56_r7 c))
 (bEx .ret))))))
theorem f56_eq (c : CallF) (k : Nat) : exec cx c 20 f56_an k (Try.f56.body.getD .skip) = f56 c k := by kernel_rfl
/-! ### f57: loop.example/g01263/laws.eqInt64S -/
def f57_an : Ann := ⟨[(0, r0 [0, 1]), (1, r0 [0, 1, 10]), (2, r0 [4]), (3, r0 [0, 1, 5]), (4, r0 [0, 1, 5, 14]), (5, r0 [0, 1, 5]), (6, r0 [0, 1, 5, 25]), (7, r0 [4]), (8, r0 [4])], [(4, [0, 1, 5])]⟩
noncomputable def f57_r0 (c : CallF) : RF := rg [0, 1] <| aX 4 (pM (cn (.bool false))) <|
 aXZ
noncomputable def f57_r1 (c : CallF) : RF := rg [0, 1, 10] <| aX 6 (pM 0) <|
 aX 7 (pLen 49 6) <|
 aX 8 (pM 1) <|
 aX 9 (pLen 49 8) <|
 aX 10 (pB .neq 3 7 9) <|
 aXZ
noncomputable def f57_r2 (c : CallF) : RF := rg [4] <| aX 4 (pM (cn (.bool false))) <|
 aXZ
noncomputable def f57_r3 (c : CallF) : RF := rg [0, 1, 5] <| aX 5 (pM (cn (.int .i64 0))) <|
 aXZ
noncomputable def f57_r4 (c : CallF) : RF := rg [0, 1, 5, 14] <| aX 11 (pM 5) <|
 aX 12 (pM 0) <|
 aX 13 (pLen 49 12) <|
 aX 14 (pB .lss 3 11 13) <|
 aXZ
noncomputable def f57_r5 (c : CallF) : RF := rg [0, 1, 5] <| aX 15 (pM 5) <|
 aX 16 (pB .add 3 15 (cn (.int .i64 1))) <|
 aX 5 (pM 16) <|
 aXZ
noncomputable def f57_r6 (c : CallF) : RF := rgD [0, 1, 5, 25] (aY 17 (pM 0) <|
 aY 18 (pM 5) <|
 aY 19 (pI 1 17 18) <|
 aY 20 (pL false 1 19) <|
 aY 21 (pM 1) <|
 aY 22 (pM 5) <|
 aY 23 (pI 1 21 22) <|
 aY 24 (pL false 1 23) <|
 aY 25 (pB .neq 2 20 24) <|
 aYZ)
 (aXZ)
noncomputable def f57_r7 (c : CallF) : RF := rg [4] <| aX 4 (pM (cn (.bool false))) <|
 aXZ
noncomputable def f57_r8 (c : CallF) : RF := rg [4] <| aX 4 (pM (cn (.bool true))) <|
 aXZ
noncomputable def f57_l4 (c : CallF) (k : Nat) : St :=
 (bSeq (bSeq (bReg (f57_r4 c))
 (bCond (.tmp 14) (bEx .nrm) (bEx (.ext 0))))
 (bSeq (bBlock 1 (bSeq (bReg (f57_r6 c))
 (bCond (.tmp 25) (bSeq (bReg (f57_r7 c))
 (bEx .ret)) (bEx .nrm))))
 (bReg (f57_r5 c))))
noncomputable def f57 (c : CallF) (k : Nat) : St :=
 (bSeq (bReg (f57_r0 c))
 (bSeq (bSeq (bReg (f57_r1 c))
 (bCond (.tmp 10) (bSeq (bReg (f57_r2 c))
 (bEx .ret)) (bEx .nrm)))
 (bSeq (bSeq (bReg (f57_r3 c))
 (bBlock 0 (bLoop [0, 1, 5] (f57_l4 c k) k)))
 (bSeq (bReg (f57_r8 c))
 (bEx .ret)))))
theorem f57_eq (c : CallF) (k : Nat) : exec cx c 26 f57_an k (Try.f57.body.getD .skip) = f57 c k := by kernel_rfl
/-! ### f58: loop.example/g01263/laws.eqTallyS -/
def f58_an : Ann := ⟨[(0, r0 [0, 1]), (1, r0 [0, 1, 10]), (2, r0 [4]), (3, r0 [0, 1, 5]), (4, r0 [0, 1, 5, 14]), (5, r0 [0, 1, 5]), (6, r0 [0, 1, 5, 26]), (7, r0 [4]), (8, r0 [4])], [(4, [0, 1, 5])]⟩
noncomputable def f58_r0 (c : CallF) : RF := rg [0, 1] <| aX 4 (pM (cn (.bool false))) <|
 aXZ
noncomputable def f58_r1 (c : CallF) : RF := rg [0, 1, 10] <| aX 6 (pM 0) <|
 aX 7 (pLen 57 6) <|
 aX 8 (pM 1) <|
 aX 9 (pLen 57 8) <|
 aX 10 (pB .neq 3 7 9) <|
 aXZ
noncomputable def f58_r2 (c : CallF) : RF := rg [4] <| aX 4 (pM (cn (.bool false))) <|
 aXZ
noncomputable def f58_r3 (c : CallF) : RF := rg [0, 1, 5] <| aX 5 (pM (cn (.int .i64 0))) <|
 aXZ
noncomputable def f58_r4 (c : CallF) : RF := rg [0, 1, 5, 14] <| aX 11 (pM 5) <|
 aX 12 (pM 0) <|
 aX 13 (pLen 57 12) <|
 aX 14 (pB .lss 3 11 13) <|
 aXZ
noncomputable def f58_r5 (c : CallF) : RF := rg [0, 1, 5] <| aX 15 (pM 5) <|
 aX 16 (pB .add 3 15 (cn (.int .i64 1))) <|
 aX 5 (pM 16) <|
 aXZ
noncomputable def f58_r6 (c : CallF) : RF := rgD [0, 1, 5, 26] (aY 17 (pM 0) <|
 aY 18 (pM 5) <|
 aY 19 (pI 5 17 18) <|
 aY 20 (pL true 5 19) <|
 aY 21 (pM 1) <|
 aY 22 (pM 5) <|
 aY 23 (pI 5 21 22) <|
 aY 24 (pL true 5 23) <|
 aY 25 (pK c false 88 [20, 24]) <|
 aY 26 (pU .not 25) <|
 aYZ)
 (aXZ)
noncomputable def f58_r7 (c : CallF) : RF := rg [4] <| aX 4 (pM (cn (.bool false))) <|
 aXZ
noncomputable def f58_r8 (c : CallF) : RF := rg [4] <| aX 4 (pM (cn (.bool true))) <|
 aXZ
noncomputable def f58_l4 (c : CallF) (k : Nat) : St :=
 (bSeq (bSeq (bReg (f58_r4 c))
 (bCond (.tmp 14) (bEx .nrm) (bEx (.ext 0))))
 (bSeq (bBlock 1 (bSeq (bReg (f58_r6 c))
 (bCond (.tmp 26) (bSeq (bReg (f58_r7 c))
 (bEx .ret)) (bEx .nrm))))
 (bReg (f58_r5 c))))
noncomputable def f58 (c : CallF) (k : Nat) : St :=
 (bSeq (bReg (f58_r0 c))
 (bSeq (bSeq (bReg (f58_r1 c))
 (bCond (.tmp 10) (bSeq (bReg (f58_r2 c))
 (bEx .ret)) (bEx .nrm)))
 (bSeq (bSeq (bReg (f58_r3 c))
 (bBlock 0 (bLoop [0, 1, 5] (f58_l4 c k) k)))
 (bSeq (bReg (f58_r8 c))
 (bEx .ret)))))
theorem f58_eq (c : CallF) (k : Nat) : exec cx c 27 f58_an k (Try.f58.body.getD .skip) = f58 c k := by kernel_rfl
/-! ### f59: loop.example/g01263/laws.markInt64S -/
def f59_an : Ann := ⟨[(0, r0 [0, 1]), (1, r0 [0, 1, 5]), (2, r0 [0, 1, 5, 9]), (3, r0 [0, 1, 5]), (4, r0 [0, 1, 5]), (5, r0 [0, 1, 5]), (6, r0 [4])], [(2, [0, 1, 5])]⟩
noncomputable def f59_r0 (c : CallF) : RF := rg [0, 1] <| aX 4 (pM (cn (.int .i64 0))) <|
 aXZ
noncomputable def f59_r1 (c : CallF) : RF := rg [0, 1, 5] <| aX 5 (pM (cn (.int .i64 0))) <|
 aXZ
noncomputable def f59_r2 (c : CallF) : RF := rg [0, 1, 5, 9] <| aX 6 (pM 5) <|
 aX 7 (pM 0) <|
 aX 8 (pLen 49 7) <|
 aX 9 (pB .lss 3 6 8) <|
 aXZ
noncomputable def f59_r3 (c : CallF) : RF := rg [0, 1, 5] <| aX 10 (pM 5) <|
 aX 11 (pB .add 3 10 (cn (.int .i64 1))) <|
 aX 5 (pM 11) <|
 aXZ
noncomputable def f59_r4 (c : CallF) : RF := rg [0, 1, 5] <| aX 12 (pM 0) <|
 aX 13 (pM 5) <|
 aX 14 (pM 1) <|
 aX 15 (pI 1 12 13) <|
 aX0 (pS 1 15 14) <|
 aXZ
noncomputable def f59_r5 (c : CallF) : RF := rg [0, 1, 5] <| aX 16 (pM 1) <|
 aX 17 (pB .add 3 16 (cn (.int .i64 1))) <|
 aX 1 (pM 17) <|
 aXZ
noncomputable def f59_r6 (c : CallF) : RF := rg [4] <| aX 18 (pM 1) <|
 aX 4 (pM 18) <|
 aXZ
noncomputable def f59_l2 (c : CallF) (k : Nat) : St :=
 (bSeq (bSeq (bReg (f59_r2 c))
 (bCond (.tmp 9) (bEx .nrm) (bEx (.ext 0))))
 (bSeq (bBlock 1 (bSeq (bReg (f59_r4 c))
 (bReg (f59_r5 c))))
 (bReg (f59_r3 c))))
noncomputable def f59 (c : CallF) (k : Nat) : St :=
 (bSeq (bReg (f59_r0 c))
 (bSeq (bSeq (bReg (f59_r1 c))
 (bBlock 0 (bLoop [0, 1, 5] (f59_l2 c k) k)))
 (bSeq (bReg (f59_r6 c))
 (bEx .ret))))
theorem f59_eq (c : CallF) (k : Nat) : exec cx c 19 f59_an k (Try.f59.body.getD .skip) = f59 c k := by kernel_rfl
/-! ### f60: loop.example/g01263/laws.markTallyS -/
def f60_an : Ann := ⟨[(0, r0 [0, 1]), (1, r0 [0, 1, 5]), (2, r0 [0, 1, 5, 9]), (3, r0 [0, 1, 5]), (4, r0 [0, 1, 5]), (5, r0 [0, 1, 5]), (6, r0 [0, 1, 5]), (7, r0 [0, 1, 5]), (8, r0 [0, 1, 5]), (9, r0 [0, 1, 5]), (10, r0 [0, 1, 5]), (11, r0 [0, 1, 5]), (12, r0 [0, 1, 5]), (13, r0 [0, 1, 5]), (14, r0 [4])], [(2, [0, 1, 5])]⟩
noncomputable def f60_r0 (c : CallF) : RF := rg [0, 1] <| aX 4 (pM (cn (.int .i64 0))) <|
 aXZ
noncomputable def f60_r1 (c : CallF) : RF := rg [0, 1, 5] <| aX 5 (pM (cn (.int .i64 0))) <|
 aXZ
noncomputable def f60_r2 (c : CallF) : RF := rg [0, 1, 5, 9] <| aX 6 (pM 5) <|
 aX 7 (pM 0) <|
 aX 8 (pLen 57 7) <|
 aX 9 (pB .lss 3 6 8) <|
 aXZ
noncomputable def f60_r3 (c : CallF) : RF := rg [0, 1, 5] <| aX 10 (pM 5) <|
 aX 11 (pB .add 3 10 (cn (.int .i64 1))) <|
 aX 5 (pM 11) <|
 aXZ
noncomputable def f60_r4 (c : CallF) : RF := rg [0, 1, 5] <| aX 12 (pM 0) <|
 aX 13 (pM 5) <|
 aX 14 (pM 1) <|
 aX 15 (pI 5 12 13) <|
 aX 16 (pF 0 1 15) <|
 aX0 (pS 1 16 14) <|
 aXZ
noncomputable def f60_r5 (c : CallF) : RF := rg [0, 1, 5] <| aX 17 (pM 1) <|
 aX 18 (pB .add 3 17 (cn (.int .i64 1))) <|
 aX 1 (pM 18) <|
 aXZ
noncomputable def f60_r6 (c : CallF) : RF := rg [0, 1, 5] <| aX 19 (pM 0) <|
 aX 20 (pM 5) <|
 aX 21 (pM 1) <|
 aX 22 (pI 5 19 20) <|
 aX 23 (pF 1 1 22) <|
 aX0 (pS 1 23 21) <|
 aXZ
noncomputable def f60_r7 (c : CallF) : RF := rg [0, 1, 5] <| aX 24 (pM 1) <|
 aX 25 (pB .add 3 24 (cn (.int .i64 1))) <|
 aX 1 (pM 25) <|
 aXZ
noncomputable def f60_r8 (c : CallF) : RF := rg [0, 1, 5] <| aX 26 (pM 0) <|
 aX 27 (pM 5) <|
 aX 28 (pM 1) <|
 aX 29 (pI 5 26 27) <|
 aX 30 (pF 2 1 29) <|
 aX0 (pS 1 30 28) <|
 aXZ
noncomputable def f60_r9 (c : CallF) : RF := rg [0, 1, 5] <| aX 31 (pM 1) <|
 aX 32 (pB .add 3 31 (cn (.int .i64 1))) <|
 aX 1 (pM 32) <|
 aXZ
noncomputable def f60_r10 (c : CallF) : RF := rg [0, 1, 5] <| aX 33 (pM 0) <|
 aX 34 (pM 5) <|
 aX 35 (pM 1) <|
 aX 36 (pI 5 33 34) <|
 aX 37 (pF 3 1 36) <|
 aX0 (pS 1 37 35) <|
 aXZ
noncomputable def f60_r11 (c : CallF) : RF := rg [0, 1, 5] <| aX 38 (pM 1) <|
 aX 39 (pB .add 3 38 (cn (.int .i64 1))) <|
 aX 1 (pM 39) <|
 aXZ
noncomputable def f60_r12 (c : CallF) : RF := rg [0, 1, 5] <| aX 40 (pM 0) <|
 aX 41 (pM 5) <|
 aX 42 (pM 1) <|
 aX 43 (pI 5 40 41) <|
 aX 44 (pF 4 1 43) <|
 aX0 (pS 1 44 42) <|
 aXZ
noncomputable def f60_r13 (c : CallF) : RF := rg [0, 1, 5] <| aX 45 (pM 1) <|
 aX 46 (pB .add 3 45 (cn (.int .i64 1))) <|
 aX 1 (pM 46) <|
 aXZ
noncomputable def f60_r14 (c : CallF) : RF := rg [4] <| aX 47 (pM 1) <|
 aX 4 (pM 47) <|
 aXZ
noncomputable def f60_l2 (c : CallF) (k : Nat) : St :=
 (bSeq (bSeq (bReg (f60_r2 c))
 (bCond (.tmp 9) (bEx .nrm) (bEx (.ext 0))))
 (bSeq (bBlock 1 (bSeq (bReg (f60_r4 c))
 (bSeq (bReg (f60_r5 c))
 (bSeq (bReg (f60_r6 c))
 (bSeq (bReg (f60_r7 c))
 (bSeq (bReg (f60_r8 c))
 (bSeq (bReg (f60_r9 c))
 (bSeq (bReg (f60_r10 c))
 (bSeq (bReg (f60_r11 c))
 (bSeq (bReg (f60_r12 c))
 (bReg (f60_r13 c))))))))))))
 (bReg (f60_r3 c))))
noncomputable def f60 (c : CallF) (k : Nat) : St :=
 (bSeq (bReg (f60_r0 c))
 (bSeq (bSeq (bReg (f60_r1 c))
 (bBlock 0 (bLoop [0, 1, 5] (f60_l2 c k) k)))
 (bSeq (bReg (f60_r14 c))
 (bEx .ret))))
theorem f60_eq (c : CallF) (k : Nat) : exec cx c 48 f60_an k (Try.f60.body.getD .skip) = f60 c k := by kernel_rfl
/-! ### f73: loop.example/g01263/spec.l00In -/
def f73_an : Ann := ⟨[(0, r0 [0, 1, 2]), (1, r0 [6])], []⟩
noncomputable def f73_r0 (c : CallF) : RF := rg [0, 1, 2] <| aX 6 (pM (cn (.bool false))) <|
 aXZ
noncomputable def f73_r1 (c : CallF) : RF := rg [6] <| aX 7 (pM 0) <|
 aX 8 (pM 1) <|
 aX 9 (pB .geq 2 7 8) <|
 aX 10 (pM 9) <|
 aX 11 (pG 10 true (pM 0)) <|
 aX 12 (pG 10 true (pM 2)) <|
 aX 13 (pG 10 true (pB .leq 2 11 12)) <|
 aX 14 (pP 10 13 (cn (.bool false))) <|
 aX 6 (pM 14) <|
 aXZ
noncomputable def f73 (c : CallF) (k : Nat) : St :=
 (bSeq (bReg (f73_r0 c))
 (bSeq (bReg (f73_r1 c))
 (bEx .ret)))
theorem f73_eq (c : CallF) (k : Nat) : exec cx c 15 f73_an k (Try.f73.body.getD .skip) = f73 c k := by kernel_rfl
/-! ### f78: loop.example/g01263/spec.l07Day -/
def f78_an : Ann := ⟨[(0, r0 [0]), (1, r0 [2])], []⟩
noncomputable def f78_r0 (c : CallF) : RF := rg [0] <| aX 2 (pM (cn (.bool false))) <|
 aXZ
noncomputable def f78_r1 (c : CallF) : RF := rg [2] <| aX 3 (pM 0) <|
 aX 4 (pK c false 73 [3, (cn (.int .i64 0)), (cn (.int .i64 100000))]) <|
 aX 2 (pM 4) <|
 aXZ
noncomputable def f78 (c : CallF) (k : Nat) : St :=
 (bSeq (bReg (f78_r0 c))
 (bSeq (bReg (f78_r1 c))
 (bEx .ret)))
theorem f78_eq (c : CallF) (k : Nat) : exec cx c 5 f78_an k (Try.f78.body.getD .skip) = f78 c k := by kernel_rfl
/-! ### f79: loop.example/g01263/spec.l07Cash -/
def f79_an : Ann := ⟨[(0, r0 [0]), (1, r0 [0, 3]), (2, r0 [0, 3, 7]), (3, r0 [0, 3]), (4, r0 [0, 3, 15]), (5, r0 [2]), (6, r0 [2])], [(2, [0, 3])]⟩
noncomputable def f79_r0 (c : CallF) : RF := rg [0] <| aX 2 (pM (cn (.bool false))) <|
 aXZ
noncomputable def f79_r1 (c : CallF) : RF := rg [0, 3] <| aX 3 (pM (cn (.int .i64 0))) <|
 aXZ
noncomputable def f79_r2 (c : CallF) : RF := rg [0, 3, 7] <| aX 4 (pM 3) <|
 aX 5 (pM 0) <|
 aX 6 (pLen 49 5) <|
 aX 7 (pB .lss 3 4 6) <|
 aXZ
noncomputable def f79_r3 (c : CallF) : RF := rg [0, 3] <| aX 8 (pM 3) <|
 aX 9 (pB .add 3 8 (cn (.int .i64 1))) <|
 aX 3 (pM 9) <|
 aXZ
noncomputable def f79_r4 (c : CallF) : RF := rg [0, 3, 15] <| aX 10 (pM 0) <|
 aX 11 (pM 3) <|
 aX 12 (pI 1 10 11) <|
 aX 13 (pL false 1 12) <|
 aX 14 (pK c false 94 [13]) <|
 aX 15 (pU .not 14) <|
 aXZ
noncomputable def f79_r5 (c : CallF) : RF := rg [2] <| aX 2 (pM (cn (.bool false))) <|
 aXZ
noncomputable def f79_r6 (c : CallF) : RF := rg [2] <| aX 16 (pM 0) <|
 aX 17 (pLen 49 16) <|
 aX 18 (pK c false 73 [17, (cn (.int .i64 1)), (cn (.int .i64 16))]) <|
 aX 2 (pM 18) <|
 aXZ
noncomputable def f79_l2 (c : CallF) (k : Nat) : St :=
 (bSeq (bSeq (bReg (f79_r2 c))
 (bCond (.tmp 7) (bEx .nrm) (bEx (.ext 0))))
 (bSeq (bBlock 1 (bSeq (bReg (f79_r4 c))
 (bCond (.tmp 15) (bSeq (bReg (f79_r5 c))
 (bEx .ret)) (bEx .nrm))))
 (bReg (f79_r3 c))))
noncomputable def f79 (c : CallF) (k : Nat) : St :=
 (bSeq (bReg (f79_r0 c))
 (bSeq (bSeq (bReg (f79_r1 c))
 (bBlock 0 (bLoop [0, 3] (f79_l2 c k) k)))
 (bSeq (bReg (f79_r6 c))
 (bEx .ret))))
theorem f79_eq (c : CallF) (k : Nat) : exec cx c 19 f79_an k (Try.f79.body.getD .skip) = f79 c k := by kernel_rfl
/-! ### f80: loop.example/g01263/spec.l02Person -/
def f80_an : Ann := ⟨[(0, r0 [0, 1]), (1, r0 [4])], []⟩
noncomputable def f80_r0 (c : CallF) : RF := rg [0, 1] <| aX 4 (pM (cn (.bool false))) <|
 aXZ
noncomputable def f80_r1 (c : CallF) : RF := rg [4] <| aX 5 (pM 1) <|
 aX 6 (pM 0) <|
 aX 7 (pB .sub 2 6 (cn (.int .i64 1))) <|
 aX 8 (pK c false 73 [5, (cn (.int .i64 0)), 7]) <|
 aX 4 (pM 8) <|
 aXZ
noncomputable def f80 (c : CallF) (k : Nat) : St :=
 (bSeq (bReg (f80_r0 c))
 (bSeq (bReg (f80_r1 c))
 (bEx .ret)))
theorem f80_eq (c : CallF) (k : Nat) : exec cx c 9 f80_an k (Try.f80.body.getD .skip) = f80 c k := by kernel_rfl
/-! ### f81: loop.example/g01263/laws.toTally -/
def f81_an : Ann := ⟨[(0, r0 [1, 2]), (1, r0 [1, 2, 3]), (2, r0 [1, 2, 3]), (3, r0 [1, 2, 3]), (4, r0 [1, 2, 3]), (5, r0 [1, 2, 3]), (6, r0 [2, 3]), (7, r0 [2])], []⟩
noncomputable def f81_r0 (c : CallF) : RF := rg [1, 2] <| aX 1 (pBox 5 0) <|
 aX 2 (pAl 92 5) <|
 aXZ
noncomputable def f81_r1 (c : CallF) : RF := rg [1, 2, 3] <| aX 3 (pAl 92 5) <|
 aXZ
noncomputable def f81_r2 (c : CallF) : RF := rg [1, 2, 3] <| aX 4 (pF 0 1 1) <|
 aX 5 (pL false 1 4) <|
 aX 6 (pF 0 1 3) <|
 aX0 (pS 1 6 5) <|
 aXZ
noncomputable def f81_r3 (c : CallF) : RF := rg [1, 2, 3] <| aX 7 (pF 1 1 1) <|
 aX 8 (pL false 1 7) <|
 aX 9 (pF 1 1 3) <|
 aX0 (pS 1 9 8) <|
 aXZ
noncomputable def f81_r4 (c : CallF) : RF := rg [1, 2, 3] <| aX 10 (pF 2 1 1) <|
 aX 11 (pL false 1 10) <|
 aX 12 (pF 2 1 3) <|
 aX0 (pS 1 12 11) <|
 aXZ
noncomputable def f81_r5 (c : CallF) : RF := rg [1, 2, 3] <| aX 13 (pF 3 1 1) <|
 aX 14 (pL false 1 13) <|
 aX 15 (pF 3 1 3) <|
 aX0 (pS 1 15 14) <|
 aXZ
noncomputable def f81_r6 (c : CallF) : RF := rg [2, 3] <| aX 16 (pF 4 1 1) <|
 aX 17 (pL false 1 16) <|
 aX 18 (pF 4 1 3) <|
 aX0 (pS 1 18 17) <|
 aXZ
noncomputable def f81_r7 (c : CallF) : RF := rg [2] <| aX 19 (pL true 5 3) <|
 aX0 (pS 5 2 19) <|
 aXZ
noncomputable def f81 (c : CallF) (k : Nat) : St :=
 (bSeq (bReg (f81_r0 c))
 (bSeq (bReg (f81_r1 c))
 (bSeq (bReg (f81_r2 c))
 (bSeq (bReg (f81_r3 c))
 (bSeq (bReg (f81_r4 c))
 (bSeq (bReg (f81_r5 c))
 (bSeq (bReg (f81_r6 c))
 (bSeq (bReg (f81_r7 c))
 (bEx .ret)))))))))
theorem f81_eq (c : CallF) (k : Nat) : exec cx c 20 f81_an k (Try.f81.body.getD .skip) = f81 c k := by kernel_rfl
/-! ### f82: loop.example/g01263/impl.isBookDay -/
def f82_an : Ann := ⟨[(0, r0 [0]), (1, r0 [2])], []⟩
noncomputable def f82_r0 (c : CallF) : RF := rg [0] <| aX 2 (pM (cn (.bool false))) <|
 aXZ
noncomputable def f82_r1 (c : CallF) : RF := rg [2] <| aX 3 (pM 0) <|
 aX 4 (pB .geq 2 3 (cn (.int .i64 0))) <|
 aX 5 (pM 4) <|
 aX 6 (pG 5 true (pM 0)) <|
 aX 7 (pG 5 true (pB .leq 2 6 (cn (.int .i64 100000)))) <|
 aX 8 (pP 5 7 (cn (.bool false))) <|
 aX 2 (pM 8) <|
 aXZ
noncomputable def f82 (c : CallF) (k : Nat) : St :=
 (bSeq (bReg (f82_r0 c))
 (bSeq (bReg (f82_r1 c))
 (bEx .ret)))
theorem f82_eq (c : CallF) (k : Nat) : exec cx c 9 f82_an k (Try.f82.body.getD .skip) = f82 c k := by kernel_rfl
/-! ### f83: loop.example/g01263/impl.isAmount -/
def f83_an : Ann := ⟨[(0, r0 [0]), (1, r0 [2])], []⟩
noncomputable def f83_r0 (c : CallF) : RF := rg [0] <| aX 2 (pM (cn (.bool false))) <|
 aXZ
noncomputable def f83_r1 (c : CallF) : RF := rg [2] <| aX 3 (pM 0) <|
 aX 4 (pB .geq 2 3 (cn (.int .i64 0))) <|
 aX 5 (pM 4) <|
 aX 6 (pG 5 true (pM 0)) <|
 aX 7 (pG 5 true (pB .leq 2 6 (cn (.int .i64 100000000)))) <|
 aX 8 (pP 5 7 (cn (.bool false))) <|
 aX 2 (pM 8) <|
 aXZ
noncomputable def f83 (c : CallF) (k : Nat) : St :=
 (bSeq (bReg (f83_r0 c))
 (bSeq (bReg (f83_r1 c))
 (bEx .ret)))
theorem f83_eq (c : CallF) (k : Nat) : exec cx c 9 f83_an k (Try.f83.body.getD .skip) = f83 c k := by kernel_rfl
/-! ### f84: loop.example/g01263/impl.arePeople -/
def f84_an : Ann := ⟨[(0, r0 [0, 1]), (1, r0 [0, 7, 8, 9]), (2, r0 [0, 7, 8, 9, 10]), (3, r0 [0, 6, 7, 8, 9]), (4, r0 [0, 7, 8, 9, 19]), (5, r0 [4]), (6, r0 [0, 7, 8, 9]), (7, r0 [4])], [(2, [0, 7, 8, 9])]⟩
noncomputable def f84_r0 (c : CallF) : RF := rg [0, 1] <| aX 4 (pM (cn (.bool false))) <|
 aXZ
noncomputable def f84_r1 (c : CallF) : RF := rg [0, 7, 8, 9] <| aX 7 (pM 1) <|
 aX 8 (pLen 49 7) <|
 aX 9 (pM (cn (.int .i64 0))) <|
 aXZ
noncomputable def f84_r2 (c : CallF) : RF := rg [0, 7, 8, 9, 10] <| aX 10 (pB .lss 3 9 8) <|
 aXZ
noncomputable def f84_r3 (c : CallF) : RF := rg [0, 6, 7, 8, 9] <| aX 11 (pI 1 7 9) <|
 aX 12 (pL false 1 11) <|
 aX 6 (pM 12) <|
 aXZ
noncomputable def f84_r4 (c : CallF) : RF := rg [0, 7, 8, 9, 19] <| aX 13 (pM 6) <|
 aX 14 (pB .lss 2 13 (cn (.int .i64 0))) <|
 aX 15 (pM 14) <|
 aX 16 (pG 15 false (pM 6)) <|
 aX 17 (pG 15 false (pM 0)) <|
 aX 18 (pG 15 false (pB .geq 2 16 17)) <|
 aX 19 (pP 15 (cn (.bool true)) 18) <|
 aXZ
noncomputable def f84_r5 (c : CallF) : RF := rg [4] <| aX 4 (pM (cn (.bool false))) <|
 aXZ
noncomputable def f84_r6 (c : CallF) : RF := rg [0, 7, 8, 9] <| aX 20 (pB .add 3 9 (cn (.int .i64 1))) <|
 aX 9 (pM 20) <|
 aXZ
noncomputable def f84_r7 (c : CallF) : RF := rg [4] <| aX 4 (pM (cn (.bool true))) <|
 aXZ
noncomputable def f84_l2 (c : CallF) (k : Nat) : St :=
 (bSeq (bReg (f84_r2 c))
 (bSeq (bCond (.tmp 10) (bEx .nrm) (bEx (.ext 0)))
 (bSeq (bBlock 1 (bSeq (bReg (f84_r3 c))
 (bSeq (bReg (f84_r4 c))
 (bCond (.tmp 19) (bSeq (bReg (f84_r5 c))
 (bEx .ret)) (bEx .nrm)))))
 (bReg (f84_r6 c)))))
noncomputable def f84 (c : CallF) (k : Nat) : St :=
 (bSeq (bReg (f84_r0 c))
 (bSeq (bSeq (bReg (f84_r1 c))
 (bBlock 0 (bLoop [0, 7, 8, 9] (f84_l2 c k) k)))
 (bSeq (bReg (f84_r7 c))
 (bEx .ret))))
theorem f84_eq (c : CallF) (k : Nat) : exec cx c 21 f84_an k (Try.f84.body.getD .skip) = f84 c k := by kernel_rfl
/-! ### f85: loop.example/g01263/impl.ValidDebts -/
def f85_an : Ann := ⟨[(0, r0 [0, 1]), (1, r0 [0, 1, 17]), (2, r0 [4]), (3, r0 [0, 18, 19, 20]), (4, r0 [0, 18, 19, 20, 21]), (5, r0 [0, 6, 18, 19, 20]), (6, r0 [0, 18, 19, 20, 60]), (7, r0 [4]), (8, r0 [0, 18, 19, 20]), (9, r0 [4])], [(4, [0, 18, 19, 20])]⟩
noncomputable def f85_r0 (c : CallF) : RF := rg [0, 1] <| aX 4 (pM (cn (.bool false))) <|
 aXZ
noncomputable def f85_r1 (c : CallF) : RF := rg [0, 1, 17] <| aX 7 (pM 0) <|
 aX 8 (pB .lss 2 7 (cn (.int .i64 1))) <|
 aX 9 (pM 8) <|
 aX 10 (pG 9 false (pM 0)) <|
 aX 11 (pG 9 false (pB .gtr 2 10 (cn (.int .i64 16)))) <|
 aX 12 (pP 9 (cn (.bool true)) 11) <|
 aX 13 (pM 12) <|
 aX 14 (pG 13 false (pM 1)) <|
 aX 15 (pG 13 false (pLen 54 14)) <|
 aX 16 (pG 13 false (pB .gtr 3 15 (cn (.int .i64 60)))) <|
 aX 17 (pP 13 (cn (.bool true)) 16) <|
 aXZ
noncomputable def f85_r2 (c : CallF) : RF := rg [4] <| aX 4 (pM (cn (.bool false))) <|
 aXZ
noncomputable def f85_r3 (c : CallF) : RF := rg [0, 18, 19, 20] <| aX 18 (pM 1) <|
 aX 19 (pLen 54 18) <|
 aX 20 (pM (cn (.int .i64 0))) <|
 aXZ
noncomputable def f85_r4 (c : CallF) : RF := rg [0, 18, 19, 20, 21] <| aX 21 (pB .lss 3 20 19) <|
 aXZ
noncomputable def f85_r5 (c : CallF) : RF := rg [0, 6, 18, 19, 20] <| aX 22 (pI 3 18 20) <|
 aX 23 (pL true 3 22) <|
 aX 6 (pAl 94 3) <|
 aX0 (pS 3 6 23) <|
 aXZ
noncomputable def f85_r6 (c : CallF) : RF := rg [0, 18, 19, 20, 60] <| aX 24 (pF 0 1 6) <|
 aX 25 (pL false 1 24) <|
 aX 26 (pB .lss 2 25 (cn (.int .i64 0))) <|
 aX 27 (pM 26) <|
 aX 28 (pG 27 false (pF 0 1 6)) <|
 aX 29 (pG 27 false (pL false 1 28)) <|
 aX 30 (pG 27 false (pM 0)) <|
 aX 31 (pG 27 false (pB .geq 2 29 30)) <|
 aX 32 (pP 27 (cn (.bool true)) 31) <|
 aX 33 (pM 32) <|
 aX 34 (pG 33 false (pF 1 1 6)) <|
 aX 35 (pG 33 false (pL false 1 34)) <|
 aX 36 (pG 33 false (pB .lss 2 35 (cn (.int .i64 0)))) <|
 aX 37 (pP 33 (cn (.bool true)) 36) <|
 aX 38 (pM 37) <|
 aX 39 (pG 38 false (pF 1 1 6)) <|
 aX 40 (pG 38 false (pL false 1 39)) <|
 aX 41 (pG 38 false (pM 0)) <|
 aX 42 (pG 38 false (pB .geq 2 40 41)) <|
 aX 43 (pP 38 (cn (.bool true)) 42) <|
 aX 44 (pM 43) <|
 aX 45 (pG 44 false (pF 0 1 6)) <|
 aX 46 (pG 44 false (pL false 1 45)) <|
 aX 47 (pG 44 false (pF 1 1 6)) <|
 aX 48 (pG 44 false (pL false 1 47)) <|
 aX 49 (pG 44 false (pB .eql 2 46 48)) <|
 aX 50 (pP 44 (cn (.bool true)) 49) <|
 aX 51 (pM 50) <|
 aX 52 (pG 51 false (pF 2 1 6)) <|
 aX 53 (pG 51 false (pL false 1 52)) <|
 aX 54 (pG 51 false (pB .lss 2 53 (cn (.int .i64 1)))) <|
 aX 55 (pP 51 (cn (.bool true)) 54) <|
 aX 56 (pM 55) <|
 aX 57 (pG 56 false (pF 2 1 6)) <|
 aX 58 (pG 56 false (pL false 1 57)) <|
 aX 59 (pG 56 false (pB .gtr 2 58 (cn (.int .i64 100000000)))) <|
 aX 60 (pP 56 (cn (.bool true)) 59) <|
 aXZ
noncomputable def f85_r7 (c : CallF) : RF := rg [4] <| aX 4 (pM (cn (.bool false))) <|
 aXZ
noncomputable def f85_r8 (c : CallF) : RF := rg [0, 18, 19, 20] <| aX 61 (pB .add 3 20 (cn (.int .i64 1))) <|
 aX 20 (pM 61) <|
 aXZ
noncomputable def f85_r9 (c : CallF) : RF := rg [4] <| aX 4 (pM (cn (.bool true))) <|
 aXZ
noncomputable def f85_l4 (c : CallF) (k : Nat) : St :=
 (bSeq (bReg (f85_r4 c))
 (bSeq (bCond (.tmp 21) (bEx .nrm) (bEx (.ext 0)))
 (bSeq (bBlock 1 (bSeq (bReg (f85_r5 c))
 (bSeq (bReg (f85_r6 c))
 (bCond (.tmp 60) (bSeq (bReg (f85_r7 c))
 (bEx .ret)) (bEx .nrm)))))
 (bReg (f85_r8 c)))))
noncomputable def f85 (c : CallF) (k : Nat) : St :=
 (bSeq (bReg (f85_r0 c))
 (bSeq (bSeq (bReg (f85_r1 c))
 (bCond (.tmp 17) (bSeq (bReg (f85_r2 c))
 (bEx .ret)) (bEx .nrm)))
 (bSeq (bSeq (bReg (f85_r3 c))
 (bBlock 0 (bLoop [0, 18, 19, 20] (f85_l4 c k) k)))
 (bSeq (bReg (f85_r9 c))
 (bEx .ret)))))
theorem f85_eq (c : CallF) (k : Nat) : exec cx c 62 f85_an k (Try.f85.body.getD .skip) = f85 c k := by kernel_rfl
/-! ### f86: loop.example/g01263/impl.sumsOf -/
def f86_an : Ann := ⟨[(0, r0 [0, 2]), (1, r0 [0, 2, 3]), (2, r0 [2, 3, 7, 8, 9]), (3, r0 [2, 3, 7, 8, 9, 10]), (4, r0 [2, 3, 5, 7, 8, 9]), (5, ⟨[], [], [], [12], [2, 3, 7, 8, 9]⟩), (6, r0 [2, 3, 7, 8, 9]), (7, r0 [2])], [(3, [2, 3, 7, 8, 9])]⟩
noncomputable def f86_r0 (c : CallF) : RF := rg [0, 2] <| aX 2 (pAl 133 256) <|
 aXZ
noncomputable def f86_r1 (c : CallF) : RF := rg [0, 2, 3] <| aX 6 (fun n e M => keep (aBuild (zeroOf cx.P 133) [] M)) <|
 aX 3 (pAl 133 256) <|
 aX0 (pS 256 3 6) <|
 aXZ
noncomputable def f86_r2 (c : CallF) : RF := rg [2, 3, 7, 8, 9] <| aX 7 (pM 0) <|
 aX 8 (pLen 54 7) <|
 aX 9 (pM (cn (.int .i64 0))) <|
 aXZ
noncomputable def f86_r3 (c : CallF) : RF := rg [2, 3, 7, 8, 9, 10] <| aX 10 (pB .lss 3 9 8) <|
 aXZ
noncomputable def f86_r4 (c : CallF) : RF := rg [2, 3, 5, 7, 8, 9] <| aX 11 (pI 3 7 9) <|
 aX 12 (pL true 3 11) <|
 aX 5 (pAl 94 3) <|
 aX0 (pS 3 5 12) <|
 aXZ
noncomputable def f86_r5 (c : CallF) : RF := rgD [2, 3, 7, 8, 9] (aY 13 (pF 0 1 5) <|
 aY 14 (pL false 1 13) <|
 aY 15 (pF 1 1 5) <|
 aY 16 (pL false 1 15) <|
 aY 17 (fun n e M => keep (aIndexP 16 16 (eget e 3) (eget e 14) M)) <|
 aY 18 (fun n e M => keep (aIndexP 16 1 (eget e 17) (eget e 16) M)) <|
 aY 19 (pL false 1 18) <|
 aY 20 (pF 2 1 5) <|
 aY 21 (pL false 1 20) <|
 aY 22 (pB .add 2 19 21) <|
 aY 23 (fun n e M => keep (aIndexP 16 16 (eget e 3) (eget e 14) M)) <|
 aY 24 (fun n e M => keep (aIndexP 16 1 (eget e 23) (eget e 16) M)) <|
 aYZ)
 (aX0 (pS 1 24 22) <|
 aXZ)
noncomputable def f86_r6 (c : CallF) : RF := rg [2, 3, 7, 8, 9] <| aX 25 (pB .add 3 9 (cn (.int .i64 1))) <|
 aX 9 (pM 25) <|
 aXZ
noncomputable def f86_r7 (c : CallF) : RF := rg [2] <| aX 26 (pL true 256 3) <|
 aX0 (pS 256 2 26) <|
 aXZ
noncomputable def f86_l3 (c : CallF) (k : Nat) : St :=
 (bSeq (bReg (f86_r3 c))
 (bSeq (bCond (.tmp 10) (bEx .nrm) (bEx (.ext 0)))
 (bSeq (bBlock 1 (bSeq (bReg (f86_r4 c))
 (bReg (f86_r5 c))))
 (bReg (f86_r6 c)))))
noncomputable def f86 (c : CallF) (k : Nat) : St :=
 (bSeq (bReg (f86_r0 c))
 (bSeq (bReg (f86_r1 c))
 (bSeq (bSeq (bReg (f86_r2 c))
 (bBlock 0 (bLoop [2, 3, 7, 8, 9] (f86_l3 c k) k)))
 (bSeq (bReg (f86_r7 c))
 (bEx .ret)))))
theorem f86_eq (c : CallF) (k : Nat) : exec cx c 27 f86_an k (Try.f86.body.getD .skip) = f86 c k := by kernel_rfl
/-! ### f87: (loop.example/g01263/impl.sums).debts -/
def f87_an : Ann := ⟨[(0, r0 [1]), (1, ⟨[0], [], [], [], [1, 4]⟩), (2, r0 [4, 10, 11]), (3, r0 [4, 10, 11, 12]), (4, r0 [4, 5, 6, 10, 11]), (5, r0 [4, 5, 10, 11, 15, 16]), (6, r0 [4, 5, 10, 11, 15, 16, 17]), (7, r0 [4, 5, 7, 8, 10, 11, 15, 16]), (8, r0 [4, 5, 7, 8, 10, 11, 15, 16, 21]), (9, r0 [2, 3]), (10, r0 [4, 5, 7, 8, 10, 11, 15, 16, 23]), (11, ⟨[6], [], [], [], [4, 5, 10, 11, 15, 16]⟩), (12, r0 [4, 5, 10, 11, 15, 16]), (13, r0 [4, 10, 11]), (14, r0 [4, 35]), (15, r0 [2, 3]), (16, r0 [2, 3])], [(6, [4, 5, 10, 11, 15, 16]), (3, [4, 10, 11])]⟩
noncomputable def f87_r0 (c : CallF) : RF := rg [1] <| aX 1 (pBox 256 0) <|
 aX 2 (pM (cn .nils)) <|
 aX 3 (pM (cn (.int .i64 0))) <|
 aXZ
noncomputable def f87_r1 (c : CallF) : RF := rg [1, 4] <| aX 9 (fun n e M => aLitO n 94 3 [] M) <|
 aX 4 (pM 9) <|
 aXZ
noncomputable def f87_r2 (c : CallF) : RF := rg [4, 10, 11] <| aX 10 (pL true 256 1) <|
 aX 11 (pM (cn (.int .i64 0))) <|
 aXZ
noncomputable def f87_r3 (c : CallF) : RF := rg [4, 10, 11, 12] <| aX 12 (pB .lss 3 11 (cn (.int .i64 16))) <|
 aXZ
noncomputable def f87_r4 (c : CallF) : RF := rg [4, 5, 6, 10, 11] <| aX 13 (pM 11) <|
 aX 14 (fun n e M => keep (aIndexA true 16 16 (eget e 10) (eget e 11))) <|
 aX 6 (pAl 126 16) <|
 aX 5 (pM 13) <|
 aX0 (pS 16 6 14) <|
 aXZ
noncomputable def f87_r5 (c : CallF) : RF := rg [4, 5, 10, 11, 15, 16] <| aX 15 (pL true 16 6) <|
 aX 16 (pM (cn (.int .i64 0))) <|
 aXZ
noncomputable def f87_r6 (c : CallF) : RF := rg [4, 5, 10, 11, 15, 16, 17] <| aX 17 (pB .lss 3 16 (cn (.int .i64 16))) <|
 aXZ
noncomputable def f87_r7 (c : CallF) : RF := rg [4, 5, 7, 8, 10, 11, 15, 16] <| aX 18 (pM 16) <|
 aX 19 (fun n e M => keep (aIndexA false 16 1 (eget e 15) (eget e 16))) <|
 aX 7 (pM 18) <|
 aX 8 (pM 19) <|
 aXZ
noncomputable def f87_r8 (c : CallF) : RF := rg [4, 5, 7, 8, 10, 11, 15, 16, 21] <| aX 20 (pM 8) <|
 aX 21 (pB .gtr 2 20 (cn (.int .i64 100000000))) <|
 aXZ
noncomputable def f87_r9 (c : CallF) : RF := rg [2, 3] <| aX 2 (pM (cn .nils)) <|
 aX 3 (pM (cn (.int .i64 3))) <|
 aXZ
noncomputable def f87_r10 (c : CallF) : RF := rg [4, 5, 7, 8, 10, 11, 15, 16, 23] <| aX 22 (pM 8) <|
 aX 23 (pB .gtr 2 22 (cn (.int .i64 0))) <|
 aXZ
noncomputable def f87_r11 (c : CallF) : RF := rg [4, 5, 10, 11, 15, 16] <| aX 24 (pM 4) <|
 aX 25 (pM 5) <|
 aX 26 (pM 7) <|
 aX 27 (pM 8) <|
 aX 28 (fun n e M => keep (aBuild (zeroOf cx.P 94) [(0, 1, (eget e 25)), (1, 1, (eget e 26)), (2, 1, (eget e 27))] M)) <|
 aX 29 (fun n e M => keep (aLitI 94 3 [(eget e 28)] M)) <|
 aX 30 (fun n e M => aAppO n 94 3 24 (eget e 24) (eget e 29) M) <|
 aX 4 (pM 30) <|
 aXZ
noncomputable def f87_r12 (c : CallF) : RF := rg [4, 5, 10, 11, 15, 16] <| aX 31 (pB .add 3 16 (cn (.int .i64 1))) <|
 aX 16 (pM 31) <|
 aXZ
noncomputable def f87_r13 (c : CallF) : RF := rg [4, 10, 11] <| aX 32 (pB .add 3 11 (cn (.int .i64 1))) <|
 aX 11 (pM 32) <|
 aXZ
noncomputable def f87_r14 (c : CallF) : RF := rg [4, 35] <| aX 33 (pM 4) <|
 aX 34 (pLen 54 33) <|
 aX 35 (pB .gtr 3 34 (cn (.int .i64 60))) <|
 aXZ
noncomputable def f87_r15 (c : CallF) : RF := rg [2, 3] <| aX 2 (pM (cn .nils)) <|
 aX 3 (pM (cn (.int .i64 3))) <|
 aXZ
noncomputable def f87_r16 (c : CallF) : RF := rg [2, 3] <| aX 36 (pM 4) <|
 aX 2 (pM 36) <|
 aX 3 (pM (cn (.int .i64 0))) <|
 aXZ
noncomputable def f87_l6 (c : CallF) (k : Nat) : St :=
 (bSeq (bReg (f87_r6 c))
 (bSeq (bCond (.tmp 17) (bEx .nrm) (bEx (.ext 2)))
 (bSeq (bBlock 3 (bSeq (bReg (f87_r7 c))
 (bSeq (bSeq (bReg (f87_r8 c))
 (bCond (.tmp 21) (bSeq (bReg (f87_r9 c))
 (bEx .ret)) (bEx .nrm)))
 (bSeq (bReg (f87_r10 c))
 (bCond (.tmp 23) (bReg (f87_r11 c)) (bEx .nrm))))))
 (bReg (f87_r12 c)))))
noncomputable def f87_l3 (c : CallF) (k : Nat) : St :=
 (bSeq (bReg (f87_r3 c))
 (bSeq (bCond (.tmp 12) (bEx .nrm) (bEx (.ext 0)))
 (bSeq (bBlock 1 (bSeq (bReg (f87_r4 c))
 (bSeq (bReg (f87_r5 c))
 (bBlock 2 (bLoop [4, 5, 10, 11, 15, 16] (f87_l6 c k) k)))))
 (bReg (f87_r13 c)))))
noncomputable def f87 (c : CallF) (k : Nat) : St :=
 (bSeq (bReg (f87_r0 c))
 (bSeq (bReg (f87_r1 c))
 (bSeq (bSeq (bReg (f87_r2 c))
 (bBlock 0 (bLoop [4, 10, 11] (f87_l3 c k) k)))
 (bSeq (bSeq (bReg (f87_r14 c))
 (bCond (.tmp 35) (bSeq (bReg (f87_r15 c))
 (bEx .ret)) (bEx .nrm)))
 (bSeq (bReg (f87_r16 c))
 (bEx .ret))))))
theorem f87_eq (c : CallF) (k : Nat) : exec cx c 37 f87_an k (Try.f87.body.getD .skip) = f87 c k := by kernel_rfl
/-! ### f88: loop.example/g01263/laws.eqTally -/
def f88_an : Ann := ⟨[(0, r0 [2, 3]), (1, r0 [2, 3, 9]), (2, r0 [4]), (3, r0 [2, 3, 14]), (4, r0 [4]), (5, r0 [2, 3, 19]), (6, r0 [4]), (7, r0 [2, 3, 24]), (8, r0 [4]), (9, r0 [29]), (10, r0 [4]), (11, r0 [4])], []⟩
noncomputable def f88_r0 (c : CallF) : RF := rg [2, 3] <| aX 2 (pBox 5 0) <|
 aX 3 (pBox 5 1) <|
 aX 4 (pM (cn (.bool false))) <|
 aXZ
noncomputable def f88_r1 (c : CallF) : RF := rg [2, 3, 9] <| aX 5 (pF 0 1 2) <|
 aX 6 (pL false 1 5) <|
 aX 7 (pF 0 1 3) <|
 aX 8 (pL false 1 7) <|
 aX 9 (pB .neq 2 6 8) <|
 aXZ
noncomputable def f88_r2 (c : CallF) : RF := rg [4] <| aX 4 (pM (cn (.bool false))) <|
 aXZ
noncomputable def f88_r3 (c : CallF) : RF := rg [2, 3, 14] <| aX 10 (pF 1 1 2) <|
 aX 11 (pL false 1 10) <|
 aX 12 (pF 1 1 3) <|
 aX 13 (pL false 1 12) <|
 aX 14 (pB .neq 2 11 13) <|
 aXZ
noncomputable def f88_r4 (c : CallF) : RF := rg [4] <| aX 4 (pM (cn (.bool false))) <|
 aXZ
noncomputable def f88_r5 (c : CallF) : RF := rg [2, 3, 19] <| aX 15 (pF 2 1 2) <|
 aX 16 (pL false 1 15) <|
 aX 17 (pF 2 1 3) <|
 aX 18 (pL false 1 17) <|
 aX 19 (pB .neq 2 16 18) <|
 aXZ
noncomputable def f88_r6 (c : CallF) : RF := rg [4] <| aX 4 (pM (cn (.bool false))) <|
 aXZ
noncomputable def f88_r7 (c : CallF) : RF := rg [2, 3, 24] <| aX 20 (pF 3 1 2) <|
 aX 21 (pL false 1 20) <|
 aX 22 (pF 3 1 3) <|
 aX 23 (pL false 1 22) <|
 aX 24 (pB .neq 2 21 23) <|
 aXZ
noncomputable def f88_r8 (c : CallF) : RF := rg [4] <| aX 4 (pM (cn (.bool false))) <|
 aXZ
noncomputable def f88_r9 (c : CallF) : RF := rg [29] <| aX 25 (pF 4 1 2) <|
 aX 26 (pL false 1 25) <|
 aX 27 (pF 4 1 3) <|
 aX 28 (pL false 1 27) <|
 aX 29 (pB .neq 2 26 28) <|
 aXZ
noncomputable def f88_r10 (c : CallF) : RF := rg [4] <| aX 4 (pM (cn (.bool false))) <|
 aXZ
noncomputable def f88_r11 (c : CallF) : RF := rg [4] <| aX 4 (pM (cn (.bool true))) <|
 aXZ
noncomputable def f88 (c : CallF) (k : Nat) : St :=
 (bSeq (bReg (f88_r0 c))
 (bSeq (bSeq (bReg (f88_r1 c))
 (bCond (.tmp 9) (bSeq (bReg (f88_r2 c))
 (bEx .ret)) (bEx .nrm)))
 (bSeq (bSeq (bReg (f88_r3 c))
 (bCond (.tmp 14) (bSeq (bReg (f88_r4 c))
 (bEx .ret)) (bEx .nrm)))
 (bSeq (bSeq (bReg (f88_r5 c))
 (bCond (.tmp 19) (bSeq (bReg (f88_r6 c))
 (bEx .ret)) (bEx .nrm)))
 (bSeq (bSeq (bReg (f88_r7 c))
 (bCond (.tmp 24) (bSeq (bReg (f88_r8 c))
 (bEx .ret)) (bEx .nrm)))
 (bSeq (bSeq (bReg (f88_r9 c))
 (bCond (.tmp 29) (bSeq (bReg (f88_r10 c))
 (bEx .ret)) (bEx .nrm)))
 (bSeq (bReg (f88_r11 c))
 (bEx .ret))))))))
theorem f88_eq (c : CallF) (k : Nat) : exec cx c 30 f88_an k (Try.f88.body.getD .skip) = f88 c k := by kernel_rfl
/-! ### f94: loop.example/g01263/spec.l01Amount -/
def f94_an : Ann := ⟨[(0, r0 [0]), (1, r0 [2])], []⟩
noncomputable def f94_r0 (c : CallF) : RF := rg [0] <| aX 2 (pM (cn (.bool false))) <|
 aXZ
noncomputable def f94_r1 (c : CallF) : RF := rg [2] <| aX 3 (pM 0) <|
 aX 4 (pK c false 73 [3, (cn (.int .i64 0)), (cn (.int .i64 100000000))]) <|
 aX 2 (pM 4) <|
 aXZ
noncomputable def f94 (c : CallF) (k : Nat) : St :=
 (bSeq (bReg (f94_r0 c))
 (bSeq (bReg (f94_r1 c))
 (bEx .ret)))
theorem f94_eq (c : CallF) (k : Nat) : exec cx c 5 f94_an k (Try.f94.body.getD .skip) = f94 c k := by kernel_rfl
def anns : List (Nat × Ann) := [(8, f8_an), (22, f22_an), (23, f23_an), (24, f24_an), (25, f25_an), (26, f26_an), (27, f27_an), (28, f28_an), (29, f29_an), (30, f30_an), (47, f47_an), (48, f48_an), (49, f49_an), (50, f50_an), (51, f51_an), (52, f52_an), (53, f53_an), (54, f54_an), (55, f55_an), (56, f56_an), (57, f57_an), (58, f58_an), (59, f59_an), (60, f60_an), (73, f73_an), (78, f78_an), (79, f79_an), (80, f80_an), (81, f81_an), (82, f82_an), (83, f83_an), (84, f84_an), (85, f85_an), (86, f86_an), (87, f87_an), (88, f88_an), (94, f94_an)]
noncomputable def CN0 : Nat → CallF := callN cx (Go.Ab.look anns) (fun _ _ _ => none) (fun _ => false)
def isP (f : Nat) : Bool := has [] f
noncomputable def primF : CallF := splitNil (callN cx (Go.Ab.look anns) (fun _ _ _ => none) (fun _ => false) 3)
noncomputable def CN : Nat → CallF := callN cx (Go.Ab.look anns) primF isP
end Go.Proofs.Ythkbjnbbahmpkaa

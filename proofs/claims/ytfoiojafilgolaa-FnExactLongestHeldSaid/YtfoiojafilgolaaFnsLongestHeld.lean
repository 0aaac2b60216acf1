/- Printed by a program of ours (ext.py). -/
import Derived.Test.YtfoiojafilgolaaAbGhL
import Derived.Test.YtfoiojafilgolaaProg
set_option linter.unusedVariables false
set_option linter.unusedSimpArgs false
set_option maxRecDepth 100000
set_option maxHeartbeats 2000000
namespace Go.Proofs.Ytfoiojafilgolaa
open Go Go.Ab
noncomputable def cx : Cx := ⟨Try.prog, fun f => has [63] f⟩
noncomputable abbrev pB := pB_ cx.P
noncomputable abbrev pLen := pLen_ cx.P
noncomputable abbrev pAl := pAl_ cx.P
noncomputable abbrev pK := pK_ cx
/-! ### f5: loop.example/g01263/laws.FnExactLongestHeld -/
def f5_an : Ann := ⟨[(0, r0 [1, 2, 3]), (1, r0 [1, 2, 3, 7]), (2, r0 [1, 2, 3, 7]), (3, r0 [1, 2, 3, 7, 20]), (4, r0 [6]), (5, r0 [1, 2, 3, 7]), (6, r0 [1, 2, 3, 25]), (7, r0 [6]), (8, r0 [1, 2, 3, 8, 9, 10]), (9, r0 [1, 2, 3, 8, 9, 10, 11]), (10, r0 [1, 2, 3, 8, 9, 10, 11, 12]), (11, r0 [1, 3, 8, 9, 10, 11, 12, 13, 14, 15]), (12, r0 [1, 3, 11, 12, 60]), (13, r0 [6]), (14, r0 [1, 12, 65]), (15, r0 [6]), (16, r0 [70]), (17, r0 [6]), (18, r0 [6])], []⟩
noncomputable def f5_r0 (c : CallF) : RF := rg [1, 2, 3] <| aX 3 (pBox 3 0) <|
 aX 6 (pM (cn (.bool false))) <|
 aXZ
noncomputable def f5_r1 (c : CallF) : RF := rg [1, 2, 3, 7] <| aX 7 (pM (cn (.int .i64 1048576))) <|
 aXZ
noncomputable def f5_r2 (c : CallF) : RF := rg [1, 2, 3, 7] <| aX 16 (pL true 3 3) <|
 aX 17 (pM 7) <|
 aX 18 (pK c false 22 [16, 17]) <|
 aX 7 (pM 18) <|
 aXZ
noncomputable def f5_r3 (c : CallF) : RF := rg [1, 2, 3, 7, 20] <| aX 19 (pM 7) <|
 aX 20 (pB .lss 3 19 (cn (.int .i64 0))) <|
 aXZ
noncomputable def f5_r4 (c : CallF) : RF := rg [6] <| aX 6 (pM (cn (.bool true))) <|
 aXZ
noncomputable def f5_r5 (c : CallF) : RF := rg [1, 2, 3, 7] <| aX 21 (pM 1) <|
 aX 22 (pM 7) <|
 aX 23 (pK c false 23 [21, 22]) <|
 aX 7 (pM 23) <|
 aXZ
noncomputable def f5_r6 (c : CallF) : RF := rg [1, 2, 3, 25] <| aX 24 (pM 7) <|
 aX 25 (pB .lss 3 24 (cn (.int .i64 0))) <|
 aXZ
noncomputable def f5_r7 (c : CallF) : RF := rg [6] <| aX 6 (pM (cn (.bool true))) <|
 aXZ
noncomputable def f5_r8 (c : CallF) : RF := rg [1, 2, 3, 8, 9, 10] <| aX 27 (pL true 3 3) <|
 aX 28 (pK c false 25 [27]) <|
 aX 29 (pM 1) <|
 aX 30 (pK c false 26 [29]) <|
 aX 31 (pM 2) <|
 aX 32 (pK c false 24 [28, 30, 31]) <|
 aX 26 (pM 32) <|
 aX 33 (pE 0 26) <|
 aX 34 (pE 1 26) <|
 aX 35 (pE 2 26) <|
 aX 8 (pM 33) <|
 aX 9 (pM 34) <|
 aX 10 (pM 35) <|
 aXZ
noncomputable def f5_r9 (c : CallF) : RF := rg [1, 2, 3, 8, 9, 10, 11] <| aX 36 (pL true 3 3) <|
 aX 37 (pK c false 25 [36]) <|
 aX 11 (pAl 50 3) <|
 aX0 (pS 3 11 37) <|
 aXZ
noncomputable def f5_r10 (c : CallF) : RF := rg [1, 2, 3, 8, 9, 10, 11, 12] <| aX 38 (pM 1) <|
 aX 39 (pK c false 26 [38]) <|
 aX 12 (pM 39) <|
 aXZ
noncomputable def f5_r11 (c : CallF) : RF := rg [1, 3, 8, 9, 10, 11, 12, 13, 14, 15] <| aX 41 (pL true 3 11) <|
 aX 42 (pM 12) <|
 aX 43 (pM 2) <|
 aX 44 (pK c false 27 [41, 42, 43]) <|
 aX 40 (pM 44) <|
 aX 45 (pE 0 40) <|
 aX 46 (pE 1 40) <|
 aX 47 (pE 2 40) <|
 aX 13 (pM 45) <|
 aX 14 (pM 46) <|
 aX 15 (pM 47) <|
 aXZ
noncomputable def f5_r12 (c : CallF) : RF := rg [1, 3, 11, 12, 60] <| aX 48 (pM 13) <|
 aX 49 (pM 8) <|
 aX 50 (pB .neq 2 48 49) <|
 aX 51 (pM 50) <|
 aX 52 (pG 51 false (pM 14)) <|
 aX 53 (pG 51 false (pM 9)) <|
 aX 54 (pG 51 false (pB .neq 2 52 53)) <|
 aX 55 (pP 51 (cn (.bool true)) 54) <|
 aX 56 (pM 55) <|
 aX 57 (pG 56 false (pM 15)) <|
 aX 58 (pG 56 false (pM 10)) <|
 aX 59 (pG 56 false (pB .neq 2 57 58)) <|
 aX 60 (pP 56 (cn (.bool true)) 59) <|
 aXZ
noncomputable def f5_r13 (c : CallF) : RF := rg [6] <| aX 6 (pM (cn (.bool false))) <|
 aXZ
noncomputable def f5_r14 (c : CallF) : RF := rgD [1, 12, 65] (aY 61 (pL true 3 11) <|
 aY 62 (pL true 3 3) <|
 aY 63 (pK c false 25 [62]) <|
 aY 64 (pK c false 28 [61, 63]) <|
 aY 65 (pU .not 64) <|
 aYZ)
 (aXZ)
noncomputable def f5_r15 (c : CallF) : RF := rg [6] <| aX 6 (pM (cn (.bool false))) <|
 aXZ
noncomputable def f5_r16 (c : CallF) : RF := rg [70] <| aX 66 (pM 12) <|
 aX 67 (pM 1) <|
 aX 68 (pK c false 26 [67]) <|
 aX 69 (pK c false 29 [66, 68]) <|
 aX 70 (pU .not 69) <|
 aXZ
noncomputable def f5_r17 (c : CallF) : RF := rg [6] <| aX 6 (pM (cn (.bool false))) <|
 aXZ
noncomputable def f5_r18 (c : CallF) : RF := rg [6] <| aX 6 (pM (cn (.bool true))) <|
 aXZ
noncomputable def f5 (c : CallF) (k : Nat) : St :=
 (bSeq (bReg (f5_r0 c))
 (bSeq (bReg (f5_r1 c))
 (bSeq (bReg (f5_r2 c))
 (bSeq (bSeq (bReg (f5_r3 c))
 (bCond (.tmp 20) (bSeq (bReg (f5_r4 c))
 (bEx .ret)) (bEx .nrm)))
 (bSeq (bReg (f5_r5 c))
 (bSeq (bSeq (bReg (f5_r6 c))
 (bCond (.tmp 25) (bSeq (bReg (f5_r7 c))
 (bEx .ret)) (bEx .nrm)))
 (bSeq (bReg (f5_r8 c))
 (bSeq (bReg (f5_r9 c))
 (bSeq (bReg (f5_r10 c))
 (bSeq (bReg (f5_r11 c))
 (bSeq (bSeq (bReg (f5_r12 c))
 (bCond (.tmp 60) (bSeq (bReg (f5_r13 c))
 (bEx .ret)) (bEx .nrm)))
 (bSeq (bSeq (bReg (f5_r14 c))
 (bCond (.tmp 65) (bSeq (bReg (f5_r15 c))
 (bEx .ret)) (bEx .nrm)))
 (bSeq (bSeq (bReg (f5_r16 c))
 (bCond (.tmp 70) (bSeq (bReg (f5_r17 c))
 (bEx .ret)) (bEx .nrm)))
 (bSeq (bReg (f5_r18 c))
 (bEx .ret)))))))))))))))
theorem f5_eq (c : CallF) (k : Nat) : exec cx c 71 f5_an k (Try.f5.body.getD .skip) = f5 c k := by kernel_rfl
/-! ### f12: loop.example/g01263/laws.eqInt64S -/
def f12_an : Ann := ⟨[(0, r0 [0, 1]), (1, r0 [0, 1, 10]), (2, r0 [4]), (3, r0 [0, 1, 5]), (4, r0 [0, 1, 5, 14]), (5, r0 [0, 1, 5]), (6, r0 [0, 1, 5, 25]), (7, r0 [4]), (8, r0 [4])], [(4, [0, 1, 5])]⟩
noncomputable def f12_r0 (c : CallF) : RF := rg [0, 1] <| aX 4 (pM (cn (.bool false))) <|
 aXZ
noncomputable def f12_r1 (c : CallF) : RF := rg [0, 1, 10] <| aX 6 (pM 0) <|
 aX 7 (pLen 24 6) <|
 aX 8 (pM 1) <|
 aX 9 (pLen 24 8) <|
 aX 10 (pB .neq 3 7 9) <|
 aXZ
noncomputable def f12_r2 (c : CallF) : RF := rg [4] <| aX 4 (pM (cn (.bool false))) <|
 aXZ
noncomputable def f12_r3 (c : CallF) : RF := rg [0, 1, 5] <| aX 5 (pM (cn (.int .i64 0))) <|
 aXZ
noncomputable def f12_r4 (c : CallF) : RF := rg [0, 1, 5, 14] <| aX 11 (pM 5) <|
 aX 12 (pM 0) <|
 aX 13 (pLen 24 12) <|
 aX 14 (pB .lss 3 11 13) <|
 aXZ
noncomputable def f12_r5 (c : CallF) : RF := rg [0, 1, 5] <| aX 15 (pM 5) <|
 aX 16 (pB .add 3 15 (cn (.int .i64 1))) <|
 aX 5 (pM 16) <|
 aXZ
noncomputable def f12_r6 (c : CallF) : RF := rgD [0, 1, 5, 25] (aY 17 (pM 0) <|
 aY 18 (pM 5) <|
 aY 19 (pI 1 17 18) <|
 aY 20 (pL false 1 19) <|
 aY 21 (pM 1) <|
 aY 22 (pM 5) <|
 aY 23 (pI 1 21 22) <|
 aY 24 (pL false 1 23) <|
 aY 25 (pB .neq 2 20 24) <|
 aYZ)
 (aXZ)
noncomputable def f12_r7 (c : CallF) : RF := rg [4] <| aX 4 (pM (cn (.bool false))) <|
 aXZ
noncomputable def f12_r8 (c : CallF) : RF := rg [4] <| aX 4 (pM (cn (.bool true))) <|
 aXZ
noncomputable def f12_l4 (c : CallF) (k : Nat) : St :=
 (bSeq (bSeq (bReg (f12_r4 c))
 (bCond (.tmp 14) (bEx .nrm) (bEx (.ext 0))))
 (bSeq (bBlock 1 (bSeq (bReg (f12_r6 c))
 (bCond (.tmp 25) (bSeq (bReg (f12_r7 c))
 (bEx .ret)) (bEx .nrm))))
 (bReg (f12_r5 c))))
noncomputable def f12 (c : CallF) (k : Nat) : St :=
 (bSeq (bReg (f12_r0 c))
 (bSeq (bSeq (bReg (f12_r1 c))
 (bCond (.tmp 10) (bSeq (bReg (f12_r2 c))
 (bEx .ret)) (bEx .nrm)))
 (bSeq (bSeq (bReg (f12_r3 c))
 (bBlock 0 (bLoop [0, 1, 5] (f12_l4 c k) k)))
 (bSeq (bReg (f12_r8 c))
 (bEx .ret)))))
theorem f12_eq (c : CallF) (k : Nat) : exec cx c 26 f12_an k (Try.f12.body.getD .skip) = f12 c k := by kernel_rfl
/-! ### f22: loop.example/g01263/laws.szBook -/
def f22_an : Ann := ⟨[(0, r0 [1, 2]), (1, r0 [1, 2]), (2, r0 [1, 2, 10]), (3, r0 [4]), (4, r0 [1]), (5, r0 [1, 16]), (6, r0 [4]), (7, r0 [4])], []⟩
noncomputable def f22_r0 (c : CallF) : RF := rg [1, 2] <| aX 2 (pBox 3 0) <|
 aX 4 (pM (cn (.int .i64 0))) <|
 aXZ
noncomputable def f22_r1 (c : CallF) : RF := rg [1, 2] <| aX 5 (pF 1 1 2) <|
 aX 6 (pL false 1 5) <|
 aX 7 (pM 1) <|
 aX 8 (pK c false 56 [6, 7]) <|
 aX 1 (pM 8) <|
 aXZ
noncomputable def f22_r2 (c : CallF) : RF := rg [1, 2, 10] <| aX 9 (pM 1) <|
 aX 10 (pB .lss 3 9 (cn (.int .i64 0))) <|
 aXZ
noncomputable def f22_r3 (c : CallF) : RF := rg [4] <| aX 4 (pM (cn (.int .i64 (-1)))) <|
 aXZ
noncomputable def f22_r4 (c : CallF) : RF := rg [1] <| aX 11 (pF 2 1 2) <|
 aX 12 (pL false 1 11) <|
 aX 13 (pM 1) <|
 aX 14 (pK c false 57 [12, 13]) <|
 aX 1 (pM 14) <|
 aXZ
noncomputable def f22_r5 (c : CallF) : RF := rg [1, 16] <| aX 15 (pM 1) <|
 aX 16 (pB .lss 3 15 (cn (.int .i64 0))) <|
 aXZ
noncomputable def f22_r6 (c : CallF) : RF := rg [4] <| aX 4 (pM (cn (.int .i64 (-1)))) <|
 aXZ
noncomputable def f22_r7 (c : CallF) : RF := rg [4] <| aX 17 (pM 1) <|
 aX 4 (pM 17) <|
 aXZ
noncomputable def f22 (c : CallF) (k : Nat) : St :=
 (bSeq (bReg (f22_r0 c))
 (bSeq (bReg (f22_r1 c))
 (bSeq (bSeq (bReg (f22_r2 c))
 (bCond (.tmp 10) (bSeq (bReg (f22_r3 c))
 (bEx .ret)) (bEx .nrm)))
 (bSeq (bReg (f22_r4 c))
 (bSeq (bSeq (bReg (f22_r5 c))
 (bCond (.tmp 16) (bSeq (bReg (f22_r6 c))
 (bEx .ret)) (bEx .nrm)))
 (bSeq (bReg (f22_r7 c))
 (bEx .ret)))))))
theorem f22_eq (c : CallF) (k : Nat) : exec cx c 18 f22_an k (Try.f22.body.getD .skip) = f22 c k := by kernel_rfl
/-! ### f23: loop.example/g01263/laws.szDealS -/
def f23_an : Ann := ⟨[(0, r0 [0, 1]), (1, r0 [1]), (2, r0 [1, 10]), (3, r0 [4]), (4, r0 [4])], []⟩
noncomputable def f23_r0 (c : CallF) : RF := rg [0, 1] <| aX 4 (pM (cn (.int .i64 0))) <|
 aXZ
noncomputable def f23_r1 (c : CallF) : RF := rg [1] <| aX 5 (pM 1) <|
 aX 6 (pM 0) <|
 aX 7 (pLen 43 6) <|
 aX 8 (pB .sub 3 5 7) <|
 aX 1 (pM 8) <|
 aXZ
noncomputable def f23_r2 (c : CallF) : RF := rg [1, 10] <| aX 9 (pM 1) <|
 aX 10 (pB .lss 3 9 (cn (.int .i64 0))) <|
 aXZ
noncomputable def f23_r3 (c : CallF) : RF := rg [4] <| aX 4 (pM (cn (.int .i64 (-1)))) <|
 aXZ
noncomputable def f23_r4 (c : CallF) : RF := rg [4] <| aX 11 (pM 1) <|
 aX 4 (pM 11) <|
 aXZ
noncomputable def f23 (c : CallF) (k : Nat) : St :=
 (bSeq (bReg (f23_r0 c))
 (bSeq (bReg (f23_r1 c))
 (bSeq (bSeq (bReg (f23_r2 c))
 (bCond (.tmp 10) (bSeq (bReg (f23_r3 c))
 (bEx .ret)) (bEx .nrm)))
 (bSeq (bReg (f23_r4 c))
 (bEx .ret)))))
theorem f23_eq (c : CallF) (k : Nat) : exec cx c 12 f23_an k (Try.f23.body.getD .skip) = f23 c k := by kernel_rfl
/-! ### f24: loop.example/g01263/spec.LongestHeld -/
def f24_an : Ann := ⟨[(0, r0 [1, 2, 3]), (1, r0 [2, 3, 9, 10]), (2, r0 [2, 3, 9, 10, 25]), (3, r0 [6, 7, 8]), (4, r0 [2, 9, 11]), (5, r0 [2, 9, 11, 12]), (6, r0 [2, 9, 11, 12, 34]), (7, r0 [2, 9, 11, 12]), (8, r0 [2, 9, 11, 12, 13]), (9, r0 [2, 9, 11, 12, 13, 47]), (10, ⟨[], [], [], [23], [2, 9, 11, 12]⟩), (11, r0 [2, 9, 11, 14]), (12, r0 [2, 9, 11, 14, 15]), (13, r0 [2, 9, 11, 14, 15, 16]), (14, r0 [2, 9, 11, 14, 15, 16, 17]), (15, r0 [2, 9, 11, 14, 15, 16, 17, 79]), (16, r0 [2, 9, 11, 14, 15, 16, 17]), (17, r0 [2, 9, 11, 14, 15, 16, 17, 90]), (18, r0 [2, 9, 11, 14, 15, 16, 17]), (19, r0 [2, 9, 11, 14, 15, 16, 17]), (20, r0 [2, 9, 11, 14, 15, 101]), (21, r0 [11, 14]), (22, r0 [6, 7, 8])], [(6, [2, 9, 11, 12]), (15, [2, 9, 11, 14, 15, 16, 17])]⟩
noncomputable def f24_r0 (c : CallF) : RF := rg [1, 2, 3] <| aX 3 (pBox 3 0) <|
 aX 6 (pM (cn (.int .i64 0))) <|
 aX 7 (pM (cn (.int .i64 0))) <|
 aX 8 (pM (cn (.int .i64 0))) <|
 aXZ
noncomputable def f24_r1 (c : CallF) : RF := rg [2, 3, 9, 10] <| aX 19 (pM 1) <|
 aX 20 (pM 2) <|
 aX 21 (pK c false 58 [3, 19, 20]) <|
 aX 18 (pM 21) <|
 aX 22 (pE 0 18) <|
 aX 23 (pE 1 18) <|
 aX 9 (pM 22) <|
 aX 10 (pM 23) <|
 aXZ
noncomputable def f24_r2 (c : CallF) : RF := rg [2, 3, 9, 10, 25] <| aX 24 (pM 10) <|
 aX 25 (pB .neq 2 24 (cn (.int .i64 0))) <|
 aXZ
noncomputable def f24_r3 (c : CallF) : RF := rg [6, 7, 8] <| aX 26 (pM 10) <|
 aX 6 (pM (cn (.int .i64 0))) <|
 aX 7 (pM (cn (.int .i64 0))) <|
 aX 8 (pM 26) <|
 aXZ
noncomputable def f24_r4 (c : CallF) : RF := rg [2, 9, 11] <| aX 27 (pF 1 1 3) <|
 aX 28 (pL false 1 27) <|
 aX 29 (pLen 24 28) <|
 aX 30 (fun n e M => aMakeO n 2 1 8 (zeroOf cx.P 2) (eget e 29) (eget e 29)) <|
 aX 11 (pM 30) <|
 aXZ
noncomputable def f24_r5 (c : CallF) : RF := rg [2, 9, 11, 12] <| aX 12 (pM (cn (.int .i64 1))) <|
 aXZ
noncomputable def f24_r6 (c : CallF) : RF := rg [2, 9, 11, 12, 34] <| aX 31 (pM 12) <|
 aX 32 (pM 9) <|
 aX 33 (pLen 105 32) <|
 aX 34 (pB .lss 3 31 33) <|
 aXZ
noncomputable def f24_r7 (c : CallF) : RF := rg [2, 9, 11, 12] <| aX 35 (pM 12) <|
 aX 36 (pB .add 3 35 (cn (.int .i64 1))) <|
 aX 12 (pM 36) <|
 aXZ
noncomputable def f24_r8 (c : CallF) : RF := rg [2, 9, 11, 12, 13] <| aX 37 (pM 9) <|
 aX 38 (pM 12) <|
 aX 39 (pB .sub 3 38 (cn (.int .i64 1))) <|
 aX 40 (pI 3 37 39) <|
 aX 13 (pM 40) <|
 aXZ
noncomputable def f24_r9 (c : CallF) : RF := rg [2, 9, 11, 12, 13, 47] <| aX 41 (pM 2) <|
 aX 42 (pM 13) <|
 aX 43 (pN 42) <|
 aX 44 (pF 2 1 43) <|
 aX 45 (pL false 1 44) <|
 aX 46 (pLen 48 45) <|
 aX 47 (pB .lss 2 41 46) <|
 aXZ
noncomputable def f24_r10 (c : CallF) : RF := rgD [2, 9, 11, 12] (aY 48 (pM 11) <|
 aY 49 (pM 13) <|
 aY 50 (pN 49) <|
 aY 51 (pF 2 1 50) <|
 aY 52 (pL false 1 51) <|
 aY 53 (pM 2) <|
 aY 54 (pI 5 52 53) <|
 aY 55 (pF 1 1 54) <|
 aY 56 (pL false 1 55) <|
 aY 57 (pI 1 48 56) <|
 aY 58 (pL false 1 57) <|
 aY 59 (pM 9) <|
 aY 60 (pM 12) <|
 aY 61 (pI 3 59 60) <|
 aY 62 (pF 0 1 61) <|
 aY 63 (pL false 1 62) <|
 aY 64 (pM 13) <|
 aY 65 (pN 64) <|
 aY 66 (pF 0 1 65) <|
 aY 67 (pL false 1 66) <|
 aY 68 (pB .sub 2 63 67) <|
 aY 69 (pB .add 2 58 68) <|
 aY 70 (pI 1 48 56) <|
 aYZ)
 (aX0 (pS 1 70 69) <|
 aXZ)
noncomputable def f24_r11 (c : CallF) : RF := rg [2, 9, 11, 14] <| aX 14 (pM (cn (.int .i64 0))) <|
 aXZ
noncomputable def f24_r12 (c : CallF) : RF := rg [2, 9, 11, 14, 15] <| aX 71 (pM 9) <|
 aX 72 (pM 9) <|
 aX 73 (pLen 105 72) <|
 aX 74 (pB .sub 3 73 (cn (.int .i64 1))) <|
 aX 75 (pI 3 71 74) <|
 aX 15 (pM 75) <|
 aXZ
noncomputable def f24_r13 (c : CallF) : RF := rg [2, 9, 11, 14, 15, 16] <| aX 16 (pM (cn (.bool false))) <|
 aXZ
noncomputable def f24_r14 (c : CallF) : RF := rg [2, 9, 11, 14, 15, 16, 17] <| aX 17 (pM (cn (.int .i64 0))) <|
 aXZ
noncomputable def f24_r15 (c : CallF) : RF := rg [2, 9, 11, 14, 15, 16, 17, 79] <| aX 76 (pM 17) <|
 aX 77 (pM 11) <|
 aX 78 (pLen 24 77) <|
 aX 79 (pB .lss 3 76 78) <|
 aXZ
noncomputable def f24_r16 (c : CallF) : RF := rg [2, 9, 11, 14, 15, 16, 17] <| aX 80 (pM 17) <|
 aX 81 (pB .add 3 80 (cn (.int .i64 1))) <|
 aX 17 (pM 81) <|
 aXZ
noncomputable def f24_r17 (c : CallF) : RF := rgD [2, 9, 11, 14, 15, 16, 17, 90] (aY 82 (pM 11) <|
 aY 83 (pM 17) <|
 aY 84 (pI 1 82 83) <|
 aY 85 (pL false 1 84) <|
 aY 86 (pM 11) <|
 aY 87 (pM 14) <|
 aY 88 (pI 1 86 87) <|
 aY 89 (pL false 1 88) <|
 aY 90 (pB .gtr 2 85 89) <|
 aYZ)
 (aXZ)
noncomputable def f24_r18 (c : CallF) : RF := rg [2, 9, 11, 14, 15, 16, 17] <| aX 91 (pM 17) <|
 aX 14 (pM 91) <|
 aXZ
noncomputable def f24_r19 (c : CallF) : RF := rg [2, 9, 11, 14, 15, 16, 17] <| aX 92 (pM 16) <|
 aX 93 (pM 92) <|
 aX 94 (pG 93 false (pM 11)) <|
 aX 95 (pG 93 false (pM 17)) <|
 aX 96 (pG 93 false (pI 1 94 95)) <|
 aX 97 (pG 93 false (pL false 1 96)) <|
 aX 98 (pG 93 false (pB .gtr 2 97 (cn (.int .i64 0)))) <|
 aX 99 (pP 93 (cn (.bool true)) 98) <|
 aX 16 (pM 99) <|
 aXZ
noncomputable def f24_r20 (c : CallF) : RF := rg [2, 9, 11, 14, 15, 101] <| aX 100 (pM 16) <|
 aX 101 (pU .not 100) <|
 aXZ
noncomputable def f24_r21 (c : CallF) : RF := rg [11, 14] <| aX 102 (pM 9) <|
 aX 103 (pM 2) <|
 aX 104 (pM 15) <|
 aX 105 (pN 104) <|
 aX 106 (pF 2 1 105) <|
 aX 107 (pL false 1 106) <|
 aX 108 (pM 2) <|
 aX 109 (pI 5 107 108) <|
 aX 110 (pF 1 1 109) <|
 aX 111 (pL false 1 110) <|
 aX 112 (pK c false 59 [102, 103, 111]) <|
 aX 14 (pM 112) <|
 aXZ
noncomputable def f24_r22 (c : CallF) : RF := rgD [6, 7, 8] (aY 113 (pM 14) <|
 aY 114 (pM 11) <|
 aY 115 (pM 14) <|
 aY 116 (pI 1 114 115) <|
 aY 117 (pL false 1 116) <|
 aY 6 (pM 113) <|
 aY 7 (pM 117) <|
 aY 8 (pM (cn (.int .i64 0))) <|
 aYZ)
 (aXZ)
noncomputable def f24_l6 (c : CallF) (k : Nat) : St :=
 (bSeq (bSeq (bReg (f24_r6 c))
 (bCond (.tmp 34) (bEx .nrm) (bEx (.ext 0))))
 (bSeq (bBlock 1 (bSeq (bReg (f24_r8 c))
 (bSeq (bReg (f24_r9 c))
 (bCond (.tmp 47) (bReg (f24_r10 c)) (bEx .nrm)))))
 (bReg (f24_r7 c))))
noncomputable def f24_l15 (c : CallF) (k : Nat) : St :=
 (bSeq (bSeq (bReg (f24_r15 c))
 (bCond (.tmp 79) (bEx .nrm) (bEx (.ext 2))))
 (bSeq (bBlock 3 (bSeq (bSeq (bReg (f24_r17 c))
 (bCond (.tmp 90) (bReg (f24_r18 c)) (bEx .nrm)))
 (bReg (f24_r19 c))))
 (bReg (f24_r16 c))))
noncomputable def f24 (c : CallF) (k : Nat) : St :=
 (bSeq (bReg (f24_r0 c))
 (bSeq (bReg (f24_r1 c))
 (bSeq (bSeq (bReg (f24_r2 c))
 (bCond (.tmp 25) (bSeq (bReg (f24_r3 c))
 (bEx .ret)) (bEx .nrm)))
 (bSeq (bReg (f24_r4 c))
 (bSeq (bSeq (bReg (f24_r5 c))
 (bBlock 0 (bLoop [2, 9, 11, 12] (f24_l6 c k) k)))
 (bSeq (bReg (f24_r11 c))
 (bSeq (bReg (f24_r12 c))
 (bSeq (bReg (f24_r13 c))
 (bSeq (bSeq (bReg (f24_r14 c))
 (bBlock 2 (bLoop [2, 9, 11, 14, 15, 16, 17] (f24_l15 c k) k)))
 (bSeq (bSeq (bReg (f24_r20 c))
 (bCond (.tmp 101) (bReg (f24_r21 c)) (bEx .nrm)))
 (bSeq (bReg (f24_r22 c))
 (bEx .ret))))))))))))
theorem f24_eq (c : CallF) (k : Nat) : exec cx c 118 f24_an k (Try.f24.body.getD .skip) = f24 c k := by kernel_rfl
/-! ### f25: loop.example/g01263/laws.toBook -/
def f25_an : Ann := ⟨[(0, r0 [1, 2]), (1, r0 [1, 2, 3]), (2, r0 [1, 2, 3]), (3, r0 [1, 2, 3]), (4, r0 [2, 3]), (5, r0 [2])], []⟩
noncomputable def f25_r0 (c : CallF) : RF := rg [1, 2] <| aX 1 (pBox 3 0) <|
 aX 2 (pAl 50 3) <|
 aXZ
noncomputable def f25_r1 (c : CallF) : RF := rg [1, 2, 3] <| aX 3 (pAl 50 3) <|
 aXZ
noncomputable def f25_r2 (c : CallF) : RF := rg [1, 2, 3] <| aX 4 (pF 0 1 1) <|
 aX 5 (pL false 1 4) <|
 aX 6 (pF 0 1 3) <|
 aX0 (pS 1 6 5) <|
 aXZ
noncomputable def f25_r3 (c : CallF) : RF := rg [1, 2, 3] <| aX 7 (pF 1 1 1) <|
 aX 8 (pL false 1 7) <|
 aX 9 (pK c false 33 [8]) <|
 aX 10 (pF 1 1 3) <|
 aX0 (pS 1 10 9) <|
 aXZ
noncomputable def f25_r4 (c : CallF) : RF := rg [2, 3] <| aX 11 (pF 2 1 1) <|
 aX 12 (pL false 1 11) <|
 aX 13 (pK c false 60 [12]) <|
 aX 14 (pF 2 1 3) <|
 aX0 (pS 1 14 13) <|
 aXZ
noncomputable def f25_r5 (c : CallF) : RF := rg [2] <| aX 15 (pL true 3 3) <|
 aX0 (pS 3 2 15) <|
 aXZ
noncomputable def f25 (c : CallF) (k : Nat) : St :=
 (bSeq (bReg (f25_r0 c))
 (bSeq (bReg (f25_r1 c))
 (bSeq (bReg (f25_r2 c))
 (bSeq (bReg (f25_r3 c))
 (bSeq (bReg (f25_r4 c))
 (bSeq (bReg (f25_r5 c))
 (bEx .ret)))))))
theorem f25_eq (c : CallF) (k : Nat) : exec cx c 16 f25_an k (Try.f25.body.getD .skip) = f25 c k := by kernel_rfl
/-! ### f26: loop.example/g01263/laws.toDealS -/
def f26_an : Ann := ⟨[(0, r0 [0]), (1, r0 [0, 3]), (2, r0 [0, 3, 4]), (3, r0 [0, 3, 4, 11]), (4, r0 [0, 3, 4]), (5, r0 [0, 3, 4]), (6, r0 [2])], [(3, [0, 3, 4])]⟩
noncomputable def f26_r0 (c : CallF) : RF := rg [0] <| aX 2 (pM (cn .nils)) <|
 aXZ
noncomputable def f26_r1 (c : CallF) : RF := rg [0, 3] <| aX 5 (pM 0) <|
 aX 6 (pLen 43 5) <|
 aX 7 (fun n e M => aMakeO n 114 6 48 (zeroOf cx.P 114) (eget e 6) (eget e 6)) <|
 aX 3 (pM 7) <|
 aXZ
noncomputable def f26_r2 (c : CallF) : RF := rg [0, 3, 4] <| aX 4 (pM (cn (.int .i64 0))) <|
 aXZ
noncomputable def f26_r3 (c : CallF) : RF := rg [0, 3, 4, 11] <| aX 8 (pM 4) <|
 aX 9 (pM 0) <|
 aX 10 (pLen 43 9) <|
 aX 11 (pB .lss 3 8 10) <|
 aXZ
noncomputable def f26_r4 (c : CallF) : RF := rg [0, 3, 4] <| aX 12 (pM 4) <|
 aX 13 (pB .add 3 12 (cn (.int .i64 1))) <|
 aX 4 (pM 13) <|
 aXZ
noncomputable def f26_r5 (c : CallF) : RF := rg [0, 3, 4] <| aX 14 (pM 3) <|
 aX 15 (pM 4) <|
 aX 16 (pM 0) <|
 aX 17 (pM 4) <|
 aX 18 (pI 6 16 17) <|
 aX 19 (pL true 6 18) <|
 aX 20 (pK c false 61 [19]) <|
 aX 21 (pI 6 14 15) <|
 aX0 (pS 6 21 20) <|
 aXZ
noncomputable def f26_r6 (c : CallF) : RF := rg [2] <| aX 22 (pM 3) <|
 aX 2 (pM 22) <|
 aXZ
noncomputable def f26_l3 (c : CallF) (k : Nat) : St :=
 (bSeq (bSeq (bReg (f26_r3 c))
 (bCond (.tmp 11) (bEx .nrm) (bEx (.ext 0))))
 (bSeq (bBlock 1 (bReg (f26_r5 c)))
 (bReg (f26_r4 c))))
noncomputable def f26 (c : CallF) (k : Nat) : St :=
 (bSeq (bReg (f26_r0 c))
 (bSeq (bReg (f26_r1 c))
 (bSeq (bSeq (bReg (f26_r2 c))
 (bBlock 0 (bLoop [0, 3, 4] (f26_l3 c k) k)))
 (bSeq (bReg (f26_r6 c))
 (bEx .ret)))))
theorem f26_eq (c : CallF) (k : Nat) : exec cx c 23 f26_an k (Try.f26.body.getD .skip) = f26 c k := by kernel_rfl
/-! ### f27: loop.example/g01263/impl.LongestHeld -/
def f27_an : Ann := ⟨[(0, r0 [1, 2, 3]), (1, r0 [1, 2, 3, 9, 10]), (2, r0 [1, 2, 3, 9, 10, 31]), (3, r0 [6, 7, 8]), (4, r0 [1, 2, 3, 9, 11]), (5, r0 [1, 2, 3, 9, 11, 37]), (6, r0 [1, 2, 3, 9, 11]), (7, r0 [1, 2, 3, 9, 11, 12]), (8, r0 [1, 2, 3, 9, 11, 12, 13]), (9, ⟨[], [], [0, 1], [4, 5], [1, 2, 3, 9, 11, 12, 13, 14, 15]⟩), (10, r0 [1, 2, 3, 9, 11, 12, 13, 14, 15, 59]), (11, r0 [1, 9, 11, 12, 13, 14, 15]), (12, r0 [1, 9, 11, 12, 13, 16]), (13, r0 [1, 11, 12, 13, 16, 67, 68, 69]), (14, r0 [1, 11, 12, 13, 16, 67, 68, 69, 70]), (15, r0 [1, 11, 12, 13, 16, 18, 67, 68, 69]), (16, r0 [1, 11, 12, 13, 16, 19, 67, 68, 69]), (17, r0 [1, 11, 12, 13, 16, 19, 67, 68, 69, 84]), (18, r0 [1, 11, 12, 13, 16, 67, 68, 69]), (19, r0 [1, 11, 12, 13, 16, 67, 68, 69]), (20, r0 [12, 13]), (21, r0 [12, 13, 20]), (22, r0 [12, 13, 20, 95, 96, 97]), (23, r0 [12, 13, 20, 95, 96, 97, 98]), (24, r0 [12, 13, 20, 21, 22, 95, 96, 97]), (25, r0 [12, 13, 20, 21, 95, 96, 97, 117]), (26, r0 [12, 13, 20, 95, 96, 97]), (27, r0 [12, 13, 20, 95, 96, 97]), (28, r0 [6, 7, 8])], [(14, [1, 11, 12, 13, 16, 67, 68, 69]), (23, [12, 13, 20, 95, 96, 97])]⟩
noncomputable def f27_r0 (c : CallF) : RF := rg [1, 2, 3] <| aX 3 (pBox 3 0) <|
 aX 6 (pM (cn (.int .i64 0))) <|
 aX 7 (pM (cn (.int .i64 0))) <|
 aX 8 (pM (cn (.int .i64 0))) <|
 aXZ
noncomputable def f27_r1 (c : CallF) : RF := rg [1, 2, 3, 9, 10] <| aX 24 (pL true 3 3) <|
 aX 25 (pM 1) <|
 aX 26 (pM 2) <|
 aX 27 (pK c false 62 [24, 25, 26]) <|
 aX 23 (pM 27) <|
 aX 28 (pE 0 23) <|
 aX 29 (pE 1 23) <|
 aX 9 (pM 28) <|
 aX 10 (pM 29) <|
 aXZ
noncomputable def f27_r2 (c : CallF) : RF := rg [1, 2, 3, 9, 10, 31] <| aX 30 (pM 10) <|
 aX 31 (pB .neq 2 30 (cn (.int .i64 0))) <|
 aXZ
noncomputable def f27_r3 (c : CallF) : RF := rg [6, 7, 8] <| aX 32 (pM 10) <|
 aX 6 (pM (cn (.int .i64 0))) <|
 aX 7 (pM (cn (.int .i64 0))) <|
 aX 8 (pM 32) <|
 aXZ
noncomputable def f27_r4 (c : CallF) : RF := rg [1, 2, 3, 9, 11] <| aX 33 (pF 0 1 3) <|
 aX 34 (pL false 1 33) <|
 aX 11 (pM 34) <|
 aXZ
noncomputable def f27_r5 (c : CallF) : RF := rg [1, 2, 3, 9, 11, 37] <| aX 35 (pM 1) <|
 aX 36 (pLen 52 35) <|
 aX 37 (pB .gtr 3 36 (cn (.int .i64 0))) <|
 aXZ
noncomputable def f27_r6 (c : CallF) : RF := rg [1, 2, 3, 9, 11] <| aX 38 (pM 1) <|
 aX 39 (pM 1) <|
 aX 40 (pLen 52 39) <|
 aX 41 (pB .sub 3 40 (cn (.int .i64 1))) <|
 aX 42 (pI 6 38 41) <|
 aX 43 (pF 0 1 42) <|
 aX 44 (pL false 1 43) <|
 aX 11 (pM 44) <|
 aXZ
noncomputable def f27_r7 (c : CallF) : RF := rg [1, 2, 3, 9, 11, 12] <| aX 45 (pF 1 1 3) <|
 aX 46 (pL false 1 45) <|
 aX 47 (pLen 24 46) <|
 aX 48 (fun n e M => aMakeO n 2 1 8 (zeroOf cx.P 2) (eget e 47) (eget e 47)) <|
 aX 12 (pAl 24 1) <|
 aX0 (pS 1 12 48) <|
 aXZ
noncomputable def f27_r8 (c : CallF) : RF := rg [1, 2, 3, 9, 11, 12, 13] <| aX 49 (pF 1 1 3) <|
 aX 50 (pL false 1 49) <|
 aX 51 (pLen 24 50) <|
 aX 52 (fun n e M => aMakeO n 4 1 1 (zeroOf cx.P 4) (eget e 51) (eget e 51)) <|
 aX 13 (pAl 100 1) <|
 aX0 (pS 1 13 52) <|
 aXZ
noncomputable def f27_r9 (c : CallF) : RF := rgD [1, 2, 3, 9, 11, 12, 13, 14, 15] (aYc 53 (pF 0 1 3) <|
 aYc 54 (pL false 1 53) <|
 aY 14 (pAl 2 1) <|
 aY 15 (pAl 2 1) <|
 aYZ)
 (aX0 (pS 1 14 (cn (.int .i64 (-1)))) <|
 aX0 (pS 1 15 54) <|
 aXZ)
noncomputable def f27_r10 (c : CallF) : RF := rg [1, 2, 3, 9, 11, 12, 13, 14, 15, 59] <| aX 55 (pM 2) <|
 aX 56 (pF 2 1 3) <|
 aX 57 (pL false 1 56) <|
 aX 58 (pLen 48 57) <|
 aX 59 (pB .lss 2 55 58) <|
 aXZ
noncomputable def f27_r11 (c : CallF) : RF := rg [1, 9, 11, 12, 13, 14, 15] <| aX 60 (pF 2 1 3) <|
 aX 61 (pL false 1 60) <|
 aX 62 (pM 2) <|
 aX 63 (pI 5 61 62) <|
 aX 64 (pF 1 1 63) <|
 aX 65 (pL false 1 64) <|
 aX0 (pS 1 14 65) <|
 aXZ
noncomputable def f27_r12 (c : CallF) : RF := rg [1, 9, 11, 12, 13, 16] <| aX 66 (fun n e M => oMv (.fn 63 [(eget e 14), (eget e 12), (eget e 15), (eget e 13)])) <|
 aX 16 (pM 66) <|
 aXZ
noncomputable def f27_r13 (c : CallF) : RF := rg [1, 11, 12, 13, 16, 67, 68, 69] <| aX 67 (pM 9) <|
 aX 68 (pLen 24 67) <|
 aX 69 (pM (cn (.int .i64 0))) <|
 aXZ
noncomputable def f27_r14 (c : CallF) : RF := rg [1, 11, 12, 13, 16, 67, 68, 69, 70] <| aX 70 (pB .lss 3 69 68) <|
 aXZ
noncomputable def f27_r15 (c : CallF) : RF := rg [1, 11, 12, 13, 16, 18, 67, 68, 69] <| aX 71 (pI 1 67 69) <|
 aX 72 (pL false 1 71) <|
 aX 18 (pM 72) <|
 aXZ
noncomputable def f27_r16 (c : CallF) : RF := rg [1, 11, 12, 13, 16, 19, 67, 68, 69] <| aX 73 (pM 1) <|
 aX 74 (pM 18) <|
 aX 75 (pI 6 73 74) <|
 aX 76 (pL true 6 75) <|
 aX 19 (pAl 114 6) <|
 aX0 (pS 6 19 76) <|
 aXZ
noncomputable def f27_r17 (c : CallF) : RF := rg [1, 11, 12, 13, 16, 19, 67, 68, 69, 84] <| aX 77 (pF 1 1 19) <|
 aX 78 (pL false 1 77) <|
 aX 79 (pB .eql 58 78 (cn (.int .i8 1))) <|
 aX 80 (pM 79) <|
 aX 81 (pG 80 false (pF 1 1 19)) <|
 aX 82 (pG 80 false (pL false 1 81)) <|
 aX 83 (pG 80 false (pB .eql 58 82 (cn (.int .i8 2)))) <|
 aX 84 (pP 80 (cn (.bool true)) 83) <|
 aXZ
noncomputable def f27_r18 (c : CallF) : RF := rg [1, 11, 12, 13, 16, 67, 68, 69] <| aX 85 (pM 16) <|
 aX 86 (pF 4 1 19) <|
 aX 87 (pL false 1 86) <|
 aX 88 (pF 0 1 19) <|
 aX 89 (pL false 1 88) <|
 aX 90 (fun n e M => oCall cx c false n (eget e 85) [(eget e 87), (eget e 89)] M) <|
 aXZ
noncomputable def f27_r19 (c : CallF) : RF := rg [1, 11, 12, 13, 16, 67, 68, 69] <| aX 91 (pB .add 3 69 (cn (.int .i64 1))) <|
 aX 69 (pM 91) <|
 aXZ
noncomputable def f27_r20 (c : CallF) : RF := rg [12, 13] <| aX 92 (pM 16) <|
 aX 93 (pM 11) <|
 aX 94 (fun n e M => oCall cx c false n (eget e 92) [(.int .i64 (-1)), (eget e 93)] M) <|
 aXZ
noncomputable def f27_r21 (c : CallF) : RF := rg [12, 13, 20] <| aX 20 (pM (cn (.int .i64 (-1)))) <|
 aXZ
noncomputable def f27_r22 (c : CallF) : RF := rg [12, 13, 20, 95, 96, 97] <| aX 95 (pL false 1 12) <|
 aX 96 (pLen 24 95) <|
 aX 97 (pM (cn (.int .i64 0))) <|
 aXZ
noncomputable def f27_r23 (c : CallF) : RF := rg [12, 13, 20, 95, 96, 97, 98] <| aX 98 (pB .lss 3 97 96) <|
 aXZ
noncomputable def f27_r24 (c : CallF) : RF := rg [12, 13, 20, 21, 22, 95, 96, 97] <| aX 99 (pM 97) <|
 aX 100 (pI 1 95 97) <|
 aX 101 (pL false 1 100) <|
 aX 21 (pM 99) <|
 aX 22 (pM 101) <|
 aXZ
noncomputable def f27_r25 (c : CallF) : RF := rg [12, 13, 20, 21, 95, 96, 97, 117] <| aX 102 (pL false 1 13) <|
 aX 103 (pM 21) <|
 aX 104 (pI 1 102 103) <|
 aX 105 (pL false 1 104) <|
 aX 106 (pM 105) <|
 aX 107 (pG 106 true (pM 20)) <|
 aX 108 (pG 106 true (pB .lss 3 107 (cn (.int .i64 0)))) <|
 aX 109 (pG 106 true (pM 108)) <|
 aX 110 (pG 109 false (pM 22)) <|
 aX 111 (pG 109 false (pL false 1 12)) <|
 aX 112 (pG 109 false (pM 20)) <|
 aX 113 (pG 109 false (pI 1 111 112)) <|
 aX 114 (pG 109 false (pL false 1 113)) <|
 aX 115 (pG 109 false (pB .gtr 2 110 114)) <|
 aX 116 (pG 106 true (pP 109 (cn (.bool true)) 115)) <|
 aX 117 (pP 106 116 (cn (.bool false))) <|
 aXZ
noncomputable def f27_r26 (c : CallF) : RF := rg [12, 13, 20, 95, 96, 97] <| aX 118 (pM 21) <|
 aX 20 (pM 118) <|
 aXZ
noncomputable def f27_r27 (c : CallF) : RF := rg [12, 13, 20, 95, 96, 97] <| aX 119 (pB .add 3 97 (cn (.int .i64 1))) <|
 aX 97 (pM 119) <|
 aXZ
noncomputable def f27_r28 (c : CallF) : RF := rgD [6, 7, 8] (aY 120 (pM 20) <|
 aY 121 (pL false 1 12) <|
 aY 122 (pM 20) <|
 aY 123 (pI 1 121 122) <|
 aY 124 (pL false 1 123) <|
 aY 6 (pM 120) <|
 aY 7 (pM 124) <|
 aY 8 (pM (cn (.int .i64 0))) <|
 aYZ)
 (aXZ)
noncomputable def f27_l14 (c : CallF) (k : Nat) : St :=
 (bSeq (bReg (f27_r14 c))
 (bSeq (bCond (.tmp 70) (bEx .nrm) (bEx (.ext 0)))
 (bSeq (bBlock 1 (bSeq (bReg (f27_r15 c))
 (bSeq (bReg (f27_r16 c))
 (bSeq (bReg (f27_r17 c))
 (bCond (.tmp 84) (bReg (f27_r18 c)) (bEx .nrm))))))
 (bReg (f27_r19 c)))))
noncomputable def f27_l23 (c : CallF) (k : Nat) : St :=
 (bSeq (bReg (f27_r23 c))
 (bSeq (bCond (.tmp 98) (bEx .nrm) (bEx (.ext 2)))
 (bSeq (bBlock 3 (bSeq (bReg (f27_r24 c))
 (bSeq (bReg (f27_r25 c))
 (bCond (.tmp 117) (bReg (f27_r26 c)) (bEx .nrm)))))
 (bReg (f27_r27 c)))))
noncomputable def f27 (c : CallF) (k : Nat) : St :=
 (bSeq (bReg (f27_r0 c))
 (bSeq (bReg (f27_r1 c))
 (bSeq (bSeq (bReg (f27_r2 c))
 (bCond (.tmp 31) (bSeq (bReg (f27_r3 c))
 (bEx .ret)) (bEx .nrm)))
 (bSeq (bReg (f27_r4 c))
 (bSeq (bSeq (bReg (f27_r5 c))
 (bCond (.tmp 37) (bReg (f27_r6 c)) (bEx .nrm)))
 (bSeq (bReg (f27_r7 c))
 (bSeq (bReg (f27_r8 c))
 (bSeq (bReg (f27_r9 c))
 (bSeq (bSeq (bReg (f27_r10 c))
 (bCond (.tmp 59) (bReg (f27_r11 c)) (bEx .nrm)))
 (bSeq (bReg (f27_r12 c))
 (bSeq (bSeq (bReg (f27_r13 c))
 (bBlock 0 (bLoop [1, 11, 12, 13, 16, 67, 68, 69] (f27_l14 c k) k)))
 (bSeq (bReg (f27_r20 c))
 (bSeq (bReg (f27_r21 c))
 (bSeq (bSeq (bReg (f27_r22 c))
 (bBlock 2 (bLoop [12, 13, 20, 95, 96, 97] (f27_l23 c k) k)))
 (bSeq (bReg (f27_r28 c))
 (bEx .ret))))))))))))))))
theorem f27_eq (c : CallF) (k : Nat) : exec cx c 125 f27_an k (Try.f27.body.getD .skip) = f27 c k := by kernel_rfl
/-! ### f28: loop.example/g01263/laws.eqBook -/
def f28_an : Ann := ⟨[(0, r0 [2, 3]), (1, r0 [2, 3, 9]), (2, r0 [4]), (3, r0 [2, 3, 15]), (4, r0 [4]), (5, r0 [21]), (6, r0 [4]), (7, r0 [4])], []⟩
noncomputable def f28_r0 (c : CallF) : RF := rg [2, 3] <| aX 2 (pBox 3 0) <|
 aX 3 (pBox 3 1) <|
 aX 4 (pM (cn (.bool false))) <|
 aXZ
noncomputable def f28_r1 (c : CallF) : RF := rg [2, 3, 9] <| aX 5 (pF 0 1 2) <|
 aX 6 (pL false 1 5) <|
 aX 7 (pF 0 1 3) <|
 aX 8 (pL false 1 7) <|
 aX 9 (pB .neq 2 6 8) <|
 aXZ
noncomputable def f28_r2 (c : CallF) : RF := rg [4] <| aX 4 (pM (cn (.bool false))) <|
 aXZ
noncomputable def f28_r3 (c : CallF) : RF := rg [2, 3, 15] <| aX 10 (pF 1 1 2) <|
 aX 11 (pL false 1 10) <|
 aX 12 (pF 1 1 3) <|
 aX 13 (pL false 1 12) <|
 aX 14 (pK c false 12 [11, 13]) <|
 aX 15 (pU .not 14) <|
 aXZ
noncomputable def f28_r4 (c : CallF) : RF := rg [4] <| aX 4 (pM (cn (.bool false))) <|
 aXZ
noncomputable def f28_r5 (c : CallF) : RF := rg [21] <| aX 16 (pF 2 1 2) <|
 aX 17 (pL false 1 16) <|
 aX 18 (pF 2 1 3) <|
 aX 19 (pL false 1 18) <|
 aX 20 (pK c false 64 [17, 19]) <|
 aX 21 (pU .not 20) <|
 aXZ
noncomputable def f28_r6 (c : CallF) : RF := rg [4] <| aX 4 (pM (cn (.bool false))) <|
 aXZ
noncomputable def f28_r7 (c : CallF) : RF := rg [4] <| aX 4 (pM (cn (.bool true))) <|
 aXZ
noncomputable def f28 (c : CallF) (k : Nat) : St :=
 (bSeq (bReg (f28_r0 c))
 (bSeq (bSeq (bReg (f28_r1 c))
 (bCond (.tmp 9) (bSeq (bReg (f28_r2 c))
 (bEx .ret)) (bEx .nrm)))
 (bSeq (bSeq (bReg (f28_r3 c))
 (bCond (.tmp 15) (bSeq (bReg (f28_r4 c))
 (bEx .ret)) (bEx .nrm)))
 (bSeq (bSeq (bReg (f28_r5 c))
 (bCond (.tmp 21) (bSeq (bReg (f28_r6 c))
 (bEx .ret)) (bEx .nrm)))
 (bSeq (bReg (f28_r7 c))
 (bEx .ret))))))
theorem f28_eq (c : CallF) (k : Nat) : exec cx c 22 f28_an k (Try.f28.body.getD .skip) = f28 c k := by kernel_rfl
/-! ### f29: loop.example/g01263/laws.eqDealS -/
def f29_an : Ann := ⟨[(0, r0 [0, 1]), (1, r0 [0, 1, 10]), (2, r0 [4]), (3, r0 [0, 1, 5]), (4, r0 [0, 1, 5, 14]), (5, r0 [0, 1, 5]), (6, r0 [0, 1, 5, 26]), (7, r0 [4]), (8, r0 [4])], [(4, [0, 1, 5])]⟩
noncomputable def f29_r0 (c : CallF) : RF := rg [0, 1] <| aX 4 (pM (cn (.bool false))) <|
 aXZ
noncomputable def f29_r1 (c : CallF) : RF := rg [0, 1, 10] <| aX 6 (pM 0) <|
 aX 7 (pLen 52 6) <|
 aX 8 (pM 1) <|
 aX 9 (pLen 52 8) <|
 aX 10 (pB .neq 3 7 9) <|
 aXZ
noncomputable def f29_r2 (c : CallF) : RF := rg [4] <| aX 4 (pM (cn (.bool false))) <|
 aXZ
noncomputable def f29_r3 (c : CallF) : RF := rg [0, 1, 5] <| aX 5 (pM (cn (.int .i64 0))) <|
 aXZ
noncomputable def f29_r4 (c : CallF) : RF := rg [0, 1, 5, 14] <| aX 11 (pM 5) <|
 aX 12 (pM 0) <|
 aX 13 (pLen 52 12) <|
 aX 14 (pB .lss 3 11 13) <|
 aXZ
noncomputable def f29_r5 (c : CallF) : RF := rg [0, 1, 5] <| aX 15 (pM 5) <|
 aX 16 (pB .add 3 15 (cn (.int .i64 1))) <|
 aX 5 (pM 16) <|
 aXZ
noncomputable def f29_r6 (c : CallF) : RF := rgD [0, 1, 5, 26] (aY 17 (pM 0) <|
 aY 18 (pM 5) <|
 aY 19 (pI 6 17 18) <|
 aY 20 (pL true 6 19) <|
 aY 21 (pM 1) <|
 aY 22 (pM 5) <|
 aY 23 (pI 6 21 22) <|
 aY 24 (pL true 6 23) <|
 aY 25 (pK c false 65 [20, 24]) <|
 aY 26 (pU .not 25) <|
 aYZ)
 (aXZ)
noncomputable def f29_r7 (c : CallF) : RF := rg [4] <| aX 4 (pM (cn (.bool false))) <|
 aXZ
noncomputable def f29_r8 (c : CallF) : RF := rg [4] <| aX 4 (pM (cn (.bool true))) <|
 aXZ
noncomputable def f29_l4 (c : CallF) (k : Nat) : St :=
 (bSeq (bSeq (bReg (f29_r4 c))
 (bCond (.tmp 14) (bEx .nrm) (bEx (.ext 0))))
 (bSeq (bBlock 1 (bSeq (bReg (f29_r6 c))
 (bCond (.tmp 26) (bSeq (bReg (f29_r7 c))
 (bEx .ret)) (bEx .nrm))))
 (bReg (f29_r5 c))))
noncomputable def f29 (c : CallF) (k : Nat) : St :=
 (bSeq (bReg (f29_r0 c))
 (bSeq (bSeq (bReg (f29_r1 c))
 (bCond (.tmp 10) (bSeq (bReg (f29_r2 c))
 (bEx .ret)) (bEx .nrm)))
 (bSeq (bSeq (bReg (f29_r3 c))
 (bBlock 0 (bLoop [0, 1, 5] (f29_l4 c k) k)))
 (bSeq (bReg (f29_r8 c))
 (bEx .ret)))))
theorem f29_eq (c : CallF) (k : Nat) : exec cx c 27 f29_an k (Try.f29.body.getD .skip) = f29 c k := by kernel_rfl
/-! ### f33: loop.example/g01263/laws.toInt64S -/
def f33_an : Ann := ⟨[(0, r0 [0]), (1, r0 [0, 3]), (2, r0 [0, 3, 4]), (3, r0 [0, 3, 4, 11]), (4, r0 [0, 3, 4]), (5, r0 [0, 3, 4]), (6, r0 [2])], [(3, [0, 3, 4])]⟩
noncomputable def f33_r0 (c : CallF) : RF := rg [0] <| aX 2 (pM (cn .nils)) <|
 aXZ
noncomputable def f33_r1 (c : CallF) : RF := rg [0, 3] <| aX 5 (pM 0) <|
 aX 6 (pLen 24 5) <|
 aX 7 (fun n e M => aMakeO n 2 1 8 (zeroOf cx.P 2) (eget e 6) (eget e 6)) <|
 aX 3 (pM 7) <|
 aXZ
noncomputable def f33_r2 (c : CallF) : RF := rg [0, 3, 4] <| aX 4 (pM (cn (.int .i64 0))) <|
 aXZ
noncomputable def f33_r3 (c : CallF) : RF := rg [0, 3, 4, 11] <| aX 8 (pM 4) <|
 aX 9 (pM 0) <|
 aX 10 (pLen 24 9) <|
 aX 11 (pB .lss 3 8 10) <|
 aXZ
noncomputable def f33_r4 (c : CallF) : RF := rg [0, 3, 4] <| aX 12 (pM 4) <|
 aX 13 (pB .add 3 12 (cn (.int .i64 1))) <|
 aX 4 (pM 13) <|
 aXZ
noncomputable def f33_r5 (c : CallF) : RF := rg [0, 3, 4] <| aX 14 (pM 3) <|
 aX 15 (pM 4) <|
 aX 16 (pM 0) <|
 aX 17 (pM 4) <|
 aX 18 (pI 1 16 17) <|
 aX 19 (pL false 1 18) <|
 aX 20 (pI 1 14 15) <|
 aX0 (pS 1 20 19) <|
 aXZ
noncomputable def f33_r6 (c : CallF) : RF := rg [2] <| aX 21 (pM 3) <|
 aX 2 (pM 21) <|
 aXZ
noncomputable def f33_l3 (c : CallF) (k : Nat) : St :=
 (bSeq (bSeq (bReg (f33_r3 c))
 (bCond (.tmp 11) (bEx .nrm) (bEx (.ext 0))))
 (bSeq (bBlock 1 (bReg (f33_r5 c)))
 (bReg (f33_r4 c))))
noncomputable def f33 (c : CallF) (k : Nat) : St :=
 (bSeq (bReg (f33_r0 c))
 (bSeq (bReg (f33_r1 c))
 (bSeq (bSeq (bReg (f33_r2 c))
 (bBlock 0 (bLoop [0, 3, 4] (f33_l3 c k) k)))
 (bSeq (bReg (f33_r6 c))
 (bEx .ret)))))
theorem f33_eq (c : CallF) (k : Nat) : exec cx c 22 f33_an k (Try.f33.body.getD .skip) = f33 c k := by kernel_rfl
/-! ### f56: loop.example/g01263/laws.szInt64S -/
def f56_an : Ann := ⟨[(0, r0 [0, 1]), (1, r0 [1]), (2, r0 [1, 10]), (3, r0 [4]), (4, r0 [4])], []⟩
noncomputable def f56_r0 (c : CallF) : RF := rg [0, 1] <| aX 4 (pM (cn (.int .i64 0))) <|
 aXZ
noncomputable def f56_r1 (c : CallF) : RF := rg [1] <| aX 5 (pM 1) <|
 aX 6 (pM 0) <|
 aX 7 (pLen 24 6) <|
 aX 8 (pB .sub 3 5 7) <|
 aX 1 (pM 8) <|
 aXZ
noncomputable def f56_r2 (c : CallF) : RF := rg [1, 10] <| aX 9 (pM 1) <|
 aX 10 (pB .lss 3 9 (cn (.int .i64 0))) <|
 aXZ
noncomputable def f56_r3 (c : CallF) : RF := rg [4] <| aX 4 (pM (cn (.int .i64 (-1)))) <|
 aXZ
noncomputable def f56_r4 (c : CallF) : RF := rg [4] <| aX 11 (pM 1) <|
 aX 4 (pM 11) <|
 aXZ
noncomputable def f56 (c : CallF) (k : Nat) : St :=
 (bSeq (bReg (f56_r0 c))
 (bSeq (bReg (f56_r1 c))
 (bSeq (bSeq (bReg (f56_r2 c))
 (bCond (.tmp 10) (bSeq (bReg (f56_r3 c))
 (bEx .ret)) (bEx .nrm)))
 (bSeq (bReg (f56_r4 c))
 (bEx .ret)))))
theorem f56_eq (c : CallF) (k : Nat) : exec cx c 12 f56_an k (Try.f56.body.getD .skip) = f56 c k := by kernel_rfl
/-! ### f57: loop.example/g01263/laws.szTallyS -/
def f57_an : Ann := ⟨[(0, r0 [0, 1]), (1, r0 [1]), (2, r0 [1, 10]), (3, r0 [4]), (4, r0 [4])], []⟩
noncomputable def f57_r0 (c : CallF) : RF := rg [0, 1] <| aX 4 (pM (cn (.int .i64 0))) <|
 aXZ
noncomputable def f57_r1 (c : CallF) : RF := rg [1] <| aX 5 (pM 1) <|
 aX 6 (pM 0) <|
 aX 7 (pLen 40 6) <|
 aX 8 (pB .sub 3 5 7) <|
 aX 1 (pM 8) <|
 aXZ
noncomputable def f57_r2 (c : CallF) : RF := rg [1, 10] <| aX 9 (pM 1) <|
 aX 10 (pB .lss 3 9 (cn (.int .i64 0))) <|
 aXZ
noncomputable def f57_r3 (c : CallF) : RF := rg [4] <| aX 4 (pM (cn (.int .i64 (-1)))) <|
 aXZ
noncomputable def f57_r4 (c : CallF) : RF := rg [4] <| aX 11 (pM 1) <|
 aX 4 (pM 11) <|
 aXZ
noncomputable def f57 (c : CallF) (k : Nat) : St :=
 (bSeq (bReg (f57_r0 c))
 (bSeq (bReg (f57_r1 c))
 (bSeq (bSeq (bReg (f57_r2 c))
 (bCond (.tmp 10) (bSeq (bReg (f57_r3 c))
 (bEx .ret)) (bEx .nrm)))
 (bSeq (bReg (f57_r4 c))
 (bEx .ret)))))
theorem f57_eq (c : CallF) (k : Nat) : exec cx c 12 f57_an k (Try.f57.body.getD .skip) = f57 c k := by kernel_rfl
/-! ### f58: loop.example/g01263/spec.l07Known -/
def f58_an : Ann := ⟨[(0, r0 [0, 1, 2]), (1, r0 [0, 1, 2, 8]), (2, r0 [0, 1, 2, 8, 16]), (3, r0 [6, 7]), (4, r0 [0, 2, 9, 10]), (5, r0 [0, 2, 9, 10, 27]), (6, r0 [6, 7]), (7, r0 [2, 9]), (8, r0 [9, 46]), (9, r0 [6, 7]), (10, r0 [6, 7])], []⟩
noncomputable def f58_r0 (c : CallF) : RF := rg [0, 1, 2] <| aX 6 (pM (cn .nils)) <|
 aX 7 (pM (cn (.int .i64 0))) <|
 aXZ
noncomputable def f58_r1 (c : CallF) : RF := rg [0, 1, 2, 8] <| aX 12 (pM 0) <|
 aX 13 (pM 1) <|
 aX 14 (pK c false 87 [12, 13]) <|
 aX 8 (pM 14) <|
 aXZ
noncomputable def f58_r2 (c : CallF) : RF := rg [0, 1, 2, 8, 16] <| aX 15 (pM 8) <|
 aX 16 (pB .neq 2 15 (cn (.int .i64 0))) <|
 aXZ
noncomputable def f58_r3 (c : CallF) : RF := rg [6, 7] <| aX 17 (fun n e M => keep (aLitI 50 3 [] M)) <|
 aX 18 (pM 8) <|
 aX 6 (pM 17) <|
 aX 7 (pM 18) <|
 aXZ
noncomputable def f58_r4 (c : CallF) : RF := rg [0, 2, 9, 10] <| aX 20 (pM 0) <|
 aX 21 (pM 1) <|
 aX 22 (pK c false 88 [20, 21]) <|
 aX 19 (pM 22) <|
 aX 23 (pE 0 19) <|
 aX 24 (pE 1 19) <|
 aX 25 (pE 2 19) <|
 aX 9 (pM 23) <|
 aX 10 (pM 24) <|
 aX 11 (pM 25) <|
 aXZ
noncomputable def f58_r5 (c : CallF) : RF := rg [0, 2, 9, 10, 27] <| aX 26 (pM 10) <|
 aX 27 (pB .neq 2 26 (cn (.int .i64 0))) <|
 aXZ
noncomputable def f58_r6 (c : CallF) : RF := rg [6, 7] <| aX 28 (fun n e M => keep (aLitI 50 3 [] M)) <|
 aX 29 (pM 10) <|
 aX 6 (pM 28) <|
 aX 7 (pM 29) <|
 aXZ
noncomputable def f58_r7 (c : CallF) : RF := rg [2, 9] <| aX 30 (pM 0) <|
 aX 31 (pK c false 89 [30]) <|
 aX 32 (fun n e M => keep (aLitI 50 3 [(eget e 31)] M)) <|
 aX 33 (pM 9) <|
 aX 34 (fun n e M => aAppI 50 3 56 (eget e 32) (eget e 33) M) <|
 aX 9 (pM 34) <|
 aXZ
noncomputable def f58_r8 (c : CallF) : RF := rg [9, 46] <| aX 35 (pM 2) <|
 aX 36 (pM 9) <|
 aX 37 (pM 9) <|
 aX 38 (pLen 105 37) <|
 aX 39 (pB .sub 3 38 (cn (.int .i64 1))) <|
 aX 40 (pI 3 36 39) <|
 aX 41 (pF 2 1 40) <|
 aX 42 (pL false 1 41) <|
 aX 43 (pLen 48 42) <|
 aX 44 (pB .sub 2 43 (cn (.int .i64 1))) <|
 aX 45 (pK c false 69 [35, (cn (.int .i64 0)), 44]) <|
 aX 46 (pU .not 45) <|
 aXZ
noncomputable def f58_r9 (c : CallF) : RF := rg [6, 7] <| aX 47 (fun n e M => keep (aLitI 50 3 [] M)) <|
 aX 6 (pM 47) <|
 aX 7 (pM (cn (.int .i64 6))) <|
 aXZ
noncomputable def f58_r10 (c : CallF) : RF := rg [6, 7] <| aX 48 (pM 9) <|
 aX 6 (pM 48) <|
 aX 7 (pM (cn (.int .i64 0))) <|
 aXZ
noncomputable def f58 (c : CallF) (k : Nat) : St :=
 (bSeq (bReg (f58_r0 c))
 (bSeq (bSeq (bReg (f58_r1 c))
 (bSeq (bReg (f58_r2 c))
 (bCond (.tmp 16) (bSeq (bReg (f58_r3 c))
 (bEx .ret)) (bEx .nrm))))
 (bSeq (bReg (f58_r4 c))
 (bSeq (bSeq (bReg (f58_r5 c))
 (bCond (.tmp 27) (bSeq (bReg (f58_r6 c))
 (bEx .ret)) (bEx .nrm)))
 (bSeq (bReg (f58_r7 c))
 (bSeq (bSeq (bReg (f58_r8 c))
 (bCond (.tmp 46) (bSeq (bReg (f58_r9 c))
 (bEx .ret)) (bEx .nrm)))
 (bSeq (bReg (f58_r10 c))
 (bEx .ret))))))))
theorem f58_eq (c : CallF) (k : Nat) : exec cx c 49 f58_an k (Try.f58.body.getD .skip) = f58 c k := by kernel_rfl
/-! ### f59: loop.example/g01263/spec.l07Least -/
def f59_an : Ann := ⟨[(0, r0 [0, 1, 2]), (1, r0 [0, 1, 2, 7]), (2, r0 [0, 1, 2, 7, 11]), (3, r0 [0, 1, 2, 7]), (4, r0 [0, 1, 2, 7, 34]), (5, r0 [0, 1, 2, 7]), (6, r0 [6])], [(2, [0, 1, 2, 7])]⟩
noncomputable def f59_r0 (c : CallF) : RF := rg [0, 1, 2] <| aX 6 (pM (cn (.int .i64 0))) <|
 aXZ
noncomputable def f59_r1 (c : CallF) : RF := rg [0, 1, 2, 7] <| aX 7 (pM (cn (.int .i64 0))) <|
 aXZ
noncomputable def f59_r2 (c : CallF) : RF := rg [0, 1, 2, 7, 11] <| aX 8 (pM 7) <|
 aX 9 (pM 0) <|
 aX 10 (pLen 105 9) <|
 aX 11 (pB .lss 3 8 10) <|
 aXZ
noncomputable def f59_r3 (c : CallF) : RF := rg [0, 1, 2, 7] <| aX 12 (pM 7) <|
 aX 13 (pB .add 3 12 (cn (.int .i64 1))) <|
 aX 7 (pM 13) <|
 aXZ
noncomputable def f59_r4 (c : CallF) : RF := rg [0, 1, 2, 7, 34] <| aX 14 (pM 1) <|
 aX 15 (pM 0) <|
 aX 16 (pM 7) <|
 aX 17 (pI 3 15 16) <|
 aX 18 (pF 2 1 17) <|
 aX 19 (pL false 1 18) <|
 aX 20 (pLen 48 19) <|
 aX 21 (pB .lss 2 14 20) <|
 aX 22 (pM 21) <|
 aX 23 (pG 22 true (pM 0)) <|
 aX 24 (pG 22 true (pM 7)) <|
 aX 25 (pG 22 true (pI 3 23 24)) <|
 aX 26 (pG 22 true (pF 2 1 25)) <|
 aX 27 (pG 22 true (pL false 1 26)) <|
 aX 28 (pG 22 true (pM 1)) <|
 aX 29 (pG 22 true (pI 5 27 28)) <|
 aX 30 (pG 22 true (pF 1 1 29)) <|
 aX 31 (pG 22 true (pL false 1 30)) <|
 aX 32 (pG 22 true (pM 2)) <|
 aX 33 (pG 22 true (pB .lss 3 31 32)) <|
 aX 34 (pP 22 33 (cn (.bool false))) <|
 aXZ
noncomputable def f59_r5 (c : CallF) : RF := rg [0, 1, 2, 7] <| aX 35 (pM 0) <|
 aX 36 (pM 7) <|
 aX 37 (pI 3 35 36) <|
 aX 38 (pF 2 1 37) <|
 aX 39 (pL false 1 38) <|
 aX 40 (pM 1) <|
 aX 41 (pI 5 39 40) <|
 aX 42 (pF 1 1 41) <|
 aX 43 (pL false 1 42) <|
 aX 2 (pM 43) <|
 aXZ
noncomputable def f59_r6 (c : CallF) : RF := rg [6] <| aX 44 (pM 2) <|
 aX 6 (pM 44) <|
 aXZ
noncomputable def f59_l2 (c : CallF) (k : Nat) : St :=
 (bSeq (bSeq (bReg (f59_r2 c))
 (bCond (.tmp 11) (bEx .nrm) (bEx (.ext 0))))
 (bSeq (bBlock 1 (bSeq (bReg (f59_r4 c))
 (bCond (.tmp 34) (bReg (f59_r5 c)) (bEx .nrm))))
 (bReg (f59_r3 c))))
noncomputable def f59 (c : CallF) (k : Nat) : St :=
 (bSeq (bReg (f59_r0 c))
 (bSeq (bSeq (bReg (f59_r1 c))
 (bBlock 0 (bLoop [0, 1, 2, 7] (f59_l2 c k) k)))
 (bSeq (bReg (f59_r6 c))
 (bEx .ret))))
theorem f59_eq (c : CallF) (k : Nat) : exec cx c 45 f59_an k (Try.f59.body.getD .skip) = f59 c k := by kernel_rfl
/-! ### f60: loop.example/g01263/laws.toTallyS -/
def f60_an : Ann := ⟨[(0, r0 [0]), (1, r0 [0, 3]), (2, r0 [0, 3, 4]), (3, r0 [0, 3, 4, 11]), (4, r0 [0, 3, 4]), (5, r0 [0, 3, 4]), (6, r0 [2])], [(3, [0, 3, 4])]⟩
noncomputable def f60_r0 (c : CallF) : RF := rg [0] <| aX 2 (pM (cn .nils)) <|
 aXZ
noncomputable def f60_r1 (c : CallF) : RF := rg [0, 3] <| aX 5 (pM 0) <|
 aX 6 (pLen 40 5) <|
 aX 7 (fun n e M => aMakeO n 110 5 40 (zeroOf cx.P 110) (eget e 6) (eget e 6)) <|
 aX 3 (pM 7) <|
 aXZ
noncomputable def f60_r2 (c : CallF) : RF := rg [0, 3, 4] <| aX 4 (pM (cn (.int .i64 0))) <|
 aXZ
noncomputable def f60_r3 (c : CallF) : RF := rg [0, 3, 4, 11] <| aX 8 (pM 4) <|
 aX 9 (pM 0) <|
 aX 10 (pLen 40 9) <|
 aX 11 (pB .lss 3 8 10) <|
 aXZ
noncomputable def f60_r4 (c : CallF) : RF := rg [0, 3, 4] <| aX 12 (pM 4) <|
 aX 13 (pB .add 3 12 (cn (.int .i64 1))) <|
 aX 4 (pM 13) <|
 aXZ
noncomputable def f60_r5 (c : CallF) : RF := rg [0, 3, 4] <| aX 14 (pM 3) <|
 aX 15 (pM 4) <|
 aX 16 (pM 0) <|
 aX 17 (pM 4) <|
 aX 18 (pI 5 16 17) <|
 aX 19 (pL true 5 18) <|
 aX 20 (pK c false 90 [19]) <|
 aX 21 (pI 5 14 15) <|
 aX0 (pS 5 21 20) <|
 aXZ
noncomputable def f60_r6 (c : CallF) : RF := rg [2] <| aX 22 (pM 3) <|
 aX 2 (pM 22) <|
 aXZ
noncomputable def f60_l3 (c : CallF) (k : Nat) : St :=
 (bSeq (bSeq (bReg (f60_r3 c))
 (bCond (.tmp 11) (bEx .nrm) (bEx (.ext 0))))
 (bSeq (bBlock 1 (bReg (f60_r5 c)))
 (bReg (f60_r4 c))))
noncomputable def f60 (c : CallF) (k : Nat) : St :=
 (bSeq (bReg (f60_r0 c))
 (bSeq (bReg (f60_r1 c))
 (bSeq (bSeq (bReg (f60_r2 c))
 (bBlock 0 (bLoop [0, 3, 4] (f60_l3 c k) k)))
 (bSeq (bReg (f60_r6 c))
 (bEx .ret)))))
theorem f60_eq (c : CallF) (k : Nat) : exec cx c 23 f60_an k (Try.f60.body.getD .skip) = f60 c k := by kernel_rfl
/-! ### f61: loop.example/g01263/laws.toDeal -/
def f61_an : Ann := ⟨[(0, r0 [1, 2]), (1, r0 [1, 2, 3]), (2, r0 [1, 2, 3]), (3, r0 [1, 2, 3]), (4, r0 [1, 2, 3]), (5, r0 [1, 2, 3]), (6, r0 [1, 2, 3]), (7, r0 [2, 3]), (8, r0 [2])], []⟩
noncomputable def f61_r0 (c : CallF) : RF := rg [1, 2] <| aX 1 (pBox 6 0) <|
 aX 2 (pAl 114 6) <|
 aXZ
noncomputable def f61_r1 (c : CallF) : RF := rg [1, 2, 3] <| aX 3 (pAl 114 6) <|
 aXZ
noncomputable def f61_r2 (c : CallF) : RF := rg [1, 2, 3] <| aX 4 (pF 0 1 1) <|
 aX 5 (pL false 1 4) <|
 aX 6 (pF 0 1 3) <|
 aX0 (pS 1 6 5) <|
 aXZ
noncomputable def f61_r3 (c : CallF) : RF := rg [1, 2, 3] <| aX 7 (pF 1 1 1) <|
 aX 8 (pL false 1 7) <|
 aX 9 (pF 1 1 3) <|
 aX0 (pS 1 9 8) <|
 aXZ
noncomputable def f61_r4 (c : CallF) : RF := rg [1, 2, 3] <| aX 10 (pF 2 1 1) <|
 aX 11 (pL false 1 10) <|
 aX 12 (pF 2 1 3) <|
 aX0 (pS 1 12 11) <|
 aXZ
noncomputable def f61_r5 (c : CallF) : RF := rg [1, 2, 3] <| aX 13 (pF 3 1 1) <|
 aX 14 (pL false 1 13) <|
 aX 15 (pF 3 1 3) <|
 aX0 (pS 1 15 14) <|
 aXZ
noncomputable def f61_r6 (c : CallF) : RF := rg [1, 2, 3] <| aX 16 (pF 4 1 1) <|
 aX 17 (pL false 1 16) <|
 aX 18 (pF 4 1 3) <|
 aX0 (pS 1 18 17) <|
 aXZ
noncomputable def f61_r7 (c : CallF) : RF := rg [2, 3] <| aX 19 (pF 5 1 1) <|
 aX 20 (pL false 1 19) <|
 aX 21 (pF 5 1 3) <|
 aX0 (pS 1 21 20) <|
 aXZ
noncomputable def f61_r8 (c : CallF) : RF := rg [2] <| aX 22 (pL true 6 3) <|
 aX0 (pS 6 2 22) <|
 aXZ
noncomputable def f61 (c : CallF) (k : Nat) : St :=
 (bSeq (bReg (f61_r0 c))
 (bSeq (bReg (f61_r1 c))
 (bSeq (bReg (f61_r2 c))
 (bSeq (bReg (f61_r3 c))
 (bSeq (bReg (f61_r4 c))
 (bSeq (bReg (f61_r5 c))
 (bSeq (bReg (f61_r6 c))
 (bSeq (bReg (f61_r7 c))
 (bSeq (bReg (f61_r8 c))
 (bEx .ret))))))))))
theorem f61_eq (c : CallF) (k : Nat) : exec cx c 23 f61_an k (Try.f61.body.getD .skip) = f61 c k := by kernel_rfl
/-! ### f62: loop.example/g01263/impl.history -/
def f62_an : Ann := ⟨[(0, r0 [1, 2, 3]), (1, r0 [1, 2, 3, 8]), (2, r0 [1, 2, 3, 8, 19]), (3, r0 [6, 7]), (4, r0 [1, 2, 3, 9, 10]), (5, r0 [1, 2, 3, 9, 10, 28]), (6, r0 [6, 7]), (7, r0 [1, 2, 3, 38]), (8, r0 [6, 7]), (9, ⟨[0], [], [], [], [1, 2, 11, 12]⟩), (10, r0 [2, 11, 12, 43, 44, 45]), (11, r0 [2, 11, 12, 43, 44, 45, 46]), (12, r0 [2, 11, 12, 13, 14, 43, 44, 45]), (13, r0 [2, 11, 12, 13, 14, 43, 44, 45, 68]), (14, ⟨[3], [], [], [], [2, 11, 12, 14, 43, 44, 45]⟩), (15, r0 [2, 11, 12, 43, 44, 45, 75]), (16, r0 [2, 11, 12, 43, 44, 45]), (17, r0 [2, 11, 12, 43, 44, 45]), (18, r0 [6, 7])], [(11, [2, 11, 12, 43, 44, 45])]⟩
noncomputable def f62_r0 (c : CallF) : RF := rg [1, 2, 3] <| aX 3 (pBox 3 0) <|
 aX 6 (pM (cn .nils)) <|
 aX 7 (pM (cn (.int .i64 0))) <|
 aXZ
noncomputable def f62_r1 (c : CallF) : RF := rg [1, 2, 3, 8] <| aX 15 (pL true 3 3) <|
 aX 16 (pM 1) <|
 aX 17 (pK c false 91 [15, 16]) <|
 aX 8 (pM 17) <|
 aXZ
noncomputable def f62_r2 (c : CallF) : RF := rg [1, 2, 3, 8, 19] <| aX 18 (pM 8) <|
 aX 19 (pB .neq 2 18 (cn (.int .i64 0))) <|
 aXZ
noncomputable def f62_r3 (c : CallF) : RF := rg [6, 7] <| aX 20 (pM 8) <|
 aX 6 (pM (cn .nils)) <|
 aX 7 (pM 20) <|
 aXZ
noncomputable def f62_r4 (c : CallF) : RF := rg [1, 2, 3, 9, 10] <| aX 22 (pL true 3 3) <|
 aX 23 (pM 1) <|
 aX 24 (pK c false 92 [22, 23]) <|
 aX 21 (pM 24) <|
 aX 25 (pE 0 21) <|
 aX 26 (pE 1 21) <|
 aX 9 (pAl 50 3) <|
 aX0 (pS 3 9 25) <|
 aX 10 (pM 26) <|
 aXZ
noncomputable def f62_r5 (c : CallF) : RF := rg [1, 2, 3, 9, 10, 28] <| aX 27 (pM 10) <|
 aX 28 (pB .neq 2 27 (cn (.int .i64 0))) <|
 aXZ
noncomputable def f62_r6 (c : CallF) : RF := rg [6, 7] <| aX 29 (pM 10) <|
 aX 6 (pM (cn .nils)) <|
 aX 7 (pM 29) <|
 aXZ
noncomputable def f62_r7 (c : CallF) : RF := rg [1, 2, 3, 38] <| aX 30 (pM 2) <|
 aX 31 (pB .lss 2 30 (cn (.int .i64 0))) <|
 aX 32 (pM 31) <|
 aX 33 (pG 32 false (pM 2)) <|
 aX 34 (pG 32 false (pF 2 1 9)) <|
 aX 35 (pG 32 false (pL false 1 34)) <|
 aX 36 (pG 32 false (pLen 48 35)) <|
 aX 37 (pG 32 false (pB .geq 2 33 36)) <|
 aX 38 (pP 32 (cn (.bool true)) 37) <|
 aXZ
noncomputable def f62_r8 (c : CallF) : RF := rg [6, 7] <| aX 6 (pM (cn .nils)) <|
 aX 7 (pM (cn (.int .i64 6))) <|
 aXZ
noncomputable def f62_r9 (c : CallF) : RF := rgD [1, 2, 11, 12] (aY 39 (fun n e M => aLitO false n 2 1 [] M) <|
 aY 40 (pF 2 1 3) <|
 aY 41 (pL false 1 40) <|
 aY 42 (pLen 48 41) <|
 aY 11 (pM 39) <|
 aY 12 (pM 42) <|
 aYZ)
 (aXZ)
noncomputable def f62_r10 (c : CallF) : RF := rg [2, 11, 12, 43, 44, 45] <| aX 43 (pM 1) <|
 aX 44 (pLen 52 43) <|
 aX 45 (pM (cn (.int .i64 0))) <|
 aXZ
noncomputable def f62_r11 (c : CallF) : RF := rg [2, 11, 12, 43, 44, 45, 46] <| aX 46 (pB .lss 3 45 44) <|
 aXZ
noncomputable def f62_r12 (c : CallF) : RF := rg [2, 11, 12, 13, 14, 43, 44, 45] <| aX 47 (pM 45) <|
 aX 48 (pI 6 43 45) <|
 aX 49 (pL true 6 48) <|
 aX 14 (pAl 114 6) <|
 aX 13 (pM 47) <|
 aX0 (pS 6 14 49) <|
 aXZ
noncomputable def f62_r13 (c : CallF) : RF := rg [2, 11, 12, 13, 14, 43, 44, 45, 68] <| aX 50 (pF 1 1 14) <|
 aX 51 (pL false 1 50) <|
 aX 52 (pB .eql 58 51 (cn (.int .i8 1))) <|
 aX 53 (pM 52) <|
 aX 54 (pG 53 true (pM 12)) <|
 aX 55 (pG 53 true (pM 2)) <|
 aX 56 (pG 53 true (pB .eql 2 54 55)) <|
 aX 57 (pP 53 56 (cn (.bool false))) <|
 aX 58 (pM 57) <|
 aX 59 (pG 58 false (pF 1 1 14)) <|
 aX 60 (pG 58 false (pL false 1 59)) <|
 aX 61 (pG 58 false (pB .neq 58 60 (cn (.int .i8 1)))) <|
 aX 62 (pG 58 false (pM 61)) <|
 aX 63 (pG 62 true (pF 2 1 14)) <|
 aX 64 (pG 62 true (pL false 1 63)) <|
 aX 65 (pG 62 true (pM 2)) <|
 aX 66 (pG 62 true (pB .eql 2 64 65)) <|
 aX 67 (pG 58 false (pP 62 66 (cn (.bool false)))) <|
 aX 68 (pP 58 (cn (.bool true)) 67) <|
 aXZ
noncomputable def f62_r14 (c : CallF) : RF := rg [2, 11, 12, 14, 43, 44, 45] <| aX 69 (pM 11) <|
 aX 70 (pM 13) <|
 aX 71 (fun n e M => keep (aLitI 2 1 [(eget e 70)] M)) <|
 aX 72 (fun n e M => aAppO n 2 1 8 (eget e 69) (eget e 71) M) <|
 aX 11 (pM 72) <|
 aXZ
noncomputable def f62_r15 (c : CallF) : RF := rg [2, 11, 12, 43, 44, 45, 75] <| aX 73 (pF 1 1 14) <|
 aX 74 (pL false 1 73) <|
 aX 75 (pB .eql 58 74 (cn (.int .i8 1))) <|
 aXZ
noncomputable def f62_r16 (c : CallF) : RF := rg [2, 11, 12, 43, 44, 45] <| aX 76 (pM 12) <|
 aX 77 (pB .add 2 76 (cn (.int .i64 1))) <|
 aX 12 (pM 77) <|
 aXZ
noncomputable def f62_r17 (c : CallF) : RF := rg [2, 11, 12, 43, 44, 45] <| aX 78 (pB .add 3 45 (cn (.int .i64 1))) <|
 aX 45 (pM 78) <|
 aXZ
noncomputable def f62_r18 (c : CallF) : RF := rg [6, 7] <| aX 79 (pM 11) <|
 aX 6 (pM 79) <|
 aX 7 (pM (cn (.int .i64 0))) <|
 aXZ
noncomputable def f62_l11 (c : CallF) (k : Nat) : St :=
 (bSeq (bReg (f62_r11 c))
 (bSeq (bCond (.tmp 46) (bEx .nrm) (bEx (.ext 0)))
 (bSeq (bBlock 1 (bSeq (bReg (f62_r12 c))
 (bSeq (bSeq (bReg (f62_r13 c))
 (bCond (.tmp 68) (bReg (f62_r14 c)) (bEx .nrm)))
 (bSeq (bReg (f62_r15 c))
 (bCond (.tmp 75) (bReg (f62_r16 c)) (bEx .nrm))))))
 (bReg (f62_r17 c)))))
noncomputable def f62 (c : CallF) (k : Nat) : St :=
 (bSeq (bReg (f62_r0 c))
 (bSeq (bSeq (bReg (f62_r1 c))
 (bSeq (bReg (f62_r2 c))
 (bCond (.tmp 19) (bSeq (bReg (f62_r3 c))
 (bEx .ret)) (bEx .nrm))))
 (bSeq (bReg (f62_r4 c))
 (bSeq (bSeq (bReg (f62_r5 c))
 (bCond (.tmp 28) (bSeq (bReg (f62_r6 c))
 (bEx .ret)) (bEx .nrm)))
 (bSeq (bSeq (bReg (f62_r7 c))
 (bCond (.tmp 38) (bSeq (bReg (f62_r8 c))
 (bEx .ret)) (bEx .nrm)))
 (bSeq (bReg (f62_r9 c))
 (bSeq (bSeq (bReg (f62_r10 c))
 (bBlock 0 (bLoop [2, 11, 12, 43, 44, 45] (f62_l11 c k) k)))
 (bSeq (bReg (f62_r18 c))
 (bEx .ret)))))))))
theorem f62_eq (c : CallF) (k : Nat) : exec cx c 80 f62_an k (Try.f62.body.getD .skip) = f62 c k := by kernel_rfl
/-! ### f63: loop.example/g01263/impl.LongestHeld$1 -/
def f63_an : Ann := ⟨[(0, r0 [0, 1, 2, 3, 4, 5, 9]), (1, ⟨[], [], [], [9], [0, 1, 2, 4, 5]⟩), (2, r0 [0, 1, 2, 4]), (3, r0 [1, 4]), (4, r0 [])], []⟩
noncomputable def f63_r0 (c : CallF) : RF := rg [0, 1, 2, 3, 4, 5, 9] <| aX 8 (pL false 1 2) <|
 aX 9 (pB .geq 2 8 (cn (.int .i64 0))) <|
 aXZ
noncomputable def f63_r1 (c : CallF) : RF := rgD [0, 1, 2, 4, 5] (aY 10 (pL false 1 3) <|
 aY 11 (pL false 1 2) <|
 aY 12 (pI 1 10 11) <|
 aY 13 (pL false 1 12) <|
 aY 14 (pM 1) <|
 aY 15 (pL false 1 4) <|
 aY 16 (pB .sub 2 14 15) <|
 aY 17 (pB .add 2 13 16) <|
 aY 18 (pI 1 10 11) <|
 aYZ)
 (aX0 (pS 1 18 17) <|
 aXZ)
noncomputable def f63_r2 (c : CallF) : RF := rg [0, 1, 2, 4] <| aX 19 (pL false 1 5) <|
 aX 20 (pL false 1 2) <|
 aX 21 (pI 1 19 20) <|
 aX0 (pS 1 21 (cn (.bool true))) <|
 aXZ
noncomputable def f63_r3 (c : CallF) : RF := rg [1, 4] <| aX 22 (pM 0) <|
 aX0 (pS 1 2 22) <|
 aXZ
noncomputable def f63_r4 (c : CallF) : RF := rg [] <| aX 23 (pM 1) <|
 aX0 (pS 1 4 23) <|
 aXZ
noncomputable def f63 (c : CallF) (k : Nat) : St :=
 (bSeq (bSeq (bReg (f63_r0 c))
 (bCond (.tmp 9) (bSeq (bReg (f63_r1 c))
 (bReg (f63_r2 c))) (bEx .nrm)))
 (bSeq (bReg (f63_r3 c))
 (bReg (f63_r4 c))))
theorem f63_eq (c : CallF) (k : Nat) : exec cx c 24 f63_an k (Try.f63.body.getD .skip) = f63 c k := by kernel_rfl
/-! ### f64: loop.example/g01263/laws.eqTallyS -/
def f64_an : Ann := ⟨[(0, r0 [0, 1]), (1, r0 [0, 1, 10]), (2, r0 [4]), (3, r0 [0, 1, 5]), (4, r0 [0, 1, 5, 14]), (5, r0 [0, 1, 5]), (6, r0 [0, 1, 5, 26]), (7, r0 [4]), (8, r0 [4])], [(4, [0, 1, 5])]⟩
noncomputable def f64_r0 (c : CallF) : RF := rg [0, 1] <| aX 4 (pM (cn (.bool false))) <|
 aXZ
noncomputable def f64_r1 (c : CallF) : RF := rg [0, 1, 10] <| aX 6 (pM 0) <|
 aX 7 (pLen 48 6) <|
 aX 8 (pM 1) <|
 aX 9 (pLen 48 8) <|
 aX 10 (pB .neq 3 7 9) <|
 aXZ
noncomputable def f64_r2 (c : CallF) : RF := rg [4] <| aX 4 (pM (cn (.bool false))) <|
 aXZ
noncomputable def f64_r3 (c : CallF) : RF := rg [0, 1, 5] <| aX 5 (pM (cn (.int .i64 0))) <|
 aXZ
noncomputable def f64_r4 (c : CallF) : RF := rg [0, 1, 5, 14] <| aX 11 (pM 5) <|
 aX 12 (pM 0) <|
 aX 13 (pLen 48 12) <|
 aX 14 (pB .lss 3 11 13) <|
 aXZ
noncomputable def f64_r5 (c : CallF) : RF := rg [0, 1, 5] <| aX 15 (pM 5) <|
 aX 16 (pB .add 3 15 (cn (.int .i64 1))) <|
 aX 5 (pM 16) <|
 aXZ
noncomputable def f64_r6 (c : CallF) : RF := rgD [0, 1, 5, 26] (aY 17 (pM 0) <|
 aY 18 (pM 5) <|
 aY 19 (pI 5 17 18) <|
 aY 20 (pL true 5 19) <|
 aY 21 (pM 1) <|
 aY 22 (pM 5) <|
 aY 23 (pI 5 21 22) <|
 aY 24 (pL true 5 23) <|
 aY 25 (pK c false 93 [20, 24]) <|
 aY 26 (pU .not 25) <|
 aYZ)
 (aXZ)
noncomputable def f64_r7 (c : CallF) : RF := rg [4] <| aX 4 (pM (cn (.bool false))) <|
 aXZ
noncomputable def f64_r8 (c : CallF) : RF := rg [4] <| aX 4 (pM (cn (.bool true))) <|
 aXZ
noncomputable def f64_l4 (c : CallF) (k : Nat) : St :=
 (bSeq (bSeq (bReg (f64_r4 c))
 (bCond (.tmp 14) (bEx .nrm) (bEx (.ext 0))))
 (bSeq (bBlock 1 (bSeq (bReg (f64_r6 c))
 (bCond (.tmp 26) (bSeq (bReg (f64_r7 c))
 (bEx .ret)) (bEx .nrm))))
 (bReg (f64_r5 c))))
noncomputable def f64 (c : CallF) (k : Nat) : St :=
 (bSeq (bReg (f64_r0 c))
 (bSeq (bSeq (bReg (f64_r1 c))
 (bCond (.tmp 10) (bSeq (bReg (f64_r2 c))
 (bEx .ret)) (bEx .nrm)))
 (bSeq (bSeq (bReg (f64_r3 c))
 (bBlock 0 (bLoop [0, 1, 5] (f64_l4 c k) k)))
 (bSeq (bReg (f64_r8 c))
 (bEx .ret)))))
theorem f64_eq (c : CallF) (k : Nat) : exec cx c 27 f64_an k (Try.f64.body.getD .skip) = f64 c k := by kernel_rfl
/-! ### f65: loop.example/g01263/laws.eqDeal -/
def f65_an : Ann := ⟨[(0, r0 [2, 3]), (1, r0 [2, 3, 9]), (2, r0 [4]), (3, r0 [2, 3, 14]), (4, r0 [4]), (5, r0 [2, 3, 19]), (6, r0 [4]), (7, r0 [2, 3, 24]), (8, r0 [4]), (9, r0 [2, 3, 29]), (10, r0 [4]), (11, r0 [34]), (12, r0 [4]), (13, r0 [4])], []⟩
noncomputable def f65_r0 (c : CallF) : RF := rg [2, 3] <| aX 2 (pBox 6 0) <|
 aX 3 (pBox 6 1) <|
 aX 4 (pM (cn (.bool false))) <|
 aXZ
noncomputable def f65_r1 (c : CallF) : RF := rg [2, 3, 9] <| aX 5 (pF 0 1 2) <|
 aX 6 (pL false 1 5) <|
 aX 7 (pF 0 1 3) <|
 aX 8 (pL false 1 7) <|
 aX 9 (pB .neq 2 6 8) <|
 aXZ
noncomputable def f65_r2 (c : CallF) : RF := rg [4] <| aX 4 (pM (cn (.bool false))) <|
 aXZ
noncomputable def f65_r3 (c : CallF) : RF := rg [2, 3, 14] <| aX 10 (pF 1 1 2) <|
 aX 11 (pL false 1 10) <|
 aX 12 (pF 1 1 3) <|
 aX 13 (pL false 1 12) <|
 aX 14 (pB .neq 58 11 13) <|
 aXZ
noncomputable def f65_r4 (c : CallF) : RF := rg [4] <| aX 4 (pM (cn (.bool false))) <|
 aXZ
noncomputable def f65_r5 (c : CallF) : RF := rg [2, 3, 19] <| aX 15 (pF 2 1 2) <|
 aX 16 (pL false 1 15) <|
 aX 17 (pF 2 1 3) <|
 aX 18 (pL false 1 17) <|
 aX 19 (pB .neq 2 16 18) <|
 aXZ
noncomputable def f65_r6 (c : CallF) : RF := rg [4] <| aX 4 (pM (cn (.bool false))) <|
 aXZ
noncomputable def f65_r7 (c : CallF) : RF := rg [2, 3, 24] <| aX 20 (pF 3 1 2) <|
 aX 21 (pL false 1 20) <|
 aX 22 (pF 3 1 3) <|
 aX 23 (pL false 1 22) <|
 aX 24 (pB .neq 2 21 23) <|
 aXZ
noncomputable def f65_r8 (c : CallF) : RF := rg [4] <| aX 4 (pM (cn (.bool false))) <|
 aXZ
noncomputable def f65_r9 (c : CallF) : RF := rg [2, 3, 29] <| aX 25 (pF 4 1 2) <|
 aX 26 (pL false 1 25) <|
 aX 27 (pF 4 1 3) <|
 aX 28 (pL false 1 27) <|
 aX 29 (pB .neq 2 26 28) <|
 aXZ
noncomputable def f65_r10 (c : CallF) : RF := rg [4] <| aX 4 (pM (cn (.bool false))) <|
 aXZ
noncomputable def f65_r11 (c : CallF) : RF := rg [34] <| aX 30 (pF 5 1 2) <|
 aX 31 (pL false 1 30) <|
 aX 32 (pF 5 1 3) <|
 aX 33 (pL false 1 32) <|
 aX 34 (pB .neq 2 31 33) <|
 aXZ
noncomputable def f65_r12 (c : CallF) : RF := rg [4] <| aX 4 (pM (cn (.bool false))) <|
 aXZ
noncomputable def f65_r13 (c : CallF) : RF := rg [4] <| aX 4 (pM (cn (.bool true))) <|
 aXZ
noncomputable def f65 (c : CallF) (k : Nat) : St :=
 (bSeq (bReg (f65_r0 c))
 (bSeq (bSeq (bReg (f65_r1 c))
 (bCond (.tmp 9) (bSeq (bReg (f65_r2 c))
 (bEx .ret)) (bEx .nrm)))
 (bSeq (bSeq (bReg (f65_r3 c))
 (bCond (.tmp 14) (bSeq (bReg (f65_r4 c))
 (bEx .ret)) (bEx .nrm)))
 (bSeq (bSeq (bReg (f65_r5 c))
 (bCond (.tmp 19) (bSeq (bReg (f65_r6 c))
 (bEx .ret)) (bEx .nrm)))
 (bSeq (bSeq (bReg (f65_r7 c))
 (bCond (.tmp 24) (bSeq (bReg (f65_r8 c))
 (bEx .ret)) (bEx .nrm)))
 (bSeq (bSeq (bReg (f65_r9 c))
 (bCond (.tmp 29) (bSeq (bReg (f65_r10 c))
 (bEx .ret)) (bEx .nrm)))
 (bSeq (bSeq (bReg (f65_r11 c))
 (bCond (.tmp 34) (bSeq (bReg (f65_r12 c))
 (bEx .ret)) (bEx .nrm)))
 (bSeq (bReg (f65_r13 c))
 (bEx .ret)))))))))
theorem f65_eq (c : CallF) (k : Nat) : exec cx c 35 f65_an k (Try.f65.body.getD .skip) = f65 c k := by kernel_rfl
/-! ### f69: loop.example/g01263/spec.l00In -/
def f69_an : Ann := ⟨[(0, r0 [0, 1, 2]), (1, r0 [6])], []⟩
noncomputable def f69_r0 (c : CallF) : RF := rg [0, 1, 2] <| aX 6 (pM (cn (.bool false))) <|
 aXZ
noncomputable def f69_r1 (c : CallF) : RF := rg [6] <| aX 7 (pM 0) <|
 aX 8 (pM 1) <|
 aX 9 (pB .geq 2 7 8) <|
 aX 10 (pM 9) <|
 aX 11 (pG 10 true (pM 0)) <|
 aX 12 (pG 10 true (pM 2)) <|
 aX 13 (pG 10 true (pB .leq 2 11 12)) <|
 aX 14 (pP 10 13 (cn (.bool false))) <|
 aX 6 (pM 14) <|
 aXZ
noncomputable def f69 (c : CallF) (k : Nat) : St :=
 (bSeq (bReg (f69_r0 c))
 (bSeq (bReg (f69_r1 c))
 (bEx .ret)))
theorem f69_eq (c : CallF) (k : Nat) : exec cx c 15 f69_an k (Try.f69.body.getD .skip) = f69 c k := by kernel_rfl
/-! ### f70: loop.example/g01263/spec.l01Amount -/
def f70_an : Ann := ⟨[(0, r0 [0]), (1, r0 [2])], []⟩
noncomputable def f70_r0 (c : CallF) : RF := rg [0] <| aX 2 (pM (cn (.bool false))) <|
 aXZ
noncomputable def f70_r1 (c : CallF) : RF := rg [2] <| aX 3 (pM 0) <|
 aX 4 (pK c false 69 [3, (cn (.int .i64 0)), (cn (.int .i64 100000000))]) <|
 aX 2 (pM 4) <|
 aXZ
noncomputable def f70 (c : CallF) (k : Nat) : St :=
 (bSeq (bReg (f70_r0 c))
 (bSeq (bReg (f70_r1 c))
 (bEx .ret)))
theorem f70_eq (c : CallF) (k : Nat) : exec cx c 5 f70_an k (Try.f70.body.getD .skip) = f70 c k := by kernel_rfl
/-! ### f76: loop.example/g01263/impl.isAmount -/
def f76_an : Ann := ⟨[(0, r0 [0]), (1, r0 [2])], []⟩
noncomputable def f76_r0 (c : CallF) : RF := rg [0] <| aX 2 (pM (cn (.bool false))) <|
 aXZ
noncomputable def f76_r1 (c : CallF) : RF := rg [2] <| aX 3 (pM 0) <|
 aX 4 (pB .geq 2 3 (cn (.int .i64 0))) <|
 aX 5 (pM 4) <|
 aX 6 (pG 5 true (pM 0)) <|
 aX 7 (pG 5 true (pB .leq 2 6 (cn (.int .i64 100000000)))) <|
 aX 8 (pP 5 7 (cn (.bool false))) <|
 aX 2 (pM 8) <|
 aXZ
noncomputable def f76 (c : CallF) (k : Nat) : St :=
 (bSeq (bReg (f76_r0 c))
 (bSeq (bReg (f76_r1 c))
 (bEx .ret)))
theorem f76_eq (c : CallF) (k : Nat) : exec cx c 9 f76_an k (Try.f76.body.getD .skip) = f76 c k := by kernel_rfl
/-! ### f87: loop.example/g01263/spec.l07Asked -/
def f87_an : Ann := ⟨[(0, r0 [0, 1]), (1, r0 [1, 12]), (2, r0 [4]), (3, r0 [15]), (4, r0 [4]), (5, r0 [4])], []⟩
noncomputable def f87_r0 (c : CallF) : RF := rg [0, 1] <| aX 4 (pM (cn (.int .i64 0))) <|
 aXZ
noncomputable def f87_r1 (c : CallF) : RF := rg [1, 12] <| aX 5 (pM 0) <|
 aX 6 (pK c false 117 [5]) <|
 aX 7 (pU .not 6) <|
 aX 8 (pM 7) <|
 aX 9 (pG 8 false (pM 1)) <|
 aX 10 (pG 8 false (pK c false 118 [9])) <|
 aX 11 (pG 8 false (pU .not 10)) <|
 aX 12 (pP 8 (cn (.bool true)) 11) <|
 aXZ
noncomputable def f87_r2 (c : CallF) : RF := rg [4] <| aX 4 (pM (cn (.int .i64 1))) <|
 aXZ
noncomputable def f87_r3 (c : CallF) : RF := rg [15] <| aX 13 (pM 1) <|
 aX 14 (pLen 52 13) <|
 aX 15 (pB .gtr 3 14 (cn (.int .i64 80))) <|
 aXZ
noncomputable def f87_r4 (c : CallF) : RF := rg [4] <| aX 4 (pM (cn (.int .i64 3))) <|
 aXZ
noncomputable def f87_r5 (c : CallF) : RF := rg [4] <| aX 4 (pM (cn (.int .i64 0))) <|
 aXZ
noncomputable def f87 (c : CallF) (k : Nat) : St :=
 (bSeq (bReg (f87_r0 c))
 (bSeq (bSeq (bReg (f87_r1 c))
 (bCond (.tmp 12) (bSeq (bReg (f87_r2 c))
 (bEx .ret)) (bEx .nrm)))
 (bSeq (bSeq (bReg (f87_r3 c))
 (bCond (.tmp 15) (bSeq (bReg (f87_r4 c))
 (bEx .ret)) (bEx .nrm)))
 (bSeq (bReg (f87_r5 c))
 (bEx .ret)))))
theorem f87_eq (c : CallF) (k : Nat) : exec cx c 16 f87_an k (Try.f87.body.getD .skip) = f87 c k := by kernel_rfl
/-! ### f88: loop.example/g01263/spec.l07All -/
def f88_an : Ann := ⟨[(0, r0 [0, 1]), (1, ⟨[0], [], [], [], [0, 1, 7]⟩), (2, r0 [1, 7, 8]), (3, r0 [1, 7, 8, 9]), (4, r0 [1, 7, 8, 9, 18]), (5, r0 [1, 7, 8, 9]), (6, r0 [1, 7, 8, 9, 10, 11]), (7, r0 [1, 7, 8, 9, 10, 11, 29]), (8, r0 [4, 5, 6]), (9, r0 [1, 7, 8, 9]), (10, ⟨[3], [], [], [], [1, 7, 8, 9]⟩), (11, r0 [4, 5, 6])], [(4, [1, 7, 8, 9])]⟩
noncomputable def f88_r0 (c : CallF) : RF := rg [0, 1] <| aX 4 (pM (cn .nils)) <|
 aX 5 (pM (cn (.int .i64 0))) <|
 aX 6 (pM (cn (.int .i64 0))) <|
 aXZ
noncomputable def f88_r1 (c : CallF) : RF := rg [0, 1, 7] <| aX 12 (fun n e M => aLitO false n 50 3 [] M) <|
 aX 7 (pM 12) <|
 aXZ
noncomputable def f88_r2 (c : CallF) : RF := rg [1, 7, 8] <| aX 13 (pM 0) <|
 aX 14 (pK c false 89 [13]) <|
 aX 8 (pAl 50 3) <|
 aX0 (pS 3 8 14) <|
 aXZ
noncomputable def f88_r3 (c : CallF) : RF := rg [1, 7, 8, 9] <| aX 9 (pM (cn (.int .i64 0))) <|
 aXZ
noncomputable def f88_r4 (c : CallF) : RF := rg [1, 7, 8, 9, 18] <| aX 15 (pM 9) <|
 aX 16 (pM 1) <|
 aX 17 (pLen 52 16) <|
 aX 18 (pB .lss 3 15 17) <|
 aXZ
noncomputable def f88_r5 (c : CallF) : RF := rg [1, 7, 8, 9] <| aX 19 (pM 9) <|
 aX 20 (pB .add 3 19 (cn (.int .i64 1))) <|
 aX 9 (pM 20) <|
 aXZ
noncomputable def f88_r6 (c : CallF) : RF := rg [1, 7, 8, 9, 10, 11] <| aX 22 (pM 1) <|
 aX 23 (pM 9) <|
 aX 24 (pI 6 22 23) <|
 aX 25 (pK c false 119 [8, 24]) <|
 aX 21 (pM 25) <|
 aX 26 (pE 0 21) <|
 aX 27 (pE 1 21) <|
 aX 10 (pAl 50 3) <|
 aX0 (pS 3 10 26) <|
 aX 11 (pM 27) <|
 aXZ
noncomputable def f88_r7 (c : CallF) : RF := rg [1, 7, 8, 9, 10, 11, 29] <| aX 28 (pM 11) <|
 aX 29 (pB .neq 2 28 (cn (.int .i64 0))) <|
 aXZ
noncomputable def f88_r8 (c : CallF) : RF := rg [4, 5, 6] <| aX 30 (fun n e M => keep (aLitI 50 3 [] M)) <|
 aX 31 (pM 11) <|
 aX 32 (pM 9) <|
 aX 4 (pM 30) <|
 aX 5 (pM 31) <|
 aX 6 (pM 32) <|
 aXZ
noncomputable def f88_r9 (c : CallF) : RF := rg [1, 7, 8, 9] <| aX 33 (pL true 3 10) <|
 aX0 (pS 3 8 33) <|
 aXZ
noncomputable def f88_r10 (c : CallF) : RF := rg [1, 7, 8, 9] <| aX 34 (pM 7) <|
 aX 35 (pL true 3 8) <|
 aX 36 (fun n e M => keep (aLitI 50 3 [(eget e 35)] M)) <|
 aX 37 (fun n e M => aAppO n 50 3 56 (eget e 34) (eget e 36) M) <|
 aX 7 (pM 37) <|
 aXZ
noncomputable def f88_r11 (c : CallF) : RF := rg [4, 5, 6] <| aX 38 (pM 7) <|
 aX 4 (pM 38) <|
 aX 5 (pM (cn (.int .i64 0))) <|
 aX 6 (pM (cn (.int .i64 0))) <|
 aXZ
noncomputable def f88_l4 (c : CallF) (k : Nat) : St :=
 (bSeq (bSeq (bReg (f88_r4 c))
 (bCond (.tmp 18) (bEx .nrm) (bEx (.ext 0))))
 (bSeq (bBlock 1 (bSeq (bReg (f88_r6 c))
 (bSeq (bSeq (bReg (f88_r7 c))
 (bCond (.tmp 29) (bSeq (bReg (f88_r8 c))
 (bEx .ret)) (bEx .nrm)))
 (bSeq (bReg (f88_r9 c))
 (bReg (f88_r10 c))))))
 (bReg (f88_r5 c))))
noncomputable def f88 (c : CallF) (k : Nat) : St :=
 (bSeq (bReg (f88_r0 c))
 (bSeq (bReg (f88_r1 c))
 (bSeq (bReg (f88_r2 c))
 (bSeq (bSeq (bReg (f88_r3 c))
 (bBlock 0 (bLoop [1, 7, 8, 9] (f88_l4 c k) k)))
 (bSeq (bReg (f88_r11 c))
 (bEx .ret))))))
theorem f88_eq (c : CallF) (k : Nat) : exec cx c 39 f88_an k (Try.f88.body.getD .skip) = f88 c k := by kernel_rfl
/-! ### f89: loop.example/g01263/spec.l07Copy -/
def f89_an : Ann := ⟨[(0, r0 [0, 2]), (1, ⟨[17], [], [], [17], [2]⟩)], []⟩
noncomputable def f89_r0 (c : CallF) : RF := rg [0, 2] <| aX 2 (pAl 50 3) <|
 aXZ
noncomputable def f89_r1 (c : CallF) : RF := rgD [2] (aY 3 (pM 0) <|
 aY 4 (pN 3) <|
 aY 5 (pF 0 1 4) <|
 aY 6 (pL false 1 5) <|
 aY 7 (fun n e M => keep (aLitI 2 1 [] M)) <|
 aY 8 (pM 0) <|
 aY 9 (pN 8) <|
 aY 10 (pF 1 1 9) <|
 aY 11 (pL false 1 10) <|
 aY 12 (fun n e M => aAppI 2 1 8 (eget e 7) (eget e 11) M) <|
 aY 13 (fun n e M => keep (aLitI 110 5 [] M)) <|
 aY 14 (pM 0) <|
 aY 15 (pN 14) <|
 aY 16 (pF 2 1 15) <|
 aY 17 (pL false 1 16) <|
 aY 18 (fun n e M => aAppI 110 5 40 (eget e 13) (eget e 17) M) <|
 aY 19 (fun n e M => keep (aBuild (zeroOf cx.P 50) [(0, 1, (eget e 6)), (1, 1, (eget e 12)), (2, 1, (eget e 18))] M)) <|
 aYZ)
 (aX0 (pSK 3 2 19) <|
 aXZ)
noncomputable def f89 (c : CallF) (k : Nat) : St :=
 (bSeq (bReg (f89_r0 c))
 (bSeq (bReg (f89_r1 c))
 (bEx .ret)))
theorem f89_eq (c : CallF) (k : Nat) : exec cx c 20 f89_an k (Try.f89.body.getD .skip) = f89 c k := by kernel_rfl
/-! ### f90: loop.example/g01263/laws.toTally -/
def f90_an : Ann := ⟨[(0, r0 [1, 2]), (1, r0 [1, 2, 3]), (2, r0 [1, 2, 3]), (3, r0 [1, 2, 3]), (4, r0 [1, 2, 3]), (5, r0 [1, 2, 3]), (6, r0 [2, 3]), (7, r0 [2])], []⟩
noncomputable def f90_r0 (c : CallF) : RF := rg [1, 2] <| aX 1 (pBox 5 0) <|
 aX 2 (pAl 110 5) <|
 aXZ
noncomputable def f90_r1 (c : CallF) : RF := rg [1, 2, 3] <| aX 3 (pAl 110 5) <|
 aXZ
noncomputable def f90_r2 (c : CallF) : RF := rg [1, 2, 3] <| aX 4 (pF 0 1 1) <|
 aX 5 (pL false 1 4) <|
 aX 6 (pF 0 1 3) <|
 aX0 (pS 1 6 5) <|
 aXZ
noncomputable def f90_r3 (c : CallF) : RF := rg [1, 2, 3] <| aX 7 (pF 1 1 1) <|
 aX 8 (pL false 1 7) <|
 aX 9 (pF 1 1 3) <|
 aX0 (pS 1 9 8) <|
 aXZ
noncomputable def f90_r4 (c : CallF) : RF := rg [1, 2, 3] <| aX 10 (pF 2 1 1) <|
 aX 11 (pL false 1 10) <|
 aX 12 (pF 2 1 3) <|
 aX0 (pS 1 12 11) <|
 aXZ
noncomputable def f90_r5 (c : CallF) : RF := rg [1, 2, 3] <| aX 13 (pF 3 1 1) <|
 aX 14 (pL false 1 13) <|
 aX 15 (pF 3 1 3) <|
 aX0 (pS 1 15 14) <|
 aXZ
noncomputable def f90_r6 (c : CallF) : RF := rg [2, 3] <| aX 16 (pF 4 1 1) <|
 aX 17 (pL false 1 16) <|
 aX 18 (pF 4 1 3) <|
 aX0 (pS 1 18 17) <|
 aXZ
noncomputable def f90_r7 (c : CallF) : RF := rg [2] <| aX 19 (pL true 5 3) <|
 aX0 (pS 5 2 19) <|
 aXZ
noncomputable def f90 (c : CallF) (k : Nat) : St :=
 (bSeq (bReg (f90_r0 c))
 (bSeq (bReg (f90_r1 c))
 (bSeq (bReg (f90_r2 c))
 (bSeq (bReg (f90_r3 c))
 (bSeq (bReg (f90_r4 c))
 (bSeq (bReg (f90_r5 c))
 (bSeq (bReg (f90_r6 c))
 (bSeq (bReg (f90_r7 c))
 (bEx .ret)))))))))
theorem f90_eq (c : CallF) (k : Nat) : exec cx c 20 f90_an k (Try.f90.body.getD .skip) = f90 c k := by kernel_rfl
/-! ### f91: loop.example/g01263/impl.dealsCode -/
def f91_an : Ann := ⟨[(0, r0 [1, 2]), (1, r0 [1, 5]), (2, r0 [4]), (3, r0 [14]), (4, r0 [4]), (5, r0 [4])], []⟩
noncomputable def f91_r0 (c : CallF) : RF := rg [1, 2] <| aX 2 (pBox 3 0) <|
 aX 4 (pM (cn (.int .i64 0))) <|
 aXZ
noncomputable def f91_r1 (c : CallF) : RF := rg [1, 5] <| aX 6 (pL true 3 2) <|
 aX 7 (pK c false 120 [6]) <|
 aX 8 (pU .not 7) <|
 aX 9 (pM 8) <|
 aX 10 (pG 9 false (pM 1)) <|
 aX 11 (pG 9 false (pK c false 121 [10])) <|
 aX 12 (pG 9 false (pU .not 11)) <|
 aX 13 (pP 9 (cn (.bool true)) 12) <|
 aX 5 (pM 13) <|
 aXZ
noncomputable def f91_r2 (c : CallF) : RF := rg [4] <| aX 4 (pM (cn (.int .i64 1))) <|
 aXZ
noncomputable def f91_r3 (c : CallF) : RF := rg [14] <| aX 15 (pM 1) <|
 aX 16 (pLen 52 15) <|
 aX 17 (pB .gtr 3 16 (cn (.int .i64 80))) <|
 aX 14 (pM 17) <|
 aXZ
noncomputable def f91_r4 (c : CallF) : RF := rg [4] <| aX 4 (pM (cn (.int .i64 3))) <|
 aXZ
noncomputable def f91_r5 (c : CallF) : RF := rg [4] <| aX 4 (pM (cn (.int .i64 0))) <|
 aXZ
noncomputable def f91 (c : CallF) (k : Nat) : St :=
 (bSeq (bReg (f91_r0 c))
 (bSeq (bBlock 0 (bSeq (bReg (f91_r1 c))
 (bCond (.tmp 5) (bSeq (bReg (f91_r2 c))
 (bEx .ret)) (bSeq (bReg (f91_r3 c))
 (bCond (.tmp 14) (bSeq (bReg (f91_r4 c))
 (bEx .ret)) (bEx .nrm))))))
 (bSeq (bReg (f91_r5 c))
 (bEx .ret))))
theorem f91_eq (c : CallF) (k : Nat) : exec cx c 18 f91_an k (Try.f91.body.getD .skip) = f91 c k := by kernel_rfl
/-! ### f92: loop.example/g01263/impl.behind -/
def f92_an : Ann := ⟨[(0, r0 [1, 2, 4]), (1, r0 [2, 4, 6, 7]), (2, r0 [2, 4, 6, 7, 14]), (3, r0 [4, 5]), (4, r0 [2, 4, 6, 19]), (5, r0 [4, 5]), (6, r0 [4, 5])], []⟩
noncomputable def f92_r0 (c : CallF) : RF := rg [1, 2, 4] <| aX 2 (pBox 3 0) <|
 aX 4 (pAl 50 3) <|
 aX 5 (pM (cn (.int .i64 0))) <|
 aXZ
noncomputable def f92_r1 (c : CallF) : RF := rg [2, 4, 6, 7] <| aX 9 (pL true 3 2) <|
 aX 10 (pM 1) <|
 aX 11 (pK c false 122 [9, 10]) <|
 aX 8 (pM 11) <|
 aX 12 (pE 0 8) <|
 aX 13 (pE 1 8) <|
 aX 6 (pM 12) <|
 aX 7 (pM 13) <|
 aXZ
noncomputable def f92_r2 (c : CallF) : RF := rg [2, 4, 6, 7, 14] <| aX 15 (pM 7) <|
 aX 16 (pB .neq 2 15 (cn (.int .i64 0))) <|
 aX 14 (pM 16) <|
 aXZ
noncomputable def f92_r3 (c : CallF) : RF := rg [4, 5] <| aX 17 (fun n e M => keep (aBuild (zeroOf cx.P 50) [] M)) <|
 aX 18 (pM 7) <|
 aX0 (pS 3 4 17) <|
 aX 5 (pM 18) <|
 aXZ
noncomputable def f92_r4 (c : CallF) : RF := rg [2, 4, 6, 19] <| aX 20 (pM 6) <|
 aX 21 (pLen 105 20) <|
 aX 22 (pB .eql 3 21 (cn (.int .i64 0))) <|
 aX 19 (pM 22) <|
 aXZ
noncomputable def f92_r5 (c : CallF) : RF := rg [4, 5] <| aX 23 (pL true 3 2) <|
 aX 24 (pK c false 123 [23]) <|
 aX0 (pS 3 4 24) <|
 aX 5 (pM (cn (.int .i64 0))) <|
 aXZ
noncomputable def f92_r6 (c : CallF) : RF := rg [4, 5] <| aX 25 (pM 6) <|
 aX 26 (pM 6) <|
 aX 27 (pLen 105 26) <|
 aX 28 (pB .sub 3 27 (cn (.int .i64 1))) <|
 aX 29 (pI 3 25 28) <|
 aX 30 (pL true 3 29) <|
 aX0 (pS 3 4 30) <|
 aX 5 (pM (cn (.int .i64 0))) <|
 aXZ
noncomputable def f92 (c : CallF) (k : Nat) : St :=
 (bSeq (bReg (f92_r0 c))
 (bSeq (bReg (f92_r1 c))
 (bSeq (bBlock 0 (bSeq (bReg (f92_r2 c))
 (bCond (.tmp 14) (bSeq (bReg (f92_r3 c))
 (bEx .ret)) (bSeq (bReg (f92_r4 c))
 (bCond (.tmp 19) (bSeq (bReg (f92_r5 c))
 (bEx .ret)) (bEx .nrm))))))
 (bSeq (bReg (f92_r6 c))
 (bEx .ret)))))
theorem f92_eq (c : CallF) (k : Nat) : exec cx c 31 f92_an k (Try.f92.body.getD .skip) = f92 c k := by kernel_rfl
/-! ### f93: loop.example/g01263/laws.eqTally -/
def f93_an : Ann := ⟨[(0, r0 [2, 3]), (1, r0 [2, 3, 9]), (2, r0 [4]), (3, r0 [2, 3, 14]), (4, r0 [4]), (5, r0 [2, 3, 19]), (6, r0 [4]), (7, r0 [2, 3, 24]), (8, r0 [4]), (9, r0 [29]), (10, r0 [4]), (11, r0 [4])], []⟩
noncomputable def f93_r0 (c : CallF) : RF := rg [2, 3] <| aX 2 (pBox 5 0) <|
 aX 3 (pBox 5 1) <|
 aX 4 (pM (cn (.bool false))) <|
 aXZ
noncomputable def f93_r1 (c : CallF) : RF := rg [2, 3, 9] <| aX 5 (pF 0 1 2) <|
 aX 6 (pL false 1 5) <|
 aX 7 (pF 0 1 3) <|
 aX 8 (pL false 1 7) <|
 aX 9 (pB .neq 2 6 8) <|
 aXZ
noncomputable def f93_r2 (c : CallF) : RF := rg [4] <| aX 4 (pM (cn (.bool false))) <|
 aXZ
noncomputable def f93_r3 (c : CallF) : RF := rg [2, 3, 14] <| aX 10 (pF 1 1 2) <|
 aX 11 (pL false 1 10) <|
 aX 12 (pF 1 1 3) <|
 aX 13 (pL false 1 12) <|
 aX 14 (pB .neq 2 11 13) <|
 aXZ
noncomputable def f93_r4 (c : CallF) : RF := rg [4] <| aX 4 (pM (cn (.bool false))) <|
 aXZ
noncomputable def f93_r5 (c : CallF) : RF := rg [2, 3, 19] <| aX 15 (pF 2 1 2) <|
 aX 16 (pL false 1 15) <|
 aX 17 (pF 2 1 3) <|
 aX 18 (pL false 1 17) <|
 aX 19 (pB .neq 2 16 18) <|
 aXZ
noncomputable def f93_r6 (c : CallF) : RF := rg [4] <| aX 4 (pM (cn (.bool false))) <|
 aXZ
noncomputable def f93_r7 (c : CallF) : RF := rg [2, 3, 24] <| aX 20 (pF 3 1 2) <|
 aX 21 (pL false 1 20) <|
 aX 22 (pF 3 1 3) <|
 aX 23 (pL false 1 22) <|
 aX 24 (pB .neq 2 21 23) <|
 aXZ
noncomputable def f93_r8 (c : CallF) : RF := rg [4] <| aX 4 (pM (cn (.bool false))) <|
 aXZ
noncomputable def f93_r9 (c : CallF) : RF := rg [29] <| aX 25 (pF 4 1 2) <|
 aX 26 (pL false 1 25) <|
 aX 27 (pF 4 1 3) <|
 aX 28 (pL false 1 27) <|
 aX 29 (pB .neq 2 26 28) <|
 aXZ
noncomputable def f93_r10 (c : CallF) : RF := rg [4] <| aX 4 (pM (cn (.bool false))) <|
 aXZ
noncomputable def f93_r11 (c : CallF) : RF := rg [4] <| aX 4 (pM (cn (.bool true))) <|
 aXZ
noncomputable def f93 (c : CallF) (k : Nat) : St :=
 (bSeq (bReg (f93_r0 c))
 (bSeq (bSeq (bReg (f93_r1 c))
 (bCond (.tmp 9) (bSeq (bReg (f93_r2 c))
 (bEx .ret)) (bEx .nrm)))
 (bSeq (bSeq (bReg (f93_r3 c))
 (bCond (.tmp 14) (bSeq (bReg (f93_r4 c))
 (bEx .ret)) (bEx .nrm)))
 (bSeq (bSeq (bReg (f93_r5 c))
 (bCond (.tmp 19) (bSeq (bReg (f93_r6 c))
 (bEx .ret)) (bEx .nrm)))
 (bSeq (bSeq (bReg (f93_r7 c))
 (bCond (.tmp 24) (bSeq (bReg (f93_r8 c))
 (bEx .ret)) (bEx .nrm)))
 (bSeq (bSeq (bReg (f93_r9 c))
 (bCond (.tmp 29) (bSeq (bReg (f93_r10 c))
 (bEx .ret)) (bEx .nrm)))
 (bSeq (bReg (f93_r11 c))
 (bEx .ret))))))))
theorem f93_eq (c : CallF) (k : Nat) : exec cx c 30 f93_an k (Try.f93.body.getD .skip) = f93 c k := by kernel_rfl
/-! ### f117: loop.example/g01263/spec.l07Ok -/
def f117_an : Ann := ⟨[(0, r0 [0]), (1, r0 [0, 27]), (2, r0 [2]), (3, r0 [0, 3]), (4, r0 [0, 3, 4]), (5, r0 [0, 3, 4, 39]), (6, r0 [0, 3, 4]), (7, r0 [0, 3, 4, 5]), (8, r0 [0, 3, 4, 5, 95]), (9, r0 [2]), (10, r0 [0, 3, 4, 131]), (11, r0 [2]), (12, r0 [2])], [(5, [0, 3, 4])]⟩
noncomputable def f117_r0 (c : CallF) : RF := rg [0] <| aX 2 (pM (cn (.bool false))) <|
 aXZ
noncomputable def f117_r1 (c : CallF) : RF := rg [0, 27] <| aX 6 (pM 0) <|
 aX 7 (pN 6) <|
 aX 8 (pF 0 1 7) <|
 aX 9 (pL false 1 8) <|
 aX 10 (pK c false 143 [9]) <|
 aX 11 (pU .not 10) <|
 aX 12 (pM 11) <|
 aX 13 (pG 12 false (pM 0)) <|
 aX 14 (pG 12 false (pN 13)) <|
 aX 15 (pG 12 false (pF 1 1 14)) <|
 aX 16 (pG 12 false (pL false 1 15)) <|
 aX 17 (pG 12 false (pK c false 144 [16])) <|
 aX 18 (pG 12 false (pU .not 17)) <|
 aX 19 (pP 12 (cn (.bool true)) 18) <|
 aX 20 (pM 19) <|
 aX 21 (pG 20 false (pM 0)) <|
 aX 22 (pG 20 false (pN 21)) <|
 aX 23 (pG 20 false (pF 2 1 22)) <|
 aX 24 (pG 20 false (pL false 1 23)) <|
 aX 25 (pG 20 false (pLen 48 24)) <|
 aX 26 (pG 20 false (pB .gtr 3 25 (cn (.int .i64 40)))) <|
 aX 27 (pP 20 (cn (.bool true)) 26) <|
 aXZ
noncomputable def f117_r2 (c : CallF) : RF := rg [2] <| aX 2 (pM (cn (.bool false))) <|
 aXZ
noncomputable def f117_r3 (c : CallF) : RF := rg [0, 3] <| aX 28 (pM 0) <|
 aX 29 (pN 28) <|
 aX 30 (pF 1 1 29) <|
 aX 31 (pL false 1 30) <|
 aX 32 (pLen 24 31) <|
 aX 3 (pM 32) <|
 aXZ
noncomputable def f117_r4 (c : CallF) : RF := rg [0, 3, 4] <| aX 4 (pM (cn (.int .i64 0))) <|
 aXZ
noncomputable def f117_r5 (c : CallF) : RF := rg [0, 3, 4, 39] <| aX 33 (pM 4) <|
 aX 34 (pM 0) <|
 aX 35 (pN 34) <|
 aX 36 (pF 2 1 35) <|
 aX 37 (pL false 1 36) <|
 aX 38 (pLen 48 37) <|
 aX 39 (pB .lss 3 33 38) <|
 aXZ
noncomputable def f117_r6 (c : CallF) : RF := rg [0, 3, 4] <| aX 40 (pM 4) <|
 aX 41 (pB .add 3 40 (cn (.int .i64 1))) <|
 aX 4 (pM 41) <|
 aXZ
noncomputable def f117_r7 (c : CallF) : RF := rg [0, 3, 4, 5] <| aX 42 (pM 0) <|
 aX 43 (pN 42) <|
 aX 44 (pF 2 1 43) <|
 aX 45 (pL false 1 44) <|
 aX 46 (pM 4) <|
 aX 47 (pI 5 45 46) <|
 aX 5 (pM 47) <|
 aXZ
noncomputable def f117_r8 (c : CallF) : RF := rgD [0, 3, 4, 5, 95] (aY 48 (pM 3) <|
 aY 49 (pM 5) <|
 aY 50 (pN 49) <|
 aY 51 (pF 0 1 50) <|
 aY 52 (pL false 1 51) <|
 aY 53 (pK c false 145 [48, 52]) <|
 aY 54 (pU .not 53) <|
 aY 55 (pM 54) <|
 aY 56 (pG 55 false (pM 3)) <|
 aY 57 (pG 55 false (pM 5)) <|
 aY 58 (pG 55 false (pN 57)) <|
 aY 59 (pG 55 false (pF 1 1 58)) <|
 aY 60 (pG 55 false (pL false 1 59)) <|
 aY 61 (pG 55 false (pK c false 145 [56, 60])) <|
 aY 62 (pG 55 false (pU .not 61)) <|
 aY 63 (pP 55 (cn (.bool true)) 62) <|
 aY 64 (pM 63) <|
 aY 65 (pG 64 false (pM 5)) <|
 aY 66 (pG 64 false (pN 65)) <|
 aY 67 (pG 64 false (pF 2 1 66)) <|
 aY 68 (pG 64 false (pL false 1 67)) <|
 aY 69 (pG 64 false (pM 0)) <|
 aY 70 (pG 64 false (pN 69)) <|
 aY 71 (pG 64 false (pF 0 1 70)) <|
 aY 72 (pG 64 false (pL false 1 71)) <|
 aY 73 (pG 64 false (pK c false 69 [68, (cn (.int .i64 0)), 72])) <|
 aY 74 (pG 64 false (pU .not 73)) <|
 aY 75 (pP 64 (cn (.bool true)) 74) <|
 aY 76 (pM 75) <|
 aY 77 (pG 76 false (pM 5)) <|
 aY 78 (pG 76 false (pN 77)) <|
 aY 79 (pG 76 false (pF 3 1 78)) <|
 aY 80 (pG 76 false (pL false 1 79)) <|
 aY 81 (pG 76 false (pK c false 69 [80, (cn (.int .i64 1)), (cn (.int .i64 100000000))])) <|
 aY 82 (pG 76 false (pU .not 81)) <|
 aY 83 (pP 76 (cn (.bool true)) 82) <|
 aY 84 (pM 83) <|
 aY 85 (pG 84 false (pM 5)) <|
 aY 86 (pG 84 false (pN 85)) <|
 aY 87 (pG 84 false (pF 4 1 86)) <|
 aY 88 (pG 84 false (pL false 1 87)) <|
 aY 89 (pG 84 false (pM 5)) <|
 aY 90 (pG 84 false (pN 89)) <|
 aY 91 (pG 84 false (pF 3 1 90)) <|
 aY 92 (pG 84 false (pL false 1 91)) <|
 aY 93 (pG 84 false (pK c false 69 [88, (cn (.int .i64 0)), 92])) <|
 aY 94 (pG 84 false (pU .not 93)) <|
 aY 95 (pP 84 (cn (.bool true)) 94) <|
 aYZ)
 (aXZ)
noncomputable def f117_r9 (c : CallF) : RF := rg [2] <| aX 2 (pM (cn (.bool false))) <|
 aXZ
noncomputable def f117_r10 (c : CallF) : RF := rgD [0, 3, 4, 131] (aY 96 (pM 5) <|
 aY 97 (pN 96) <|
 aY 98 (pF 0 1 97) <|
 aY 99 (pL false 1 98) <|
 aY 100 (pM 5) <|
 aY 101 (pN 100) <|
 aY 102 (pF 1 1 101) <|
 aY 103 (pL false 1 102) <|
 aY 104 (pB .eql 2 99 103) <|
 aY 105 (pM 104) <|
 aY 106 (pG 105 true (pM 5)) <|
 aY 107 (pG 105 true (pN 106)) <|
 aY 108 (pG 105 true (pF 4 1 107)) <|
 aY 109 (pG 105 true (pL false 1 108)) <|
 aY 110 (pG 105 true (pB .neq 2 109 (cn (.int .i64 0)))) <|
 aY 111 (pP 105 110 (cn (.bool false))) <|
 aY 112 (pM 111) <|
 aY 113 (pG 112 false (pM 4)) <|
 aY 114 (pG 112 false (pB .gtr 3 113 (cn (.int .i64 0)))) <|
 aY 115 (pG 112 false (pM 114)) <|
 aY 116 (pG 115 true (pM 5)) <|
 aY 117 (pG 115 true (pN 116)) <|
 aY 118 (pG 115 true (pF 2 1 117)) <|
 aY 119 (pG 115 true (pL false 1 118)) <|
 aY 120 (pG 115 true (pM 0)) <|
 aY 121 (pG 115 true (pN 120)) <|
 aY 122 (pG 115 true (pF 2 1 121)) <|
 aY 123 (pG 115 true (pL false 1 122)) <|
 aY 124 (pG 115 true (pM 4)) <|
 aY 125 (pG 115 true (pB .sub 3 124 (cn (.int .i64 1)))) <|
 aY 126 (pG 115 true (pI 5 123 125)) <|
 aY 127 (pG 115 true (pF 2 1 126)) <|
 aY 128 (pG 115 true (pL false 1 127)) <|
 aY 129 (pG 115 true (pB .lss 2 119 128)) <|
 aY 130 (pG 112 false (pP 115 129 (cn (.bool false)))) <|
 aY 131 (pP 112 (cn (.bool true)) 130) <|
 aYZ)
 (aXZ)
noncomputable def f117_r11 (c : CallF) : RF := rg [2] <| aX 2 (pM (cn (.bool false))) <|
 aXZ
noncomputable def f117_r12 (c : CallF) : RF := rg [2] <| aX 2 (pM (cn (.bool true))) <|
 aXZ
noncomputable def f117_l5 (c : CallF) (k : Nat) : St :=
 (bSeq (bSeq (bReg (f117_r5 c))
 (bCond (.tmp 39) (bEx .nrm) (bEx (.ext 0))))
 (bSeq (bBlock 1 (bSeq (bReg (f117_r7 c))
 (bSeq (bSeq (bReg (f117_r8 c))
 (bCond (.tmp 95) (bSeq (bReg (f117_r9 c))
 (bEx .ret)) (bEx .nrm)))
 (bSeq (bReg (f117_r10 c))
 (bCond (.tmp 131) (bSeq (bReg (f117_r11 c))
 (bEx .ret)) (bEx .nrm))))))
 (bReg (f117_r6 c))))
noncomputable def f117 (c : CallF) (k : Nat) : St :=
 (bSeq (bReg (f117_r0 c))
 (bSeq (bSeq (bReg (f117_r1 c))
 (bCond (.tmp 27) (bSeq (bReg (f117_r2 c))
 (bEx .ret)) (bEx .nrm)))
 (bSeq (bReg (f117_r3 c))
 (bSeq (bSeq (bReg (f117_r4 c))
 (bBlock 0 (bLoop [0, 3, 4] (f117_l5 c k) k)))
 (bSeq (bReg (f117_r12 c))
 (bEx .ret))))))
theorem f117_eq (c : CallF) (k : Nat) : exec cx c 132 f117_an k (Try.f117.body.getD .skip) = f117 c k := by kernel_rfl
/-! ### f118: loop.example/g01263/spec.l07Deals -/
def f118_an : Ann := ⟨[(0, r0 [0]), (1, r0 [0, 3]), (2, r0 [0, 3, 7]), (3, r0 [0, 3]), (4, r0 [0, 3, 14]), (5, r0 [2]), (6, r0 [2])], [(2, [0, 3])]⟩
noncomputable def f118_r0 (c : CallF) : RF := rg [0] <| aX 2 (pM (cn (.bool false))) <|
 aXZ
noncomputable def f118_r1 (c : CallF) : RF := rg [0, 3] <| aX 3 (pM (cn (.int .i64 0))) <|
 aXZ
noncomputable def f118_r2 (c : CallF) : RF := rg [0, 3, 7] <| aX 4 (pM 3) <|
 aX 5 (pM 0) <|
 aX 6 (pLen 52 5) <|
 aX 7 (pB .lss 3 4 6) <|
 aXZ
noncomputable def f118_r3 (c : CallF) : RF := rg [0, 3] <| aX 8 (pM 3) <|
 aX 9 (pB .add 3 8 (cn (.int .i64 1))) <|
 aX 3 (pM 9) <|
 aXZ
noncomputable def f118_r4 (c : CallF) : RF := rg [0, 3, 14] <| aX 10 (pM 0) <|
 aX 11 (pM 3) <|
 aX 12 (pI 6 10 11) <|
 aX 13 (pK c false 146 [12]) <|
 aX 14 (pU .not 13) <|
 aXZ
noncomputable def f118_r5 (c : CallF) : RF := rg [2] <| aX 2 (pM (cn (.bool false))) <|
 aXZ
noncomputable def f118_r6 (c : CallF) : RF := rg [2] <| aX 2 (pM (cn (.bool true))) <|
 aXZ
noncomputable def f118_l2 (c : CallF) (k : Nat) : St :=
 (bSeq (bSeq (bReg (f118_r2 c))
 (bCond (.tmp 7) (bEx .nrm) (bEx (.ext 0))))
 (bSeq (bBlock 1 (bSeq (bReg (f118_r4 c))
 (bCond (.tmp 14) (bSeq (bReg (f118_r5 c))
 (bEx .ret)) (bEx .nrm))))
 (bReg (f118_r3 c))))
noncomputable def f118 (c : CallF) (k : Nat) : St :=
 (bSeq (bReg (f118_r0 c))
 (bSeq (bSeq (bReg (f118_r1 c))
 (bBlock 0 (bLoop [0, 3] (f118_l2 c k) k)))
 (bSeq (bReg (f118_r6 c))
 (bEx .ret))))
theorem f118_eq (c : CallF) (k : Nat) : exec cx c 15 f118_an k (Try.f118.body.getD .skip) = f118 c k := by kernel_rfl
/-! ### f119: loop.example/g01263/spec.l07Do -/
def f119_an : Ann := ⟨[(0, r0 [0, 1, 4]), (1, r0 [0, 1, 4, 6]), (2, r0 [0, 1, 4, 6, 13]), (3, r0 [4, 5]), (4, ⟨[], [1], [], [], [1, 4, 7]⟩), (5, r0 [1, 4, 7]), (6, r0 [1, 4, 7, 27]), (7, ⟨[24], [], [], [24, 25, 26], [4, 7]⟩), (8, r0 [4, 5]), (9, r0 [1, 4, 7, 8]), (10, r0 [1, 4, 7, 8, 65]), (11, r0 [1, 4, 7, 8, 65, 66]), (12, r0 [4, 7, 8]), (13, r0 [4, 7, 8, 83]), (14, r0 [4, 7]), (15, r0 [1, 4, 7, 8, 65, 87]), (16, ⟨[], [], [], [14], [1, 4, 7, 8]⟩), (17, ⟨[], [], [], [14], [1, 4, 7, 8]⟩), (18, ⟨[], [], [], [11], [4, 7]⟩), (19, r0 [4, 7, 8, 128]), (20, r0 [4, 7]), (21, r0 [4, 5])], []⟩
noncomputable def f119_r0 (c : CallF) : RF := rg [0, 1, 4] <| aX 4 (pAl 50 3) <|
 aX 5 (pM (cn (.int .i64 0))) <|
 aXZ
noncomputable def f119_r1 (c : CallF) : RF := rg [0, 1, 4, 6] <| aX 9 (pM 0) <|
 aX 10 (pM 1) <|
 aX 11 (pK c false 147 [9, 10]) <|
 aX 6 (pM 11) <|
 aXZ
noncomputable def f119_r2 (c : CallF) : RF := rg [0, 1, 4, 6, 13] <| aX 12 (pM 6) <|
 aX 13 (pB .neq 2 12 (cn (.int .i64 0))) <|
 aXZ
noncomputable def f119_r3 (c : CallF) : RF := rg [4, 5] <| aX 14 (fun n e M => keep (aBuild (zeroOf cx.P 50) [] M)) <|
 aX 15 (pM 6) <|
 aX0 (pS 3 4 14) <|
 aX 5 (pM 15) <|
 aXZ
noncomputable def f119_r4 (c : CallF) : RF := rg [1, 4, 7] <| aX 16 (pM 0) <|
 aX 17 (pK c true 89 [16]) <|
 aX 7 (pAl 50 3) <|
 aX0 (pS 3 7 17) <|
 aXZ
noncomputable def f119_r5 (c : CallF) : RF := rg [1, 4, 7] <| aX 18 (pM 1) <|
 aX 19 (pN 18) <|
 aX 20 (pF 0 1 19) <|
 aX 21 (pL false 1 20) <|
 aX 22 (pF 0 1 7) <|
 aX0 (pS 1 22 21) <|
 aXZ
noncomputable def f119_r6 (c : CallF) : RF := rg [1, 4, 7, 27] <| aX 23 (pM 1) <|
 aX 24 (pN 23) <|
 aX 25 (pF 1 1 24) <|
 aX 26 (pL false 1 25) <|
 aX 27 (pB .eql 58 26 (cn (.int .i8 1))) <|
 aXZ
noncomputable def f119_r7 (c : CallF) : RF := rgD [4, 7] (aY 28 (pF 2 1 7) <|
 aY 29 (pL false 1 28) <|
 aY 30 (pM 1) <|
 aY 31 (pN 30) <|
 aY 32 (pF 3 1 31) <|
 aY 33 (pL false 1 32) <|
 aY 34 (pM 1) <|
 aY 35 (pN 34) <|
 aY 36 (pF 4 1 35) <|
 aY 37 (pL false 1 36) <|
 aY 38 (pM 1) <|
 aY 39 (pN 38) <|
 aY 40 (pF 0 1 39) <|
 aY 41 (pL false 1 40) <|
 aY 42 (pM 1) <|
 aY 43 (pN 42) <|
 aY 44 (pF 5 1 43) <|
 aY 45 (pL false 1 44) <|
 aY 46 (pM 1) <|
 aY 47 (pN 46) <|
 aY 48 (pF 5 1 47) <|
 aY 49 (pL false 1 48) <|
 aY 50 (fun n e M => keep (aBuild (zeroOf cx.P 110) [(0, 1, (eget e 33)), (1, 1, (eget e 37)), (2, 1, (eget e 41)), (3, 1, (eget e 45)), (4, 1, (eget e 49))] M)) <|
 aY 51 (fun n e M => keep (aLitI 110 5 [(eget e 50)] M)) <|
 aYZ)
 (aX 52 (fun n e M => aAppO n 110 5 40 (eget e 29) (eget e 51) M) <|
 aX 53 (pF 2 1 7) <|
 aX0 (pS 1 53 52) <|
 aXZ)
noncomputable def f119_r8 (c : CallF) : RF := rg [4, 5] <| aX 54 (pL true 3 7) <|
 aX0 (pS 3 4 54) <|
 aX 5 (pM (cn (.int .i64 0))) <|
 aXZ
noncomputable def f119_r9 (c : CallF) : RF := rgD [1, 4, 7, 8] (aY 55 (pF 2 1 7) <|
 aY 56 (pL false 1 55) <|
 aY 57 (pM 1) <|
 aY 58 (pN 57) <|
 aY 59 (pF 2 1 58) <|
 aY 60 (pL false 1 59) <|
 aY 61 (pI 5 56 60) <|
 aY 8 (pM 61) <|
 aYZ)
 (aXZ)
noncomputable def f119_r10 (c : CallF) : RF := rg [1, 4, 7, 8, 65] <| aX 62 (pM 1) <|
 aX 63 (pN 62) <|
 aX 64 (pF 1 1 63) <|
 aX 65 (pL false 1 64) <|
 aXZ
noncomputable def f119_r11 (c : CallF) : RF := rg [1, 4, 7, 8, 65, 66] <| aX 67 (pB .eql 58 65 (cn (.int .i8 2))) <|
 aX 66 (pM 67) <|
 aXZ
noncomputable def f119_r12 (c : CallF) : RF := rg [4, 7, 8] <| aX 68 (pM 8) <|
 aX 69 (pM 1) <|
 aX 70 (pN 69) <|
 aX 71 (pF 4 1 70) <|
 aX 72 (pL false 1 71) <|
 aX 73 (pN 68) <|
 aX 74 (pF 1 1 73) <|
 aX0 (pS 1 74 72) <|
 aXZ
noncomputable def f119_r13 (c : CallF) : RF := rgD [4, 7, 8, 83] (aY 75 (pM 8) <|
 aY 76 (pN 75) <|
 aY 77 (pF 1 1 76) <|
 aY 78 (pL false 1 77) <|
 aY 79 (pM 8) <|
 aY 80 (pN 79) <|
 aY 81 (pF 0 1 80) <|
 aY 82 (pL false 1 81) <|
 aY 83 (pB .eql 2 78 82) <|
 aYZ)
 (aXZ)
noncomputable def f119_r14 (c : CallF) : RF := rg [4, 7] <| aX 84 (pM 8) <|
 aX 85 (pN 84) <|
 aX 86 (pF 4 1 85) <|
 aX0 (pS 1 86 (cn (.int .i64 0))) <|
 aXZ
noncomputable def f119_r15 (c : CallF) : RF := rg [1, 4, 7, 8, 65, 87] <| aX 88 (pB .eql 58 65 (cn (.int .i8 3))) <|
 aX 87 (pM 88) <|
 aXZ
noncomputable def f119_r16 (c : CallF) : RF := rgD [1, 4, 7, 8] (aY 89 (pF 1 1 7) <|
 aY 90 (pL false 1 89) <|
 aY 91 (pM 8) <|
 aY 92 (pN 91) <|
 aY 93 (pF 0 1 92) <|
 aY 94 (pL false 1 93) <|
 aY 95 (pI 1 90 94) <|
 aY 96 (pL false 1 95) <|
 aY 97 (pM 1) <|
 aY 98 (pN 97) <|
 aY 99 (pF 5 1 98) <|
 aY 100 (pL false 1 99) <|
 aY 101 (pB .sub 2 96 100) <|
 aY 102 (pI 1 90 94) <|
 aYZ)
 (aX0 (pS 1 102 101) <|
 aXZ)
noncomputable def f119_r17 (c : CallF) : RF := rgD [1, 4, 7, 8] (aY 103 (pF 1 1 7) <|
 aY 104 (pL false 1 103) <|
 aY 105 (pM 8) <|
 aY 106 (pN 105) <|
 aY 107 (pF 1 1 106) <|
 aY 108 (pL false 1 107) <|
 aY 109 (pI 1 104 108) <|
 aY 110 (pL false 1 109) <|
 aY 111 (pM 1) <|
 aY 112 (pN 111) <|
 aY 113 (pF 5 1 112) <|
 aY 114 (pL false 1 113) <|
 aY 115 (pB .add 2 110 114) <|
 aY 116 (pI 1 104 108) <|
 aYZ)
 (aX0 (pS 1 116 115) <|
 aXZ)
noncomputable def f119_r18 (c : CallF) : RF := rgD [4, 7] (aY 117 (pM 8) <|
 aY 118 (pN 117) <|
 aY 119 (pF 4 1 118) <|
 aY 120 (pL false 1 119) <|
 aY 121 (pM 1) <|
 aY 122 (pN 121) <|
 aY 123 (pF 5 1 122) <|
 aY 124 (pL false 1 123) <|
 aY 125 (pB .sub 2 120 124) <|
 aY 126 (pN 117) <|
 aY 127 (pF 4 1 126) <|
 aYZ)
 (aX0 (pS 1 127 125) <|
 aXZ)
noncomputable def f119_r19 (c : CallF) : RF := rg [4, 7, 8, 128] <| aX 129 (pB .eql 58 65 (cn (.int .i8 4))) <|
 aX 128 (pM 129) <|
 aXZ
noncomputable def f119_r20 (c : CallF) : RF := rg [4, 7] <| aX 130 (pM 8) <|
 aX 131 (pN 130) <|
 aX 132 (pF 4 1 131) <|
 aX0 (pS 1 132 (cn (.int .i64 0))) <|
 aXZ
noncomputable def f119_r21 (c : CallF) : RF := rg [4, 5] <| aX 133 (pL true 3 7) <|
 aX0 (pS 3 4 133) <|
 aX 5 (pM (cn (.int .i64 0))) <|
 aXZ
noncomputable def f119 (c : CallF) (k : Nat) : St :=
 (bSeq (bReg (f119_r0 c))
 (bSeq (bSeq (bReg (f119_r1 c))
 (bSeq (bReg (f119_r2 c))
 (bCond (.tmp 13) (bSeq (bReg (f119_r3 c))
 (bEx .ret)) (bEx .nrm))))
 (bSeq (bReg (f119_r4 c))
 (bSeq (bReg (f119_r5 c))
 (bSeq (bSeq (bReg (f119_r6 c))
 (bCond (.tmp 27) (bSeq (bReg (f119_r7 c))
 (bSeq (bReg (f119_r8 c))
 (bEx .ret))) (bEx .nrm)))
 (bSeq (bReg (f119_r9 c))
 (bSeq (bSeq (bReg (f119_r10 c))
 (bBlock 0 (bSeq (bReg (f119_r11 c))
 (bCond (.tmp 66) (bSeq (bReg (f119_r12 c))
 (bSeq (bReg (f119_r13 c))
 (bCond (.tmp 83) (bReg (f119_r14 c)) (bEx .nrm)))) (bSeq (bReg (f119_r15 c))
 (bCond (.tmp 87) (bSeq (bReg (f119_r16 c))
 (bSeq (bReg (f119_r17 c))
 (bReg (f119_r18 c)))) (bSeq (bReg (f119_r19 c))
 (bCond (.tmp 128) (bReg (f119_r20 c)) (bEx .nrm)))))))))
 (bSeq (bReg (f119_r21 c))
 (bEx .ret)))))))))
theorem f119_eq (c : CallF) (k : Nat) : exec cx c 134 f119_an k (Try.f119.body.getD .skip) = f119 c k := by kernel_rfl
/-! ### f120: loop.example/g01263/impl.ValidBook -/
def f120_an : Ann := ⟨[(0, r0 [1]), (1, r0 [1, 3]), (2, r0 [1, 3, 29]), (3, r0 [2]), (4, r0 [1, 3, 31, 32, 33]), (5, r0 [1, 3, 31, 32, 33, 34]), (6, r0 [1, 3, 5, 31, 32, 33]), (7, r0 [1, 3, 31, 32, 33, 39]), (8, r0 [2]), (9, r0 [1, 3, 31, 32, 33]), (10, r0 [1, 3, 6]), (11, r0 [1, 3, 6, 42, 43, 44]), (12, r0 [1, 3, 6, 42, 43, 44, 45]), (13, r0 [1, 3, 6, 8, 42, 43, 44]), (14, r0 [1, 3, 8, 42, 43, 44, 102]), (15, r0 [2]), (16, r0 [1, 3, 6, 42, 43, 44]), (17, r0 [1, 3, 6, 42, 43, 44]), (18, r0 [2])], [(5, [1, 3, 31, 32, 33]), (12, [1, 3, 6, 42, 43, 44])]⟩
noncomputable def f120_r0 (c : CallF) : RF := rg [1] <| aX 1 (pBox 3 0) <|
 aX 2 (pM (cn (.bool false))) <|
 aXZ
noncomputable def f120_r1 (c : CallF) : RF := rg [1, 3] <| aX 9 (pF 1 1 1) <|
 aX 10 (pL false 1 9) <|
 aX 11 (pLen 24 10) <|
 aX 3 (pM 11) <|
 aXZ
noncomputable def f120_r2 (c : CallF) : RF := rg [1, 3, 29] <| aX 12 (pF 0 1 1) <|
 aX 13 (pL false 1 12) <|
 aX 14 (pK c false 148 [13]) <|
 aX 15 (pU .not 14) <|
 aX 16 (pM 15) <|
 aX 17 (pG 16 false (pM 3)) <|
 aX 18 (pG 16 false (pB .lss 2 17 (cn (.int .i64 1)))) <|
 aX 19 (pP 16 (cn (.bool true)) 18) <|
 aX 20 (pM 19) <|
 aX 21 (pG 20 false (pM 3)) <|
 aX 22 (pG 20 false (pB .gtr 2 21 (cn (.int .i64 16)))) <|
 aX 23 (pP 20 (cn (.bool true)) 22) <|
 aX 24 (pM 23) <|
 aX 25 (pG 24 false (pF 2 1 1)) <|
 aX 26 (pG 24 false (pL false 1 25)) <|
 aX 27 (pG 24 false (pLen 48 26)) <|
 aX 28 (pG 24 false (pB .gtr 3 27 (cn (.int .i64 40)))) <|
 aX 29 (pP 24 (cn (.bool true)) 28) <|
 aXZ
noncomputable def f120_r3 (c : CallF) : RF := rg [2] <| aX 2 (pM (cn (.bool false))) <|
 aXZ
noncomputable def f120_r4 (c : CallF) : RF := rg [1, 3, 31, 32, 33] <| aX 30 (pF 1 1 1) <|
 aX 31 (pL false 1 30) <|
 aX 32 (pLen 24 31) <|
 aX 33 (pM (cn (.int .i64 0))) <|
 aXZ
noncomputable def f120_r5 (c : CallF) : RF := rg [1, 3, 31, 32, 33, 34] <| aX 34 (pB .lss 3 33 32) <|
 aXZ
noncomputable def f120_r6 (c : CallF) : RF := rg [1, 3, 5, 31, 32, 33] <| aX 35 (pI 1 31 33) <|
 aX 36 (pL false 1 35) <|
 aX 5 (pM 36) <|
 aXZ
noncomputable def f120_r7 (c : CallF) : RF := rg [1, 3, 31, 32, 33, 39] <| aX 37 (pM 5) <|
 aX 38 (pK c false 76 [37]) <|
 aX 39 (pU .not 38) <|
 aXZ
noncomputable def f120_r8 (c : CallF) : RF := rg [2] <| aX 2 (pM (cn (.bool false))) <|
 aXZ
noncomputable def f120_r9 (c : CallF) : RF := rg [1, 3, 31, 32, 33] <| aX 40 (pB .add 3 33 (cn (.int .i64 1))) <|
 aX 33 (pM 40) <|
 aXZ
noncomputable def f120_r10 (c : CallF) : RF := rg [1, 3, 6] <| aX 6 (pM (cn (.int .i64 0))) <|
 aXZ
noncomputable def f120_r11 (c : CallF) : RF := rg [1, 3, 6, 42, 43, 44] <| aX 41 (pF 2 1 1) <|
 aX 42 (pL false 1 41) <|
 aX 43 (pLen 48 42) <|
 aX 44 (pM (cn (.int .i64 0))) <|
 aXZ
noncomputable def f120_r12 (c : CallF) : RF := rg [1, 3, 6, 42, 43, 44, 45] <| aX 45 (pB .lss 3 44 43) <|
 aXZ
noncomputable def f120_r13 (c : CallF) : RF := rg [1, 3, 6, 8, 42, 43, 44] <| aX 46 (pI 5 42 44) <|
 aX 47 (pL true 5 46) <|
 aX 8 (pAl 110 5) <|
 aX0 (pS 5 8 47) <|
 aXZ
noncomputable def f120_r14 (c : CallF) : RF := rg [1, 3, 8, 42, 43, 44, 102] <| aX 48 (pM 3) <|
 aX 49 (pF 0 1 8) <|
 aX 50 (pL false 1 49) <|
 aX 51 (pF 1 1 8) <|
 aX 52 (pL false 1 51) <|
 aX 53 (fun n e M => keep (aLitI 2 1 [(eget e 50), (eget e 52)] M)) <|
 aX 54 (pK c false 149 [48, 53]) <|
 aX 55 (pU .not 54) <|
 aX 56 (pM 55) <|
 aX 57 (pG 56 false (pF 2 1 8)) <|
 aX 58 (pG 56 false (pL false 1 57)) <|
 aX 59 (pG 56 false (pM 6)) <|
 aX 60 (pG 56 false (pB .lss 2 58 59)) <|
 aX 61 (pP 56 (cn (.bool true)) 60) <|
 aX 62 (pM 61) <|
 aX 63 (pG 62 false (pF 2 1 8)) <|
 aX 64 (pG 62 false (pL false 1 63)) <|
 aX 65 (pG 62 false (pF 0 1 1)) <|
 aX 66 (pG 62 false (pL false 1 65)) <|
 aX 67 (pG 62 false (pB .gtr 2 64 66)) <|
 aX 68 (pP 62 (cn (.bool true)) 67) <|
 aX 69 (pM 68) <|
 aX 70 (pG 69 false (pF 3 1 8)) <|
 aX 71 (pG 69 false (pL false 1 70)) <|
 aX 72 (pG 69 false (pB .lss 2 71 (cn (.int .i64 1)))) <|
 aX 73 (pP 69 (cn (.bool true)) 72) <|
 aX 74 (pM 73) <|
 aX 75 (pG 74 false (pF 3 1 8)) <|
 aX 76 (pG 74 false (pL false 1 75)) <|
 aX 77 (pG 74 false (pB .gtr 2 76 (cn (.int .i64 100000000)))) <|
 aX 78 (pP 74 (cn (.bool true)) 77) <|
 aX 79 (pM 78) <|
 aX 80 (pG 79 false (pF 4 1 8)) <|
 aX 81 (pG 79 false (pL false 1 80)) <|
 aX 82 (pG 79 false (pB .lss 2 81 (cn (.int .i64 0)))) <|
 aX 83 (pP 79 (cn (.bool true)) 82) <|
 aX 84 (pM 83) <|
 aX 85 (pG 84 false (pF 4 1 8)) <|
 aX 86 (pG 84 false (pL false 1 85)) <|
 aX 87 (pG 84 false (pF 3 1 8)) <|
 aX 88 (pG 84 false (pL false 1 87)) <|
 aX 89 (pG 84 false (pB .gtr 2 86 88)) <|
 aX 90 (pP 84 (cn (.bool true)) 89) <|
 aX 91 (pM 90) <|
 aX 92 (pG 91 false (pF 0 1 8)) <|
 aX 93 (pG 91 false (pL false 1 92)) <|
 aX 94 (pG 91 false (pF 1 1 8)) <|
 aX 95 (pG 91 false (pL false 1 94)) <|
 aX 96 (pG 91 false (pB .eql 2 93 95)) <|
 aX 97 (pG 91 false (pM 96)) <|
 aX 98 (pG 97 true (pF 4 1 8)) <|
 aX 99 (pG 97 true (pL false 1 98)) <|
 aX 100 (pG 97 true (pB .neq 2 99 (cn (.int .i64 0)))) <|
 aX 101 (pG 91 false (pP 97 100 (cn (.bool false)))) <|
 aX 102 (pP 91 (cn (.bool true)) 101) <|
 aXZ
noncomputable def f120_r15 (c : CallF) : RF := rg [2] <| aX 2 (pM (cn (.bool false))) <|
 aXZ
noncomputable def f120_r16 (c : CallF) : RF := rg [1, 3, 6, 42, 43, 44] <| aX 103 (pF 2 1 8) <|
 aX 104 (pL false 1 103) <|
 aX 6 (pM 104) <|
 aXZ
noncomputable def f120_r17 (c : CallF) : RF := rg [1, 3, 6, 42, 43, 44] <| aX 105 (pB .add 3 44 (cn (.int .i64 1))) <|
 aX 44 (pM 105) <|
 aXZ
noncomputable def f120_r18 (c : CallF) : RF := rg [2] <| aX 2 (pM (cn (.bool true))) <|
 aXZ
noncomputable def f120_l5 (c : CallF) (k : Nat) : St :=
 (bSeq (bReg (f120_r5 c))
 (bSeq (bCond (.tmp 34) (bEx .nrm) (bEx (.ext 0)))
 (bSeq (bBlock 1 (bSeq (bReg (f120_r6 c))
 (bSeq (bReg (f120_r7 c))
 (bCond (.tmp 39) (bSeq (bReg (f120_r8 c))
 (bEx .ret)) (bEx .nrm)))))
 (bReg (f120_r9 c)))))
noncomputable def f120_l12 (c : CallF) (k : Nat) : St :=
 (bSeq (bReg (f120_r12 c))
 (bSeq (bCond (.tmp 45) (bEx .nrm) (bEx (.ext 2)))
 (bSeq (bBlock 3 (bSeq (bReg (f120_r13 c))
 (bSeq (bSeq (bReg (f120_r14 c))
 (bCond (.tmp 102) (bSeq (bReg (f120_r15 c))
 (bEx .ret)) (bEx .nrm)))
 (bReg (f120_r16 c)))))
 (bReg (f120_r17 c)))))
noncomputable def f120 (c : CallF) (k : Nat) : St :=
 (bSeq (bReg (f120_r0 c))
 (bSeq (bReg (f120_r1 c))
 (bSeq (bSeq (bReg (f120_r2 c))
 (bCond (.tmp 29) (bSeq (bReg (f120_r3 c))
 (bEx .ret)) (bEx .nrm)))
 (bSeq (bSeq (bReg (f120_r4 c))
 (bBlock 0 (bLoop [1, 3, 31, 32, 33] (f120_l5 c k) k)))
 (bSeq (bReg (f120_r10 c))
 (bSeq (bSeq (bReg (f120_r11 c))
 (bBlock 2 (bLoop [1, 3, 6, 42, 43, 44] (f120_l12 c k) k)))
 (bSeq (bReg (f120_r18 c))
 (bEx .ret))))))))
theorem f120_eq (c : CallF) (k : Nat) : exec cx c 106 f120_an k (Try.f120.body.getD .skip) = f120 c k := by kernel_rfl
/-! ### f121: loop.example/g01263/impl.areDeals -/
def f121_an : Ann := ⟨[(0, r0 [0]), (1, r0 [5, 6, 7]), (2, r0 [5, 6, 7, 8]), (3, r0 [4, 5, 6, 7]), (4, r0 [5, 6, 7, 13]), (5, r0 [2]), (6, r0 [5, 6, 7]), (7, r0 [2])], [(2, [5, 6, 7])]⟩
noncomputable def f121_r0 (c : CallF) : RF := rg [0] <| aX 2 (pM (cn (.bool false))) <|
 aXZ
noncomputable def f121_r1 (c : CallF) : RF := rg [5, 6, 7] <| aX 5 (pM 0) <|
 aX 6 (pLen 52 5) <|
 aX 7 (pM (cn (.int .i64 0))) <|
 aXZ
noncomputable def f121_r2 (c : CallF) : RF := rg [5, 6, 7, 8] <| aX 8 (pB .lss 3 7 6) <|
 aXZ
noncomputable def f121_r3 (c : CallF) : RF := rg [4, 5, 6, 7] <| aX 9 (pI 6 5 7) <|
 aX 10 (pL true 6 9) <|
 aX 4 (pAl 114 6) <|
 aX0 (pS 6 4 10) <|
 aXZ
noncomputable def f121_r4 (c : CallF) : RF := rg [5, 6, 7, 13] <| aX 11 (pL true 6 4) <|
 aX 12 (pK c false 150 [11]) <|
 aX 13 (pU .not 12) <|
 aXZ
noncomputable def f121_r5 (c : CallF) : RF := rg [2] <| aX 2 (pM (cn (.bool false))) <|
 aXZ
noncomputable def f121_r6 (c : CallF) : RF := rg [5, 6, 7] <| aX 14 (pB .add 3 7 (cn (.int .i64 1))) <|
 aX 7 (pM 14) <|
 aXZ
noncomputable def f121_r7 (c : CallF) : RF := rg [2] <| aX 2 (pM (cn (.bool true))) <|
 aXZ
noncomputable def f121_l2 (c : CallF) (k : Nat) : St :=
 (bSeq (bReg (f121_r2 c))
 (bSeq (bCond (.tmp 8) (bEx .nrm) (bEx (.ext 0)))
 (bSeq (bBlock 1 (bSeq (bReg (f121_r3 c))
 (bSeq (bReg (f121_r4 c))
 (bCond (.tmp 13) (bSeq (bReg (f121_r5 c))
 (bEx .ret)) (bEx .nrm)))))
 (bReg (f121_r6 c)))))
noncomputable def f121 (c : CallF) (k : Nat) : St :=
 (bSeq (bReg (f121_r0 c))
 (bSeq (bSeq (bReg (f121_r1 c))
 (bBlock 0 (bLoop [5, 6, 7] (f121_l2 c k) k)))
 (bSeq (bReg (f121_r7 c))
 (bEx .ret))))
theorem f121_eq (c : CallF) (k : Nat) : exec cx c 15 f121_an k (Try.f121.body.getD .skip) = f121 c k := by kernel_rfl
/-! ### f122: loop.example/g01263/impl.books -/
def f122_an : Ann := ⟨[(0, ⟨[0], [], [], [], [1, 2]⟩), (1, ⟨[0], [0], [], [], [1, 2, 6]⟩), (2, r0 [2, 6, 12, 13, 14]), (3, r0 [2, 6, 12, 13, 14, 15]), (4, r0 [2, 6, 8, 12, 13, 14]), (5, ⟨[7], [], [], [], [2, 6, 9, 10, 12, 13, 14]⟩), (6, r0 [2, 6, 9, 10, 12, 13, 14, 25]), (7, r0 [4, 5]), (8, ⟨[1], [], [], [], [2, 6, 12, 13, 14]⟩), (9, ⟨[2, 3], [2], [], [], [2, 6, 12, 13, 14]⟩), (10, r0 [2, 6, 12, 13, 14]), (11, r0 [4, 5])], [(3, [2, 6, 12, 13, 14])]⟩
noncomputable def f122_r0 (c : CallF) : RF := rg [1, 2] <| aX 2 (fun n e M => aBoxO n 50 3 (eget e 0) M) <|
 aX 4 (pM (cn .nils)) <|
 aX 5 (pM (cn (.int .i64 0))) <|
 aXZ
noncomputable def f122_r1 (c : CallF) : RF := rg [1, 2, 6] <| aX 11 (fun n e M => aLitO true n 50 3 [] M) <|
 aX 6 (pM 11) <|
 aXZ
noncomputable def f122_r2 (c : CallF) : RF := rg [2, 6, 12, 13, 14] <| aX 12 (pM 1) <|
 aX 13 (pLen 52 12) <|
 aX 14 (pM (cn (.int .i64 0))) <|
 aXZ
noncomputable def f122_r3 (c : CallF) : RF := rg [2, 6, 12, 13, 14, 15] <| aX 15 (pB .lss 3 14 13) <|
 aXZ
noncomputable def f122_r4 (c : CallF) : RF := rg [2, 6, 8, 12, 13, 14] <| aX 16 (pI 6 12 14) <|
 aX 17 (pL true 6 16) <|
 aX 8 (pAl 114 6) <|
 aX0 (pS 6 8 17) <|
 aXZ
noncomputable def f122_r5 (c : CallF) : RF := rg [2, 6, 9, 10, 12, 13, 14] <| aX 19 (pL true 3 2) <|
 aX 20 (pL true 6 8) <|
 aX 21 (pK c false 151 [19, 20]) <|
 aX 18 (pM 21) <|
 aX 22 (pE 0 18) <|
 aX 23 (pE 1 18) <|
 aX 9 (pAl 50 3) <|
 aX0 (pSK 3 9 22) <|
 aX 10 (pM 23) <|
 aXZ
noncomputable def f122_r6 (c : CallF) : RF := rg [2, 6, 9, 10, 12, 13, 14, 25] <| aX 24 (pM 10) <|
 aX 25 (pB .neq 2 24 (cn (.int .i64 0))) <|
 aXZ
noncomputable def f122_r7 (c : CallF) : RF := rg [4, 5] <| aX 26 (pM 6) <|
 aX 27 (pM 10) <|
 aX 4 (pM 26) <|
 aX 5 (pM 27) <|
 aXZ
noncomputable def f122_r8 (c : CallF) : RF := rg [2, 6, 12, 13, 14] <| aX 28 (pL true 3 9) <|
 aX0 (pSK 3 2 28) <|
 aXZ
noncomputable def f122_r9 (c : CallF) : RF := rg [2, 6, 12, 13, 14] <| aX 29 (pM 6) <|
 aX 30 (pL true 3 2) <|
 aX 31 (fun n e M => aLitO true n 50 3 [(eget e 30)] M) <|
 aX 32 (fun n e M => aAppO n 50 3 56 (eget e 29) (eget e 31) M) <|
 aX 6 (pM 32) <|
 aXZ
noncomputable def f122_r10 (c : CallF) : RF := rg [2, 6, 12, 13, 14] <| aX 33 (pB .add 3 14 (cn (.int .i64 1))) <|
 aX 14 (pM 33) <|
 aXZ
noncomputable def f122_r11 (c : CallF) : RF := rg [4, 5] <| aX 34 (pM 6) <|
 aX 4 (pM 34) <|
 aX 5 (pM (cn (.int .i64 0))) <|
 aXZ
noncomputable def f122_l3 (c : CallF) (k : Nat) : St :=
 (bSeq (bReg (f122_r3 c))
 (bSeq (bCond (.tmp 15) (bEx .nrm) (bEx (.ext 0)))
 (bSeq (bBlock 1 (bSeq (bReg (f122_r4 c))
 (bSeq (bReg (f122_r5 c))
 (bSeq (bSeq (bReg (f122_r6 c))
 (bCond (.tmp 25) (bSeq (bReg (f122_r7 c))
 (bEx .ret)) (bEx .nrm)))
 (bSeq (bReg (f122_r8 c))
 (bReg (f122_r9 c)))))))
 (bReg (f122_r10 c)))))
noncomputable def f122 (c : CallF) (k : Nat) : St :=
 (bSeq (bReg (f122_r0 c))
 (bSeq (bReg (f122_r1 c))
 (bSeq (bSeq (bReg (f122_r2 c))
 (bBlock 0 (bLoop [2, 6, 12, 13, 14] (f122_l3 c k) k)))
 (bSeq (bReg (f122_r11 c))
 (bEx .ret)))))
theorem f122_eq (c : CallF) (k : Nat) : exec cx c 35 f122_an k (Try.f122.body.getD .skip) = f122 c k := by kernel_rfl
/-! ### f123: loop.example/g01263/impl.ownBook -/
def f123_an : Ann := ⟨[(0, ⟨[0], [], [], [], [1, 2]⟩), (1, ⟨[4], [], [], [], [1, 2]⟩), (2, ⟨[4], [], [], [], [1, 2]⟩), (3, ⟨[1], [], [], [], [2]⟩)], []⟩
noncomputable def f123_r0 (c : CallF) : RF := rg [1, 2] <| aX 1 (fun n e M => aBoxO n 50 3 (eget e 0) M) <|
 aX 2 (pAl 50 3) <|
 aXZ
noncomputable def f123_r1 (c : CallF) : RF := rg [1, 2] <| aX 3 (pF 1 1 1) <|
 aX 4 (pL false 1 3) <|
 aX 5 (pK c false 152 [4]) <|
 aX 6 (pF 1 1 1) <|
 aX0 (pSK 1 6 5) <|
 aXZ
noncomputable def f123_r2 (c : CallF) : RF := rg [1, 2] <| aX 7 (pF 2 1 1) <|
 aX 8 (pL false 1 7) <|
 aX 9 (pK c false 153 [8]) <|
 aX 10 (pF 2 1 1) <|
 aX0 (pSK 1 10 9) <|
 aXZ
noncomputable def f123_r3 (c : CallF) : RF := rg [2] <| aX 11 (pL true 3 1) <|
 aX0 (pSK 3 2 11) <|
 aXZ
noncomputable def f123 (c : CallF) (k : Nat) : St :=
 (bSeq (bReg (f123_r0 c))
 (bSeq (bReg (f123_r1 c))
 (bSeq (bReg (f123_r2 c))
 (bSeq (bReg (f123_r3 c))
 (bEx .ret)))))
theorem f123_eq (c : CallF) (k : Nat) : exec cx c 12 f123_an k (Try.f123.body.getD .skip) = f123 c k := by kernel_rfl
/-! ### f143: loop.example/g01263/spec.l07Day -/
def f143_an : Ann := ⟨[(0, r0 [0]), (1, r0 [2])], []⟩
noncomputable def f143_r0 (c : CallF) : RF := rg [0] <| aX 2 (pM (cn (.bool false))) <|
 aXZ
noncomputable def f143_r1 (c : CallF) : RF := rg [2] <| aX 3 (pM 0) <|
 aX 4 (pK c false 69 [3, (cn (.int .i64 0)), (cn (.int .i64 100000))]) <|
 aX 2 (pM 4) <|
 aXZ
noncomputable def f143 (c : CallF) (k : Nat) : St :=
 (bSeq (bReg (f143_r0 c))
 (bSeq (bReg (f143_r1 c))
 (bEx .ret)))
theorem f143_eq (c : CallF) (k : Nat) : exec cx c 5 f143_an k (Try.f143.body.getD .skip) = f143 c k := by kernel_rfl
/-! ### f144: loop.example/g01263/spec.l07Cash -/
def f144_an : Ann := ⟨[(0, r0 [0]), (1, r0 [0, 3]), (2, r0 [0, 3, 7]), (3, r0 [0, 3]), (4, r0 [0, 3, 15]), (5, r0 [2]), (6, r0 [2])], [(2, [0, 3])]⟩
noncomputable def f144_r0 (c : CallF) : RF := rg [0] <| aX 2 (pM (cn (.bool false))) <|
 aXZ
noncomputable def f144_r1 (c : CallF) : RF := rg [0, 3] <| aX 3 (pM (cn (.int .i64 0))) <|
 aXZ
noncomputable def f144_r2 (c : CallF) : RF := rg [0, 3, 7] <| aX 4 (pM 3) <|
 aX 5 (pM 0) <|
 aX 6 (pLen 24 5) <|
 aX 7 (pB .lss 3 4 6) <|
 aXZ
noncomputable def f144_r3 (c : CallF) : RF := rg [0, 3] <| aX 8 (pM 3) <|
 aX 9 (pB .add 3 8 (cn (.int .i64 1))) <|
 aX 3 (pM 9) <|
 aXZ
noncomputable def f144_r4 (c : CallF) : RF := rg [0, 3, 15] <| aX 10 (pM 0) <|
 aX 11 (pM 3) <|
 aX 12 (pI 1 10 11) <|
 aX 13 (pL false 1 12) <|
 aX 14 (pK c false 70 [13]) <|
 aX 15 (pU .not 14) <|
 aXZ
noncomputable def f144_r5 (c : CallF) : RF := rg [2] <| aX 2 (pM (cn (.bool false))) <|
 aXZ
noncomputable def f144_r6 (c : CallF) : RF := rg [2] <| aX 16 (pM 0) <|
 aX 17 (pLen 24 16) <|
 aX 18 (pK c false 69 [17, (cn (.int .i64 1)), (cn (.int .i64 16))]) <|
 aX 2 (pM 18) <|
 aXZ
noncomputable def f144_l2 (c : CallF) (k : Nat) : St :=
 (bSeq (bSeq (bReg (f144_r2 c))
 (bCond (.tmp 7) (bEx .nrm) (bEx (.ext 0))))
 (bSeq (bBlock 1 (bSeq (bReg (f144_r4 c))
 (bCond (.tmp 15) (bSeq (bReg (f144_r5 c))
 (bEx .ret)) (bEx .nrm))))
 (bReg (f144_r3 c))))
noncomputable def f144 (c : CallF) (k : Nat) : St :=
 (bSeq (bReg (f144_r0 c))
 (bSeq (bSeq (bReg (f144_r1 c))
 (bBlock 0 (bLoop [0, 3] (f144_l2 c k) k)))
 (bSeq (bReg (f144_r6 c))
 (bEx .ret))))
theorem f144_eq (c : CallF) (k : Nat) : exec cx c 19 f144_an k (Try.f144.body.getD .skip) = f144 c k := by kernel_rfl
/-! ### f145: loop.example/g01263/spec.l02Person -/
def f145_an : Ann := ⟨[(0, r0 [0, 1]), (1, r0 [4])], []⟩
noncomputable def f145_r0 (c : CallF) : RF := rg [0, 1] <| aX 4 (pM (cn (.bool false))) <|
 aXZ
noncomputable def f145_r1 (c : CallF) : RF := rg [4] <| aX 5 (pM 1) <|
 aX 6 (pM 0) <|
 aX 7 (pB .sub 2 6 (cn (.int .i64 1))) <|
 aX 8 (pK c false 69 [5, (cn (.int .i64 0)), 7]) <|
 aX 4 (pM 8) <|
 aXZ
noncomputable def f145 (c : CallF) (k : Nat) : St :=
 (bSeq (bReg (f145_r0 c))
 (bSeq (bReg (f145_r1 c))
 (bEx .ret)))
theorem f145_eq (c : CallF) (k : Nat) : exec cx c 9 f145_an k (Try.f145.body.getD .skip) = f145 c k := by kernel_rfl
/-! ### f146: loop.example/g01263/spec.l07Deal -/
def f146_an : Ann := ⟨[(0, r0 [0]), (1, r0 [0, 3]), (2, r0 [0, 3, 4]), (3, r0 [0, 3, 4, 5]), (4, r0 [0, 3, 4, 5, 6]), (5, r0 [0, 3, 4, 5, 6, 32]), (6, r0 [2]), (7, r0 [0, 3, 4, 5, 6, 36]), (8, r0 [0, 3, 4, 5, 6, 36, 37]), (9, r0 [2]), (10, r0 [0, 3, 4, 5, 6, 36, 53]), (11, r0 [2]), (12, r0 [0, 3, 4, 6, 36, 69]), (13, r0 [2]), (14, r0 [0, 3, 4, 89]), (15, r0 [2]), (16, r0 [2])], []⟩
noncomputable def f146_r0 (c : CallF) : RF := rg [0] <| aX 2 (pM (cn (.bool false))) <|
 aXZ
noncomputable def f146_r1 (c : CallF) : RF := rg [0, 3] <| aX 7 (pM 0) <|
 aX 8 (pN 7) <|
 aX 9 (pF 2 1 8) <|
 aX 10 (pL false 1 9) <|
 aX 11 (pK c false 69 [10, (cn (.int .i64 0)), (cn (.int .i64 39))]) <|
 aX 3 (pM 11) <|
 aXZ
noncomputable def f146_r2 (c : CallF) : RF := rg [0, 3, 4] <| aX 12 (pM 0) <|
 aX 13 (pN 12) <|
 aX 14 (pF 3 1 13) <|
 aX 15 (pL false 1 14) <|
 aX 16 (pK c false 69 [15, (cn (.int .i64 0)), (cn (.int .i64 15))]) <|
 aX 4 (pM 16) <|
 aXZ
noncomputable def f146_r3 (c : CallF) : RF := rg [0, 3, 4, 5] <| aX 17 (pM 0) <|
 aX 18 (pN 17) <|
 aX 19 (pF 4 1 18) <|
 aX 20 (pL false 1 19) <|
 aX 21 (pK c false 69 [20, (cn (.int .i64 0)), (cn (.int .i64 15))]) <|
 aX 5 (pM 21) <|
 aXZ
noncomputable def f146_r4 (c : CallF) : RF := rg [0, 3, 4, 5, 6] <| aX 22 (pM 0) <|
 aX 23 (pN 22) <|
 aX 24 (pF 5 1 23) <|
 aX 25 (pL false 1 24) <|
 aX 26 (pK c false 69 [25, (cn (.int .i64 1)), (cn (.int .i64 100000000))]) <|
 aX 6 (pM 26) <|
 aXZ
noncomputable def f146_r5 (c : CallF) : RF := rg [0, 3, 4, 5, 6, 32] <| aX 27 (pM 0) <|
 aX 28 (pN 27) <|
 aX 29 (pF 0 1 28) <|
 aX 30 (pL false 1 29) <|
 aX 31 (pK c false 143 [30]) <|
 aX 32 (pU .not 31) <|
 aXZ
noncomputable def f146_r6 (c : CallF) : RF := rg [2] <| aX 2 (pM (cn (.bool false))) <|
 aXZ
noncomputable def f146_r7 (c : CallF) : RF := rg [0, 3, 4, 5, 6, 36] <| aX 33 (pM 0) <|
 aX 34 (pN 33) <|
 aX 35 (pF 1 1 34) <|
 aX 36 (pL false 1 35) <|
 aXZ
noncomputable def f146_r8 (c : CallF) : RF := rg [0, 3, 4, 5, 6, 36, 37] <| aX 38 (pB .eql 58 36 (cn (.int .i8 1))) <|
 aX 37 (pM 38) <|
 aXZ
noncomputable def f146_r9 (c : CallF) : RF := rg [2] <| aX 39 (pM 0) <|
 aX 40 (pN 39) <|
 aX 41 (pF 2 1 40) <|
 aX 42 (pL false 1 41) <|
 aX 43 (pB .eql 2 42 (cn (.int .i64 0))) <|
 aX 44 (pM 43) <|
 aX 45 (pG 44 true (pM 4)) <|
 aX 46 (pP 44 45 (cn (.bool false))) <|
 aX 47 (pM 46) <|
 aX 48 (pG 47 true (pM 5)) <|
 aX 49 (pP 47 48 (cn (.bool false))) <|
 aX 50 (pM 49) <|
 aX 51 (pG 50 true (pM 6)) <|
 aX 52 (pP 50 51 (cn (.bool false))) <|
 aX 2 (pM 52) <|
 aXZ
noncomputable def f146_r10 (c : CallF) : RF := rg [0, 3, 4, 5, 6, 36, 53] <| aX 54 (pB .eql 58 36 (cn (.int .i8 2))) <|
 aX 53 (pM 54) <|
 aXZ
noncomputable def f146_r11 (c : CallF) : RF := rg [2] <| aX 55 (pM 3) <|
 aX 56 (pM 55) <|
 aX 57 (pG 56 true (pM 4)) <|
 aX 58 (pP 56 57 (cn (.bool false))) <|
 aX 59 (pM 58) <|
 aX 60 (pG 59 true (pM 5)) <|
 aX 61 (pP 59 60 (cn (.bool false))) <|
 aX 62 (pM 61) <|
 aX 63 (pG 62 true (pM 0)) <|
 aX 64 (pG 62 true (pN 63)) <|
 aX 65 (pG 62 true (pF 5 1 64)) <|
 aX 66 (pG 62 true (pL false 1 65)) <|
 aX 67 (pG 62 true (pB .eql 2 66 (cn (.int .i64 0)))) <|
 aX 68 (pP 62 67 (cn (.bool false))) <|
 aX 2 (pM 68) <|
 aXZ
noncomputable def f146_r12 (c : CallF) : RF := rg [0, 3, 4, 6, 36, 69] <| aX 70 (pB .eql 58 36 (cn (.int .i8 3))) <|
 aX 69 (pM 70) <|
 aXZ
noncomputable def f146_r13 (c : CallF) : RF := rg [2] <| aX 71 (pM 3) <|
 aX 72 (pM 71) <|
 aX 73 (pG 72 true (pM 0)) <|
 aX 74 (pG 72 true (pN 73)) <|
 aX 75 (pG 72 true (pF 3 1 74)) <|
 aX 76 (pG 72 true (pL false 1 75)) <|
 aX 77 (pG 72 true (pB .eql 2 76 (cn (.int .i64 0)))) <|
 aX 78 (pP 72 77 (cn (.bool false))) <|
 aX 79 (pM 78) <|
 aX 80 (pG 79 true (pM 0)) <|
 aX 81 (pG 79 true (pN 80)) <|
 aX 82 (pG 79 true (pF 4 1 81)) <|
 aX 83 (pG 79 true (pL false 1 82)) <|
 aX 84 (pG 79 true (pB .eql 2 83 (cn (.int .i64 0)))) <|
 aX 85 (pP 79 84 (cn (.bool false))) <|
 aX 86 (pM 85) <|
 aX 87 (pG 86 true (pM 6)) <|
 aX 88 (pP 86 87 (cn (.bool false))) <|
 aX 2 (pM 88) <|
 aXZ
noncomputable def f146_r14 (c : CallF) : RF := rg [0, 3, 4, 89] <| aX 90 (pB .eql 58 36 (cn (.int .i8 4))) <|
 aX 89 (pM 90) <|
 aXZ
noncomputable def f146_r15 (c : CallF) : RF := rg [2] <| aX 91 (pM 3) <|
 aX 92 (pM 91) <|
 aX 93 (pG 92 true (pM 4)) <|
 aX 94 (pP 92 93 (cn (.bool false))) <|
 aX 95 (pM 94) <|
 aX 96 (pG 95 true (pM 0)) <|
 aX 97 (pG 95 true (pN 96)) <|
 aX 98 (pG 95 true (pF 4 1 97)) <|
 aX 99 (pG 95 true (pL false 1 98)) <|
 aX 100 (pG 95 true (pB .eql 2 99 (cn (.int .i64 0)))) <|
 aX 101 (pP 95 100 (cn (.bool false))) <|
 aX 102 (pM 101) <|
 aX 103 (pG 102 true (pM 0)) <|
 aX 104 (pG 102 true (pN 103)) <|
 aX 105 (pG 102 true (pF 5 1 104)) <|
 aX 106 (pG 102 true (pL false 1 105)) <|
 aX 107 (pG 102 true (pB .eql 2 106 (cn (.int .i64 0)))) <|
 aX 108 (pP 102 107 (cn (.bool false))) <|
 aX 2 (pM 108) <|
 aXZ
noncomputable def f146_r16 (c : CallF) : RF := rg [2] <| aX 2 (pM (cn (.bool false))) <|
 aXZ
noncomputable def f146 (c : CallF) (k : Nat) : St :=
 (bSeq (bReg (f146_r0 c))
 (bSeq (bReg (f146_r1 c))
 (bSeq (bReg (f146_r2 c))
 (bSeq (bReg (f146_r3 c))
 (bSeq (bReg (f146_r4 c))
 (bSeq (bSeq (bReg (f146_r5 c))
 (bCond (.tmp 32) (bSeq (bReg (f146_r6 c))
 (bEx .ret)) (bEx .nrm)))
 (bSeq (bSeq (bReg (f146_r7 c))
 (bBlock 0 (bSeq (bReg (f146_r8 c))
 (bCond (.tmp 37) (bSeq (bReg (f146_r9 c))
 (bEx .ret)) (bSeq (bReg (f146_r10 c))
 (bCond (.tmp 53) (bSeq (bReg (f146_r11 c))
 (bEx .ret)) (bSeq (bReg (f146_r12 c))
 (bCond (.tmp 69) (bSeq (bReg (f146_r13 c))
 (bEx .ret)) (bSeq (bReg (f146_r14 c))
 (bCond (.tmp 89) (bSeq (bReg (f146_r15 c))
 (bEx .ret)) (bEx .nrm)))))))))))
 (bSeq (bReg (f146_r16 c))
 (bEx .ret)))))))))
theorem f146_eq (c : CallF) (k : Nat) : exec cx c 109 f146_an k (Try.f146.body.getD .skip) = f146 c k := by kernel_rfl
/-! ### f147: loop.example/g01263/spec.l07Refused -/
def f147_an : Ann := ⟨[(0, r0 [0, 1]), (1, r0 [0, 1, 5]), (2, r0 [0, 1, 5, 20]), (3, r0 [4]), (4, r0 [0, 1, 55]), (5, r0 [4]), (6, r0 [0, 1, 60]), (7, r0 [0, 69]), (8, r0 [4]), (9, r0 [75]), (10, r0 [4]), (11, r0 [4]), (12, r0 [0, 1, 6]), (13, r0 [0, 1, 6, 136]), (14, r0 [4]), (15, r0 [0, 1, 6, 158]), (16, r0 [4]), (17, r0 [181]), (18, r0 [4]), (19, r0 [4])], []⟩
noncomputable def f147_r0 (c : CallF) : RF := rg [0, 1] <| aX 4 (pM (cn (.int .i64 0))) <|
 aXZ
noncomputable def f147_r1 (c : CallF) : RF := rg [0, 1, 5] <| aX 7 (pM 0) <|
 aX 8 (pN 7) <|
 aX 9 (pF 1 1 8) <|
 aX 10 (pL false 1 9) <|
 aX 11 (pLen 24 10) <|
 aX 5 (pM 11) <|
 aXZ
noncomputable def f147_r2 (c : CallF) : RF := rgD [0, 1, 5, 20] (aY 12 (pM 1) <|
 aY 13 (pN 12) <|
 aY 14 (pF 0 1 13) <|
 aY 15 (pL false 1 14) <|
 aY 16 (pM 0) <|
 aY 17 (pN 16) <|
 aY 18 (pF 0 1 17) <|
 aY 19 (pL false 1 18) <|
 aY 20 (pB .lss 2 15 19) <|
 aYZ)
 (aXZ)
noncomputable def f147_r3 (c : CallF) : RF := rg [4] <| aX 4 (pM (cn (.int .i64 4))) <|
 aXZ
noncomputable def f147_r4 (c : CallF) : RF := rgD [0, 1, 55] (aY 21 (pM 5) <|
 aY 22 (pM 1) <|
 aY 23 (pN 22) <|
 aY 24 (pF 3 1 23) <|
 aY 25 (pL false 1 24) <|
 aY 26 (pK c false 145 [21, 25]) <|
 aY 27 (pU .not 26) <|
 aY 28 (pM 27) <|
 aY 29 (pG 28 false (pM 5)) <|
 aY 30 (pG 28 false (pM 1)) <|
 aY 31 (pG 28 false (pN 30)) <|
 aY 32 (pG 28 false (pF 4 1 31)) <|
 aY 33 (pG 28 false (pL false 1 32)) <|
 aY 34 (pG 28 false (pK c false 145 [29, 33])) <|
 aY 35 (pG 28 false (pU .not 34)) <|
 aY 36 (pP 28 (cn (.bool true)) 35) <|
 aY 37 (pM 36) <|
 aY 38 (pG 37 false (pM 1)) <|
 aY 39 (pG 37 false (pN 38)) <|
 aY 40 (pG 37 false (pF 1 1 39)) <|
 aY 41 (pG 37 false (pL false 1 40)) <|
 aY 42 (pG 37 false (pB .neq 58 41 (cn (.int .i8 1)))) <|
 aY 43 (pG 37 false (pM 42)) <|
 aY 44 (pG 43 true (pM 1)) <|
 aY 45 (pG 43 true (pN 44)) <|
 aY 46 (pG 43 true (pF 2 1 45)) <|
 aY 47 (pG 43 true (pL false 1 46)) <|
 aY 48 (pG 43 true (pM 0)) <|
 aY 49 (pG 43 true (pN 48)) <|
 aY 50 (pG 43 true (pF 2 1 49)) <|
 aY 51 (pG 43 true (pL false 1 50)) <|
 aY 52 (pG 43 true (pLen 48 51)) <|
 aY 53 (pG 43 true (pB .geq 2 47 52)) <|
 aY 54 (pG 37 false (pP 43 53 (cn (.bool false)))) <|
 aY 55 (pP 37 (cn (.bool true)) 54) <|
 aYZ)
 (aXZ)
noncomputable def f147_r5 (c : CallF) : RF := rg [4] <| aX 4 (pM (cn (.int .i64 2))) <|
 aXZ
noncomputable def f147_r6 (c : CallF) : RF := rg [0, 1, 60] <| aX 56 (pM 1) <|
 aX 57 (pN 56) <|
 aX 58 (pF 1 1 57) <|
 aX 59 (pL false 1 58) <|
 aX 60 (pB .eql 58 59 (cn (.int .i8 1))) <|
 aXZ
noncomputable def f147_r7 (c : CallF) : RF := rgD [0, 69] (aY 61 (pM 1) <|
 aY 62 (pN 61) <|
 aY 63 (pF 3 1 62) <|
 aY 64 (pL false 1 63) <|
 aY 65 (pM 1) <|
 aY 66 (pN 65) <|
 aY 67 (pF 4 1 66) <|
 aY 68 (pL false 1 67) <|
 aY 69 (pB .eql 2 64 68) <|
 aYZ)
 (aXZ)
noncomputable def f147_r8 (c : CallF) : RF := rg [4] <| aX 4 (pM (cn (.int .i64 4))) <|
 aXZ
noncomputable def f147_r9 (c : CallF) : RF := rg [75] <| aX 70 (pM 0) <|
 aX 71 (pN 70) <|
 aX 72 (pF 2 1 71) <|
 aX 73 (pL false 1 72) <|
 aX 74 (pLen 48 73) <|
 aX 75 (pB .eql 3 74 (cn (.int .i64 40))) <|
 aXZ
noncomputable def f147_r10 (c : CallF) : RF := rg [4] <| aX 4 (pM (cn (.int .i64 3))) <|
 aXZ
noncomputable def f147_r11 (c : CallF) : RF := rg [4] <| aX 4 (pM (cn (.int .i64 0))) <|
 aXZ
noncomputable def f147_r12 (c : CallF) : RF := rgD [0, 1, 6] (aY 76 (pM 0) <|
 aY 77 (pN 76) <|
 aY 78 (pF 2 1 77) <|
 aY 79 (pL false 1 78) <|
 aY 80 (pM 1) <|
 aY 81 (pN 80) <|
 aY 82 (pF 2 1 81) <|
 aY 83 (pL false 1 82) <|
 aY 84 (pI 5 79 83) <|
 aY 6 (pM 84) <|
 aYZ)
 (aXZ)
noncomputable def f147_r13 (c : CallF) : RF := rgD [0, 1, 6, 136] (aY 85 (pM 1) <|
 aY 86 (pN 85) <|
 aY 87 (pF 1 1 86) <|
 aY 88 (pL false 1 87) <|
 aY 89 (pB .eql 58 88 (cn (.int .i8 2))) <|
 aY 90 (pM 89) <|
 aY 91 (pG 90 true (pM 1)) <|
 aY 92 (pG 90 true (pN 91)) <|
 aY 93 (pG 90 true (pF 3 1 92)) <|
 aY 94 (pG 90 true (pL false 1 93)) <|
 aY 95 (pG 90 true (pM 1)) <|
 aY 96 (pG 90 true (pN 95)) <|
 aY 97 (pG 90 true (pF 4 1 96)) <|
 aY 98 (pG 90 true (pL false 1 97)) <|
 aY 99 (pG 90 true (pB .eql 2 94 98)) <|
 aY 100 (pP 90 99 (cn (.bool false))) <|
 aY 101 (pM 100) <|
 aY 102 (pG 101 false (pM 1)) <|
 aY 103 (pG 101 false (pN 102)) <|
 aY 104 (pG 101 false (pF 1 1 103)) <|
 aY 105 (pG 101 false (pL false 1 104)) <|
 aY 106 (pG 101 false (pB .neq 58 105 (cn (.int .i8 3)))) <|
 aY 107 (pG 101 false (pM 106)) <|
 aY 108 (pG 107 true (pM 1)) <|
 aY 109 (pG 107 true (pN 108)) <|
 aY 110 (pG 107 true (pF 3 1 109)) <|
 aY 111 (pG 107 true (pL false 1 110)) <|
 aY 112 (pG 107 true (pM 6)) <|
 aY 113 (pG 107 true (pN 112)) <|
 aY 114 (pG 107 true (pF 1 1 113)) <|
 aY 115 (pG 107 true (pL false 1 114)) <|
 aY 116 (pG 107 true (pB .neq 2 111 115)) <|
 aY 117 (pG 101 false (pP 107 116 (cn (.bool false)))) <|
 aY 118 (pP 101 (cn (.bool true)) 117) <|
 aY 119 (pM 118) <|
 aY 120 (pG 119 false (pM 6)) <|
 aY 121 (pG 119 false (pN 120)) <|
 aY 122 (pG 119 false (pF 4 1 121)) <|
 aY 123 (pG 119 false (pL false 1 122)) <|
 aY 124 (pG 119 false (pB .eql 2 123 (cn (.int .i64 0)))) <|
 aY 125 (pP 119 (cn (.bool true)) 124) <|
 aY 126 (pM 125) <|
 aY 127 (pG 126 false (pM 1)) <|
 aY 128 (pG 126 false (pN 127)) <|
 aY 129 (pG 126 false (pF 5 1 128)) <|
 aY 130 (pG 126 false (pL false 1 129)) <|
 aY 131 (pG 126 false (pM 6)) <|
 aY 132 (pG 126 false (pN 131)) <|
 aY 133 (pG 126 false (pF 4 1 132)) <|
 aY 134 (pG 126 false (pL false 1 133)) <|
 aY 135 (pG 126 false (pB .gtr 2 130 134)) <|
 aY 136 (pP 126 (cn (.bool true)) 135) <|
 aYZ)
 (aXZ)
noncomputable def f147_r14 (c : CallF) : RF := rg [4] <| aX 4 (pM (cn (.int .i64 4))) <|
 aXZ
noncomputable def f147_r15 (c : CallF) : RF := rgD [0, 1, 6, 158] (aY 137 (pM 1) <|
 aY 138 (pN 137) <|
 aY 139 (pF 1 1 138) <|
 aY 140 (pL false 1 139) <|
 aY 141 (pB .eql 58 140 (cn (.int .i8 3))) <|
 aY 142 (pM 141) <|
 aY 143 (pG 142 true (pM 0)) <|
 aY 144 (pG 142 true (pN 143)) <|
 aY 145 (pG 142 true (pF 1 1 144)) <|
 aY 146 (pG 142 true (pL false 1 145)) <|
 aY 147 (pG 142 true (pM 6)) <|
 aY 148 (pG 142 true (pN 147)) <|
 aY 149 (pG 142 true (pF 0 1 148)) <|
 aY 150 (pG 142 true (pL false 1 149)) <|
 aY 151 (pG 142 true (pI 1 146 150)) <|
 aY 152 (pG 142 true (pL false 1 151)) <|
 aY 153 (pG 142 true (pM 1)) <|
 aY 154 (pG 142 true (pN 153)) <|
 aY 155 (pG 142 true (pF 5 1 154)) <|
 aY 156 (pG 142 true (pL false 1 155)) <|
 aY 157 (pG 142 true (pB .lss 2 152 156)) <|
 aY 158 (pP 142 157 (cn (.bool false))) <|
 aYZ)
 (aXZ)
noncomputable def f147_r16 (c : CallF) : RF := rg [4] <| aX 4 (pM (cn (.int .i64 8))) <|
 aXZ
noncomputable def f147_r17 (c : CallF) : RF := rgD [181] (aY 159 (pM 1) <|
 aY 160 (pN 159) <|
 aY 161 (pF 1 1 160) <|
 aY 162 (pL false 1 161) <|
 aY 163 (pB .eql 58 162 (cn (.int .i8 3))) <|
 aY 164 (pM 163) <|
 aY 165 (pG 164 true (pM 0)) <|
 aY 166 (pG 164 true (pN 165)) <|
 aY 167 (pG 164 true (pF 1 1 166)) <|
 aY 168 (pG 164 true (pL false 1 167)) <|
 aY 169 (pG 164 true (pM 6)) <|
 aY 170 (pG 164 true (pN 169)) <|
 aY 171 (pG 164 true (pF 1 1 170)) <|
 aY 172 (pG 164 true (pL false 1 171)) <|
 aY 173 (pG 164 true (pI 1 168 172)) <|
 aY 174 (pG 164 true (pL false 1 173)) <|
 aY 175 (pG 164 true (pM 1)) <|
 aY 176 (pG 164 true (pN 175)) <|
 aY 177 (pG 164 true (pF 5 1 176)) <|
 aY 178 (pG 164 true (pL false 1 177)) <|
 aY 179 (pG 164 true (pB .add 2 174 178)) <|
 aY 180 (pG 164 true (pB .gtr 2 179 (cn (.int .i64 100000000)))) <|
 aY 181 (pP 164 180 (cn (.bool false))) <|
 aYZ)
 (aXZ)
noncomputable def f147_r18 (c : CallF) : RF := rg [4] <| aX 4 (pM (cn (.int .i64 3))) <|
 aXZ
noncomputable def f147_r19 (c : CallF) : RF := rg [4] <| aX 4 (pM (cn (.int .i64 0))) <|
 aXZ
noncomputable def f147 (c : CallF) (k : Nat) : St :=
 (bSeq (bReg (f147_r0 c))
 (bSeq (bReg (f147_r1 c))
 (bSeq (bSeq (bReg (f147_r2 c))
 (bCond (.tmp 20) (bSeq (bReg (f147_r3 c))
 (bEx .ret)) (bEx .nrm)))
 (bSeq (bSeq (bReg (f147_r4 c))
 (bCond (.tmp 55) (bSeq (bReg (f147_r5 c))
 (bEx .ret)) (bEx .nrm)))
 (bSeq (bSeq (bReg (f147_r6 c))
 (bCond (.tmp 60) (bSeq (bSeq (bReg (f147_r7 c))
 (bCond (.tmp 69) (bSeq (bReg (f147_r8 c))
 (bEx .ret)) (bEx .nrm)))
 (bSeq (bSeq (bReg (f147_r9 c))
 (bCond (.tmp 75) (bSeq (bReg (f147_r10 c))
 (bEx .ret)) (bEx .nrm)))
 (bSeq (bReg (f147_r11 c))
 (bEx .ret)))) (bEx .nrm)))
 (bSeq (bReg (f147_r12 c))
 (bSeq (bSeq (bReg (f147_r13 c))
 (bCond (.tmp 136) (bSeq (bReg (f147_r14 c))
 (bEx .ret)) (bEx .nrm)))
 (bSeq (bSeq (bReg (f147_r15 c))
 (bCond (.tmp 158) (bSeq (bReg (f147_r16 c))
 (bEx .ret)) (bEx .nrm)))
 (bSeq (bSeq (bReg (f147_r17 c))
 (bCond (.tmp 181) (bSeq (bReg (f147_r18 c))
 (bEx .ret)) (bEx .nrm)))
 (bSeq (bReg (f147_r19 c))
 (bEx .ret)))))))))))
theorem f147_eq (c : CallF) (k : Nat) : exec cx c 182 f147_an k (Try.f147.body.getD .skip) = f147 c k := by kernel_rfl
/-! ### f148: loop.example/g01263/impl.isBookDay -/
def f148_an : Ann := ⟨[(0, r0 [0]), (1, r0 [2])], []⟩
noncomputable def f148_r0 (c : CallF) : RF := rg [0] <| aX 2 (pM (cn (.bool false))) <|
 aXZ
noncomputable def f148_r1 (c : CallF) : RF := rg [2] <| aX 3 (pM 0) <|
 aX 4 (pB .geq 2 3 (cn (.int .i64 0))) <|
 aX 5 (pM 4) <|
 aX 6 (pG 5 true (pM 0)) <|
 aX 7 (pG 5 true (pB .leq 2 6 (cn (.int .i64 100000)))) <|
 aX 8 (pP 5 7 (cn (.bool false))) <|
 aX 2 (pM 8) <|
 aXZ
noncomputable def f148 (c : CallF) (k : Nat) : St :=
 (bSeq (bReg (f148_r0 c))
 (bSeq (bReg (f148_r1 c))
 (bEx .ret)))
theorem f148_eq (c : CallF) (k : Nat) : exec cx c 9 f148_an k (Try.f148.body.getD .skip) = f148 c k := by kernel_rfl
/-! ### f149: loop.example/g01263/impl.arePeople -/
def f149_an : Ann := ⟨[(0, r0 [0, 1]), (1, r0 [0, 7, 8, 9]), (2, r0 [0, 7, 8, 9, 10]), (3, r0 [0, 6, 7, 8, 9]), (4, r0 [0, 7, 8, 9, 19]), (5, r0 [4]), (6, r0 [0, 7, 8, 9]), (7, r0 [4])], [(2, [0, 7, 8, 9])]⟩
noncomputable def f149_r0 (c : CallF) : RF := rg [0, 1] <| aX 4 (pM (cn (.bool false))) <|
 aXZ
noncomputable def f149_r1 (c : CallF) : RF := rg [0, 7, 8, 9] <| aX 7 (pM 1) <|
 aX 8 (pLen 24 7) <|
 aX 9 (pM (cn (.int .i64 0))) <|
 aXZ
noncomputable def f149_r2 (c : CallF) : RF := rg [0, 7, 8, 9, 10] <| aX 10 (pB .lss 3 9 8) <|
 aXZ
noncomputable def f149_r3 (c : CallF) : RF := rg [0, 6, 7, 8, 9] <| aX 11 (pI 1 7 9) <|
 aX 12 (pL false 1 11) <|
 aX 6 (pM 12) <|
 aXZ
noncomputable def f149_r4 (c : CallF) : RF := rg [0, 7, 8, 9, 19] <| aX 13 (pM 6) <|
 aX 14 (pB .lss 2 13 (cn (.int .i64 0))) <|
 aX 15 (pM 14) <|
 aX 16 (pG 15 false (pM 6)) <|
 aX 17 (pG 15 false (pM 0)) <|
 aX 18 (pG 15 false (pB .geq 2 16 17)) <|
 aX 19 (pP 15 (cn (.bool true)) 18) <|
 aXZ
noncomputable def f149_r5 (c : CallF) : RF := rg [4] <| aX 4 (pM (cn (.bool false))) <|
 aXZ
noncomputable def f149_r6 (c : CallF) : RF := rg [0, 7, 8, 9] <| aX 20 (pB .add 3 9 (cn (.int .i64 1))) <|
 aX 9 (pM 20) <|
 aXZ
noncomputable def f149_r7 (c : CallF) : RF := rg [4] <| aX 4 (pM (cn (.bool true))) <|
 aXZ
noncomputable def f149_l2 (c : CallF) (k : Nat) : St :=
 (bSeq (bReg (f149_r2 c))
 (bSeq (bCond (.tmp 10) (bEx .nrm) (bEx (.ext 0)))
 (bSeq (bBlock 1 (bSeq (bReg (f149_r3 c))
 (bSeq (bReg (f149_r4 c))
 (bCond (.tmp 19) (bSeq (bReg (f149_r5 c))
 (bEx .ret)) (bEx .nrm)))))
 (bReg (f149_r6 c)))))
noncomputable def f149 (c : CallF) (k : Nat) : St :=
 (bSeq (bReg (f149_r0 c))
 (bSeq (bSeq (bReg (f149_r1 c))
 (bBlock 0 (bLoop [0, 7, 8, 9] (f149_l2 c k) k)))
 (bSeq (bReg (f149_r7 c))
 (bEx .ret))))
theorem f149_eq (c : CallF) (k : Nat) : exec cx c 21 f149_an k (Try.f149.body.getD .skip) = f149 c k := by kernel_rfl
/-! ### f150: loop.example/g01263/impl.ValidDeal -/
def f150_an : Ann := ⟨[(0, r0 [1]), (1, r0 [1, 21]), (2, r0 [2]), (3, r0 [1, 3]), (4, r0 [1, 3, 4, 5, 6, 7]), (5, r0 [2])], []⟩
noncomputable def f150_r0 (c : CallF) : RF := rg [1] <| aX 1 (pBox 6 0) <|
 aX 2 (pM (cn (.bool false))) <|
 aXZ
noncomputable def f150_r1 (c : CallF) : RF := rg [1, 21] <| aX 8 (pF 1 1 1) <|
 aX 9 (pL false 1 8) <|
 aX 10 (pB .lss 58 9 (cn (.int .i8 1))) <|
 aX 11 (pM 10) <|
 aX 12 (pG 11 false (pF 1 1 1)) <|
 aX 13 (pG 11 false (pL false 1 12)) <|
 aX 14 (pG 11 false (pB .gtr 58 13 (cn (.int .i8 4)))) <|
 aX 15 (pP 11 (cn (.bool true)) 14) <|
 aX 16 (pM 15) <|
 aX 17 (pG 16 false (pF 0 1 1)) <|
 aX 18 (pG 16 false (pL false 1 17)) <|
 aX 19 (pG 16 false (pK c false 148 [18])) <|
 aX 20 (pG 16 false (pU .not 19)) <|
 aX 21 (pP 16 (cn (.bool true)) 20) <|
 aXZ
noncomputable def f150_r2 (c : CallF) : RF := rg [2] <| aX 2 (pM (cn (.bool false))) <|
 aXZ
noncomputable def f150_r3 (c : CallF) : RF := rg [1, 3] <| aX 3 (pM (cn (.fn 163 []))) <|
 aXZ
noncomputable def f150_r4 (c : CallF) : RF := rg [1, 3, 4, 5, 6, 7] <| aX 23 (pF 1 1 1) <|
 aX 24 (pL false 1 23) <|
 aX 25 (pK c false 164 [24]) <|
 aX 22 (pM 25) <|
 aX 26 (pE 0 22) <|
 aX 27 (pE 1 22) <|
 aX 28 (pE 2 22) <|
 aX 29 (pE 3 22) <|
 aX 4 (pM 26) <|
 aX 5 (pM 27) <|
 aX 6 (pM 28) <|
 aX 7 (pM 29) <|
 aXZ
noncomputable def f150_r5 (c : CallF) : RF := rg [2] <| aX 30 (pM 3) <|
 aX 31 (pM 4) <|
 aX 32 (pF 2 1 1) <|
 aX 33 (pL false 1 32) <|
 aX 34 (fun n e M => oCall cx c false n (eget e 30) [(eget e 31), (eget e 33), (.int .i64 0), (.int .i64 39)] M) <|
 aX 35 (pM 34) <|
 aX 36 (pG 35 true (pM 3)) <|
 aX 37 (pG 35 true (pM 5)) <|
 aX 38 (pG 35 true (pF 3 1 1)) <|
 aX 39 (pG 35 true (pL false 1 38)) <|
 aX 40 (pG 35 true (fun n e M => oCall cx c false n (eget e 36) [(eget e 37), (eget e 39), (.int .i64 0), (.int .i64 15)] M)) <|
 aX 41 (pP 35 40 (cn (.bool false))) <|
 aX 42 (pM 41) <|
 aX 43 (pG 42 true (pM 3)) <|
 aX 44 (pG 42 true (pM 6)) <|
 aX 45 (pG 42 true (pF 4 1 1)) <|
 aX 46 (pG 42 true (pL false 1 45)) <|
 aX 47 (pG 42 true (fun n e M => oCall cx c false n (eget e 43) [(eget e 44), (eget e 46), (.int .i64 0), (.int .i64 15)] M)) <|
 aX 48 (pP 42 47 (cn (.bool false))) <|
 aX 49 (pM 48) <|
 aX 50 (pG 49 true (pM 3)) <|
 aX 51 (pG 49 true (pM 7)) <|
 aX 52 (pG 49 true (pF 5 1 1)) <|
 aX 53 (pG 49 true (pL false 1 52)) <|
 aX 54 (pG 49 true (fun n e M => oCall cx c false n (eget e 50) [(eget e 51), (eget e 53), (.int .i64 1), (.int .i64 100000000)] M)) <|
 aX 55 (pP 49 54 (cn (.bool false))) <|
 aX 2 (pM 55) <|
 aXZ
noncomputable def f150 (c : CallF) (k : Nat) : St :=
 (bSeq (bReg (f150_r0 c))
 (bSeq (bSeq (bReg (f150_r1 c))
 (bCond (.tmp 21) (bSeq (bReg (f150_r2 c))
 (bEx .ret)) (bEx .nrm)))
 (bSeq (bReg (f150_r3 c))
 (bSeq (bReg (f150_r4 c))
 (bSeq (bReg (f150_r5 c))
 (bEx .ret))))))
theorem f150_eq (c : CallF) (k : Nat) : exec cx c 56 f150_an k (Try.f150.body.getD .skip) = f150 c k := by kernel_rfl
/-! ### f151: loop.example/g01263/impl.do -/
def f151_an : Ann := ⟨[(0, ⟨[0], [], [], [], [2, 3, 4]⟩), (1, r0 [2, 3, 4, 16]), (2, r0 [4, 5]), (3, r0 [2, 3, 4, 6, 7, 8]), (4, r0 [2, 3, 4, 6, 7, 8, 10]), (5, r0 [2, 3, 4, 7, 8, 55]), (6, r0 [4, 5]), (7, r0 [2, 3, 4, 7, 67]), (8, r0 [4, 5]), (9, ⟨[], [1], [], [], [2, 3, 4, 7]⟩), (10, r0 [2, 3, 4, 7]), (11, r0 [2, 3, 4, 7, 76]), (12, r0 [2, 3, 4, 80]), (13, r0 [4, 5]), (14, ⟨[14], [], [], [], [2, 4]⟩), (15, r0 [4, 5]), (16, r0 [2, 3, 4, 7, 11]), (17, r0 [2, 3, 4, 11, 134]), (18, r0 [4, 5]), (19, r0 [2, 3, 4, 11, 137]), (20, r0 [2, 3, 4, 11, 137, 138]), (21, r0 [2, 3, 4, 11]), (22, r0 [2, 4, 11, 151]), (23, r0 [2, 4]), (24, r0 [2, 3, 4, 11, 137, 155]), (25, r0 [2, 3, 4, 11, 167]), (26, r0 [4, 5]), (27, ⟨[], [], [], [12], [2, 3, 4, 11]⟩), (28, ⟨[], [], [], [12], [2, 3, 4, 11]⟩), (29, ⟨[], [], [], [9], [2, 4, 11]⟩), (30, r0 [2, 4, 210]), (31, r0 [4, 5]), (32, r0 [2, 4, 11, 212]), (33, r0 [2, 4]), (34, r0 [4, 5])], []⟩
noncomputable def f151_r0 (c : CallF) : RF := rg [2, 3, 4] <| aX 2 (fun n e M => aBoxO n 50 3 (eget e 0) M) <|
 aX 3 (pBox 6 1) <|
 aX 4 (pAl 50 3) <|
 aX 5 (pM (cn (.int .i64 0))) <|
 aXZ
noncomputable def f151_r1 (c : CallF) : RF := rg [2, 3, 4, 16] <| aX 12 (pF 0 1 3) <|
 aX 13 (pL false 1 12) <|
 aX 14 (pF 0 1 2) <|
 aX 15 (pL false 1 14) <|
 aX 16 (pB .lss 2 13 15) <|
 aXZ
noncomputable def f151_r2 (c : CallF) : RF := rg [4, 5] <| aX 17 (fun n e M => keep (aBuild (zeroOf cx.P 50) [] M)) <|
 aX0 (pS 3 4 17) <|
 aX 5 (pM (cn (.int .i64 4))) <|
 aXZ
noncomputable def f151_r3 (c : CallF) : RF := rg [2, 3, 4, 6, 7, 8] <| aX 19 (pF 1 1 3) <|
 aX 20 (pL false 1 19) <|
 aX 21 (pK c false 164 [20]) <|
 aX 18 (pM 21) <|
 aX 22 (pE 0 18) <|
 aX 23 (pE 1 18) <|
 aX 24 (pE 2 18) <|
 aX 25 (pE 3 18) <|
 aX 6 (pM 22) <|
 aX 7 (pM 23) <|
 aX 8 (pM 24) <|
 aX 9 (pM 25) <|
 aXZ
noncomputable def f151_r4 (c : CallF) : RF := rg [2, 3, 4, 6, 7, 8, 10] <| aX 26 (pF 1 1 2) <|
 aX 27 (pL false 1 26) <|
 aX 28 (pLen 24 27) <|
 aX 10 (pM 28) <|
 aXZ
noncomputable def f151_r5 (c : CallF) : RF := rg [2, 3, 4, 7, 8, 55] <| aX 29 (pM 7) <|
 aX 30 (pM 29) <|
 aX 31 (pG 30 true (pF 3 1 3)) <|
 aX 32 (pG 30 true (pL false 1 31)) <|
 aX 33 (pG 30 true (pM 10)) <|
 aX 34 (pG 30 true (pB .geq 2 32 33)) <|
 aX 35 (pP 30 34 (cn (.bool false))) <|
 aX 36 (pM 35) <|
 aX 37 (pG 36 false (pM 8)) <|
 aX 38 (pG 36 false (pM 37)) <|
 aX 39 (pG 38 true (pF 4 1 3)) <|
 aX 40 (pG 38 true (pL false 1 39)) <|
 aX 41 (pG 38 true (pM 10)) <|
 aX 42 (pG 38 true (pB .geq 2 40 41)) <|
 aX 43 (pG 36 false (pP 38 42 (cn (.bool false)))) <|
 aX 44 (pP 36 (cn (.bool true)) 43) <|
 aX 45 (pM 44) <|
 aX 46 (pG 45 false (pM 6)) <|
 aX 47 (pG 45 false (pM 46)) <|
 aX 48 (pG 47 true (pF 2 1 3)) <|
 aX 49 (pG 47 true (pL false 1 48)) <|
 aX 50 (pG 47 true (pF 2 1 2)) <|
 aX 51 (pG 47 true (pL false 1 50)) <|
 aX 52 (pG 47 true (pLen 48 51)) <|
 aX 53 (pG 47 true (pB .geq 2 49 52)) <|
 aX 54 (pG 45 false (pP 47 53 (cn (.bool false)))) <|
 aX 55 (pP 45 (cn (.bool true)) 54) <|
 aXZ
noncomputable def f151_r6 (c : CallF) : RF := rg [4, 5] <| aX 56 (fun n e M => keep (aBuild (zeroOf cx.P 50) [] M)) <|
 aX0 (pS 3 4 56) <|
 aX 5 (pM (cn (.int .i64 2))) <|
 aXZ
noncomputable def f151_r7 (c : CallF) : RF := rg [2, 3, 4, 7, 67] <| aX 57 (pM 7) <|
 aX 58 (pM 57) <|
 aX 59 (pG 58 true (pM 8)) <|
 aX 60 (pP 58 59 (cn (.bool false))) <|
 aX 61 (pM 60) <|
 aX 62 (pG 61 true (pF 3 1 3)) <|
 aX 63 (pG 61 true (pL false 1 62)) <|
 aX 64 (pG 61 true (pF 4 1 3)) <|
 aX 65 (pG 61 true (pL false 1 64)) <|
 aX 66 (pG 61 true (pB .eql 2 63 65)) <|
 aX 67 (pP 61 66 (cn (.bool false))) <|
 aXZ
noncomputable def f151_r8 (c : CallF) : RF := rg [4, 5] <| aX 68 (fun n e M => keep (aBuild (zeroOf cx.P 50) [] M)) <|
 aX0 (pS 3 4 68) <|
 aX 5 (pM (cn (.int .i64 4))) <|
 aXZ
noncomputable def f151_r9 (c : CallF) : RF := rg [2, 3, 4, 7] <| aX 69 (pL true 3 2) <|
 aX 70 (pK c true 123 [69]) <|
 aX0 (pS 3 2 70) <|
 aXZ
noncomputable def f151_r10 (c : CallF) : RF := rg [2, 3, 4, 7] <| aX 71 (pF 0 1 3) <|
 aX 72 (pL false 1 71) <|
 aX 73 (pF 0 1 2) <|
 aX0 (pS 1 73 72) <|
 aXZ
noncomputable def f151_r11 (c : CallF) : RF := rg [2, 3, 4, 7, 76] <| aX 74 (pF 1 1 3) <|
 aX 75 (pL false 1 74) <|
 aX 76 (pB .eql 58 75 (cn (.int .i8 1))) <|
 aXZ
noncomputable def f151_r12 (c : CallF) : RF := rg [2, 3, 4, 80] <| aX 77 (pF 2 1 2) <|
 aX 78 (pL false 1 77) <|
 aX 79 (pLen 48 78) <|
 aX 80 (pB .eql 3 79 (cn (.int .i64 40))) <|
 aXZ
noncomputable def f151_r13 (c : CallF) : RF := rg [4, 5] <| aX 81 (fun n e M => keep (aBuild (zeroOf cx.P 50) [] M)) <|
 aX0 (pS 3 4 81) <|
 aX 5 (pM (cn (.int .i64 3))) <|
 aXZ
noncomputable def f151_r14 (c : CallF) : RF := rg [2, 4] <| aX 82 (pF 2 1 2) <|
 aX 83 (pL false 1 82) <|
 aX 84 (pF 3 1 3) <|
 aX 85 (pL false 1 84) <|
 aX 86 (pF 4 1 3) <|
 aX 87 (pL false 1 86) <|
 aX 88 (pF 0 1 3) <|
 aX 89 (pL false 1 88) <|
 aX 90 (pF 5 1 3) <|
 aX 91 (pL false 1 90) <|
 aX 92 (pF 5 1 3) <|
 aX 93 (pL false 1 92) <|
 aX 94 (fun n e M => keep (aBuild (zeroOf cx.P 110) [(0, 1, (eget e 85)), (1, 1, (eget e 87)), (2, 1, (eget e 89)), (3, 1, (eget e 91)), (4, 1, (eget e 93))] M)) <|
 aX 95 (fun n e M => keep (aLitI 110 5 [(eget e 94)] M)) <|
 aX 96 (fun n e M => aAppO n 110 5 40 (eget e 83) (eget e 95) M) <|
 aX 97 (pF 2 1 2) <|
 aX0 (pS 1 97 96) <|
 aXZ
noncomputable def f151_r15 (c : CallF) : RF := rg [4, 5] <| aX 98 (pL true 3 2) <|
 aX0 (pS 3 4 98) <|
 aX 5 (pM (cn (.int .i64 0))) <|
 aXZ
noncomputable def f151_r16 (c : CallF) : RF := rg [2, 3, 4, 7, 11] <| aX 99 (pF 2 1 2) <|
 aX 100 (pL false 1 99) <|
 aX 101 (pF 2 1 3) <|
 aX 102 (pL false 1 101) <|
 aX 103 (pI 5 100 102) <|
 aX 11 (pM 103) <|
 aXZ
noncomputable def f151_r17 (c : CallF) : RF := rgD [2, 3, 4, 11, 134] (aY 104 (pM 7) <|
 aY 105 (pM 104) <|
 aY 106 (pG 105 true (pF 3 1 3)) <|
 aY 107 (pG 105 true (pL false 1 106)) <|
 aY 108 (pG 105 true (pM 11)) <|
 aY 109 (pG 105 true (pN 108)) <|
 aY 110 (pG 105 true (pF 1 1 109)) <|
 aY 111 (pG 105 true (pL false 1 110)) <|
 aY 112 (pG 105 true (pB .neq 2 107 111)) <|
 aY 113 (pP 105 112 (cn (.bool false))) <|
 aY 114 (pM 113) <|
 aY 115 (pG 114 false (pM 11)) <|
 aY 116 (pG 114 false (pN 115)) <|
 aY 117 (pG 114 false (pF 4 1 116)) <|
 aY 118 (pG 114 false (pL false 1 117)) <|
 aY 119 (pG 114 false (pB .eql 2 118 (cn (.int .i64 0)))) <|
 aY 120 (pP 114 (cn (.bool true)) 119) <|
 aY 121 (pM 120) <|
 aY 122 (pG 121 false (pF 1 1 3)) <|
 aY 123 (pG 121 false (pL false 1 122)) <|
 aY 124 (pG 121 false (pB .eql 58 123 (cn (.int .i8 3)))) <|
 aY 125 (pG 121 false (pM 124)) <|
 aY 126 (pG 125 true (pF 5 1 3)) <|
 aY 127 (pG 125 true (pL false 1 126)) <|
 aY 128 (pG 125 true (pM 11)) <|
 aY 129 (pG 125 true (pN 128)) <|
 aY 130 (pG 125 true (pF 4 1 129)) <|
 aY 131 (pG 125 true (pL false 1 130)) <|
 aY 132 (pG 125 true (pB .gtr 2 127 131)) <|
 aY 133 (pG 121 false (pP 125 132 (cn (.bool false)))) <|
 aY 134 (pP 121 (cn (.bool true)) 133) <|
 aYZ)
 (aXZ)
noncomputable def f151_r18 (c : CallF) : RF := rg [4, 5] <| aX 135 (fun n e M => keep (aBuild (zeroOf cx.P 50) [] M)) <|
 aX0 (pS 3 4 135) <|
 aX 5 (pM (cn (.int .i64 4))) <|
 aXZ
noncomputable def f151_r19 (c : CallF) : RF := rg [2, 3, 4, 11, 137] <| aX 136 (pF 1 1 3) <|
 aX 137 (pL false 1 136) <|
 aXZ
noncomputable def f151_r20 (c : CallF) : RF := rg [2, 3, 4, 11, 137, 138] <| aX 139 (pB .eql 58 137 (cn (.int .i8 2))) <|
 aX 138 (pM 139) <|
 aXZ
noncomputable def f151_r21 (c : CallF) : RF := rg [2, 3, 4, 11] <| aX 140 (pM 11) <|
 aX 141 (pF 4 1 3) <|
 aX 142 (pL false 1 141) <|
 aX 143 (pN 140) <|
 aX 144 (pF 1 1 143) <|
 aX0 (pS 1 144 142) <|
 aXZ
noncomputable def f151_r22 (c : CallF) : RF := rgD [2, 4, 11, 151] (aY 145 (pF 4 1 3) <|
 aY 146 (pL false 1 145) <|
 aY 147 (pM 11) <|
 aY 148 (pN 147) <|
 aY 149 (pF 0 1 148) <|
 aY 150 (pL false 1 149) <|
 aY 151 (pB .eql 2 146 150) <|
 aYZ)
 (aXZ)
noncomputable def f151_r23 (c : CallF) : RF := rg [2, 4] <| aX 152 (pM 11) <|
 aX 153 (pN 152) <|
 aX 154 (pF 4 1 153) <|
 aX0 (pS 1 154 (cn (.int .i64 0))) <|
 aXZ
noncomputable def f151_r24 (c : CallF) : RF := rg [2, 3, 4, 11, 137, 155] <| aX 156 (pB .eql 58 137 (cn (.int .i8 3))) <|
 aX 155 (pM 156) <|
 aXZ
noncomputable def f151_r25 (c : CallF) : RF := rgD [2, 3, 4, 11, 167] (aY 157 (pF 1 1 2) <|
 aY 158 (pL false 1 157) <|
 aY 159 (pM 11) <|
 aY 160 (pN 159) <|
 aY 161 (pF 0 1 160) <|
 aY 162 (pL false 1 161) <|
 aY 163 (pI 1 158 162) <|
 aY 164 (pL false 1 163) <|
 aY 165 (pF 5 1 3) <|
 aY 166 (pL false 1 165) <|
 aY 167 (pB .lss 2 164 166) <|
 aYZ)
 (aXZ)
noncomputable def f151_r26 (c : CallF) : RF := rg [4, 5] <| aX 168 (fun n e M => keep (aBuild (zeroOf cx.P 50) [] M)) <|
 aX0 (pS 3 4 168) <|
 aX 5 (pM (cn (.int .i64 8))) <|
 aXZ
noncomputable def f151_r27 (c : CallF) : RF := rgD [2, 3, 4, 11] (aY 169 (pF 1 1 2) <|
 aY 170 (pL false 1 169) <|
 aY 171 (pM 11) <|
 aY 172 (pN 171) <|
 aY 173 (pF 0 1 172) <|
 aY 174 (pL false 1 173) <|
 aY 175 (pI 1 170 174) <|
 aY 176 (pL false 1 175) <|
 aY 177 (pF 5 1 3) <|
 aY 178 (pL false 1 177) <|
 aY 179 (pB .sub 2 176 178) <|
 aY 180 (pI 1 170 174) <|
 aYZ)
 (aX0 (pS 1 180 179) <|
 aXZ)
noncomputable def f151_r28 (c : CallF) : RF := rgD [2, 3, 4, 11] (aY 181 (pF 1 1 2) <|
 aY 182 (pL false 1 181) <|
 aY 183 (pM 11) <|
 aY 184 (pN 183) <|
 aY 185 (pF 1 1 184) <|
 aY 186 (pL false 1 185) <|
 aY 187 (pI 1 182 186) <|
 aY 188 (pL false 1 187) <|
 aY 189 (pF 5 1 3) <|
 aY 190 (pL false 1 189) <|
 aY 191 (pB .add 2 188 190) <|
 aY 192 (pI 1 182 186) <|
 aYZ)
 (aX0 (pS 1 192 191) <|
 aXZ)
noncomputable def f151_r29 (c : CallF) : RF := rgD [2, 4, 11] (aY 193 (pM 11) <|
 aY 194 (pN 193) <|
 aY 195 (pF 4 1 194) <|
 aY 196 (pL false 1 195) <|
 aY 197 (pF 5 1 3) <|
 aY 198 (pL false 1 197) <|
 aY 199 (pB .sub 2 196 198) <|
 aY 200 (pN 193) <|
 aY 201 (pF 4 1 200) <|
 aYZ)
 (aX0 (pS 1 201 199) <|
 aXZ)
noncomputable def f151_r30 (c : CallF) : RF := rgD [2, 4, 210] (aY 202 (pF 1 1 2) <|
 aY 203 (pL false 1 202) <|
 aY 204 (pM 11) <|
 aY 205 (pN 204) <|
 aY 206 (pF 1 1 205) <|
 aY 207 (pL false 1 206) <|
 aY 208 (pI 1 203 207) <|
 aY 209 (pL false 1 208) <|
 aY 210 (pB .gtr 2 209 (cn (.int .i64 100000000))) <|
 aYZ)
 (aXZ)
noncomputable def f151_r31 (c : CallF) : RF := rg [4, 5] <| aX 211 (fun n e M => keep (aBuild (zeroOf cx.P 50) [] M)) <|
 aX0 (pS 3 4 211) <|
 aX 5 (pM (cn (.int .i64 3))) <|
 aXZ
noncomputable def f151_r32 (c : CallF) : RF := rg [2, 4, 11, 212] <| aX 213 (pB .eql 58 137 (cn (.int .i8 4))) <|
 aX 212 (pM 213) <|
 aXZ
noncomputable def f151_r33 (c : CallF) : RF := rg [2, 4] <| aX 214 (pM 11) <|
 aX 215 (pN 214) <|
 aX 216 (pF 4 1 215) <|
 aX0 (pS 1 216 (cn (.int .i64 0))) <|
 aXZ
noncomputable def f151_r34 (c : CallF) : RF := rg [4, 5] <| aX 217 (pL true 3 2) <|
 aX0 (pS 3 4 217) <|
 aX 5 (pM (cn (.int .i64 0))) <|
 aXZ
noncomputable def f151 (c : CallF) (k : Nat) : St :=
 (bSeq (bReg (f151_r0 c))
 (bSeq (bSeq (bReg (f151_r1 c))
 (bCond (.tmp 16) (bSeq (bReg (f151_r2 c))
 (bEx .ret)) (bEx .nrm)))
 (bSeq (bReg (f151_r3 c))
 (bSeq (bReg (f151_r4 c))
 (bSeq (bSeq (bReg (f151_r5 c))
 (bCond (.tmp 55) (bSeq (bReg (f151_r6 c))
 (bEx .ret)) (bEx .nrm)))
 (bSeq (bSeq (bReg (f151_r7 c))
 (bCond (.tmp 67) (bSeq (bReg (f151_r8 c))
 (bEx .ret)) (bEx .nrm)))
 (bSeq (bReg (f151_r9 c))
 (bSeq (bReg (f151_r10 c))
 (bSeq (bSeq (bReg (f151_r11 c))
 (bCond (.tmp 76) (bSeq (bSeq (bReg (f151_r12 c))
 (bCond (.tmp 80) (bSeq (bReg (f151_r13 c))
 (bEx .ret)) (bEx .nrm)))
 (bSeq (bReg (f151_r14 c))
 (bSeq (bReg (f151_r15 c))
 (bEx .ret)))) (bEx .nrm)))
 (bSeq (bReg (f151_r16 c))
 (bSeq (bSeq (bReg (f151_r17 c))
 (bCond (.tmp 134) (bSeq (bReg (f151_r18 c))
 (bEx .ret)) (bEx .nrm)))
 (bSeq (bSeq (bReg (f151_r19 c))
 (bBlock 0 (bSeq (bReg (f151_r20 c))
 (bCond (.tmp 138) (bSeq (bReg (f151_r21 c))
 (bSeq (bReg (f151_r22 c))
 (bCond (.tmp 151) (bReg (f151_r23 c)) (bEx .nrm)))) (bSeq (bReg (f151_r24 c))
 (bCond (.tmp 155) (bSeq (bSeq (bReg (f151_r25 c))
 (bCond (.tmp 167) (bSeq (bReg (f151_r26 c))
 (bEx .ret)) (bEx .nrm)))
 (bSeq (bReg (f151_r27 c))
 (bSeq (bReg (f151_r28 c))
 (bSeq (bReg (f151_r29 c))
 (bSeq (bReg (f151_r30 c))
 (bCond (.tmp 210) (bSeq (bReg (f151_r31 c))
 (bEx .ret)) (bEx .nrm))))))) (bSeq (bReg (f151_r32 c))
 (bCond (.tmp 212) (bReg (f151_r33 c)) (bEx .nrm)))))))))
 (bSeq (bReg (f151_r34 c))
 (bEx .ret))))))))))))))
theorem f151_eq (c : CallF) (k : Nat) : exec cx c 218 f151_an k (Try.f151.body.getD .skip) = f151 c k := by kernel_rfl
/-! ### f152: slices.Clone[[]int64,int64] -/
def f152_an : Ann := ⟨[(0, r0 [0]), (1, r0 [0, 4]), (2, r0 [2]), (3, r0 [2])], []⟩
noncomputable def f152_r0 (c : CallF) : RF := rg [0] <| aX 2 (pM (cn .nils)) <|
 aXZ
noncomputable def f152_r1 (c : CallF) : RF := rg [0, 4] <| aX 3 (pM 0) <|
 aX 4 (pB .eql 24 3 (cn .nils)) <|
 aXZ
noncomputable def f152_r2 (c : CallF) : RF := rg [2] <| aX 2 (pM (cn .nils)) <|
 aXZ
noncomputable def f152_r3 (c : CallF) : RF := rg [2] <| aX 5 (fun n e M => keep (aLitI 2 1 [] M)) <|
 aX 6 (pM 0) <|
 aX 7 (fun n e M => aAppI 2 1 8 (eget e 5) (eget e 6) M) <|
 aX 2 (pM 7) <|
 aXZ
noncomputable def f152 (c : CallF) (k : Nat) : St :=
 (bSeq (bReg (f152_r0 c))
 (bSeq (bSeq (bReg (f152_r1 c))
 (bCond (.tmp 4) (bSeq (bReg (f152_r2 c))
 (bEx .ret)) (bEx .nrm)))
 (bSeq (bReg (f152_r3 c))
 (bEx .ret))))
theorem f152_eq (c : CallF) (k : Nat) : exec cx c 8 f152_an k (Try.f152.body.getD .skip) = f152 c k := by kernel_rfl
/-! ### f153: slices.Clone[[]loop.example/g01263/impl.Tally,loop.example/g01263/impl.Tally] -/
def f153_an : Ann := ⟨[(0, r0 [0]), (1, r0 [0, 4]), (2, r0 [2]), (3, r0 [2])], []⟩
noncomputable def f153_r0 (c : CallF) : RF := rg [0] <| aX 2 (pM (cn .nils)) <|
 aXZ
noncomputable def f153_r1 (c : CallF) : RF := rg [0, 4] <| aX 3 (pM 0) <|
 aX 4 (pB .eql 48 3 (cn .nils)) <|
 aXZ
noncomputable def f153_r2 (c : CallF) : RF := rg [2] <| aX 2 (pM (cn .nils)) <|
 aXZ
noncomputable def f153_r3 (c : CallF) : RF := rg [2] <| aX 5 (fun n e M => keep (aLitI 110 5 [] M)) <|
 aX 6 (pM 0) <|
 aX 7 (fun n e M => aAppI 110 5 40 (eget e 5) (eget e 6) M) <|
 aX 2 (pM 7) <|
 aXZ
noncomputable def f153 (c : CallF) (k : Nat) : St :=
 (bSeq (bReg (f153_r0 c))
 (bSeq (bSeq (bReg (f153_r1 c))
 (bCond (.tmp 4) (bSeq (bReg (f153_r2 c))
 (bEx .ret)) (bEx .nrm)))
 (bSeq (bReg (f153_r3 c))
 (bEx .ret))))
theorem f153_eq (c : CallF) (k : Nat) : exec cx c 8 f153_an k (Try.f153.body.getD .skip) = f153 c k := by kernel_rfl
/-! ### f163: loop.example/g01263/impl.ValidDeal$1 -/
def f163_an : Ann := ⟨[(0, r0 [0, 1, 2, 3]), (1, r0 [8])], []⟩
noncomputable def f163_r0 (c : CallF) : RF := rg [0, 1, 2, 3] <| aX 8 (pM (cn (.bool false))) <|
 aXZ
noncomputable def f163_r1 (c : CallF) : RF := rg [8] <| aX 9 (pM 0) <|
 aX 10 (pM 9) <|
 aX 11 (pG 10 true (pM 1)) <|
 aX 12 (pG 10 true (pM 2)) <|
 aX 13 (pG 10 true (pB .geq 2 11 12)) <|
 aX 14 (pP 10 13 (cn (.bool false))) <|
 aX 15 (pM 14) <|
 aX 16 (pG 15 true (pM 1)) <|
 aX 17 (pG 15 true (pM 3)) <|
 aX 18 (pG 15 true (pB .leq 2 16 17)) <|
 aX 19 (pP 15 18 (cn (.bool false))) <|
 aX 20 (pM 19) <|
 aX 21 (pG 20 false (pM 0)) <|
 aX 22 (pG 20 false (pU .not 21)) <|
 aX 23 (pG 20 false (pM 22)) <|
 aX 24 (pG 23 true (pM 1)) <|
 aX 25 (pG 23 true (pB .eql 2 24 (cn (.int .i64 0)))) <|
 aX 26 (pG 20 false (pP 23 25 (cn (.bool false)))) <|
 aX 27 (pP 20 (cn (.bool true)) 26) <|
 aX 8 (pM 27) <|
 aXZ
noncomputable def f163 (c : CallF) (k : Nat) : St :=
 (bSeq (bReg (f163_r0 c))
 (bSeq (bReg (f163_r1 c))
 (bEx .ret)))
theorem f163_eq (c : CallF) (k : Nat) : exec cx c 28 f163_an k (Try.f163.body.getD .skip) = f163 c k := by kernel_rfl
/-! ### f164: loop.example/g01263/impl.uses -/
def f164_an : Ann := ⟨[(0, r0 [0]), (1, r0 [6]), (2, r0 [6, 7]), (3, r0 [2, 3, 4, 5]), (4, r0 [6, 9]), (5, r0 [2, 3, 4, 5]), (6, r0 [11]), (7, r0 [2, 3, 4, 5]), (8, r0 [2, 3, 4, 5])], []⟩
noncomputable def f164_r0 (c : CallF) : RF := rg [0] <| aX 2 (pM (cn (.bool false))) <|
 aX 3 (pM (cn (.bool false))) <|
 aX 4 (pM (cn (.bool false))) <|
 aX 5 (pM (cn (.bool false))) <|
 aXZ
noncomputable def f164_r1 (c : CallF) : RF := rg [6] <| aX 6 (pM 0) <|
 aXZ
noncomputable def f164_r2 (c : CallF) : RF := rg [6, 7] <| aX 8 (pB .eql 58 6 (cn (.int .i8 1))) <|
 aX 7 (pM 8) <|
 aXZ
noncomputable def f164_r3 (c : CallF) : RF := rg [2, 3, 4, 5] <| aX 2 (pM (cn (.bool false))) <|
 aX 3 (pM (cn (.bool true))) <|
 aX 4 (pM (cn (.bool true))) <|
 aX 5 (pM (cn (.bool true))) <|
 aXZ
noncomputable def f164_r4 (c : CallF) : RF := rg [6, 9] <| aX 10 (pB .eql 58 6 (cn (.int .i8 2))) <|
 aX 9 (pM 10) <|
 aXZ
noncomputable def f164_r5 (c : CallF) : RF := rg [2, 3, 4, 5] <| aX 2 (pM (cn (.bool true))) <|
 aX 3 (pM (cn (.bool true))) <|
 aX 4 (pM (cn (.bool true))) <|
 aX 5 (pM (cn (.bool false))) <|
 aXZ
noncomputable def f164_r6 (c : CallF) : RF := rg [11] <| aX 12 (pB .eql 58 6 (cn (.int .i8 3))) <|
 aX 11 (pM 12) <|
 aXZ
noncomputable def f164_r7 (c : CallF) : RF := rg [2, 3, 4, 5] <| aX 2 (pM (cn (.bool true))) <|
 aX 3 (pM (cn (.bool false))) <|
 aX 4 (pM (cn (.bool false))) <|
 aX 5 (pM (cn (.bool true))) <|
 aXZ
noncomputable def f164_r8 (c : CallF) : RF := rg [2, 3, 4, 5] <| aX 2 (pM (cn (.bool true))) <|
 aX 3 (pM (cn (.bool true))) <|
 aX 4 (pM (cn (.bool false))) <|
 aX 5 (pM (cn (.bool false))) <|
 aXZ
noncomputable def f164 (c : CallF) (k : Nat) : St :=
 (bSeq (bReg (f164_r0 c))
 (bSeq (bSeq (bReg (f164_r1 c))
 (bBlock 0 (bSeq (bReg (f164_r2 c))
 (bCond (.tmp 7) (bSeq (bReg (f164_r3 c))
 (bEx .ret)) (bSeq (bReg (f164_r4 c))
 (bCond (.tmp 9) (bSeq (bReg (f164_r5 c))
 (bEx .ret)) (bSeq (bReg (f164_r6 c))
 (bCond (.tmp 11) (bSeq (bReg (f164_r7 c))
 (bEx .ret)) (bEx .nrm)))))))))
 (bSeq (bReg (f164_r8 c))
 (bEx .ret))))
theorem f164_eq (c : CallF) (k : Nat) : exec cx c 13 f164_an k (Try.f164.body.getD .skip) = f164 c k := by kernel_rfl
def anns : List (Nat × Ann) := [(5, f5_an), (12, f12_an), (22, f22_an), (23, f23_an), (24, f24_an), (25, f25_an), (26, f26_an), (27, f27_an), (28, f28_an), (29, f29_an), (33, f33_an), (56, f56_an), (57, f57_an), (58, f58_an), (59, f59_an), (60, f60_an), (61, f61_an), (62, f62_an), (63, f63_an), (64, f64_an), (65, f65_an), (69, f69_an), (70, f70_an), (76, f76_an), (87, f87_an), (88, f88_an), (89, f89_an), (90, f90_an), (91, f91_an), (92, f92_an), (93, f93_an), (117, f117_an), (118, f118_an), (119, f119_an), (120, f120_an), (121, f121_an), (122, f122_an), (123, f123_an), (143, f143_an), (144, f144_an), (145, f145_an), (146, f146_an), (147, f147_an), (148, f148_an), (149, f149_an), (150, f150_an), (151, f151_an), (152, f152_an), (153, f153_an), (163, f163_an), (164, f164_an)]
noncomputable def CN0 : Nat → CallF := callN cx (Go.Ab.look anns) (fun _ _ _ => none) (fun _ => false)
def isP (f : Nat) : Bool := has [152, 153] f
noncomputable def primF : CallF := splitNil (callN cx (Go.Ab.look anns) (fun _ _ _ => none) (fun _ => false) 3)
noncomputable def CN : Nat → CallF := callN cx (Go.Ab.look anns) primF isP
end Go.Proofs.Ytfoiojafilgolaa

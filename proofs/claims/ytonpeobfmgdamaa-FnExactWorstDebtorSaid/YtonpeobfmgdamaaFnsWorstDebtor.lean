/- Printed by a program of ours (ext.py). -/
import Derived.Test.YtonpeobfmgdamaaAbArr
import Derived.Test.YtonpeobfmgdamaaProg
set_option linter.unusedVariables false
set_option linter.unusedSimpArgs false
set_option maxRecDepth 100000
set_option maxHeartbeats 2000000
namespace Go.Proofs.Ytonpeobfmgdamaa
open Go Go.Ab
noncomputable def cx : Cx := ⟨Try.prog, fun f => has [] f⟩
noncomputable abbrev pB := pB_ cx.P
noncomputable abbrev pLen := pLen_ cx.P
noncomputable abbrev pAl := pAl_ cx.P
noncomputable abbrev pK := pK_ cx
/-! ### f3: loop.example/g01263/laws.FnExactWorstDebtor -/
def f3_an : Ann := ⟨[(0, r0 [1]), (1, r0 [1, 3]), (2, r0 [1, 3]), (3, r0 [1, 13]), (4, r0 [2]), (5, r0 [1, 4, 5]), (6, r0 [1, 4, 5, 6]), (7, r0 [1, 4, 5, 6, 7, 8]), (8, r0 [1, 6, 34]), (9, r0 [2]), (10, r0 [39]), (11, r0 [2]), (12, r0 [2])], []⟩
noncomputable def f3_r0 (c : CallF) : RF := rg [1] <| aX 1 (pBox 2 0) <|
 aX 2 (pM (cn (.bool false))) <|
 aXZ
noncomputable def f3_r1 (c : CallF) : RF := rg [1, 3] <| aX 3 (pM (cn (.int .i64 1048576))) <|
 aXZ
noncomputable def f3_r2 (c : CallF) : RF := rg [1, 3] <| aX 9 (pL true 2 1) <|
 aX 10 (pM 3) <|
 aX 11 (pK c false 6 [9, 10]) <|
 aX 3 (pM 11) <|
 aXZ
noncomputable def f3_r3 (c : CallF) : RF := rg [1, 13] <| aX 12 (pM 3) <|
 aX 13 (pB .lss 3 12 (cn (.int .i64 0))) <|
 aXZ
noncomputable def f3_r4 (c : CallF) : RF := rg [2] <| aX 2 (pM (cn (.bool true))) <|
 aXZ
noncomputable def f3_r5 (c : CallF) : RF := rg [1, 4, 5] <| aX 15 (pL true 2 1) <|
 aX 16 (pK c false 8 [15]) <|
 aX 17 (pK c false 7 [16]) <|
 aX 14 (pM 17) <|
 aX 18 (pE 0 14) <|
 aX 19 (pE 1 14) <|
 aX 4 (pM 18) <|
 aX 5 (pM 19) <|
 aXZ
noncomputable def f3_r6 (c : CallF) : RF := rg [1, 4, 5, 6] <| aX 20 (pL true 2 1) <|
 aX 21 (pK c false 8 [20]) <|
 aX 6 (pAl 30 2) <|
 aX0 (pS 2 6 21) <|
 aXZ
noncomputable def f3_r7 (c : CallF) : RF := rg [1, 4, 5, 6, 7, 8] <| aX 23 (pL true 2 6) <|
 aX 24 (pK c false 9 [23]) <|
 aX 22 (pM 24) <|
 aX 25 (pE 0 22) <|
 aX 26 (pE 1 22) <|
 aX 7 (pM 25) <|
 aX 8 (pM 26) <|
 aXZ
noncomputable def f3_r8 (c : CallF) : RF := rg [1, 6, 34] <| aX 27 (pM 7) <|
 aX 28 (pM 4) <|
 aX 29 (pB .neq 2 27 28) <|
 aX 30 (pM 29) <|
 aX 31 (pG 30 false (pM 8)) <|
 aX 32 (pG 30 false (pM 5)) <|
 aX 33 (pG 30 false (pB .neq 2 31 32)) <|
 aX 34 (pP 30 (cn (.bool true)) 33) <|
 aXZ
noncomputable def f3_r9 (c : CallF) : RF := rg [2] <| aX 2 (pM (cn (.bool false))) <|
 aXZ
noncomputable def f3_r10 (c : CallF) : RF := rgD [39] (aY 35 (pL true 2 6) <|
 aY 36 (pL true 2 1) <|
 aY 37 (pK c false 8 [36]) <|
 aY 38 (pK c false 10 [35, 37]) <|
 aY 39 (pU .not 38) <|
 aYZ)
 (aXZ)
noncomputable def f3_r11 (c : CallF) : RF := rg [2] <| aX 2 (pM (cn (.bool false))) <|
 aXZ
noncomputable def f3_r12 (c : CallF) : RF := rg [2] <| aX 2 (pM (cn (.bool true))) <|
 aXZ
noncomputable def f3 (c : CallF) (k : Nat) : St :=
 (bSeq (bReg (f3_r0 c))
 (bSeq (bReg (f3_r1 c))
 (bSeq (bReg (f3_r2 c))
 (bSeq (bSeq (bReg (f3_r3 c))
 (bCond (.tmp 13) (bSeq (bReg (f3_r4 c))
 (bEx .ret)) (bEx .nrm)))
 (bSeq (bReg (f3_r5 c))
 (bSeq (bReg (f3_r6 c))
 (bSeq (bReg (f3_r7 c))
 (bSeq (bSeq (bReg (f3_r8 c))
 (bCond (.tmp 34) (bSeq (bReg (f3_r9 c))
 (bEx .ret)) (bEx .nrm)))
 (bSeq (bSeq (bReg (f3_r10 c))
 (bCond (.tmp 39) (bSeq (bReg (f3_r11 c))
 (bEx .ret)) (bEx .nrm)))
 (bSeq (bReg (f3_r12 c))
 (bEx .ret)))))))))))
theorem f3_eq (c : CallF) (k : Nat) : exec cx c 40 f3_an k (Try.f3.body.getD .skip) = f3 c k := by kernel_rfl
/-! ### f6: loop.example/g01263/laws.szRoll -/
def f6_an : Ann := ⟨[(0, r0 [1, 2]), (1, r0 [1]), (2, r0 [1, 10]), (3, r0 [4]), (4, r0 [4])], []⟩
noncomputable def f6_r0 (c : CallF) : RF := rg [1, 2] <| aX 2 (pBox 2 0) <|
 aX 4 (pM (cn (.int .i64 0))) <|
 aXZ
noncomputable def f6_r1 (c : CallF) : RF := rg [1] <| aX 5 (pF 0 1 2) <|
 aX 6 (pL false 1 5) <|
 aX 7 (pM 1) <|
 aX 8 (pK c false 11 [6, 7]) <|
 aX 1 (pM 8) <|
 aXZ
noncomputable def f6_r2 (c : CallF) : RF := rg [1, 10] <| aX 9 (pM 1) <|
 aX 10 (pB .lss 3 9 (cn (.int .i64 0))) <|
 aXZ
noncomputable def f6_r3 (c : CallF) : RF := rg [4] <| aX 4 (pM (cn (.int .i64 (-1)))) <|
 aXZ
noncomputable def f6_r4 (c : CallF) : RF := rg [4] <| aX 11 (pM 1) <|
 aX 4 (pM 11) <|
 aXZ
noncomputable def f6 (c : CallF) (k : Nat) : St :=
 (bSeq (bReg (f6_r0 c))
 (bSeq (bReg (f6_r1 c))
 (bSeq (bSeq (bReg (f6_r2 c))
 (bCond (.tmp 10) (bSeq (bReg (f6_r3 c))
 (bEx .ret)) (bEx .nrm)))
 (bSeq (bReg (f6_r4 c))
 (bEx .ret)))))
theorem f6_eq (c : CallF) (k : Nat) : exec cx c 12 f6_an k (Try.f6.body.getD .skip) = f6 c k := by kernel_rfl
/-! ### f7: loop.example/g01263/spec.WorstDebtor -/
def f7_an : Ann := ⟨[(0, r0 [1]), (1, r0 [1, 8]), (2, r0 [2, 3]), (3, r0 [1, 4]), (4, r0 [1, 4, 5]), (5, r0 [1, 4, 5, 6]), (6, r0 [1, 4, 5, 6, 13]), (7, r0 [1, 4, 5, 6]), (8, r0 [1, 4, 5, 6, 23]), (9, r0 [1, 4, 6]), (10, r0 [1, 4, 5, 6]), (11, r0 [4, 32]), (12, r0 [2, 3]), (13, r0 [2, 3])], [(6, [1, 4, 5, 6])]⟩
noncomputable def f7_r0 (c : CallF) : RF := rg [1] <| aX 1 (pBox 2 0) <|
 aX 2 (pM (cn (.int .i64 0))) <|
 aX 3 (pM (cn (.int .i64 0))) <|
 aXZ
noncomputable def f7_r1 (c : CallF) : RF := rg [1, 8] <| aX 7 (pK c false 38 [1]) <|
 aX 8 (pU .not 7) <|
 aXZ
noncomputable def f7_r2 (c : CallF) : RF := rg [2, 3] <| aX 2 (pM (cn (.int .i64 0))) <|
 aX 3 (pM (cn (.int .i64 1))) <|
 aXZ
noncomputable def f7_r3 (c : CallF) : RF := rg [1, 4] <| aX 4 (pM (cn (.int .i64 (-1)))) <|
 aXZ
noncomputable def f7_r4 (c : CallF) : RF := rg [1, 4, 5] <| aX 5 (pM (cn (.int .i64 0))) <|
 aXZ
noncomputable def f7_r5 (c : CallF) : RF := rg [1, 4, 5, 6] <| aX 6 (pM (cn (.int .i64 0))) <|
 aXZ
noncomputable def f7_r6 (c : CallF) : RF := rg [1, 4, 5, 6, 13] <| aX 9 (pM 6) <|
 aX 10 (pF 0 1 1) <|
 aX 11 (pL false 1 10) <|
 aX 12 (pLen 28 11) <|
 aX 13 (pB .lss 3 9 12) <|
 aXZ
noncomputable def f7_r7 (c : CallF) : RF := rg [1, 4, 5, 6] <| aX 14 (pM 6) <|
 aX 15 (pB .add 3 14 (cn (.int .i64 1))) <|
 aX 6 (pM 15) <|
 aXZ
noncomputable def f7_r8 (c : CallF) : RF := rg [1, 4, 5, 6, 23] <| aX 16 (pF 0 1 1) <|
 aX 17 (pL false 1 16) <|
 aX 18 (pM 6) <|
 aX 19 (pI 3 17 18) <|
 aX 20 (pF 2 1 19) <|
 aX 21 (pL false 1 20) <|
 aX 22 (pM 5) <|
 aX 23 (pB .gtr 2 21 22) <|
 aXZ
noncomputable def f7_r9 (c : CallF) : RF := rg [1, 4, 6] <| aX 24 (pM 6) <|
 aX 4 (pM 24) <|
 aXZ
noncomputable def f7_r10 (c : CallF) : RF := rg [1, 4, 5, 6] <| aX 25 (pF 0 1 1) <|
 aX 26 (pL false 1 25) <|
 aX 27 (pM 6) <|
 aX 28 (pI 3 26 27) <|
 aX 29 (pF 2 1 28) <|
 aX 30 (pL false 1 29) <|
 aX 5 (pM 30) <|
 aXZ
noncomputable def f7_r11 (c : CallF) : RF := rg [4, 32] <| aX 31 (pM 4) <|
 aX 32 (pB .lss 3 31 (cn (.int .i64 0))) <|
 aXZ
noncomputable def f7_r12 (c : CallF) : RF := rg [2, 3] <| aX 2 (pM (cn (.int .i64 0))) <|
 aX 3 (pM (cn (.int .i64 6))) <|
 aXZ
noncomputable def f7_r13 (c : CallF) : RF := rg [2, 3] <| aX 33 (pM 4) <|
 aX 2 (pM 33) <|
 aX 3 (pM (cn (.int .i64 0))) <|
 aXZ
noncomputable def f7_l6 (c : CallF) (k : Nat) : St :=
 (bSeq (bSeq (bReg (f7_r6 c))
 (bCond (.tmp 13) (bEx .nrm) (bEx (.ext 0))))
 (bSeq (bBlock 1 (bSeq (bReg (f7_r8 c))
 (bCond (.tmp 23) (bSeq (bReg (f7_r9 c))
 (bReg (f7_r10 c))) (bEx .nrm))))
 (bReg (f7_r7 c))))
noncomputable def f7 (c : CallF) (k : Nat) : St :=
 (bSeq (bReg (f7_r0 c))
 (bSeq (bSeq (bReg (f7_r1 c))
 (bCond (.tmp 8) (bSeq (bReg (f7_r2 c))
 (bEx .ret)) (bEx .nrm)))
 (bSeq (bReg (f7_r3 c))
 (bSeq (bReg (f7_r4 c))
 (bSeq (bSeq (bReg (f7_r5 c))
 (bBlock 0 (bLoop [1, 4, 5, 6] (f7_l6 c k) k)))
 (bSeq (bSeq (bReg (f7_r11 c))
 (bCond (.tmp 32) (bSeq (bReg (f7_r12 c))
 (bEx .ret)) (bEx .nrm)))
 (bSeq (bReg (f7_r13 c))
 (bEx .ret))))))))
theorem f7_eq (c : CallF) (k : Nat) : exec cx c 34 f7_an k (Try.f7.body.getD .skip) = f7 c k := by kernel_rfl
/-! ### f8: loop.example/g01263/laws.toRoll -/
def f8_an : Ann := ⟨[(0, r0 [1, 2]), (1, r0 [1, 2, 3]), (2, r0 [1, 2, 3]), (3, r0 [2, 3]), (4, r0 [2])], []⟩
noncomputable def f8_r0 (c : CallF) : RF := rg [1, 2] <| aX 1 (pBox 2 0) <|
 aX 2 (pAl 30 2) <|
 aXZ
noncomputable def f8_r1 (c : CallF) : RF := rg [1, 2, 3] <| aX 3 (pAl 30 2) <|
 aXZ
noncomputable def f8_r2 (c : CallF) : RF := rg [1, 2, 3] <| aX 4 (pF 0 1 1) <|
 aX 5 (pL false 1 4) <|
 aX 6 (pK c false 13 [5]) <|
 aX 7 (pF 0 1 3) <|
 aX0 (pS 1 7 6) <|
 aXZ
noncomputable def f8_r3 (c : CallF) : RF := rg [2, 3] <| aX 8 (pF 1 1 1) <|
 aX 9 (pL false 1 8) <|
 aX 10 (pF 1 1 3) <|
 aX0 (pS 1 10 9) <|
 aXZ
noncomputable def f8_r4 (c : CallF) : RF := rg [2] <| aX 11 (pL true 2 3) <|
 aX0 (pS 2 2 11) <|
 aXZ
noncomputable def f8 (c : CallF) (k : Nat) : St :=
 (bSeq (bReg (f8_r0 c))
 (bSeq (bReg (f8_r1 c))
 (bSeq (bReg (f8_r2 c))
 (bSeq (bReg (f8_r3 c))
 (bSeq (bReg (f8_r4 c))
 (bEx .ret))))))
theorem f8_eq (c : CallF) (k : Nat) : exec cx c 12 f8_an k (Try.f8.body.getD .skip) = f8 c k := by kernel_rfl
/-! ### f9: loop.example/g01263/impl.WorstDebtor -/
def f9_an : Ann := ⟨[(0, r0 [1]), (1, r0 [1, 10]), (2, r0 [2, 3]), (3, r0 [1, 4, 5]), (4, r0 [4, 5, 12, 13, 14]), (5, r0 [4, 5, 12, 13, 14, 15]), (6, r0 [4, 5, 6, 7, 12, 13, 14]), (7, r0 [4, 5, 6, 7, 12, 13, 14, 22]), (8, r0 [4, 7, 12, 13, 14]), (9, r0 [4, 5, 12, 13, 14]), (10, r0 [4, 5, 12, 13, 14]), (11, r0 [4, 28]), (12, r0 [2, 3]), (13, r0 [2, 3])], [(5, [4, 5, 12, 13, 14])]⟩
noncomputable def f9_r0 (c : CallF) : RF := rg [1] <| aX 1 (pBox 2 0) <|
 aX 2 (pM (cn (.int .i64 0))) <|
 aX 3 (pM (cn (.int .i64 0))) <|
 aXZ
noncomputable def f9_r1 (c : CallF) : RF := rg [1, 10] <| aX 8 (pL true 2 1) <|
 aX 9 (pK c false 39 [8]) <|
 aX 10 (pU .not 9) <|
 aXZ
noncomputable def f9_r2 (c : CallF) : RF := rg [2, 3] <| aX 2 (pM (cn (.int .i64 0))) <|
 aX 3 (pM (cn (.int .i64 1))) <|
 aXZ
noncomputable def f9_r3 (c : CallF) : RF := rg [1, 4, 5] <| aX 4 (pM (cn (.int .i64 (-1)))) <|
 aX 5 (pM (cn (.int .i64 0))) <|
 aXZ
noncomputable def f9_r4 (c : CallF) : RF := rg [4, 5, 12, 13, 14] <| aX 11 (pF 0 1 1) <|
 aX 12 (pL false 1 11) <|
 aX 13 (pLen 28 12) <|
 aX 14 (pM (cn (.int .i64 0))) <|
 aXZ
noncomputable def f9_r5 (c : CallF) : RF := rg [4, 5, 12, 13, 14, 15] <| aX 15 (pB .lss 3 14 13) <|
 aXZ
noncomputable def f9_r6 (c : CallF) : RF := rg [4, 5, 6, 7, 12, 13, 14] <| aX 16 (pM 14) <|
 aX 17 (pI 3 12 14) <|
 aX 18 (pL true 3 17) <|
 aX 7 (pAl 75 3) <|
 aX 6 (pM 16) <|
 aX0 (pS 3 7 18) <|
 aXZ
noncomputable def f9_r7 (c : CallF) : RF := rg [4, 5, 6, 7, 12, 13, 14, 22] <| aX 19 (pF 2 1 7) <|
 aX 20 (pL false 1 19) <|
 aX 21 (pM 5) <|
 aX 22 (pB .gtr 2 20 21) <|
 aXZ
noncomputable def f9_r8 (c : CallF) : RF := rg [4, 7, 12, 13, 14] <| aX 23 (pM 6) <|
 aX 4 (pM 23) <|
 aXZ
noncomputable def f9_r9 (c : CallF) : RF := rg [4, 5, 12, 13, 14] <| aX 24 (pF 2 1 7) <|
 aX 25 (pL false 1 24) <|
 aX 5 (pM 25) <|
 aXZ
noncomputable def f9_r10 (c : CallF) : RF := rg [4, 5, 12, 13, 14] <| aX 26 (pB .add 3 14 (cn (.int .i64 1))) <|
 aX 14 (pM 26) <|
 aXZ
noncomputable def f9_r11 (c : CallF) : RF := rg [4, 28] <| aX 27 (pM 4) <|
 aX 28 (pB .lss 3 27 (cn (.int .i64 0))) <|
 aXZ
noncomputable def f9_r12 (c : CallF) : RF := rg [2, 3] <| aX 2 (pM (cn (.int .i64 0))) <|
 aX 3 (pM (cn (.int .i64 6))) <|
 aXZ
noncomputable def f9_r13 (c : CallF) : RF := rg [2, 3] <| aX 29 (pM 4) <|
 aX 2 (pM 29) <|
 aX 3 (pM (cn (.int .i64 0))) <|
 aXZ
noncomputable def f9_l5 (c : CallF) (k : Nat) : St :=
 (bSeq (bReg (f9_r5 c))
 (bSeq (bCond (.tmp 15) (bEx .nrm) (bEx (.ext 0)))
 (bSeq (bBlock 1 (bSeq (bReg (f9_r6 c))
 (bSeq (bReg (f9_r7 c))
 (bCond (.tmp 22) (bSeq (bReg (f9_r8 c))
 (bReg (f9_r9 c))) (bEx .nrm)))))
 (bReg (f9_r10 c)))))
noncomputable def f9 (c : CallF) (k : Nat) : St :=
 (bSeq (bReg (f9_r0 c))
 (bSeq (bSeq (bReg (f9_r1 c))
 (bCond (.tmp 10) (bSeq (bReg (f9_r2 c))
 (bEx .ret)) (bEx .nrm)))
 (bSeq (bReg (f9_r3 c))
 (bSeq (bSeq (bReg (f9_r4 c))
 (bBlock 0 (bLoop [4, 5, 12, 13, 14] (f9_l5 c k) k)))
 (bSeq (bSeq (bReg (f9_r11 c))
 (bCond (.tmp 28) (bSeq (bReg (f9_r12 c))
 (bEx .ret)) (bEx .nrm)))
 (bSeq (bReg (f9_r13 c))
 (bEx .ret)))))))
theorem f9_eq (c : CallF) (k : Nat) : exec cx c 30 f9_an k (Try.f9.body.getD .skip) = f9 c k := by kernel_rfl
/-! ### f10: loop.example/g01263/laws.eqRoll -/
def f10_an : Ann := ⟨[(0, r0 [2, 3]), (1, r0 [2, 3, 10]), (2, r0 [4]), (3, r0 [15]), (4, r0 [4]), (5, r0 [4])], []⟩
noncomputable def f10_r0 (c : CallF) : RF := rg [2, 3] <| aX 2 (pBox 2 0) <|
 aX 3 (pBox 2 1) <|
 aX 4 (pM (cn (.bool false))) <|
 aXZ
noncomputable def f10_r1 (c : CallF) : RF := rg [2, 3, 10] <| aX 5 (pF 0 1 2) <|
 aX 6 (pL false 1 5) <|
 aX 7 (pF 0 1 3) <|
 aX 8 (pL false 1 7) <|
 aX 9 (pK c false 15 [6, 8]) <|
 aX 10 (pU .not 9) <|
 aXZ
noncomputable def f10_r2 (c : CallF) : RF := rg [4] <| aX 4 (pM (cn (.bool false))) <|
 aXZ
noncomputable def f10_r3 (c : CallF) : RF := rg [15] <| aX 11 (pF 1 1 2) <|
 aX 12 (pL false 1 11) <|
 aX 13 (pF 1 1 3) <|
 aX 14 (pL false 1 13) <|
 aX 15 (pB .neq 2 12 14) <|
 aXZ
noncomputable def f10_r4 (c : CallF) : RF := rg [4] <| aX 4 (pM (cn (.bool false))) <|
 aXZ
noncomputable def f10_r5 (c : CallF) : RF := rg [4] <| aX 4 (pM (cn (.bool true))) <|
 aXZ
noncomputable def f10 (c : CallF) (k : Nat) : St :=
 (bSeq (bReg (f10_r0 c))
 (bSeq (bSeq (bReg (f10_r1 c))
 (bCond (.tmp 10) (bSeq (bReg (f10_r2 c))
 (bEx .ret)) (bEx .nrm)))
 (bSeq (bSeq (bReg (f10_r3 c))
 (bCond (.tmp 15) (bSeq (bReg (f10_r4 c))
 (bEx .ret)) (bEx .nrm)))
 (bSeq (bReg (f10_r5 c))
 (bEx .ret)))))
theorem f10_eq (c : CallF) (k : Nat) : exec cx c 16 f10_an k (Try.f10.body.getD .skip) = f10 c k := by kernel_rfl
/-! ### f11: loop.example/g01263/laws.szAccountS -/
def f11_an : Ann := ⟨[(0, r0 [0, 1]), (1, r0 [0, 1]), (2, r0 [0, 1, 11]), (3, r0 [4]), (4, r0 [0, 1, 5]), (5, r0 [0, 1, 5, 15]), (6, r0 [0, 1, 5]), (7, r0 [0, 1, 5]), (8, r0 [0, 1, 5, 25]), (9, r0 [4]), (10, r0 [4])], [(5, [0, 1, 5])]⟩
noncomputable def f11_r0 (c : CallF) : RF := rg [0, 1] <| aX 4 (pM (cn (.int .i64 0))) <|
 aXZ
noncomputable def f11_r1 (c : CallF) : RF := rg [0, 1] <| aX 6 (pM 1) <|
 aX 7 (pM 0) <|
 aX 8 (pLen 22 7) <|
 aX 9 (pB .sub 3 6 8) <|
 aX 1 (pM 9) <|
 aXZ
noncomputable def f11_r2 (c : CallF) : RF := rg [0, 1, 11] <| aX 10 (pM 1) <|
 aX 11 (pB .lss 3 10 (cn (.int .i64 0))) <|
 aXZ
noncomputable def f11_r3 (c : CallF) : RF := rg [4] <| aX 4 (pM (cn (.int .i64 (-1)))) <|
 aXZ
noncomputable def f11_r4 (c : CallF) : RF := rg [0, 1, 5] <| aX 5 (pM (cn (.int .i64 0))) <|
 aXZ
noncomputable def f11_r5 (c : CallF) : RF := rg [0, 1, 5, 15] <| aX 12 (pM 5) <|
 aX 13 (pM 0) <|
 aX 14 (pLen 22 13) <|
 aX 15 (pB .lss 3 12 14) <|
 aXZ
noncomputable def f11_r6 (c : CallF) : RF := rg [0, 1, 5] <| aX 16 (pM 5) <|
 aX 17 (pB .add 3 16 (cn (.int .i64 1))) <|
 aX 5 (pM 17) <|
 aXZ
noncomputable def f11_r7 (c : CallF) : RF := rg [0, 1, 5] <| aX 18 (pM 0) <|
 aX 19 (pM 5) <|
 aX 20 (pI 3 18 19) <|
 aX 21 (pL true 3 20) <|
 aX 22 (pM 1) <|
 aX 23 (pK c false 40 [21, 22]) <|
 aX 1 (pM 23) <|
 aXZ
noncomputable def f11_r8 (c : CallF) : RF := rg [0, 1, 5, 25] <| aX 24 (pM 1) <|
 aX 25 (pB .lss 3 24 (cn (.int .i64 0))) <|
 aXZ
noncomputable def f11_r9 (c : CallF) : RF := rg [4] <| aX 4 (pM (cn (.int .i64 (-1)))) <|
 aXZ
noncomputable def f11_r10 (c : CallF) : RF := rg [4] <| aX 26 (pM 1) <|
 aX 4 (pM 26) <|
 aXZ
noncomputable def f11_l5 (c : CallF) (k : Nat) : St :=
 (bSeq (bSeq (bReg (f11_r5 c))
 (bCond (.tmp 15) (bEx .nrm) (bEx (.ext 0))))
 (bSeq (bBlock 1 (bSeq (bReg (f11_r7 c))
 (bSeq (bReg (f11_r8 c))
 (bCond (.tmp 25) (bSeq (bReg (f11_r9 c))
 (bEx .ret)) (bEx .nrm)))))
 (bReg (f11_r6 c))))
noncomputable def f11 (c : CallF) (k : Nat) : St :=
 (bSeq (bReg (f11_r0 c))
 (bSeq (bReg (f11_r1 c))
 (bSeq (bSeq (bReg (f11_r2 c))
 (bCond (.tmp 11) (bSeq (bReg (f11_r3 c))
 (bEx .ret)) (bEx .nrm)))
 (bSeq (bSeq (bReg (f11_r4 c))
 (bBlock 0 (bLoop [0, 1, 5] (f11_l5 c k) k)))
 (bSeq (bReg (f11_r10 c))
 (bEx .ret))))))
theorem f11_eq (c : CallF) (k : Nat) : exec cx c 27 f11_an k (Try.f11.body.getD .skip) = f11 c k := by kernel_rfl
/-! ### f13: loop.example/g01263/laws.toAccountS -/
def f13_an : Ann := ⟨[(0, r0 [0]), (1, r0 [0, 3]), (2, r0 [0, 3, 4]), (3, r0 [0, 3, 4, 11]), (4, r0 [0, 3, 4]), (5, r0 [0, 3, 4]), (6, r0 [2])], [(3, [0, 3, 4])]⟩
noncomputable def f13_r0 (c : CallF) : RF := rg [0] <| aX 2 (pM (cn .nils)) <|
 aXZ
noncomputable def f13_r1 (c : CallF) : RF := rg [0, 3] <| aX 5 (pM 0) <|
 aX 6 (pLen 22 5) <|
 aX 7 (fun n e M => aMakeO n 75 3 48 (zeroOf cx.P 75) (eget e 6) (eget e 6)) <|
 aX 3 (pM 7) <|
 aXZ
noncomputable def f13_r2 (c : CallF) : RF := rg [0, 3, 4] <| aX 4 (pM (cn (.int .i64 0))) <|
 aXZ
noncomputable def f13_r3 (c : CallF) : RF := rg [0, 3, 4, 11] <| aX 8 (pM 4) <|
 aX 9 (pM 0) <|
 aX 10 (pLen 22 9) <|
 aX 11 (pB .lss 3 8 10) <|
 aXZ
noncomputable def f13_r4 (c : CallF) : RF := rg [0, 3, 4] <| aX 12 (pM 4) <|
 aX 13 (pB .add 3 12 (cn (.int .i64 1))) <|
 aX 4 (pM 13) <|
 aXZ
noncomputable def f13_r5 (c : CallF) : RF := rg [0, 3, 4] <| aX 14 (pM 3) <|
 aX 15 (pM 4) <|
 aX 16 (pM 0) <|
 aX 17 (pM 4) <|
 aX 18 (pI 3 16 17) <|
 aX 19 (pL true 3 18) <|
 aX 20 (pK c false 45 [19]) <|
 aX 21 (pI 3 14 15) <|
 aX0 (pS 3 21 20) <|
 aXZ
noncomputable def f13_r6 (c : CallF) : RF := rg [2] <| aX 22 (pM 3) <|
 aX 2 (pM 22) <|
 aXZ
noncomputable def f13_l3 (c : CallF) (k : Nat) : St :=
 (bSeq (bSeq (bReg (f13_r3 c))
 (bCond (.tmp 11) (bEx .nrm) (bEx (.ext 0))))
 (bSeq (bBlock 1 (bReg (f13_r5 c)))
 (bReg (f13_r4 c))))
noncomputable def f13 (c : CallF) (k : Nat) : St :=
 (bSeq (bReg (f13_r0 c))
 (bSeq (bReg (f13_r1 c))
 (bSeq (bSeq (bReg (f13_r2 c))
 (bBlock 0 (bLoop [0, 3, 4] (f13_l3 c k) k)))
 (bSeq (bReg (f13_r6 c))
 (bEx .ret)))))
theorem f13_eq (c : CallF) (k : Nat) : exec cx c 23 f13_an k (Try.f13.body.getD .skip) = f13 c k := by kernel_rfl
/-! ### f15: loop.example/g01263/laws.eqAccountS -/
def f15_an : Ann := ⟨[(0, r0 [0, 1]), (1, r0 [0, 1, 10]), (2, r0 [4]), (3, r0 [0, 1, 5]), (4, r0 [0, 1, 5, 14]), (5, r0 [0, 1, 5]), (6, r0 [0, 1, 5, 26]), (7, r0 [4]), (8, r0 [4])], [(4, [0, 1, 5])]⟩
noncomputable def f15_r0 (c : CallF) : RF := rg [0, 1] <| aX 4 (pM (cn (.bool false))) <|
 aXZ
noncomputable def f15_r1 (c : CallF) : RF := rg [0, 1, 10] <| aX 6 (pM 0) <|
 aX 7 (pLen 28 6) <|
 aX 8 (pM 1) <|
 aX 9 (pLen 28 8) <|
 aX 10 (pB .neq 3 7 9) <|
 aXZ
noncomputable def f15_r2 (c : CallF) : RF := rg [4] <| aX 4 (pM (cn (.bool false))) <|
 aXZ
noncomputable def f15_r3 (c : CallF) : RF := rg [0, 1, 5] <| aX 5 (pM (cn (.int .i64 0))) <|
 aXZ
noncomputable def f15_r4 (c : CallF) : RF := rg [0, 1, 5, 14] <| aX 11 (pM 5) <|
 aX 12 (pM 0) <|
 aX 13 (pLen 28 12) <|
 aX 14 (pB .lss 3 11 13) <|
 aXZ
noncomputable def f15_r5 (c : CallF) : RF := rg [0, 1, 5] <| aX 15 (pM 5) <|
 aX 16 (pB .add 3 15 (cn (.int .i64 1))) <|
 aX 5 (pM 16) <|
 aXZ
noncomputable def f15_r6 (c : CallF) : RF := rgD [0, 1, 5, 26] (aY 17 (pM 0) <|
 aY 18 (pM 5) <|
 aY 19 (pI 3 17 18) <|
 aY 20 (pL true 3 19) <|
 aY 21 (pM 1) <|
 aY 22 (pM 5) <|
 aY 23 (pI 3 21 22) <|
 aY 24 (pL true 3 23) <|
 aY 25 (pK c false 50 [20, 24]) <|
 aY 26 (pU .not 25) <|
 aYZ)
 (aXZ)
noncomputable def f15_r7 (c : CallF) : RF := rg [4] <| aX 4 (pM (cn (.bool false))) <|
 aXZ
noncomputable def f15_r8 (c : CallF) : RF := rg [4] <| aX 4 (pM (cn (.bool true))) <|
 aXZ
noncomputable def f15_l4 (c : CallF) (k : Nat) : St :=
 (bSeq (bSeq (bReg (f15_r4 c))
 (bCond (.tmp 14) (bEx .nrm) (bEx (.ext 0))))
 (bSeq (bBlock 1 (bSeq (bReg (f15_r6 c))
 (bCond (.tmp 26) (bSeq (bReg (f15_r7 c))
 (bEx .ret)) (bEx .nrm))))
 (bReg (f15_r5 c))))
noncomputable def f15 (c : CallF) (k : Nat) : St :=
 (bSeq (bReg (f15_r0 c))
 (bSeq (bSeq (bReg (f15_r1 c))
 (bCond (.tmp 10) (bSeq (bReg (f15_r2 c))
 (bEx .ret)) (bEx .nrm)))
 (bSeq (bSeq (bReg (f15_r3 c))
 (bBlock 0 (bLoop [0, 1, 5] (f15_l4 c k) k)))
 (bSeq (bReg (f15_r8 c))
 (bEx .ret)))))
theorem f15_eq (c : CallF) (k : Nat) : exec cx c 27 f15_an k (Try.f15.body.getD .skip) = f15 c k := by kernel_rfl
/-! ### f38: loop.example/g01263/spec.l05Roll -/
def f38_an : Ann := ⟨[(0, r0 [0]), (1, r0 [2])], []⟩
noncomputable def f38_r0 (c : CallF) : RF := rg [0] <| aX 2 (pM (cn (.bool false))) <|
 aXZ
noncomputable def f38_r1 (c : CallF) : RF := rg [2] <| aX 3 (pM 0) <|
 aX 4 (pN 3) <|
 aX 5 (pF 0 1 4) <|
 aX 6 (pL false 1 5) <|
 aX 7 (pLen 28 6) <|
 aX 8 (pB .leq 3 7 (cn (.int .i64 20))) <|
 aX 9 (pM 8) <|
 aX 10 (pG 9 true (pM 0)) <|
 aX 11 (pG 9 true (pK c false 83 [10])) <|
 aX 12 (pG 9 true (pB .lss 2 11 (cn (.int .i64 0)))) <|
 aX 13 (pP 9 12 (cn (.bool false))) <|
 aX 2 (pM 13) <|
 aXZ
noncomputable def f38 (c : CallF) (k : Nat) : St :=
 (bSeq (bReg (f38_r0 c))
 (bSeq (bReg (f38_r1 c))
 (bEx .ret)))
theorem f38_eq (c : CallF) (k : Nat) : exec cx c 14 f38_an k (Try.f38.body.getD .skip) = f38 c k := by kernel_rfl
/-! ### f39: loop.example/g01263/impl.validRoll -/
def f39_an : Ann := ⟨[(0, r0 [1]), (1, r0 [4]), (2, r0 [2])], []⟩
noncomputable def f39_r0 (c : CallF) : RF := rg [1] <| aX 1 (pBox 2 0) <|
 aX 2 (pM (cn (.bool false))) <|
 aXZ
noncomputable def f39_r1 (c : CallF) : RF := rg [4] <| aX 6 (pL true 2 1) <|
 aX 7 (pK c false 84 [6]) <|
 aX 5 (pM 7) <|
 aX 8 (pE 0 5) <|
 aX 9 (pE 1 5) <|
 aX 3 (pM 8) <|
 aX 4 (pM 9) <|
 aXZ
noncomputable def f39_r2 (c : CallF) : RF := rg [2] <| aX 10 (pM 4) <|
 aX 11 (pB .eql 2 10 (cn (.int .i64 6))) <|
 aX 2 (pM 11) <|
 aXZ
noncomputable def f39 (c : CallF) (k : Nat) : St :=
 (bSeq (bReg (f39_r0 c))
 (bSeq (bReg (f39_r1 c))
 (bSeq (bReg (f39_r2 c))
 (bEx .ret))))
theorem f39_eq (c : CallF) (k : Nat) : exec cx c 12 f39_an k (Try.f39.body.getD .skip) = f39 c k := by kernel_rfl
/-! ### f40: loop.example/g01263/laws.szAccount -/
def f40_an : Ann := ⟨[(0, r0 [1, 2]), (1, r0 [1, 2]), (2, r0 [1, 2, 11]), (3, r0 [4]), (4, r0 [1]), (5, r0 [1, 17]), (6, r0 [4]), (7, r0 [4])], []⟩
noncomputable def f40_r0 (c : CallF) : RF := rg [1, 2] <| aX 2 (pBox 3 0) <|
 aX 4 (pM (cn (.int .i64 0))) <|
 aXZ
noncomputable def f40_r1 (c : CallF) : RF := rg [1, 2] <| aX 5 (pM 1) <|
 aX 6 (pF 0 1 2) <|
 aX 7 (pL false 1 6) <|
 aX 8 (pLen 9 7) <|
 aX 9 (pB .sub 3 5 8) <|
 aX 1 (pM 9) <|
 aXZ
noncomputable def f40_r2 (c : CallF) : RF := rg [1, 2, 11] <| aX 10 (pM 1) <|
 aX 11 (pB .lss 3 10 (cn (.int .i64 0))) <|
 aXZ
noncomputable def f40_r3 (c : CallF) : RF := rg [4] <| aX 4 (pM (cn (.int .i64 (-1)))) <|
 aXZ
noncomputable def f40_r4 (c : CallF) : RF := rg [1] <| aX 12 (pF 1 1 2) <|
 aX 13 (pL false 1 12) <|
 aX 14 (pM 1) <|
 aX 15 (pK c false 85 [13, 14]) <|
 aX 1 (pM 15) <|
 aXZ
noncomputable def f40_r5 (c : CallF) : RF := rg [1, 17] <| aX 16 (pM 1) <|
 aX 17 (pB .lss 3 16 (cn (.int .i64 0))) <|
 aXZ
noncomputable def f40_r6 (c : CallF) : RF := rg [4] <| aX 4 (pM (cn (.int .i64 (-1)))) <|
 aXZ
noncomputable def f40_r7 (c : CallF) : RF := rg [4] <| aX 18 (pM 1) <|
 aX 4 (pM 18) <|
 aXZ
noncomputable def f40 (c : CallF) (k : Nat) : St :=
 (bSeq (bReg (f40_r0 c))
 (bSeq (bReg (f40_r1 c))
 (bSeq (bSeq (bReg (f40_r2 c))
 (bCond (.tmp 11) (bSeq (bReg (f40_r3 c))
 (bEx .ret)) (bEx .nrm)))
 (bSeq (bReg (f40_r4 c))
 (bSeq (bSeq (bReg (f40_r5 c))
 (bCond (.tmp 17) (bSeq (bReg (f40_r6 c))
 (bEx .ret)) (bEx .nrm)))
 (bSeq (bReg (f40_r7 c))
 (bEx .ret)))))))
theorem f40_eq (c : CallF) (k : Nat) : exec cx c 19 f40_an k (Try.f40.body.getD .skip) = f40 c k := by kernel_rfl
/-! ### f41: loop.example/g01263/spec.l05Right -/
def f41_an : Ann := ⟨[(0, r0 [0]), (1, r0 [2])], []⟩
noncomputable def f41_r0 (c : CallF) : RF := rg [0] <| aX 2 (pM (cn (.bool false))) <|
 aXZ
noncomputable def f41_r1 (c : CallF) : RF := rgD [2] (aY 3 (pM 0) <|
 aY 4 (pN 3) <|
 aY 5 (pF 0 1 4) <|
 aY 6 (pL false 1 5) <|
 aY 7 (pK c false 86 [6]) <|
 aY 8 (pM 7) <|
 aY 9 (pG 8 true (pM 0)) <|
 aY 10 (pG 8 true (pN 9)) <|
 aY 11 (pG 8 true (pF 1 1 10)) <|
 aY 12 (pG 8 true (pL false 1 11)) <|
 aY 13 (pG 8 true (pK c false 87 [12])) <|
 aY 14 (pP 8 13 (cn (.bool false))) <|
 aY 15 (pM 14) <|
 aY 16 (pG 15 true (pM 0)) <|
 aY 17 (pG 15 true (pN 16)) <|
 aY 18 (pG 15 true (pF 2 1 17)) <|
 aY 19 (pG 15 true (pL false 1 18)) <|
 aY 20 (pG 15 true (pM 0)) <|
 aY 21 (pG 15 true (pN 20)) <|
 aY 22 (pG 15 true (pF 1 1 21)) <|
 aY 23 (pG 15 true (pL false 1 22)) <|
 aY 24 (pG 15 true (pK c false 88 [23])) <|
 aY 25 (pG 15 true (pB .eql 2 19 24)) <|
 aY 26 (pP 15 25 (cn (.bool false))) <|
 aY 2 (pM 26) <|
 aYZ)
 (aXZ)
noncomputable def f41 (c : CallF) (k : Nat) : St :=
 (bSeq (bReg (f41_r0 c))
 (bSeq (bReg (f41_r1 c))
 (bEx .ret)))
theorem f41_eq (c : CallF) (k : Nat) : exec cx c 27 f41_an k (Try.f41.body.getD .skip) = f41 c k := by kernel_rfl
/-! ### f42: loop.example/g01263/spec.l05Owed -/
def f42_an : Ann := ⟨[(0, r0 [0]), (1, r0 [0, 3]), (2, r0 [0, 3, 4]), (3, r0 [0, 3, 4, 8]), (4, r0 [0, 3, 4]), (5, r0 [0, 3, 4]), (6, r0 [2])], [(3, [0, 3, 4])]⟩
noncomputable def f42_r0 (c : CallF) : RF := rg [0] <| aX 2 (pM (cn (.int .i64 0))) <|
 aXZ
noncomputable def f42_r1 (c : CallF) : RF := rg [0, 3] <| aX 3 (pM (cn (.int .i64 0))) <|
 aXZ
noncomputable def f42_r2 (c : CallF) : RF := rg [0, 3, 4] <| aX 4 (pM (cn (.int .i64 0))) <|
 aXZ
noncomputable def f42_r3 (c : CallF) : RF := rg [0, 3, 4, 8] <| aX 5 (pM 4) <|
 aX 6 (pM 0) <|
 aX 7 (pLen 28 6) <|
 aX 8 (pB .lss 3 5 7) <|
 aXZ
noncomputable def f42_r4 (c : CallF) : RF := rg [0, 3, 4] <| aX 9 (pM 4) <|
 aX 10 (pB .add 3 9 (cn (.int .i64 1))) <|
 aX 4 (pM 10) <|
 aXZ
noncomputable def f42_r5 (c : CallF) : RF := rg [0, 3, 4] <| aX 11 (pM 3) <|
 aX 12 (pM 0) <|
 aX 13 (pM 4) <|
 aX 14 (pI 3 12 13) <|
 aX 15 (pF 2 1 14) <|
 aX 16 (pL false 1 15) <|
 aX 17 (pK c false 89 [16, (cn (.int .i64 0))]) <|
 aX 18 (pB .add 2 11 17) <|
 aX 3 (pM 18) <|
 aXZ
noncomputable def f42_r6 (c : CallF) : RF := rg [2] <| aX 19 (pM 3) <|
 aX 2 (pM 19) <|
 aXZ
noncomputable def f42_l3 (c : CallF) (k : Nat) : St :=
 (bSeq (bSeq (bReg (f42_r3 c))
 (bCond (.tmp 8) (bEx .nrm) (bEx (.ext 0))))
 (bSeq (bBlock 1 (bReg (f42_r5 c)))
 (bReg (f42_r4 c))))
noncomputable def f42 (c : CallF) (k : Nat) : St :=
 (bSeq (bReg (f42_r0 c))
 (bSeq (bReg (f42_r1 c))
 (bSeq (bSeq (bReg (f42_r2 c))
 (bBlock 0 (bLoop [0, 3, 4] (f42_l3 c k) k)))
 (bSeq (bReg (f42_r6 c))
 (bEx .ret)))))
theorem f42_eq (c : CallF) (k : Nat) : exec cx c 20 f42_an k (Try.f42.body.getD .skip) = f42 c k := by kernel_rfl
/-! ### f43: loop.example/g01263/spec.l05Twin -/
def f43_an : Ann := ⟨[(0, r0 [0, 1]), (1, r0 [0, 1, 5]), (2, r0 [0, 1, 5, 8]), (3, r0 [0, 1, 5]), (4, r0 [0, 1, 5, 21]), (5, r0 [4]), (6, r0 [4])], [(2, [0, 1, 5])]⟩
noncomputable def f43_r0 (c : CallF) : RF := rg [0, 1] <| aX 4 (pM (cn (.bool false))) <|
 aXZ
noncomputable def f43_r1 (c : CallF) : RF := rg [0, 1, 5] <| aX 5 (pM (cn (.int .i64 0))) <|
 aXZ
noncomputable def f43_r2 (c : CallF) : RF := rg [0, 1, 5, 8] <| aX 6 (pM 5) <|
 aX 7 (pM 1) <|
 aX 8 (pB .lss 3 6 7) <|
 aXZ
noncomputable def f43_r3 (c : CallF) : RF := rg [0, 1, 5] <| aX 9 (pM 5) <|
 aX 10 (pB .add 3 9 (cn (.int .i64 1))) <|
 aX 5 (pM 10) <|
 aXZ
noncomputable def f43_r4 (c : CallF) : RF := rgD [0, 1, 5, 21] (aY 11 (pM 0) <|
 aY 12 (pM 5) <|
 aY 13 (pI 3 11 12) <|
 aY 14 (pF 0 1 13) <|
 aY 15 (pL false 1 14) <|
 aY 16 (pM 0) <|
 aY 17 (pM 1) <|
 aY 18 (pI 3 16 17) <|
 aY 19 (pF 0 1 18) <|
 aY 20 (pL false 1 19) <|
 aY 21 (pB .eql 9 15 20) <|
 aYZ)
 (aXZ)
noncomputable def f43_r5 (c : CallF) : RF := rg [4] <| aX 4 (pM (cn (.bool true))) <|
 aXZ
noncomputable def f43_r6 (c : CallF) : RF := rg [4] <| aX 4 (pM (cn (.bool false))) <|
 aXZ
noncomputable def f43_l2 (c : CallF) (k : Nat) : St :=
 (bSeq (bSeq (bReg (f43_r2 c))
 (bCond (.tmp 8) (bEx .nrm) (bEx (.ext 0))))
 (bSeq (bBlock 1 (bSeq (bReg (f43_r4 c))
 (bCond (.tmp 21) (bSeq (bReg (f43_r5 c))
 (bEx .ret)) (bEx .nrm))))
 (bReg (f43_r3 c))))
noncomputable def f43 (c : CallF) (k : Nat) : St :=
 (bSeq (bReg (f43_r0 c))
 (bSeq (bSeq (bReg (f43_r1 c))
 (bBlock 0 (bLoop [0, 1, 5] (f43_l2 c k) k)))
 (bSeq (bReg (f43_r6 c))
 (bEx .ret))))
theorem f43_eq (c : CallF) (k : Nat) : exec cx c 22 f43_an k (Try.f43.body.getD .skip) = f43 c k := by kernel_rfl
/-! ### f45: loop.example/g01263/laws.toAccount -/
def f45_an : Ann := ⟨[(0, r0 [1, 2]), (1, r0 [1, 2, 3]), (2, r0 [1, 2, 3]), (3, r0 [1, 2, 3]), (4, r0 [2, 3]), (5, r0 [2])], []⟩
noncomputable def f45_r0 (c : CallF) : RF := rg [1, 2] <| aX 1 (pBox 3 0) <|
 aX 2 (pAl 75 3) <|
 aXZ
noncomputable def f45_r1 (c : CallF) : RF := rg [1, 2, 3] <| aX 3 (pAl 75 3) <|
 aXZ
noncomputable def f45_r2 (c : CallF) : RF := rg [1, 2, 3] <| aX 4 (pF 0 1 1) <|
 aX 5 (pL false 1 4) <|
 aX 6 (pF 0 1 3) <|
 aX0 (pS 1 6 5) <|
 aXZ
noncomputable def f45_r3 (c : CallF) : RF := rg [1, 2, 3] <| aX 7 (pF 1 1 1) <|
 aX 8 (pL false 1 7) <|
 aX 9 (pK c false 90 [8]) <|
 aX 10 (pF 1 1 3) <|
 aX0 (pS 1 10 9) <|
 aXZ
noncomputable def f45_r4 (c : CallF) : RF := rg [2, 3] <| aX 11 (pF 2 1 1) <|
 aX 12 (pL false 1 11) <|
 aX 13 (pF 2 1 3) <|
 aX0 (pS 1 13 12) <|
 aXZ
noncomputable def f45_r5 (c : CallF) : RF := rg [2] <| aX 14 (pL true 3 3) <|
 aX0 (pS 3 2 14) <|
 aXZ
noncomputable def f45 (c : CallF) (k : Nat) : St :=
 (bSeq (bReg (f45_r0 c))
 (bSeq (bReg (f45_r1 c))
 (bSeq (bReg (f45_r2 c))
 (bSeq (bReg (f45_r3 c))
 (bSeq (bReg (f45_r4 c))
 (bSeq (bReg (f45_r5 c))
 (bEx .ret)))))))
theorem f45_eq (c : CallF) (k : Nat) : exec cx c 15 f45_an k (Try.f45.body.getD .skip) = f45 c k := by kernel_rfl
/-! ### f46: loop.example/g01263/impl.CheckAccount -/
def f46_an : Ann := ⟨[(0, r0 [1]), (1, r0 [2])], []⟩
noncomputable def f46_r0 (c : CallF) : RF := rg [1] <| aX 1 (pBox 3 0) <|
 aX 2 (pM (cn (.bool false))) <|
 aXZ
noncomputable def f46_r1 (c : CallF) : RF := rgD [2] (aY 3 (pF 0 1 1) <|
 aY 4 (pL false 1 3) <|
 aY 5 (pK c false 91 [4, (cn (.int .i64 16))]) <|
 aY 6 (pM 5) <|
 aY 7 (pG 6 true (pF 1 1 1)) <|
 aY 8 (pG 6 true (pL false 1 7)) <|
 aY 9 (pG 6 true (pK c false 92 [8])) <|
 aY 10 (pP 6 9 (cn (.bool false))) <|
 aY 11 (pM 10) <|
 aY 12 (pG 11 true (pF 2 1 1)) <|
 aY 13 (pG 11 true (pL false 1 12)) <|
 aY 14 (pG 11 true (pF 1 1 1)) <|
 aY 15 (pG 11 true (pL false 1 14)) <|
 aY 16 (pG 11 true (pK c false 93 [15])) <|
 aY 17 (pG 11 true (pB .eql 2 13 16)) <|
 aY 18 (pP 11 17 (cn (.bool false))) <|
 aY 2 (pM 18) <|
 aYZ)
 (aXZ)
noncomputable def f46 (c : CallF) (k : Nat) : St :=
 (bSeq (bReg (f46_r0 c))
 (bSeq (bReg (f46_r1 c))
 (bEx .ret)))
theorem f46_eq (c : CallF) (k : Nat) : exec cx c 19 f46_an k (Try.f46.body.getD .skip) = f46 c k := by kernel_rfl
/-! ### f47: loop.example/g01263/impl.owed -/
def f47_an : Ann := ⟨[(0, r0 [0]), (1, r0 [0, 3]), (2, r0 [3, 6, 7, 8]), (3, r0 [3, 6, 7, 8, 9]), (4, r0 [3, 5, 6, 7, 8]), (5, r0 [3, 6, 7, 8]), (6, r0 [3, 6, 7, 8]), (7, r0 [2])], [(3, [3, 6, 7, 8])]⟩
noncomputable def f47_r0 (c : CallF) : RF := rg [0] <| aX 2 (pM (cn (.int .i64 0))) <|
 aXZ
noncomputable def f47_r1 (c : CallF) : RF := rg [0, 3] <| aX 3 (pM (cn (.int .i64 0))) <|
 aXZ
noncomputable def f47_r2 (c : CallF) : RF := rg [3, 6, 7, 8] <| aX 6 (pM 0) <|
 aX 7 (pLen 28 6) <|
 aX 8 (pM (cn (.int .i64 0))) <|
 aXZ
noncomputable def f47_r3 (c : CallF) : RF := rg [3, 6, 7, 8, 9] <| aX 9 (pB .lss 3 8 7) <|
 aXZ
noncomputable def f47_r4 (c : CallF) : RF := rg [3, 5, 6, 7, 8] <| aX 10 (pI 3 6 8) <|
 aX 11 (pL true 3 10) <|
 aX 5 (pAl 75 3) <|
 aX0 (pS 3 5 11) <|
 aXZ
noncomputable def f47_r5 (c : CallF) : RF := rg [3, 6, 7, 8] <| aX 12 (pM 3) <|
 aX 13 (pF 2 1 5) <|
 aX 14 (pL false 1 13) <|
 aX 15 (fun n e M => keep (aMax true (eget e 14) (.int .i64 0))) <|
 aX 16 (pB .add 2 12 15) <|
 aX 3 (pM 16) <|
 aXZ
noncomputable def f47_r6 (c : CallF) : RF := rg [3, 6, 7, 8] <| aX 17 (pB .add 3 8 (cn (.int .i64 1))) <|
 aX 8 (pM 17) <|
 aXZ
noncomputable def f47_r7 (c : CallF) : RF := rg [2] <| aX 18 (pM 3) <|
 aX 2 (pM 18) <|
 aXZ
noncomputable def f47_l3 (c : CallF) (k : Nat) : St :=
 (bSeq (bReg (f47_r3 c))
 (bSeq (bCond (.tmp 9) (bEx .nrm) (bEx (.ext 0)))
 (bSeq (bBlock 1 (bSeq (bReg (f47_r4 c))
 (bReg (f47_r5 c))))
 (bReg (f47_r6 c)))))
noncomputable def f47 (c : CallF) (k : Nat) : St :=
 (bSeq (bReg (f47_r0 c))
 (bSeq (bReg (f47_r1 c))
 (bSeq (bSeq (bReg (f47_r2 c))
 (bBlock 0 (bLoop [3, 6, 7, 8] (f47_l3 c k) k)))
 (bSeq (bReg (f47_r7 c))
 (bEx .ret)))))
theorem f47_eq (c : CallF) (k : Nat) : exec cx c 19 f47_an k (Try.f47.body.getD .skip) = f47 c k := by kernel_rfl
/-! ### f48: loop.example/g01263/impl.hasTitle -/
def f48_an : Ann := ⟨[(0, r0 [0, 3]), (1, r0 [4])], []⟩
noncomputable def f48_r0 (c : CallF) : RF := rg [0, 3] <| aX 3 (pBox 1 1) <|
 aX 4 (pM (cn (.bool false))) <|
 aXZ
noncomputable def f48_r1 (c : CallF) : RF := rg [4] <| aX 5 (pM 0) <|
 aX 6 (pM (fun e => (.fn 95 [(eget e 3)]))) <|
 aX 7 (pK c false 94 [5, 6]) <|
 aX 4 (pM 7) <|
 aXZ
noncomputable def f48 (c : CallF) (k : Nat) : St :=
 (bSeq (bReg (f48_r0 c))
 (bSeq (bReg (f48_r1 c))
 (bEx .ret)))
theorem f48_eq (c : CallF) (k : Nat) : exec cx c 8 f48_an k (Try.f48.body.getD .skip) = f48 c k := by kernel_rfl
/-! ### f50: loop.example/g01263/laws.eqAccount -/
def f50_an : Ann := ⟨[(0, r0 [2, 3]), (1, r0 [2, 3, 9]), (2, r0 [4]), (3, r0 [2, 3, 15]), (4, r0 [4]), (5, r0 [20]), (6, r0 [4]), (7, r0 [4])], []⟩
noncomputable def f50_r0 (c : CallF) : RF := rg [2, 3] <| aX 2 (pBox 3 0) <|
 aX 3 (pBox 3 1) <|
 aX 4 (pM (cn (.bool false))) <|
 aXZ
noncomputable def f50_r1 (c : CallF) : RF := rg [2, 3, 9] <| aX 5 (pF 0 1 2) <|
 aX 6 (pL false 1 5) <|
 aX 7 (pF 0 1 3) <|
 aX 8 (pL false 1 7) <|
 aX 9 (pB .neq 9 6 8) <|
 aXZ
noncomputable def f50_r2 (c : CallF) : RF := rg [4] <| aX 4 (pM (cn (.bool false))) <|
 aXZ
noncomputable def f50_r3 (c : CallF) : RF := rg [2, 3, 15] <| aX 10 (pF 1 1 2) <|
 aX 11 (pL false 1 10) <|
 aX 12 (pF 1 1 3) <|
 aX 13 (pL false 1 12) <|
 aX 14 (pK c false 97 [11, 13]) <|
 aX 15 (pU .not 14) <|
 aXZ
noncomputable def f50_r4 (c : CallF) : RF := rg [4] <| aX 4 (pM (cn (.bool false))) <|
 aXZ
noncomputable def f50_r5 (c : CallF) : RF := rg [20] <| aX 16 (pF 2 1 2) <|
 aX 17 (pL false 1 16) <|
 aX 18 (pF 2 1 3) <|
 aX 19 (pL false 1 18) <|
 aX 20 (pB .neq 2 17 19) <|
 aXZ
noncomputable def f50_r6 (c : CallF) : RF := rg [4] <| aX 4 (pM (cn (.bool false))) <|
 aXZ
noncomputable def f50_r7 (c : CallF) : RF := rg [4] <| aX 4 (pM (cn (.bool true))) <|
 aXZ
noncomputable def f50 (c : CallF) (k : Nat) : St :=
 (bSeq (bReg (f50_r0 c))
 (bSeq (bSeq (bReg (f50_r1 c))
 (bCond (.tmp 9) (bSeq (bReg (f50_r2 c))
 (bEx .ret)) (bEx .nrm)))
 (bSeq (bSeq (bReg (f50_r3 c))
 (bCond (.tmp 15) (bSeq (bReg (f50_r4 c))
 (bEx .ret)) (bEx .nrm)))
 (bSeq (bSeq (bReg (f50_r5 c))
 (bCond (.tmp 20) (bSeq (bReg (f50_r6 c))
 (bEx .ret)) (bEx .nrm)))
 (bSeq (bReg (f50_r7 c))
 (bEx .ret))))))
theorem f50_eq (c : CallF) (k : Nat) : exec cx c 21 f50_an k (Try.f50.body.getD .skip) = f50 c k := by kernel_rfl
/-! ### f66: loop.example/g01263/impl.isAmount -/
def f66_an : Ann := ⟨[(0, r0 [0]), (1, r0 [2])], []⟩
noncomputable def f66_r0 (c : CallF) : RF := rg [0] <| aX 2 (pM (cn (.bool false))) <|
 aXZ
noncomputable def f66_r1 (c : CallF) : RF := rg [2] <| aX 3 (pM 0) <|
 aX 4 (pB .geq 2 3 (cn (.int .i64 0))) <|
 aX 5 (pM 4) <|
 aX 6 (pG 5 true (pM 0)) <|
 aX 7 (pG 5 true (pB .leq 2 6 (cn (.int .i64 100000000)))) <|
 aX 8 (pP 5 7 (cn (.bool false))) <|
 aX 2 (pM 8) <|
 aXZ
noncomputable def f66 (c : CallF) (k : Nat) : St :=
 (bSeq (bReg (f66_r0 c))
 (bSeq (bReg (f66_r1 c))
 (bEx .ret)))
theorem f66_eq (c : CallF) (k : Nat) : exec cx c 9 f66_an k (Try.f66.body.getD .skip) = f66 c k := by kernel_rfl
/-! ### f83: loop.example/g01263/spec.l05Fault -/
def f83_an : Ann := ⟨[(0, r0 [0]), (1, r0 [0, 3]), (2, r0 [0, 3, 10]), (3, r0 [0, 3]), (4, r0 [0, 3, 28]), (5, r0 [2]), (6, r0 [0, 39]), (7, r0 [2]), (8, r0 [2])], [(2, [0, 3])]⟩
noncomputable def f83_r0 (c : CallF) : RF := rg [0] <| aX 2 (pM (cn (.int .i64 0))) <|
 aXZ
noncomputable def f83_r1 (c : CallF) : RF := rg [0, 3] <| aX 3 (pM (cn (.int .i64 0))) <|
 aXZ
noncomputable def f83_r2 (c : CallF) : RF := rg [0, 3, 10] <| aX 4 (pM 3) <|
 aX 5 (pM 0) <|
 aX 6 (pN 5) <|
 aX 7 (pF 0 1 6) <|
 aX 8 (pL false 1 7) <|
 aX 9 (pLen 28 8) <|
 aX 10 (pB .lss 3 4 9) <|
 aXZ
noncomputable def f83_r3 (c : CallF) : RF := rg [0, 3] <| aX 11 (pM 3) <|
 aX 12 (pB .add 3 11 (cn (.int .i64 1))) <|
 aX 3 (pM 12) <|
 aXZ
noncomputable def f83_r4 (c : CallF) : RF := rg [0, 3, 28] <| aX 13 (pM 0) <|
 aX 14 (pN 13) <|
 aX 15 (pF 0 1 14) <|
 aX 16 (pL false 1 15) <|
 aX 17 (pM 3) <|
 aX 18 (pI 3 16 17) <|
 aX 19 (pK c false 41 [18]) <|
 aX 20 (pU .not 19) <|
 aX 21 (pM 20) <|
 aX 22 (pG 21 false (pM 0)) <|
 aX 23 (pG 21 false (pN 22)) <|
 aX 24 (pG 21 false (pF 0 1 23)) <|
 aX 25 (pG 21 false (pL false 1 24)) <|
 aX 26 (pG 21 false (pM 3)) <|
 aX 27 (pG 21 false (pK c false 43 [25, 26])) <|
 aX 28 (pP 21 (cn (.bool true)) 27) <|
 aXZ
noncomputable def f83_r5 (c : CallF) : RF := rg [2] <| aX 29 (pM 3) <|
 aX 2 (pM 29) <|
 aXZ
noncomputable def f83_r6 (c : CallF) : RF := rgD [0, 39] (aY 30 (pM 0) <|
 aY 31 (pN 30) <|
 aY 32 (pF 1 1 31) <|
 aY 33 (pL false 1 32) <|
 aY 34 (pM 0) <|
 aY 35 (pN 34) <|
 aY 36 (pF 0 1 35) <|
 aY 37 (pL false 1 36) <|
 aY 38 (pK c false 42 [37]) <|
 aY 39 (pB .neq 2 33 38) <|
 aYZ)
 (aXZ)
noncomputable def f83_r7 (c : CallF) : RF := rg [2] <| aX 40 (pM 0) <|
 aX 41 (pN 40) <|
 aX 42 (pF 0 1 41) <|
 aX 43 (pL false 1 42) <|
 aX 44 (pLen 28 43) <|
 aX 2 (pM 44) <|
 aXZ
noncomputable def f83_r8 (c : CallF) : RF := rg [2] <| aX 2 (pM (cn (.int .i64 (-1)))) <|
 aXZ
noncomputable def f83_l2 (c : CallF) (k : Nat) : St :=
 (bSeq (bSeq (bReg (f83_r2 c))
 (bCond (.tmp 10) (bEx .nrm) (bEx (.ext 0))))
 (bSeq (bBlock 1 (bSeq (bReg (f83_r4 c))
 (bCond (.tmp 28) (bSeq (bReg (f83_r5 c))
 (bEx .ret)) (bEx .nrm))))
 (bReg (f83_r3 c))))
noncomputable def f83 (c : CallF) (k : Nat) : St :=
 (bSeq (bReg (f83_r0 c))
 (bSeq (bSeq (bReg (f83_r1 c))
 (bBlock 0 (bLoop [0, 3] (f83_l2 c k) k)))
 (bSeq (bSeq (bReg (f83_r6 c))
 (bCond (.tmp 39) (bSeq (bReg (f83_r7 c))
 (bEx .ret)) (bEx .nrm)))
 (bSeq (bReg (f83_r8 c))
 (bEx .ret)))))
theorem f83_eq (c : CallF) (k : Nat) : exec cx c 45 f83_an k (Try.f83.body.getD .skip) = f83 c k := by kernel_rfl
/-! ### f84: loop.example/g01263/impl.FirstFault -/
def f84_an : Ann := ⟨[(0, r0 [1]), (1, r0 [1, 9]), (2, r0 [2, 3]), (3, r0 [1, 11, 12, 13]), (4, r0 [1, 11, 12, 13, 14]), (5, r0 [1, 4, 5, 11, 12, 13]), (6, r0 [1, 4, 11, 12, 13, 29]), (7, r0 [2, 3]), (8, r0 [1, 11, 12, 13]), (9, r0 [1, 37]), (10, r0 [2, 3]), (11, r0 [2, 3])], [(4, [1, 11, 12, 13])]⟩
noncomputable def f84_r0 (c : CallF) : RF := rg [1] <| aX 1 (pBox 2 0) <|
 aX 2 (pM (cn (.int .i64 0))) <|
 aX 3 (pM (cn (.int .i64 0))) <|
 aXZ
noncomputable def f84_r1 (c : CallF) : RF := rg [1, 9] <| aX 6 (pF 0 1 1) <|
 aX 7 (pL false 1 6) <|
 aX 8 (pLen 28 7) <|
 aX 9 (pB .gtr 3 8 (cn (.int .i64 20))) <|
 aXZ
noncomputable def f84_r2 (c : CallF) : RF := rg [2, 3] <| aX 2 (pM (cn (.int .i64 0))) <|
 aX 3 (pM (cn (.int .i64 3))) <|
 aXZ
noncomputable def f84_r3 (c : CallF) : RF := rg [1, 11, 12, 13] <| aX 10 (pF 0 1 1) <|
 aX 11 (pL false 1 10) <|
 aX 12 (pLen 28 11) <|
 aX 13 (pM (cn (.int .i64 0))) <|
 aXZ
noncomputable def f84_r4 (c : CallF) : RF := rg [1, 11, 12, 13, 14] <| aX 14 (pB .lss 3 13 12) <|
 aXZ
noncomputable def f84_r5 (c : CallF) : RF := rg [1, 4, 5, 11, 12, 13] <| aX 15 (pM 13) <|
 aX 16 (pI 3 11 13) <|
 aX 17 (pL true 3 16) <|
 aX 5 (pAl 75 3) <|
 aX 4 (pM 15) <|
 aX0 (pS 3 5 17) <|
 aXZ
noncomputable def f84_r6 (c : CallF) : RF := rgD [1, 4, 11, 12, 13, 29] (aY 18 (pL true 3 5) <|
 aY 19 (pK c false 46 [18]) <|
 aY 20 (pU .not 19) <|
 aY 21 (pM 20) <|
 aY 22 (pG 21 false (pF 0 1 1)) <|
 aY 23 (pG 21 false (pL false 1 22)) <|
 aY 24 (pG 21 false (pM 4)) <|
 aY 25 (pG 21 false (fun n e M => keep (aSlice 3 none (some (eget e 24)) (eget e 23) M))) <|
 aY 26 (pG 21 false (pF 0 1 5)) <|
 aY 27 (pG 21 false (pL false 1 26)) <|
 aY 28 (pG 21 false (pK c false 48 [25, 27])) <|
 aY 29 (pP 21 (cn (.bool true)) 28) <|
 aYZ)
 (aXZ)
noncomputable def f84_r7 (c : CallF) : RF := rg [2, 3] <| aX 30 (pM 4) <|
 aX 2 (pM 30) <|
 aX 3 (pM (cn (.int .i64 0))) <|
 aXZ
noncomputable def f84_r8 (c : CallF) : RF := rg [1, 11, 12, 13] <| aX 31 (pB .add 3 13 (cn (.int .i64 1))) <|
 aX 13 (pM 31) <|
 aXZ
noncomputable def f84_r9 (c : CallF) : RF := rgD [1, 37] (aY 32 (pF 1 1 1) <|
 aY 33 (pL false 1 32) <|
 aY 34 (pF 0 1 1) <|
 aY 35 (pL false 1 34) <|
 aY 36 (pK c false 47 [35]) <|
 aY 37 (pB .neq 2 33 36) <|
 aYZ)
 (aXZ)
noncomputable def f84_r10 (c : CallF) : RF := rg [2, 3] <| aX 38 (pF 0 1 1) <|
 aX 39 (pL false 1 38) <|
 aX 40 (pLen 28 39) <|
 aX 2 (pM 40) <|
 aX 3 (pM (cn (.int .i64 0))) <|
 aXZ
noncomputable def f84_r11 (c : CallF) : RF := rg [2, 3] <| aX 2 (pM (cn (.int .i64 0))) <|
 aX 3 (pM (cn (.int .i64 6))) <|
 aXZ
noncomputable def f84_l4 (c : CallF) (k : Nat) : St :=
 (bSeq (bReg (f84_r4 c))
 (bSeq (bCond (.tmp 14) (bEx .nrm) (bEx (.ext 0)))
 (bSeq (bBlock 1 (bSeq (bReg (f84_r5 c))
 (bSeq (bReg (f84_r6 c))
 (bCond (.tmp 29) (bSeq (bReg (f84_r7 c))
 (bEx .ret)) (bEx .nrm)))))
 (bReg (f84_r8 c)))))
noncomputable def f84 (c : CallF) (k : Nat) : St :=
 (bSeq (bReg (f84_r0 c))
 (bSeq (bSeq (bReg (f84_r1 c))
 (bCond (.tmp 9) (bSeq (bReg (f84_r2 c))
 (bEx .ret)) (bEx .nrm)))
 (bSeq (bSeq (bReg (f84_r3 c))
 (bBlock 0 (bLoop [1, 11, 12, 13] (f84_l4 c k) k)))
 (bSeq (bSeq (bReg (f84_r9 c))
 (bCond (.tmp 37) (bSeq (bReg (f84_r10 c))
 (bEx .ret)) (bEx .nrm)))
 (bSeq (bReg (f84_r11 c))
 (bEx .ret))))))
theorem f84_eq (c : CallF) (k : Nat) : exec cx c 41 f84_an k (Try.f84.body.getD .skip) = f84 c k := by kernel_rfl
/-! ### f85: loop.example/g01263/laws.szItemS -/
def f85_an : Ann := ⟨[(0, r0 [0, 1]), (1, r0 [1]), (2, r0 [1, 10]), (3, r0 [4]), (4, r0 [4])], []⟩
noncomputable def f85_r0 (c : CallF) : RF := rg [0, 1] <| aX 4 (pM (cn (.int .i64 0))) <|
 aXZ
noncomputable def f85_r1 (c : CallF) : RF := rg [1] <| aX 5 (pM 1) <|
 aX 6 (pM 0) <|
 aX 7 (pLen 78 6) <|
 aX 8 (pB .sub 3 5 7) <|
 aX 1 (pM 8) <|
 aXZ
noncomputable def f85_r2 (c : CallF) : RF := rg [1, 10] <| aX 9 (pM 1) <|
 aX 10 (pB .lss 3 9 (cn (.int .i64 0))) <|
 aXZ
noncomputable def f85_r3 (c : CallF) : RF := rg [4] <| aX 4 (pM (cn (.int .i64 (-1)))) <|
 aXZ
noncomputable def f85_r4 (c : CallF) : RF := rg [4] <| aX 11 (pM 1) <|
 aX 4 (pM 11) <|
 aXZ
noncomputable def f85 (c : CallF) (k : Nat) : St :=
 (bSeq (bReg (f85_r0 c))
 (bSeq (bReg (f85_r1 c))
 (bSeq (bSeq (bReg (f85_r2 c))
 (bCond (.tmp 10) (bSeq (bReg (f85_r3 c))
 (bEx .ret)) (bEx .nrm)))
 (bSeq (bReg (f85_r4 c))
 (bEx .ret)))))
theorem f85_eq (c : CallF) (k : Nat) : exec cx c 12 f85_an k (Try.f85.body.getD .skip) = f85 c k := by kernel_rfl
/-! ### f86: loop.example/g01263/spec.l05Title -/
def f86_an : Ann := ⟨[(0, r0 [0]), (1, r0 [0, 3]), (2, r0 [0, 3, 7]), (3, r0 [0, 3]), (4, r0 [0, 3, 19]), (5, r0 [2]), (6, r0 [2])], [(2, [0, 3])]⟩
noncomputable def f86_r0 (c : CallF) : RF := rg [0] <| aX 2 (pM (cn (.bool false))) <|
 aXZ
noncomputable def f86_r1 (c : CallF) : RF := rg [0, 3] <| aX 3 (pM (cn (.int .i64 0))) <|
 aXZ
noncomputable def f86_r2 (c : CallF) : RF := rg [0, 3, 7] <| aX 4 (pM 3) <|
 aX 5 (pM 0) <|
 aX 6 (pLen 9 5) <|
 aX 7 (pB .lss 3 4 6) <|
 aXZ
noncomputable def f86_r3 (c : CallF) : RF := rg [0, 3] <| aX 8 (pM 3) <|
 aX 9 (pB .add 3 8 (cn (.int .i64 1))) <|
 aX 3 (pM 9) <|
 aXZ
noncomputable def f86_r4 (c : CallF) : RF := rg [0, 3, 19] <| aX 10 (pM 0) <|
 aX 11 (pM 3) <|
 aX 12 (fun n e M => keep (aIndexB (eget e 10) (eget e 11))) <|
 aX 13 (pB .lss 5 12 (cn (.int .u8 97))) <|
 aX 14 (pM 13) <|
 aX 15 (pG 14 false (pM 0)) <|
 aX 16 (pG 14 false (pM 3)) <|
 aX 17 (pG 14 false (fun n e M => keep (aIndexB (eget e 15) (eget e 16)))) <|
 aX 18 (pG 14 false (pB .gtr 5 17 (cn (.int .u8 122)))) <|
 aX 19 (pP 14 (cn (.bool true)) 18) <|
 aXZ
noncomputable def f86_r5 (c : CallF) : RF := rg [2] <| aX 2 (pM (cn (.bool false))) <|
 aXZ
noncomputable def f86_r6 (c : CallF) : RF := rg [2] <| aX 20 (pM 0) <|
 aX 21 (pLen 9 20) <|
 aX 22 (pK c false 108 [21, (cn (.int .i64 1)), (cn (.int .i64 16))]) <|
 aX 2 (pM 22) <|
 aXZ
noncomputable def f86_l2 (c : CallF) (k : Nat) : St :=
 (bSeq (bSeq (bReg (f86_r2 c))
 (bCond (.tmp 7) (bEx .nrm) (bEx (.ext 0))))
 (bSeq (bBlock 1 (bSeq (bReg (f86_r4 c))
 (bCond (.tmp 19) (bSeq (bReg (f86_r5 c))
 (bEx .ret)) (bEx .nrm))))
 (bReg (f86_r3 c))))
noncomputable def f86 (c : CallF) (k : Nat) : St :=
 (bSeq (bReg (f86_r0 c))
 (bSeq (bSeq (bReg (f86_r1 c))
 (bBlock 0 (bLoop [0, 3] (f86_l2 c k) k)))
 (bSeq (bReg (f86_r6 c))
 (bEx .ret))))
theorem f86_eq (c : CallF) (k : Nat) : exec cx c 23 f86_an k (Try.f86.body.getD .skip) = f86 c k := by kernel_rfl
/-! ### f87: loop.example/g01263/spec.l05Items -/
def f87_an : Ann := ⟨[(0, r0 [0]), (1, r0 [0, 6]), (2, r0 [2]), (3, r0 [0, 3]), (4, r0 [0, 3, 10]), (5, r0 [0, 3]), (6, r0 [0, 3, 17]), (7, r0 [2]), (8, r0 [2])], [(4, [0, 3])]⟩
noncomputable def f87_r0 (c : CallF) : RF := rg [0] <| aX 2 (pM (cn (.bool false))) <|
 aXZ
noncomputable def f87_r1 (c : CallF) : RF := rg [0, 6] <| aX 4 (pM 0) <|
 aX 5 (pLen 73 4) <|
 aX 6 (pB .gtr 3 5 (cn (.int .i64 40))) <|
 aXZ
noncomputable def f87_r2 (c : CallF) : RF := rg [2] <| aX 2 (pM (cn (.bool false))) <|
 aXZ
noncomputable def f87_r3 (c : CallF) : RF := rg [0, 3] <| aX 3 (pM (cn (.int .i64 0))) <|
 aXZ
noncomputable def f87_r4 (c : CallF) : RF := rg [0, 3, 10] <| aX 7 (pM 3) <|
 aX 8 (pM 0) <|
 aX 9 (pLen 73 8) <|
 aX 10 (pB .lss 3 7 9) <|
 aXZ
noncomputable def f87_r5 (c : CallF) : RF := rg [0, 3] <| aX 11 (pM 3) <|
 aX 12 (pB .add 3 11 (cn (.int .i64 1))) <|
 aX 3 (pM 12) <|
 aXZ
noncomputable def f87_r6 (c : CallF) : RF := rg [0, 3, 17] <| aX 13 (pM 0) <|
 aX 14 (pM 3) <|
 aX 15 (pI 2 13 14) <|
 aX 16 (pK c false 113 [15]) <|
 aX 17 (pU .not 16) <|
 aXZ
noncomputable def f87_r7 (c : CallF) : RF := rg [2] <| aX 2 (pM (cn (.bool false))) <|
 aXZ
noncomputable def f87_r8 (c : CallF) : RF := rg [2] <| aX 2 (pM (cn (.bool true))) <|
 aXZ
noncomputable def f87_l4 (c : CallF) (k : Nat) : St :=
 (bSeq (bSeq (bReg (f87_r4 c))
 (bCond (.tmp 10) (bEx .nrm) (bEx (.ext 0))))
 (bSeq (bBlock 1 (bSeq (bReg (f87_r6 c))
 (bCond (.tmp 17) (bSeq (bReg (f87_r7 c))
 (bEx .ret)) (bEx .nrm))))
 (bReg (f87_r5 c))))
noncomputable def f87 (c : CallF) (k : Nat) : St :=
 (bSeq (bReg (f87_r0 c))
 (bSeq (bSeq (bReg (f87_r1 c))
 (bCond (.tmp 6) (bSeq (bReg (f87_r2 c))
 (bEx .ret)) (bEx .nrm)))
 (bSeq (bSeq (bReg (f87_r3 c))
 (bBlock 0 (bLoop [0, 3] (f87_l4 c k) k)))
 (bSeq (bReg (f87_r8 c))
 (bEx .ret)))))
theorem f87_eq (c : CallF) (k : Nat) : exec cx c 18 f87_an k (Try.f87.body.getD .skip) = f87 c k := by kernel_rfl
/-! ### f88: loop.example/g01263/spec.l05Balance -/
def f88_an : Ann := ⟨[(0, r0 [0]), (1, r0 [0, 3]), (2, r0 [0, 3, 4]), (3, r0 [0, 3, 4, 8]), (4, r0 [0, 3, 4]), (5, r0 [0, 3, 4, 24]), (6, r0 [0, 3, 4]), (7, r0 [0, 3, 4]), (8, r0 [2])], [(3, [0, 3, 4])]⟩
noncomputable def f88_r0 (c : CallF) : RF := rg [0] <| aX 2 (pM (cn (.int .i64 0))) <|
 aXZ
noncomputable def f88_r1 (c : CallF) : RF := rg [0, 3] <| aX 3 (pM (cn (.int .i64 0))) <|
 aXZ
noncomputable def f88_r2 (c : CallF) : RF := rg [0, 3, 4] <| aX 4 (pM (cn (.int .i64 0))) <|
 aXZ
noncomputable def f88_r3 (c : CallF) : RF := rg [0, 3, 4, 8] <| aX 5 (pM 4) <|
 aX 6 (pM 0) <|
 aX 7 (pLen 73 6) <|
 aX 8 (pB .lss 3 5 7) <|
 aXZ
noncomputable def f88_r4 (c : CallF) : RF := rg [0, 3, 4] <| aX 9 (pM 4) <|
 aX 10 (pB .add 3 9 (cn (.int .i64 1))) <|
 aX 4 (pM 10) <|
 aXZ
noncomputable def f88_r5 (c : CallF) : RF := rg [0, 3, 4, 24] <| aX 11 (pM 0) <|
 aX 12 (pM 4) <|
 aX 13 (pI 2 11 12) <|
 aX 14 (pF 0 1 13) <|
 aX 15 (pL false 1 14) <|
 aX 16 (pB .eql 59 15 (cn (.int .i8 0))) <|
 aX 17 (pM 16) <|
 aX 18 (pG 17 false (pM 0)) <|
 aX 19 (pG 17 false (pM 4)) <|
 aX 20 (pG 17 false (pI 2 18 19)) <|
 aX 21 (pG 17 false (pF 0 1 20)) <|
 aX 22 (pG 17 false (pL false 1 21)) <|
 aX 23 (pG 17 false (pB .eql 59 22 (cn (.int .i8 1)))) <|
 aX 24 (pP 17 (cn (.bool true)) 23) <|
 aXZ
noncomputable def f88_r6 (c : CallF) : RF := rg [0, 3, 4] <| aX 25 (pM 3) <|
 aX 26 (pM 0) <|
 aX 27 (pM 4) <|
 aX 28 (pI 2 26 27) <|
 aX 29 (pF 1 1 28) <|
 aX 30 (pL false 1 29) <|
 aX 31 (pB .add 2 25 30) <|
 aX 3 (pM 31) <|
 aXZ
noncomputable def f88_r7 (c : CallF) : RF := rg [0, 3, 4] <| aX 32 (pM 3) <|
 aX 33 (pM 0) <|
 aX 34 (pM 4) <|
 aX 35 (pI 2 33 34) <|
 aX 36 (pF 1 1 35) <|
 aX 37 (pL false 1 36) <|
 aX 38 (pB .sub 2 32 37) <|
 aX 3 (pM 38) <|
 aXZ
noncomputable def f88_r8 (c : CallF) : RF := rg [2] <| aX 39 (pM 3) <|
 aX 2 (pM 39) <|
 aXZ
noncomputable def f88_l3 (c : CallF) (k : Nat) : St :=
 (bSeq (bSeq (bReg (f88_r3 c))
 (bCond (.tmp 8) (bEx .nrm) (bEx (.ext 0))))
 (bSeq (bBlock 1 (bSeq (bReg (f88_r5 c))
 (bCond (.tmp 24) (bReg (f88_r6 c)) (bReg (f88_r7 c)))))
 (bReg (f88_r4 c))))
noncomputable def f88 (c : CallF) (k : Nat) : St :=
 (bSeq (bReg (f88_r0 c))
 (bSeq (bReg (f88_r1 c))
 (bSeq (bSeq (bReg (f88_r2 c))
 (bBlock 0 (bLoop [0, 3, 4] (f88_l3 c k) k)))
 (bSeq (bReg (f88_r8 c))
 (bEx .ret)))))
theorem f88_eq (c : CallF) (k : Nat) : exec cx c 40 f88_an k (Try.f88.body.getD .skip) = f88 c k := by kernel_rfl
/-! ### f89: loop.example/g01263/spec.l00Max -/
def f89_an : Ann := ⟨[(0, r0 [0, 1]), (1, r0 [0, 1, 7]), (2, r0 [4]), (3, r0 [4])], []⟩
noncomputable def f89_r0 (c : CallF) : RF := rg [0, 1] <| aX 4 (pM (cn (.int .i64 0))) <|
 aXZ
noncomputable def f89_r1 (c : CallF) : RF := rg [0, 1, 7] <| aX 5 (pM 0) <|
 aX 6 (pM 1) <|
 aX 7 (pB .gtr 2 5 6) <|
 aXZ
noncomputable def f89_r2 (c : CallF) : RF := rg [4] <| aX 8 (pM 0) <|
 aX 4 (pM 8) <|
 aXZ
noncomputable def f89_r3 (c : CallF) : RF := rg [4] <| aX 9 (pM 1) <|
 aX 4 (pM 9) <|
 aXZ
noncomputable def f89 (c : CallF) (k : Nat) : St :=
 (bSeq (bReg (f89_r0 c))
 (bSeq (bSeq (bReg (f89_r1 c))
 (bCond (.tmp 7) (bSeq (bReg (f89_r2 c))
 (bEx .ret)) (bEx .nrm)))
 (bSeq (bReg (f89_r3 c))
 (bEx .ret))))
theorem f89_eq (c : CallF) (k : Nat) : exec cx c 10 f89_an k (Try.f89.body.getD .skip) = f89 c k := by kernel_rfl
/-! ### f90: loop.example/g01263/laws.toItemS -/
def f90_an : Ann := ⟨[(0, r0 [0]), (1, r0 [0, 3]), (2, r0 [0, 3, 4]), (3, r0 [0, 3, 4, 11]), (4, r0 [0, 3, 4]), (5, r0 [0, 3, 4]), (6, r0 [2])], [(3, [0, 3, 4])]⟩
noncomputable def f90_r0 (c : CallF) : RF := rg [0] <| aX 2 (pM (cn .nils)) <|
 aXZ
noncomputable def f90_r1 (c : CallF) : RF := rg [0, 3] <| aX 5 (pM 0) <|
 aX 6 (pLen 78 5) <|
 aX 7 (fun n e M => aMakeO n 140 2 16 (zeroOf cx.P 140) (eget e 6) (eget e 6)) <|
 aX 3 (pM 7) <|
 aXZ
noncomputable def f90_r2 (c : CallF) : RF := rg [0, 3, 4] <| aX 4 (pM (cn (.int .i64 0))) <|
 aXZ
noncomputable def f90_r3 (c : CallF) : RF := rg [0, 3, 4, 11] <| aX 8 (pM 4) <|
 aX 9 (pM 0) <|
 aX 10 (pLen 78 9) <|
 aX 11 (pB .lss 3 8 10) <|
 aXZ
noncomputable def f90_r4 (c : CallF) : RF := rg [0, 3, 4] <| aX 12 (pM 4) <|
 aX 13 (pB .add 3 12 (cn (.int .i64 1))) <|
 aX 4 (pM 13) <|
 aXZ
noncomputable def f90_r5 (c : CallF) : RF := rg [0, 3, 4] <| aX 14 (pM 3) <|
 aX 15 (pM 4) <|
 aX 16 (pM 0) <|
 aX 17 (pM 4) <|
 aX 18 (pI 2 16 17) <|
 aX 19 (pL true 2 18) <|
 aX 20 (pK c false 114 [19]) <|
 aX 21 (pI 2 14 15) <|
 aX0 (pS 2 21 20) <|
 aXZ
noncomputable def f90_r6 (c : CallF) : RF := rg [2] <| aX 22 (pM 3) <|
 aX 2 (pM 22) <|
 aXZ
noncomputable def f90_l3 (c : CallF) (k : Nat) : St :=
 (bSeq (bSeq (bReg (f90_r3 c))
 (bCond (.tmp 11) (bEx .nrm) (bEx (.ext 0))))
 (bSeq (bBlock 1 (bReg (f90_r5 c)))
 (bReg (f90_r4 c))))
noncomputable def f90 (c : CallF) (k : Nat) : St :=
 (bSeq (bReg (f90_r0 c))
 (bSeq (bReg (f90_r1 c))
 (bSeq (bSeq (bReg (f90_r2 c))
 (bBlock 0 (bLoop [0, 3, 4] (f90_l3 c k) k)))
 (bSeq (bReg (f90_r6 c))
 (bEx .ret)))))
theorem f90_eq (c : CallF) (k : Nat) : exec cx c 23 f90_an k (Try.f90.body.getD .skip) = f90 c k := by kernel_rfl
/-! ### f91: loop.example/g01263/impl.isLetters -/
def f91_an : Ann := ⟨[(0, r0 [0, 1]), (1, r0 [0, 1, 7, 8]), (2, r0 [0, 1, 7, 8, 9]), (3, r0 [0, 1, 5, 7, 8]), (4, r0 [0, 1, 7, 8, 20]), (5, r0 [4]), (6, r0 [0, 1, 7, 8]), (7, r0 [4])], [(2, [0, 1, 7, 8])]⟩
noncomputable def f91_r0 (c : CallF) : RF := rg [0, 1] <| aX 4 (pM (cn (.bool false))) <|
 aXZ
noncomputable def f91_r1 (c : CallF) : RF := rg [0, 1, 7, 8] <| aX 6 (pM 0) <|
 aX 7 (pLen 9 6) <|
 aX 8 (pM (cn (.int .i64 0))) <|
 aXZ
noncomputable def f91_r2 (c : CallF) : RF := rg [0, 1, 7, 8, 9] <| aX 9 (pB .lss 3 8 7) <|
 aXZ
noncomputable def f91_r3 (c : CallF) : RF := rg [0, 1, 5, 7, 8] <| aX 10 (pM 8) <|
 aX 5 (pM 10) <|
 aXZ
noncomputable def f91_r4 (c : CallF) : RF := rg [0, 1, 7, 8, 20] <| aX 11 (pM 0) <|
 aX 12 (pM 5) <|
 aX 13 (fun n e M => keep (aIndexB (eget e 11) (eget e 12))) <|
 aX 14 (pB .lss 5 13 (cn (.int .u8 97))) <|
 aX 15 (pM 14) <|
 aX 16 (pG 15 false (pM 0)) <|
 aX 17 (pG 15 false (pM 5)) <|
 aX 18 (pG 15 false (fun n e M => keep (aIndexB (eget e 16) (eget e 17)))) <|
 aX 19 (pG 15 false (pB .gtr 5 18 (cn (.int .u8 122)))) <|
 aX 20 (pP 15 (cn (.bool true)) 19) <|
 aXZ
noncomputable def f91_r5 (c : CallF) : RF := rg [4] <| aX 4 (pM (cn (.bool false))) <|
 aXZ
noncomputable def f91_r6 (c : CallF) : RF := rg [0, 1, 7, 8] <| aX 21 (pB .add 3 8 (cn (.int .i64 1))) <|
 aX 8 (pM 21) <|
 aXZ
noncomputable def f91_r7 (c : CallF) : RF := rg [4] <| aX 22 (pM 0) <|
 aX 23 (pLen 9 22) <|
 aX 24 (pB .geq 3 23 (cn (.int .i64 1))) <|
 aX 25 (pM 24) <|
 aX 26 (pG 25 true (pM 0)) <|
 aX 27 (pG 25 true (pLen 9 26)) <|
 aX 28 (pG 25 true (pM 1)) <|
 aX 29 (pG 25 true (pB .leq 3 27 28)) <|
 aX 30 (pP 25 29 (cn (.bool false))) <|
 aX 4 (pM 30) <|
 aXZ
noncomputable def f91_l2 (c : CallF) (k : Nat) : St :=
 (bSeq (bReg (f91_r2 c))
 (bSeq (bCond (.tmp 9) (bEx .nrm) (bEx (.ext 0)))
 (bSeq (bBlock 1 (bSeq (bReg (f91_r3 c))
 (bSeq (bReg (f91_r4 c))
 (bCond (.tmp 20) (bSeq (bReg (f91_r5 c))
 (bEx .ret)) (bEx .nrm)))))
 (bReg (f91_r6 c)))))
noncomputable def f91 (c : CallF) (k : Nat) : St :=
 (bSeq (bReg (f91_r0 c))
 (bSeq (bSeq (bReg (f91_r1 c))
 (bBlock 0 (bLoop [0, 1, 7, 8] (f91_l2 c k) k)))
 (bSeq (bReg (f91_r7 c))
 (bEx .ret))))
theorem f91_eq (c : CallF) (k : Nat) : exec cx c 31 f91_an k (Try.f91.body.getD .skip) = f91 c k := by kernel_rfl
/-! ### f92: loop.example/g01263/impl.ValidItems -/
def f92_an : Ann := ⟨[(0, r0 [0]), (1, r0 [0, 5, 6, 7]), (2, r0 [0, 5, 6, 7, 8]), (3, r0 [0, 4, 5, 6, 7]), (4, r0 [0, 5, 6, 7, 13]), (5, r0 [2]), (6, r0 [0, 5, 6, 7]), (7, r0 [2])], [(2, [0, 5, 6, 7])]⟩
noncomputable def f92_r0 (c : CallF) : RF := rg [0] <| aX 2 (pM (cn (.bool false))) <|
 aXZ
noncomputable def f92_r1 (c : CallF) : RF := rg [0, 5, 6, 7] <| aX 5 (pM 0) <|
 aX 6 (pLen 73 5) <|
 aX 7 (pM (cn (.int .i64 0))) <|
 aXZ
noncomputable def f92_r2 (c : CallF) : RF := rg [0, 5, 6, 7, 8] <| aX 8 (pB .lss 3 7 6) <|
 aXZ
noncomputable def f92_r3 (c : CallF) : RF := rg [0, 4, 5, 6, 7] <| aX 9 (pI 2 5 7) <|
 aX 10 (pL true 2 9) <|
 aX 4 (pAl 140 2) <|
 aX0 (pS 2 4 10) <|
 aXZ
noncomputable def f92_r4 (c : CallF) : RF := rg [0, 5, 6, 7, 13] <| aX 11 (pL true 2 4) <|
 aX 12 (pK c false 115 [11]) <|
 aX 13 (pU .not 12) <|
 aXZ
noncomputable def f92_r5 (c : CallF) : RF := rg [2] <| aX 2 (pM (cn (.bool false))) <|
 aXZ
noncomputable def f92_r6 (c : CallF) : RF := rg [0, 5, 6, 7] <| aX 14 (pB .add 3 7 (cn (.int .i64 1))) <|
 aX 7 (pM 14) <|
 aXZ
noncomputable def f92_r7 (c : CallF) : RF := rg [2] <| aX 15 (pM 0) <|
 aX 16 (pLen 73 15) <|
 aX 17 (pB .leq 3 16 (cn (.int .i64 40))) <|
 aX 2 (pM 17) <|
 aXZ
noncomputable def f92_l2 (c : CallF) (k : Nat) : St :=
 (bSeq (bReg (f92_r2 c))
 (bSeq (bCond (.tmp 8) (bEx .nrm) (bEx (.ext 0)))
 (bSeq (bBlock 1 (bSeq (bReg (f92_r3 c))
 (bSeq (bReg (f92_r4 c))
 (bCond (.tmp 13) (bSeq (bReg (f92_r5 c))
 (bEx .ret)) (bEx .nrm)))))
 (bReg (f92_r6 c)))))
noncomputable def f92 (c : CallF) (k : Nat) : St :=
 (bSeq (bReg (f92_r0 c))
 (bSeq (bSeq (bReg (f92_r1 c))
 (bBlock 0 (bLoop [0, 5, 6, 7] (f92_l2 c k) k)))
 (bSeq (bReg (f92_r7 c))
 (bEx .ret))))
theorem f92_eq (c : CallF) (k : Nat) : exec cx c 18 f92_an k (Try.f92.body.getD .skip) = f92 c k := by kernel_rfl
/-! ### f93: loop.example/g01263/impl.balance -/
def f93_an : Ann := ⟨[(0, r0 [0]), (1, r0 [0, 3]), (2, r0 [3, 6, 7, 8]), (3, r0 [3, 6, 7, 8, 9]), (4, r0 [3, 5, 6, 7, 8]), (5, r0 [3, 5, 6, 7, 8, 19]), (6, r0 [3, 6, 7, 8]), (7, r0 [3, 6, 7, 8]), (8, r0 [3, 6, 7, 8]), (9, r0 [2])], [(3, [3, 6, 7, 8])]⟩
noncomputable def f93_r0 (c : CallF) : RF := rg [0] <| aX 2 (pM (cn (.int .i64 0))) <|
 aXZ
noncomputable def f93_r1 (c : CallF) : RF := rg [0, 3] <| aX 3 (pM (cn (.int .i64 0))) <|
 aXZ
noncomputable def f93_r2 (c : CallF) : RF := rg [3, 6, 7, 8] <| aX 6 (pM 0) <|
 aX 7 (pLen 73 6) <|
 aX 8 (pM (cn (.int .i64 0))) <|
 aXZ
noncomputable def f93_r3 (c : CallF) : RF := rg [3, 6, 7, 8, 9] <| aX 9 (pB .lss 3 8 7) <|
 aXZ
noncomputable def f93_r4 (c : CallF) : RF := rg [3, 5, 6, 7, 8] <| aX 10 (pI 2 6 8) <|
 aX 11 (pL true 2 10) <|
 aX 5 (pAl 140 2) <|
 aX0 (pS 2 5 11) <|
 aXZ
noncomputable def f93_r5 (c : CallF) : RF := rg [3, 5, 6, 7, 8, 19] <| aX 12 (pF 0 1 5) <|
 aX 13 (pL false 1 12) <|
 aX 14 (pB .eql 59 13 (cn (.int .i8 0))) <|
 aX 15 (pM 14) <|
 aX 16 (pG 15 false (pF 0 1 5)) <|
 aX 17 (pG 15 false (pL false 1 16)) <|
 aX 18 (pG 15 false (pB .eql 59 17 (cn (.int .i8 1)))) <|
 aX 19 (pP 15 (cn (.bool true)) 18) <|
 aXZ
noncomputable def f93_r6 (c : CallF) : RF := rg [3, 6, 7, 8] <| aX 20 (pM 3) <|
 aX 21 (pF 1 1 5) <|
 aX 22 (pL false 1 21) <|
 aX 23 (pB .add 2 20 22) <|
 aX 3 (pM 23) <|
 aXZ
noncomputable def f93_r7 (c : CallF) : RF := rg [3, 6, 7, 8] <| aX 24 (pM 3) <|
 aX 25 (pF 1 1 5) <|
 aX 26 (pL false 1 25) <|
 aX 27 (pB .sub 2 24 26) <|
 aX 3 (pM 27) <|
 aXZ
noncomputable def f93_r8 (c : CallF) : RF := rg [3, 6, 7, 8] <| aX 28 (pB .add 3 8 (cn (.int .i64 1))) <|
 aX 8 (pM 28) <|
 aXZ
noncomputable def f93_r9 (c : CallF) : RF := rg [2] <| aX 29 (pM 3) <|
 aX 2 (pM 29) <|
 aXZ
noncomputable def f93_l3 (c : CallF) (k : Nat) : St :=
 (bSeq (bReg (f93_r3 c))
 (bSeq (bCond (.tmp 9) (bEx .nrm) (bEx (.ext 0)))
 (bSeq (bBlock 1 (bSeq (bReg (f93_r4 c))
 (bSeq (bReg (f93_r5 c))
 (bCond (.tmp 19) (bReg (f93_r6 c)) (bReg (f93_r7 c))))))
 (bReg (f93_r8 c)))))
noncomputable def f93 (c : CallF) (k : Nat) : St :=
 (bSeq (bReg (f93_r0 c))
 (bSeq (bReg (f93_r1 c))
 (bSeq (bSeq (bReg (f93_r2 c))
 (bBlock 0 (bLoop [3, 6, 7, 8] (f93_l3 c k) k)))
 (bSeq (bReg (f93_r9 c))
 (bEx .ret)))))
theorem f93_eq (c : CallF) (k : Nat) : exec cx c 30 f93_an k (Try.f93.body.getD .skip) = f93 c k := by kernel_rfl
/-! ### f94: slices.ContainsFunc[[]loop.example/g01263/impl.Account,loop.example/g01263/impl.Account] -/
def f94_an : Ann := ⟨[(0, r0 [0, 1]), (1, r0 [4])], []⟩
noncomputable def f94_r0 (c : CallF) : RF := rg [0, 1] <| aX 4 (pM (cn (.bool false))) <|
 aXZ
noncomputable def f94_r1 (c : CallF) : RF := rg [4] <| aX 5 (pM 0) <|
 aX 6 (pM 1) <|
 aX 7 (pK c false 116 [5, 6]) <|
 aX 8 (pB .geq 3 7 (cn (.int .i64 0))) <|
 aX 4 (pM 8) <|
 aXZ
noncomputable def f94 (c : CallF) (k : Nat) : St :=
 (bSeq (bReg (f94_r0 c))
 (bSeq (bReg (f94_r1 c))
 (bEx .ret)))
theorem f94_eq (c : CallF) (k : Nat) : exec cx c 9 f94_an k (Try.f94.body.getD .skip) = f94 c k := by kernel_rfl
/-! ### f95: loop.example/g01263/impl.hasTitle$1 -/
def f95_an : Ann := ⟨[(0, r0 [1, 2]), (1, r0 [3])], []⟩
noncomputable def f95_r0 (c : CallF) : RF := rg [1, 2] <| aX 2 (pBox 3 0) <|
 aX 3 (pM (cn (.bool false))) <|
 aXZ
noncomputable def f95_r1 (c : CallF) : RF := rg [3] <| aX 4 (pF 0 1 2) <|
 aX 5 (pL false 1 4) <|
 aX 6 (pL false 1 1) <|
 aX 7 (pB .eql 9 5 6) <|
 aX 3 (pM 7) <|
 aXZ
noncomputable def f95 (c : CallF) (k : Nat) : St :=
 (bSeq (bReg (f95_r0 c))
 (bSeq (bReg (f95_r1 c))
 (bEx .ret)))
theorem f95_eq (c : CallF) (k : Nat) : exec cx c 8 f95_an k (Try.f95.body.getD .skip) = f95 c k := by kernel_rfl
/-! ### f97: loop.example/g01263/laws.eqItemS -/
def f97_an : Ann := ⟨[(0, r0 [0, 1]), (1, r0 [0, 1, 10]), (2, r0 [4]), (3, r0 [0, 1, 5]), (4, r0 [0, 1, 5, 14]), (5, r0 [0, 1, 5]), (6, r0 [0, 1, 5, 26]), (7, r0 [4]), (8, r0 [4])], [(4, [0, 1, 5])]⟩
noncomputable def f97_r0 (c : CallF) : RF := rg [0, 1] <| aX 4 (pM (cn (.bool false))) <|
 aXZ
noncomputable def f97_r1 (c : CallF) : RF := rg [0, 1, 10] <| aX 6 (pM 0) <|
 aX 7 (pLen 73 6) <|
 aX 8 (pM 1) <|
 aX 9 (pLen 73 8) <|
 aX 10 (pB .neq 3 7 9) <|
 aXZ
noncomputable def f97_r2 (c : CallF) : RF := rg [4] <| aX 4 (pM (cn (.bool false))) <|
 aXZ
noncomputable def f97_r3 (c : CallF) : RF := rg [0, 1, 5] <| aX 5 (pM (cn (.int .i64 0))) <|
 aXZ
noncomputable def f97_r4 (c : CallF) : RF := rg [0, 1, 5, 14] <| aX 11 (pM 5) <|
 aX 12 (pM 0) <|
 aX 13 (pLen 73 12) <|
 aX 14 (pB .lss 3 11 13) <|
 aXZ
noncomputable def f97_r5 (c : CallF) : RF := rg [0, 1, 5] <| aX 15 (pM 5) <|
 aX 16 (pB .add 3 15 (cn (.int .i64 1))) <|
 aX 5 (pM 16) <|
 aXZ
noncomputable def f97_r6 (c : CallF) : RF := rgD [0, 1, 5, 26] (aY 17 (pM 0) <|
 aY 18 (pM 5) <|
 aY 19 (pI 2 17 18) <|
 aY 20 (pL true 2 19) <|
 aY 21 (pM 1) <|
 aY 22 (pM 5) <|
 aY 23 (pI 2 21 22) <|
 aY 24 (pL true 2 23) <|
 aY 25 (pK c false 117 [20, 24]) <|
 aY 26 (pU .not 25) <|
 aYZ)
 (aXZ)
noncomputable def f97_r7 (c : CallF) : RF := rg [4] <| aX 4 (pM (cn (.bool false))) <|
 aXZ
noncomputable def f97_r8 (c : CallF) : RF := rg [4] <| aX 4 (pM (cn (.bool true))) <|
 aXZ
noncomputable def f97_l4 (c : CallF) (k : Nat) : St :=
 (bSeq (bSeq (bReg (f97_r4 c))
 (bCond (.tmp 14) (bEx .nrm) (bEx (.ext 0))))
 (bSeq (bBlock 1 (bSeq (bReg (f97_r6 c))
 (bCond (.tmp 26) (bSeq (bReg (f97_r7 c))
 (bEx .ret)) (bEx .nrm))))
 (bReg (f97_r5 c))))
noncomputable def f97 (c : CallF) (k : Nat) : St :=
 (bSeq (bReg (f97_r0 c))
 (bSeq (bSeq (bReg (f97_r1 c))
 (bCond (.tmp 10) (bSeq (bReg (f97_r2 c))
 (bEx .ret)) (bEx .nrm)))
 (bSeq (bSeq (bReg (f97_r3 c))
 (bBlock 0 (bLoop [0, 1, 5] (f97_l4 c k) k)))
 (bSeq (bReg (f97_r8 c))
 (bEx .ret)))))
theorem f97_eq (c : CallF) (k : Nat) : exec cx c 27 f97_an k (Try.f97.body.getD .skip) = f97 c k := by kernel_rfl
/-! ### f108: loop.example/g01263/spec.l00In -/
def f108_an : Ann := ⟨[(0, r0 [0, 1, 2]), (1, r0 [6])], []⟩
noncomputable def f108_r0 (c : CallF) : RF := rg [0, 1, 2] <| aX 6 (pM (cn (.bool false))) <|
 aXZ
noncomputable def f108_r1 (c : CallF) : RF := rg [6] <| aX 7 (pM 0) <|
 aX 8 (pM 1) <|
 aX 9 (pB .geq 2 7 8) <|
 aX 10 (pM 9) <|
 aX 11 (pG 10 true (pM 0)) <|
 aX 12 (pG 10 true (pM 2)) <|
 aX 13 (pG 10 true (pB .leq 2 11 12)) <|
 aX 14 (pP 10 13 (cn (.bool false))) <|
 aX 6 (pM 14) <|
 aXZ
noncomputable def f108 (c : CallF) (k : Nat) : St :=
 (bSeq (bReg (f108_r0 c))
 (bSeq (bReg (f108_r1 c))
 (bEx .ret)))
theorem f108_eq (c : CallF) (k : Nat) : exec cx c 15 f108_an k (Try.f108.body.getD .skip) = f108 c k := by kernel_rfl
/-! ### f113: loop.example/g01263/spec.l05Item -/
def f113_an : Ann := ⟨[(0, r0 [0]), (1, r0 [2])], []⟩
noncomputable def f113_r0 (c : CallF) : RF := rg [0] <| aX 2 (pM (cn (.bool false))) <|
 aXZ
noncomputable def f113_r1 (c : CallF) : RF := rg [2] <| aX 3 (pM 0) <|
 aX 4 (pN 3) <|
 aX 5 (pF 0 1 4) <|
 aX 6 (pL false 1 5) <|
 aX 7 (fun n e M => keep (aConvI .i64 (eget e 6))) <|
 aX 8 (pK c false 108 [7, (cn (.int .i64 0)), (cn (.int .i64 3))]) <|
 aX 9 (pM 8) <|
 aX 10 (pG 9 true (pM 0)) <|
 aX 11 (pG 9 true (pN 10)) <|
 aX 12 (pG 9 true (pF 1 1 11)) <|
 aX 13 (pG 9 true (pL false 1 12)) <|
 aX 14 (pG 9 true (pK c false 123 [13])) <|
 aX 15 (pP 9 14 (cn (.bool false))) <|
 aX 2 (pM 15) <|
 aXZ
noncomputable def f113 (c : CallF) (k : Nat) : St :=
 (bSeq (bReg (f113_r0 c))
 (bSeq (bReg (f113_r1 c))
 (bEx .ret)))
theorem f113_eq (c : CallF) (k : Nat) : exec cx c 16 f113_an k (Try.f113.body.getD .skip) = f113 c k := by kernel_rfl
/-! ### f114: loop.example/g01263/laws.toItem -/
def f114_an : Ann := ⟨[(0, r0 [1, 2]), (1, r0 [1, 2, 3]), (2, r0 [1, 2, 3]), (3, r0 [2, 3]), (4, r0 [2])], []⟩
noncomputable def f114_r0 (c : CallF) : RF := rg [1, 2] <| aX 1 (pBox 2 0) <|
 aX 2 (pAl 140 2) <|
 aXZ
noncomputable def f114_r1 (c : CallF) : RF := rg [1, 2, 3] <| aX 3 (pAl 140 2) <|
 aXZ
noncomputable def f114_r2 (c : CallF) : RF := rg [1, 2, 3] <| aX 4 (pF 0 1 1) <|
 aX 5 (pL false 1 4) <|
 aX 6 (pF 0 1 3) <|
 aX0 (pS 1 6 5) <|
 aXZ
noncomputable def f114_r3 (c : CallF) : RF := rg [2, 3] <| aX 7 (pF 1 1 1) <|
 aX 8 (pL false 1 7) <|
 aX 9 (pF 1 1 3) <|
 aX0 (pS 1 9 8) <|
 aXZ
noncomputable def f114_r4 (c : CallF) : RF := rg [2] <| aX 10 (pL true 2 3) <|
 aX0 (pS 2 2 10) <|
 aXZ
noncomputable def f114 (c : CallF) (k : Nat) : St :=
 (bSeq (bReg (f114_r0 c))
 (bSeq (bReg (f114_r1 c))
 (bSeq (bReg (f114_r2 c))
 (bSeq (bReg (f114_r3 c))
 (bSeq (bReg (f114_r4 c))
 (bEx .ret))))))
theorem f114_eq (c : CallF) (k : Nat) : exec cx c 11 f114_an k (Try.f114.body.getD .skip) = f114 c k := by kernel_rfl
/-! ### f115: loop.example/g01263/impl.validItem -/
def f115_an : Ann := ⟨[(0, r0 [1]), (1, r0 [2])], []⟩
noncomputable def f115_r0 (c : CallF) : RF := rg [1] <| aX 1 (pBox 2 0) <|
 aX 2 (pM (cn (.bool false))) <|
 aXZ
noncomputable def f115_r1 (c : CallF) : RF := rg [2] <| aX 3 (pF 0 1 1) <|
 aX 4 (pL false 1 3) <|
 aX 5 (pB .geq 59 4 (cn (.int .i8 0))) <|
 aX 6 (pM 5) <|
 aX 7 (pG 6 true (pF 0 1 1)) <|
 aX 8 (pG 6 true (pL false 1 7)) <|
 aX 9 (pG 6 true (pB .leq 59 8 (cn (.int .i8 3)))) <|
 aX 10 (pP 6 9 (cn (.bool false))) <|
 aX 11 (pM 10) <|
 aX 12 (pG 11 true (pF 1 1 1)) <|
 aX 13 (pG 11 true (pL false 1 12)) <|
 aX 14 (pG 11 true (pK c false 66 [13])) <|
 aX 15 (pP 11 14 (cn (.bool false))) <|
 aX 2 (pM 15) <|
 aXZ
noncomputable def f115 (c : CallF) (k : Nat) : St :=
 (bSeq (bReg (f115_r0 c))
 (bSeq (bReg (f115_r1 c))
 (bEx .ret)))
theorem f115_eq (c : CallF) (k : Nat) : exec cx c 16 f115_an k (Try.f115.body.getD .skip) = f115 c k := by kernel_rfl
/-! ### f116: slices.IndexFunc[[]loop.example/g01263/impl.Account,loop.example/g01263/impl.Account] -/
def f116_an : Ann := ⟨[(0, r0 [0, 1]), (1, r0 [0, 1, 7, 8]), (2, r0 [0, 1, 7, 8, 9]), (3, r0 [0, 1, 5, 7, 8]), (4, r0 [0, 1, 5, 7, 8, 16]), (5, r0 [4]), (6, r0 [0, 1, 7, 8]), (7, r0 [4])], [(2, [0, 1, 7, 8])]⟩
noncomputable def f116_r0 (c : CallF) : RF := rg [0, 1] <| aX 4 (pM (cn (.int .i64 0))) <|
 aXZ
noncomputable def f116_r1 (c : CallF) : RF := rg [0, 1, 7, 8] <| aX 6 (pM 0) <|
 aX 7 (pLen 28 6) <|
 aX 8 (pM (cn (.int .i64 0))) <|
 aXZ
noncomputable def f116_r2 (c : CallF) : RF := rg [0, 1, 7, 8, 9] <| aX 9 (pB .lss 3 8 7) <|
 aXZ
noncomputable def f116_r3 (c : CallF) : RF := rg [0, 1, 5, 7, 8] <| aX 10 (pM 8) <|
 aX 5 (pM 10) <|
 aXZ
noncomputable def f116_r4 (c : CallF) : RF := rg [0, 1, 5, 7, 8, 16] <| aX 11 (pM 1) <|
 aX 12 (pM 0) <|
 aX 13 (pM 5) <|
 aX 14 (pI 3 12 13) <|
 aX 15 (pL true 3 14) <|
 aX 16 (fun n e M => oCall cx c false n (eget e 11) [(eget e 15)] M) <|
 aXZ
noncomputable def f116_r5 (c : CallF) : RF := rg [4] <| aX 17 (pM 5) <|
 aX 4 (pM 17) <|
 aXZ
noncomputable def f116_r6 (c : CallF) : RF := rg [0, 1, 7, 8] <| aX 18 (pB .add 3 8 (cn (.int .i64 1))) <|
 aX 8 (pM 18) <|
 aXZ
noncomputable def f116_r7 (c : CallF) : RF := rg [4] <| aX 4 (pM (cn (.int .i64 (-1)))) <|
 aXZ
noncomputable def f116_l2 (c : CallF) (k : Nat) : St :=
 (bSeq (bReg (f116_r2 c))
 (bSeq (bCond (.tmp 9) (bEx .nrm) (bEx (.ext 0)))
 (bSeq (bBlock 1 (bSeq (bReg (f116_r3 c))
 (bSeq (bReg (f116_r4 c))
 (bCond (.tmp 16) (bSeq (bReg (f116_r5 c))
 (bEx .ret)) (bEx .nrm)))))
 (bReg (f116_r6 c)))))
noncomputable def f116 (c : CallF) (k : Nat) : St :=
 (bSeq (bReg (f116_r0 c))
 (bSeq (bSeq (bReg (f116_r1 c))
 (bBlock 0 (bLoop [0, 1, 7, 8] (f116_l2 c k) k)))
 (bSeq (bReg (f116_r7 c))
 (bEx .ret))))
theorem f116_eq (c : CallF) (k : Nat) : exec cx c 19 f116_an k (Try.f116.body.getD .skip) = f116 c k := by kernel_rfl
/-! ### f117: loop.example/g01263/laws.eqItem -/
def f117_an : Ann := ⟨[(0, r0 [2, 3]), (1, r0 [2, 3, 9]), (2, r0 [4]), (3, r0 [14]), (4, r0 [4]), (5, r0 [4])], []⟩
noncomputable def f117_r0 (c : CallF) : RF := rg [2, 3] <| aX 2 (pBox 2 0) <|
 aX 3 (pBox 2 1) <|
 aX 4 (pM (cn (.bool false))) <|
 aXZ
noncomputable def f117_r1 (c : CallF) : RF := rg [2, 3, 9] <| aX 5 (pF 0 1 2) <|
 aX 6 (pL false 1 5) <|
 aX 7 (pF 0 1 3) <|
 aX 8 (pL false 1 7) <|
 aX 9 (pB .neq 59 6 8) <|
 aXZ
noncomputable def f117_r2 (c : CallF) : RF := rg [4] <| aX 4 (pM (cn (.bool false))) <|
 aXZ
noncomputable def f117_r3 (c : CallF) : RF := rg [14] <| aX 10 (pF 1 1 2) <|
 aX 11 (pL false 1 10) <|
 aX 12 (pF 1 1 3) <|
 aX 13 (pL false 1 12) <|
 aX 14 (pB .neq 2 11 13) <|
 aXZ
noncomputable def f117_r4 (c : CallF) : RF := rg [4] <| aX 4 (pM (cn (.bool false))) <|
 aXZ
noncomputable def f117_r5 (c : CallF) : RF := rg [4] <| aX 4 (pM (cn (.bool true))) <|
 aXZ
noncomputable def f117 (c : CallF) (k : Nat) : St :=
 (bSeq (bReg (f117_r0 c))
 (bSeq (bSeq (bReg (f117_r1 c))
 (bCond (.tmp 9) (bSeq (bReg (f117_r2 c))
 (bEx .ret)) (bEx .nrm)))
 (bSeq (bSeq (bReg (f117_r3 c))
 (bCond (.tmp 14) (bSeq (bReg (f117_r4 c))
 (bEx .ret)) (bEx .nrm)))
 (bSeq (bReg (f117_r5 c))
 (bEx .ret)))))
theorem f117_eq (c : CallF) (k : Nat) : exec cx c 15 f117_an k (Try.f117.body.getD .skip) = f117 c k := by kernel_rfl
/-! ### f123: loop.example/g01263/spec.l01Amount -/
def f123_an : Ann := ⟨[(0, r0 [0]), (1, r0 [2])], []⟩
noncomputable def f123_r0 (c : CallF) : RF := rg [0] <| aX 2 (pM (cn (.bool false))) <|
 aXZ
noncomputable def f123_r1 (c : CallF) : RF := rg [2] <| aX 3 (pM 0) <|
 aX 4 (pK c false 108 [3, (cn (.int .i64 0)), (cn (.int .i64 100000000))]) <|
 aX 2 (pM 4) <|
 aXZ
noncomputable def f123 (c : CallF) (k : Nat) : St :=
 (bSeq (bReg (f123_r0 c))
 (bSeq (bReg (f123_r1 c))
 (bEx .ret)))
theorem f123_eq (c : CallF) (k : Nat) : exec cx c 5 f123_an k (Try.f123.body.getD .skip) = f123 c k := by kernel_rfl
def anns : List (Nat × Ann) := [(3, f3_an), (6, f6_an), (7, f7_an), (8, f8_an), (9, f9_an), (10, f10_an), (11, f11_an), (13, f13_an), (15, f15_an), (38, f38_an), (39, f39_an), (40, f40_an), (41, f41_an), (42, f42_an), (43, f43_an), (45, f45_an), (46, f46_an), (47, f47_an), (48, f48_an), (50, f50_an), (66, f66_an), (83, f83_an), (84, f84_an), (85, f85_an), (86, f86_an), (87, f87_an), (88, f88_an), (89, f89_an), (90, f90_an), (91, f91_an), (92, f92_an), (93, f93_an), (94, f94_an), (95, f95_an), (97, f97_an), (108, f108_an), (113, f113_an), (114, f114_an), (115, f115_an), (116, f116_an), (117, f117_an), (123, f123_an)]
noncomputable def CN0 : Nat → CallF := callN cx (Go.Ab.look anns) (fun _ _ _ => none) (fun _ => false)
def isP (f : Nat) : Bool := has [] f
noncomputable def primF : CallF := splitNil (callN cx (Go.Ab.look anns) (fun _ _ _ => none) (fun _ => false) 3)
noncomputable def CN : Nat → CallF := callN cx (Go.Ab.look anns) primF isP
end Go.Proofs.Ytonpeobfmgdamaa

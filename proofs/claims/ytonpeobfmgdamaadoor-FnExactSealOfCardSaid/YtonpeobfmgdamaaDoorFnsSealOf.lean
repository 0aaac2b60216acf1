/- Printed by a program of ours (ext.py). -/
import Derived.Test.YtonpeobfmgdamaaDoorAbLib
import Derived.Test.YtonpeobfmgdamaaDoorProg
set_option linter.unusedVariables false
set_option linter.unusedSimpArgs false
set_option maxRecDepth 100000
set_option maxHeartbeats 2000000
namespace Go.Proofs.YtonpeobfmgdamaaDoor
open Go Go.Ab
noncomputable def cx : Cx := ⟨Tryd.prog, fun f => has [] f⟩
noncomputable abbrev pB := pB_ cx.P
noncomputable abbrev pLen := pLen_ cx.P
noncomputable abbrev pAl := pAl_ cx.P
noncomputable abbrev pK := pK_ cx
/-! ### f3: loop.example/g01263/laws.FnExactSealOf -/
def f3_an : Ann := ⟨[(0, r0 [1, 2, 3, 4]), (1, r0 [1, 2, 3, 4, 17]), (2, r0 [8]), (3, r0 [1, 2, 3, 4, 9]), (4, r0 [1, 2, 3, 4, 9]), (5, r0 [1, 2, 3, 4, 22]), (6, r0 [8]), (7, r0 [1, 2, 3, 4, 10, 11]), (8, r0 [1, 2, 3, 4, 10, 11, 12]), (9, r0 [4, 10, 11, 12, 13, 14]), (10, r0 [4, 12, 49]), (11, r0 [8]), (12, r0 [54]), (13, r0 [8]), (14, r0 [8])], []⟩
noncomputable def f3_r0 (c : CallF) : RF := rg [1, 2, 3, 4] <| aX 4 (pBox 18 0) <|
 aX 8 (pM (cn (.bool false))) <|
 aXZ
noncomputable def f3_r1 (c : CallF) : RF := rg [1, 2, 3, 4, 17] <| aX 15 (pM 2) <|
 aX 16 (pLen 9 15) <|
 aX 17 (pB .gtr 3 16 (cn (.int .i64 1048576))) <|
 aXZ
noncomputable def f3_r2 (c : CallF) : RF := rg [8] <| aX 8 (pM (cn (.bool true))) <|
 aXZ
noncomputable def f3_r3 (c : CallF) : RF := rg [1, 2, 3, 4, 9] <| aX 9 (pM (cn (.int .i64 1048576))) <|
 aXZ
noncomputable def f3_r4 (c : CallF) : RF := rg [1, 2, 3, 4, 9] <| aX 18 (pL true 18 4) <|
 aX 19 (pM 9) <|
 aX 20 (pK c false 6 [18, 19]) <|
 aX 9 (pM 20) <|
 aXZ
noncomputable def f3_r5 (c : CallF) : RF := rg [1, 2, 3, 4, 22] <| aX 21 (pM 9) <|
 aX 22 (pB .lss 3 21 (cn (.int .i64 0))) <|
 aXZ
noncomputable def f3_r6 (c : CallF) : RF := rg [8] <| aX 8 (pM (cn (.bool true))) <|
 aXZ
noncomputable def f3_r7 (c : CallF) : RF := rg [1, 2, 3, 4, 10, 11] <| aX 24 (pL true 18 4) <|
 aX 25 (pK c false 8 [24]) <|
 aX 26 (pM 1) <|
 aX 27 (pM 2) <|
 aX 28 (pM 3) <|
 aX 29 (pK c false 7 [25, 26, 27, 28]) <|
 aX 23 (pM 29) <|
 aX 30 (pE 0 23) <|
 aX 31 (pE 1 23) <|
 aX 10 (pM 30) <|
 aX 11 (pM 31) <|
 aXZ
noncomputable def f3_r8 (c : CallF) : RF := rg [1, 2, 3, 4, 10, 11, 12] <| aX 32 (pL true 18 4) <|
 aX 33 (pK c false 8 [32]) <|
 aX 12 (pAl 34 18) <|
 aX0 (pS 18 12 33) <|
 aXZ
noncomputable def f3_r9 (c : CallF) : RF := rg [4, 10, 11, 12, 13, 14] <| aX 35 (pL true 18 12) <|
 aX 36 (pM 1) <|
 aX 37 (pM 2) <|
 aX 38 (pM 3) <|
 aX 39 (pK c false 9 [35, 36, 37, 38]) <|
 aX 34 (pM 39) <|
 aX 40 (pE 0 34) <|
 aX 41 (pE 1 34) <|
 aX 13 (pM 40) <|
 aX 14 (pM 41) <|
 aXZ
noncomputable def f3_r10 (c : CallF) : RF := rg [4, 12, 49] <| aX 42 (pM 13) <|
 aX 43 (pM 10) <|
 aX 44 (pB .neq 27 42 43) <|
 aX 45 (pM 44) <|
 aX 46 (pG 45 false (pM 14)) <|
 aX 47 (pG 45 false (pM 11)) <|
 aX 48 (pG 45 false (pB .neq 2 46 47)) <|
 aX 49 (pP 45 (cn (.bool true)) 48) <|
 aXZ
noncomputable def f3_r11 (c : CallF) : RF := rg [8] <| aX 8 (pM (cn (.bool false))) <|
 aXZ
noncomputable def f3_r12 (c : CallF) : RF := rgD [54] (aY 50 (pL true 18 12) <|
 aY 51 (pL true 18 4) <|
 aY 52 (pK c false 8 [51]) <|
 aY 53 (pK c false 10 [50, 52]) <|
 aY 54 (pU .not 53) <|
 aYZ)
 (aXZ)
noncomputable def f3_r13 (c : CallF) : RF := rg [8] <| aX 8 (pM (cn (.bool false))) <|
 aXZ
noncomputable def f3_r14 (c : CallF) : RF := rg [8] <| aX 8 (pM (cn (.bool true))) <|
 aXZ
noncomputable def f3 (c : CallF) (k : Nat) : St :=
 (bSeq (bReg (f3_r0 c))
 (bSeq (bSeq (bReg (f3_r1 c))
 (bCond (.tmp 17) (bSeq (bReg (f3_r2 c))
 (bEx .ret)) (bEx .nrm)))
 (bSeq (bReg (f3_r3 c))
 (bSeq (bReg (f3_r4 c))
 (bSeq (bSeq (bReg (f3_r5 c))
 (bCond (.tmp 22) (bSeq (bReg (f3_r6 c))
 (bEx .ret)) (bEx .nrm)))
 (bSeq (bReg (f3_r7 c))
 (bSeq (bReg (f3_r8 c))
 (bSeq (bReg (f3_r9 c))
 (bSeq (bSeq (bReg (f3_r10 c))
 (bCond (.tmp 49) (bSeq (bReg (f3_r11 c))
 (bEx .ret)) (bEx .nrm)))
 (bSeq (bSeq (bReg (f3_r12 c))
 (bCond (.tmp 54) (bSeq (bReg (f3_r13 c))
 (bEx .ret)) (bEx .nrm)))
 (bSeq (bReg (f3_r14 c))
 (bEx .ret))))))))))))
theorem f3_eq (c : CallF) (k : Nat) : exec cx c 55 f3_an k (Tryd.f3.body.getD .skip) = f3 c k := by kernel_rfl
/-! ### f6: loop.example/g01263/laws.szHalf -/
def f6_an : Ann := ⟨[(0, r0 [1, 2]), (1, r0 [1]), (2, r0 [1, 10]), (3, r0 [4]), (4, r0 [4])], []⟩
noncomputable def f6_r0 (c : CallF) : RF := rg [1, 2] <| aX 2 (pBox 18 0) <|
 aX 4 (pM (cn (.int .i64 0))) <|
 aXZ
noncomputable def f6_r1 (c : CallF) : RF := rg [1] <| aX 5 (pF 1 1 2) <|
 aX 6 (pL false 1 5) <|
 aX 7 (pM 1) <|
 aX 8 (pK c false 26 [6, 7]) <|
 aX 1 (pM 8) <|
 aXZ
noncomputable def f6_r2 (c : CallF) : RF := rg [1, 10] <| aX 9 (pM 1) <|
 aX 10 (pB .lss 3 9 (cn (.int .i64 0))) <|
 aXZ
noncomputable def f6_r3 (c : CallF) : RF := rg [4] <| aX 4 (pM (cn (.int .i64 (-1)))) <|
 aXZ
noncomputable def f6_r4 (c : CallF) : RF := rg [4] <| aX 11 (pM 1) <|
 aX 4 (pM 11) <|
 aXZ
noncomputable def f6 (c : CallF) (k : Nat) : St :=
 (bSeq (bReg (f6_r0 c))
 (bSeq (bReg (f6_r1 c))
 (bSeq (bSeq (bReg (f6_r2 c))
 (bCond (.tmp 10) (bSeq (bReg (f6_r3 c))
 (bEx .ret)) (bEx .nrm)))
 (bSeq (bReg (f6_r4 c))
 (bEx .ret)))))
theorem f6_eq (c : CallF) (k : Nat) : exec cx c 12 f6_an k (Tryd.f6.body.getD .skip) = f6 c k := by kernel_rfl
/-! ### f7: loop.example/g01263/spec.SealOf -/
def f7_an : Ann := ⟨[(0, r0 [1, 2, 3, 4]), (1, r0 [1, 2, 3, 4, 11]), (2, r0 [8, 9]), (3, r0 [1, 2, 3, 4, 14]), (4, r0 [8, 9]), (5, r0 [8, 9])], []⟩
noncomputable def f7_r0 (c : CallF) : RF := rg [1, 2, 3, 4] <| aX 4 (pBox 18 0) <|
 aX 8 (pM (cn (.int .u32 0))) <|
 aX 9 (pM (cn (.int .i64 0))) <|
 aXZ
noncomputable def f7_r1 (c : CallF) : RF := rg [1, 2, 3, 4, 11] <| aX 10 (pK c false 27 [4]) <|
 aX 11 (pU .not 10) <|
 aXZ
noncomputable def f7_r2 (c : CallF) : RF := rg [8, 9] <| aX 8 (pM (cn (.int .u32 0))) <|
 aX 9 (pM (cn (.int .i64 1))) <|
 aXZ
noncomputable def f7_r3 (c : CallF) : RF := rg [1, 2, 3, 4, 14] <| aX 12 (pM 2) <|
 aX 13 (pK c false 28 [12]) <|
 aX 14 (pU .not 13) <|
 aXZ
noncomputable def f7_r4 (c : CallF) : RF := rg [8, 9] <| aX 8 (pM (cn (.int .u32 0))) <|
 aX 9 (pM (cn (.int .i64 2))) <|
 aXZ
noncomputable def f7_r5 (c : CallF) : RF := rg [8, 9] <| aX 15 (pM 1) <|
 aX 16 (pM 2) <|
 aX 17 (pM 3) <|
 aX 18 (pK c false 29 [4, 15, 16, 17]) <|
 aX 8 (pM 18) <|
 aX 9 (pM (cn (.int .i64 0))) <|
 aXZ
noncomputable def f7 (c : CallF) (k : Nat) : St :=
 (bSeq (bReg (f7_r0 c))
 (bSeq (bSeq (bReg (f7_r1 c))
 (bCond (.tmp 11) (bSeq (bReg (f7_r2 c))
 (bEx .ret)) (bEx .nrm)))
 (bSeq (bSeq (bReg (f7_r3 c))
 (bCond (.tmp 14) (bSeq (bReg (f7_r4 c))
 (bEx .ret)) (bEx .nrm)))
 (bSeq (bReg (f7_r5 c))
 (bEx .ret)))))
theorem f7_eq (c : CallF) (k : Nat) : exec cx c 19 f7_an k (Tryd.f7.body.getD .skip) = f7 c k := by kernel_rfl
/-! ### f8: loop.example/g01263/laws.toHalf -/
def f8_an : Ann := ⟨[(0, r0 [1, 2]), (1, r0 [1, 2, 3]), (2, r0 [1, 2, 3]), (3, r0 [1, 2, 3]), (4, r0 [2, 3]), (5, r0 [2])], []⟩
noncomputable def f8_r0 (c : CallF) : RF := rg [1, 2] <| aX 1 (pBox 18 0) <|
 aX 2 (pAl 34 18) <|
 aXZ
noncomputable def f8_r1 (c : CallF) : RF := rg [1, 2, 3] <| aX 3 (pAl 34 18) <|
 aXZ
noncomputable def f8_r2 (c : CallF) : RF := rg [1, 2, 3] <| aX 4 (pF 0 1 1) <|
 aX 5 (pL false 1 4) <|
 aX 6 (pF 0 1 3) <|
 aX0 (pS 1 6 5) <|
 aXZ
noncomputable def f8_r3 (c : CallF) : RF := rg [1, 2, 3] <| aX 7 (pF 1 1 1) <|
 aX 8 (pL false 1 7) <|
 aX 9 (pK c false 30 [8]) <|
 aX 10 (pF 1 1 3) <|
 aX0 (pS 1 10 9) <|
 aXZ
noncomputable def f8_r4 (c : CallF) : RF := rg [2, 3] <| aX 11 (pF 2 16 1) <|
 aX 12 (pL true 16 11) <|
 aX 13 (pK c false 31 [12]) <|
 aX 14 (pF 2 16 3) <|
 aX0 (pS 16 14 13) <|
 aXZ
noncomputable def f8_r5 (c : CallF) : RF := rg [2] <| aX 15 (pL true 18 3) <|
 aX0 (pS 18 2 15) <|
 aXZ
noncomputable def f8 (c : CallF) (k : Nat) : St :=
 (bSeq (bReg (f8_r0 c))
 (bSeq (bReg (f8_r1 c))
 (bSeq (bReg (f8_r2 c))
 (bSeq (bReg (f8_r3 c))
 (bSeq (bReg (f8_r4 c))
 (bSeq (bReg (f8_r5 c))
 (bEx .ret)))))))
theorem f8_eq (c : CallF) (k : Nat) : exec cx c 16 f8_an k (Tryd.f8.body.getD .skip) = f8 c k := by kernel_rfl
/-! ### f9: loop.example/g01263/impl.SealOf -/
def f9_an : Ann := ⟨[(0, r0 [1, 2, 3, 4]), (1, r0 [1, 2, 3, 4, 10]), (2, r0 [8, 9]), (3, r0 [1, 2, 3, 4, 14]), (4, r0 [8, 9]), (5, r0 [8, 9])], []⟩
noncomputable def f9_r0 (c : CallF) : RF := rg [1, 2, 3, 4] <| aX 4 (pBox 18 0) <|
 aX 8 (pM (cn (.int .u32 0))) <|
 aX 9 (pM (cn (.int .i64 0))) <|
 aXZ
noncomputable def f9_r1 (c : CallF) : RF := rg [1, 2, 3, 4, 10] <| aX 11 (pL true 18 4) <|
 aX 12 (pK c false 32 [11]) <|
 aX 13 (pU .not 12) <|
 aX 10 (pM 13) <|
 aXZ
noncomputable def f9_r2 (c : CallF) : RF := rg [8, 9] <| aX 8 (pM (cn (.int .u32 0))) <|
 aX 9 (pM (cn (.int .i64 1))) <|
 aXZ
noncomputable def f9_r3 (c : CallF) : RF := rg [1, 2, 3, 4, 14] <| aX 15 (pM 2) <|
 aX 16 (pK c false 33 [15]) <|
 aX 17 (pU .not 16) <|
 aX 14 (pM 17) <|
 aXZ
noncomputable def f9_r4 (c : CallF) : RF := rg [8, 9] <| aX 8 (pM (cn (.int .u32 0))) <|
 aX 9 (pM (cn (.int .i64 2))) <|
 aXZ
noncomputable def f9_r5 (c : CallF) : RF := rg [8, 9] <| aX 18 (pL true 18 4) <|
 aX 19 (pM 1) <|
 aX 20 (pM 2) <|
 aX 21 (pM 3) <|
 aX 22 (pK c false 34 [18, 19, 20, 21]) <|
 aX 8 (pM 22) <|
 aX 9 (pM (cn (.int .i64 0))) <|
 aXZ
noncomputable def f9 (c : CallF) (k : Nat) : St :=
 (bSeq (bReg (f9_r0 c))
 (bSeq (bBlock 0 (bSeq (bReg (f9_r1 c))
 (bCond (.tmp 10) (bSeq (bReg (f9_r2 c))
 (bEx .ret)) (bSeq (bReg (f9_r3 c))
 (bCond (.tmp 14) (bSeq (bReg (f9_r4 c))
 (bEx .ret)) (bEx .nrm))))))
 (bSeq (bReg (f9_r5 c))
 (bEx .ret))))
theorem f9_eq (c : CallF) (k : Nat) : exec cx c 23 f9_an k (Tryd.f9.body.getD .skip) = f9 c k := by kernel_rfl
/-! ### f10: loop.example/g01263/laws.eqHalf -/
def f10_an : Ann := ⟨[(0, r0 [2, 3]), (1, r0 [2, 3, 9]), (2, r0 [4]), (3, r0 [2, 3, 15]), (4, r0 [4]), (5, r0 [21]), (6, r0 [4]), (7, r0 [4])], []⟩
noncomputable def f10_r0 (c : CallF) : RF := rg [2, 3] <| aX 2 (pBox 18 0) <|
 aX 3 (pBox 18 1) <|
 aX 4 (pM (cn (.bool false))) <|
 aXZ
noncomputable def f10_r1 (c : CallF) : RF := rg [2, 3, 9] <| aX 5 (pF 0 1 2) <|
 aX 6 (pL false 1 5) <|
 aX 7 (pF 0 1 3) <|
 aX 8 (pL false 1 7) <|
 aX 9 (pB .neq 4 6 8) <|
 aXZ
noncomputable def f10_r2 (c : CallF) : RF := rg [4] <| aX 4 (pM (cn (.bool false))) <|
 aXZ
noncomputable def f10_r3 (c : CallF) : RF := rg [2, 3, 15] <| aX 10 (pF 1 1 2) <|
 aX 11 (pL false 1 10) <|
 aX 12 (pF 1 1 3) <|
 aX 13 (pL false 1 12) <|
 aX 14 (pK c false 35 [11, 13]) <|
 aX 15 (pU .not 14) <|
 aXZ
noncomputable def f10_r4 (c : CallF) : RF := rg [4] <| aX 4 (pM (cn (.bool false))) <|
 aXZ
noncomputable def f10_r5 (c : CallF) : RF := rg [21] <| aX 16 (pF 2 16 2) <|
 aX 17 (pL true 16 16) <|
 aX 18 (pF 2 16 3) <|
 aX 19 (pL true 16 18) <|
 aX 20 (pK c false 36 [17, 19]) <|
 aX 21 (pU .not 20) <|
 aXZ
noncomputable def f10_r6 (c : CallF) : RF := rg [4] <| aX 4 (pM (cn (.bool false))) <|
 aXZ
noncomputable def f10_r7 (c : CallF) : RF := rg [4] <| aX 4 (pM (cn (.bool true))) <|
 aXZ
noncomputable def f10 (c : CallF) (k : Nat) : St :=
 (bSeq (bReg (f10_r0 c))
 (bSeq (bSeq (bReg (f10_r1 c))
 (bCond (.tmp 9) (bSeq (bReg (f10_r2 c))
 (bEx .ret)) (bEx .nrm)))
 (bSeq (bSeq (bReg (f10_r3 c))
 (bCond (.tmp 15) (bSeq (bReg (f10_r4 c))
 (bEx .ret)) (bEx .nrm)))
 (bSeq (bSeq (bReg (f10_r5 c))
 (bCond (.tmp 21) (bSeq (bReg (f10_r6 c))
 (bEx .ret)) (bEx .nrm)))
 (bSeq (bReg (f10_r7 c))
 (bEx .ret))))))
theorem f10_eq (c : CallF) (k : Nat) : exec cx c 22 f10_an k (Tryd.f10.body.getD .skip) = f10 c k := by kernel_rfl
/-! ### f26: loop.example/g01263/laws.szNotchS -/
def f26_an : Ann := ⟨[(0, r0 [0, 1]), (1, r0 [1]), (2, r0 [1, 10]), (3, r0 [4]), (4, r0 [4])], []⟩
noncomputable def f26_r0 (c : CallF) : RF := rg [0, 1] <| aX 4 (pM (cn (.int .i64 0))) <|
 aXZ
noncomputable def f26_r1 (c : CallF) : RF := rg [1] <| aX 5 (pM 1) <|
 aX 6 (pM 0) <|
 aX 7 (pLen 22 6) <|
 aX 8 (pB .sub 3 5 7) <|
 aX 1 (pM 8) <|
 aXZ
noncomputable def f26_r2 (c : CallF) : RF := rg [1, 10] <| aX 9 (pM 1) <|
 aX 10 (pB .lss 3 9 (cn (.int .i64 0))) <|
 aXZ
noncomputable def f26_r3 (c : CallF) : RF := rg [4] <| aX 4 (pM (cn (.int .i64 (-1)))) <|
 aXZ
noncomputable def f26_r4 (c : CallF) : RF := rg [4] <| aX 11 (pM 1) <|
 aX 4 (pM 11) <|
 aXZ
noncomputable def f26 (c : CallF) (k : Nat) : St :=
 (bSeq (bReg (f26_r0 c))
 (bSeq (bReg (f26_r1 c))
 (bSeq (bSeq (bReg (f26_r2 c))
 (bCond (.tmp 10) (bSeq (bReg (f26_r3 c))
 (bEx .ret)) (bEx .nrm)))
 (bSeq (bReg (f26_r4 c))
 (bEx .ret)))))
theorem f26_eq (c : CallF) (k : Nat) : exec cx c 12 f26_an k (Tryd.f26.body.getD .skip) = f26 c k := by kernel_rfl
/-! ### f27: loop.example/g01263/spec.l01Ok -/
def f27_an : Ann := ⟨[(0, r0 [0]), (1, r0 [2])], []⟩
noncomputable def f27_r0 (c : CallF) : RF := rg [0] <| aX 2 (pM (cn (.bool false))) <|
 aXZ
noncomputable def f27_r1 (c : CallF) : RF := rg [2] <| aX 3 (pM 0) <|
 aX 4 (pN 3) <|
 aX 5 (pF 1 1 4) <|
 aX 6 (pL false 1 5) <|
 aX 7 (pK c false 53 [6]) <|
 aX 8 (pM 7) <|
 aX 9 (pG 8 true (pM 0)) <|
 aX 10 (pG 8 true (pN 9)) <|
 aX 11 (pG 8 true (pF 2 16 10)) <|
 aX 12 (pG 8 true (pL true 16 11)) <|
 aX 13 (pG 8 true (pK c false 54 [12])) <|
 aX 14 (pP 8 13 (cn (.bool false))) <|
 aX 2 (pM 14) <|
 aXZ
noncomputable def f27 (c : CallF) (k : Nat) : St :=
 (bSeq (bReg (f27_r0 c))
 (bSeq (bReg (f27_r1 c))
 (bEx .ret)))
theorem f27_eq (c : CallF) (k : Nat) : exec cx c 15 f27_an k (Tryd.f27.body.getD .skip) = f27 c k := by kernel_rfl
/-! ### f28: loop.example/g01263/spec.l06Name -/
def f28_an : Ann := ⟨[(0, r0 [0]), (1, r0 [0, 3]), (2, r0 [0, 3, 7]), (3, r0 [0, 3]), (4, r0 [0, 3, 19]), (5, r0 [2]), (6, r0 [2])], [(2, [0, 3])]⟩
noncomputable def f28_r0 (c : CallF) : RF := rg [0] <| aX 2 (pM (cn (.bool false))) <|
 aXZ
noncomputable def f28_r1 (c : CallF) : RF := rg [0, 3] <| aX 3 (pM (cn (.int .i64 0))) <|
 aXZ
noncomputable def f28_r2 (c : CallF) : RF := rg [0, 3, 7] <| aX 4 (pM 3) <|
 aX 5 (pM 0) <|
 aX 6 (pLen 9 5) <|
 aX 7 (pB .lss 3 4 6) <|
 aXZ
noncomputable def f28_r3 (c : CallF) : RF := rg [0, 3] <| aX 8 (pM 3) <|
 aX 9 (pB .add 3 8 (cn (.int .i64 1))) <|
 aX 3 (pM 9) <|
 aXZ
noncomputable def f28_r4 (c : CallF) : RF := rg [0, 3, 19] <| aX 10 (pM 0) <|
 aX 11 (pM 3) <|
 aX 12 (fun n e M => keep (aIndexB (eget e 10) (eget e 11))) <|
 aX 13 (pB .lss 5 12 (cn (.int .u8 97))) <|
 aX 14 (pM 13) <|
 aX 15 (pG 14 false (pM 0)) <|
 aX 16 (pG 14 false (pM 3)) <|
 aX 17 (pG 14 false (fun n e M => keep (aIndexB (eget e 15) (eget e 16)))) <|
 aX 18 (pG 14 false (pB .gtr 5 17 (cn (.int .u8 122)))) <|
 aX 19 (pP 14 (cn (.bool true)) 18) <|
 aXZ
noncomputable def f28_r5 (c : CallF) : RF := rg [2] <| aX 2 (pM (cn (.bool false))) <|
 aXZ
noncomputable def f28_r6 (c : CallF) : RF := rg [2] <| aX 20 (pM 0) <|
 aX 21 (pB .neq 9 20 (cn (.str []))) <|
 aX 22 (pM 21) <|
 aX 23 (pG 22 true (pM 0)) <|
 aX 24 (pG 22 true (pLen 9 23)) <|
 aX 25 (pG 22 true (pB .leq 3 24 (cn (.int .i64 12)))) <|
 aX 26 (pP 22 25 (cn (.bool false))) <|
 aX 2 (pM 26) <|
 aXZ
noncomputable def f28_l2 (c : CallF) (k : Nat) : St :=
 (bSeq (bSeq (bReg (f28_r2 c))
 (bCond (.tmp 7) (bEx .nrm) (bEx (.ext 0))))
 (bSeq (bBlock 1 (bSeq (bReg (f28_r4 c))
 (bCond (.tmp 19) (bSeq (bReg (f28_r5 c))
 (bEx .ret)) (bEx .nrm))))
 (bReg (f28_r3 c))))
noncomputable def f28 (c : CallF) (k : Nat) : St :=
 (bSeq (bReg (f28_r0 c))
 (bSeq (bSeq (bReg (f28_r1 c))
 (bBlock 0 (bLoop [0, 3] (f28_l2 c k) k)))
 (bSeq (bReg (f28_r6 c))
 (bEx .ret))))
theorem f28_eq (c : CallF) (k : Nat) : exec cx c 27 f28_an k (Tryd.f28.body.getD .skip) = f28 c k := by kernel_rfl
/-! ### f29: loop.example/g01263/spec.l06Seal -/
def f29_an : Ann := ⟨[(0, r0 [0, 1, 2, 3]), (1, r0 [1, 2, 3, 9]), (2, r0 [2, 3, 9]), (3, r0 [3, 9]), (4, r0 [8])], []⟩
noncomputable def f29_r0 (c : CallF) : RF := rg [0, 1, 2, 3] <| aX 8 (pM (cn (.int .u32 0))) <|
 aXZ
noncomputable def f29_r1 (c : CallF) : RF := rg [1, 2, 3, 9] <| aX 10 (pM 0) <|
 aX 11 (pK c false 56 [10]) <|
 aX 12 (pK c false 55 [(cn (.int .u32 2166136261)), 11]) <|
 aX 9 (pM 12) <|
 aXZ
noncomputable def f29_r2 (c : CallF) : RF := rg [2, 3, 9] <| aX 13 (pM 9) <|
 aX 14 (pM 1) <|
 aX 15 (pK c false 57 [13, 14]) <|
 aX 9 (pM 15) <|
 aXZ
noncomputable def f29_r3 (c : CallF) : RF := rg [3, 9] <| aX 16 (pM 9) <|
 aX 17 (pM 2) <|
 aX 18 (pK c false 55 [16, 17]) <|
 aX 9 (pM 18) <|
 aXZ
noncomputable def f29_r4 (c : CallF) : RF := rg [8] <| aX 19 (pM 9) <|
 aX 20 (pM 3) <|
 aX 21 (pK c false 57 [19, 20]) <|
 aX 8 (pM 21) <|
 aXZ
noncomputable def f29 (c : CallF) (k : Nat) : St :=
 (bSeq (bReg (f29_r0 c))
 (bSeq (bReg (f29_r1 c))
 (bSeq (bReg (f29_r2 c))
 (bSeq (bReg (f29_r3 c))
 (bSeq (bReg (f29_r4 c))
 (bEx .ret))))))
theorem f29_eq (c : CallF) (k : Nat) : exec cx c 22 f29_an k (Tryd.f29.body.getD .skip) = f29 c k := by kernel_rfl
/-! ### f30: loop.example/g01263/laws.toNotchS -/
def f30_an : Ann := ⟨[(0, r0 [0]), (1, r0 [0, 3]), (2, r0 [0, 3, 4]), (3, r0 [0, 3, 4, 11]), (4, r0 [0, 3, 4]), (5, r0 [0, 3, 4]), (6, r0 [2])], [(3, [0, 3, 4])]⟩
noncomputable def f30_r0 (c : CallF) : RF := rg [0] <| aX 2 (pM (cn .nils)) <|
 aXZ
noncomputable def f30_r1 (c : CallF) : RF := rg [0, 3] <| aX 5 (pM 0) <|
 aX 6 (pLen 22 5) <|
 aX 7 (fun n e M => aMakeO n 99 2 4 (zeroOf cx.P 99) (eget e 6) (eget e 6)) <|
 aX 3 (pM 7) <|
 aXZ
noncomputable def f30_r2 (c : CallF) : RF := rg [0, 3, 4] <| aX 4 (pM (cn (.int .i64 0))) <|
 aXZ
noncomputable def f30_r3 (c : CallF) : RF := rg [0, 3, 4, 11] <| aX 8 (pM 4) <|
 aX 9 (pM 0) <|
 aX 10 (pLen 22 9) <|
 aX 11 (pB .lss 3 8 10) <|
 aXZ
noncomputable def f30_r4 (c : CallF) : RF := rg [0, 3, 4] <| aX 12 (pM 4) <|
 aX 13 (pB .add 3 12 (cn (.int .i64 1))) <|
 aX 4 (pM 13) <|
 aXZ
noncomputable def f30_r5 (c : CallF) : RF := rg [0, 3, 4] <| aX 14 (pM 3) <|
 aX 15 (pM 4) <|
 aX 16 (pM 0) <|
 aX 17 (pM 4) <|
 aX 18 (pI 2 16 17) <|
 aX 19 (pL true 2 18) <|
 aX 20 (pK c false 58 [19]) <|
 aX 21 (pI 2 14 15) <|
 aX0 (pS 2 21 20) <|
 aXZ
noncomputable def f30_r6 (c : CallF) : RF := rg [2] <| aX 22 (pM 3) <|
 aX 2 (pM 22) <|
 aXZ
noncomputable def f30_l3 (c : CallF) (k : Nat) : St :=
 (bSeq (bSeq (bReg (f30_r3 c))
 (bCond (.tmp 11) (bEx .nrm) (bEx (.ext 0))))
 (bSeq (bBlock 1 (bReg (f30_r5 c)))
 (bReg (f30_r4 c))))
noncomputable def f30 (c : CallF) (k : Nat) : St :=
 (bSeq (bReg (f30_r0 c))
 (bSeq (bReg (f30_r1 c))
 (bSeq (bSeq (bReg (f30_r2 c))
 (bBlock 0 (bLoop [0, 3, 4] (f30_l3 c k) k)))
 (bSeq (bReg (f30_r6 c))
 (bEx .ret)))))
theorem f30_eq (c : CallF) (k : Nat) : exec cx c 23 f30_an k (Tryd.f30.body.getD .skip) = f30 c k := by kernel_rfl
/-! ### f31: loop.example/g01263/laws.toGrain -/
def f31_an : Ann := ⟨[(0, r0 [1, 2]), (1, r0 [1, 2, 3]), (2, r0 [1, 2, 3, 4]), (3, r0 [1, 2, 3, 4, 6]), (4, r0 [1, 2, 3, 4]), (5, r0 [1, 2, 3, 4]), (6, r0 [2])], [(3, [1, 2, 3, 4])]⟩
noncomputable def f31_r0 (c : CallF) : RF := rg [1, 2] <| aX 1 (pBox 16 0) <|
 aX 2 (pAl 32 16) <|
 aXZ
noncomputable def f31_r1 (c : CallF) : RF := rg [1, 2, 3] <| aX 3 (pAl 32 16) <|
 aXZ
noncomputable def f31_r2 (c : CallF) : RF := rg [1, 2, 3, 4] <| aX 4 (pM (cn (.int .i64 0))) <|
 aXZ
noncomputable def f31_r3 (c : CallF) : RF := rg [1, 2, 3, 4, 6] <| aX 5 (pM 4) <|
 aX 6 (pB .lss 3 5 (cn (.int .i64 16))) <|
 aXZ
noncomputable def f31_r4 (c : CallF) : RF := rg [1, 2, 3, 4] <| aX 7 (pM 4) <|
 aX 8 (pB .add 3 7 (cn (.int .i64 1))) <|
 aX 4 (pM 8) <|
 aXZ
noncomputable def f31_r5 (c : CallF) : RF := rg [1, 2, 3, 4] <| aX 9 (pM 4) <|
 aX 10 (pM 4) <|
 aX 11 (fun n e M => keep (aIndexP 16 1 (eget e 1) (eget e 10) M)) <|
 aX 12 (pL false 1 11) <|
 aX 13 (fun n e M => keep (aIndexP 16 1 (eget e 3) (eget e 9) M)) <|
 aX0 (pS 1 13 12) <|
 aXZ
noncomputable def f31_r6 (c : CallF) : RF := rg [2] <| aX 14 (pL true 16 3) <|
 aX0 (pS 16 2 14) <|
 aXZ
noncomputable def f31_l3 (c : CallF) (k : Nat) : St :=
 (bSeq (bSeq (bReg (f31_r3 c))
 (bCond (.tmp 6) (bEx .nrm) (bEx (.ext 0))))
 (bSeq (bBlock 1 (bReg (f31_r5 c)))
 (bReg (f31_r4 c))))
noncomputable def f31 (c : CallF) (k : Nat) : St :=
 (bSeq (bReg (f31_r0 c))
 (bSeq (bReg (f31_r1 c))
 (bSeq (bSeq (bReg (f31_r2 c))
 (bBlock 0 (bLoop [1, 2, 3, 4] (f31_l3 c k) k)))
 (bSeq (bReg (f31_r6 c))
 (bEx .ret)))))
theorem f31_eq (c : CallF) (k : Nat) : exec cx c 15 f31_an k (Tryd.f31.body.getD .skip) = f31 c k := by kernel_rfl
/-! ### f32: loop.example/g01263/impl.ValidHalf -/
def f32_an : Ann := ⟨[(0, r0 [1]), (1, r0 [1, 14]), (2, r0 [2]), (3, r0 [1, 16, 17, 18]), (4, r0 [1, 16, 17, 18, 19]), (5, r0 [1, 3, 4, 16, 17, 18]), (6, r0 [1, 3, 4, 16, 17, 18, 37]), (7, r0 [2]), (8, r0 [1, 16, 17, 18, 64]), (9, r0 [2]), (10, r0 [1, 16, 17, 18]), (11, r0 [2])], [(4, [1, 16, 17, 18])]⟩
noncomputable def f32_r0 (c : CallF) : RF := rg [1] <| aX 1 (pBox 18 0) <|
 aX 2 (pM (cn (.bool false))) <|
 aXZ
noncomputable def f32_r1 (c : CallF) : RF := rg [1, 14] <| aX 5 (pF 1 1 1) <|
 aX 6 (pL false 1 5) <|
 aX 7 (pLen 31 6) <|
 aX 8 (pB .gtr 3 7 (cn (.int .i64 60))) <|
 aX 9 (pM 8) <|
 aX 10 (pG 9 false (pF 2 16 1)) <|
 aX 11 (pG 9 false (pL true 16 10)) <|
 aX 12 (pG 9 false (pK c false 59 [11])) <|
 aX 13 (pG 9 false (pU .not 12)) <|
 aX 14 (pP 9 (cn (.bool true)) 13) <|
 aXZ
noncomputable def f32_r2 (c : CallF) : RF := rg [2] <| aX 2 (pM (cn (.bool false))) <|
 aXZ
noncomputable def f32_r3 (c : CallF) : RF := rg [1, 16, 17, 18] <| aX 15 (pF 1 1 1) <|
 aX 16 (pL false 1 15) <|
 aX 17 (pLen 31 16) <|
 aX 18 (pM (cn (.int .i64 0))) <|
 aXZ
noncomputable def f32_r4 (c : CallF) : RF := rg [1, 16, 17, 18, 19] <| aX 19 (pB .lss 3 18 17) <|
 aXZ
noncomputable def f32_r5 (c : CallF) : RF := rg [1, 3, 4, 16, 17, 18] <| aX 20 (pM 18) <|
 aX 21 (pI 2 16 18) <|
 aX 22 (pL true 2 21) <|
 aX 4 (pAl 99 2) <|
 aX 3 (pM 20) <|
 aX0 (pS 2 4 22) <|
 aXZ
noncomputable def f32_r6 (c : CallF) : RF := rg [1, 3, 4, 16, 17, 18, 37] <| aX 23 (pF 0 1 4) <|
 aX 24 (pL false 1 23) <|
 aX 25 (fun n e M => keep (aConvI .i64 (eget e 24))) <|
 aX 26 (pK c false 60 [25]) <|
 aX 27 (pU .not 26) <|
 aX 28 (pM 27) <|
 aX 29 (pG 28 false (pF 1 1 4)) <|
 aX 30 (pG 28 false (pL false 1 29)) <|
 aX 31 (pG 28 false (pB .lss 97 30 (cn (.int .i16 0)))) <|
 aX 32 (pP 28 (cn (.bool true)) 31) <|
 aX 33 (pM 32) <|
 aX 34 (pG 33 false (pL true 2 4)) <|
 aX 35 (pG 33 false (pK c false 61 [34])) <|
 aX 36 (pG 33 false (pB .gtr 2 35 (cn (.int .i64 200)))) <|
 aX 37 (pP 33 (cn (.bool true)) 36) <|
 aXZ
noncomputable def f32_r7 (c : CallF) : RF := rg [2] <| aX 2 (pM (cn (.bool false))) <|
 aXZ
noncomputable def f32_r8 (c : CallF) : RF := rgD [1, 16, 17, 18, 64] (aY 38 (pM 3) <|
 aY 39 (pB .gtr 3 38 (cn (.int .i64 0))) <|
 aY 40 (pM 39) <|
 aY 41 (pG 40 true (pF 1 1 4)) <|
 aY 42 (pG 40 true (pL false 1 41)) <|
 aY 43 (pG 40 true (fun n e M => keep (aConvI .i64 (eget e 42)))) <|
 aY 44 (pG 40 true (pF 1 1 1)) <|
 aY 45 (pG 40 true (pL false 1 44)) <|
 aY 46 (pG 40 true (pM 3)) <|
 aY 47 (pG 40 true (pB .sub 3 46 (cn (.int .i64 1)))) <|
 aY 48 (pG 40 true (pI 2 45 47)) <|
 aY 49 (pG 40 true (pL true 2 48)) <|
 aY 50 (pG 40 true (pK c false 61 [49])) <|
 aY 51 (pG 40 true (pB .leq 2 43 50)) <|
 aY 52 (pG 40 true (pM 51)) <|
 aY 53 (pG 52 false (pF 0 1 4)) <|
 aY 54 (pG 52 false (pL false 1 53)) <|
 aY 55 (pG 52 false (pF 1 1 1)) <|
 aY 56 (pG 52 false (pL false 1 55)) <|
 aY 57 (pG 52 false (pM 3)) <|
 aY 58 (pG 52 false (pB .sub 3 57 (cn (.int .i64 1)))) <|
 aY 59 (pG 52 false (pI 2 56 58)) <|
 aY 60 (pG 52 false (pF 0 1 59)) <|
 aY 61 (pG 52 false (pL false 1 60)) <|
 aY 62 (pG 52 false (pB .gtr 23 54 61)) <|
 aY 63 (pG 40 true (pP 52 (cn (.bool true)) 62)) <|
 aY 64 (pP 40 63 (cn (.bool false))) <|
 aYZ)
 (aXZ)
noncomputable def f32_r9 (c : CallF) : RF := rg [2] <| aX 2 (pM (cn (.bool false))) <|
 aXZ
noncomputable def f32_r10 (c : CallF) : RF := rg [1, 16, 17, 18] <| aX 65 (pB .add 3 18 (cn (.int .i64 1))) <|
 aX 18 (pM 65) <|
 aXZ
noncomputable def f32_r11 (c : CallF) : RF := rg [2] <| aX 2 (pM (cn (.bool true))) <|
 aXZ
noncomputable def f32_l4 (c : CallF) (k : Nat) : St :=
 (bSeq (bReg (f32_r4 c))
 (bSeq (bCond (.tmp 19) (bEx .nrm) (bEx (.ext 0)))
 (bSeq (bBlock 1 (bSeq (bReg (f32_r5 c))
 (bSeq (bSeq (bReg (f32_r6 c))
 (bCond (.tmp 37) (bSeq (bReg (f32_r7 c))
 (bEx .ret)) (bEx .nrm)))
 (bSeq (bReg (f32_r8 c))
 (bCond (.tmp 64) (bSeq (bReg (f32_r9 c))
 (bEx .ret)) (bEx .nrm))))))
 (bReg (f32_r10 c)))))
noncomputable def f32 (c : CallF) (k : Nat) : St :=
 (bSeq (bReg (f32_r0 c))
 (bSeq (bSeq (bReg (f32_r1 c))
 (bCond (.tmp 14) (bSeq (bReg (f32_r2 c))
 (bEx .ret)) (bEx .nrm)))
 (bSeq (bSeq (bReg (f32_r3 c))
 (bBlock 0 (bLoop [1, 16, 17, 18] (f32_l4 c k) k)))
 (bSeq (bReg (f32_r11 c))
 (bEx .ret)))))
theorem f32_eq (c : CallF) (k : Nat) : exec cx c 66 f32_an k (Tryd.f32.body.getD .skip) = f32 c k := by kernel_rfl
/-! ### f33: loop.example/g01263/impl.isName -/
def f33_an : Ann := ⟨[(0, r0 [0]), (1, r0 [2])], []⟩
noncomputable def f33_r0 (c : CallF) : RF := rg [0] <| aX 2 (pM (cn (.bool false))) <|
 aXZ
noncomputable def f33_r1 (c : CallF) : RF := rg [2] <| aX 3 (pM 0) <|
 aX 4 (pK c false 62 [3, (cn (.int .i64 12))]) <|
 aX 2 (pM 4) <|
 aXZ
noncomputable def f33 (c : CallF) (k : Nat) : St :=
 (bSeq (bReg (f33_r0 c))
 (bSeq (bReg (f33_r1 c))
 (bEx .ret)))
theorem f33_eq (c : CallF) (k : Nat) : exec cx c 5 f33_an k (Tryd.f33.body.getD .skip) = f33 c k := by kernel_rfl
/-! ### f34: loop.example/g01263/impl.seal -/
def f34_an : Ann := ⟨[(0, r0 [1, 2, 3, 4]), (1, r0 [1, 2, 3, 4, 9]), (2, r0 [9, 10]), (3, r0 [9, 10, 23, 24]), (4, r0 [9, 10, 23, 24, 25]), (5, r0 [9, 10, 11, 23, 24]), (6, r0 [9, 10, 23, 24]), (7, r0 [9, 10, 23, 24]), (8, r0 [8])], [(4, [9, 10, 23, 24])]⟩
noncomputable def f34_r0 (c : CallF) : RF := rg [1, 2, 3, 4] <| aX 4 (pBox 18 0) <|
 aX 8 (pM (cn (.int .u32 0))) <|
 aXZ
noncomputable def f34_r1 (c : CallF) : RF := rg [1, 2, 3, 4, 9] <| aX 9 (pM (cn (.int .u32 2166136261))) <|
 aXZ
noncomputable def f34_r2 (c : CallF) : RF := rg [9, 10] <| aX 12 (pL true 18 4) <|
 aX 13 (pK c false 63 [12]) <|
 aX 14 (pM 1) <|
 aX 15 (pK c false 64 [14]) <|
 aX 16 (pB .add 9 13 15) <|
 aX 17 (pM 2) <|
 aX 18 (pB .add 9 16 17) <|
 aX 19 (pM 3) <|
 aX 20 (pK c false 64 [19]) <|
 aX 21 (pB .add 9 18 20) <|
 aX 10 (pM 21) <|
 aXZ
noncomputable def f34_r3 (c : CallF) : RF := rg [9, 10, 23, 24] <| aX 22 (pM 10) <|
 aX 23 (pLen 9 22) <|
 aX 24 (pM (cn (.int .i64 0))) <|
 aXZ
noncomputable def f34_r4 (c : CallF) : RF := rg [9, 10, 23, 24, 25] <| aX 25 (pB .lss 3 24 23) <|
 aXZ
noncomputable def f34_r5 (c : CallF) : RF := rg [9, 10, 11, 23, 24] <| aX 26 (pM 24) <|
 aX 11 (pM 26) <|
 aXZ
noncomputable def f34_r6 (c : CallF) : RF := rg [9, 10, 23, 24] <| aX 27 (pM 9) <|
 aX 28 (pM 10) <|
 aX 29 (pM 11) <|
 aX 30 (fun n e M => keep (aIndexB (eget e 28) (eget e 29))) <|
 aX 31 (fun n e M => keep (aConvI .u32 (eget e 30))) <|
 aX 32 (pB .xor 27 27 31) <|
 aX 33 (pB .mul 27 32 (cn (.int .u32 16777619))) <|
 aX 9 (pM 33) <|
 aXZ
noncomputable def f34_r7 (c : CallF) : RF := rg [9, 10, 23, 24] <| aX 34 (pB .add 3 24 (cn (.int .i64 1))) <|
 aX 24 (pM 34) <|
 aXZ
noncomputable def f34_r8 (c : CallF) : RF := rg [8] <| aX 35 (pM 9) <|
 aX 8 (pM 35) <|
 aXZ
noncomputable def f34_l4 (c : CallF) (k : Nat) : St :=
 (bSeq (bReg (f34_r4 c))
 (bSeq (bCond (.tmp 25) (bEx .nrm) (bEx (.ext 0)))
 (bSeq (bBlock 1 (bSeq (bReg (f34_r5 c))
 (bReg (f34_r6 c))))
 (bReg (f34_r7 c)))))
noncomputable def f34 (c : CallF) (k : Nat) : St :=
 (bSeq (bReg (f34_r0 c))
 (bSeq (bReg (f34_r1 c))
 (bSeq (bReg (f34_r2 c))
 (bSeq (bSeq (bReg (f34_r3 c))
 (bBlock 0 (bLoop [9, 10, 23, 24] (f34_l4 c k) k)))
 (bSeq (bReg (f34_r8 c))
 (bEx .ret))))))
theorem f34_eq (c : CallF) (k : Nat) : exec cx c 36 f34_an k (Tryd.f34.body.getD .skip) = f34 c k := by kernel_rfl
/-! ### f35: loop.example/g01263/laws.eqNotchS -/
def f35_an : Ann := ⟨[(0, r0 [0, 1]), (1, r0 [0, 1, 10]), (2, r0 [4]), (3, r0 [0, 1, 5]), (4, r0 [0, 1, 5, 14]), (5, r0 [0, 1, 5]), (6, r0 [0, 1, 5, 26]), (7, r0 [4]), (8, r0 [4])], [(4, [0, 1, 5])]⟩
noncomputable def f35_r0 (c : CallF) : RF := rg [0, 1] <| aX 4 (pM (cn (.bool false))) <|
 aXZ
noncomputable def f35_r1 (c : CallF) : RF := rg [0, 1, 10] <| aX 6 (pM 0) <|
 aX 7 (pLen 31 6) <|
 aX 8 (pM 1) <|
 aX 9 (pLen 31 8) <|
 aX 10 (pB .neq 3 7 9) <|
 aXZ
noncomputable def f35_r2 (c : CallF) : RF := rg [4] <| aX 4 (pM (cn (.bool false))) <|
 aXZ
noncomputable def f35_r3 (c : CallF) : RF := rg [0, 1, 5] <| aX 5 (pM (cn (.int .i64 0))) <|
 aXZ
noncomputable def f35_r4 (c : CallF) : RF := rg [0, 1, 5, 14] <| aX 11 (pM 5) <|
 aX 12 (pM 0) <|
 aX 13 (pLen 31 12) <|
 aX 14 (pB .lss 3 11 13) <|
 aXZ
noncomputable def f35_r5 (c : CallF) : RF := rg [0, 1, 5] <| aX 15 (pM 5) <|
 aX 16 (pB .add 3 15 (cn (.int .i64 1))) <|
 aX 5 (pM 16) <|
 aXZ
noncomputable def f35_r6 (c : CallF) : RF := rgD [0, 1, 5, 26] (aY 17 (pM 0) <|
 aY 18 (pM 5) <|
 aY 19 (pI 2 17 18) <|
 aY 20 (pL true 2 19) <|
 aY 21 (pM 1) <|
 aY 22 (pM 5) <|
 aY 23 (pI 2 21 22) <|
 aY 24 (pL true 2 23) <|
 aY 25 (pK c false 65 [20, 24]) <|
 aY 26 (pU .not 25) <|
 aYZ)
 (aXZ)
noncomputable def f35_r7 (c : CallF) : RF := rg [4] <| aX 4 (pM (cn (.bool false))) <|
 aXZ
noncomputable def f35_r8 (c : CallF) : RF := rg [4] <| aX 4 (pM (cn (.bool true))) <|
 aXZ
noncomputable def f35_l4 (c : CallF) (k : Nat) : St :=
 (bSeq (bSeq (bReg (f35_r4 c))
 (bCond (.tmp 14) (bEx .nrm) (bEx (.ext 0))))
 (bSeq (bBlock 1 (bSeq (bReg (f35_r6 c))
 (bCond (.tmp 26) (bSeq (bReg (f35_r7 c))
 (bEx .ret)) (bEx .nrm))))
 (bReg (f35_r5 c))))
noncomputable def f35 (c : CallF) (k : Nat) : St :=
 (bSeq (bReg (f35_r0 c))
 (bSeq (bSeq (bReg (f35_r1 c))
 (bCond (.tmp 10) (bSeq (bReg (f35_r2 c))
 (bEx .ret)) (bEx .nrm)))
 (bSeq (bSeq (bReg (f35_r3 c))
 (bBlock 0 (bLoop [0, 1, 5] (f35_l4 c k) k)))
 (bSeq (bReg (f35_r8 c))
 (bEx .ret)))))
theorem f35_eq (c : CallF) (k : Nat) : exec cx c 27 f35_an k (Tryd.f35.body.getD .skip) = f35 c k := by kernel_rfl
/-! ### f36: loop.example/g01263/laws.eqGrain -/
def f36_an : Ann := ⟨[(0, r0 [2, 3]), (1, r0 [2, 3, 5]), (2, r0 [2, 3, 5, 7]), (3, r0 [2, 3, 5]), (4, r0 [2, 3, 5, 16]), (5, r0 [4]), (6, r0 [4])], [(2, [2, 3, 5])]⟩
noncomputable def f36_r0 (c : CallF) : RF := rg [2, 3] <| aX 2 (pBox 16 0) <|
 aX 3 (pBox 16 1) <|
 aX 4 (pM (cn (.bool false))) <|
 aXZ
noncomputable def f36_r1 (c : CallF) : RF := rg [2, 3, 5] <| aX 5 (pM (cn (.int .i64 0))) <|
 aXZ
noncomputable def f36_r2 (c : CallF) : RF := rg [2, 3, 5, 7] <| aX 6 (pM 5) <|
 aX 7 (pB .lss 3 6 (cn (.int .i64 16))) <|
 aXZ
noncomputable def f36_r3 (c : CallF) : RF := rg [2, 3, 5] <| aX 8 (pM 5) <|
 aX 9 (pB .add 3 8 (cn (.int .i64 1))) <|
 aX 5 (pM 9) <|
 aXZ
noncomputable def f36_r4 (c : CallF) : RF := rgD [2, 3, 5, 16] (aY 10 (pM 5) <|
 aY 11 (fun n e M => keep (aIndexP 16 1 (eget e 2) (eget e 10) M)) <|
 aY 12 (pL false 1 11) <|
 aY 13 (pM 5) <|
 aY 14 (fun n e M => keep (aIndexP 16 1 (eget e 3) (eget e 13) M)) <|
 aY 15 (pL false 1 14) <|
 aY 16 (pB .neq 23 12 15) <|
 aYZ)
 (aXZ)
noncomputable def f36_r5 (c : CallF) : RF := rg [4] <| aX 4 (pM (cn (.bool false))) <|
 aXZ
noncomputable def f36_r6 (c : CallF) : RF := rg [4] <| aX 4 (pM (cn (.bool true))) <|
 aXZ
noncomputable def f36_l2 (c : CallF) (k : Nat) : St :=
 (bSeq (bSeq (bReg (f36_r2 c))
 (bCond (.tmp 7) (bEx .nrm) (bEx (.ext 0))))
 (bSeq (bBlock 1 (bSeq (bReg (f36_r4 c))
 (bCond (.tmp 16) (bSeq (bReg (f36_r5 c))
 (bEx .ret)) (bEx .nrm))))
 (bReg (f36_r3 c))))
noncomputable def f36 (c : CallF) (k : Nat) : St :=
 (bSeq (bReg (f36_r0 c))
 (bSeq (bSeq (bReg (f36_r1 c))
 (bBlock 0 (bLoop [2, 3, 5] (f36_l2 c k) k)))
 (bSeq (bReg (f36_r6 c))
 (bEx .ret))))
theorem f36_eq (c : CallF) (k : Nat) : exec cx c 17 f36_an k (Tryd.f36.body.getD .skip) = f36 c k := by kernel_rfl
/-! ### f53: loop.example/g01263/spec.l01Notches -/
def f53_an : Ann := ⟨[(0, r0 [0]), (1, r0 [0, 7]), (2, r0 [2]), (3, r0 [0, 3]), (4, r0 [0, 3, 11]), (5, r0 [0, 3]), (6, r0 [0, 3, 4]), (7, r0 [0, 3, 4, 32]), (8, r0 [2]), (9, r0 [0, 3, 57]), (10, r0 [2]), (11, r0 [2])], [(4, [0, 3])]⟩
noncomputable def f53_r0 (c : CallF) : RF := rg [0] <| aX 2 (pM (cn (.bool false))) <|
 aXZ
noncomputable def f53_r1 (c : CallF) : RF := rg [0, 7] <| aX 5 (pM 0) <|
 aX 6 (pLen 31 5) <|
 aX 7 (pB .gtr 3 6 (cn (.int .i64 60))) <|
 aXZ
noncomputable def f53_r2 (c : CallF) : RF := rg [2] <| aX 2 (pM (cn (.bool false))) <|
 aXZ
noncomputable def f53_r3 (c : CallF) : RF := rg [0, 3] <| aX 3 (pM (cn (.int .i64 0))) <|
 aXZ
noncomputable def f53_r4 (c : CallF) : RF := rg [0, 3, 11] <| aX 8 (pM 3) <|
 aX 9 (pM 0) <|
 aX 10 (pLen 31 9) <|
 aX 11 (pB .lss 3 8 10) <|
 aXZ
noncomputable def f53_r5 (c : CallF) : RF := rg [0, 3] <| aX 12 (pM 3) <|
 aX 13 (pB .add 3 12 (cn (.int .i64 1))) <|
 aX 3 (pM 13) <|
 aXZ
noncomputable def f53_r6 (c : CallF) : RF := rg [0, 3, 4] <| aX 14 (pM 0) <|
 aX 15 (pM 3) <|
 aX 16 (pI 2 14 15) <|
 aX 17 (pL true 2 16) <|
 aX 4 (pAl 99 2) <|
 aX0 (pS 2 4 17) <|
 aXZ
noncomputable def f53_r7 (c : CallF) : RF := rg [0, 3, 4, 32] <| aX 18 (pF 0 1 4) <|
 aX 19 (pL false 1 18) <|
 aX 20 (fun n e M => keep (aConvI .i64 (eget e 19))) <|
 aX 21 (pK c false 76 [20]) <|
 aX 22 (pU .not 21) <|
 aX 23 (pM 22) <|
 aX 24 (pG 23 false (pF 1 1 4)) <|
 aX 25 (pG 23 false (pL false 1 24)) <|
 aX 26 (pG 23 false (pB .lss 97 25 (cn (.int .i16 0)))) <|
 aX 27 (pP 23 (cn (.bool true)) 26) <|
 aX 28 (pM 27) <|
 aX 29 (pG 28 false (pL true 2 4)) <|
 aX 30 (pG 28 false (pK c false 77 [29])) <|
 aX 31 (pG 28 false (pB .gtr 2 30 (cn (.int .i64 200)))) <|
 aX 32 (pP 28 (cn (.bool true)) 31) <|
 aXZ
noncomputable def f53_r8 (c : CallF) : RF := rg [2] <| aX 2 (pM (cn (.bool false))) <|
 aXZ
noncomputable def f53_r9 (c : CallF) : RF := rgD [0, 3, 57] (aY 33 (pM 3) <|
 aY 34 (pB .gtr 3 33 (cn (.int .i64 0))) <|
 aY 35 (pM 34) <|
 aY 36 (pG 35 true (pF 0 1 4)) <|
 aY 37 (pG 35 true (pL false 1 36)) <|
 aY 38 (pG 35 true (pM 0)) <|
 aY 39 (pG 35 true (pM 3)) <|
 aY 40 (pG 35 true (pB .sub 3 39 (cn (.int .i64 1)))) <|
 aY 41 (pG 35 true (pI 2 38 40)) <|
 aY 42 (pG 35 true (pF 0 1 41)) <|
 aY 43 (pG 35 true (pL false 1 42)) <|
 aY 44 (pG 35 true (pB .gtr 23 37 43)) <|
 aY 45 (pG 35 true (pM 44)) <|
 aY 46 (pG 45 false (pF 1 1 4)) <|
 aY 47 (pG 45 false (pL false 1 46)) <|
 aY 48 (pG 45 false (fun n e M => keep (aConvI .i64 (eget e 47)))) <|
 aY 49 (pG 45 false (pM 0)) <|
 aY 50 (pG 45 false (pM 3)) <|
 aY 51 (pG 45 false (pB .sub 3 50 (cn (.int .i64 1)))) <|
 aY 52 (pG 45 false (pI 2 49 51)) <|
 aY 53 (pG 45 false (pL true 2 52)) <|
 aY 54 (pG 45 false (pK c false 77 [53])) <|
 aY 55 (pG 45 false (pB .leq 2 48 54)) <|
 aY 56 (pG 35 true (pP 45 (cn (.bool true)) 55)) <|
 aY 57 (pP 35 56 (cn (.bool false))) <|
 aYZ)
 (aXZ)
noncomputable def f53_r10 (c : CallF) : RF := rg [2] <| aX 2 (pM (cn (.bool false))) <|
 aXZ
noncomputable def f53_r11 (c : CallF) : RF := rg [2] <| aX 2 (pM (cn (.bool true))) <|
 aXZ
noncomputable def f53_l4 (c : CallF) (k : Nat) : St :=
 (bSeq (bSeq (bReg (f53_r4 c))
 (bCond (.tmp 11) (bEx .nrm) (bEx (.ext 0))))
 (bSeq (bBlock 1 (bSeq (bReg (f53_r6 c))
 (bSeq (bSeq (bReg (f53_r7 c))
 (bCond (.tmp 32) (bSeq (bReg (f53_r8 c))
 (bEx .ret)) (bEx .nrm)))
 (bSeq (bReg (f53_r9 c))
 (bCond (.tmp 57) (bSeq (bReg (f53_r10 c))
 (bEx .ret)) (bEx .nrm))))))
 (bReg (f53_r5 c))))
noncomputable def f53 (c : CallF) (k : Nat) : St :=
 (bSeq (bReg (f53_r0 c))
 (bSeq (bSeq (bReg (f53_r1 c))
 (bCond (.tmp 7) (bSeq (bReg (f53_r2 c))
 (bEx .ret)) (bEx .nrm)))
 (bSeq (bSeq (bReg (f53_r3 c))
 (bBlock 0 (bLoop [0, 3] (f53_l4 c k) k)))
 (bSeq (bReg (f53_r11 c))
 (bEx .ret)))))
theorem f53_eq (c : CallF) (k : Nat) : exec cx c 58 f53_an k (Tryd.f53.body.getD .skip) = f53 c k := by kernel_rfl
/-! ### f54: loop.example/g01263/spec.l01Grain -/
def f54_an : Ann := ⟨[(0, r0 [1]), (1, r0 [1, 3]), (2, r0 [1, 3, 5]), (3, r0 [1, 3]), (4, r0 [1, 3, 17]), (5, r0 [2]), (6, r0 [2])], [(2, [1, 3])]⟩
noncomputable def f54_r0 (c : CallF) : RF := rg [1] <| aX 1 (pBox 16 0) <|
 aX 2 (pM (cn (.bool false))) <|
 aXZ
noncomputable def f54_r1 (c : CallF) : RF := rg [1, 3] <| aX 3 (pM (cn (.int .i64 0))) <|
 aXZ
noncomputable def f54_r2 (c : CallF) : RF := rg [1, 3, 5] <| aX 4 (pM 3) <|
 aX 5 (pB .lss 3 4 (cn (.int .i64 16))) <|
 aXZ
noncomputable def f54_r3 (c : CallF) : RF := rg [1, 3] <| aX 6 (pM 3) <|
 aX 7 (pB .add 3 6 (cn (.int .i64 1))) <|
 aX 3 (pM 7) <|
 aXZ
noncomputable def f54_r4 (c : CallF) : RF := rg [1, 3, 17] <| aX 8 (pM 3) <|
 aX 9 (fun n e M => keep (aIndexP 16 1 (eget e 1) (eget e 8) M)) <|
 aX 10 (pL false 1 9) <|
 aX 11 (pB .lss 23 10 (cn (.int .i8 (-3)))) <|
 aX 12 (pM 11) <|
 aX 13 (pG 12 false (pM 3)) <|
 aX 14 (pG 12 false (fun n e M => keep (aIndexP 16 1 (eget e 1) (eget e 13) M))) <|
 aX 15 (pG 12 false (pL false 1 14)) <|
 aX 16 (pG 12 false (pB .gtr 23 15 (cn (.int .i8 3)))) <|
 aX 17 (pP 12 (cn (.bool true)) 16) <|
 aXZ
noncomputable def f54_r5 (c : CallF) : RF := rg [2] <| aX 2 (pM (cn (.bool false))) <|
 aXZ
noncomputable def f54_r6 (c : CallF) : RF := rg [2] <| aX 2 (pM (cn (.bool true))) <|
 aXZ
noncomputable def f54_l2 (c : CallF) (k : Nat) : St :=
 (bSeq (bSeq (bReg (f54_r2 c))
 (bCond (.tmp 5) (bEx .nrm) (bEx (.ext 0))))
 (bSeq (bBlock 1 (bSeq (bReg (f54_r4 c))
 (bCond (.tmp 17) (bSeq (bReg (f54_r5 c))
 (bEx .ret)) (bEx .nrm))))
 (bReg (f54_r3 c))))
noncomputable def f54 (c : CallF) (k : Nat) : St :=
 (bSeq (bReg (f54_r0 c))
 (bSeq (bSeq (bReg (f54_r1 c))
 (bBlock 0 (bLoop [1, 3] (f54_l2 c k) k)))
 (bSeq (bReg (f54_r6 c))
 (bEx .ret))))
theorem f54_eq (c : CallF) (k : Nat) : exec cx c 18 f54_an k (Tryd.f54.body.getD .skip) = f54 c k := by kernel_rfl
/-! ### f55: loop.example/g01263/spec.l06Text -/
def f55_an : Ann := ⟨[(0, r0 [0, 1]), (1, r0 [0, 1, 5]), (2, r0 [0, 1, 5, 9]), (3, r0 [0, 1, 5]), (4, r0 [0, 1, 5]), (5, r0 [4])], [(2, [0, 1, 5])]⟩
noncomputable def f55_r0 (c : CallF) : RF := rg [0, 1] <| aX 4 (pM (cn (.int .u32 0))) <|
 aXZ
noncomputable def f55_r1 (c : CallF) : RF := rg [0, 1, 5] <| aX 5 (pM (cn (.int .i64 0))) <|
 aXZ
noncomputable def f55_r2 (c : CallF) : RF := rg [0, 1, 5, 9] <| aX 6 (pM 5) <|
 aX 7 (pM 1) <|
 aX 8 (pLen 9 7) <|
 aX 9 (pB .lss 3 6 8) <|
 aXZ
noncomputable def f55_r3 (c : CallF) : RF := rg [0, 1, 5] <| aX 10 (pM 5) <|
 aX 11 (pB .add 3 10 (cn (.int .i64 1))) <|
 aX 5 (pM 11) <|
 aXZ
noncomputable def f55_r4 (c : CallF) : RF := rg [0, 1, 5] <| aX 12 (pM 0) <|
 aX 13 (pM 1) <|
 aX 14 (pM 5) <|
 aX 15 (fun n e M => keep (aIndexB (eget e 13) (eget e 14))) <|
 aX 16 (fun n e M => keep (aConvI .u32 (eget e 15))) <|
 aX 17 (pB .xor 27 12 16) <|
 aX 18 (pB .mul 27 17 (cn (.int .u32 16777619))) <|
 aX 0 (pM 18) <|
 aXZ
noncomputable def f55_r5 (c : CallF) : RF := rg [4] <| aX 19 (pM 0) <|
 aX 4 (pM 19) <|
 aXZ
noncomputable def f55_l2 (c : CallF) (k : Nat) : St :=
 (bSeq (bSeq (bReg (f55_r2 c))
 (bCond (.tmp 9) (bEx .nrm) (bEx (.ext 0))))
 (bSeq (bBlock 1 (bReg (f55_r4 c)))
 (bReg (f55_r3 c))))
noncomputable def f55 (c : CallF) (k : Nat) : St :=
 (bSeq (bReg (f55_r0 c))
 (bSeq (bSeq (bReg (f55_r1 c))
 (bBlock 0 (bLoop [0, 1, 5] (f55_l2 c k) k)))
 (bSeq (bReg (f55_r5 c))
 (bEx .ret))))
theorem f55_eq (c : CallF) (k : Nat) : exec cx c 20 f55_an k (Tryd.f55.body.getD .skip) = f55 c k := by kernel_rfl
/-! ### f56: loop.example/g01263/spec.l01Text -/
def f56_an : Ann := ⟨[(0, r0 [0]), (1, r0 [0, 3]), (2, r0 [0, 3, 10]), (3, r0 [0, 3]), (4, r0 [0, 3, 4]), (5, r0 [0, 3, 4, 12]), (6, r0 [0, 3, 4]), (7, r0 [0, 3, 4]), (8, r0 [0, 3, 5]), (9, r0 [0, 3, 5, 34]), (10, r0 [0, 3, 5]), (11, r0 [0, 3, 5, 6]), (12, r0 [0, 3, 5]), (13, r0 [2])], [(5, [0, 3, 4]), (9, [0, 3, 5])]⟩
noncomputable def f56_r0 (c : CallF) : RF := rg [0] <| aX 2 (pM (cn (.str []))) <|
 aXZ
noncomputable def f56_r1 (c : CallF) : RF := rg [0, 3] <| aX 3 (pM (cn (.str [102, 111, 105, 108, 32]))) <|
 aXZ
noncomputable def f56_r2 (c : CallF) : RF := rg [0, 3, 10] <| aX 7 (pM 0) <|
 aX 8 (pN 7) <|
 aX 9 (pF 0 1 8) <|
 aX 10 (pL false 1 9) <|
 aXZ
noncomputable def f56_r3 (c : CallF) : RF := rg [0, 3] <| aX 3 (pM (cn (.str [115, 116, 111, 99, 107, 32]))) <|
 aXZ
noncomputable def f56_r4 (c : CallF) : RF := rg [0, 3, 4] <| aX 4 (pM (cn (.int .i64 0))) <|
 aXZ
noncomputable def f56_r5 (c : CallF) : RF := rg [0, 3, 4, 12] <| aX 11 (pM 4) <|
 aX 12 (pB .lss 3 11 (cn (.int .i64 16))) <|
 aXZ
noncomputable def f56_r6 (c : CallF) : RF := rg [0, 3, 4] <| aX 13 (pM 4) <|
 aX 14 (pB .add 3 13 (cn (.int .i64 1))) <|
 aX 4 (pM 14) <|
 aXZ
noncomputable def f56_r7 (c : CallF) : RF := rg [0, 3, 4] <| aX 15 (pM 3) <|
 aX 16 (pM 0) <|
 aX 17 (pM 4) <|
 aX 18 (pN 16) <|
 aX 19 (pF 2 16 18) <|
 aX 20 (fun n e M => keep (aIndexP 16 1 (eget e 19) (eget e 17) M)) <|
 aX 21 (pL false 1 20) <|
 aX 22 (fun n e M => keep (aConvI .i64 (eget e 21))) <|
 aX 23 (pB .add 3 (cn (.int .i64 100)) 22) <|
 aX 24 (fun n e M => keep (aConvI .u8 (eget e 23))) <|
 aX 25 (fun n e M => keep (aLitI 5 1 [(eget e 24)] M)) <|
 aX 26 (fun n e M => keep (aConvB (eget e 25) M)) <|
 aX 27 (pB .add 9 15 26) <|
 aX 3 (pM 27) <|
 aXZ
noncomputable def f56_r8 (c : CallF) : RF := rg [0, 3, 5] <| aX 5 (pM (cn (.int .i64 0))) <|
 aXZ
noncomputable def f56_r9 (c : CallF) : RF := rg [0, 3, 5, 34] <| aX 28 (pM 5) <|
 aX 29 (pM 0) <|
 aX 30 (pN 29) <|
 aX 31 (pF 1 1 30) <|
 aX 32 (pL false 1 31) <|
 aX 33 (pLen 31 32) <|
 aX 34 (pB .lss 3 28 33) <|
 aXZ
noncomputable def f56_r10 (c : CallF) : RF := rg [0, 3, 5] <| aX 35 (pM 5) <|
 aX 36 (pB .add 3 35 (cn (.int .i64 1))) <|
 aX 5 (pM 36) <|
 aXZ
noncomputable def f56_r11 (c : CallF) : RF := rg [0, 3, 5, 6] <| aX 37 (pM 0) <|
 aX 38 (pN 37) <|
 aX 39 (pF 1 1 38) <|
 aX 40 (pL false 1 39) <|
 aX 41 (pM 5) <|
 aX 42 (pI 2 40 41) <|
 aX 43 (pL true 2 42) <|
 aX 6 (pAl 99 2) <|
 aX0 (pS 2 6 43) <|
 aXZ
noncomputable def f56_r12 (c : CallF) : RF := rgD [0, 3, 5] (aY 44 (pM 3) <|
 aY 45 (pK c false 78 []) <|
 aY 46 (pF 0 1 6) <|
 aY 47 (pL false 1 46) <|
 aY 48 (pF 0 1 6) <|
 aY 49 (pL false 1 48) <|
 aY 50 (pB .add 23 49 (cn (.int .i8 1))) <|
 aY 51 (fun n e M => keep (aSliceS (some (eget e 47)) (some (eget e 50)) (eget e 45))) <|
 aY 52 (pB .add 9 (cn (.str [32])) 51) <|
 aY 53 (pF 1 1 6) <|
 aY 54 (pL false 1 53) <|
 aY 55 (fun n e M => keep (aConvI .i64 (eget e 54))) <|
 aY 56 (pK c false 79 [55]) <|
 aY 57 (pB .add 9 52 56) <|
 aY 58 (pB .add 9 44 57) <|
 aY 3 (pM 58) <|
 aYZ)
 (aXZ)
noncomputable def f56_r13 (c : CallF) : RF := rg [2] <| aX 59 (pM 3) <|
 aX 2 (pM 59) <|
 aXZ
noncomputable def f56_l5 (c : CallF) (k : Nat) : St :=
 (bSeq (bSeq (bReg (f56_r5 c))
 (bCond (.tmp 12) (bEx .nrm) (bEx (.ext 0))))
 (bSeq (bBlock 1 (bReg (f56_r7 c)))
 (bReg (f56_r6 c))))
noncomputable def f56_l9 (c : CallF) (k : Nat) : St :=
 (bSeq (bSeq (bReg (f56_r9 c))
 (bCond (.tmp 34) (bEx .nrm) (bEx (.ext 2))))
 (bSeq (bBlock 3 (bSeq (bReg (f56_r11 c))
 (bReg (f56_r12 c))))
 (bReg (f56_r10 c))))
noncomputable def f56 (c : CallF) (k : Nat) : St :=
 (bSeq (bReg (f56_r0 c))
 (bSeq (bReg (f56_r1 c))
 (bSeq (bSeq (bReg (f56_r2 c))
 (bCond (.tmp 10) (bReg (f56_r3 c)) (bEx .nrm)))
 (bSeq (bSeq (bReg (f56_r4 c))
 (bBlock 0 (bLoop [0, 3, 4] (f56_l5 c k) k)))
 (bSeq (bSeq (bReg (f56_r8 c))
 (bBlock 2 (bLoop [0, 3, 5] (f56_l9 c k) k)))
 (bSeq (bReg (f56_r13 c))
 (bEx .ret)))))))
theorem f56_eq (c : CallF) (k : Nat) : exec cx c 60 f56_an k (Tryd.f56.body.getD .skip) = f56 c k := by kernel_rfl
/-! ### f57: loop.example/g01263/spec.l06Number -/
def f57_an : Ann := ⟨[(0, r0 [0, 1]), (1, r0 [0, 1, 5]), (2, r0 [0, 1, 5, 7]), (3, r0 [0, 1, 5]), (4, r0 [0, 1, 5]), (5, r0 [4])], [(2, [0, 1, 5])]⟩
noncomputable def f57_r0 (c : CallF) : RF := rg [0, 1] <| aX 4 (pM (cn (.int .u32 0))) <|
 aXZ
noncomputable def f57_r1 (c : CallF) : RF := rg [0, 1, 5] <| aX 5 (pM (cn (.int .i64 24))) <|
 aXZ
noncomputable def f57_r2 (c : CallF) : RF := rg [0, 1, 5, 7] <| aX 6 (pM 5) <|
 aX 7 (pB .geq 3 6 (cn (.int .i64 0))) <|
 aXZ
noncomputable def f57_r3 (c : CallF) : RF := rg [0, 1, 5] <| aX 8 (pM 5) <|
 aX 9 (pB .sub 3 8 (cn (.int .i64 8))) <|
 aX 5 (pM 9) <|
 aXZ
noncomputable def f57_r4 (c : CallF) : RF := rg [0, 1, 5] <| aX 10 (pM 0) <|
 aX 11 (pM 1) <|
 aX 12 (pM 5) <|
 aX 13 (fun n e M => keep (aConvI .u64 (eget e 12))) <|
 aX 14 (pB .shr 27 11 13) <|
 aX 15 (pB .and 27 14 (cn (.int .u32 255))) <|
 aX 16 (pB .xor 27 10 15) <|
 aX 17 (pB .mul 27 16 (cn (.int .u32 16777619))) <|
 aX 0 (pM 17) <|
 aXZ
noncomputable def f57_r5 (c : CallF) : RF := rg [4] <| aX 18 (pM 0) <|
 aX 4 (pM 18) <|
 aXZ
noncomputable def f57_l2 (c : CallF) (k : Nat) : St :=
 (bSeq (bSeq (bReg (f57_r2 c))
 (bCond (.tmp 7) (bEx .nrm) (bEx (.ext 0))))
 (bSeq (bBlock 1 (bReg (f57_r4 c)))
 (bReg (f57_r3 c))))
noncomputable def f57 (c : CallF) (k : Nat) : St :=
 (bSeq (bReg (f57_r0 c))
 (bSeq (bSeq (bReg (f57_r1 c))
 (bBlock 0 (bLoop [0, 1, 5] (f57_l2 c k) k)))
 (bSeq (bReg (f57_r5 c))
 (bEx .ret))))
theorem f57_eq (c : CallF) (k : Nat) : exec cx c 19 f57_an k (Tryd.f57.body.getD .skip) = f57 c k := by kernel_rfl
/-! ### f58: loop.example/g01263/laws.toNotch -/
def f58_an : Ann := ⟨[(0, r0 [1, 2]), (1, r0 [1, 2, 3]), (2, r0 [1, 2, 3]), (3, r0 [2, 3]), (4, r0 [2])], []⟩
noncomputable def f58_r0 (c : CallF) : RF := rg [1, 2] <| aX 1 (pBox 2 0) <|
 aX 2 (pAl 99 2) <|
 aXZ
noncomputable def f58_r1 (c : CallF) : RF := rg [1, 2, 3] <| aX 3 (pAl 99 2) <|
 aXZ
noncomputable def f58_r2 (c : CallF) : RF := rg [1, 2, 3] <| aX 4 (pF 0 1 1) <|
 aX 5 (pL false 1 4) <|
 aX 6 (pF 0 1 3) <|
 aX0 (pS 1 6 5) <|
 aXZ
noncomputable def f58_r3 (c : CallF) : RF := rg [2, 3] <| aX 7 (pF 1 1 1) <|
 aX 8 (pL false 1 7) <|
 aX 9 (pF 1 1 3) <|
 aX0 (pS 1 9 8) <|
 aXZ
noncomputable def f58_r4 (c : CallF) : RF := rg [2] <| aX 10 (pL true 2 3) <|
 aX0 (pS 2 2 10) <|
 aXZ
noncomputable def f58 (c : CallF) (k : Nat) : St :=
 (bSeq (bReg (f58_r0 c))
 (bSeq (bReg (f58_r1 c))
 (bSeq (bReg (f58_r2 c))
 (bSeq (bReg (f58_r3 c))
 (bSeq (bReg (f58_r4 c))
 (bEx .ret))))))
theorem f58_eq (c : CallF) (k : Nat) : exec cx c 11 f58_an k (Tryd.f58.body.getD .skip) = f58 c k := by kernel_rfl
/-! ### f59: loop.example/g01263/impl.ValidGrain -/
def f59_an : Ann := ⟨[(0, r0 [1]), (1, r0 [5, 6]), (2, r0 [5, 6, 7]), (3, r0 [4, 5, 6]), (4, r0 [5, 6, 14]), (5, r0 [2]), (6, r0 [5, 6]), (7, r0 [2])], [(2, [5, 6])]⟩
noncomputable def f59_r0 (c : CallF) : RF := rg [1] <| aX 1 (pBox 16 0) <|
 aX 2 (pM (cn (.bool false))) <|
 aXZ
noncomputable def f59_r1 (c : CallF) : RF := rg [5, 6] <| aX 5 (pL true 16 1) <|
 aX 6 (pM (cn (.int .i64 0))) <|
 aXZ
noncomputable def f59_r2 (c : CallF) : RF := rg [5, 6, 7] <| aX 7 (pB .lss 3 6 (cn (.int .i64 16))) <|
 aXZ
noncomputable def f59_r3 (c : CallF) : RF := rg [4, 5, 6] <| aX 8 (fun n e M => keep (aIndexA false 16 1 (eget e 5) (eget e 6))) <|
 aX 4 (pM 8) <|
 aXZ
noncomputable def f59_r4 (c : CallF) : RF := rg [5, 6, 14] <| aX 9 (pM 4) <|
 aX 10 (pB .lss 23 9 (cn (.int .i8 (-3)))) <|
 aX 11 (pM 10) <|
 aX 12 (pG 11 false (pM 4)) <|
 aX 13 (pG 11 false (pB .gtr 23 12 (cn (.int .i8 3)))) <|
 aX 14 (pP 11 (cn (.bool true)) 13) <|
 aXZ
noncomputable def f59_r5 (c : CallF) : RF := rg [2] <| aX 2 (pM (cn (.bool false))) <|
 aXZ
noncomputable def f59_r6 (c : CallF) : RF := rg [5, 6] <| aX 15 (pB .add 3 6 (cn (.int .i64 1))) <|
 aX 6 (pM 15) <|
 aXZ
noncomputable def f59_r7 (c : CallF) : RF := rg [2] <| aX 2 (pM (cn (.bool true))) <|
 aXZ
noncomputable def f59_l2 (c : CallF) (k : Nat) : St :=
 (bSeq (bReg (f59_r2 c))
 (bSeq (bCond (.tmp 7) (bEx .nrm) (bEx (.ext 0)))
 (bSeq (bBlock 1 (bSeq (bReg (f59_r3 c))
 (bSeq (bReg (f59_r4 c))
 (bCond (.tmp 14) (bSeq (bReg (f59_r5 c))
 (bEx .ret)) (bEx .nrm)))))
 (bReg (f59_r6 c)))))
noncomputable def f59 (c : CallF) (k : Nat) : St :=
 (bSeq (bReg (f59_r0 c))
 (bSeq (bSeq (bReg (f59_r1 c))
 (bBlock 0 (bLoop [5, 6] (f59_l2 c k) k)))
 (bSeq (bReg (f59_r7 c))
 (bEx .ret))))
theorem f59_eq (c : CallF) (k : Nat) : exec cx c 16 f59_an k (Tryd.f59.body.getD .skip) = f59 c k := by kernel_rfl
/-! ### f60: loop.example/g01263/impl.isKind -/
def f60_an : Ann := ⟨[(0, r0 [0]), (1, r0 [2])], []⟩
noncomputable def f60_r0 (c : CallF) : RF := rg [0] <| aX 2 (pM (cn (.bool false))) <|
 aXZ
noncomputable def f60_r1 (c : CallF) : RF := rg [2] <| aX 3 (pM 0) <|
 aX 4 (pB .geq 2 3 (cn (.int .i64 0))) <|
 aX 5 (pM 4) <|
 aX 6 (pG 5 true (pM 0)) <|
 aX 7 (pG 5 true (pB .leq 2 6 (cn (.int .i64 5)))) <|
 aX 8 (pP 5 7 (cn (.bool false))) <|
 aX 2 (pM 8) <|
 aXZ
noncomputable def f60 (c : CallF) (k : Nat) : St :=
 (bSeq (bReg (f60_r0 c))
 (bSeq (bReg (f60_r1 c))
 (bEx .ret)))
theorem f60_eq (c : CallF) (k : Nat) : exec cx c 9 f60_an k (Tryd.f60.body.getD .skip) = f60 c k := by kernel_rfl
/-! ### f61: (loop.example/g01263/impl.Notch).end -/
def f61_an : Ann := ⟨[(0, r0 [1]), (1, r0 [2])], []⟩
noncomputable def f61_r0 (c : CallF) : RF := rg [1] <| aX 1 (pBox 2 0) <|
 aX 2 (pM (cn (.int .i64 0))) <|
 aXZ
noncomputable def f61_r1 (c : CallF) : RF := rgD [2] (aY 3 (pF 1 1 1) <|
 aY 4 (pL false 1 3) <|
 aY 5 (fun n e M => keep (aConvI .i64 (eget e 4))) <|
 aY 6 (pF 0 1 1) <|
 aY 7 (pL false 1 6) <|
 aY 8 (fun n e M => keep (aConvI .i64 (eget e 7))) <|
 aY 9 (pK c false 80 [8]) <|
 aY 10 (pB .add 2 5 9) <|
 aY 2 (pM 10) <|
 aYZ)
 (aXZ)
noncomputable def f61 (c : CallF) (k : Nat) : St :=
 (bSeq (bReg (f61_r0 c))
 (bSeq (bReg (f61_r1 c))
 (bEx .ret)))
theorem f61_eq (c : CallF) (k : Nat) : exec cx c 11 f61_an k (Tryd.f61.body.getD .skip) = f61 c k := by kernel_rfl
/-! ### f62: loop.example/g01263/impl.isLetters -/
def f62_an : Ann := ⟨[(0, r0 [0, 1]), (1, r0 [0, 1, 7, 8]), (2, r0 [0, 1, 7, 8, 9]), (3, r0 [0, 1, 5, 7, 8]), (4, r0 [0, 1, 7, 8, 20]), (5, r0 [4]), (6, r0 [0, 1, 7, 8]), (7, r0 [4])], [(2, [0, 1, 7, 8])]⟩
noncomputable def f62_r0 (c : CallF) : RF := rg [0, 1] <| aX 4 (pM (cn (.bool false))) <|
 aXZ
noncomputable def f62_r1 (c : CallF) : RF := rg [0, 1, 7, 8] <| aX 6 (pM 0) <|
 aX 7 (pLen 9 6) <|
 aX 8 (pM (cn (.int .i64 0))) <|
 aXZ
noncomputable def f62_r2 (c : CallF) : RF := rg [0, 1, 7, 8, 9] <| aX 9 (pB .lss 3 8 7) <|
 aXZ
noncomputable def f62_r3 (c : CallF) : RF := rg [0, 1, 5, 7, 8] <| aX 10 (pM 8) <|
 aX 5 (pM 10) <|
 aXZ
noncomputable def f62_r4 (c : CallF) : RF := rg [0, 1, 7, 8, 20] <| aX 11 (pM 0) <|
 aX 12 (pM 5) <|
 aX 13 (fun n e M => keep (aIndexB (eget e 11) (eget e 12))) <|
 aX 14 (pB .lss 5 13 (cn (.int .u8 97))) <|
 aX 15 (pM 14) <|
 aX 16 (pG 15 false (pM 0)) <|
 aX 17 (pG 15 false (pM 5)) <|
 aX 18 (pG 15 false (fun n e M => keep (aIndexB (eget e 16) (eget e 17)))) <|
 aX 19 (pG 15 false (pB .gtr 5 18 (cn (.int .u8 122)))) <|
 aX 20 (pP 15 (cn (.bool true)) 19) <|
 aXZ
noncomputable def f62_r5 (c : CallF) : RF := rg [4] <| aX 4 (pM (cn (.bool false))) <|
 aXZ
noncomputable def f62_r6 (c : CallF) : RF := rg [0, 1, 7, 8] <| aX 21 (pB .add 3 8 (cn (.int .i64 1))) <|
 aX 8 (pM 21) <|
 aXZ
noncomputable def f62_r7 (c : CallF) : RF := rg [4] <| aX 22 (pM 0) <|
 aX 23 (pLen 9 22) <|
 aX 24 (pB .geq 3 23 (cn (.int .i64 1))) <|
 aX 25 (pM 24) <|
 aX 26 (pG 25 true (pM 0)) <|
 aX 27 (pG 25 true (pLen 9 26)) <|
 aX 28 (pG 25 true (pM 1)) <|
 aX 29 (pG 25 true (pB .leq 3 27 28)) <|
 aX 30 (pP 25 29 (cn (.bool false))) <|
 aX 4 (pM 30) <|
 aXZ
noncomputable def f62_l2 (c : CallF) (k : Nat) : St :=
 (bSeq (bReg (f62_r2 c))
 (bSeq (bCond (.tmp 9) (bEx .nrm) (bEx (.ext 0)))
 (bSeq (bBlock 1 (bSeq (bReg (f62_r3 c))
 (bSeq (bReg (f62_r4 c))
 (bCond (.tmp 20) (bSeq (bReg (f62_r5 c))
 (bEx .ret)) (bEx .nrm)))))
 (bReg (f62_r6 c)))))
noncomputable def f62 (c : CallF) (k : Nat) : St :=
 (bSeq (bReg (f62_r0 c))
 (bSeq (bSeq (bReg (f62_r1 c))
 (bBlock 0 (bLoop [0, 1, 7, 8] (f62_l2 c k) k)))
 (bSeq (bReg (f62_r7 c))
 (bEx .ret))))
theorem f62_eq (c : CallF) (k : Nat) : exec cx c 31 f62_an k (Tryd.f62.body.getD .skip) = f62 c k := by kernel_rfl
/-! ### f63: loop.example/g01263/impl.halfText -/
def f63_an : Ann := ⟨[(0, r0 [1]), (1, r0 [1, 3]), (2, r0 [1, 3, 11]), (3, r0 [1, 3]), (4, ⟨[0], [], [], [], [1, 3, 4]⟩), (5, r0 [1, 3, 4, 14, 15]), (6, r0 [1, 3, 4, 14, 15, 16]), (7, r0 [1, 3, 4, 6, 14, 15]), (8, ⟨[5], [], [], [], [1, 3, 4, 14, 15]⟩), (9, r0 [1, 3, 4, 14, 15]), (10, ⟨[3], [], [], [], [1, 7]⟩), (11, r0 [7, 30, 31, 32]), (12, r0 [7, 30, 31, 32, 33]), (13, r0 [7, 9, 30, 31, 32]), (14, ⟨[13], [], [], [13, 14], [7, 30, 31, 32]⟩), (15, r0 [7, 30, 31, 32]), (16, r0 [2])], [(6, [1, 3, 4, 14, 15]), (12, [7, 30, 31, 32])]⟩
noncomputable def f63_r0 (c : CallF) : RF := rg [1] <| aX 1 (pBox 18 0) <|
 aX 2 (pM (cn (.str []))) <|
 aXZ
noncomputable def f63_r1 (c : CallF) : RF := rg [1, 3] <| aX 3 (pM (cn (.str [102, 111, 105, 108]))) <|
 aXZ
noncomputable def f63_r2 (c : CallF) : RF := rg [1, 3, 11] <| aX 10 (pF 0 1 1) <|
 aX 11 (pL false 1 10) <|
 aXZ
noncomputable def f63_r3 (c : CallF) : RF := rg [1, 3] <| aX 3 (pM (cn (.str [115, 116, 111, 99, 107]))) <|
 aXZ
noncomputable def f63_r4 (c : CallF) : RF := rg [1, 3, 4] <| aX 12 (fun n e M => aLitO false n 5 1 [] M) <|
 aX 4 (pM 12) <|
 aXZ
noncomputable def f63_r5 (c : CallF) : RF := rg [1, 3, 4, 14, 15] <| aX 13 (pF 2 16 1) <|
 aX 14 (pL true 16 13) <|
 aX 15 (pM (cn (.int .i64 0))) <|
 aXZ
noncomputable def f63_r6 (c : CallF) : RF := rg [1, 3, 4, 14, 15, 16] <| aX 16 (pB .lss 3 15 (cn (.int .i64 16))) <|
 aXZ
noncomputable def f63_r7 (c : CallF) : RF := rg [1, 3, 4, 6, 14, 15] <| aX 17 (fun n e M => keep (aIndexA false 16 1 (eget e 14) (eget e 15))) <|
 aX 6 (pM 17) <|
 aXZ
noncomputable def f63_r8 (c : CallF) : RF := rg [1, 3, 4, 14, 15] <| aX 18 (pM 4) <|
 aX 19 (pM 6) <|
 aX 20 (pB .add 23 (cn (.int .i8 100)) 19) <|
 aX 21 (fun n e M => keep (aConvI .u8 (eget e 20))) <|
 aX 22 (fun n e M => keep (aLitI 5 1 [(eget e 21)] M)) <|
 aX 23 (fun n e M => aAppO n 5 1 1 (eget e 18) (eget e 22) M) <|
 aX 4 (pM 23) <|
 aXZ
noncomputable def f63_r9 (c : CallF) : RF := rg [1, 3, 4, 14, 15] <| aX 24 (pB .add 3 15 (cn (.int .i64 1))) <|
 aX 15 (pM 24) <|
 aXZ
noncomputable def f63_r10 (c : CallF) : RF := rg [1, 7] <| aX 25 (pM 3) <|
 aX 26 (pM 4) <|
 aX 27 (fun n e M => keep (aConvB (eget e 26) M)) <|
 aX 28 (fun n e M => aLitO false n 9 1 [(eget e 25), (eget e 27)] M) <|
 aX 7 (pM 28) <|
 aXZ
noncomputable def f63_r11 (c : CallF) : RF := rg [7, 30, 31, 32] <| aX 29 (pF 1 1 1) <|
 aX 30 (pL false 1 29) <|
 aX 31 (pLen 31 30) <|
 aX 32 (pM (cn (.int .i64 0))) <|
 aXZ
noncomputable def f63_r12 (c : CallF) : RF := rg [7, 30, 31, 32, 33] <| aX 33 (pB .lss 3 32 31) <|
 aXZ
noncomputable def f63_r13 (c : CallF) : RF := rg [7, 9, 30, 31, 32] <| aX 34 (pI 2 30 32) <|
 aX 35 (pL true 2 34) <|
 aX 9 (pAl 99 2) <|
 aX0 (pS 2 9 35) <|
 aXZ
noncomputable def f63_r14 (c : CallF) : RF := rgD [7, 30, 31, 32] (aY 36 (pM 7) <|
 aY 37 (pF 0 1 9) <|
 aY 38 (pL false 1 37) <|
 aY 39 (pF 0 1 9) <|
 aY 40 (pL false 1 39) <|
 aY 41 (pB .add 23 40 (cn (.int .i8 1))) <|
 aY 42 (fun n e M => keep (aSliceS (some (eget e 38)) (some (eget e 41)) (.str [100, 115, 108, 118, 99, 109]))) <|
 aY 43 (pF 1 1 9) <|
 aY 44 (pL false 1 43) <|
 aY 45 (fun n e M => keep (aConvI .i64 (eget e 44))) <|
 aY 46 (pK c false 81 [45]) <|
 aY 47 (pB .add 9 42 46) <|
 aY 48 (fun n e M => keep (aLitI 9 1 [(eget e 47)] M)) <|
 aYZ)
 (aX 49 (fun n e M => aAppO n 9 1 16 (eget e 36) (eget e 48) M) <|
 aX 7 (pM 49) <|
 aXZ)
noncomputable def f63_r15 (c : CallF) : RF := rg [7, 30, 31, 32] <| aX 50 (pB .add 3 32 (cn (.int .i64 1))) <|
 aX 32 (pM 50) <|
 aXZ
noncomputable def f63_r16 (c : CallF) : RF := rg [2] <| aX 51 (pM 7) <|
 aX 52 (pK c false 82 [51, (cn (.str [32]))]) <|
 aX 2 (pM 52) <|
 aXZ
noncomputable def f63_l6 (c : CallF) (k : Nat) : St :=
 (bSeq (bReg (f63_r6 c))
 (bSeq (bCond (.tmp 16) (bEx .nrm) (bEx (.ext 0)))
 (bSeq (bBlock 1 (bSeq (bReg (f63_r7 c))
 (bReg (f63_r8 c))))
 (bReg (f63_r9 c)))))
noncomputable def f63_l12 (c : CallF) (k : Nat) : St :=
 (bSeq (bReg (f63_r12 c))
 (bSeq (bCond (.tmp 33) (bEx .nrm) (bEx (.ext 2)))
 (bSeq (bBlock 3 (bSeq (bReg (f63_r13 c))
 (bReg (f63_r14 c))))
 (bReg (f63_r15 c)))))
noncomputable def f63 (c : CallF) (k : Nat) : St :=
 (bSeq (bReg (f63_r0 c))
 (bSeq (bReg (f63_r1 c))
 (bSeq (bSeq (bReg (f63_r2 c))
 (bCond (.tmp 11) (bReg (f63_r3 c)) (bEx .nrm)))
 (bSeq (bReg (f63_r4 c))
 (bSeq (bSeq (bReg (f63_r5 c))
 (bBlock 0 (bLoop [1, 3, 4, 14, 15] (f63_l6 c k) k)))
 (bSeq (bReg (f63_r10 c))
 (bSeq (bSeq (bReg (f63_r11 c))
 (bBlock 2 (bLoop [7, 30, 31, 32] (f63_l12 c k) k)))
 (bSeq (bReg (f63_r16 c))
 (bEx .ret)))))))))
theorem f63_eq (c : CallF) (k : Nat) : exec cx c 53 f63_an k (Tryd.f63.body.getD .skip) = f63 c k := by kernel_rfl
/-! ### f64: loop.example/g01263/impl.four -/
def f64_an : Ann := ⟨[(0, r0 [0]), (1, r0 [2])], []⟩
noncomputable def f64_r0 (c : CallF) : RF := rg [0] <| aX 2 (pM (cn (.str []))) <|
 aXZ
noncomputable def f64_r1 (c : CallF) : RF := rg [2] <| aX 3 (pM 0) <|
 aX 4 (pB .shr 27 3 (cn (.int .u64 24))) <|
 aX 5 (fun n e M => keep (aConvI .u8 (eget e 4))) <|
 aX 6 (pM 0) <|
 aX 7 (pB .shr 27 6 (cn (.int .u64 16))) <|
 aX 8 (fun n e M => keep (aConvI .u8 (eget e 7))) <|
 aX 9 (pM 0) <|
 aX 10 (pB .shr 27 9 (cn (.int .u64 8))) <|
 aX 11 (fun n e M => keep (aConvI .u8 (eget e 10))) <|
 aX 12 (pM 0) <|
 aX 13 (fun n e M => keep (aConvI .u8 (eget e 12))) <|
 aX 14 (fun n e M => keep (aLitI 5 1 [(eget e 5), (eget e 8), (eget e 11), (eget e 13)] M)) <|
 aX 15 (fun n e M => keep (aConvB (eget e 14) M)) <|
 aX 2 (pM 15) <|
 aXZ
noncomputable def f64 (c : CallF) (k : Nat) : St :=
 (bSeq (bReg (f64_r0 c))
 (bSeq (bReg (f64_r1 c))
 (bEx .ret)))
theorem f64_eq (c : CallF) (k : Nat) : exec cx c 16 f64_an k (Tryd.f64.body.getD .skip) = f64 c k := by kernel_rfl
/-! ### f65: loop.example/g01263/laws.eqNotch -/
def f65_an : Ann := ⟨[(0, r0 [2, 3]), (1, r0 [2, 3, 9]), (2, r0 [4]), (3, r0 [14]), (4, r0 [4]), (5, r0 [4])], []⟩
noncomputable def f65_r0 (c : CallF) : RF := rg [2, 3] <| aX 2 (pBox 2 0) <|
 aX 3 (pBox 2 1) <|
 aX 4 (pM (cn (.bool false))) <|
 aXZ
noncomputable def f65_r1 (c : CallF) : RF := rg [2, 3, 9] <| aX 5 (pF 0 1 2) <|
 aX 6 (pL false 1 5) <|
 aX 7 (pF 0 1 3) <|
 aX 8 (pL false 1 7) <|
 aX 9 (pB .neq 23 6 8) <|
 aXZ
noncomputable def f65_r2 (c : CallF) : RF := rg [4] <| aX 4 (pM (cn (.bool false))) <|
 aXZ
noncomputable def f65_r3 (c : CallF) : RF := rg [14] <| aX 10 (pF 1 1 2) <|
 aX 11 (pL false 1 10) <|
 aX 12 (pF 1 1 3) <|
 aX 13 (pL false 1 12) <|
 aX 14 (pB .neq 97 11 13) <|
 aXZ
noncomputable def f65_r4 (c : CallF) : RF := rg [4] <| aX 4 (pM (cn (.bool false))) <|
 aXZ
noncomputable def f65_r5 (c : CallF) : RF := rg [4] <| aX 4 (pM (cn (.bool true))) <|
 aXZ
noncomputable def f65 (c : CallF) (k : Nat) : St :=
 (bSeq (bReg (f65_r0 c))
 (bSeq (bSeq (bReg (f65_r1 c))
 (bCond (.tmp 9) (bSeq (bReg (f65_r2 c))
 (bEx .ret)) (bEx .nrm)))
 (bSeq (bSeq (bReg (f65_r3 c))
 (bCond (.tmp 14) (bSeq (bReg (f65_r4 c))
 (bEx .ret)) (bEx .nrm)))
 (bSeq (bReg (f65_r5 c))
 (bEx .ret)))))
theorem f65_eq (c : CallF) (k : Nat) : exec cx c 15 f65_an k (Tryd.f65.body.getD .skip) = f65 c k := by kernel_rfl
/-! ### f72: loop.example/g01263/spec.l00In -/
def f72_an : Ann := ⟨[(0, r0 [0, 1, 2]), (1, r0 [6])], []⟩
noncomputable def f72_r0 (c : CallF) : RF := rg [0, 1, 2] <| aX 6 (pM (cn (.bool false))) <|
 aXZ
noncomputable def f72_r1 (c : CallF) : RF := rg [6] <| aX 7 (pM 0) <|
 aX 8 (pM 1) <|
 aX 9 (pB .geq 2 7 8) <|
 aX 10 (pM 9) <|
 aX 11 (pG 10 true (pM 0)) <|
 aX 12 (pG 10 true (pM 2)) <|
 aX 13 (pG 10 true (pB .leq 2 11 12)) <|
 aX 14 (pP 10 13 (cn (.bool false))) <|
 aX 6 (pM 14) <|
 aXZ
noncomputable def f72 (c : CallF) (k : Nat) : St :=
 (bSeq (bReg (f72_r0 c))
 (bSeq (bReg (f72_r1 c))
 (bEx .ret)))
theorem f72_eq (c : CallF) (k : Nat) : exec cx c 15 f72_an k (Tryd.f72.body.getD .skip) = f72 c k := by kernel_rfl
/-! ### f76: loop.example/g01263/spec.l01Kind -/
def f76_an : Ann := ⟨[(0, r0 [0]), (1, r0 [2])], []⟩
noncomputable def f76_r0 (c : CallF) : RF := rg [0] <| aX 2 (pM (cn (.bool false))) <|
 aXZ
noncomputable def f76_r1 (c : CallF) : RF := rg [2] <| aX 3 (pM 0) <|
 aX 4 (pK c false 72 [3, (cn (.int .i64 0)), (cn (.int .i64 5))]) <|
 aX 2 (pM 4) <|
 aXZ
noncomputable def f76 (c : CallF) (k : Nat) : St :=
 (bSeq (bReg (f76_r0 c))
 (bSeq (bReg (f76_r1 c))
 (bEx .ret)))
theorem f76_eq (c : CallF) (k : Nat) : exec cx c 5 f76_an k (Tryd.f76.body.getD .skip) = f76 c k := by kernel_rfl
/-! ### f77: loop.example/g01263/spec.l01Ends -/
def f77_an : Ann := ⟨[(0, r0 [1]), (1, r0 [2])], []⟩
noncomputable def f77_r0 (c : CallF) : RF := rg [1] <| aX 1 (pBox 2 0) <|
 aX 2 (pM (cn (.int .i64 0))) <|
 aXZ
noncomputable def f77_r1 (c : CallF) : RF := rgD [2] (aY 3 (pF 1 1 1) <|
 aY 4 (pL false 1 3) <|
 aY 5 (fun n e M => keep (aConvI .i64 (eget e 4))) <|
 aY 6 (pK c false 83 []) <|
 aY 7 (pF 0 1 1) <|
 aY 8 (pL false 1 7) <|
 aY 9 (pI 1 6 8) <|
 aY 10 (pL false 1 9) <|
 aY 11 (pB .add 2 5 10) <|
 aY 2 (pM 11) <|
 aYZ)
 (aXZ)
noncomputable def f77 (c : CallF) (k : Nat) : St :=
 (bSeq (bReg (f77_r0 c))
 (bSeq (bReg (f77_r1 c))
 (bEx .ret)))
theorem f77_eq (c : CallF) (k : Nat) : exec cx c 12 f77_an k (Tryd.f77.body.getD .skip) = f77 c k := by kernel_rfl
/-! ### f78: loop.example/g01263/spec.l01Letters -/
def f78_an : Ann := ⟨[(0, r0 []), (1, r0 [0])], []⟩
noncomputable def f78_r0 (c : CallF) : RF := rg [] <| aX 0 (pM (cn (.str []))) <|
 aXZ
noncomputable def f78_r1 (c : CallF) : RF := rg [0] <| aX 0 (pM (cn (.str [100, 115, 108, 118, 99, 109]))) <|
 aXZ
noncomputable def f78 (c : CallF) (k : Nat) : St :=
 (bSeq (bReg (f78_r0 c))
 (bSeq (bReg (f78_r1 c))
 (bEx .ret)))
theorem f78_eq (c : CallF) (k : Nat) : exec cx c 1 f78_an k (Tryd.f78.body.getD .skip) = f78 c k := by kernel_rfl
/-! ### f79: loop.example/g01263/spec.Decimal -/
def f79_an : Ann := ⟨[(0, r0 [0]), (1, r0 [0, 4]), (2, r0 [2]), (3, r0 [2])], []⟩
noncomputable def f79_r0 (c : CallF) : RF := rg [0] <| aX 2 (pM (cn (.str []))) <|
 aXZ
noncomputable def f79_r1 (c : CallF) : RF := rg [0, 4] <| aX 3 (pM 0) <|
 aX 4 (pB .lss 2 3 (cn (.int .i64 10))) <|
 aXZ
noncomputable def f79_r2 (c : CallF) : RF := rg [2] <| aX 5 (pM 0) <|
 aX 6 (pB .rem 2 5 (cn (.int .i64 10))) <|
 aX 7 (pB .add 2 (cn (.int .i64 48)) 6) <|
 aX 8 (fun n e M => keep (aConvI .u8 (eget e 7))) <|
 aX 9 (fun n e M => keep (aLitI 5 1 [(eget e 8)] M)) <|
 aX 10 (fun n e M => keep (aConvB (eget e 9) M)) <|
 aX 2 (pM 10) <|
 aXZ
noncomputable def f79_r3 (c : CallF) : RF := rgD [2] (aY 11 (pM 0) <|
 aY 12 (pB .quo 2 11 (cn (.int .i64 10))) <|
 aY 13 (pK c false 79 [12]) <|
 aY 14 (pM 0) <|
 aY 15 (pB .rem 2 14 (cn (.int .i64 10))) <|
 aY 16 (pB .add 2 (cn (.int .i64 48)) 15) <|
 aY 17 (fun n e M => keep (aConvI .u8 (eget e 16))) <|
 aY 18 (fun n e M => keep (aLitI 5 1 [(eget e 17)] M)) <|
 aY 19 (fun n e M => keep (aConvB (eget e 18) M)) <|
 aY 20 (pB .add 9 13 19) <|
 aY 2 (pM 20) <|
 aYZ)
 (aXZ)
noncomputable def f79 (c : CallF) (k : Nat) : St :=
 (bSeq (bReg (f79_r0 c))
 (bSeq (bSeq (bReg (f79_r1 c))
 (bCond (.tmp 4) (bSeq (bReg (f79_r2 c))
 (bEx .ret)) (bEx .nrm)))
 (bSeq (bReg (f79_r3 c))
 (bEx .ret))))
theorem f79_eq (c : CallF) (k : Nat) : exec cx c 21 f79_an k (Tryd.f79.body.getD .skip) = f79 c k := by kernel_rfl
/-! ### f80: loop.example/g01263/impl.width -/
def f80_an : Ann := ⟨[(0, r0 [0]), (1, r0 [2])], []⟩
noncomputable def f80_r0 (c : CallF) : RF := rg [0] <| aX 2 (pM (cn (.int .i64 0))) <|
 aXZ
noncomputable def f80_r1 (c : CallF) : RF := rg [2] <| aX 3 (fun n e M => keep (aLitI 2 1 [(.int .i64 1), (.int .i64 2), (.int .i64 4), (.int .i64 6), (.int .i64 9), (.int .i64 12)] M)) <|
 aX 4 (pM 0) <|
 aX 5 (pI 1 3 4) <|
 aX 6 (pL false 1 5) <|
 aX 2 (pM 6) <|
 aXZ
noncomputable def f80 (c : CallF) (k : Nat) : St :=
 (bSeq (bReg (f80_r0 c))
 (bSeq (bReg (f80_r1 c))
 (bEx .ret)))
theorem f80_eq (c : CallF) (k : Nat) : exec cx c 7 f80_an k (Tryd.f80.body.getD .skip) = f80 c k := by kernel_rfl
/-! ### f81: loop.example/g01263/impl.decimal -/
def f81_an : Ann := ⟨[(0, r0 [0]), (1, r0 [2])], []⟩
noncomputable def f81_r0 (c : CallF) : RF := rg [0] <| aX 2 (pM (cn (.str []))) <|
 aXZ
noncomputable def f81_r1 (c : CallF) : RF := rg [2] <| aX 3 (pM 0) <|
 aX 4 (pK c false 84 [3, (cn (.int .i64 10))]) <|
 aX 2 (pM 4) <|
 aXZ
noncomputable def f81 (c : CallF) (k : Nat) : St :=
 (bSeq (bReg (f81_r0 c))
 (bSeq (bReg (f81_r1 c))
 (bEx .ret)))
theorem f81_eq (c : CallF) (k : Nat) : exec cx c 5 f81_an k (Tryd.f81.body.getD .skip) = f81 c k := by kernel_rfl
/-! ### f83: loop.example/g01263/spec.l01Widths -/
def f83_an : Ann := ⟨[(0, r0 []), (1, r0 [0])], []⟩
noncomputable def f83_r0 (c : CallF) : RF := rg [] <| aX 0 (pM (cn .nils)) <|
 aXZ
noncomputable def f83_r1 (c : CallF) : RF := rg [0] <| aX 1 (fun n e M => keep (aLitI 2 1 [(.int .i64 1), (.int .i64 2), (.int .i64 4), (.int .i64 6), (.int .i64 9), (.int .i64 12)] M)) <|
 aX 0 (pM 1) <|
 aXZ
noncomputable def f83 (c : CallF) (k : Nat) : St :=
 (bSeq (bReg (f83_r0 c))
 (bSeq (bReg (f83_r1 c))
 (bEx .ret)))
theorem f83_eq (c : CallF) (k : Nat) : exec cx c 2 f83_an k (Tryd.f83.body.getD .skip) = f83 c k := by kernel_rfl
def anns : List (Nat × Ann) := [(3, f3_an), (6, f6_an), (7, f7_an), (8, f8_an), (9, f9_an), (10, f10_an), (26, f26_an), (27, f27_an), (28, f28_an), (29, f29_an), (30, f30_an), (31, f31_an), (32, f32_an), (33, f33_an), (34, f34_an), (35, f35_an), (36, f36_an), (53, f53_an), (54, f54_an), (55, f55_an), (56, f56_an), (57, f57_an), (58, f58_an), (59, f59_an), (60, f60_an), (61, f61_an), (62, f62_an), (63, f63_an), (64, f64_an), (65, f65_an), (72, f72_an), (76, f76_an), (77, f77_an), (78, f78_an), (79, f79_an), (80, f80_an), (81, f81_an), (83, f83_an)]
noncomputable def CN0 : Nat → CallF := callN cx (Go.Ab.look anns) (fun _ _ _ => none) (fun _ => false)
def isP (f : Nat) : Bool := has [82, 84] f
noncomputable def primF : CallF := splitNil (callN cx (Go.Ab.look anns) (fun _ _ _ => none) (fun _ => false) 3)
noncomputable def CN : Nat → CallF := callN cx (Go.Ab.look anns) (withLib libT primF) isP
end Go.Proofs.YtonpeobfmgdamaaDoor

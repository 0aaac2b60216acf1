/- Printed by a program of ours (ext.py). -/
import Derived.Test.YthkbjnbbahmpkaaAbArr
import Derived.Test.YthkbjnbbahmpkaaProg
set_option linter.unusedVariables false
set_option linter.unusedSimpArgs false
set_option maxRecDepth 100000
set_option maxHeartbeats 2000000
namespace Go.Proofs.Ythkbjnbbahmpkaa
open Go Go.Ab
noncomputable def cx : Cx := ⟨Try.prog, fun f => has [] f⟩
noncomputable abbrev pB := pB_ cx.P
noncomputable abbrev pLen := pLen_ cx.P
noncomputable abbrev pAl := pAl_ cx.P
noncomputable abbrev pK := pK_ cx
/-! ### f7: loop.example/g01263/laws.FnExactCommonMarks -/
def f7_an : Ann := ⟨[(0, r0 [2, 3]), (1, r0 [2, 3, 5]), (2, r0 [2, 3, 5]), (3, r0 [2, 3, 5, 16]), (4, r0 [4]), (5, r0 [2, 3, 5]), (6, r0 [2, 3, 21]), (7, r0 [4]), (8, r0 [2, 3, 6, 7]), (9, r0 [2, 3, 6, 7, 8]), (10, r0 [2, 3, 6, 7, 8, 9]), (11, r0 [2, 3, 6, 7, 8, 9, 10, 11]), (12, r0 [2, 3, 8, 9, 47]), (13, r0 [4]), (14, r0 [3, 9, 52]), (15, r0 [4]), (16, r0 [57]), (17, r0 [4]), (18, r0 [4])], []⟩
noncomputable def f7_r0 (c : CallF) : RF := rg [2, 3] <| aX 2 (pBox 20 0) <|
 aX 3 (pBox 20 1) <|
 aX 4 (pM (cn (.bool false))) <|
 aXZ
noncomputable def f7_r1 (c : CallF) : RF := rg [2, 3, 5] <| aX 5 (pM (cn (.int .i64 1048576))) <|
 aXZ
noncomputable def f7_r2 (c : CallF) : RF := rg [2, 3, 5] <| aX 12 (pL true 20 2) <|
 aX 13 (pM 5) <|
 aX 14 (pK c false 9 [12, 13]) <|
 aX 5 (pM 14) <|
 aXZ
noncomputable def f7_r3 (c : CallF) : RF := rg [2, 3, 5, 16] <| aX 15 (pM 5) <|
 aX 16 (pB .lss 3 15 (cn (.int .i64 0))) <|
 aXZ
noncomputable def f7_r4 (c : CallF) : RF := rg [4] <| aX 4 (pM (cn (.bool true))) <|
 aXZ
noncomputable def f7_r5 (c : CallF) : RF := rg [2, 3, 5] <| aX 17 (pL true 20 3) <|
 aX 18 (pM 5) <|
 aX 19 (pK c false 9 [17, 18]) <|
 aX 5 (pM 19) <|
 aXZ
noncomputable def f7_r6 (c : CallF) : RF := rg [2, 3, 21] <| aX 20 (pM 5) <|
 aX 21 (pB .lss 3 20 (cn (.int .i64 0))) <|
 aXZ
noncomputable def f7_r7 (c : CallF) : RF := rg [4] <| aX 4 (pM (cn (.bool true))) <|
 aXZ
noncomputable def f7_r8 (c : CallF) : RF := rgD [2, 3, 6, 7] (aY 23 (pL true 20 2) <|
 aY 24 (pK c false 11 [23]) <|
 aY 25 (pL true 20 3) <|
 aY 26 (pK c false 11 [25]) <|
 aY 27 (pK c false 20 [24, 26]) <|
 aY 22 (pM 27) <|
 aY 28 (pE 0 22) <|
 aY 29 (pE 1 22) <|
 aY 6 (pM 28) <|
 aY 7 (pM 29) <|
 aYZ)
 (aXZ)
noncomputable def f7_r9 (c : CallF) : RF := rg [2, 3, 6, 7, 8] <| aX 30 (pL true 20 2) <|
 aX 31 (pK c false 11 [30]) <|
 aX 8 (pAl 38 20) <|
 aX0 (pS 20 8 31) <|
 aXZ
noncomputable def f7_r10 (c : CallF) : RF := rg [2, 3, 6, 7, 8, 9] <| aX 32 (pL true 20 3) <|
 aX 33 (pK c false 11 [32]) <|
 aX 9 (pAl 38 20) <|
 aX0 (pS 20 9 33) <|
 aXZ
noncomputable def f7_r11 (c : CallF) : RF := rg [2, 3, 6, 7, 8, 9, 10, 11] <| aX 35 (pL true 20 8) <|
 aX 36 (pL true 20 9) <|
 aX 37 (pK c false 21 [35, 36]) <|
 aX 34 (pM 37) <|
 aX 38 (pE 0 34) <|
 aX 39 (pE 1 34) <|
 aX 10 (pM 38) <|
 aX 11 (pM 39) <|
 aXZ
noncomputable def f7_r12 (c : CallF) : RF := rg [2, 3, 8, 9, 47] <| aX 40 (pM 10) <|
 aX 41 (pM 6) <|
 aX 42 (pB .neq 2 40 41) <|
 aX 43 (pM 42) <|
 aX 44 (pG 43 false (pM 11)) <|
 aX 45 (pG 43 false (pM 7)) <|
 aX 46 (pG 43 false (pB .neq 2 44 45)) <|
 aX 47 (pP 43 (cn (.bool true)) 46) <|
 aXZ
noncomputable def f7_r13 (c : CallF) : RF := rg [4] <| aX 4 (pM (cn (.bool false))) <|
 aXZ
noncomputable def f7_r14 (c : CallF) : RF := rgD [3, 9, 52] (aY 48 (pL true 20 8) <|
 aY 49 (pL true 20 2) <|
 aY 50 (pK c false 11 [49]) <|
 aY 51 (pK c false 13 [48, 50]) <|
 aY 52 (pU .not 51) <|
 aYZ)
 (aXZ)
noncomputable def f7_r15 (c : CallF) : RF := rg [4] <| aX 4 (pM (cn (.bool false))) <|
 aXZ
noncomputable def f7_r16 (c : CallF) : RF := rgD [57] (aY 53 (pL true 20 9) <|
 aY 54 (pL true 20 3) <|
 aY 55 (pK c false 11 [54]) <|
 aY 56 (pK c false 13 [53, 55]) <|
 aY 57 (pU .not 56) <|
 aYZ)
 (aXZ)
noncomputable def f7_r17 (c : CallF) : RF := rg [4] <| aX 4 (pM (cn (.bool false))) <|
 aXZ
noncomputable def f7_r18 (c : CallF) : RF := rg [4] <| aX 4 (pM (cn (.bool true))) <|
 aXZ
noncomputable def f7 (c : CallF) (k : Nat) : St :=
 (bSeq (bReg (f7_r0 c))
 (bSeq (bReg (f7_r1 c))
 (bSeq (bReg (f7_r2 c))
 (bSeq (bSeq (bReg (f7_r3 c))
 (bCond (.tmp 16) (bSeq (bReg (f7_r4 c))
 (bEx .ret)) (bEx .nrm)))
 (bSeq (bReg (f7_r5 c))
 (bSeq (bSeq (bReg (f7_r6 c))
 (bCond (.tmp 21) (bSeq (bReg (f7_r7 c))
 (bEx .ret)) (bEx .nrm)))
 (bSeq (bReg (f7_r8 c))
 (bSeq (bReg (f7_r9 c))
 (bSeq (bReg (f7_r10 c))
 (bSeq (bReg (f7_r11 c))
 (bSeq (bSeq (bReg (f7_r12 c))
 (bCond (.tmp 47) (bSeq (bReg (f7_r13 c))
 (bEx .ret)) (bEx .nrm)))
 (bSeq (bSeq (bReg (f7_r14 c))
 (bCond (.tmp 52) (bSeq (bReg (f7_r15 c))
 (bEx .ret)) (bEx .nrm)))
 (bSeq (bSeq (bReg (f7_r16 c))
 (bCond (.tmp 57) (bSeq (bReg (f7_r17 c))
 (bEx .ret)) (bEx .nrm)))
 (bSeq (bReg (f7_r18 c))
 (bEx .ret)))))))))))))))
theorem f7_eq (c : CallF) (k : Nat) : exec cx c 58 f7_an k (Try.f7.body.getD .skip) = f7 c k := by kernel_rfl
/-! ### f9: loop.example/g01263/laws.szChain -/
def f9_an : Ann := ⟨[(0, r0 [1, 2]), (1, r0 [1, 2]), (2, r0 [1, 2, 11]), (3, r0 [4]), (4, r0 [1, 2]), (5, r0 [1, 2, 17]), (6, r0 [4]), (7, r0 [1]), (8, r0 [1, 23]), (9, r0 [4]), (10, r0 [4])], []⟩
noncomputable def f9_r0 (c : CallF) : RF := rg [1, 2] <| aX 2 (pBox 20 0) <|
 aX 4 (pM (cn (.int .i64 0))) <|
 aXZ
noncomputable def f9_r1 (c : CallF) : RF := rg [1, 2] <| aX 5 (pM 1) <|
 aX 6 (pF 0 1 2) <|
 aX 7 (pL false 1 6) <|
 aX 8 (pLen 9 7) <|
 aX 9 (pB .sub 3 5 8) <|
 aX 1 (pM 9) <|
 aXZ
noncomputable def f9_r2 (c : CallF) : RF := rg [1, 2, 11] <| aX 10 (pM 1) <|
 aX 11 (pB .lss 3 10 (cn (.int .i64 0))) <|
 aXZ
noncomputable def f9_r3 (c : CallF) : RF := rg [4] <| aX 4 (pM (cn (.int .i64 (-1)))) <|
 aXZ
noncomputable def f9_r4 (c : CallF) : RF := rg [1, 2] <| aX 12 (pF 1 18 2) <|
 aX 13 (pL true 18 12) <|
 aX 14 (pM 1) <|
 aX 15 (pK c false 31 [13, 14]) <|
 aX 1 (pM 15) <|
 aXZ
noncomputable def f9_r5 (c : CallF) : RF := rg [1, 2, 17] <| aX 16 (pM 1) <|
 aX 17 (pB .lss 3 16 (cn (.int .i64 0))) <|
 aXZ
noncomputable def f9_r6 (c : CallF) : RF := rg [4] <| aX 4 (pM (cn (.int .i64 (-1)))) <|
 aXZ
noncomputable def f9_r7 (c : CallF) : RF := rg [1] <| aX 18 (pF 19 1 2) <|
 aX 19 (pL false 1 18) <|
 aX 20 (pM 1) <|
 aX 21 (pK c false 32 [19, 20]) <|
 aX 1 (pM 21) <|
 aXZ
noncomputable def f9_r8 (c : CallF) : RF := rg [1, 23] <| aX 22 (pM 1) <|
 aX 23 (pB .lss 3 22 (cn (.int .i64 0))) <|
 aXZ
noncomputable def f9_r9 (c : CallF) : RF := rg [4] <| aX 4 (pM (cn (.int .i64 (-1)))) <|
 aXZ
noncomputable def f9_r10 (c : CallF) : RF := rg [4] <| aX 24 (pM 1) <|
 aX 4 (pM 24) <|
 aXZ
noncomputable def f9 (c : CallF) (k : Nat) : St :=
 (bSeq (bReg (f9_r0 c))
 (bSeq (bReg (f9_r1 c))
 (bSeq (bSeq (bReg (f9_r2 c))
 (bCond (.tmp 11) (bSeq (bReg (f9_r3 c))
 (bEx .ret)) (bEx .nrm)))
 (bSeq (bReg (f9_r4 c))
 (bSeq (bSeq (bReg (f9_r5 c))
 (bCond (.tmp 17) (bSeq (bReg (f9_r6 c))
 (bEx .ret)) (bEx .nrm)))
 (bSeq (bReg (f9_r7 c))
 (bSeq (bSeq (bReg (f9_r8 c))
 (bCond (.tmp 23) (bSeq (bReg (f9_r9 c))
 (bEx .ret)) (bEx .nrm)))
 (bSeq (bReg (f9_r10 c))
 (bEx .ret)))))))))
theorem f9_eq (c : CallF) (k : Nat) : exec cx c 25 f9_an k (Try.f9.body.getD .skip) = f9 c k := by kernel_rfl
/-! ### f11: loop.example/g01263/laws.toChain -/
def f11_an : Ann := ⟨[(0, r0 [1, 2]), (1, r0 [1, 2, 3]), (2, r0 [1, 2, 3]), (3, r0 [1, 2, 3]), (4, r0 [2, 3]), (5, r0 [2])], []⟩
noncomputable def f11_r0 (c : CallF) : RF := rg [1, 2] <| aX 1 (pBox 20 0) <|
 aX 2 (pAl 38 20) <|
 aXZ
noncomputable def f11_r1 (c : CallF) : RF := rg [1, 2, 3] <| aX 3 (pAl 38 20) <|
 aXZ
noncomputable def f11_r2 (c : CallF) : RF := rg [1, 2, 3] <| aX 4 (pF 0 1 1) <|
 aX 5 (pL false 1 4) <|
 aX 6 (pF 0 1 3) <|
 aX0 (pS 1 6 5) <|
 aXZ
noncomputable def f11_r3 (c : CallF) : RF := rg [1, 2, 3] <| aX 7 (pF 1 18 1) <|
 aX 8 (pL true 18 7) <|
 aX 9 (pK c false 34 [8]) <|
 aX 10 (pF 1 18 3) <|
 aX0 (pS 18 10 9) <|
 aXZ
noncomputable def f11_r4 (c : CallF) : RF := rg [2, 3] <| aX 11 (pF 19 1 1) <|
 aX 12 (pL false 1 11) <|
 aX 13 (pK c false 35 [12]) <|
 aX 14 (pF 19 1 3) <|
 aX0 (pS 1 14 13) <|
 aXZ
noncomputable def f11_r5 (c : CallF) : RF := rg [2] <| aX 15 (pL true 20 3) <|
 aX0 (pS 20 2 15) <|
 aXZ
noncomputable def f11 (c : CallF) (k : Nat) : St :=
 (bSeq (bReg (f11_r0 c))
 (bSeq (bReg (f11_r1 c))
 (bSeq (bReg (f11_r2 c))
 (bSeq (bReg (f11_r3 c))
 (bSeq (bReg (f11_r4 c))
 (bSeq (bReg (f11_r5 c))
 (bEx .ret)))))))
theorem f11_eq (c : CallF) (k : Nat) : exec cx c 16 f11_an k (Try.f11.body.getD .skip) = f11 c k := by kernel_rfl
/-! ### f13: loop.example/g01263/laws.eqChain -/
def f13_an : Ann := ⟨[(0, r0 [2, 3]), (1, r0 [2, 3, 9]), (2, r0 [4]), (3, r0 [2, 3, 15]), (4, r0 [4]), (5, r0 [21]), (6, r0 [4]), (7, r0 [4])], []⟩
noncomputable def f13_r0 (c : CallF) : RF := rg [2, 3] <| aX 2 (pBox 20 0) <|
 aX 3 (pBox 20 1) <|
 aX 4 (pM (cn (.bool false))) <|
 aXZ
noncomputable def f13_r1 (c : CallF) : RF := rg [2, 3, 9] <| aX 5 (pF 0 1 2) <|
 aX 6 (pL false 1 5) <|
 aX 7 (pF 0 1 3) <|
 aX 8 (pL false 1 7) <|
 aX 9 (pB .neq 9 6 8) <|
 aXZ
noncomputable def f13_r2 (c : CallF) : RF := rg [4] <| aX 4 (pM (cn (.bool false))) <|
 aXZ
noncomputable def f13_r3 (c : CallF) : RF := rg [2, 3, 15] <| aX 10 (pF 1 18 2) <|
 aX 11 (pL true 18 10) <|
 aX 12 (pF 1 18 3) <|
 aX 13 (pL true 18 12) <|
 aX 14 (pK c false 38 [11, 13]) <|
 aX 15 (pU .not 14) <|
 aXZ
noncomputable def f13_r4 (c : CallF) : RF := rg [4] <| aX 4 (pM (cn (.bool false))) <|
 aXZ
noncomputable def f13_r5 (c : CallF) : RF := rg [21] <| aX 16 (pF 19 1 2) <|
 aX 17 (pL false 1 16) <|
 aX 18 (pF 19 1 3) <|
 aX 19 (pL false 1 18) <|
 aX 20 (pK c false 39 [17, 19]) <|
 aX 21 (pU .not 20) <|
 aXZ
noncomputable def f13_r6 (c : CallF) : RF := rg [4] <| aX 4 (pM (cn (.bool false))) <|
 aXZ
noncomputable def f13_r7 (c : CallF) : RF := rg [4] <| aX 4 (pM (cn (.bool true))) <|
 aXZ
noncomputable def f13 (c : CallF) (k : Nat) : St :=
 (bSeq (bReg (f13_r0 c))
 (bSeq (bSeq (bReg (f13_r1 c))
 (bCond (.tmp 9) (bSeq (bReg (f13_r2 c))
 (bEx .ret)) (bEx .nrm)))
 (bSeq (bSeq (bReg (f13_r3 c))
 (bCond (.tmp 15) (bSeq (bReg (f13_r4 c))
 (bEx .ret)) (bEx .nrm)))
 (bSeq (bSeq (bReg (f13_r5 c))
 (bCond (.tmp 21) (bSeq (bReg (f13_r6 c))
 (bEx .ret)) (bEx .nrm)))
 (bSeq (bReg (f13_r7 c))
 (bEx .ret))))))
theorem f13_eq (c : CallF) (k : Nat) : exec cx c 22 f13_an k (Try.f13.body.getD .skip) = f13 c k := by kernel_rfl
/-! ### f15: loop.example/g01263/impl.ValidChain -/
def f15_an : Ann := ⟨[(0, r0 [1]), (1, r0 [1, 33]), (2, r0 [2]), (3, r0 [1, 3]), (4, r0 [3, 37, 38, 39]), (5, r0 [3, 37, 38, 39, 40]), (6, r0 [3, 5, 37, 38, 39]), (7, r0 [5, 37, 38, 39, 52]), (8, r0 [2]), (9, r0 [3, 37, 38, 39]), (10, r0 [3, 37, 38, 39]), (11, r0 [2])], [(5, [3, 37, 38, 39])]⟩
noncomputable def f15_r0 (c : CallF) : RF := rg [1] <| aX 1 (pBox 20 0) <|
 aX 2 (pM (cn (.bool false))) <|
 aXZ
noncomputable def f15_r1 (c : CallF) : RF := rg [1, 33] <| aX 6 (pF 0 1 1) <|
 aX 7 (pL false 1 6) <|
 aX 8 (pK c false 41 [7]) <|
 aX 9 (pU .not 8) <|
 aX 10 (pM 9) <|
 aX 11 (pG 10 false (pF 1 18 1)) <|
 aX 12 (pG 10 false (pL true 18 11)) <|
 aX 13 (pG 10 false (pK c false 42 [12])) <|
 aX 14 (pG 10 false (pU .not 13)) <|
 aX 15 (pP 10 (cn (.bool true)) 14) <|
 aX 16 (pM 15) <|
 aX 17 (pG 16 false (pF 1 18 1)) <|
 aX 18 (pG 16 false (pF 0 1 17)) <|
 aX 19 (pG 16 false (pL false 1 18)) <|
 aX 20 (pG 16 false (pU .not 19)) <|
 aX 21 (pP 16 (cn (.bool true)) 20) <|
 aX 22 (pM 21) <|
 aX 23 (pG 22 false (pF 19 1 1)) <|
 aX 24 (pG 22 false (pL false 1 23)) <|
 aX 25 (pG 22 false (pLen 36 24)) <|
 aX 26 (pG 22 false (pB .lss 3 25 (cn (.int .i64 1)))) <|
 aX 27 (pP 22 (cn (.bool true)) 26) <|
 aX 28 (pM 27) <|
 aX 29 (pG 28 false (pF 19 1 1)) <|
 aX 30 (pG 28 false (pL false 1 29)) <|
 aX 31 (pG 28 false (pLen 36 30)) <|
 aX 32 (pG 28 false (pB .gtr 3 31 (cn (.int .i64 30)))) <|
 aX 33 (pP 28 (cn (.bool true)) 32) <|
 aXZ
noncomputable def f15_r2 (c : CallF) : RF := rg [2] <| aX 2 (pM (cn (.bool false))) <|
 aXZ
noncomputable def f15_r3 (c : CallF) : RF := rg [1, 3] <| aX 34 (pF 0 1 1) <|
 aX 35 (pL false 1 34) <|
 aX 3 (pM 35) <|
 aXZ
noncomputable def f15_r4 (c : CallF) : RF := rg [3, 37, 38, 39] <| aX 36 (pF 19 1 1) <|
 aX 37 (pL false 1 36) <|
 aX 38 (pLen 36 37) <|
 aX 39 (pM (cn (.int .i64 0))) <|
 aXZ
noncomputable def f15_r5 (c : CallF) : RF := rg [3, 37, 38, 39, 40] <| aX 40 (pB .lss 3 39 38) <|
 aXZ
noncomputable def f15_r6 (c : CallF) : RF := rg [3, 5, 37, 38, 39] <| aX 41 (pI 2 37 39) <|
 aX 42 (pL true 2 41) <|
 aX 5 (pAl 72 2) <|
 aX0 (pS 2 5 42) <|
 aXZ
noncomputable def f15_r7 (c : CallF) : RF := rg [5, 37, 38, 39, 52] <| aX 43 (pF 0 1 5) <|
 aX 44 (pL false 1 43) <|
 aX 45 (pK c false 41 [44]) <|
 aX 46 (pU .not 45) <|
 aX 47 (pM 46) <|
 aX 48 (pG 47 false (pF 0 1 5)) <|
 aX 49 (pG 47 false (pL false 1 48)) <|
 aX 50 (pG 47 false (pM 3)) <|
 aX 51 (pG 47 false (pB .eql 9 49 50)) <|
 aX 52 (pP 47 (cn (.bool true)) 51) <|
 aXZ
noncomputable def f15_r8 (c : CallF) : RF := rg [2] <| aX 2 (pM (cn (.bool false))) <|
 aXZ
noncomputable def f15_r9 (c : CallF) : RF := rg [3, 37, 38, 39] <| aX 53 (pF 0 1 5) <|
 aX 54 (pL false 1 53) <|
 aX 3 (pM 54) <|
 aXZ
noncomputable def f15_r10 (c : CallF) : RF := rg [3, 37, 38, 39] <| aX 55 (pB .add 3 39 (cn (.int .i64 1))) <|
 aX 39 (pM 55) <|
 aXZ
noncomputable def f15_r11 (c : CallF) : RF := rg [2] <| aX 2 (pM (cn (.bool true))) <|
 aXZ
noncomputable def f15_l5 (c : CallF) (k : Nat) : St :=
 (bSeq (bReg (f15_r5 c))
 (bSeq (bCond (.tmp 40) (bEx .nrm) (bEx (.ext 0)))
 (bSeq (bBlock 1 (bSeq (bReg (f15_r6 c))
 (bSeq (bSeq (bReg (f15_r7 c))
 (bCond (.tmp 52) (bSeq (bReg (f15_r8 c))
 (bEx .ret)) (bEx .nrm)))
 (bReg (f15_r9 c)))))
 (bReg (f15_r10 c)))))
noncomputable def f15 (c : CallF) (k : Nat) : St :=
 (bSeq (bReg (f15_r0 c))
 (bSeq (bSeq (bReg (f15_r1 c))
 (bCond (.tmp 33) (bSeq (bReg (f15_r2 c))
 (bEx .ret)) (bEx .nrm)))
 (bSeq (bReg (f15_r3 c))
 (bSeq (bSeq (bReg (f15_r4 c))
 (bBlock 0 (bLoop [3, 37, 38, 39] (f15_l5 c k) k)))
 (bSeq (bReg (f15_r11 c))
 (bEx .ret))))))
theorem f15_eq (c : CallF) (k : Nat) : exec cx c 56 f15_an k (Try.f15.body.getD .skip) = f15 c k := by kernel_rfl
/-! ### f20: loop.example/g01263/spec.CommonMarks -/
def f20_an : Ann := ⟨[(0, r0 [2, 3]), (1, r0 [6, 7]), (2, r0 [4, 5])], []⟩
noncomputable def f20_r0 (c : CallF) : RF := rg [2, 3] <| aX 2 (pBox 20 0) <|
 aX 3 (pBox 20 1) <|
 aX 4 (pM (cn (.int .i64 0))) <|
 aX 5 (pM (cn (.int .i64 0))) <|
 aXZ
noncomputable def f20_r1 (c : CallF) : RF := rg [6, 7] <| aX 9 (pK c false 45 [2, 3]) <|
 aX 8 (pM 9) <|
 aX 10 (pE 0 8) <|
 aX 11 (pE 1 8) <|
 aX 6 (pM 10) <|
 aX 7 (pM 11) <|
 aXZ
noncomputable def f20_r2 (c : CallF) : RF := rg [4, 5] <| aX 12 (pM 6) <|
 aX 13 (pM 7) <|
 aX 4 (pM 12) <|
 aX 5 (pM 13) <|
 aXZ
noncomputable def f20 (c : CallF) (k : Nat) : St :=
 (bSeq (bReg (f20_r0 c))
 (bSeq (bReg (f20_r1 c))
 (bSeq (bReg (f20_r2 c))
 (bEx .ret))))
theorem f20_eq (c : CallF) (k : Nat) : exec cx c 14 f20_an k (Try.f20.body.getD .skip) = f20 c k := by kernel_rfl
/-! ### f21: loop.example/g01263/impl.CommonMarks -/
def f21_an : Ann := ⟨[(0, r0 [2, 3]), (1, r0 [2, 3, 6]), (2, r0 [4, 5]), (3, r0 [2, 3, 15]), (4, r0 [4, 5]), (5, r0 [4, 5])], []⟩
noncomputable def f21_r0 (c : CallF) : RF := rg [2, 3] <| aX 2 (pBox 20 0) <|
 aX 3 (pBox 20 1) <|
 aX 4 (pM (cn (.int .i64 0))) <|
 aX 5 (pM (cn (.int .i64 0))) <|
 aXZ
noncomputable def f21_r1 (c : CallF) : RF := rg [2, 3, 6] <| aX 7 (pL true 20 2) <|
 aX 8 (pK c false 15 [7]) <|
 aX 9 (pU .not 8) <|
 aX 10 (pM 9) <|
 aX 11 (pG 10 false (pL true 20 3)) <|
 aX 12 (pG 10 false (pK c false 15 [11])) <|
 aX 13 (pG 10 false (pU .not 12)) <|
 aX 14 (pP 10 (cn (.bool true)) 13) <|
 aX 6 (pM 14) <|
 aXZ
noncomputable def f21_r2 (c : CallF) : RF := rg [4, 5] <| aX 4 (pM (cn (.int .i64 0))) <|
 aX 5 (pM (cn (.int .i64 1))) <|
 aXZ
noncomputable def f21_r3 (c : CallF) : RF := rg [2, 3, 15] <| aX 16 (pF 0 1 2) <|
 aX 17 (pL false 1 16) <|
 aX 18 (pF 0 1 3) <|
 aX 19 (pL false 1 18) <|
 aX 20 (pB .neq 9 17 19) <|
 aX 21 (pM 20) <|
 aX 22 (pG 21 false (pF 1 18 2)) <|
 aX 23 (pG 21 false (pL true 18 22)) <|
 aX 24 (pG 21 false (pF 1 18 3)) <|
 aX 25 (pG 21 false (pL true 18 24)) <|
 aX 26 (pG 21 false (pK c false 36 [23, 25])) <|
 aX 27 (pG 21 false (pU .not 26)) <|
 aX 28 (pP 21 (cn (.bool true)) 27) <|
 aX 15 (pM 28) <|
 aXZ
noncomputable def f21_r4 (c : CallF) : RF := rg [4, 5] <| aX 4 (pM (cn (.int .i64 0))) <|
 aX 5 (pM (cn (.int .i64 4))) <|
 aXZ
noncomputable def f21_r5 (c : CallF) : RF := rg [4, 5] <| aX 29 (pL true 20 2) <|
 aX 30 (pL true 20 3) <|
 aX 31 (pK c false 46 [29, 30]) <|
 aX 4 (pM 31) <|
 aX 5 (pM (cn (.int .i64 0))) <|
 aXZ
noncomputable def f21 (c : CallF) (k : Nat) : St :=
 (bSeq (bReg (f21_r0 c))
 (bSeq (bBlock 0 (bSeq (bReg (f21_r1 c))
 (bCond (.tmp 6) (bSeq (bReg (f21_r2 c))
 (bEx .ret)) (bSeq (bReg (f21_r3 c))
 (bCond (.tmp 15) (bSeq (bReg (f21_r4 c))
 (bEx .ret)) (bEx .nrm))))))
 (bSeq (bReg (f21_r5 c))
 (bEx .ret))))
theorem f21_eq (c : CallF) (k : Nat) : exec cx c 32 f21_an k (Try.f21.body.getD .skip) = f21 c k := by kernel_rfl
/-! ### f31: loop.example/g01263/laws.szHalf -/
def f31_an : Ann := ⟨[(0, r0 [1, 2]), (1, r0 [1]), (2, r0 [1, 10]), (3, r0 [4]), (4, r0 [4])], []⟩
noncomputable def f31_r0 (c : CallF) : RF := rg [1, 2] <| aX 2 (pBox 18 0) <|
 aX 4 (pM (cn (.int .i64 0))) <|
 aXZ
noncomputable def f31_r1 (c : CallF) : RF := rg [1] <| aX 5 (pF 1 1 2) <|
 aX 6 (pL false 1 5) <|
 aX 7 (pM 1) <|
 aX 8 (pK c false 61 [6, 7]) <|
 aX 1 (pM 8) <|
 aXZ
noncomputable def f31_r2 (c : CallF) : RF := rg [1, 10] <| aX 9 (pM 1) <|
 aX 10 (pB .lss 3 9 (cn (.int .i64 0))) <|
 aXZ
noncomputable def f31_r3 (c : CallF) : RF := rg [4] <| aX 4 (pM (cn (.int .i64 (-1)))) <|
 aXZ
noncomputable def f31_r4 (c : CallF) : RF := rg [4] <| aX 11 (pM 1) <|
 aX 4 (pM 11) <|
 aXZ
noncomputable def f31 (c : CallF) (k : Nat) : St :=
 (bSeq (bReg (f31_r0 c))
 (bSeq (bReg (f31_r1 c))
 (bSeq (bSeq (bReg (f31_r2 c))
 (bCond (.tmp 10) (bSeq (bReg (f31_r3 c))
 (bEx .ret)) (bEx .nrm)))
 (bSeq (bReg (f31_r4 c))
 (bEx .ret)))))
theorem f31_eq (c : CallF) (k : Nat) : exec cx c 12 f31_an k (Try.f31.body.getD .skip) = f31 c k := by kernel_rfl
/-! ### f32: loop.example/g01263/laws.szMarkS -/
def f32_an : Ann := ⟨[(0, r0 [0, 1]), (1, r0 [0, 1]), (2, r0 [0, 1, 11]), (3, r0 [4]), (4, r0 [0, 1, 5]), (5, r0 [0, 1, 5, 15]), (6, r0 [0, 1, 5]), (7, r0 [0, 1, 5]), (8, r0 [0, 1, 5, 25]), (9, r0 [4]), (10, r0 [4])], [(5, [0, 1, 5])]⟩
noncomputable def f32_r0 (c : CallF) : RF := rg [0, 1] <| aX 4 (pM (cn (.int .i64 0))) <|
 aXZ
noncomputable def f32_r1 (c : CallF) : RF := rg [0, 1] <| aX 6 (pM 1) <|
 aX 7 (pM 0) <|
 aX 8 (pLen 27 7) <|
 aX 9 (pB .sub 3 6 8) <|
 aX 1 (pM 9) <|
 aXZ
noncomputable def f32_r2 (c : CallF) : RF := rg [0, 1, 11] <| aX 10 (pM 1) <|
 aX 11 (pB .lss 3 10 (cn (.int .i64 0))) <|
 aXZ
noncomputable def f32_r3 (c : CallF) : RF := rg [4] <| aX 4 (pM (cn (.int .i64 (-1)))) <|
 aXZ
noncomputable def f32_r4 (c : CallF) : RF := rg [0, 1, 5] <| aX 5 (pM (cn (.int .i64 0))) <|
 aXZ
noncomputable def f32_r5 (c : CallF) : RF := rg [0, 1, 5, 15] <| aX 12 (pM 5) <|
 aX 13 (pM 0) <|
 aX 14 (pLen 27 13) <|
 aX 15 (pB .lss 3 12 14) <|
 aXZ
noncomputable def f32_r6 (c : CallF) : RF := rg [0, 1, 5] <| aX 16 (pM 5) <|
 aX 17 (pB .add 3 16 (cn (.int .i64 1))) <|
 aX 5 (pM 17) <|
 aXZ
noncomputable def f32_r7 (c : CallF) : RF := rg [0, 1, 5] <| aX 18 (pM 0) <|
 aX 19 (pM 5) <|
 aX 20 (pI 2 18 19) <|
 aX 21 (pL true 2 20) <|
 aX 22 (pM 1) <|
 aX 23 (pK c false 62 [21, 22]) <|
 aX 1 (pM 23) <|
 aXZ
noncomputable def f32_r8 (c : CallF) : RF := rg [0, 1, 5, 25] <| aX 24 (pM 1) <|
 aX 25 (pB .lss 3 24 (cn (.int .i64 0))) <|
 aXZ
noncomputable def f32_r9 (c : CallF) : RF := rg [4] <| aX 4 (pM (cn (.int .i64 (-1)))) <|
 aXZ
noncomputable def f32_r10 (c : CallF) : RF := rg [4] <| aX 26 (pM 1) <|
 aX 4 (pM 26) <|
 aXZ
noncomputable def f32_l5 (c : CallF) (k : Nat) : St :=
 (bSeq (bSeq (bReg (f32_r5 c))
 (bCond (.tmp 15) (bEx .nrm) (bEx (.ext 0))))
 (bSeq (bBlock 1 (bSeq (bReg (f32_r7 c))
 (bSeq (bReg (f32_r8 c))
 (bCond (.tmp 25) (bSeq (bReg (f32_r9 c))
 (bEx .ret)) (bEx .nrm)))))
 (bReg (f32_r6 c))))
noncomputable def f32 (c : CallF) (k : Nat) : St :=
 (bSeq (bReg (f32_r0 c))
 (bSeq (bReg (f32_r1 c))
 (bSeq (bSeq (bReg (f32_r2 c))
 (bCond (.tmp 11) (bSeq (bReg (f32_r3 c))
 (bEx .ret)) (bEx .nrm)))
 (bSeq (bSeq (bReg (f32_r4 c))
 (bBlock 0 (bLoop [0, 1, 5] (f32_l5 c k) k)))
 (bSeq (bReg (f32_r10 c))
 (bEx .ret))))))
theorem f32_eq (c : CallF) (k : Nat) : exec cx c 27 f32_an k (Try.f32.body.getD .skip) = f32 c k := by kernel_rfl
/-! ### f33: loop.example/g01263/spec.l01Same -/
def f33_an : Ann := ⟨[(0, r0 [0, 1]), (1, r0 [4])], []⟩
noncomputable def f33_r0 (c : CallF) : RF := rg [0, 1] <| aX 4 (pM (cn (.bool false))) <|
 aXZ
noncomputable def f33_r1 (c : CallF) : RF := rgD [4] (aY 5 (pM 0) <|
 aY 6 (pN 5) <|
 aY 7 (pF 0 1 6) <|
 aY 8 (pL false 1 7) <|
 aY 9 (pM 1) <|
 aY 10 (pN 9) <|
 aY 11 (pF 0 1 10) <|
 aY 12 (pL false 1 11) <|
 aY 13 (pB .eql 4 8 12) <|
 aY 14 (pM 13) <|
 aY 15 (pG 14 true (pM 0)) <|
 aY 16 (pG 14 true (pN 15)) <|
 aY 17 (pG 14 true (pF 2 16 16)) <|
 aY 18 (pG 14 true (pL true 16 17)) <|
 aY 19 (pG 14 true (pM 1)) <|
 aY 20 (pG 14 true (pN 19)) <|
 aY 21 (pG 14 true (pF 2 16 20)) <|
 aY 22 (pG 14 true (pL true 16 21)) <|
 aY 23 (pG 14 true (pB .eql 33 18 22)) <|
 aY 24 (pP 14 23 (cn (.bool false))) <|
 aY 25 (pM 24) <|
 aY 26 (pG 25 true (pM 0)) <|
 aY 27 (pG 25 true (pN 26)) <|
 aY 28 (pG 25 true (pF 1 1 27)) <|
 aY 29 (pG 25 true (pL false 1 28)) <|
 aY 30 (pG 25 true (pM 1)) <|
 aY 31 (pG 25 true (pN 30)) <|
 aY 32 (pG 25 true (pF 1 1 31)) <|
 aY 33 (pG 25 true (pL false 1 32)) <|
 aY 34 (pG 25 true (pK c false 63 [29, 33])) <|
 aY 35 (pP 25 34 (cn (.bool false))) <|
 aY 4 (pM 35) <|
 aYZ)
 (aXZ)
noncomputable def f33 (c : CallF) (k : Nat) : St :=
 (bSeq (bReg (f33_r0 c))
 (bSeq (bReg (f33_r1 c))
 (bEx .ret)))
theorem f33_eq (c : CallF) (k : Nat) : exec cx c 36 f33_an k (Try.f33.body.getD .skip) = f33 c k := by kernel_rfl
/-! ### f34: loop.example/g01263/laws.toHalf -/
def f34_an : Ann := ⟨[(0, r0 [1, 2]), (1, r0 [1, 2, 3]), (2, r0 [1, 2, 3]), (3, r0 [1, 2, 3]), (4, r0 [2, 3]), (5, r0 [2])], []⟩
noncomputable def f34_r0 (c : CallF) : RF := rg [1, 2] <| aX 1 (pBox 18 0) <|
 aX 2 (pAl 35 18) <|
 aXZ
noncomputable def f34_r1 (c : CallF) : RF := rg [1, 2, 3] <| aX 3 (pAl 35 18) <|
 aXZ
noncomputable def f34_r2 (c : CallF) : RF := rg [1, 2, 3] <| aX 4 (pF 0 1 1) <|
 aX 5 (pL false 1 4) <|
 aX 6 (pF 0 1 3) <|
 aX0 (pS 1 6 5) <|
 aXZ
noncomputable def f34_r3 (c : CallF) : RF := rg [1, 2, 3] <| aX 7 (pF 1 1 1) <|
 aX 8 (pL false 1 7) <|
 aX 9 (pK c false 64 [8]) <|
 aX 10 (pF 1 1 3) <|
 aX0 (pS 1 10 9) <|
 aXZ
noncomputable def f34_r4 (c : CallF) : RF := rg [2, 3] <| aX 11 (pF 2 16 1) <|
 aX 12 (pL true 16 11) <|
 aX 13 (pK c false 65 [12]) <|
 aX 14 (pF 2 16 3) <|
 aX0 (pS 16 14 13) <|
 aXZ
noncomputable def f34_r5 (c : CallF) : RF := rg [2] <| aX 15 (pL true 18 3) <|
 aX0 (pS 18 2 15) <|
 aXZ
noncomputable def f34 (c : CallF) (k : Nat) : St :=
 (bSeq (bReg (f34_r0 c))
 (bSeq (bReg (f34_r1 c))
 (bSeq (bReg (f34_r2 c))
 (bSeq (bReg (f34_r3 c))
 (bSeq (bReg (f34_r4 c))
 (bSeq (bReg (f34_r5 c))
 (bEx .ret)))))))
theorem f34_eq (c : CallF) (k : Nat) : exec cx c 16 f34_an k (Try.f34.body.getD .skip) = f34 c k := by kernel_rfl
/-! ### f35: loop.example/g01263/laws.toMarkS -/
def f35_an : Ann := ⟨[(0, r0 [0]), (1, r0 [0, 3]), (2, r0 [0, 3, 4]), (3, r0 [0, 3, 4, 11]), (4, r0 [0, 3, 4]), (5, r0 [0, 3, 4]), (6, r0 [2])], [(3, [0, 3, 4])]⟩
noncomputable def f35_r0 (c : CallF) : RF := rg [0] <| aX 2 (pM (cn .nils)) <|
 aXZ
noncomputable def f35_r1 (c : CallF) : RF := rg [0, 3] <| aX 5 (pM 0) <|
 aX 6 (pLen 27 5) <|
 aX 7 (fun n e M => aMakeO n 72 2 24 (zeroOf cx.P 72) (eget e 6) (eget e 6)) <|
 aX 3 (pM 7) <|
 aXZ
noncomputable def f35_r2 (c : CallF) : RF := rg [0, 3, 4] <| aX 4 (pM (cn (.int .i64 0))) <|
 aXZ
noncomputable def f35_r3 (c : CallF) : RF := rg [0, 3, 4, 11] <| aX 8 (pM 4) <|
 aX 9 (pM 0) <|
 aX 10 (pLen 27 9) <|
 aX 11 (pB .lss 3 8 10) <|
 aXZ
noncomputable def f35_r4 (c : CallF) : RF := rg [0, 3, 4] <| aX 12 (pM 4) <|
 aX 13 (pB .add 3 12 (cn (.int .i64 1))) <|
 aX 4 (pM 13) <|
 aXZ
noncomputable def f35_r5 (c : CallF) : RF := rg [0, 3, 4] <| aX 14 (pM 3) <|
 aX 15 (pM 4) <|
 aX 16 (pM 0) <|
 aX 17 (pM 4) <|
 aX 18 (pI 2 16 17) <|
 aX 19 (pL true 2 18) <|
 aX 20 (pK c false 66 [19]) <|
 aX 21 (pI 2 14 15) <|
 aX0 (pS 2 21 20) <|
 aXZ
noncomputable def f35_r6 (c : CallF) : RF := rg [2] <| aX 22 (pM 3) <|
 aX 2 (pM 22) <|
 aXZ
noncomputable def f35_l3 (c : CallF) (k : Nat) : St :=
 (bSeq (bSeq (bReg (f35_r3 c))
 (bCond (.tmp 11) (bEx .nrm) (bEx (.ext 0))))
 (bSeq (bBlock 1 (bReg (f35_r5 c)))
 (bReg (f35_r4 c))))
noncomputable def f35 (c : CallF) (k : Nat) : St :=
 (bSeq (bReg (f35_r0 c))
 (bSeq (bReg (f35_r1 c))
 (bSeq (bSeq (bReg (f35_r2 c))
 (bBlock 0 (bLoop [0, 3, 4] (f35_l3 c k) k)))
 (bSeq (bReg (f35_r6 c))
 (bEx .ret)))))
theorem f35_eq (c : CallF) (k : Nat) : exec cx c 23 f35_an k (Try.f35.body.getD .skip) = f35 c k := by kernel_rfl
/-! ### f36: loop.example/g01263/impl.SameHalf -/
def f36_an : Ann := ⟨[(0, r0 [2, 3]), (1, r0 [4])], []⟩
noncomputable def f36_r0 (c : CallF) : RF := rg [2, 3] <| aX 2 (pBox 18 0) <|
 aX 3 (pBox 18 1) <|
 aX 4 (pM (cn (.bool false))) <|
 aXZ
noncomputable def f36_r1 (c : CallF) : RF := rg [4] <| aX 5 (pF 0 1 2) <|
 aX 6 (pL false 1 5) <|
 aX 7 (pF 0 1 3) <|
 aX 8 (pL false 1 7) <|
 aX 9 (pB .eql 4 6 8) <|
 aX 10 (pM 9) <|
 aX 11 (pG 10 true (pF 2 16 2)) <|
 aX 12 (pG 10 true (pL true 16 11)) <|
 aX 13 (pG 10 true (pF 2 16 3)) <|
 aX 14 (pG 10 true (pL true 16 13)) <|
 aX 15 (pG 10 true (pB .eql 33 12 14)) <|
 aX 16 (pP 10 15 (cn (.bool false))) <|
 aX 17 (pM 16) <|
 aX 18 (pG 17 true (pF 1 1 2)) <|
 aX 19 (pG 17 true (pL false 1 18)) <|
 aX 20 (pG 17 true (pF 1 1 3)) <|
 aX 21 (pG 17 true (pL false 1 20)) <|
 aX 22 (pG 17 true (pK c false 67 [19, 21])) <|
 aX 23 (pP 17 22 (cn (.bool false))) <|
 aX 4 (pM 23) <|
 aXZ
noncomputable def f36 (c : CallF) (k : Nat) : St :=
 (bSeq (bReg (f36_r0 c))
 (bSeq (bReg (f36_r1 c))
 (bEx .ret)))
theorem f36_eq (c : CallF) (k : Nat) : exec cx c 24 f36_an k (Try.f36.body.getD .skip) = f36 c k := by kernel_rfl
/-! ### f38: loop.example/g01263/laws.eqHalf -/
def f38_an : Ann := ⟨[(0, r0 [2, 3]), (1, r0 [2, 3, 9]), (2, r0 [4]), (3, r0 [2, 3, 15]), (4, r0 [4]), (5, r0 [21]), (6, r0 [4]), (7, r0 [4])], []⟩
noncomputable def f38_r0 (c : CallF) : RF := rg [2, 3] <| aX 2 (pBox 18 0) <|
 aX 3 (pBox 18 1) <|
 aX 4 (pM (cn (.bool false))) <|
 aXZ
noncomputable def f38_r1 (c : CallF) : RF := rg [2, 3, 9] <| aX 5 (pF 0 1 2) <|
 aX 6 (pL false 1 5) <|
 aX 7 (pF 0 1 3) <|
 aX 8 (pL false 1 7) <|
 aX 9 (pB .neq 4 6 8) <|
 aXZ
noncomputable def f38_r2 (c : CallF) : RF := rg [4] <| aX 4 (pM (cn (.bool false))) <|
 aXZ
noncomputable def f38_r3 (c : CallF) : RF := rg [2, 3, 15] <| aX 10 (pF 1 1 2) <|
 aX 11 (pL false 1 10) <|
 aX 12 (pF 1 1 3) <|
 aX 13 (pL false 1 12) <|
 aX 14 (pK c false 68 [11, 13]) <|
 aX 15 (pU .not 14) <|
 aXZ
noncomputable def f38_r4 (c : CallF) : RF := rg [4] <| aX 4 (pM (cn (.bool false))) <|
 aXZ
noncomputable def f38_r5 (c : CallF) : RF := rg [21] <| aX 16 (pF 2 16 2) <|
 aX 17 (pL true 16 16) <|
 aX 18 (pF 2 16 3) <|
 aX 19 (pL true 16 18) <|
 aX 20 (pK c false 69 [17, 19]) <|
 aX 21 (pU .not 20) <|
 aXZ
noncomputable def f38_r6 (c : CallF) : RF := rg [4] <| aX 4 (pM (cn (.bool false))) <|
 aXZ
noncomputable def f38_r7 (c : CallF) : RF := rg [4] <| aX 4 (pM (cn (.bool true))) <|
 aXZ
noncomputable def f38 (c : CallF) (k : Nat) : St :=
 (bSeq (bReg (f38_r0 c))
 (bSeq (bSeq (bReg (f38_r1 c))
 (bCond (.tmp 9) (bSeq (bReg (f38_r2 c))
 (bEx .ret)) (bEx .nrm)))
 (bSeq (bSeq (bReg (f38_r3 c))
 (bCond (.tmp 15) (bSeq (bReg (f38_r4 c))
 (bEx .ret)) (bEx .nrm)))
 (bSeq (bSeq (bReg (f38_r5 c))
 (bCond (.tmp 21) (bSeq (bReg (f38_r6 c))
 (bEx .ret)) (bEx .nrm)))
 (bSeq (bReg (f38_r7 c))
 (bEx .ret))))))
theorem f38_eq (c : CallF) (k : Nat) : exec cx c 22 f38_an k (Try.f38.body.getD .skip) = f38 c k := by kernel_rfl
/-! ### f39: loop.example/g01263/laws.eqMarkS -/
def f39_an : Ann := ⟨[(0, r0 [0, 1]), (1, r0 [0, 1, 10]), (2, r0 [4]), (3, r0 [0, 1, 5]), (4, r0 [0, 1, 5, 14]), (5, r0 [0, 1, 5]), (6, r0 [0, 1, 5, 26]), (7, r0 [4]), (8, r0 [4])], [(4, [0, 1, 5])]⟩
noncomputable def f39_r0 (c : CallF) : RF := rg [0, 1] <| aX 4 (pM (cn (.bool false))) <|
 aXZ
noncomputable def f39_r1 (c : CallF) : RF := rg [0, 1, 10] <| aX 6 (pM 0) <|
 aX 7 (pLen 36 6) <|
 aX 8 (pM 1) <|
 aX 9 (pLen 36 8) <|
 aX 10 (pB .neq 3 7 9) <|
 aXZ
noncomputable def f39_r2 (c : CallF) : RF := rg [4] <| aX 4 (pM (cn (.bool false))) <|
 aXZ
noncomputable def f39_r3 (c : CallF) : RF := rg [0, 1, 5] <| aX 5 (pM (cn (.int .i64 0))) <|
 aXZ
noncomputable def f39_r4 (c : CallF) : RF := rg [0, 1, 5, 14] <| aX 11 (pM 5) <|
 aX 12 (pM 0) <|
 aX 13 (pLen 36 12) <|
 aX 14 (pB .lss 3 11 13) <|
 aXZ
noncomputable def f39_r5 (c : CallF) : RF := rg [0, 1, 5] <| aX 15 (pM 5) <|
 aX 16 (pB .add 3 15 (cn (.int .i64 1))) <|
 aX 5 (pM 16) <|
 aXZ
noncomputable def f39_r6 (c : CallF) : RF := rgD [0, 1, 5, 26] (aY 17 (pM 0) <|
 aY 18 (pM 5) <|
 aY 19 (pI 2 17 18) <|
 aY 20 (pL true 2 19) <|
 aY 21 (pM 1) <|
 aY 22 (pM 5) <|
 aY 23 (pI 2 21 22) <|
 aY 24 (pL true 2 23) <|
 aY 25 (pK c false 70 [20, 24]) <|
 aY 26 (pU .not 25) <|
 aYZ)
 (aXZ)
noncomputable def f39_r7 (c : CallF) : RF := rg [4] <| aX 4 (pM (cn (.bool false))) <|
 aXZ
noncomputable def f39_r8 (c : CallF) : RF := rg [4] <| aX 4 (pM (cn (.bool true))) <|
 aXZ
noncomputable def f39_l4 (c : CallF) (k : Nat) : St :=
 (bSeq (bSeq (bReg (f39_r4 c))
 (bCond (.tmp 14) (bEx .nrm) (bEx (.ext 0))))
 (bSeq (bBlock 1 (bSeq (bReg (f39_r6 c))
 (bCond (.tmp 26) (bSeq (bReg (f39_r7 c))
 (bEx .ret)) (bEx .nrm))))
 (bReg (f39_r5 c))))
noncomputable def f39 (c : CallF) (k : Nat) : St :=
 (bSeq (bReg (f39_r0 c))
 (bSeq (bSeq (bReg (f39_r1 c))
 (bCond (.tmp 10) (bSeq (bReg (f39_r2 c))
 (bEx .ret)) (bEx .nrm)))
 (bSeq (bSeq (bReg (f39_r3 c))
 (bBlock 0 (bLoop [0, 1, 5] (f39_l4 c k) k)))
 (bSeq (bReg (f39_r8 c))
 (bEx .ret)))))
theorem f39_eq (c : CallF) (k : Nat) : exec cx c 27 f39_an k (Try.f39.body.getD .skip) = f39 c k := by kernel_rfl
/-! ### f40: loop.example/g01263/spec.l06Ok -/
def f40_an : Ann := ⟨[(0, r0 [0]), (1, r0 [0, 34]), (2, r0 [2]), (3, r0 [0, 3]), (4, r0 [0, 3, 4]), (5, r0 [0, 3, 4, 45]), (6, r0 [0, 3, 4]), (7, r0 [0, 4, 69]), (8, r0 [2]), (9, r0 [0, 3, 4]), (10, r0 [2])], [(5, [0, 3, 4])]⟩
noncomputable def f40_r0 (c : CallF) : RF := rg [0] <| aX 2 (pM (cn (.bool false))) <|
 aXZ
noncomputable def f40_r1 (c : CallF) : RF := rg [0, 34] <| aX 5 (pM 0) <|
 aX 6 (pN 5) <|
 aX 7 (pF 0 1 6) <|
 aX 8 (pL false 1 7) <|
 aX 9 (pK c false 71 [8]) <|
 aX 10 (pU .not 9) <|
 aX 11 (pM 10) <|
 aX 12 (pG 11 false (pM 0)) <|
 aX 13 (pG 11 false (pN 12)) <|
 aX 14 (pG 11 false (pF 1 18 13)) <|
 aX 15 (pG 11 false (pK c false 72 [14])) <|
 aX 16 (pG 11 false (pU .not 15)) <|
 aX 17 (pP 11 (cn (.bool true)) 16) <|
 aX 18 (pM 17) <|
 aX 19 (pG 18 false (pM 0)) <|
 aX 20 (pG 18 false (pN 19)) <|
 aX 21 (pG 18 false (pF 1 18 20)) <|
 aX 22 (pG 18 false (pF 0 1 21)) <|
 aX 23 (pG 18 false (pL false 1 22)) <|
 aX 24 (pG 18 false (pU .not 23)) <|
 aX 25 (pP 18 (cn (.bool true)) 24) <|
 aX 26 (pM 25) <|
 aX 27 (pG 26 false (pM 0)) <|
 aX 28 (pG 26 false (pN 27)) <|
 aX 29 (pG 26 false (pF 19 1 28)) <|
 aX 30 (pG 26 false (pL false 1 29)) <|
 aX 31 (pG 26 false (pLen 36 30)) <|
 aX 32 (pG 26 false (pK c false 73 [31, (cn (.int .i64 1)), (cn (.int .i64 30))])) <|
 aX 33 (pG 26 false (pU .not 32)) <|
 aX 34 (pP 26 (cn (.bool true)) 33) <|
 aXZ
noncomputable def f40_r2 (c : CallF) : RF := rg [2] <| aX 2 (pM (cn (.bool false))) <|
 aXZ
noncomputable def f40_r3 (c : CallF) : RF := rg [0, 3] <| aX 35 (pM 0) <|
 aX 36 (pN 35) <|
 aX 37 (pF 0 1 36) <|
 aX 38 (pL false 1 37) <|
 aX 3 (pM 38) <|
 aXZ
noncomputable def f40_r4 (c : CallF) : RF := rg [0, 3, 4] <| aX 4 (pM (cn (.int .i64 0))) <|
 aXZ
noncomputable def f40_r5 (c : CallF) : RF := rg [0, 3, 4, 45] <| aX 39 (pM 4) <|
 aX 40 (pM 0) <|
 aX 41 (pN 40) <|
 aX 42 (pF 19 1 41) <|
 aX 43 (pL false 1 42) <|
 aX 44 (pLen 36 43) <|
 aX 45 (pB .lss 3 39 44) <|
 aXZ
noncomputable def f40_r6 (c : CallF) : RF := rg [0, 3, 4] <| aX 46 (pM 4) <|
 aX 47 (pB .add 3 46 (cn (.int .i64 1))) <|
 aX 4 (pM 47) <|
 aXZ
noncomputable def f40_r7 (c : CallF) : RF := rg [0, 4, 69] <| aX 48 (pM 0) <|
 aX 49 (pN 48) <|
 aX 50 (pF 19 1 49) <|
 aX 51 (pL false 1 50) <|
 aX 52 (pM 4) <|
 aX 53 (pI 2 51 52) <|
 aX 54 (pF 0 1 53) <|
 aX 55 (pL false 1 54) <|
 aX 56 (pK c false 71 [55]) <|
 aX 57 (pU .not 56) <|
 aX 58 (pM 57) <|
 aX 59 (pG 58 false (pM 0)) <|
 aX 60 (pG 58 false (pN 59)) <|
 aX 61 (pG 58 false (pF 19 1 60)) <|
 aX 62 (pG 58 false (pL false 1 61)) <|
 aX 63 (pG 58 false (pM 4)) <|
 aX 64 (pG 58 false (pI 2 62 63)) <|
 aX 65 (pG 58 false (pF 0 1 64)) <|
 aX 66 (pG 58 false (pL false 1 65)) <|
 aX 67 (pG 58 false (pM 3)) <|
 aX 68 (pG 58 false (pB .eql 9 66 67)) <|
 aX 69 (pP 58 (cn (.bool true)) 68) <|
 aXZ
noncomputable def f40_r8 (c : CallF) : RF := rg [2] <| aX 2 (pM (cn (.bool false))) <|
 aXZ
noncomputable def f40_r9 (c : CallF) : RF := rg [0, 3, 4] <| aX 70 (pM 0) <|
 aX 71 (pN 70) <|
 aX 72 (pF 19 1 71) <|
 aX 73 (pL false 1 72) <|
 aX 74 (pM 4) <|
 aX 75 (pI 2 73 74) <|
 aX 76 (pF 0 1 75) <|
 aX 77 (pL false 1 76) <|
 aX 3 (pM 77) <|
 aXZ
noncomputable def f40_r10 (c : CallF) : RF := rg [2] <| aX 2 (pM (cn (.bool true))) <|
 aXZ
noncomputable def f40_l5 (c : CallF) (k : Nat) : St :=
 (bSeq (bSeq (bReg (f40_r5 c))
 (bCond (.tmp 45) (bEx .nrm) (bEx (.ext 0))))
 (bSeq (bBlock 1 (bSeq (bSeq (bReg (f40_r7 c))
 (bCond (.tmp 69) (bSeq (bReg (f40_r8 c))
 (bEx .ret)) (bEx .nrm)))
 (bReg (f40_r9 c))))
 (bReg (f40_r6 c))))
noncomputable def f40 (c : CallF) (k : Nat) : St :=
 (bSeq (bReg (f40_r0 c))
 (bSeq (bSeq (bReg (f40_r1 c))
 (bCond (.tmp 34) (bSeq (bReg (f40_r2 c))
 (bEx .ret)) (bEx .nrm)))
 (bSeq (bReg (f40_r3 c))
 (bSeq (bSeq (bReg (f40_r4 c))
 (bBlock 0 (bLoop [0, 3, 4] (f40_l5 c k) k)))
 (bSeq (bReg (f40_r10 c))
 (bEx .ret))))))
theorem f40_eq (c : CallF) (k : Nat) : exec cx c 78 f40_an k (Try.f40.body.getD .skip) = f40 c k := by kernel_rfl
/-! ### f41: loop.example/g01263/impl.isName -/
def f41_an : Ann := ⟨[(0, r0 [0]), (1, r0 [2])], []⟩
noncomputable def f41_r0 (c : CallF) : RF := rg [0] <| aX 2 (pM (cn (.bool false))) <|
 aXZ
noncomputable def f41_r1 (c : CallF) : RF := rg [2] <| aX 3 (pM 0) <|
 aX 4 (pK c false 74 [3, (cn (.int .i64 12))]) <|
 aX 2 (pM 4) <|
 aXZ
noncomputable def f41 (c : CallF) (k : Nat) : St :=
 (bSeq (bReg (f41_r0 c))
 (bSeq (bReg (f41_r1 c))
 (bEx .ret)))
theorem f41_eq (c : CallF) (k : Nat) : exec cx c 5 f41_an k (Try.f41.body.getD .skip) = f41 c k := by kernel_rfl
/-! ### f42: loop.example/g01263/impl.ValidHalf -/
def f42_an : Ann := ⟨[(0, r0 [1]), (1, r0 [1, 14]), (2, r0 [2]), (3, r0 [1, 16, 17, 18]), (4, r0 [1, 16, 17, 18, 19]), (5, r0 [1, 3, 4, 16, 17, 18]), (6, r0 [1, 3, 4, 16, 17, 18, 37]), (7, r0 [2]), (8, r0 [1, 16, 17, 18, 64]), (9, r0 [2]), (10, r0 [1, 16, 17, 18]), (11, r0 [2])], [(4, [1, 16, 17, 18])]⟩
noncomputable def f42_r0 (c : CallF) : RF := rg [1] <| aX 1 (pBox 18 0) <|
 aX 2 (pM (cn (.bool false))) <|
 aXZ
noncomputable def f42_r1 (c : CallF) : RF := rg [1, 14] <| aX 5 (pF 1 1 1) <|
 aX 6 (pL false 1 5) <|
 aX 7 (pLen 32 6) <|
 aX 8 (pB .gtr 3 7 (cn (.int .i64 60))) <|
 aX 9 (pM 8) <|
 aX 10 (pG 9 false (pF 2 16 1)) <|
 aX 11 (pG 9 false (pL true 16 10)) <|
 aX 12 (pG 9 false (pK c false 75 [11])) <|
 aX 13 (pG 9 false (pU .not 12)) <|
 aX 14 (pP 9 (cn (.bool true)) 13) <|
 aXZ
noncomputable def f42_r2 (c : CallF) : RF := rg [2] <| aX 2 (pM (cn (.bool false))) <|
 aXZ
noncomputable def f42_r3 (c : CallF) : RF := rg [1, 16, 17, 18] <| aX 15 (pF 1 1 1) <|
 aX 16 (pL false 1 15) <|
 aX 17 (pLen 32 16) <|
 aX 18 (pM (cn (.int .i64 0))) <|
 aXZ
noncomputable def f42_r4 (c : CallF) : RF := rg [1, 16, 17, 18, 19] <| aX 19 (pB .lss 3 18 17) <|
 aXZ
noncomputable def f42_r5 (c : CallF) : RF := rg [1, 3, 4, 16, 17, 18] <| aX 20 (pM 18) <|
 aX 21 (pI 2 16 18) <|
 aX 22 (pL true 2 21) <|
 aX 4 (pAl 115 2) <|
 aX 3 (pM 20) <|
 aX0 (pS 2 4 22) <|
 aXZ
noncomputable def f42_r6 (c : CallF) : RF := rg [1, 3, 4, 16, 17, 18, 37] <| aX 23 (pF 0 1 4) <|
 aX 24 (pL false 1 23) <|
 aX 25 (fun n e M => keep (aConvI .i64 (eget e 24))) <|
 aX 26 (pK c false 76 [25]) <|
 aX 27 (pU .not 26) <|
 aX 28 (pM 27) <|
 aX 29 (pG 28 false (pF 1 1 4)) <|
 aX 30 (pG 28 false (pL false 1 29)) <|
 aX 31 (pG 28 false (pB .lss 113 30 (cn (.int .i16 0)))) <|
 aX 32 (pP 28 (cn (.bool true)) 31) <|
 aX 33 (pM 32) <|
 aX 34 (pG 33 false (pL true 2 4)) <|
 aX 35 (pG 33 false (pK c false 77 [34])) <|
 aX 36 (pG 33 false (pB .gtr 2 35 (cn (.int .i64 200)))) <|
 aX 37 (pP 33 (cn (.bool true)) 36) <|
 aXZ
noncomputable def f42_r7 (c : CallF) : RF := rg [2] <| aX 2 (pM (cn (.bool false))) <|
 aXZ
noncomputable def f42_r8 (c : CallF) : RF := rgD [1, 16, 17, 18, 64] (aY 38 (pM 3) <|
 aY 39 (pB .gtr 3 38 (cn (.int .i64 0))) <|
 aY 40 (pM 39) <|
 aY 41 (pG 40 true (pF 1 1 4)) <|
 aY 42 (pG 40 true (pL false 1 41)) <|
 aY 43 (pG 40 true (fun n e M => keep (aConvI .i64 (eget e 42)))) <|
 aY 44 (pG 40 true (pF 1 1 1)) <|
 aY 45 (pG 40 true (pL false 1 44)) <|
 aY 46 (pG 40 true (pM 3)) <|
 aY 47 (pG 40 true (pB .sub 3 46 (cn (.int .i64 1)))) <|
 aY 48 (pG 40 true (pI 2 45 47)) <|
 aY 49 (pG 40 true (pL true 2 48)) <|
 aY 50 (pG 40 true (pK c false 77 [49])) <|
 aY 51 (pG 40 true (pB .leq 2 43 50)) <|
 aY 52 (pG 40 true (pM 51)) <|
 aY 53 (pG 52 false (pF 0 1 4)) <|
 aY 54 (pG 52 false (pL false 1 53)) <|
 aY 55 (pG 52 false (pF 1 1 1)) <|
 aY 56 (pG 52 false (pL false 1 55)) <|
 aY 57 (pG 52 false (pM 3)) <|
 aY 58 (pG 52 false (pB .sub 3 57 (cn (.int .i64 1)))) <|
 aY 59 (pG 52 false (pI 2 56 58)) <|
 aY 60 (pG 52 false (pF 0 1 59)) <|
 aY 61 (pG 52 false (pL false 1 60)) <|
 aY 62 (pG 52 false (pB .gtr 23 54 61)) <|
 aY 63 (pG 40 true (pP 52 (cn (.bool true)) 62)) <|
 aY 64 (pP 40 63 (cn (.bool false))) <|
 aYZ)
 (aXZ)
noncomputable def f42_r9 (c : CallF) : RF := rg [2] <| aX 2 (pM (cn (.bool false))) <|
 aXZ
noncomputable def f42_r10 (c : CallF) : RF := rg [1, 16, 17, 18] <| aX 65 (pB .add 3 18 (cn (.int .i64 1))) <|
 aX 18 (pM 65) <|
 aXZ
noncomputable def f42_r11 (c : CallF) : RF := rg [2] <| aX 2 (pM (cn (.bool true))) <|
 aXZ
noncomputable def f42_l4 (c : CallF) (k : Nat) : St :=
 (bSeq (bReg (f42_r4 c))
 (bSeq (bCond (.tmp 19) (bEx .nrm) (bEx (.ext 0)))
 (bSeq (bBlock 1 (bSeq (bReg (f42_r5 c))
 (bSeq (bSeq (bReg (f42_r6 c))
 (bCond (.tmp 37) (bSeq (bReg (f42_r7 c))
 (bEx .ret)) (bEx .nrm)))
 (bSeq (bReg (f42_r8 c))
 (bCond (.tmp 64) (bSeq (bReg (f42_r9 c))
 (bEx .ret)) (bEx .nrm))))))
 (bReg (f42_r10 c)))))
noncomputable def f42 (c : CallF) (k : Nat) : St :=
 (bSeq (bReg (f42_r0 c))
 (bSeq (bSeq (bReg (f42_r1 c))
 (bCond (.tmp 14) (bSeq (bReg (f42_r2 c))
 (bEx .ret)) (bEx .nrm)))
 (bSeq (bSeq (bReg (f42_r3 c))
 (bBlock 0 (bLoop [1, 16, 17, 18] (f42_l4 c k) k)))
 (bSeq (bReg (f42_r11 c))
 (bEx .ret)))))
theorem f42_eq (c : CallF) (k : Nat) : exec cx c 66 f42_an k (Try.f42.body.getD .skip) = f42 c k := by kernel_rfl
/-! ### f45: loop.example/g01263/spec.l06Common -/
def f45_an : Ann := ⟨[(0, r0 [0, 1]), (1, r0 [0, 1, 14]), (2, r0 [4, 5]), (3, r0 [0, 1, 33]), (4, r0 [4, 5]), (5, r0 [0, 1, 6]), (6, r0 [0, 1, 6, 66]), (7, r0 [0, 1, 6]), (8, r0 [4, 5])], [(6, [0, 1, 6])]⟩
noncomputable def f45_r0 (c : CallF) : RF := rg [0, 1] <| aX 4 (pM (cn (.int .i64 0))) <|
 aX 5 (pM (cn (.int .i64 0))) <|
 aXZ
noncomputable def f45_r1 (c : CallF) : RF := rg [0, 1, 14] <| aX 7 (pM 0) <|
 aX 8 (pK c false 40 [7]) <|
 aX 9 (pU .not 8) <|
 aX 10 (pM 9) <|
 aX 11 (pG 10 false (pM 1)) <|
 aX 12 (pG 10 false (pK c false 40 [11])) <|
 aX 13 (pG 10 false (pU .not 12)) <|
 aX 14 (pP 10 (cn (.bool true)) 13) <|
 aXZ
noncomputable def f45_r2 (c : CallF) : RF := rg [4, 5] <| aX 4 (pM (cn (.int .i64 0))) <|
 aX 5 (pM (cn (.int .i64 1))) <|
 aXZ
noncomputable def f45_r3 (c : CallF) : RF := rgD [0, 1, 33] (aY 15 (pM 0) <|
 aY 16 (pN 15) <|
 aY 17 (pF 0 1 16) <|
 aY 18 (pL false 1 17) <|
 aY 19 (pM 1) <|
 aY 20 (pN 19) <|
 aY 21 (pF 0 1 20) <|
 aY 22 (pL false 1 21) <|
 aY 23 (pB .neq 9 18 22) <|
 aY 24 (pM 23) <|
 aY 25 (pG 24 false (pM 0)) <|
 aY 26 (pG 24 false (pN 25)) <|
 aY 27 (pG 24 false (pF 1 18 26)) <|
 aY 28 (pG 24 false (pM 1)) <|
 aY 29 (pG 24 false (pN 28)) <|
 aY 30 (pG 24 false (pF 1 18 29)) <|
 aY 31 (pG 24 false (pK c false 33 [27, 30])) <|
 aY 32 (pG 24 false (pU .not 31)) <|
 aY 33 (pP 24 (cn (.bool true)) 32) <|
 aYZ)
 (aXZ)
noncomputable def f45_r4 (c : CallF) : RF := rg [4, 5] <| aX 4 (pM (cn (.int .i64 0))) <|
 aX 5 (pM (cn (.int .i64 4))) <|
 aXZ
noncomputable def f45_r5 (c : CallF) : RF := rg [0, 1, 6] <| aX 6 (pM (cn (.int .i64 0))) <|
 aXZ
noncomputable def f45_r6 (c : CallF) : RF := rgD [0, 1, 6, 66] (aY 34 (pM 6) <|
 aY 35 (pM 0) <|
 aY 36 (pN 35) <|
 aY 37 (pF 19 1 36) <|
 aY 38 (pL false 1 37) <|
 aY 39 (pLen 36 38) <|
 aY 40 (pB .lss 3 34 39) <|
 aY 41 (pM 40) <|
 aY 42 (pG 41 true (pM 6)) <|
 aY 43 (pG 41 true (pM 1)) <|
 aY 44 (pG 41 true (pN 43)) <|
 aY 45 (pG 41 true (pF 19 1 44)) <|
 aY 46 (pG 41 true (pL false 1 45)) <|
 aY 47 (pG 41 true (pLen 36 46)) <|
 aY 48 (pG 41 true (pB .lss 3 42 47)) <|
 aY 49 (pP 41 48 (cn (.bool false))) <|
 aY 50 (pM 49) <|
 aY 51 (pG 50 true (pM 0)) <|
 aY 52 (pG 50 true (pN 51)) <|
 aY 53 (pG 50 true (pF 19 1 52)) <|
 aY 54 (pG 50 true (pL false 1 53)) <|
 aY 55 (pG 50 true (pM 6)) <|
 aY 56 (pG 50 true (pI 2 54 55)) <|
 aY 57 (pG 50 true (pL true 2 56)) <|
 aY 58 (pG 50 true (pM 1)) <|
 aY 59 (pG 50 true (pN 58)) <|
 aY 60 (pG 50 true (pF 19 1 59)) <|
 aY 61 (pG 50 true (pL false 1 60)) <|
 aY 62 (pG 50 true (pM 6)) <|
 aY 63 (pG 50 true (pI 2 61 62)) <|
 aY 64 (pG 50 true (pL true 2 63)) <|
 aY 65 (pG 50 true (pB .eql 72 57 64)) <|
 aY 66 (pP 50 65 (cn (.bool false))) <|
 aYZ)
 (aXZ)
noncomputable def f45_r7 (c : CallF) : RF := rg [0, 1, 6] <| aX 67 (pM 6) <|
 aX 68 (pB .add 3 67 (cn (.int .i64 1))) <|
 aX 6 (pM 68) <|
 aXZ
noncomputable def f45_r8 (c : CallF) : RF := rg [4, 5] <| aX 69 (pM 6) <|
 aX 4 (pM 69) <|
 aX 5 (pM (cn (.int .i64 0))) <|
 aXZ
noncomputable def f45_l6 (c : CallF) (k : Nat) : St :=
 (bSeq (bSeq (bReg (f45_r6 c))
 (bCond (.tmp 66) (bEx .nrm) (bEx (.ext 0))))
 (bBlock 1 (bReg (f45_r7 c))))
noncomputable def f45 (c : CallF) (k : Nat) : St :=
 (bSeq (bReg (f45_r0 c))
 (bSeq (bSeq (bReg (f45_r1 c))
 (bCond (.tmp 14) (bSeq (bReg (f45_r2 c))
 (bEx .ret)) (bEx .nrm)))
 (bSeq (bSeq (bReg (f45_r3 c))
 (bCond (.tmp 33) (bSeq (bReg (f45_r4 c))
 (bEx .ret)) (bEx .nrm)))
 (bSeq (bReg (f45_r5 c))
 (bSeq (bBlock 0 (bLoop [0, 1, 6] (f45_l6 c k) k))
 (bSeq (bReg (f45_r8 c))
 (bEx .ret)))))))
theorem f45_eq (c : CallF) (k : Nat) : exec cx c 70 f45_an k (Try.f45.body.getD .skip) = f45 c k := by kernel_rfl
/-! ### f46: loop.example/g01263/impl.common -/
def f46_an : Ann := ⟨[(0, r0 [2, 3]), (1, r0 [2, 3, 5]), (2, r0 [2, 3, 5, 30]), (3, r0 [2, 3, 5]), (4, r0 [4])], [(2, [2, 3, 5])]⟩
noncomputable def f46_r0 (c : CallF) : RF := rg [2, 3] <| aX 2 (pBox 20 0) <|
 aX 3 (pBox 20 1) <|
 aX 4 (pM (cn (.int .i64 0))) <|
 aXZ
noncomputable def f46_r1 (c : CallF) : RF := rg [2, 3, 5] <| aX 5 (pM (cn (.int .i64 0))) <|
 aXZ
noncomputable def f46_r2 (c : CallF) : RF := rgD [2, 3, 5, 30] (aY 6 (pM 5) <|
 aY 7 (pF 19 1 2) <|
 aY 8 (pL false 1 7) <|
 aY 9 (pLen 36 8) <|
 aY 10 (pB .lss 3 6 9) <|
 aY 11 (pM 10) <|
 aY 12 (pG 11 true (pM 5)) <|
 aY 13 (pG 11 true (pF 19 1 3)) <|
 aY 14 (pG 11 true (pL false 1 13)) <|
 aY 15 (pG 11 true (pLen 36 14)) <|
 aY 16 (pG 11 true (pB .lss 3 12 15)) <|
 aY 17 (pP 11 16 (cn (.bool false))) <|
 aY 18 (pM 17) <|
 aY 19 (pG 18 true (pF 19 1 2)) <|
 aY 20 (pG 18 true (pL false 1 19)) <|
 aY 21 (pG 18 true (pM 5)) <|
 aY 22 (pG 18 true (pI 2 20 21)) <|
 aY 23 (pG 18 true (pL true 2 22)) <|
 aY 24 (pG 18 true (pF 19 1 3)) <|
 aY 25 (pG 18 true (pL false 1 24)) <|
 aY 26 (pG 18 true (pM 5)) <|
 aY 27 (pG 18 true (pI 2 25 26)) <|
 aY 28 (pG 18 true (pL true 2 27)) <|
 aY 29 (pG 18 true (pB .eql 72 23 28)) <|
 aY 30 (pP 18 29 (cn (.bool false))) <|
 aYZ)
 (aXZ)
noncomputable def f46_r3 (c : CallF) : RF := rg [2, 3, 5] <| aX 31 (pM 5) <|
 aX 32 (pB .add 3 31 (cn (.int .i64 1))) <|
 aX 5 (pM 32) <|
 aXZ
noncomputable def f46_r4 (c : CallF) : RF := rg [4] <| aX 33 (pM 5) <|
 aX 4 (pM 33) <|
 aXZ
noncomputable def f46_l2 (c : CallF) (k : Nat) : St :=
 (bSeq (bSeq (bReg (f46_r2 c))
 (bCond (.tmp 30) (bEx .nrm) (bEx (.ext 0))))
 (bBlock 1 (bReg (f46_r3 c))))
noncomputable def f46 (c : CallF) (k : Nat) : St :=
 (bSeq (bReg (f46_r0 c))
 (bSeq (bReg (f46_r1 c))
 (bSeq (bBlock 0 (bLoop [2, 3, 5] (f46_l2 c k) k))
 (bSeq (bReg (f46_r4 c))
 (bEx .ret)))))
theorem f46_eq (c : CallF) (k : Nat) : exec cx c 34 f46_an k (Try.f46.body.getD .skip) = f46 c k := by kernel_rfl
/-! ### f61: loop.example/g01263/laws.szNotchS -/
def f61_an : Ann := ⟨[(0, r0 [0, 1]), (1, r0 [1]), (2, r0 [1, 10]), (3, r0 [4]), (4, r0 [4])], []⟩
noncomputable def f61_r0 (c : CallF) : RF := rg [0, 1] <| aX 4 (pM (cn (.int .i64 0))) <|
 aXZ
noncomputable def f61_r1 (c : CallF) : RF := rg [1] <| aX 5 (pM 1) <|
 aX 6 (pM 0) <|
 aX 7 (pLen 22 6) <|
 aX 8 (pB .sub 3 5 7) <|
 aX 1 (pM 8) <|
 aXZ
noncomputable def f61_r2 (c : CallF) : RF := rg [1, 10] <| aX 9 (pM 1) <|
 aX 10 (pB .lss 3 9 (cn (.int .i64 0))) <|
 aXZ
noncomputable def f61_r3 (c : CallF) : RF := rg [4] <| aX 4 (pM (cn (.int .i64 (-1)))) <|
 aXZ
noncomputable def f61_r4 (c : CallF) : RF := rg [4] <| aX 11 (pM 1) <|
 aX 4 (pM 11) <|
 aXZ
noncomputable def f61 (c : CallF) (k : Nat) : St :=
 (bSeq (bReg (f61_r0 c))
 (bSeq (bReg (f61_r1 c))
 (bSeq (bSeq (bReg (f61_r2 c))
 (bCond (.tmp 10) (bSeq (bReg (f61_r3 c))
 (bEx .ret)) (bEx .nrm)))
 (bSeq (bReg (f61_r4 c))
 (bEx .ret)))))
theorem f61_eq (c : CallF) (k : Nat) : exec cx c 12 f61_an k (Try.f61.body.getD .skip) = f61 c k := by kernel_rfl
/-! ### f62: loop.example/g01263/laws.szMark -/
def f62_an : Ann := ⟨[(0, r0 [1, 2]), (1, r0 [1]), (2, r0 [1, 11]), (3, r0 [4]), (4, r0 [4])], []⟩
noncomputable def f62_r0 (c : CallF) : RF := rg [1, 2] <| aX 2 (pBox 2 0) <|
 aX 4 (pM (cn (.int .i64 0))) <|
 aXZ
noncomputable def f62_r1 (c : CallF) : RF := rg [1] <| aX 5 (pM 1) <|
 aX 6 (pF 0 1 2) <|
 aX 7 (pL false 1 6) <|
 aX 8 (pLen 9 7) <|
 aX 9 (pB .sub 3 5 8) <|
 aX 1 (pM 9) <|
 aXZ
noncomputable def f62_r2 (c : CallF) : RF := rg [1, 11] <| aX 10 (pM 1) <|
 aX 11 (pB .lss 3 10 (cn (.int .i64 0))) <|
 aXZ
noncomputable def f62_r3 (c : CallF) : RF := rg [4] <| aX 4 (pM (cn (.int .i64 (-1)))) <|
 aXZ
noncomputable def f62_r4 (c : CallF) : RF := rg [4] <| aX 12 (pM 1) <|
 aX 4 (pM 12) <|
 aXZ
noncomputable def f62 (c : CallF) (k : Nat) : St :=
 (bSeq (bReg (f62_r0 c))
 (bSeq (bReg (f62_r1 c))
 (bSeq (bSeq (bReg (f62_r2 c))
 (bCond (.tmp 11) (bSeq (bReg (f62_r3 c))
 (bEx .ret)) (bEx .nrm)))
 (bSeq (bReg (f62_r4 c))
 (bEx .ret)))))
theorem f62_eq (c : CallF) (k : Nat) : exec cx c 13 f62_an k (Try.f62.body.getD .skip) = f62 c k := by kernel_rfl
/-! ### f63: loop.example/g01263/spec.l01SameNotches -/
def f63_an : Ann := ⟨[(0, r0 [0, 1]), (1, r0 [0, 1, 10]), (2, r0 [4]), (3, r0 [0, 1, 5]), (4, r0 [0, 1, 5, 14]), (5, r0 [0, 1, 5]), (6, r0 [0, 1, 5, 25]), (7, r0 [4]), (8, r0 [4])], [(4, [0, 1, 5])]⟩
noncomputable def f63_r0 (c : CallF) : RF := rg [0, 1] <| aX 4 (pM (cn (.bool false))) <|
 aXZ
noncomputable def f63_r1 (c : CallF) : RF := rg [0, 1, 10] <| aX 6 (pM 0) <|
 aX 7 (pLen 32 6) <|
 aX 8 (pM 1) <|
 aX 9 (pLen 32 8) <|
 aX 10 (pB .neq 3 7 9) <|
 aXZ
noncomputable def f63_r2 (c : CallF) : RF := rg [4] <| aX 4 (pM (cn (.bool false))) <|
 aXZ
noncomputable def f63_r3 (c : CallF) : RF := rg [0, 1, 5] <| aX 5 (pM (cn (.int .i64 0))) <|
 aXZ
noncomputable def f63_r4 (c : CallF) : RF := rg [0, 1, 5, 14] <| aX 11 (pM 5) <|
 aX 12 (pM 0) <|
 aX 13 (pLen 32 12) <|
 aX 14 (pB .lss 3 11 13) <|
 aXZ
noncomputable def f63_r5 (c : CallF) : RF := rg [0, 1, 5] <| aX 15 (pM 5) <|
 aX 16 (pB .add 3 15 (cn (.int .i64 1))) <|
 aX 5 (pM 16) <|
 aXZ
noncomputable def f63_r6 (c : CallF) : RF := rgD [0, 1, 5, 25] (aY 17 (pM 0) <|
 aY 18 (pM 5) <|
 aY 19 (pI 2 17 18) <|
 aY 20 (pL true 2 19) <|
 aY 21 (pM 1) <|
 aY 22 (pM 5) <|
 aY 23 (pI 2 21 22) <|
 aY 24 (pL true 2 23) <|
 aY 25 (pB .neq 115 20 24) <|
 aYZ)
 (aXZ)
noncomputable def f63_r7 (c : CallF) : RF := rg [4] <| aX 4 (pM (cn (.bool false))) <|
 aXZ
noncomputable def f63_r8 (c : CallF) : RF := rg [4] <| aX 4 (pM (cn (.bool true))) <|
 aXZ
noncomputable def f63_l4 (c : CallF) (k : Nat) : St :=
 (bSeq (bSeq (bReg (f63_r4 c))
 (bCond (.tmp 14) (bEx .nrm) (bEx (.ext 0))))
 (bSeq (bBlock 1 (bSeq (bReg (f63_r6 c))
 (bCond (.tmp 25) (bSeq (bReg (f63_r7 c))
 (bEx .ret)) (bEx .nrm))))
 (bReg (f63_r5 c))))
noncomputable def f63 (c : CallF) (k : Nat) : St :=
 (bSeq (bReg (f63_r0 c))
 (bSeq (bSeq (bReg (f63_r1 c))
 (bCond (.tmp 10) (bSeq (bReg (f63_r2 c))
 (bEx .ret)) (bEx .nrm)))
 (bSeq (bSeq (bReg (f63_r3 c))
 (bBlock 0 (bLoop [0, 1, 5] (f63_l4 c k) k)))
 (bSeq (bReg (f63_r8 c))
 (bEx .ret)))))
theorem f63_eq (c : CallF) (k : Nat) : exec cx c 26 f63_an k (Try.f63.body.getD .skip) = f63 c k := by kernel_rfl
/-! ### f64: loop.example/g01263/laws.toNotchS -/
def f64_an : Ann := ⟨[(0, r0 [0]), (1, r0 [0, 3]), (2, r0 [0, 3, 4]), (3, r0 [0, 3, 4, 11]), (4, r0 [0, 3, 4]), (5, r0 [0, 3, 4]), (6, r0 [2])], [(3, [0, 3, 4])]⟩
noncomputable def f64_r0 (c : CallF) : RF := rg [0] <| aX 2 (pM (cn .nils)) <|
 aXZ
noncomputable def f64_r1 (c : CallF) : RF := rg [0, 3] <| aX 5 (pM 0) <|
 aX 6 (pLen 22 5) <|
 aX 7 (fun n e M => aMakeO n 115 2 4 (zeroOf cx.P 115) (eget e 6) (eget e 6)) <|
 aX 3 (pM 7) <|
 aXZ
noncomputable def f64_r2 (c : CallF) : RF := rg [0, 3, 4] <| aX 4 (pM (cn (.int .i64 0))) <|
 aXZ
noncomputable def f64_r3 (c : CallF) : RF := rg [0, 3, 4, 11] <| aX 8 (pM 4) <|
 aX 9 (pM 0) <|
 aX 10 (pLen 22 9) <|
 aX 11 (pB .lss 3 8 10) <|
 aXZ
noncomputable def f64_r4 (c : CallF) : RF := rg [0, 3, 4] <| aX 12 (pM 4) <|
 aX 13 (pB .add 3 12 (cn (.int .i64 1))) <|
 aX 4 (pM 13) <|
 aXZ
noncomputable def f64_r5 (c : CallF) : RF := rg [0, 3, 4] <| aX 14 (pM 3) <|
 aX 15 (pM 4) <|
 aX 16 (pM 0) <|
 aX 17 (pM 4) <|
 aX 18 (pI 2 16 17) <|
 aX 19 (pL true 2 18) <|
 aX 20 (pK c false 89 [19]) <|
 aX 21 (pI 2 14 15) <|
 aX0 (pS 2 21 20) <|
 aXZ
noncomputable def f64_r6 (c : CallF) : RF := rg [2] <| aX 22 (pM 3) <|
 aX 2 (pM 22) <|
 aXZ
noncomputable def f64_l3 (c : CallF) (k : Nat) : St :=
 (bSeq (bSeq (bReg (f64_r3 c))
 (bCond (.tmp 11) (bEx .nrm) (bEx (.ext 0))))
 (bSeq (bBlock 1 (bReg (f64_r5 c)))
 (bReg (f64_r4 c))))
noncomputable def f64 (c : CallF) (k : Nat) : St :=
 (bSeq (bReg (f64_r0 c))
 (bSeq (bReg (f64_r1 c))
 (bSeq (bSeq (bReg (f64_r2 c))
 (bBlock 0 (bLoop [0, 3, 4] (f64_l3 c k) k)))
 (bSeq (bReg (f64_r6 c))
 (bEx .ret)))))
theorem f64_eq (c : CallF) (k : Nat) : exec cx c 23 f64_an k (Try.f64.body.getD .skip) = f64 c k := by kernel_rfl
/-! ### f65: loop.example/g01263/laws.toGrain -/
def f65_an : Ann := ⟨[(0, r0 [1, 2]), (1, r0 [1, 2, 3]), (2, r0 [1, 2, 3, 4]), (3, r0 [1, 2, 3, 4, 6]), (4, r0 [1, 2, 3, 4]), (5, r0 [1, 2, 3, 4]), (6, r0 [2])], [(3, [1, 2, 3, 4])]⟩
noncomputable def f65_r0 (c : CallF) : RF := rg [1, 2] <| aX 1 (pBox 16 0) <|
 aX 2 (pAl 33 16) <|
 aXZ
noncomputable def f65_r1 (c : CallF) : RF := rg [1, 2, 3] <| aX 3 (pAl 33 16) <|
 aXZ
noncomputable def f65_r2 (c : CallF) : RF := rg [1, 2, 3, 4] <| aX 4 (pM (cn (.int .i64 0))) <|
 aXZ
noncomputable def f65_r3 (c : CallF) : RF := rg [1, 2, 3, 4, 6] <| aX 5 (pM 4) <|
 aX 6 (pB .lss 3 5 (cn (.int .i64 16))) <|
 aXZ
noncomputable def f65_r4 (c : CallF) : RF := rg [1, 2, 3, 4] <| aX 7 (pM 4) <|
 aX 8 (pB .add 3 7 (cn (.int .i64 1))) <|
 aX 4 (pM 8) <|
 aXZ
noncomputable def f65_r5 (c : CallF) : RF := rg [1, 2, 3, 4] <| aX 9 (pM 4) <|
 aX 10 (pM 4) <|
 aX 11 (fun n e M => keep (aIndexP 16 1 (eget e 1) (eget e 10) M)) <|
 aX 12 (pL false 1 11) <|
 aX 13 (fun n e M => keep (aIndexP 16 1 (eget e 3) (eget e 9) M)) <|
 aX0 (pS 1 13 12) <|
 aXZ
noncomputable def f65_r6 (c : CallF) : RF := rg [2] <| aX 14 (pL true 16 3) <|
 aX0 (pS 16 2 14) <|
 aXZ
noncomputable def f65_l3 (c : CallF) (k : Nat) : St :=
 (bSeq (bSeq (bReg (f65_r3 c))
 (bCond (.tmp 6) (bEx .nrm) (bEx (.ext 0))))
 (bSeq (bBlock 1 (bReg (f65_r5 c)))
 (bReg (f65_r4 c))))
noncomputable def f65 (c : CallF) (k : Nat) : St :=
 (bSeq (bReg (f65_r0 c))
 (bSeq (bReg (f65_r1 c))
 (bSeq (bSeq (bReg (f65_r2 c))
 (bBlock 0 (bLoop [1, 2, 3, 4] (f65_l3 c k) k)))
 (bSeq (bReg (f65_r6 c))
 (bEx .ret)))))
theorem f65_eq (c : CallF) (k : Nat) : exec cx c 15 f65_an k (Try.f65.body.getD .skip) = f65 c k := by kernel_rfl
/-! ### f66: loop.example/g01263/laws.toMark -/
def f66_an : Ann := ⟨[(0, r0 [1, 2]), (1, r0 [1, 2, 3]), (2, r0 [1, 2, 3]), (3, r0 [2, 3]), (4, r0 [2])], []⟩
noncomputable def f66_r0 (c : CallF) : RF := rg [1, 2] <| aX 1 (pBox 2 0) <|
 aX 2 (pAl 72 2) <|
 aXZ
noncomputable def f66_r1 (c : CallF) : RF := rg [1, 2, 3] <| aX 3 (pAl 72 2) <|
 aXZ
noncomputable def f66_r2 (c : CallF) : RF := rg [1, 2, 3] <| aX 4 (pF 0 1 1) <|
 aX 5 (pL false 1 4) <|
 aX 6 (pF 0 1 3) <|
 aX0 (pS 1 6 5) <|
 aXZ
noncomputable def f66_r3 (c : CallF) : RF := rg [2, 3] <| aX 7 (pF 1 1 1) <|
 aX 8 (pL false 1 7) <|
 aX 9 (pF 1 1 3) <|
 aX0 (pS 1 9 8) <|
 aXZ
noncomputable def f66_r4 (c : CallF) : RF := rg [2] <| aX 10 (pL true 2 3) <|
 aX0 (pS 2 2 10) <|
 aXZ
noncomputable def f66 (c : CallF) (k : Nat) : St :=
 (bSeq (bReg (f66_r0 c))
 (bSeq (bReg (f66_r1 c))
 (bSeq (bReg (f66_r2 c))
 (bSeq (bReg (f66_r3 c))
 (bSeq (bReg (f66_r4 c))
 (bEx .ret))))))
theorem f66_eq (c : CallF) (k : Nat) : exec cx c 11 f66_an k (Try.f66.body.getD .skip) = f66 c k := by kernel_rfl
/-! ### f67: slices.Equal[[]loop.example/g01263/impl.Notch,loop.example/g01263/impl.Notch] -/
def f67_an : Ann := ⟨[(0, r0 [0, 1]), (1, r0 [0, 1, 10]), (2, r0 [4]), (3, r0 [0, 1, 12, 13]), (4, r0 [0, 1, 12, 13, 14]), (5, r0 [0, 1, 5, 12, 13]), (6, r0 [0, 1, 12, 13, 24]), (7, r0 [4]), (8, r0 [0, 1, 12, 13]), (9, r0 [4])], [(4, [0, 1, 12, 13])]⟩
noncomputable def f67_r0 (c : CallF) : RF := rg [0, 1] <| aX 4 (pM (cn (.bool false))) <|
 aXZ
noncomputable def f67_r1 (c : CallF) : RF := rg [0, 1, 10] <| aX 6 (pM 0) <|
 aX 7 (pLen 32 6) <|
 aX 8 (pM 1) <|
 aX 9 (pLen 32 8) <|
 aX 10 (pB .neq 3 7 9) <|
 aXZ
noncomputable def f67_r2 (c : CallF) : RF := rg [4] <| aX 4 (pM (cn (.bool false))) <|
 aXZ
noncomputable def f67_r3 (c : CallF) : RF := rg [0, 1, 12, 13] <| aX 11 (pM 0) <|
 aX 12 (pLen 32 11) <|
 aX 13 (pM (cn (.int .i64 0))) <|
 aXZ
noncomputable def f67_r4 (c : CallF) : RF := rg [0, 1, 12, 13, 14] <| aX 14 (pB .lss 3 13 12) <|
 aXZ
noncomputable def f67_r5 (c : CallF) : RF := rg [0, 1, 5, 12, 13] <| aX 15 (pM 13) <|
 aX 5 (pM 15) <|
 aXZ
noncomputable def f67_r6 (c : CallF) : RF := rgD [0, 1, 12, 13, 24] (aY 16 (pM 0) <|
 aY 17 (pM 5) <|
 aY 18 (pI 2 16 17) <|
 aY 19 (pL true 2 18) <|
 aY 20 (pM 1) <|
 aY 21 (pM 5) <|
 aY 22 (pI 2 20 21) <|
 aY 23 (pL true 2 22) <|
 aY 24 (pB .neq 115 19 23) <|
 aYZ)
 (aXZ)
noncomputable def f67_r7 (c : CallF) : RF := rg [4] <| aX 4 (pM (cn (.bool false))) <|
 aXZ
noncomputable def f67_r8 (c : CallF) : RF := rg [0, 1, 12, 13] <| aX 25 (pB .add 3 13 (cn (.int .i64 1))) <|
 aX 13 (pM 25) <|
 aXZ
noncomputable def f67_r9 (c : CallF) : RF := rg [4] <| aX 4 (pM (cn (.bool true))) <|
 aXZ
noncomputable def f67_l4 (c : CallF) (k : Nat) : St :=
 (bSeq (bReg (f67_r4 c))
 (bSeq (bCond (.tmp 14) (bEx .nrm) (bEx (.ext 0)))
 (bSeq (bBlock 1 (bSeq (bReg (f67_r5 c))
 (bSeq (bReg (f67_r6 c))
 (bCond (.tmp 24) (bSeq (bReg (f67_r7 c))
 (bEx .ret)) (bEx .nrm)))))
 (bReg (f67_r8 c)))))
noncomputable def f67 (c : CallF) (k : Nat) : St :=
 (bSeq (bReg (f67_r0 c))
 (bSeq (bSeq (bReg (f67_r1 c))
 (bCond (.tmp 10) (bSeq (bReg (f67_r2 c))
 (bEx .ret)) (bEx .nrm)))
 (bSeq (bSeq (bReg (f67_r3 c))
 (bBlock 0 (bLoop [0, 1, 12, 13] (f67_l4 c k) k)))
 (bSeq (bReg (f67_r9 c))
 (bEx .ret)))))
theorem f67_eq (c : CallF) (k : Nat) : exec cx c 26 f67_an k (Try.f67.body.getD .skip) = f67 c k := by kernel_rfl
/-! ### f68: loop.example/g01263/laws.eqNotchS -/
def f68_an : Ann := ⟨[(0, r0 [0, 1]), (1, r0 [0, 1, 10]), (2, r0 [4]), (3, r0 [0, 1, 5]), (4, r0 [0, 1, 5, 14]), (5, r0 [0, 1, 5]), (6, r0 [0, 1, 5, 26]), (7, r0 [4]), (8, r0 [4])], [(4, [0, 1, 5])]⟩
noncomputable def f68_r0 (c : CallF) : RF := rg [0, 1] <| aX 4 (pM (cn (.bool false))) <|
 aXZ
noncomputable def f68_r1 (c : CallF) : RF := rg [0, 1, 10] <| aX 6 (pM 0) <|
 aX 7 (pLen 32 6) <|
 aX 8 (pM 1) <|
 aX 9 (pLen 32 8) <|
 aX 10 (pB .neq 3 7 9) <|
 aXZ
noncomputable def f68_r2 (c : CallF) : RF := rg [4] <| aX 4 (pM (cn (.bool false))) <|
 aXZ
noncomputable def f68_r3 (c : CallF) : RF := rg [0, 1, 5] <| aX 5 (pM (cn (.int .i64 0))) <|
 aXZ
noncomputable def f68_r4 (c : CallF) : RF := rg [0, 1, 5, 14] <| aX 11 (pM 5) <|
 aX 12 (pM 0) <|
 aX 13 (pLen 32 12) <|
 aX 14 (pB .lss 3 11 13) <|
 aXZ
noncomputable def f68_r5 (c : CallF) : RF := rg [0, 1, 5] <| aX 15 (pM 5) <|
 aX 16 (pB .add 3 15 (cn (.int .i64 1))) <|
 aX 5 (pM 16) <|
 aXZ
noncomputable def f68_r6 (c : CallF) : RF := rgD [0, 1, 5, 26] (aY 17 (pM 0) <|
 aY 18 (pM 5) <|
 aY 19 (pI 2 17 18) <|
 aY 20 (pL true 2 19) <|
 aY 21 (pM 1) <|
 aY 22 (pM 5) <|
 aY 23 (pI 2 21 22) <|
 aY 24 (pL true 2 23) <|
 aY 25 (pK c false 90 [20, 24]) <|
 aY 26 (pU .not 25) <|
 aYZ)
 (aXZ)
noncomputable def f68_r7 (c : CallF) : RF := rg [4] <| aX 4 (pM (cn (.bool false))) <|
 aXZ
noncomputable def f68_r8 (c : CallF) : RF := rg [4] <| aX 4 (pM (cn (.bool true))) <|
 aXZ
noncomputable def f68_l4 (c : CallF) (k : Nat) : St :=
 (bSeq (bSeq (bReg (f68_r4 c))
 (bCond (.tmp 14) (bEx .nrm) (bEx (.ext 0))))
 (bSeq (bBlock 1 (bSeq (bReg (f68_r6 c))
 (bCond (.tmp 26) (bSeq (bReg (f68_r7 c))
 (bEx .ret)) (bEx .nrm))))
 (bReg (f68_r5 c))))
noncomputable def f68 (c : CallF) (k : Nat) : St :=
 (bSeq (bReg (f68_r0 c))
 (bSeq (bSeq (bReg (f68_r1 c))
 (bCond (.tmp 10) (bSeq (bReg (f68_r2 c))
 (bEx .ret)) (bEx .nrm)))
 (bSeq (bSeq (bReg (f68_r3 c))
 (bBlock 0 (bLoop [0, 1, 5] (f68_l4 c k) k)))
 (bSeq (bReg (f68_r8 c))
 (bEx .ret)))))
theorem f68_eq (c : CallF) (k : Nat) : exec cx c 27 f68_an k (Try.f68.body.getD .skip) = f68 c k := by kernel_rfl
/-! ### f69: loop.example/g01263/laws.eqGrain -/
def f69_an : Ann := ⟨[(0, r0 [2, 3]), (1, r0 [2, 3, 5]), (2, r0 [2, 3, 5, 7]), (3, r0 [2, 3, 5]), (4, r0 [2, 3, 5, 16]), (5, r0 [4]), (6, r0 [4])], [(2, [2, 3, 5])]⟩
noncomputable def f69_r0 (c : CallF) : RF := rg [2, 3] <| aX 2 (pBox 16 0) <|
 aX 3 (pBox 16 1) <|
 aX 4 (pM (cn (.bool false))) <|
 aXZ
noncomputable def f69_r1 (c : CallF) : RF := rg [2, 3, 5] <| aX 5 (pM (cn (.int .i64 0))) <|
 aXZ
noncomputable def f69_r2 (c : CallF) : RF := rg [2, 3, 5, 7] <| aX 6 (pM 5) <|
 aX 7 (pB .lss 3 6 (cn (.int .i64 16))) <|
 aXZ
noncomputable def f69_r3 (c : CallF) : RF := rg [2, 3, 5] <| aX 8 (pM 5) <|
 aX 9 (pB .add 3 8 (cn (.int .i64 1))) <|
 aX 5 (pM 9) <|
 aXZ
noncomputable def f69_r4 (c : CallF) : RF := rgD [2, 3, 5, 16] (aY 10 (pM 5) <|
 aY 11 (fun n e M => keep (aIndexP 16 1 (eget e 2) (eget e 10) M)) <|
 aY 12 (pL false 1 11) <|
 aY 13 (pM 5) <|
 aY 14 (fun n e M => keep (aIndexP 16 1 (eget e 3) (eget e 13) M)) <|
 aY 15 (pL false 1 14) <|
 aY 16 (pB .neq 23 12 15) <|
 aYZ)
 (aXZ)
noncomputable def f69_r5 (c : CallF) : RF := rg [4] <| aX 4 (pM (cn (.bool false))) <|
 aXZ
noncomputable def f69_r6 (c : CallF) : RF := rg [4] <| aX 4 (pM (cn (.bool true))) <|
 aXZ
noncomputable def f69_l2 (c : CallF) (k : Nat) : St :=
 (bSeq (bSeq (bReg (f69_r2 c))
 (bCond (.tmp 7) (bEx .nrm) (bEx (.ext 0))))
 (bSeq (bBlock 1 (bSeq (bReg (f69_r4 c))
 (bCond (.tmp 16) (bSeq (bReg (f69_r5 c))
 (bEx .ret)) (bEx .nrm))))
 (bReg (f69_r3 c))))
noncomputable def f69 (c : CallF) (k : Nat) : St :=
 (bSeq (bReg (f69_r0 c))
 (bSeq (bSeq (bReg (f69_r1 c))
 (bBlock 0 (bLoop [2, 3, 5] (f69_l2 c k) k)))
 (bSeq (bReg (f69_r6 c))
 (bEx .ret))))
theorem f69_eq (c : CallF) (k : Nat) : exec cx c 17 f69_an k (Try.f69.body.getD .skip) = f69 c k := by kernel_rfl
/-! ### f70: loop.example/g01263/laws.eqMark -/
def f70_an : Ann := ⟨[(0, r0 [2, 3]), (1, r0 [2, 3, 9]), (2, r0 [4]), (3, r0 [14]), (4, r0 [4]), (5, r0 [4])], []⟩
noncomputable def f70_r0 (c : CallF) : RF := rg [2, 3] <| aX 2 (pBox 2 0) <|
 aX 3 (pBox 2 1) <|
 aX 4 (pM (cn (.bool false))) <|
 aXZ
noncomputable def f70_r1 (c : CallF) : RF := rg [2, 3, 9] <| aX 5 (pF 0 1 2) <|
 aX 6 (pL false 1 5) <|
 aX 7 (pF 0 1 3) <|
 aX 8 (pL false 1 7) <|
 aX 9 (pB .neq 9 6 8) <|
 aXZ
noncomputable def f70_r2 (c : CallF) : RF := rg [4] <| aX 4 (pM (cn (.bool false))) <|
 aXZ
noncomputable def f70_r3 (c : CallF) : RF := rg [14] <| aX 10 (pF 1 1 2) <|
 aX 11 (pL false 1 10) <|
 aX 12 (pF 1 1 3) <|
 aX 13 (pL false 1 12) <|
 aX 14 (pB .neq 70 11 13) <|
 aXZ
noncomputable def f70_r4 (c : CallF) : RF := rg [4] <| aX 4 (pM (cn (.bool false))) <|
 aXZ
noncomputable def f70_r5 (c : CallF) : RF := rg [4] <| aX 4 (pM (cn (.bool true))) <|
 aXZ
noncomputable def f70 (c : CallF) (k : Nat) : St :=
 (bSeq (bReg (f70_r0 c))
 (bSeq (bSeq (bReg (f70_r1 c))
 (bCond (.tmp 9) (bSeq (bReg (f70_r2 c))
 (bEx .ret)) (bEx .nrm)))
 (bSeq (bSeq (bReg (f70_r3 c))
 (bCond (.tmp 14) (bSeq (bReg (f70_r4 c))
 (bEx .ret)) (bEx .nrm)))
 (bSeq (bReg (f70_r5 c))
 (bEx .ret)))))
theorem f70_eq (c : CallF) (k : Nat) : exec cx c 15 f70_an k (Try.f70.body.getD .skip) = f70 c k := by kernel_rfl
/-! ### f71: loop.example/g01263/spec.l06Name -/
def f71_an : Ann := ⟨[(0, r0 [0]), (1, r0 [0, 3]), (2, r0 [0, 3, 7]), (3, r0 [0, 3]), (4, r0 [0, 3, 19]), (5, r0 [2]), (6, r0 [2])], [(2, [0, 3])]⟩
noncomputable def f71_r0 (c : CallF) : RF := rg [0] <| aX 2 (pM (cn (.bool false))) <|
 aXZ
noncomputable def f71_r1 (c : CallF) : RF := rg [0, 3] <| aX 3 (pM (cn (.int .i64 0))) <|
 aXZ
noncomputable def f71_r2 (c : CallF) : RF := rg [0, 3, 7] <| aX 4 (pM 3) <|
 aX 5 (pM 0) <|
 aX 6 (pLen 9 5) <|
 aX 7 (pB .lss 3 4 6) <|
 aXZ
noncomputable def f71_r3 (c : CallF) : RF := rg [0, 3] <| aX 8 (pM 3) <|
 aX 9 (pB .add 3 8 (cn (.int .i64 1))) <|
 aX 3 (pM 9) <|
 aXZ
noncomputable def f71_r4 (c : CallF) : RF := rg [0, 3, 19] <| aX 10 (pM 0) <|
 aX 11 (pM 3) <|
 aX 12 (fun n e M => keep (aIndexB (eget e 10) (eget e 11))) <|
 aX 13 (pB .lss 5 12 (cn (.int .u8 97))) <|
 aX 14 (pM 13) <|
 aX 15 (pG 14 false (pM 0)) <|
 aX 16 (pG 14 false (pM 3)) <|
 aX 17 (pG 14 false (fun n e M => keep (aIndexB (eget e 15) (eget e 16)))) <|
 aX 18 (pG 14 false (pB .gtr 5 17 (cn (.int .u8 122)))) <|
 aX 19 (pP 14 (cn (.bool true)) 18) <|
 aXZ
noncomputable def f71_r5 (c : CallF) : RF := rg [2] <| aX 2 (pM (cn (.bool false))) <|
 aXZ
noncomputable def f71_r6 (c : CallF) : RF := rg [2] <| aX 20 (pM 0) <|
 aX 21 (pB .neq 9 20 (cn (.str []))) <|
 aX 22 (pM 21) <|
 aX 23 (pG 22 true (pM 0)) <|
 aX 24 (pG 22 true (pLen 9 23)) <|
 aX 25 (pG 22 true (pB .leq 3 24 (cn (.int .i64 12)))) <|
 aX 26 (pP 22 25 (cn (.bool false))) <|
 aX 2 (pM 26) <|
 aXZ
noncomputable def f71_l2 (c : CallF) (k : Nat) : St :=
 (bSeq (bSeq (bReg (f71_r2 c))
 (bCond (.tmp 7) (bEx .nrm) (bEx (.ext 0))))
 (bSeq (bBlock 1 (bSeq (bReg (f71_r4 c))
 (bCond (.tmp 19) (bSeq (bReg (f71_r5 c))
 (bEx .ret)) (bEx .nrm))))
 (bReg (f71_r3 c))))
noncomputable def f71 (c : CallF) (k : Nat) : St :=
 (bSeq (bReg (f71_r0 c))
 (bSeq (bSeq (bReg (f71_r1 c))
 (bBlock 0 (bLoop [0, 3] (f71_l2 c k) k)))
 (bSeq (bReg (f71_r6 c))
 (bEx .ret))))
theorem f71_eq (c : CallF) (k : Nat) : exec cx c 27 f71_an k (Try.f71.body.getD .skip) = f71 c k := by kernel_rfl
/-! ### f72: loop.example/g01263/spec.l01Ok -/
def f72_an : Ann := ⟨[(0, r0 [0]), (1, r0 [2])], []⟩
noncomputable def f72_r0 (c : CallF) : RF := rg [0] <| aX 2 (pM (cn (.bool false))) <|
 aXZ
noncomputable def f72_r1 (c : CallF) : RF := rg [2] <| aX 3 (pM 0) <|
 aX 4 (pN 3) <|
 aX 5 (pF 1 1 4) <|
 aX 6 (pL false 1 5) <|
 aX 7 (pK c false 91 [6]) <|
 aX 8 (pM 7) <|
 aX 9 (pG 8 true (pM 0)) <|
 aX 10 (pG 8 true (pN 9)) <|
 aX 11 (pG 8 true (pF 2 16 10)) <|
 aX 12 (pG 8 true (pL true 16 11)) <|
 aX 13 (pG 8 true (pK c false 92 [12])) <|
 aX 14 (pP 8 13 (cn (.bool false))) <|
 aX 2 (pM 14) <|
 aXZ
noncomputable def f72 (c : CallF) (k : Nat) : St :=
 (bSeq (bReg (f72_r0 c))
 (bSeq (bReg (f72_r1 c))
 (bEx .ret)))
theorem f72_eq (c : CallF) (k : Nat) : exec cx c 15 f72_an k (Try.f72.body.getD .skip) = f72 c k := by kernel_rfl
/-! ### f73: loop.example/g01263/spec.l00In -/
def f73_an : Ann := ⟨[(0, r0 [0, 1, 2]), (1, r0 [6])], []⟩
noncomputable def f73_r0 (c : CallF) : RF := rg [0, 1, 2] <| aX 6 (pM (cn (.bool false))) <|
 aXZ
noncomputable def f73_r1 (c : CallF) : RF := rg [6] <| aX 7 (pM 0) <|
 aX 8 (pM 1) <|
 aX 9 (pB .geq 2 7 8) <|
 aX 10 (pM 9) <|
 aX 11 (pG 10 true (pM 0)) <|
 aX 12 (pG 10 true (pM 2)) <|
 aX 13 (pG 10 true (pB .leq 2 11 12)) <|
 aX 14 (pP 10 13 (cn (.bool false))) <|
 aX 6 (pM 14) <|
 aXZ
noncomputable def f73 (c : CallF) (k : Nat) : St :=
 (bSeq (bReg (f73_r0 c))
 (bSeq (bReg (f73_r1 c))
 (bEx .ret)))
theorem f73_eq (c : CallF) (k : Nat) : exec cx c 15 f73_an k (Try.f73.body.getD .skip) = f73 c k := by kernel_rfl
/-! ### f74: loop.example/g01263/impl.isLetters -/
def f74_an : Ann := ⟨[(0, r0 [0, 1]), (1, r0 [0, 1, 7, 8]), (2, r0 [0, 1, 7, 8, 9]), (3, r0 [0, 1, 5, 7, 8]), (4, r0 [0, 1, 7, 8, 20]), (5, r0 [4]), (6, r0 [0, 1, 7, 8]), (7, r0 [4])], [(2, [0, 1, 7, 8])]⟩
noncomputable def f74_r0 (c : CallF) : RF := rg [0, 1] <| aX 4 (pM (cn (.bool false))) <|
 aXZ
noncomputable def f74_r1 (c : CallF) : RF := rg [0, 1, 7, 8] <| aX 6 (pM 0) <|
 aX 7 (pLen 9 6) <|
 aX 8 (pM (cn (.int .i64 0))) <|
 aXZ
noncomputable def f74_r2 (c : CallF) : RF := rg [0, 1, 7, 8, 9] <| aX 9 (pB .lss 3 8 7) <|
 aXZ
noncomputable def f74_r3 (c : CallF) : RF := rg [0, 1, 5, 7, 8] <| aX 10 (pM 8) <|
 aX 5 (pM 10) <|
 aXZ
noncomputable def f74_r4 (c : CallF) : RF := rg [0, 1, 7, 8, 20] <| aX 11 (pM 0) <|
 aX 12 (pM 5) <|
 aX 13 (fun n e M => keep (aIndexB (eget e 11) (eget e 12))) <|
 aX 14 (pB .lss 5 13 (cn (.int .u8 97))) <|
 aX 15 (pM 14) <|
 aX 16 (pG 15 false (pM 0)) <|
 aX 17 (pG 15 false (pM 5)) <|
 aX 18 (pG 15 false (fun n e M => keep (aIndexB (eget e 16) (eget e 17)))) <|
 aX 19 (pG 15 false (pB .gtr 5 18 (cn (.int .u8 122)))) <|
 aX 20 (pP 15 (cn (.bool true)) 19) <|
 aXZ
noncomputable def f74_r5 (c : CallF) : RF := rg [4] <| aX 4 (pM (cn (.bool false))) <|
 aXZ
noncomputable def f74_r6 (c : CallF) : RF := rg [0, 1, 7, 8] <| aX 21 (pB .add 3 8 (cn (.int .i64 1))) <|
 aX 8 (pM 21) <|
 aXZ
noncomputable def f74_r7 (c : CallF) : RF := rg [4] <| aX 22 (pM 0) <|
 aX 23 (pLen 9 22) <|
 aX 24 (pB .geq 3 23 (cn (.int .i64 1))) <|
 aX 25 (pM 24) <|
 aX 26 (pG 25 true (pM 0)) <|
 aX 27 (pG 25 true (pLen 9 26)) <|
 aX 28 (pG 25 true (pM 1)) <|
 aX 29 (pG 25 true (pB .leq 3 27 28)) <|
 aX 30 (pP 25 29 (cn (.bool false))) <|
 aX 4 (pM 30) <|
 aXZ
noncomputable def f74_l2 (c : CallF) (k : Nat) : St :=
 (bSeq (bReg (f74_r2 c))
 (bSeq (bCond (.tmp 9) (bEx .nrm) (bEx (.ext 0)))
 (bSeq (bBlock 1 (bSeq (bReg (f74_r3 c))
 (bSeq (bReg (f74_r4 c))
 (bCond (.tmp 20) (bSeq (bReg (f74_r5 c))
 (bEx .ret)) (bEx .nrm)))))
 (bReg (f74_r6 c)))))
noncomputable def f74 (c : CallF) (k : Nat) : St :=
 (bSeq (bReg (f74_r0 c))
 (bSeq (bSeq (bReg (f74_r1 c))
 (bBlock 0 (bLoop [0, 1, 7, 8] (f74_l2 c k) k)))
 (bSeq (bReg (f74_r7 c))
 (bEx .ret))))
theorem f74_eq (c : CallF) (k : Nat) : exec cx c 31 f74_an k (Try.f74.body.getD .skip) = f74 c k := by kernel_rfl
/-! ### f75: loop.example/g01263/impl.ValidGrain -/
def f75_an : Ann := ⟨[(0, r0 [1]), (1, r0 [5, 6]), (2, r0 [5, 6, 7]), (3, r0 [4, 5, 6]), (4, r0 [5, 6, 14]), (5, r0 [2]), (6, r0 [5, 6]), (7, r0 [2])], [(2, [5, 6])]⟩
noncomputable def f75_r0 (c : CallF) : RF := rg [1] <| aX 1 (pBox 16 0) <|
 aX 2 (pM (cn (.bool false))) <|
 aXZ
noncomputable def f75_r1 (c : CallF) : RF := rg [5, 6] <| aX 5 (pL true 16 1) <|
 aX 6 (pM (cn (.int .i64 0))) <|
 aXZ
noncomputable def f75_r2 (c : CallF) : RF := rg [5, 6, 7] <| aX 7 (pB .lss 3 6 (cn (.int .i64 16))) <|
 aXZ
noncomputable def f75_r3 (c : CallF) : RF := rg [4, 5, 6] <| aX 8 (fun n e M => keep (aIndexA false 16 1 (eget e 5) (eget e 6))) <|
 aX 4 (pM 8) <|
 aXZ
noncomputable def f75_r4 (c : CallF) : RF := rg [5, 6, 14] <| aX 9 (pM 4) <|
 aX 10 (pB .lss 23 9 (cn (.int .i8 (-3)))) <|
 aX 11 (pM 10) <|
 aX 12 (pG 11 false (pM 4)) <|
 aX 13 (pG 11 false (pB .gtr 23 12 (cn (.int .i8 3)))) <|
 aX 14 (pP 11 (cn (.bool true)) 13) <|
 aXZ
noncomputable def f75_r5 (c : CallF) : RF := rg [2] <| aX 2 (pM (cn (.bool false))) <|
 aXZ
noncomputable def f75_r6 (c : CallF) : RF := rg [5, 6] <| aX 15 (pB .add 3 6 (cn (.int .i64 1))) <|
 aX 6 (pM 15) <|
 aXZ
noncomputable def f75_r7 (c : CallF) : RF := rg [2] <| aX 2 (pM (cn (.bool true))) <|
 aXZ
noncomputable def f75_l2 (c : CallF) (k : Nat) : St :=
 (bSeq (bReg (f75_r2 c))
 (bSeq (bCond (.tmp 7) (bEx .nrm) (bEx (.ext 0)))
 (bSeq (bBlock 1 (bSeq (bReg (f75_r3 c))
 (bSeq (bReg (f75_r4 c))
 (bCond (.tmp 14) (bSeq (bReg (f75_r5 c))
 (bEx .ret)) (bEx .nrm)))))
 (bReg (f75_r6 c)))))
noncomputable def f75 (c : CallF) (k : Nat) : St :=
 (bSeq (bReg (f75_r0 c))
 (bSeq (bSeq (bReg (f75_r1 c))
 (bBlock 0 (bLoop [5, 6] (f75_l2 c k) k)))
 (bSeq (bReg (f75_r7 c))
 (bEx .ret))))
theorem f75_eq (c : CallF) (k : Nat) : exec cx c 16 f75_an k (Try.f75.body.getD .skip) = f75 c k := by kernel_rfl
/-! ### f76: loop.example/g01263/impl.isKind -/
def f76_an : Ann := ⟨[(0, r0 [0]), (1, r0 [2])], []⟩
noncomputable def f76_r0 (c : CallF) : RF := rg [0] <| aX 2 (pM (cn (.bool false))) <|
 aXZ
noncomputable def f76_r1 (c : CallF) : RF := rg [2] <| aX 3 (pM 0) <|
 aX 4 (pB .geq 2 3 (cn (.int .i64 0))) <|
 aX 5 (pM 4) <|
 aX 6 (pG 5 true (pM 0)) <|
 aX 7 (pG 5 true (pB .leq 2 6 (cn (.int .i64 5)))) <|
 aX 8 (pP 5 7 (cn (.bool false))) <|
 aX 2 (pM 8) <|
 aXZ
noncomputable def f76 (c : CallF) (k : Nat) : St :=
 (bSeq (bReg (f76_r0 c))
 (bSeq (bReg (f76_r1 c))
 (bEx .ret)))
theorem f76_eq (c : CallF) (k : Nat) : exec cx c 9 f76_an k (Try.f76.body.getD .skip) = f76 c k := by kernel_rfl
/-! ### f77: (loop.example/g01263/impl.Notch).end -/
def f77_an : Ann := ⟨[(0, r0 [1]), (1, r0 [2])], []⟩
noncomputable def f77_r0 (c : CallF) : RF := rg [1] <| aX 1 (pBox 2 0) <|
 aX 2 (pM (cn (.int .i64 0))) <|
 aXZ
noncomputable def f77_r1 (c : CallF) : RF := rgD [2] (aY 3 (pF 1 1 1) <|
 aY 4 (pL false 1 3) <|
 aY 5 (fun n e M => keep (aConvI .i64 (eget e 4))) <|
 aY 6 (pF 0 1 1) <|
 aY 7 (pL false 1 6) <|
 aY 8 (fun n e M => keep (aConvI .i64 (eget e 7))) <|
 aY 9 (pK c false 93 [8]) <|
 aY 10 (pB .add 2 5 9) <|
 aY 2 (pM 10) <|
 aYZ)
 (aXZ)
noncomputable def f77 (c : CallF) (k : Nat) : St :=
 (bSeq (bReg (f77_r0 c))
 (bSeq (bReg (f77_r1 c))
 (bEx .ret)))
theorem f77_eq (c : CallF) (k : Nat) : exec cx c 11 f77_an k (Try.f77.body.getD .skip) = f77 c k := by kernel_rfl
/-! ### f89: loop.example/g01263/laws.toNotch -/
def f89_an : Ann := ⟨[(0, r0 [1, 2]), (1, r0 [1, 2, 3]), (2, r0 [1, 2, 3]), (3, r0 [2, 3]), (4, r0 [2])], []⟩
noncomputable def f89_r0 (c : CallF) : RF := rg [1, 2] <| aX 1 (pBox 2 0) <|
 aX 2 (pAl 115 2) <|
 aXZ
noncomputable def f89_r1 (c : CallF) : RF := rg [1, 2, 3] <| aX 3 (pAl 115 2) <|
 aXZ
noncomputable def f89_r2 (c : CallF) : RF := rg [1, 2, 3] <| aX 4 (pF 0 1 1) <|
 aX 5 (pL false 1 4) <|
 aX 6 (pF 0 1 3) <|
 aX0 (pS 1 6 5) <|
 aXZ
noncomputable def f89_r3 (c : CallF) : RF := rg [2, 3] <| aX 7 (pF 1 1 1) <|
 aX 8 (pL false 1 7) <|
 aX 9 (pF 1 1 3) <|
 aX0 (pS 1 9 8) <|
 aXZ
noncomputable def f89_r4 (c : CallF) : RF := rg [2] <| aX 10 (pL true 2 3) <|
 aX0 (pS 2 2 10) <|
 aXZ
noncomputable def f89 (c : CallF) (k : Nat) : St :=
 (bSeq (bReg (f89_r0 c))
 (bSeq (bReg (f89_r1 c))
 (bSeq (bReg (f89_r2 c))
 (bSeq (bReg (f89_r3 c))
 (bSeq (bReg (f89_r4 c))
 (bEx .ret))))))
theorem f89_eq (c : CallF) (k : Nat) : exec cx c 11 f89_an k (Try.f89.body.getD .skip) = f89 c k := by kernel_rfl
/-! ### f90: loop.example/g01263/laws.eqNotch -/
def f90_an : Ann := ⟨[(0, r0 [2, 3]), (1, r0 [2, 3, 9]), (2, r0 [4]), (3, r0 [14]), (4, r0 [4]), (5, r0 [4])], []⟩
noncomputable def f90_r0 (c : CallF) : RF := rg [2, 3] <| aX 2 (pBox 2 0) <|
 aX 3 (pBox 2 1) <|
 aX 4 (pM (cn (.bool false))) <|
 aXZ
noncomputable def f90_r1 (c : CallF) : RF := rg [2, 3, 9] <| aX 5 (pF 0 1 2) <|
 aX 6 (pL false 1 5) <|
 aX 7 (pF 0 1 3) <|
 aX 8 (pL false 1 7) <|
 aX 9 (pB .neq 23 6 8) <|
 aXZ
noncomputable def f90_r2 (c : CallF) : RF := rg [4] <| aX 4 (pM (cn (.bool false))) <|
 aXZ
noncomputable def f90_r3 (c : CallF) : RF := rg [14] <| aX 10 (pF 1 1 2) <|
 aX 11 (pL false 1 10) <|
 aX 12 (pF 1 1 3) <|
 aX 13 (pL false 1 12) <|
 aX 14 (pB .neq 113 11 13) <|
 aXZ
noncomputable def f90_r4 (c : CallF) : RF := rg [4] <| aX 4 (pM (cn (.bool false))) <|
 aXZ
noncomputable def f90_r5 (c : CallF) : RF := rg [4] <| aX 4 (pM (cn (.bool true))) <|
 aXZ
noncomputable def f90 (c : CallF) (k : Nat) : St :=
 (bSeq (bReg (f90_r0 c))
 (bSeq (bSeq (bReg (f90_r1 c))
 (bCond (.tmp 9) (bSeq (bReg (f90_r2 c))
 (bEx .ret)) (bEx .nrm)))
 (bSeq (bSeq (bReg (f90_r3 c))
 (bCond (.tmp 14) (bSeq (bReg (f90_r4 c))
 (bEx .ret)) (bEx .nrm)))
 (bSeq (bReg (f90_r5 c))
 (bEx .ret)))))
theorem f90_eq (c : CallF) (k : Nat) : exec cx c 15 f90_an k (Try.f90.body.getD .skip) = f90 c k := by kernel_rfl
/-! ### f91: loop.example/g01263/spec.l01Notches -/
def f91_an : Ann := ⟨[(0, r0 [0]), (1, r0 [0, 7]), (2, r0 [2]), (3, r0 [0, 3]), (4, r0 [0, 3, 11]), (5, r0 [0, 3]), (6, r0 [0, 3, 4]), (7, r0 [0, 3, 4, 32]), (8, r0 [2]), (9, r0 [0, 3, 57]), (10, r0 [2]), (11, r0 [2])], [(4, [0, 3])]⟩
noncomputable def f91_r0 (c : CallF) : RF := rg [0] <| aX 2 (pM (cn (.bool false))) <|
 aXZ
noncomputable def f91_r1 (c : CallF) : RF := rg [0, 7] <| aX 5 (pM 0) <|
 aX 6 (pLen 32 5) <|
 aX 7 (pB .gtr 3 6 (cn (.int .i64 60))) <|
 aXZ
noncomputable def f91_r2 (c : CallF) : RF := rg [2] <| aX 2 (pM (cn (.bool false))) <|
 aXZ
noncomputable def f91_r3 (c : CallF) : RF := rg [0, 3] <| aX 3 (pM (cn (.int .i64 0))) <|
 aXZ
noncomputable def f91_r4 (c : CallF) : RF := rg [0, 3, 11] <| aX 8 (pM 3) <|
 aX 9 (pM 0) <|
 aX 10 (pLen 32 9) <|
 aX 11 (pB .lss 3 8 10) <|
 aXZ
noncomputable def f91_r5 (c : CallF) : RF := rg [0, 3] <| aX 12 (pM 3) <|
 aX 13 (pB .add 3 12 (cn (.int .i64 1))) <|
 aX 3 (pM 13) <|
 aXZ
noncomputable def f91_r6 (c : CallF) : RF := rg [0, 3, 4] <| aX 14 (pM 0) <|
 aX 15 (pM 3) <|
 aX 16 (pI 2 14 15) <|
 aX 17 (pL true 2 16) <|
 aX 4 (pAl 115 2) <|
 aX0 (pS 2 4 17) <|
 aXZ
noncomputable def f91_r7 (c : CallF) : RF := rg [0, 3, 4, 32] <| aX 18 (pF 0 1 4) <|
 aX 19 (pL false 1 18) <|
 aX 20 (fun n e M => keep (aConvI .i64 (eget e 19))) <|
 aX 21 (pK c false 95 [20]) <|
 aX 22 (pU .not 21) <|
 aX 23 (pM 22) <|
 aX 24 (pG 23 false (pF 1 1 4)) <|
 aX 25 (pG 23 false (pL false 1 24)) <|
 aX 26 (pG 23 false (pB .lss 113 25 (cn (.int .i16 0)))) <|
 aX 27 (pP 23 (cn (.bool true)) 26) <|
 aX 28 (pM 27) <|
 aX 29 (pG 28 false (pL true 2 4)) <|
 aX 30 (pG 28 false (pK c false 96 [29])) <|
 aX 31 (pG 28 false (pB .gtr 2 30 (cn (.int .i64 200)))) <|
 aX 32 (pP 28 (cn (.bool true)) 31) <|
 aXZ
noncomputable def f91_r8 (c : CallF) : RF := rg [2] <| aX 2 (pM (cn (.bool false))) <|
 aXZ
noncomputable def f91_r9 (c : CallF) : RF := rgD [0, 3, 57] (aY 33 (pM 3) <|
 aY 34 (pB .gtr 3 33 (cn (.int .i64 0))) <|
 aY 35 (pM 34) <|
 aY 36 (pG 35 true (pF 0 1 4)) <|
 aY 37 (pG 35 true (pL false 1 36)) <|
 aY 38 (pG 35 true (pM 0)) <|
 aY 39 (pG 35 true (pM 3)) <|
 aY 40 (pG 35 true (pB .sub 3 39 (cn (.int .i64 1)))) <|
 aY 41 (pG 35 true (pI 2 38 40)) <|
 aY 42 (pG 35 true (pF 0 1 41)) <|
 aY 43 (pG 35 true (pL false 1 42)) <|
 aY 44 (pG 35 true (pB .gtr 23 37 43)) <|
 aY 45 (pG 35 true (pM 44)) <|
 aY 46 (pG 45 false (pF 1 1 4)) <|
 aY 47 (pG 45 false (pL false 1 46)) <|
 aY 48 (pG 45 false (fun n e M => keep (aConvI .i64 (eget e 47)))) <|
 aY 49 (pG 45 false (pM 0)) <|
 aY 50 (pG 45 false (pM 3)) <|
 aY 51 (pG 45 false (pB .sub 3 50 (cn (.int .i64 1)))) <|
 aY 52 (pG 45 false (pI 2 49 51)) <|
 aY 53 (pG 45 false (pL true 2 52)) <|
 aY 54 (pG 45 false (pK c false 96 [53])) <|
 aY 55 (pG 45 false (pB .leq 2 48 54)) <|
 aY 56 (pG 35 true (pP 45 (cn (.bool true)) 55)) <|
 aY 57 (pP 35 56 (cn (.bool false))) <|
 aYZ)
 (aXZ)
noncomputable def f91_r10 (c : CallF) : RF := rg [2] <| aX 2 (pM (cn (.bool false))) <|
 aXZ
noncomputable def f91_r11 (c : CallF) : RF := rg [2] <| aX 2 (pM (cn (.bool true))) <|
 aXZ
noncomputable def f91_l4 (c : CallF) (k : Nat) : St :=
 (bSeq (bSeq (bReg (f91_r4 c))
 (bCond (.tmp 11) (bEx .nrm) (bEx (.ext 0))))
 (bSeq (bBlock 1 (bSeq (bReg (f91_r6 c))
 (bSeq (bSeq (bReg (f91_r7 c))
 (bCond (.tmp 32) (bSeq (bReg (f91_r8 c))
 (bEx .ret)) (bEx .nrm)))
 (bSeq (bReg (f91_r9 c))
 (bCond (.tmp 57) (bSeq (bReg (f91_r10 c))
 (bEx .ret)) (bEx .nrm))))))
 (bReg (f91_r5 c))))
noncomputable def f91 (c : CallF) (k : Nat) : St :=
 (bSeq (bReg (f91_r0 c))
 (bSeq (bSeq (bReg (f91_r1 c))
 (bCond (.tmp 7) (bSeq (bReg (f91_r2 c))
 (bEx .ret)) (bEx .nrm)))
 (bSeq (bSeq (bReg (f91_r3 c))
 (bBlock 0 (bLoop [0, 3] (f91_l4 c k) k)))
 (bSeq (bReg (f91_r11 c))
 (bEx .ret)))))
theorem f91_eq (c : CallF) (k : Nat) : exec cx c 58 f91_an k (Try.f91.body.getD .skip) = f91 c k := by kernel_rfl
/-! ### f92: loop.example/g01263/spec.l01Grain -/
def f92_an : Ann := ⟨[(0, r0 [1]), (1, r0 [1, 3]), (2, r0 [1, 3, 5]), (3, r0 [1, 3]), (4, r0 [1, 3, 17]), (5, r0 [2]), (6, r0 [2])], [(2, [1, 3])]⟩
noncomputable def f92_r0 (c : CallF) : RF := rg [1] <| aX 1 (pBox 16 0) <|
 aX 2 (pM (cn (.bool false))) <|
 aXZ
noncomputable def f92_r1 (c : CallF) : RF := rg [1, 3] <| aX 3 (pM (cn (.int .i64 0))) <|
 aXZ
noncomputable def f92_r2 (c : CallF) : RF := rg [1, 3, 5] <| aX 4 (pM 3) <|
 aX 5 (pB .lss 3 4 (cn (.int .i64 16))) <|
 aXZ
noncomputable def f92_r3 (c : CallF) : RF := rg [1, 3] <| aX 6 (pM 3) <|
 aX 7 (pB .add 3 6 (cn (.int .i64 1))) <|
 aX 3 (pM 7) <|
 aXZ
noncomputable def f92_r4 (c : CallF) : RF := rg [1, 3, 17] <| aX 8 (pM 3) <|
 aX 9 (fun n e M => keep (aIndexP 16 1 (eget e 1) (eget e 8) M)) <|
 aX 10 (pL false 1 9) <|
 aX 11 (pB .lss 23 10 (cn (.int .i8 (-3)))) <|
 aX 12 (pM 11) <|
 aX 13 (pG 12 false (pM 3)) <|
 aX 14 (pG 12 false (fun n e M => keep (aIndexP 16 1 (eget e 1) (eget e 13) M))) <|
 aX 15 (pG 12 false (pL false 1 14)) <|
 aX 16 (pG 12 false (pB .gtr 23 15 (cn (.int .i8 3)))) <|
 aX 17 (pP 12 (cn (.bool true)) 16) <|
 aXZ
noncomputable def f92_r5 (c : CallF) : RF := rg [2] <| aX 2 (pM (cn (.bool false))) <|
 aXZ
noncomputable def f92_r6 (c : CallF) : RF := rg [2] <| aX 2 (pM (cn (.bool true))) <|
 aXZ
noncomputable def f92_l2 (c : CallF) (k : Nat) : St :=
 (bSeq (bSeq (bReg (f92_r2 c))
 (bCond (.tmp 5) (bEx .nrm) (bEx (.ext 0))))
 (bSeq (bBlock 1 (bSeq (bReg (f92_r4 c))
 (bCond (.tmp 17) (bSeq (bReg (f92_r5 c))
 (bEx .ret)) (bEx .nrm))))
 (bReg (f92_r3 c))))
noncomputable def f92 (c : CallF) (k : Nat) : St :=
 (bSeq (bReg (f92_r0 c))
 (bSeq (bSeq (bReg (f92_r1 c))
 (bBlock 0 (bLoop [1, 3] (f92_l2 c k) k)))
 (bSeq (bReg (f92_r6 c))
 (bEx .ret))))
theorem f92_eq (c : CallF) (k : Nat) : exec cx c 18 f92_an k (Try.f92.body.getD .skip) = f92 c k := by kernel_rfl
/-! ### f93: loop.example/g01263/impl.width -/
def f93_an : Ann := ⟨[(0, r0 [0]), (1, r0 [2])], []⟩
noncomputable def f93_r0 (c : CallF) : RF := rg [0] <| aX 2 (pM (cn (.int .i64 0))) <|
 aXZ
noncomputable def f93_r1 (c : CallF) : RF := rg [2] <| aX 3 (fun n e M => keep (aLitI 2 1 [(.int .i64 1), (.int .i64 2), (.int .i64 4), (.int .i64 6), (.int .i64 9), (.int .i64 12)] M)) <|
 aX 4 (pM 0) <|
 aX 5 (pI 1 3 4) <|
 aX 6 (pL false 1 5) <|
 aX 2 (pM 6) <|
 aXZ
noncomputable def f93 (c : CallF) (k : Nat) : St :=
 (bSeq (bReg (f93_r0 c))
 (bSeq (bReg (f93_r1 c))
 (bEx .ret)))
theorem f93_eq (c : CallF) (k : Nat) : exec cx c 7 f93_an k (Try.f93.body.getD .skip) = f93 c k := by kernel_rfl
/-! ### f95: loop.example/g01263/spec.l01Kind -/
def f95_an : Ann := ⟨[(0, r0 [0]), (1, r0 [2])], []⟩
noncomputable def f95_r0 (c : CallF) : RF := rg [0] <| aX 2 (pM (cn (.bool false))) <|
 aXZ
noncomputable def f95_r1 (c : CallF) : RF := rg [2] <| aX 3 (pM 0) <|
 aX 4 (pK c false 73 [3, (cn (.int .i64 0)), (cn (.int .i64 5))]) <|
 aX 2 (pM 4) <|
 aXZ
noncomputable def f95 (c : CallF) (k : Nat) : St :=
 (bSeq (bReg (f95_r0 c))
 (bSeq (bReg (f95_r1 c))
 (bEx .ret)))
theorem f95_eq (c : CallF) (k : Nat) : exec cx c 5 f95_an k (Try.f95.body.getD .skip) = f95 c k := by kernel_rfl
/-! ### f96: loop.example/g01263/spec.l01Ends -/
def f96_an : Ann := ⟨[(0, r0 [1]), (1, r0 [2])], []⟩
noncomputable def f96_r0 (c : CallF) : RF := rg [1] <| aX 1 (pBox 2 0) <|
 aX 2 (pM (cn (.int .i64 0))) <|
 aXZ
noncomputable def f96_r1 (c : CallF) : RF := rgD [2] (aY 3 (pF 1 1 1) <|
 aY 4 (pL false 1 3) <|
 aY 5 (fun n e M => keep (aConvI .i64 (eget e 4))) <|
 aY 6 (pK c false 97 []) <|
 aY 7 (pF 0 1 1) <|
 aY 8 (pL false 1 7) <|
 aY 9 (pI 1 6 8) <|
 aY 10 (pL false 1 9) <|
 aY 11 (pB .add 2 5 10) <|
 aY 2 (pM 11) <|
 aYZ)
 (aXZ)
noncomputable def f96 (c : CallF) (k : Nat) : St :=
 (bSeq (bReg (f96_r0 c))
 (bSeq (bReg (f96_r1 c))
 (bEx .ret)))
theorem f96_eq (c : CallF) (k : Nat) : exec cx c 12 f96_an k (Try.f96.body.getD .skip) = f96 c k := by kernel_rfl
/-! ### f97: loop.example/g01263/spec.l01Widths -/
def f97_an : Ann := ⟨[(0, r0 []), (1, r0 [0])], []⟩
noncomputable def f97_r0 (c : CallF) : RF := rg [] <| aX 0 (pM (cn .nils)) <|
 aXZ
noncomputable def f97_r1 (c : CallF) : RF := rg [0] <| aX 1 (fun n e M => keep (aLitI 2 1 [(.int .i64 1), (.int .i64 2), (.int .i64 4), (.int .i64 6), (.int .i64 9), (.int .i64 12)] M)) <|
 aX 0 (pM 1) <|
 aXZ
noncomputable def f97 (c : CallF) (k : Nat) : St :=
 (bSeq (bReg (f97_r0 c))
 (bSeq (bReg (f97_r1 c))
 (bEx .ret)))
theorem f97_eq (c : CallF) (k : Nat) : exec cx c 2 f97_an k (Try.f97.body.getD .skip) = f97 c k := by kernel_rfl
def anns : List (Nat × Ann) := [(7, f7_an), (9, f9_an), (11, f11_an), (13, f13_an), (15, f15_an), (20, f20_an), (21, f21_an), (31, f31_an), (32, f32_an), (33, f33_an), (34, f34_an), (35, f35_an), (36, f36_an), (38, f38_an), (39, f39_an), (40, f40_an), (41, f41_an), (42, f42_an), (45, f45_an), (46, f46_an), (61, f61_an), (62, f62_an), (63, f63_an), (64, f64_an), (65, f65_an), (66, f66_an), (67, f67_an), (68, f68_an), (69, f69_an), (70, f70_an), (71, f71_an), (72, f72_an), (73, f73_an), (74, f74_an), (75, f75_an), (76, f76_an), (77, f77_an), (89, f89_an), (90, f90_an), (91, f91_an), (92, f92_an), (93, f93_an), (95, f95_an), (96, f96_an), (97, f97_an)]
noncomputable def CN0 : Nat → CallF := callN cx (Go.Ab.look anns) (fun _ _ _ => none) (fun _ => false)
def isP (f : Nat) : Bool := has [] f
noncomputable def primF : CallF := splitNil (callN cx (Go.Ab.look anns) (fun _ _ _ => none) (fun _ => false) 3)
noncomputable def CN : Nat → CallF := callN cx (Go.Ab.look anns) primF isP
end Go.Proofs.Ythkbjnbbahmpkaa

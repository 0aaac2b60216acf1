/- Printed by a program of ours (ext.py). -/
import Derived.Test.YthkbjnbbahmpkaaAbArr
import Derived.Test.YthkbjnbbahmpkaaProg
set_option linter.unusedVariables false
set_option linter.unusedSimpArgs false
set_option maxRecDepth 100000
set_option maxHeartbeats 2000000
namespace Go.Proofs.Ythkbjnbbahmpkaa
open Go Go.Ab
noncomputable def cx : Cx := ⟨Try.prog, fun f => has [] f⟩
noncomputable abbrev pB := pB_ cx.P
noncomputable abbrev pLen := pLen_ cx.P
noncomputable abbrev pAl := pAl_ cx.P
noncomputable abbrev pK := pK_ cx
/-! ### f3: loop.example/g01263/laws.FnExactSameChain -/
def f3_an : Ann := ⟨[(0, r0 [2, 3]), (1, r0 [2, 3, 5]), (2, r0 [2, 3, 5]), (3, r0 [2, 3, 5, 14]), (4, r0 [4]), (5, r0 [2, 3, 5]), (6, r0 [2, 3, 19]), (7, r0 [4]), (8, r0 [2, 3, 6]), (9, r0 [2, 3, 6, 7]), (10, r0 [2, 3, 6, 7, 8]), (11, r0 [2, 3, 6, 7, 8, 9]), (12, r0 [2, 3, 7, 8, 34]), (13, r0 [4]), (14, r0 [3, 8, 39]), (15, r0 [4]), (16, r0 [44]), (17, r0 [4]), (18, r0 [4])], []⟩
noncomputable def f3_r0 (c : CallF) : RF := rg [2, 3] <| aX 2 (pBox 20 0) <|
 aX 3 (pBox 20 1) <|
 aX 4 (pM (cn (.bool false))) <|
 aXZ
noncomputable def f3_r1 (c : CallF) : RF := rg [2, 3, 5] <| aX 5 (pM (cn (.int .i64 1048576))) <|
 aXZ
noncomputable def f3_r2 (c : CallF) : RF := rg [2, 3, 5] <| aX 10 (pL true 20 2) <|
 aX 11 (pM 5) <|
 aX 12 (pK c false 9 [10, 11]) <|
 aX 5 (pM 12) <|
 aXZ
noncomputable def f3_r3 (c : CallF) : RF := rg [2, 3, 5, 14] <| aX 13 (pM 5) <|
 aX 14 (pB .lss 3 13 (cn (.int .i64 0))) <|
 aXZ
noncomputable def f3_r4 (c : CallF) : RF := rg [4] <| aX 4 (pM (cn (.bool true))) <|
 aXZ
noncomputable def f3_r5 (c : CallF) : RF := rg [2, 3, 5] <| aX 15 (pL true 20 3) <|
 aX 16 (pM 5) <|
 aX 17 (pK c false 9 [15, 16]) <|
 aX 5 (pM 17) <|
 aXZ
noncomputable def f3_r6 (c : CallF) : RF := rg [2, 3, 19] <| aX 18 (pM 5) <|
 aX 19 (pB .lss 3 18 (cn (.int .i64 0))) <|
 aXZ
noncomputable def f3_r7 (c : CallF) : RF := rg [4] <| aX 4 (pM (cn (.bool true))) <|
 aXZ
noncomputable def f3_r8 (c : CallF) : RF := rgD [2, 3, 6] (aY 20 (pL true 20 2) <|
 aY 21 (pK c false 11 [20]) <|
 aY 22 (pL true 20 3) <|
 aY 23 (pK c false 11 [22]) <|
 aY 24 (pK c false 10 [21, 23]) <|
 aY 6 (pM 24) <|
 aYZ)
 (aXZ)
noncomputable def f3_r9 (c : CallF) : RF := rg [2, 3, 6, 7] <| aX 25 (pL true 20 2) <|
 aX 26 (pK c false 11 [25]) <|
 aX 7 (pAl 38 20) <|
 aX0 (pS 20 7 26) <|
 aXZ
noncomputable def f3_r10 (c : CallF) : RF := rg [2, 3, 6, 7, 8] <| aX 27 (pL true 20 3) <|
 aX 28 (pK c false 11 [27]) <|
 aX 8 (pAl 38 20) <|
 aX0 (pS 20 8 28) <|
 aXZ
noncomputable def f3_r11 (c : CallF) : RF := rg [2, 3, 6, 7, 8, 9] <| aX 29 (pL true 20 7) <|
 aX 30 (pL true 20 8) <|
 aX 31 (pK c false 12 [29, 30]) <|
 aX 9 (pM 31) <|
 aXZ
noncomputable def f3_r12 (c : CallF) : RF := rg [2, 3, 7, 8, 34] <| aX 32 (pM 9) <|
 aX 33 (pM 6) <|
 aX 34 (pB .neq 4 32 33) <|
 aXZ
noncomputable def f3_r13 (c : CallF) : RF := rg [4] <| aX 4 (pM (cn (.bool false))) <|
 aXZ
noncomputable def f3_r14 (c : CallF) : RF := rgD [3, 8, 39] (aY 35 (pL true 20 7) <|
 aY 36 (pL true 20 2) <|
 aY 37 (pK c false 11 [36]) <|
 aY 38 (pK c false 13 [35, 37]) <|
 aY 39 (pU .not 38) <|
 aYZ)
 (aXZ)
noncomputable def f3_r15 (c : CallF) : RF := rg [4] <| aX 4 (pM (cn (.bool false))) <|
 aXZ
noncomputable def f3_r16 (c : CallF) : RF := rgD [44] (aY 40 (pL true 20 8) <|
 aY 41 (pL true 20 3) <|
 aY 42 (pK c false 11 [41]) <|
 aY 43 (pK c false 13 [40, 42]) <|
 aY 44 (pU .not 43) <|
 aYZ)
 (aXZ)
noncomputable def f3_r17 (c : CallF) : RF := rg [4] <| aX 4 (pM (cn (.bool false))) <|
 aXZ
noncomputable def f3_r18 (c : CallF) : RF := rg [4] <| aX 4 (pM (cn (.bool true))) <|
 aXZ
noncomputable def f3 (c : CallF) (k : Nat) : St :=
 (bSeq (bReg (f3_r0 c))
 (bSeq (bReg (f3_r1 c))
 (bSeq (bReg (f3_r2 c))
 (bSeq (bSeq (bReg (f3_r3 c))
 (bCond (.tmp 14) (bSeq (bReg (f3_r4 c))
 (bEx .ret)) (bEx .nrm)))
 (bSeq (bReg (f3_r5 c))
 (bSeq (bSeq (bReg (f3_r6 c))
 (bCond (.tmp 19) (bSeq (bReg (f3_r7 c))
 (bEx .ret)) (bEx .nrm)))
 (bSeq (bReg (f3_r8 c))
 (bSeq (bReg (f3_r9 c))
 (bSeq (bReg (f3_r10 c))
 (bSeq (bReg (f3_r11 c))
 (bSeq (bSeq (bReg (f3_r12 c))
 (bCond (.tmp 34) (bSeq (bReg (f3_r13 c))
 (bEx .ret)) (bEx .nrm)))
 (bSeq (bSeq (bReg (f3_r14 c))
 (bCond (.tmp 39) (bSeq (bReg (f3_r15 c))
 (bEx .ret)) (bEx .nrm)))
 (bSeq (bSeq (bReg (f3_r16 c))
 (bCond (.tmp 44) (bSeq (bReg (f3_r17 c))
 (bEx .ret)) (bEx .nrm)))
 (bSeq (bReg (f3_r18 c))
 (bEx .ret)))))))))))))))
theorem f3_eq (c : CallF) (k : Nat) : exec cx c 45 f3_an k (Try.f3.body.getD .skip) = f3 c k := by kernel_rfl
/-! ### f9: loop.example/g01263/laws.szChain -/
def f9_an : Ann := ⟨[(0, r0 [1, 2]), (1, r0 [1, 2]), (2, r0 [1, 2, 11]), (3, r0 [4]), (4, r0 [1, 2]), (5, r0 [1, 2, 17]), (6, r0 [4]), (7, r0 [1]), (8, r0 [1, 23]), (9, r0 [4]), (10, r0 [4])], []⟩
noncomputable def f9_r0 (c : CallF) : RF := rg [1, 2] <| aX 2 (pBox 20 0) <|
 aX 4 (pM (cn (.int .i64 0))) <|
 aXZ
noncomputable def f9_r1 (c : CallF) : RF := rg [1, 2] <| aX 5 (pM 1) <|
 aX 6 (pF 0 1 2) <|
 aX 7 (pL false 1 6) <|
 aX 8 (pLen 9 7) <|
 aX 9 (pB .sub 3 5 8) <|
 aX 1 (pM 9) <|
 aXZ
noncomputable def f9_r2 (c : CallF) : RF := rg [1, 2, 11] <| aX 10 (pM 1) <|
 aX 11 (pB .lss 3 10 (cn (.int .i64 0))) <|
 aXZ
noncomputable def f9_r3 (c : CallF) : RF := rg [4] <| aX 4 (pM (cn (.int .i64 (-1)))) <|
 aXZ
noncomputable def f9_r4 (c : CallF) : RF := rg [1, 2] <| aX 12 (pF 1 18 2) <|
 aX 13 (pL true 18 12) <|
 aX 14 (pM 1) <|
 aX 15 (pK c false 31 [13, 14]) <|
 aX 1 (pM 15) <|
 aXZ
noncomputable def f9_r5 (c : CallF) : RF := rg [1, 2, 17] <| aX 16 (pM 1) <|
 aX 17 (pB .lss 3 16 (cn (.int .i64 0))) <|
 aXZ
noncomputable def f9_r6 (c : CallF) : RF := rg [4] <| aX 4 (pM (cn (.int .i64 (-1)))) <|
 aXZ
noncomputable def f9_r7 (c : CallF) : RF := rg [1] <| aX 18 (pF 19 1 2) <|
 aX 19 (pL false 1 18) <|
 aX 20 (pM 1) <|
 aX 21 (pK c false 32 [19, 20]) <|
 aX 1 (pM 21) <|
 aXZ
noncomputable def f9_r8 (c : CallF) : RF := rg [1, 23] <| aX 22 (pM 1) <|
 aX 23 (pB .lss 3 22 (cn (.int .i64 0))) <|
 aXZ
noncomputable def f9_r9 (c : CallF) : RF := rg [4] <| aX 4 (pM (cn (.int .i64 (-1)))) <|
 aXZ
noncomputable def f9_r10 (c : CallF) : RF := rg [4] <| aX 24 (pM 1) <|
 aX 4 (pM 24) <|
 aXZ
noncomputable def f9 (c : CallF) (k : Nat) : St :=
 (bSeq (bReg (f9_r0 c))
 (bSeq (bReg (f9_r1 c))
 (bSeq (bSeq (bReg (f9_r2 c))
 (bCond (.tmp 11) (bSeq (bReg (f9_r3 c))
 (bEx .ret)) (bEx .nrm)))
 (bSeq (bReg (f9_r4 c))
 (bSeq (bSeq (bReg (f9_r5 c))
 (bCond (.tmp 17) (bSeq (bReg (f9_r6 c))
 (bEx .ret)) (bEx .nrm)))
 (bSeq (bReg (f9_r7 c))
 (bSeq (bSeq (bReg (f9_r8 c))
 (bCond (.tmp 23) (bSeq (bReg (f9_r9 c))
 (bEx .ret)) (bEx .nrm)))
 (bSeq (bReg (f9_r10 c))
 (bEx .ret)))))))))
theorem f9_eq (c : CallF) (k : Nat) : exec cx c 25 f9_an k (Try.f9.body.getD .skip) = f9 c k := by kernel_rfl
/-! ### f10: loop.example/g01263/spec.SameChain -/
def f10_an : Ann := ⟨[(0, r0 [2, 3]), (1, r0 [2, 3, 25]), (2, r0 [4]), (3, r0 [2, 3, 5]), (4, r0 [2, 3, 5, 30]), (5, r0 [2, 3, 5]), (6, r0 [2, 3, 5, 43]), (7, r0 [4]), (8, r0 [4])], [(4, [2, 3, 5])]⟩
noncomputable def f10_r0 (c : CallF) : RF := rg [2, 3] <| aX 2 (pBox 20 0) <|
 aX 3 (pBox 20 1) <|
 aX 4 (pM (cn (.bool false))) <|
 aXZ
noncomputable def f10_r1 (c : CallF) : RF := rg [2, 3, 25] <| aX 6 (pF 0 1 2) <|
 aX 7 (pL false 1 6) <|
 aX 8 (pF 0 1 3) <|
 aX 9 (pL false 1 8) <|
 aX 10 (pB .neq 9 7 9) <|
 aX 11 (pM 10) <|
 aX 12 (pG 11 false (pF 1 18 2)) <|
 aX 13 (pG 11 false (pF 1 18 3)) <|
 aX 14 (pG 11 false (pK c false 33 [12, 13])) <|
 aX 15 (pG 11 false (pU .not 14)) <|
 aX 16 (pP 11 (cn (.bool true)) 15) <|
 aX 17 (pM 16) <|
 aX 18 (pG 17 false (pF 19 1 2)) <|
 aX 19 (pG 17 false (pL false 1 18)) <|
 aX 20 (pG 17 false (pLen 36 19)) <|
 aX 21 (pG 17 false (pF 19 1 3)) <|
 aX 22 (pG 17 false (pL false 1 21)) <|
 aX 23 (pG 17 false (pLen 36 22)) <|
 aX 24 (pG 17 false (pB .neq 3 20 23)) <|
 aX 25 (pP 17 (cn (.bool true)) 24) <|
 aXZ
noncomputable def f10_r2 (c : CallF) : RF := rg [4] <| aX 4 (pM (cn (.bool false))) <|
 aXZ
noncomputable def f10_r3 (c : CallF) : RF := rg [2, 3, 5] <| aX 5 (pM (cn (.int .i64 0))) <|
 aXZ
noncomputable def f10_r4 (c : CallF) : RF := rg [2, 3, 5, 30] <| aX 26 (pM 5) <|
 aX 27 (pF 19 1 2) <|
 aX 28 (pL false 1 27) <|
 aX 29 (pLen 36 28) <|
 aX 30 (pB .lss 3 26 29) <|
 aXZ
noncomputable def f10_r5 (c : CallF) : RF := rg [2, 3, 5] <| aX 31 (pM 5) <|
 aX 32 (pB .add 3 31 (cn (.int .i64 1))) <|
 aX 5 (pM 32) <|
 aXZ
noncomputable def f10_r6 (c : CallF) : RF := rgD [2, 3, 5, 43] (aY 33 (pF 19 1 2) <|
 aY 34 (pL false 1 33) <|
 aY 35 (pM 5) <|
 aY 36 (pI 2 34 35) <|
 aY 37 (pL true 2 36) <|
 aY 38 (pF 19 1 3) <|
 aY 39 (pL false 1 38) <|
 aY 40 (pM 5) <|
 aY 41 (pI 2 39 40) <|
 aY 42 (pL true 2 41) <|
 aY 43 (pB .neq 72 37 42) <|
 aYZ)
 (aXZ)
noncomputable def f10_r7 (c : CallF) : RF := rg [4] <| aX 4 (pM (cn (.bool false))) <|
 aXZ
noncomputable def f10_r8 (c : CallF) : RF := rg [4] <| aX 4 (pM (cn (.bool true))) <|
 aXZ
noncomputable def f10_l4 (c : CallF) (k : Nat) : St :=
 (bSeq (bSeq (bReg (f10_r4 c))
 (bCond (.tmp 30) (bEx .nrm) (bEx (.ext 0))))
 (bSeq (bBlock 1 (bSeq (bReg (f10_r6 c))
 (bCond (.tmp 43) (bSeq (bReg (f10_r7 c))
 (bEx .ret)) (bEx .nrm))))
 (bReg (f10_r5 c))))
noncomputable def f10 (c : CallF) (k : Nat) : St :=
 (bSeq (bReg (f10_r0 c))
 (bSeq (bSeq (bReg (f10_r1 c))
 (bCond (.tmp 25) (bSeq (bReg (f10_r2 c))
 (bEx .ret)) (bEx .nrm)))
 (bSeq (bSeq (bReg (f10_r3 c))
 (bBlock 0 (bLoop [2, 3, 5] (f10_l4 c k) k)))
 (bSeq (bReg (f10_r8 c))
 (bEx .ret)))))
theorem f10_eq (c : CallF) (k : Nat) : exec cx c 44 f10_an k (Try.f10.body.getD .skip) = f10 c k := by kernel_rfl
/-! ### f11: loop.example/g01263/laws.toChain -/
def f11_an : Ann := ⟨[(0, r0 [1, 2]), (1, r0 [1, 2, 3]), (2, r0 [1, 2, 3]), (3, r0 [1, 2, 3]), (4, r0 [2, 3]), (5, r0 [2])], []⟩
noncomputable def f11_r0 (c : CallF) : RF := rg [1, 2] <| aX 1 (pBox 20 0) <|
 aX 2 (pAl 38 20) <|
 aXZ
noncomputable def f11_r1 (c : CallF) : RF := rg [1, 2, 3] <| aX 3 (pAl 38 20) <|
 aXZ
noncomputable def f11_r2 (c : CallF) : RF := rg [1, 2, 3] <| aX 4 (pF 0 1 1) <|
 aX 5 (pL false 1 4) <|
 aX 6 (pF 0 1 3) <|
 aX0 (pS 1 6 5) <|
 aXZ
noncomputable def f11_r3 (c : CallF) : RF := rg [1, 2, 3] <| aX 7 (pF 1 18 1) <|
 aX 8 (pL true 18 7) <|
 aX 9 (pK c false 34 [8]) <|
 aX 10 (pF 1 18 3) <|
 aX0 (pS 18 10 9) <|
 aXZ
noncomputable def f11_r4 (c : CallF) : RF := rg [2, 3] <| aX 11 (pF 19 1 1) <|
 aX 12 (pL false 1 11) <|
 aX 13 (pK c false 35 [12]) <|
 aX 14 (pF 19 1 3) <|
 aX0 (pS 1 14 13) <|
 aXZ
noncomputable def f11_r5 (c : CallF) : RF := rg [2] <| aX 15 (pL true 20 3) <|
 aX0 (pS 20 2 15) <|
 aXZ
noncomputable def f11 (c : CallF) (k : Nat) : St :=
 (bSeq (bReg (f11_r0 c))
 (bSeq (bReg (f11_r1 c))
 (bSeq (bReg (f11_r2 c))
 (bSeq (bReg (f11_r3 c))
 (bSeq (bReg (f11_r4 c))
 (bSeq (bReg (f11_r5 c))
 (bEx .ret)))))))
theorem f11_eq (c : CallF) (k : Nat) : exec cx c 16 f11_an k (Try.f11.body.getD .skip) = f11 c k := by kernel_rfl
/-! ### f12: loop.example/g01263/impl.SameChain -/
def f12_an : Ann := ⟨[(0, r0 [2, 3]), (1, r0 [4])], []⟩
noncomputable def f12_r0 (c : CallF) : RF := rg [2, 3] <| aX 2 (pBox 20 0) <|
 aX 3 (pBox 20 1) <|
 aX 4 (pM (cn (.bool false))) <|
 aXZ
noncomputable def f12_r1 (c : CallF) : RF := rg [4] <| aX 5 (pF 0 1 2) <|
 aX 6 (pL false 1 5) <|
 aX 7 (pF 0 1 3) <|
 aX 8 (pL false 1 7) <|
 aX 9 (pB .eql 9 6 8) <|
 aX 10 (pM 9) <|
 aX 11 (pG 10 true (pF 1 18 2)) <|
 aX 12 (pG 10 true (pL true 18 11)) <|
 aX 13 (pG 10 true (pF 1 18 3)) <|
 aX 14 (pG 10 true (pL true 18 13)) <|
 aX 15 (pG 10 true (pK c false 36 [12, 14])) <|
 aX 16 (pP 10 15 (cn (.bool false))) <|
 aX 17 (pM 16) <|
 aX 18 (pG 17 true (pF 19 1 2)) <|
 aX 19 (pG 17 true (pL false 1 18)) <|
 aX 20 (pG 17 true (pF 19 1 3)) <|
 aX 21 (pG 17 true (pL false 1 20)) <|
 aX 22 (pG 17 true (pK c false 37 [19, 21])) <|
 aX 23 (pP 17 22 (cn (.bool false))) <|
 aX 4 (pM 23) <|
 aXZ
noncomputable def f12 (c : CallF) (k : Nat) : St :=
 (bSeq (bReg (f12_r0 c))
 (bSeq (bReg (f12_r1 c))
 (bEx .ret)))
theorem f12_eq (c : CallF) (k : Nat) : exec cx c 24 f12_an k (Try.f12.body.getD .skip) = f12 c k := by kernel_rfl
/-! ### f13: loop.example/g01263/laws.eqChain -/
def f13_an : Ann := ⟨[(0, r0 [2, 3]), (1, r0 [2, 3, 9]), (2, r0 [4]), (3, r0 [2, 3, 15]), (4, r0 [4]), (5, r0 [21]), (6, r0 [4]), (7, r0 [4])], []⟩
noncomputable def f13_r0 (c : CallF) : RF := rg [2, 3] <| aX 2 (pBox 20 0) <|
 aX 3 (pBox 20 1) <|
 aX 4 (pM (cn (.bool false))) <|
 aXZ
noncomputable def f13_r1 (c : CallF) : RF := rg [2, 3, 9] <| aX 5 (pF 0 1 2) <|
 aX 6 (pL false 1 5) <|
 aX 7 (pF 0 1 3) <|
 aX 8 (pL false 1 7) <|
 aX 9 (pB .neq 9 6 8) <|
 aXZ
noncomputable def f13_r2 (c : CallF) : RF := rg [4] <| aX 4 (pM (cn (.bool false))) <|
 aXZ
noncomputable def f13_r3 (c : CallF) : RF := rg [2, 3, 15] <| aX 10 (pF 1 18 2) <|
 aX 11 (pL true 18 10) <|
 aX 12 (pF 1 18 3) <|
 aX 13 (pL true 18 12) <|
 aX 14 (pK c false 38 [11, 13]) <|
 aX 15 (pU .not 14) <|
 aXZ
noncomputable def f13_r4 (c : CallF) : RF := rg [4] <| aX 4 (pM (cn (.bool false))) <|
 aXZ
noncomputable def f13_r5 (c : CallF) : RF := rg [21] <| aX 16 (pF 19 1 2) <|
 aX 17 (pL false 1 16) <|
 aX 18 (pF 19 1 3) <|
 aX 19 (pL false 1 18) <|
 aX 20 (pK c false 39 [17, 19]) <|
 aX 21 (pU .not 20) <|
 aXZ
noncomputable def f13_r6 (c : CallF) : RF := rg [4] <| aX 4 (pM (cn (.bool false))) <|
 aXZ
noncomputable def f13_r7 (c : CallF) : RF := rg [4] <| aX 4 (pM (cn (.bool true))) <|
 aXZ
noncomputable def f13 (c : CallF) (k : Nat) : St :=
 (bSeq (bReg (f13_r0 c))
 (bSeq (bSeq (bReg (f13_r1 c))
 (bCond (.tmp 9) (bSeq (bReg (f13_r2 c))
 (bEx .ret)) (bEx .nrm)))
 (bSeq (bSeq (bReg (f13_r3 c))
 (bCond (.tmp 15) (bSeq (bReg (f13_r4 c))
 (bEx .ret)) (bEx .nrm)))
 (bSeq (bSeq (bReg (f13_r5 c))
 (bCond (.tmp 21) (bSeq (bReg (f13_r6 c))
 (bEx .ret)) (bEx .nrm)))
 (bSeq (bReg (f13_r7 c))
 (bEx .ret))))))
theorem f13_eq (c : CallF) (k : Nat) : exec cx c 22 f13_an k (Try.f13.body.getD .skip) = f13 c k := by kernel_rfl
/-! ### f31: loop.example/g01263/laws.szHalf -/
def f31_an : Ann := ⟨[(0, r0 [1, 2]), (1, r0 [1]), (2, r0 [1, 10]), (3, r0 [4]), (4, r0 [4])], []⟩
noncomputable def f31_r0 (c : CallF) : RF := rg [1, 2] <| aX 2 (pBox 18 0) <|
 aX 4 (pM (cn (.int .i64 0))) <|
 aXZ
noncomputable def f31_r1 (c : CallF) : RF := rg [1] <| aX 5 (pF 1 1 2) <|
 aX 6 (pL false 1 5) <|
 aX 7 (pM 1) <|
 aX 8 (pK c false 61 [6, 7]) <|
 aX 1 (pM 8) <|
 aXZ
noncomputable def f31_r2 (c : CallF) : RF := rg [1, 10] <| aX 9 (pM 1) <|
 aX 10 (pB .lss 3 9 (cn (.int .i64 0))) <|
 aXZ
noncomputable def f31_r3 (c : CallF) : RF := rg [4] <| aX 4 (pM (cn (.int .i64 (-1)))) <|
 aXZ
noncomputable def f31_r4 (c : CallF) : RF := rg [4] <| aX 11 (pM 1) <|
 aX 4 (pM 11) <|
 aXZ
noncomputable def f31 (c : CallF) (k : Nat) : St :=
 (bSeq (bReg (f31_r0 c))
 (bSeq (bReg (f31_r1 c))
 (bSeq (bSeq (bReg (f31_r2 c))
 (bCond (.tmp 10) (bSeq (bReg (f31_r3 c))
 (bEx .ret)) (bEx .nrm)))
 (bSeq (bReg (f31_r4 c))
 (bEx .ret)))))
theorem f31_eq (c : CallF) (k : Nat) : exec cx c 12 f31_an k (Try.f31.body.getD .skip) = f31 c k := by kernel_rfl
/-! ### f32: loop.example/g01263/laws.szMarkS -/
def f32_an : Ann := ⟨[(0, r0 [0, 1]), (1, r0 [0, 1]), (2, r0 [0, 1, 11]), (3, r0 [4]), (4, r0 [0, 1, 5]), (5, r0 [0, 1, 5, 15]), (6, r0 [0, 1, 5]), (7, r0 [0, 1, 5]), (8, r0 [0, 1, 5, 25]), (9, r0 [4]), (10, r0 [4])], [(5, [0, 1, 5])]⟩
noncomputable def f32_r0 (c : CallF) : RF := rg [0, 1] <| aX 4 (pM (cn (.int .i64 0))) <|
 aXZ
noncomputable def f32_r1 (c : CallF) : RF := rg [0, 1] <| aX 6 (pM 1) <|
 aX 7 (pM 0) <|
 aX 8 (pLen 27 7) <|
 aX 9 (pB .sub 3 6 8) <|
 aX 1 (pM 9) <|
 aXZ
noncomputable def f32_r2 (c : CallF) : RF := rg [0, 1, 11] <| aX 10 (pM 1) <|
 aX 11 (pB .lss 3 10 (cn (.int .i64 0))) <|
 aXZ
noncomputable def f32_r3 (c : CallF) : RF := rg [4] <| aX 4 (pM (cn (.int .i64 (-1)))) <|
 aXZ
noncomputable def f32_r4 (c : CallF) : RF := rg [0, 1, 5] <| aX 5 (pM (cn (.int .i64 0))) <|
 aXZ
noncomputable def f32_r5 (c : CallF) : RF := rg [0, 1, 5, 15] <| aX 12 (pM 5) <|
 aX 13 (pM 0) <|
 aX 14 (pLen 27 13) <|
 aX 15 (pB .lss 3 12 14) <|
 aXZ
noncomputable def f32_r6 (c : CallF) : RF := rg [0, 1, 5] <| aX 16 (pM 5) <|
 aX 17 (pB .add 3 16 (cn (.int .i64 1))) <|
 aX 5 (pM 17) <|
 aXZ
noncomputable def f32_r7 (c : CallF) : RF := rg [0, 1, 5] <| aX 18 (pM 0) <|
 aX 19 (pM 5) <|
 aX 20 (pI 2 18 19) <|
 aX 21 (pL true 2 20) <|
 aX 22 (pM 1) <|
 aX 23 (pK c false 62 [21, 22]) <|
 aX 1 (pM 23) <|
 aXZ
noncomputable def f32_r8 (c : CallF) : RF := rg [0, 1, 5, 25] <| aX 24 (pM 1) <|
 aX 25 (pB .lss 3 24 (cn (.int .i64 0))) <|
 aXZ
noncomputable def f32_r9 (c : CallF) : RF := rg [4] <| aX 4 (pM (cn (.int .i64 (-1)))) <|
 aXZ
noncomputable def f32_r10 (c : CallF) : RF := rg [4] <| aX 26 (pM 1) <|
 aX 4 (pM 26) <|
 aXZ
noncomputable def f32_l5 (c : CallF) (k : Nat) : St :=
 (bSeq (bSeq (bReg (f32_r5 c))
 (bCond (.tmp 15) (bEx .nrm) (bEx (.ext 0))))
 (bSeq (bBlock 1 (bSeq (bReg (f32_r7 c))
 (bSeq (bReg (f32_r8 c))
 (bCond (.tmp 25) (bSeq (bReg (f32_r9 c))
 (bEx .ret)) (bEx .nrm)))))
 (bReg (f32_r6 c))))
noncomputable def f32 (c : CallF) (k : Nat) : St :=
 (bSeq (bReg (f32_r0 c))
 (bSeq (bReg (f32_r1 c))
 (bSeq (bSeq (bReg (f32_r2 c))
 (bCond (.tmp 11) (bSeq (bReg (f32_r3 c))
 (bEx .ret)) (bEx .nrm)))
 (bSeq (bSeq (bReg (f32_r4 c))
 (bBlock 0 (bLoop [0, 1, 5] (f32_l5 c k) k)))
 (bSeq (bReg (f32_r10 c))
 (bEx .ret))))))
theorem f32_eq (c : CallF) (k : Nat) : exec cx c 27 f32_an k (Try.f32.body.getD .skip) = f32 c k := by kernel_rfl
/-! ### f33: loop.example/g01263/spec.l01Same -/
def f33_an : Ann := ⟨[(0, r0 [0, 1]), (1, r0 [4])], []⟩
noncomputable def f33_r0 (c : CallF) : RF := rg [0, 1] <| aX 4 (pM (cn (.bool false))) <|
 aXZ
noncomputable def f33_r1 (c : CallF) : RF := rgD [4] (aY 5 (pM 0) <|
 aY 6 (pN 5) <|
 aY 7 (pF 0 1 6) <|
 aY 8 (pL false 1 7) <|
 aY 9 (pM 1) <|
 aY 10 (pN 9) <|
 aY 11 (pF 0 1 10) <|
 aY 12 (pL false 1 11) <|
 aY 13 (pB .eql 4 8 12) <|
 aY 14 (pM 13) <|
 aY 15 (pG 14 true (pM 0)) <|
 aY 16 (pG 14 true (pN 15)) <|
 aY 17 (pG 14 true (pF 2 16 16)) <|
 aY 18 (pG 14 true (pL true 16 17)) <|
 aY 19 (pG 14 true (pM 1)) <|
 aY 20 (pG 14 true (pN 19)) <|
 aY 21 (pG 14 true (pF 2 16 20)) <|
 aY 22 (pG 14 true (pL true 16 21)) <|
 aY 23 (pG 14 true (pB .eql 33 18 22)) <|
 aY 24 (pP 14 23 (cn (.bool false))) <|
 aY 25 (pM 24) <|
 aY 26 (pG 25 true (pM 0)) <|
 aY 27 (pG 25 true (pN 26)) <|
 aY 28 (pG 25 true (pF 1 1 27)) <|
 aY 29 (pG 25 true (pL false 1 28)) <|
 aY 30 (pG 25 true (pM 1)) <|
 aY 31 (pG 25 true (pN 30)) <|
 aY 32 (pG 25 true (pF 1 1 31)) <|
 aY 33 (pG 25 true (pL false 1 32)) <|
 aY 34 (pG 25 true (pK c false 63 [29, 33])) <|
 aY 35 (pP 25 34 (cn (.bool false))) <|
 aY 4 (pM 35) <|
 aYZ)
 (aXZ)
noncomputable def f33 (c : CallF) (k : Nat) : St :=
 (bSeq (bReg (f33_r0 c))
 (bSeq (bReg (f33_r1 c))
 (bEx .ret)))
theorem f33_eq (c : CallF) (k : Nat) : exec cx c 36 f33_an k (Try.f33.body.getD .skip) = f33 c k := by kernel_rfl
/-! ### f34: loop.example/g01263/laws.toHalf -/
def f34_an : Ann := ⟨[(0, r0 [1, 2]), (1, r0 [1, 2, 3]), (2, r0 [1, 2, 3]), (3, r0 [1, 2, 3]), (4, r0 [2, 3]), (5, r0 [2])], []⟩
noncomputable def f34_r0 (c : CallF) : RF := rg [1, 2] <| aX 1 (pBox 18 0) <|
 aX 2 (pAl 35 18) <|
 aXZ
noncomputable def f34_r1 (c : CallF) : RF := rg [1, 2, 3] <| aX 3 (pAl 35 18) <|
 aXZ
noncomputable def f34_r2 (c : CallF) : RF := rg [1, 2, 3] <| aX 4 (pF 0 1 1) <|
 aX 5 (pL false 1 4) <|
 aX 6 (pF 0 1 3) <|
 aX0 (pS 1 6 5) <|
 aXZ
noncomputable def f34_r3 (c : CallF) : RF := rg [1, 2, 3] <| aX 7 (pF 1 1 1) <|
 aX 8 (pL false 1 7) <|
 aX 9 (pK c false 64 [8]) <|
 aX 10 (pF 1 1 3) <|
 aX0 (pS 1 10 9) <|
 aXZ
noncomputable def f34_r4 (c : CallF) : RF := rg [2, 3] <| aX 11 (pF 2 16 1) <|
 aX 12 (pL true 16 11) <|
 aX 13 (pK c false 65 [12]) <|
 aX 14 (pF 2 16 3) <|
 aX0 (pS 16 14 13) <|
 aXZ
noncomputable def f34_r5 (c : CallF) : RF := rg [2] <| aX 15 (pL true 18 3) <|
 aX0 (pS 18 2 15) <|
 aXZ
noncomputable def f34 (c : CallF) (k : Nat) : St :=
 (bSeq (bReg (f34_r0 c))
 (bSeq (bReg (f34_r1 c))
 (bSeq (bReg (f34_r2 c))
 (bSeq (bReg (f34_r3 c))
 (bSeq (bReg (f34_r4 c))
 (bSeq (bReg (f34_r5 c))
 (bEx .ret)))))))
theorem f34_eq (c : CallF) (k : Nat) : exec cx c 16 f34_an k (Try.f34.body.getD .skip) = f34 c k := by kernel_rfl
/-! ### f35: loop.example/g01263/laws.toMarkS -/
def f35_an : Ann := ⟨[(0, r0 [0]), (1, r0 [0, 3]), (2, r0 [0, 3, 4]), (3, r0 [0, 3, 4, 11]), (4, r0 [0, 3, 4]), (5, r0 [0, 3, 4]), (6, r0 [2])], [(3, [0, 3, 4])]⟩
noncomputable def f35_r0 (c : CallF) : RF := rg [0] <| aX 2 (pM (cn .nils)) <|
 aXZ
noncomputable def f35_r1 (c : CallF) : RF := rg [0, 3] <| aX 5 (pM 0) <|
 aX 6 (pLen 27 5) <|
 aX 7 (fun n e M => aMakeO n 72 2 24 (zeroOf cx.P 72) (eget e 6) (eget e 6)) <|
 aX 3 (pM 7) <|
 aXZ
noncomputable def f35_r2 (c : CallF) : RF := rg [0, 3, 4] <| aX 4 (pM (cn (.int .i64 0))) <|
 aXZ
noncomputable def f35_r3 (c : CallF) : RF := rg [0, 3, 4, 11] <| aX 8 (pM 4) <|
 aX 9 (pM 0) <|
 aX 10 (pLen 27 9) <|
 aX 11 (pB .lss 3 8 10) <|
 aXZ
noncomputable def f35_r4 (c : CallF) : RF := rg [0, 3, 4] <| aX 12 (pM 4) <|
 aX 13 (pB .add 3 12 (cn (.int .i64 1))) <|
 aX 4 (pM 13) <|
 aXZ
noncomputable def f35_r5 (c : CallF) : RF := rg [0, 3, 4] <| aX 14 (pM 3) <|
 aX 15 (pM 4) <|
 aX 16 (pM 0) <|
 aX 17 (pM 4) <|
 aX 18 (pI 2 16 17) <|
 aX 19 (pL true 2 18) <|
 aX 20 (pK c false 66 [19]) <|
 aX 21 (pI 2 14 15) <|
 aX0 (pS 2 21 20) <|
 aXZ
noncomputable def f35_r6 (c : CallF) : RF := rg [2] <| aX 22 (pM 3) <|
 aX 2 (pM 22) <|
 aXZ
noncomputable def f35_l3 (c : CallF) (k : Nat) : St :=
 (bSeq (bSeq (bReg (f35_r3 c))
 (bCond (.tmp 11) (bEx .nrm) (bEx (.ext 0))))
 (bSeq (bBlock 1 (bReg (f35_r5 c)))
 (bReg (f35_r4 c))))
noncomputable def f35 (c : CallF) (k : Nat) : St :=
 (bSeq (bReg (f35_r0 c))
 (bSeq (bReg (f35_r1 c))
 (bSeq (bSeq (bReg (f35_r2 c))
 (bBlock 0 (bLoop [0, 3, 4] (f35_l3 c k) k)))
 (bSeq (bReg (f35_r6 c))
 (bEx .ret)))))
theorem f35_eq (c : CallF) (k : Nat) : exec cx c 23 f35_an k (Try.f35.body.getD .skip) = f35 c k := by kernel_rfl
/-! ### f36: loop.example/g01263/impl.SameHalf -/
def f36_an : Ann := ⟨[(0, r0 [2, 3]), (1, r0 [4])], []⟩
noncomputable def f36_r0 (c : CallF) : RF := rg [2, 3] <| aX 2 (pBox 18 0) <|
 aX 3 (pBox 18 1) <|
 aX 4 (pM (cn (.bool false))) <|
 aXZ
noncomputable def f36_r1 (c : CallF) : RF := rg [4] <| aX 5 (pF 0 1 2) <|
 aX 6 (pL false 1 5) <|
 aX 7 (pF 0 1 3) <|
 aX 8 (pL false 1 7) <|
 aX 9 (pB .eql 4 6 8) <|
 aX 10 (pM 9) <|
 aX 11 (pG 10 true (pF 2 16 2)) <|
 aX 12 (pG 10 true (pL true 16 11)) <|
 aX 13 (pG 10 true (pF 2 16 3)) <|
 aX 14 (pG 10 true (pL true 16 13)) <|
 aX 15 (pG 10 true (pB .eql 33 12 14)) <|
 aX 16 (pP 10 15 (cn (.bool false))) <|
 aX 17 (pM 16) <|
 aX 18 (pG 17 true (pF 1 1 2)) <|
 aX 19 (pG 17 true (pL false 1 18)) <|
 aX 20 (pG 17 true (pF 1 1 3)) <|
 aX 21 (pG 17 true (pL false 1 20)) <|
 aX 22 (pG 17 true (pK c false 67 [19, 21])) <|
 aX 23 (pP 17 22 (cn (.bool false))) <|
 aX 4 (pM 23) <|
 aXZ
noncomputable def f36 (c : CallF) (k : Nat) : St :=
 (bSeq (bReg (f36_r0 c))
 (bSeq (bReg (f36_r1 c))
 (bEx .ret)))
theorem f36_eq (c : CallF) (k : Nat) : exec cx c 24 f36_an k (Try.f36.body.getD .skip) = f36 c k := by kernel_rfl
/-! ### f37: slices.Equal[[]loop.example/g01263/impl.Mark,loop.example/g01263/impl.Mark] -/
def f37_an : Ann := ⟨[(0, r0 [0, 1]), (1, r0 [0, 1, 10]), (2, r0 [4]), (3, r0 [0, 1, 12, 13]), (4, r0 [0, 1, 12, 13, 14]), (5, r0 [0, 1, 5, 12, 13]), (6, r0 [0, 1, 12, 13, 24]), (7, r0 [4]), (8, r0 [0, 1, 12, 13]), (9, r0 [4])], [(4, [0, 1, 12, 13])]⟩
noncomputable def f37_r0 (c : CallF) : RF := rg [0, 1] <| aX 4 (pM (cn (.bool false))) <|
 aXZ
noncomputable def f37_r1 (c : CallF) : RF := rg [0, 1, 10] <| aX 6 (pM 0) <|
 aX 7 (pLen 36 6) <|
 aX 8 (pM 1) <|
 aX 9 (pLen 36 8) <|
 aX 10 (pB .neq 3 7 9) <|
 aXZ
noncomputable def f37_r2 (c : CallF) : RF := rg [4] <| aX 4 (pM (cn (.bool false))) <|
 aXZ
noncomputable def f37_r3 (c : CallF) : RF := rg [0, 1, 12, 13] <| aX 11 (pM 0) <|
 aX 12 (pLen 36 11) <|
 aX 13 (pM (cn (.int .i64 0))) <|
 aXZ
noncomputable def f37_r4 (c : CallF) : RF := rg [0, 1, 12, 13, 14] <| aX 14 (pB .lss 3 13 12) <|
 aXZ
noncomputable def f37_r5 (c : CallF) : RF := rg [0, 1, 5, 12, 13] <| aX 15 (pM 13) <|
 aX 5 (pM 15) <|
 aXZ
noncomputable def f37_r6 (c : CallF) : RF := rgD [0, 1, 12, 13, 24] (aY 16 (pM 0) <|
 aY 17 (pM 5) <|
 aY 18 (pI 2 16 17) <|
 aY 19 (pL true 2 18) <|
 aY 20 (pM 1) <|
 aY 21 (pM 5) <|
 aY 22 (pI 2 20 21) <|
 aY 23 (pL true 2 22) <|
 aY 24 (pB .neq 72 19 23) <|
 aYZ)
 (aXZ)
noncomputable def f37_r7 (c : CallF) : RF := rg [4] <| aX 4 (pM (cn (.bool false))) <|
 aXZ
noncomputable def f37_r8 (c : CallF) : RF := rg [0, 1, 12, 13] <| aX 25 (pB .add 3 13 (cn (.int .i64 1))) <|
 aX 13 (pM 25) <|
 aXZ
noncomputable def f37_r9 (c : CallF) : RF := rg [4] <| aX 4 (pM (cn (.bool true))) <|
 aXZ
noncomputable def f37_l4 (c : CallF) (k : Nat) : St :=
 (bSeq (bReg (f37_r4 c))
 (bSeq (bCond (.tmp 14) (bEx .nrm) (bEx (.ext 0)))
 (bSeq (bBlock 1 (bSeq (bReg (f37_r5 c))
 (bSeq (bReg (f37_r6 c))
 (bCond (.tmp 24) (bSeq (bReg (f37_r7 c))
 (bEx .ret)) (bEx .nrm)))))
 (bReg (f37_r8 c)))))
noncomputable def f37 (c : CallF) (k : Nat) : St :=
 (bSeq (bReg (f37_r0 c))
 (bSeq (bSeq (bReg (f37_r1 c))
 (bCond (.tmp 10) (bSeq (bReg (f37_r2 c))
 (bEx .ret)) (bEx .nrm)))
 (bSeq (bSeq (bReg (f37_r3 c))
 (bBlock 0 (bLoop [0, 1, 12, 13] (f37_l4 c k) k)))
 (bSeq (bReg (f37_r9 c))
 (bEx .ret)))))
theorem f37_eq (c : CallF) (k : Nat) : exec cx c 26 f37_an k (Try.f37.body.getD .skip) = f37 c k := by kernel_rfl
/-! ### f38: loop.example/g01263/laws.eqHalf -/
def f38_an : Ann := ⟨[(0, r0 [2, 3]), (1, r0 [2, 3, 9]), (2, r0 [4]), (3, r0 [2, 3, 15]), (4, r0 [4]), (5, r0 [21]), (6, r0 [4]), (7, r0 [4])], []⟩
noncomputable def f38_r0 (c : CallF) : RF := rg [2, 3] <| aX 2 (pBox 18 0) <|
 aX 3 (pBox 18 1) <|
 aX 4 (pM (cn (.bool false))) <|
 aXZ
noncomputable def f38_r1 (c : CallF) : RF := rg [2, 3, 9] <| aX 5 (pF 0 1 2) <|
 aX 6 (pL false 1 5) <|
 aX 7 (pF 0 1 3) <|
 aX 8 (pL false 1 7) <|
 aX 9 (pB .neq 4 6 8) <|
 aXZ
noncomputable def f38_r2 (c : CallF) : RF := rg [4] <| aX 4 (pM (cn (.bool false))) <|
 aXZ
noncomputable def f38_r3 (c : CallF) : RF := rg [2, 3, 15] <| aX 10 (pF 1 1 2) <|
 aX 11 (pL false 1 10) <|
 aX 12 (pF 1 1 3) <|
 aX 13 (pL false 1 12) <|
 aX 14 (pK c false 68 [11, 13]) <|
 aX 15 (pU .not 14) <|
 aXZ
noncomputable def f38_r4 (c : CallF) : RF := rg [4] <| aX 4 (pM (cn (.bool false))) <|
 aXZ
noncomputable def f38_r5 (c : CallF) : RF := rg [21] <| aX 16 (pF 2 16 2) <|
 aX 17 (pL true 16 16) <|
 aX 18 (pF 2 16 3) <|
 aX 19 (pL true 16 18) <|
 aX 20 (pK c false 69 [17, 19]) <|
 aX 21 (pU .not 20) <|
 aXZ
noncomputable def f38_r6 (c : CallF) : RF := rg [4] <| aX 4 (pM (cn (.bool false))) <|
 aXZ
noncomputable def f38_r7 (c : CallF) : RF := rg [4] <| aX 4 (pM (cn (.bool true))) <|
 aXZ
noncomputable def f38 (c : CallF) (k : Nat) : St :=
 (bSeq (bReg (f38_r0 c))
 (bSeq (bSeq (bReg (f38_r1 c))
 (bCond (.tmp 9) (bSeq (bReg (f38_r2 c))
 (bEx .ret)) (bEx .nrm)))
 (bSeq (bSeq (bReg (f38_r3 c))
 (bCond (.tmp 15) (bSeq (bReg (f38_r4 c))
 (bEx .ret)) (bEx .nrm)))
 (bSeq (bSeq (bReg (f38_r5 c))
 (bCond (.tmp 21) (bSeq (bReg (f38_r6 c))
 (bEx .ret)) (bEx .nrm)))
 (bSeq (bReg (f38_r7 c))
 (bEx .ret))))))
theorem f38_eq (c : CallF) (k : Nat) : exec cx c 22 f38_an k (Try.f38.body.getD .skip) = f38 c k := by kernel_rfl
/-! ### f39: loop.example/g01263/laws.eqMarkS -/
def f39_an : Ann := ⟨[(0, r0 [0, 1]), (1, r0 [0, 1, 10]), (2, r0 [4]), (3, r0 [0, 1, 5]), (4, r0 [0, 1, 5, 14]), (5, r0 [0, 1, 5]), (6, r0 [0, 1, 5, 26]), (7, r0 [4]), (8, r0 [4])], [(4, [0, 1, 5])]⟩
noncomputable def f39_r0 (c : CallF) : RF := rg [0, 1] <| aX 4 (pM (cn (.bool false))) <|
 aXZ
noncomputable def f39_r1 (c : CallF) : RF := rg [0, 1, 10] <| aX 6 (pM 0) <|
 aX 7 (pLen 36 6) <|
 aX 8 (pM 1) <|
 aX 9 (pLen 36 8) <|
 aX 10 (pB .neq 3 7 9) <|
 aXZ
noncomputable def f39_r2 (c : CallF) : RF := rg [4] <| aX 4 (pM (cn (.bool false))) <|
 aXZ
noncomputable def f39_r3 (c : CallF) : RF := rg [0, 1, 5] <| aX 5 (pM (cn (.int .i64 0))) <|
 aXZ
noncomputable def f39_r4 (c : CallF) : RF := rg [0, 1, 5, 14] <| aX 11 (pM 5) <|
 aX 12 (pM 0) <|
 aX 13 (pLen 36 12) <|
 aX 14 (pB .lss 3 11 13) <|
 aXZ
noncomputable def f39_r5 (c : CallF) : RF := rg [0, 1, 5] <| aX 15 (pM 5) <|
 aX 16 (pB .add 3 15 (cn (.int .i64 1))) <|
 aX 5 (pM 16) <|
 aXZ
noncomputable def f39_r6 (c : CallF) : RF := rgD [0, 1, 5, 26] (aY 17 (pM 0) <|
 aY 18 (pM 5) <|
 aY 19 (pI 2 17 18) <|
 aY 20 (pL true 2 19) <|
 aY 21 (pM 1) <|
 aY 22 (pM 5) <|
 aY 23 (pI 2 21 22) <|
 aY 24 (pL true 2 23) <|
 aY 25 (pK c false 70 [20, 24]) <|
 aY 26 (pU .not 25) <|
 aYZ)
 (aXZ)
noncomputable def f39_r7 (c : CallF) : RF := rg [4] <| aX 4 (pM (cn (.bool false))) <|
 aXZ
noncomputable def f39_r8 (c : CallF) : RF := rg [4] <| aX 4 (pM (cn (.bool true))) <|
 aXZ
noncomputable def f39_l4 (c : CallF) (k : Nat) : St :=
 (bSeq (bSeq (bReg (f39_r4 c))
 (bCond (.tmp 14) (bEx .nrm) (bEx (.ext 0))))
 (bSeq (bBlock 1 (bSeq (bReg (f39_r6 c))
 (bCond (.tmp 26) (bSeq (bReg (f39_r7 c))
 (bEx .ret)) (bEx .nrm))))
 (bReg (f39_r5 c))))
noncomputable def f39 (c : CallF) (k : Nat) : St :=
 (bSeq (bReg (f39_r0 c))
 (bSeq (bSeq (bReg (f39_r1 c))
 (bCond (.tmp 10) (bSeq (bReg (f39_r2 c))
 (bEx .ret)) (bEx .nrm)))
 (bSeq (bSeq (bReg (f39_r3 c))
 (bBlock 0 (bLoop [0, 1, 5] (f39_l4 c k) k)))
 (bSeq (bReg (f39_r8 c))
 (bEx .ret)))))
theorem f39_eq (c : CallF) (k : Nat) : exec cx c 27 f39_an k (Try.f39.body.getD .skip) = f39 c k := by kernel_rfl
/-! ### f61: loop.example/g01263/laws.szNotchS -/
def f61_an : Ann := ⟨[(0, r0 [0, 1]), (1, r0 [1]), (2, r0 [1, 10]), (3, r0 [4]), (4, r0 [4])], []⟩
noncomputable def f61_r0 (c : CallF) : RF := rg [0, 1] <| aX 4 (pM (cn (.int .i64 0))) <|
 aXZ
noncomputable def f61_r1 (c : CallF) : RF := rg [1] <| aX 5 (pM 1) <|
 aX 6 (pM 0) <|
 aX 7 (pLen 22 6) <|
 aX 8 (pB .sub 3 5 7) <|
 aX 1 (pM 8) <|
 aXZ
noncomputable def f61_r2 (c : CallF) : RF := rg [1, 10] <| aX 9 (pM 1) <|
 aX 10 (pB .lss 3 9 (cn (.int .i64 0))) <|
 aXZ
noncomputable def f61_r3 (c : CallF) : RF := rg [4] <| aX 4 (pM (cn (.int .i64 (-1)))) <|
 aXZ
noncomputable def f61_r4 (c : CallF) : RF := rg [4] <| aX 11 (pM 1) <|
 aX 4 (pM 11) <|
 aXZ
noncomputable def f61 (c : CallF) (k : Nat) : St :=
 (bSeq (bReg (f61_r0 c))
 (bSeq (bReg (f61_r1 c))
 (bSeq (bSeq (bReg (f61_r2 c))
 (bCond (.tmp 10) (bSeq (bReg (f61_r3 c))
 (bEx .ret)) (bEx .nrm)))
 (bSeq (bReg (f61_r4 c))
 (bEx .ret)))))
theorem f61_eq (c : CallF) (k : Nat) : exec cx c 12 f61_an k (Try.f61.body.getD .skip) = f61 c k := by kernel_rfl
/-! ### f62: loop.example/g01263/laws.szMark -/
def f62_an : Ann := ⟨[(0, r0 [1, 2]), (1, r0 [1]), (2, r0 [1, 11]), (3, r0 [4]), (4, r0 [4])], []⟩
noncomputable def f62_r0 (c : CallF) : RF := rg [1, 2] <| aX 2 (pBox 2 0) <|
 aX 4 (pM (cn (.int .i64 0))) <|
 aXZ
noncomputable def f62_r1 (c : CallF) : RF := rg [1] <| aX 5 (pM 1) <|
 aX 6 (pF 0 1 2) <|
 aX 7 (pL false 1 6) <|
 aX 8 (pLen 9 7) <|
 aX 9 (pB .sub 3 5 8) <|
 aX 1 (pM 9) <|
 aXZ
noncomputable def f62_r2 (c : CallF) : RF := rg [1, 11] <| aX 10 (pM 1) <|
 aX 11 (pB .lss 3 10 (cn (.int .i64 0))) <|
 aXZ
noncomputable def f62_r3 (c : CallF) : RF := rg [4] <| aX 4 (pM (cn (.int .i64 (-1)))) <|
 aXZ
noncomputable def f62_r4 (c : CallF) : RF := rg [4] <| aX 12 (pM 1) <|
 aX 4 (pM 12) <|
 aXZ
noncomputable def f62 (c : CallF) (k : Nat) : St :=
 (bSeq (bReg (f62_r0 c))
 (bSeq (bReg (f62_r1 c))
 (bSeq (bSeq (bReg (f62_r2 c))
 (bCond (.tmp 11) (bSeq (bReg (f62_r3 c))
 (bEx .ret)) (bEx .nrm)))
 (bSeq (bReg (f62_r4 c))
 (bEx .ret)))))
theorem f62_eq (c : CallF) (k : Nat) : exec cx c 13 f62_an k (Try.f62.body.getD .skip) = f62 c k := by kernel_rfl
/-! ### f63: loop.example/g01263/spec.l01SameNotches -/
def f63_an : Ann := ⟨[(0, r0 [0, 1]), (1, r0 [0, 1, 10]), (2, r0 [4]), (3, r0 [0, 1, 5]), (4, r0 [0, 1, 5, 14]), (5, r0 [0, 1, 5]), (6, r0 [0, 1, 5, 25]), (7, r0 [4]), (8, r0 [4])], [(4, [0, 1, 5])]⟩
noncomputable def f63_r0 (c : CallF) : RF := rg [0, 1] <| aX 4 (pM (cn (.bool false))) <|
 aXZ
noncomputable def f63_r1 (c : CallF) : RF := rg [0, 1, 10] <| aX 6 (pM 0) <|
 aX 7 (pLen 32 6) <|
 aX 8 (pM 1) <|
 aX 9 (pLen 32 8) <|
 aX 10 (pB .neq 3 7 9) <|
 aXZ
noncomputable def f63_r2 (c : CallF) : RF := rg [4] <| aX 4 (pM (cn (.bool false))) <|
 aXZ
noncomputable def f63_r3 (c : CallF) : RF := rg [0, 1, 5] <| aX 5 (pM (cn (.int .i64 0))) <|
 aXZ
noncomputable def f63_r4 (c : CallF) : RF := rg [0, 1, 5, 14] <| aX 11 (pM 5) <|
 aX 12 (pM 0) <|
 aX 13 (pLen 32 12) <|
 aX 14 (pB .lss 3 11 13) <|
 aXZ
noncomputable def f63_r5 (c : CallF) : RF := rg [0, 1, 5] <| aX 15 (pM 5) <|
 aX 16 (pB .add 3 15 (cn (.int .i64 1))) <|
 aX 5 (pM 16) <|
 aXZ
noncomputable def f63_r6 (c : CallF) : RF := rgD [0, 1, 5, 25] (aY 17 (pM 0) <|
 aY 18 (pM 5) <|
 aY 19 (pI 2 17 18) <|
 aY 20 (pL true 2 19) <|
 aY 21 (pM 1) <|
 aY 22 (pM 5) <|
 aY 23 (pI 2 21 22) <|
 aY 24 (pL true 2 23) <|
 aY 25 (pB .neq 115 20 24) <|
 aYZ)
 (aXZ)
noncomputable def f63_r7 (c : CallF) : RF := rg [4] <| aX 4 (pM (cn (.bool false))) <|
 aXZ
noncomputable def f63_r8 (c : CallF) : RF := rg [4] <| aX 4 (pM (cn (.bool true))) <|
 aXZ
noncomputable def f63_l4 (c : CallF) (k : Nat) : St :=
 (bSeq (bSeq (bReg (f63_r4 c))
 (bCond (.tmp 14) (bEx .nrm) (bEx (.ext 0))))
 (bSeq (bBlock 1 (bSeq (bReg (f63_r6 c))
 (bCond (.tmp 25) (bSeq (bReg (f63_r7 c))
 (bEx .ret)) (bEx .nrm))))
 (bReg (f63_r5 c))))
noncomputable def f63 (c : CallF) (k : Nat) : St :=
 (bSeq (bReg (f63_r0 c))
 (bSeq (bSeq (bReg (f63_r1 c))
 (bCond (.tmp 10) (bSeq (bReg (f63_r2 c))
 (bEx .ret)) (bEx .nrm)))
 (bSeq (bSeq (bReg (f63_r3 c))
 (bBlock 0 (bLoop [0, 1, 5] (f63_l4 c k) k)))
 (bSeq (bReg (f63_r8 c))
 (bEx .ret)))))
theorem f63_eq (c : CallF) (k : Nat) : exec cx c 26 f63_an k (Try.f63.body.getD .skip) = f63 c k := by kernel_rfl
/-! ### f64: loop.example/g01263/laws.toNotchS -/
def f64_an : Ann := ⟨[(0, r0 [0]), (1, r0 [0, 3]), (2, r0 [0, 3, 4]), (3, r0 [0, 3, 4, 11]), (4, r0 [0, 3, 4]), (5, r0 [0, 3, 4]), (6, r0 [2])], [(3, [0, 3, 4])]⟩
noncomputable def f64_r0 (c : CallF) : RF := rg [0] <| aX 2 (pM (cn .nils)) <|
 aXZ
noncomputable def f64_r1 (c : CallF) : RF := rg [0, 3] <| aX 5 (pM 0) <|
 aX 6 (pLen 22 5) <|
 aX 7 (fun n e M => aMakeO n 115 2 4 (zeroOf cx.P 115) (eget e 6) (eget e 6)) <|
 aX 3 (pM 7) <|
 aXZ
noncomputable def f64_r2 (c : CallF) : RF := rg [0, 3, 4] <| aX 4 (pM (cn (.int .i64 0))) <|
 aXZ
noncomputable def f64_r3 (c : CallF) : RF := rg [0, 3, 4, 11] <| aX 8 (pM 4) <|
 aX 9 (pM 0) <|
 aX 10 (pLen 22 9) <|
 aX 11 (pB .lss 3 8 10) <|
 aXZ
noncomputable def f64_r4 (c : CallF) : RF := rg [0, 3, 4] <| aX 12 (pM 4) <|
 aX 13 (pB .add 3 12 (cn (.int .i64 1))) <|
 aX 4 (pM 13) <|
 aXZ
noncomputable def f64_r5 (c : CallF) : RF := rg [0, 3, 4] <| aX 14 (pM 3) <|
 aX 15 (pM 4) <|
 aX 16 (pM 0) <|
 aX 17 (pM 4) <|
 aX 18 (pI 2 16 17) <|
 aX 19 (pL true 2 18) <|
 aX 20 (pK c false 89 [19]) <|
 aX 21 (pI 2 14 15) <|
 aX0 (pS 2 21 20) <|
 aXZ
noncomputable def f64_r6 (c : CallF) : RF := rg [2] <| aX 22 (pM 3) <|
 aX 2 (pM 22) <|
 aXZ
noncomputable def f64_l3 (c : CallF) (k : Nat) : St :=
 (bSeq (bSeq (bReg (f64_r3 c))
 (bCond (.tmp 11) (bEx .nrm) (bEx (.ext 0))))
 (bSeq (bBlock 1 (bReg (f64_r5 c)))
 (bReg (f64_r4 c))))
noncomputable def f64 (c : CallF) (k : Nat) : St :=
 (bSeq (bReg (f64_r0 c))
 (bSeq (bReg (f64_r1 c))
 (bSeq (bSeq (bReg (f64_r2 c))
 (bBlock 0 (bLoop [0, 3, 4] (f64_l3 c k) k)))
 (bSeq (bReg (f64_r6 c))
 (bEx .ret)))))
theorem f64_eq (c : CallF) (k : Nat) : exec cx c 23 f64_an k (Try.f64.body.getD .skip) = f64 c k := by kernel_rfl
/-! ### f65: loop.example/g01263/laws.toGrain -/
def f65_an : Ann := ⟨[(0, r0 [1, 2]), (1, r0 [1, 2, 3]), (2, r0 [1, 2, 3, 4]), (3, r0 [1, 2, 3, 4, 6]), (4, r0 [1, 2, 3, 4]), (5, r0 [1, 2, 3, 4]), (6, r0 [2])], [(3, [1, 2, 3, 4])]⟩
noncomputable def f65_r0 (c : CallF) : RF := rg [1, 2] <| aX 1 (pBox 16 0) <|
 aX 2 (pAl 33 16) <|
 aXZ
noncomputable def f65_r1 (c : CallF) : RF := rg [1, 2, 3] <| aX 3 (pAl 33 16) <|
 aXZ
noncomputable def f65_r2 (c : CallF) : RF := rg [1, 2, 3, 4] <| aX 4 (pM (cn (.int .i64 0))) <|
 aXZ
noncomputable def f65_r3 (c : CallF) : RF := rg [1, 2, 3, 4, 6] <| aX 5 (pM 4) <|
 aX 6 (pB .lss 3 5 (cn (.int .i64 16))) <|
 aXZ
noncomputable def f65_r4 (c : CallF) : RF := rg [1, 2, 3, 4] <| aX 7 (pM 4) <|
 aX 8 (pB .add 3 7 (cn (.int .i64 1))) <|
 aX 4 (pM 8) <|
 aXZ
noncomputable def f65_r5 (c : CallF) : RF := rg [1, 2, 3, 4] <| aX 9 (pM 4) <|
 aX 10 (pM 4) <|
 aX 11 (fun n e M => keep (aIndexP 16 1 (eget e 1) (eget e 10) M)) <|
 aX 12 (pL false 1 11) <|
 aX 13 (fun n e M => keep (aIndexP 16 1 (eget e 3) (eget e 9) M)) <|
 aX0 (pS 1 13 12) <|
 aXZ
noncomputable def f65_r6 (c : CallF) : RF := rg [2] <| aX 14 (pL true 16 3) <|
 aX0 (pS 16 2 14) <|
 aXZ
noncomputable def f65_l3 (c : CallF) (k : Nat) : St :=
 (bSeq (bSeq (bReg (f65_r3 c))
 (bCond (.tmp 6) (bEx .nrm) (bEx (.ext 0))))
 (bSeq (bBlock 1 (bReg (f65_r5 c)))
 (bReg (f65_r4 c))))
noncomputable def f65 (c : CallF) (k : Nat) : St :=
 (bSeq (bReg (f65_r0 c))
 (bSeq (bReg (f65_r1 c))
 (bSeq (bSeq (bReg (f65_r2 c))
 (bBlock 0 (bLoop [1, 2, 3, 4] (f65_l3 c k) k)))
 (bSeq (bReg (f65_r6 c))
 (bEx .ret)))))
theorem f65_eq (c : CallF) (k : Nat) : exec cx c 15 f65_an k (Try.f65.body.getD .skip) = f65 c k := by kernel_rfl
/-! ### f66: loop.example/g01263/laws.toMark -/
def f66_an : Ann := ⟨[(0, r0 [1, 2]), (1, r0 [1, 2, 3]), (2, r0 [1, 2, 3]), (3, r0 [2, 3]), (4, r0 [2])], []⟩
noncomputable def f66_r0 (c : CallF) : RF := rg [1, 2] <| aX 1 (pBox 2 0) <|
 aX 2 (pAl 72 2) <|
 aXZ
noncomputable def f66_r1 (c : CallF) : RF := rg [1, 2, 3] <| aX 3 (pAl 72 2) <|
 aXZ
noncomputable def f66_r2 (c : CallF) : RF := rg [1, 2, 3] <| aX 4 (pF 0 1 1) <|
 aX 5 (pL false 1 4) <|
 aX 6 (pF 0 1 3) <|
 aX0 (pS 1 6 5) <|
 aXZ
noncomputable def f66_r3 (c : CallF) : RF := rg [2, 3] <| aX 7 (pF 1 1 1) <|
 aX 8 (pL false 1 7) <|
 aX 9 (pF 1 1 3) <|
 aX0 (pS 1 9 8) <|
 aXZ
noncomputable def f66_r4 (c : CallF) : RF := rg [2] <| aX 10 (pL true 2 3) <|
 aX0 (pS 2 2 10) <|
 aXZ
noncomputable def f66 (c : CallF) (k : Nat) : St :=
 (bSeq (bReg (f66_r0 c))
 (bSeq (bReg (f66_r1 c))
 (bSeq (bReg (f66_r2 c))
 (bSeq (bReg (f66_r3 c))
 (bSeq (bReg (f66_r4 c))
 (bEx .ret))))))
theorem f66_eq (c : CallF) (k : Nat) : exec cx c 11 f66_an k (Try.f66.body.getD .skip) = f66 c k := by kernel_rfl
/-! ### f67: slices.Equal[[]loop.example/g01263/impl.Notch,loop.example/g01263/impl.Notch] -/
def f67_an : Ann := ⟨[(0, r0 [0, 1]), (1, r0 [0, 1, 10]), (2, r0 [4]), (3, r0 [0, 1, 12, 13]), (4, r0 [0, 1, 12, 13, 14]), (5, r0 [0, 1, 5, 12, 13]), (6, r0 [0, 1, 12, 13, 24]), (7, r0 [4]), (8, r0 [0, 1, 12, 13]), (9, r0 [4])], [(4, [0, 1, 12, 13])]⟩
noncomputable def f67_r0 (c : CallF) : RF := rg [0, 1] <| aX 4 (pM (cn (.bool false))) <|
 aXZ
noncomputable def f67_r1 (c : CallF) : RF := rg [0, 1, 10] <| aX 6 (pM 0) <|
 aX 7 (pLen 32 6) <|
 aX 8 (pM 1) <|
 aX 9 (pLen 32 8) <|
 aX 10 (pB .neq 3 7 9) <|
 aXZ
noncomputable def f67_r2 (c : CallF) : RF := rg [4] <| aX 4 (pM (cn (.bool false))) <|
 aXZ
noncomputable def f67_r3 (c : CallF) : RF := rg [0, 1, 12, 13] <| aX 11 (pM 0) <|
 aX 12 (pLen 32 11) <|
 aX 13 (pM (cn (.int .i64 0))) <|
 aXZ
noncomputable def f67_r4 (c : CallF) : RF := rg [0, 1, 12, 13, 14] <| aX 14 (pB .lss 3 13 12) <|
 aXZ
noncomputable def f67_r5 (c : CallF) : RF := rg [0, 1, 5, 12, 13] <| aX 15 (pM 13) <|
 aX 5 (pM 15) <|
 aXZ
noncomputable def f67_r6 (c : CallF) : RF := rgD [0, 1, 12, 13, 24] (aY 16 (pM 0) <|
 aY 17 (pM 5) <|
 aY 18 (pI 2 16 17) <|
 aY 19 (pL true 2 18) <|
 aY 20 (pM 1) <|
 aY 21 (pM 5) <|
 aY 22 (pI 2 20 21) <|
 aY 23 (pL true 2 22) <|
 aY 24 (pB .neq 115 19 23) <|
 aYZ)
 (aXZ)
noncomputable def f67_r7 (c : CallF) : RF := rg [4] <| aX 4 (pM (cn (.bool false))) <|
 aXZ
noncomputable def f67_r8 (c : CallF) : RF := rg [0, 1, 12, 13] <| aX 25 (pB .add 3 13 (cn (.int .i64 1))) <|
 aX 13 (pM 25) <|
 aXZ
noncomputable def f67_r9 (c : CallF) : RF := rg [4] <| aX 4 (pM (cn (.bool true))) <|
 aXZ
noncomputable def f67_l4 (c : CallF) (k : Nat) : St :=
 (bSeq (bReg (f67_r4 c))
 (bSeq (bCond (.tmp 14) (bEx .nrm) (bEx (.ext 0)))
 (bSeq (bBlock 1 (bSeq (bReg (f67_r5 c))
 (bSeq (bReg (f67_r6 c))
 (bCond (.tmp 24) (bSeq (bReg (f67_r7 c))
 (bEx .ret)) (bEx .nrm)))))
 (bReg (f67_r8 c)))))
noncomputable def f67 (c : CallF) (k : Nat) : St :=
 (bSeq (bReg (f67_r0 c))
 (bSeq (bSeq (bReg (f67_r1 c))
 (bCond (.tmp 10) (bSeq (bReg (f67_r2 c))
 (bEx .ret)) (bEx .nrm)))
 (bSeq (bSeq (bReg (f67_r3 c))
 (bBlock 0 (bLoop [0, 1, 12, 13] (f67_l4 c k) k)))
 (bSeq (bReg (f67_r9 c))
 (bEx .ret)))))
theorem f67_eq (c : CallF) (k : Nat) : exec cx c 26 f67_an k (Try.f67.body.getD .skip) = f67 c k := by kernel_rfl
/-! ### f68: loop.example/g01263/laws.eqNotchS -/
def f68_an : Ann := ⟨[(0, r0 [0, 1]), (1, r0 [0, 1, 10]), (2, r0 [4]), (3, r0 [0, 1, 5]), (4, r0 [0, 1, 5, 14]), (5, r0 [0, 1, 5]), (6, r0 [0, 1, 5, 26]), (7, r0 [4]), (8, r0 [4])], [(4, [0, 1, 5])]⟩
noncomputable def f68_r0 (c : CallF) : RF := rg [0, 1] <| aX 4 (pM (cn (.bool false))) <|
 aXZ
noncomputable def f68_r1 (c : CallF) : RF := rg [0, 1, 10] <| aX 6 (pM 0) <|
 aX 7 (pLen 32 6) <|
 aX 8 (pM 1) <|
 aX 9 (pLen 32 8) <|
 aX 10 (pB .neq 3 7 9) <|
 aXZ
noncomputable def f68_r2 (c : CallF) : RF := rg [4] <| aX 4 (pM (cn (.bool false))) <|
 aXZ
noncomputable def f68_r3 (c : CallF) : RF := rg [0, 1, 5] <| aX 5 (pM (cn (.int .i64 0))) <|
 aXZ
noncomputable def f68_r4 (c : CallF) : RF := rg [0, 1, 5, 14] <| aX 11 (pM 5) <|
 aX 12 (pM 0) <|
 aX 13 (pLen 32 12) <|
 aX 14 (pB .lss 3 11 13) <|
 aXZ
noncomputable def f68_r5 (c : CallF) : RF := rg [0, 1, 5] <| aX 15 (pM 5) <|
 aX 16 (pB .add 3 15 (cn (.int .i64 1))) <|
 aX 5 (pM 16) <|
 aXZ
noncomputable def f68_r6 (c : CallF) : RF := rgD [0, 1, 5, 26] (aY 17 (pM 0) <|
 aY 18 (pM 5) <|
 aY 19 (pI 2 17 18) <|
 aY 20 (pL true 2 19) <|
 aY 21 (pM 1) <|
 aY 22 (pM 5) <|
 aY 23 (pI 2 21 22) <|
 aY 24 (pL true 2 23) <|
 aY 25 (pK c false 90 [20, 24]) <|
 aY 26 (pU .not 25) <|
 aYZ)
 (aXZ)
noncomputable def f68_r7 (c : CallF) : RF := rg [4] <| aX 4 (pM (cn (.bool false))) <|
 aXZ
noncomputable def f68_r8 (c : CallF) : RF := rg [4] <| aX 4 (pM (cn (.bool true))) <|
 aXZ
noncomputable def f68_l4 (c : CallF) (k : Nat) : St :=
 (bSeq (bSeq (bReg (f68_r4 c))
 (bCond (.tmp 14) (bEx .nrm) (bEx (.ext 0))))
 (bSeq (bBlock 1 (bSeq (bReg (f68_r6 c))
 (bCond (.tmp 26) (bSeq (bReg (f68_r7 c))
 (bEx .ret)) (bEx .nrm))))
 (bReg (f68_r5 c))))
noncomputable def f68 (c : CallF) (k : Nat) : St :=
 (bSeq (bReg (f68_r0 c))
 (bSeq (bSeq (bReg (f68_r1 c))
 (bCond (.tmp 10) (bSeq (bReg (f68_r2 c))
 (bEx .ret)) (bEx .nrm)))
 (bSeq (bSeq (bReg (f68_r3 c))
 (bBlock 0 (bLoop [0, 1, 5] (f68_l4 c k) k)))
 (bSeq (bReg (f68_r8 c))
 (bEx .ret)))))
theorem f68_eq (c : CallF) (k : Nat) : exec cx c 27 f68_an k (Try.f68.body.getD .skip) = f68 c k := by kernel_rfl
/-! ### f69: loop.example/g01263/laws.eqGrain -/
def f69_an : Ann := ⟨[(0, r0 [2, 3]), (1, r0 [2, 3, 5]), (2, r0 [2, 3, 5, 7]), (3, r0 [2, 3, 5]), (4, r0 [2, 3, 5, 16]), (5, r0 [4]), (6, r0 [4])], [(2, [2, 3, 5])]⟩
noncomputable def f69_r0 (c : CallF) : RF := rg [2, 3] <| aX 2 (pBox 16 0) <|
 aX 3 (pBox 16 1) <|
 aX 4 (pM (cn (.bool false))) <|
 aXZ
noncomputable def f69_r1 (c : CallF) : RF := rg [2, 3, 5] <| aX 5 (pM (cn (.int .i64 0))) <|
 aXZ
noncomputable def f69_r2 (c : CallF) : RF := rg [2, 3, 5, 7] <| aX 6 (pM 5) <|
 aX 7 (pB .lss 3 6 (cn (.int .i64 16))) <|
 aXZ
noncomputable def f69_r3 (c : CallF) : RF := rg [2, 3, 5] <| aX 8 (pM 5) <|
 aX 9 (pB .add 3 8 (cn (.int .i64 1))) <|
 aX 5 (pM 9) <|
 aXZ
noncomputable def f69_r4 (c : CallF) : RF := rgD [2, 3, 5, 16] (aY 10 (pM 5) <|
 aY 11 (fun n e M => keep (aIndexP 16 1 (eget e 2) (eget e 10) M)) <|
 aY 12 (pL false 1 11) <|
 aY 13 (pM 5) <|
 aY 14 (fun n e M => keep (aIndexP 16 1 (eget e 3) (eget e 13) M)) <|
 aY 15 (pL false 1 14) <|
 aY 16 (pB .neq 23 12 15) <|
 aYZ)
 (aXZ)
noncomputable def f69_r5 (c : CallF) : RF := rg [4] <| aX 4 (pM (cn (.bool false))) <|
 aXZ
noncomputable def f69_r6 (c : CallF) : RF := rg [4] <| aX 4 (pM (cn (.bool true))) <|
 aXZ
noncomputable def f69_l2 (c : CallF) (k : Nat) : St :=
 (bSeq (bSeq (bReg (f69_r2 c))
 (bCond (.tmp 7) (bEx .nrm) (bEx (.ext 0))))
 (bSeq (bBlock 1 (bSeq (bReg (f69_r4 c))
 (bCond (.tmp 16) (bSeq (bReg (f69_r5 c))
 (bEx .ret)) (bEx .nrm))))
 (bReg (f69_r3 c))))
noncomputable def f69 (c : CallF) (k : Nat) : St :=
 (bSeq (bReg (f69_r0 c))
 (bSeq (bSeq (bReg (f69_r1 c))
 (bBlock 0 (bLoop [2, 3, 5] (f69_l2 c k) k)))
 (bSeq (bReg (f69_r6 c))
 (bEx .ret))))
theorem f69_eq (c : CallF) (k : Nat) : exec cx c 17 f69_an k (Try.f69.body.getD .skip) = f69 c k := by kernel_rfl
/-! ### f70: loop.example/g01263/laws.eqMark -/
def f70_an : Ann := ⟨[(0, r0 [2, 3]), (1, r0 [2, 3, 9]), (2, r0 [4]), (3, r0 [14]), (4, r0 [4]), (5, r0 [4])], []⟩
noncomputable def f70_r0 (c : CallF) : RF := rg [2, 3] <| aX 2 (pBox 2 0) <|
 aX 3 (pBox 2 1) <|
 aX 4 (pM (cn (.bool false))) <|
 aXZ
noncomputable def f70_r1 (c : CallF) : RF := rg [2, 3, 9] <| aX 5 (pF 0 1 2) <|
 aX 6 (pL false 1 5) <|
 aX 7 (pF 0 1 3) <|
 aX 8 (pL false 1 7) <|
 aX 9 (pB .neq 9 6 8) <|
 aXZ
noncomputable def f70_r2 (c : CallF) : RF := rg [4] <| aX 4 (pM (cn (.bool false))) <|
 aXZ
noncomputable def f70_r3 (c : CallF) : RF := rg [14] <| aX 10 (pF 1 1 2) <|
 aX 11 (pL false 1 10) <|
 aX 12 (pF 1 1 3) <|
 aX 13 (pL false 1 12) <|
 aX 14 (pB .neq 70 11 13) <|
 aXZ
noncomputable def f70_r4 (c : CallF) : RF := rg [4] <| aX 4 (pM (cn (.bool false))) <|
 aXZ
noncomputable def f70_r5 (c : CallF) : RF := rg [4] <| aX 4 (pM (cn (.bool true))) <|
 aXZ
noncomputable def f70 (c : CallF) (k : Nat) : St :=
 (bSeq (bReg (f70_r0 c))
 (bSeq (bSeq (bReg (f70_r1 c))
 (bCond (.tmp 9) (bSeq (bReg (f70_r2 c))
 (bEx .ret)) (bEx .nrm)))
 (bSeq (bSeq (bReg (f70_r3 c))
 (bCond (.tmp 14) (bSeq (bReg (f70_r4 c))
 (bEx .ret)) (bEx .nrm)))
 (bSeq (bReg (f70_r5 c))
 (bEx .ret)))))
theorem f70_eq (c : CallF) (k : Nat) : exec cx c 15 f70_an k (Try.f70.body.getD .skip) = f70 c k := by kernel_rfl
/-! ### f89: loop.example/g01263/laws.toNotch -/
def f89_an : Ann := ⟨[(0, r0 [1, 2]), (1, r0 [1, 2, 3]), (2, r0 [1, 2, 3]), (3, r0 [2, 3]), (4, r0 [2])], []⟩
noncomputable def f89_r0 (c : CallF) : RF := rg [1, 2] <| aX 1 (pBox 2 0) <|
 aX 2 (pAl 115 2) <|
 aXZ
noncomputable def f89_r1 (c : CallF) : RF := rg [1, 2, 3] <| aX 3 (pAl 115 2) <|
 aXZ
noncomputable def f89_r2 (c : CallF) : RF := rg [1, 2, 3] <| aX 4 (pF 0 1 1) <|
 aX 5 (pL false 1 4) <|
 aX 6 (pF 0 1 3) <|
 aX0 (pS 1 6 5) <|
 aXZ
noncomputable def f89_r3 (c : CallF) : RF := rg [2, 3] <| aX 7 (pF 1 1 1) <|
 aX 8 (pL false 1 7) <|
 aX 9 (pF 1 1 3) <|
 aX0 (pS 1 9 8) <|
 aXZ
noncomputable def f89_r4 (c : CallF) : RF := rg [2] <| aX 10 (pL true 2 3) <|
 aX0 (pS 2 2 10) <|
 aXZ
noncomputable def f89 (c : CallF) (k : Nat) : St :=
 (bSeq (bReg (f89_r0 c))
 (bSeq (bReg (f89_r1 c))
 (bSeq (bReg (f89_r2 c))
 (bSeq (bReg (f89_r3 c))
 (bSeq (bReg (f89_r4 c))
 (bEx .ret))))))
theorem f89_eq (c : CallF) (k : Nat) : exec cx c 11 f89_an k (Try.f89.body.getD .skip) = f89 c k := by kernel_rfl
/-! ### f90: loop.example/g01263/laws.eqNotch -/
def f90_an : Ann := ⟨[(0, r0 [2, 3]), (1, r0 [2, 3, 9]), (2, r0 [4]), (3, r0 [14]), (4, r0 [4]), (5, r0 [4])], []⟩
noncomputable def f90_r0 (c : CallF) : RF := rg [2, 3] <| aX 2 (pBox 2 0) <|
 aX 3 (pBox 2 1) <|
 aX 4 (pM (cn (.bool false))) <|
 aXZ
noncomputable def f90_r1 (c : CallF) : RF := rg [2, 3, 9] <| aX 5 (pF 0 1 2) <|
 aX 6 (pL false 1 5) <|
 aX 7 (pF 0 1 3) <|
 aX 8 (pL false 1 7) <|
 aX 9 (pB .neq 23 6 8) <|
 aXZ
noncomputable def f90_r2 (c : CallF) : RF := rg [4] <| aX 4 (pM (cn (.bool false))) <|
 aXZ
noncomputable def f90_r3 (c : CallF) : RF := rg [14] <| aX 10 (pF 1 1 2) <|
 aX 11 (pL false 1 10) <|
 aX 12 (pF 1 1 3) <|
 aX 13 (pL false 1 12) <|
 aX 14 (pB .neq 113 11 13) <|
 aXZ
noncomputable def f90_r4 (c : CallF) : RF := rg [4] <| aX 4 (pM (cn (.bool false))) <|
 aXZ
noncomputable def f90_r5 (c : CallF) : RF := rg [4] <| aX 4 (pM (cn (.bool true))) <|
 aXZ
noncomputable def f90 (c : CallF) (k : Nat) : St :=
 (bSeq (bReg (f90_r0 c))
 (bSeq (bSeq (bReg (f90_r1 c))
 (bCond (.tmp 9) (bSeq (bReg (f90_r2 c))
 (bEx .ret)) (bEx .nrm)))
 (bSeq (bSeq (bReg (f90_r3 c))
 (bCond (.tmp 14) (bSeq (bReg (f90_r4 c))
 (bEx .ret)) (bEx .nrm)))
 (bSeq (bReg (f90_r5 c))
 (bEx .ret)))))
theorem f90_eq (c : CallF) (k : Nat) : exec cx c 15 f90_an k (Try.f90.body.getD .skip) = f90 c k := by kernel_rfl
def anns : List (Nat × Ann) := [(3, f3_an), (9, f9_an), (10, f10_an), (11, f11_an), (12, f12_an), (13, f13_an), (31, f31_an), (32, f32_an), (33, f33_an), (34, f34_an), (35, f35_an), (36, f36_an), (37, f37_an), (38, f38_an), (39, f39_an), (61, f61_an), (62, f62_an), (63, f63_an), (64, f64_an), (65, f65_an), (66, f66_an), (67, f67_an), (68, f68_an), (69, f69_an), (70, f70_an), (89, f89_an), (90, f90_an)]
noncomputable def CN0 : Nat → CallF := callN cx (Go.Ab.look anns) (fun _ _ _ => none) (fun _ => false)
def isP (f : Nat) : Bool := has [] f
noncomputable def primF : CallF := splitNil (callN cx (Go.Ab.look anns) (fun _ _ _ => none) (fun _ => false) 3)
noncomputable def CN : Nat → CallF := callN cx (Go.Ab.look anns) primF isP
end Go.Proofs.Ythkbjnbbahmpkaa

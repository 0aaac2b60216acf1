/- Printed by a program of ours (ext.py). -/
import Derived.Test.YtbhbmgmnnkcmcaaDoorAbLib
import Derived.Test.YtbhbmgmnnkcmcaaDoorProg
set_option linter.unusedVariables false
set_option linter.unusedSimpArgs false
set_option maxRecDepth 100000
set_option maxHeartbeats 2000000
namespace Go.Proofs.YtbhbmgmnnkcmcaaDoor
open Go Go.Ab
noncomputable def cx : Cx := ⟨Tryd.prog, fun f => has [] f⟩
noncomputable abbrev pB := pB_ cx.P
noncomputable abbrev pLen := pLen_ cx.P
noncomputable abbrev pAl := pAl_ cx.P
noncomputable abbrev pK := pK_ cx
/-! ### f5: loop.example/g01263/laws.FnExactChainText -/
def f5_an : Ann := ⟨[(0, r0 [1]), (1, r0 [1, 3]), (2, r0 [1, 3]), (3, r0 [1, 11]), (4, r0 [2]), (5, r0 [1, 4]), (6, r0 [1, 4, 5]), (7, r0 [1, 4, 5, 6]), (8, r0 [1, 5, 21]), (9, r0 [2]), (10, r0 [26]), (11, r0 [2]), (12, r0 [2])], []⟩
noncomputable def f5_r0 (c : CallF) : RF := rg [1] <| aX 1 (pBox 20 0) <|
 aX 2 (pM (cn (.bool false))) <|
 aXZ
noncomputable def f5_r1 (c : CallF) : RF := rg [1, 3] <| aX 3 (pM (cn (.int .i64 1048576))) <|
 aXZ
noncomputable def f5_r2 (c : CallF) : RF := rg [1, 3] <| aX 7 (pL true 20 1) <|
 aX 8 (pM 3) <|
 aX 9 (pK c false 19 [7, 8]) <|
 aX 3 (pM 9) <|
 aXZ
noncomputable def f5_r3 (c : CallF) : RF := rg [1, 11] <| aX 10 (pM 3) <|
 aX 11 (pB .lss 3 10 (cn (.int .i64 0))) <|
 aXZ
noncomputable def f5_r4 (c : CallF) : RF := rg [2] <| aX 2 (pM (cn (.bool true))) <|
 aXZ
noncomputable def f5_r5 (c : CallF) : RF := rg [1, 4] <| aX 12 (pL true 20 1) <|
 aX 13 (pK c false 21 [12]) <|
 aX 14 (pK c false 20 [13]) <|
 aX 4 (pM 14) <|
 aXZ
noncomputable def f5_r6 (c : CallF) : RF := rg [1, 4, 5] <| aX 15 (pL true 20 1) <|
 aX 16 (pK c false 21 [15]) <|
 aX 5 (pAl 60 20) <|
 aX0 (pS 20 5 16) <|
 aXZ
noncomputable def f5_r7 (c : CallF) : RF := rg [1, 4, 5, 6] <| aX 17 (pL true 20 5) <|
 aX 18 (pK c false 22 [17]) <|
 aX 6 (pM 18) <|
 aXZ
noncomputable def f5_r8 (c : CallF) : RF := rg [1, 5, 21] <| aX 19 (pM 6) <|
 aX 20 (pM 4) <|
 aX 21 (pB .neq 9 19 20) <|
 aXZ
noncomputable def f5_r9 (c : CallF) : RF := rg [2] <| aX 2 (pM (cn (.bool false))) <|
 aXZ
noncomputable def f5_r10 (c : CallF) : RF := rgD [26] (aY 22 (pL true 20 5) <|
 aY 23 (pL true 20 1) <|
 aY 24 (pK c false 21 [23]) <|
 aY 25 (pK c false 23 [22, 24]) <|
 aY 26 (pU .not 25) <|
 aYZ)
 (aXZ)
noncomputable def f5_r11 (c : CallF) : RF := rg [2] <| aX 2 (pM (cn (.bool false))) <|
 aXZ
noncomputable def f5_r12 (c : CallF) : RF := rg [2] <| aX 2 (pM (cn (.bool true))) <|
 aXZ
noncomputable def f5 (c : CallF) (k : Nat) : St :=
 (bSeq (bReg (f5_r0 c))
 (bSeq (bReg (f5_r1 c))
 (bSeq (bReg (f5_r2 c))
 (bSeq (bSeq (bReg (f5_r3 c))
 (bCond (.tmp 11) (bSeq (bReg (f5_r4 c))
 (bEx .ret)) (bEx .nrm)))
 (bSeq (bReg (f5_r5 c))
 (bSeq (bReg (f5_r6 c))
 (bSeq (bReg (f5_r7 c))
 (bSeq (bSeq (bReg (f5_r8 c))
 (bCond (.tmp 21) (bSeq (bReg (f5_r9 c))
 (bEx .ret)) (bEx .nrm)))
 (bSeq (bSeq (bReg (f5_r10 c))
 (bCond (.tmp 26) (bSeq (bReg (f5_r11 c))
 (bEx .ret)) (bEx .nrm)))
 (bSeq (bReg (f5_r12 c))
 (bEx .ret)))))))))))
theorem f5_eq (c : CallF) (k : Nat) : exec cx c 27 f5_an k (Tryd.f5.body.getD .skip) = f5 c k := by kernel_rfl
/-! ### f19: loop.example/g01263/laws.szChain -/
def f19_an : Ann := ⟨[(0, r0 [1, 2]), (1, r0 [1, 2]), (2, r0 [1, 2, 11]), (3, r0 [4]), (4, r0 [1, 2]), (5, r0 [1, 2, 17]), (6, r0 [4]), (7, r0 [1]), (8, r0 [1, 23]), (9, r0 [4]), (10, r0 [4])], []⟩
noncomputable def f19_r0 (c : CallF) : RF := rg [1, 2] <| aX 2 (pBox 20 0) <|
 aX 4 (pM (cn (.int .i64 0))) <|
 aXZ
noncomputable def f19_r1 (c : CallF) : RF := rg [1, 2] <| aX 5 (pM 1) <|
 aX 6 (pF 0 1 2) <|
 aX 7 (pL false 1 6) <|
 aX 8 (pLen 9 7) <|
 aX 9 (pB .sub 3 5 8) <|
 aX 1 (pM 9) <|
 aXZ
noncomputable def f19_r2 (c : CallF) : RF := rg [1, 2, 11] <| aX 10 (pM 1) <|
 aX 11 (pB .lss 3 10 (cn (.int .i64 0))) <|
 aXZ
noncomputable def f19_r3 (c : CallF) : RF := rg [4] <| aX 4 (pM (cn (.int .i64 (-1)))) <|
 aXZ
noncomputable def f19_r4 (c : CallF) : RF := rg [1, 2] <| aX 12 (pF 1 18 2) <|
 aX 13 (pL true 18 12) <|
 aX 14 (pM 1) <|
 aX 15 (pK c false 54 [13, 14]) <|
 aX 1 (pM 15) <|
 aXZ
noncomputable def f19_r5 (c : CallF) : RF := rg [1, 2, 17] <| aX 16 (pM 1) <|
 aX 17 (pB .lss 3 16 (cn (.int .i64 0))) <|
 aXZ
noncomputable def f19_r6 (c : CallF) : RF := rg [4] <| aX 4 (pM (cn (.int .i64 (-1)))) <|
 aXZ
noncomputable def f19_r7 (c : CallF) : RF := rg [1] <| aX 18 (pF 19 1 2) <|
 aX 19 (pL false 1 18) <|
 aX 20 (pM 1) <|
 aX 21 (pK c false 55 [19, 20]) <|
 aX 1 (pM 21) <|
 aXZ
noncomputable def f19_r8 (c : CallF) : RF := rg [1, 23] <| aX 22 (pM 1) <|
 aX 23 (pB .lss 3 22 (cn (.int .i64 0))) <|
 aXZ
noncomputable def f19_r9 (c : CallF) : RF := rg [4] <| aX 4 (pM (cn (.int .i64 (-1)))) <|
 aXZ
noncomputable def f19_r10 (c : CallF) : RF := rg [4] <| aX 24 (pM 1) <|
 aX 4 (pM 24) <|
 aXZ
noncomputable def f19 (c : CallF) (k : Nat) : St :=
 (bSeq (bReg (f19_r0 c))
 (bSeq (bReg (f19_r1 c))
 (bSeq (bSeq (bReg (f19_r2 c))
 (bCond (.tmp 11) (bSeq (bReg (f19_r3 c))
 (bEx .ret)) (bEx .nrm)))
 (bSeq (bReg (f19_r4 c))
 (bSeq (bSeq (bReg (f19_r5 c))
 (bCond (.tmp 17) (bSeq (bReg (f19_r6 c))
 (bEx .ret)) (bEx .nrm)))
 (bSeq (bReg (f19_r7 c))
 (bSeq (bSeq (bReg (f19_r8 c))
 (bCond (.tmp 23) (bSeq (bReg (f19_r9 c))
 (bEx .ret)) (bEx .nrm)))
 (bSeq (bReg (f19_r10 c))
 (bEx .ret)))))))))
theorem f19_eq (c : CallF) (k : Nat) : exec cx c 25 f19_an k (Tryd.f19.body.getD .skip) = f19 c k := by kernel_rfl
/-! ### f20: loop.example/g01263/spec.ChainText -/
def f20_an : Ann := ⟨[(0, r0 [1]), (1, r0 [1, 4]), (2, r0 [2]), (3, r0 [2])], []⟩
noncomputable def f20_r0 (c : CallF) : RF := rg [1] <| aX 1 (pBox 20 0) <|
 aX 2 (pM (cn (.str []))) <|
 aXZ
noncomputable def f20_r1 (c : CallF) : RF := rg [1, 4] <| aX 3 (pK c false 56 [1]) <|
 aX 4 (pU .not 3) <|
 aXZ
noncomputable def f20_r2 (c : CallF) : RF := rg [2] <| aX 2 (pM (cn (.str []))) <|
 aXZ
noncomputable def f20_r3 (c : CallF) : RF := rg [2] <| aX 5 (pK c false 57 [1]) <|
 aX 2 (pM 5) <|
 aXZ
noncomputable def f20 (c : CallF) (k : Nat) : St :=
 (bSeq (bReg (f20_r0 c))
 (bSeq (bSeq (bReg (f20_r1 c))
 (bCond (.tmp 4) (bSeq (bReg (f20_r2 c))
 (bEx .ret)) (bEx .nrm)))
 (bSeq (bReg (f20_r3 c))
 (bEx .ret))))
theorem f20_eq (c : CallF) (k : Nat) : exec cx c 6 f20_an k (Tryd.f20.body.getD .skip) = f20 c k := by kernel_rfl
/-! ### f21: loop.example/g01263/laws.toChain -/
def f21_an : Ann := ⟨[(0, r0 [1, 2]), (1, r0 [1, 2, 3]), (2, r0 [1, 2, 3]), (3, r0 [1, 2, 3]), (4, r0 [2, 3]), (5, r0 [2])], []⟩
noncomputable def f21_r0 (c : CallF) : RF := rg [1, 2] <| aX 1 (pBox 20 0) <|
 aX 2 (pAl 60 20) <|
 aXZ
noncomputable def f21_r1 (c : CallF) : RF := rg [1, 2, 3] <| aX 3 (pAl 60 20) <|
 aXZ
noncomputable def f21_r2 (c : CallF) : RF := rg [1, 2, 3] <| aX 4 (pF 0 1 1) <|
 aX 5 (pL false 1 4) <|
 aX 6 (pF 0 1 3) <|
 aX0 (pS 1 6 5) <|
 aXZ
noncomputable def f21_r3 (c : CallF) : RF := rg [1, 2, 3] <| aX 7 (pF 1 18 1) <|
 aX 8 (pL true 18 7) <|
 aX 9 (pK c false 58 [8]) <|
 aX 10 (pF 1 18 3) <|
 aX0 (pS 18 10 9) <|
 aXZ
noncomputable def f21_r4 (c : CallF) : RF := rg [2, 3] <| aX 11 (pF 19 1 1) <|
 aX 12 (pL false 1 11) <|
 aX 13 (pK c false 59 [12]) <|
 aX 14 (pF 19 1 3) <|
 aX0 (pS 1 14 13) <|
 aXZ
noncomputable def f21_r5 (c : CallF) : RF := rg [2] <| aX 15 (pL true 20 3) <|
 aX0 (pS 20 2 15) <|
 aXZ
noncomputable def f21 (c : CallF) (k : Nat) : St :=
 (bSeq (bReg (f21_r0 c))
 (bSeq (bReg (f21_r1 c))
 (bSeq (bReg (f21_r2 c))
 (bSeq (bReg (f21_r3 c))
 (bSeq (bReg (f21_r4 c))
 (bSeq (bReg (f21_r5 c))
 (bEx .ret)))))))
theorem f21_eq (c : CallF) (k : Nat) : exec cx c 16 f21_an k (Tryd.f21.body.getD .skip) = f21 c k := by kernel_rfl
/-! ### f22: loop.example/g01263/impl.ChainText -/
def f22_an : Ann := ⟨[(0, r0 [1]), (1, r0 [1, 8]), (2, r0 [2]), (3, r0 [1, 3]), (4, r0 [3, 18, 19, 20]), (5, r0 [3, 18, 19, 20, 21]), (6, r0 [3, 5, 18, 19, 20]), (7, r0 [3, 18, 19, 20]), (8, r0 [3, 18, 19, 20]), (9, r0 [2])], [(5, [3, 18, 19, 20])]⟩
noncomputable def f22_r0 (c : CallF) : RF := rg [1] <| aX 1 (pBox 20 0) <|
 aX 2 (pM (cn (.str []))) <|
 aXZ
noncomputable def f22_r1 (c : CallF) : RF := rg [1, 8] <| aX 6 (pL true 20 1) <|
 aX 7 (pK c false 60 [6]) <|
 aX 8 (pU .not 7) <|
 aXZ
noncomputable def f22_r2 (c : CallF) : RF := rg [2] <| aX 2 (pM (cn (.str []))) <|
 aXZ
noncomputable def f22_r3 (c : CallF) : RF := rgD [1, 3] (aY 9 (pF 0 1 1) <|
 aY 10 (pL false 1 9) <|
 aY 11 (pB .add 9 10 (cn (.str [32]))) <|
 aY 12 (pF 1 18 1) <|
 aY 13 (pL true 18 12) <|
 aY 14 (pK c false 61 [13]) <|
 aY 15 (pB .add 9 11 14) <|
 aY 16 (pB .add 9 15 (cn (.str [10]))) <|
 aY 3 (pM 16) <|
 aYZ)
 (aXZ)
noncomputable def f22_r4 (c : CallF) : RF := rg [3, 18, 19, 20] <| aX 17 (pF 19 1 1) <|
 aX 18 (pL false 1 17) <|
 aX 19 (pLen 58 18) <|
 aX 20 (pM (cn (.int .i64 0))) <|
 aXZ
noncomputable def f22_r5 (c : CallF) : RF := rg [3, 18, 19, 20, 21] <| aX 21 (pB .lss 3 20 19) <|
 aXZ
noncomputable def f22_r6 (c : CallF) : RF := rg [3, 5, 18, 19, 20] <| aX 22 (pI 2 18 20) <|
 aX 23 (pL true 2 22) <|
 aX 5 (pAl 107 2) <|
 aX0 (pS 2 5 23) <|
 aXZ
noncomputable def f22_r7 (c : CallF) : RF := rgD [3, 18, 19, 20] (aY 24 (pM 3) <|
 aY 25 (pF 0 1 5) <|
 aY 26 (pL false 1 25) <|
 aY 27 (pB .add 9 26 (cn (.str [32]))) <|
 aY 28 (pF 1 1 5) <|
 aY 29 (pL false 1 28) <|
 aY 30 (pK c false 62 [29]) <|
 aY 31 (pB .add 9 27 30) <|
 aY 32 (pB .add 9 31 (cn (.str [10]))) <|
 aY 33 (pB .add 9 24 32) <|
 aY 3 (pM 33) <|
 aYZ)
 (aXZ)
noncomputable def f22_r8 (c : CallF) : RF := rg [3, 18, 19, 20] <| aX 34 (pB .add 3 20 (cn (.int .i64 1))) <|
 aX 20 (pM 34) <|
 aXZ
noncomputable def f22_r9 (c : CallF) : RF := rg [2] <| aX 35 (pM 3) <|
 aX 2 (pM 35) <|
 aXZ
noncomputable def f22_l5 (c : CallF) (k : Nat) : St :=
 (bSeq (bReg (f22_r5 c))
 (bSeq (bCond (.tmp 21) (bEx .nrm) (bEx (.ext 0)))
 (bSeq (bBlock 1 (bSeq (bReg (f22_r6 c))
 (bReg (f22_r7 c))))
 (bReg (f22_r8 c)))))
noncomputable def f22 (c : CallF) (k : Nat) : St :=
 (bSeq (bReg (f22_r0 c))
 (bSeq (bSeq (bReg (f22_r1 c))
 (bCond (.tmp 8) (bSeq (bReg (f22_r2 c))
 (bEx .ret)) (bEx .nrm)))
 (bSeq (bReg (f22_r3 c))
 (bSeq (bSeq (bReg (f22_r4 c))
 (bBlock 0 (bLoop [3, 18, 19, 20] (f22_l5 c k) k)))
 (bSeq (bReg (f22_r9 c))
 (bEx .ret))))))
theorem f22_eq (c : CallF) (k : Nat) : exec cx c 36 f22_an k (Tryd.f22.body.getD .skip) = f22 c k := by kernel_rfl
/-! ### f23: loop.example/g01263/laws.eqChain -/
def f23_an : Ann := ⟨[(0, r0 [2, 3]), (1, r0 [2, 3, 9]), (2, r0 [4]), (3, r0 [2, 3, 15]), (4, r0 [4]), (5, r0 [21]), (6, r0 [4]), (7, r0 [4])], []⟩
noncomputable def f23_r0 (c : CallF) : RF := rg [2, 3] <| aX 2 (pBox 20 0) <|
 aX 3 (pBox 20 1) <|
 aX 4 (pM (cn (.bool false))) <|
 aXZ
noncomputable def f23_r1 (c : CallF) : RF := rg [2, 3, 9] <| aX 5 (pF 0 1 2) <|
 aX 6 (pL false 1 5) <|
 aX 7 (pF 0 1 3) <|
 aX 8 (pL false 1 7) <|
 aX 9 (pB .neq 9 6 8) <|
 aXZ
noncomputable def f23_r2 (c : CallF) : RF := rg [4] <| aX 4 (pM (cn (.bool false))) <|
 aXZ
noncomputable def f23_r3 (c : CallF) : RF := rg [2, 3, 15] <| aX 10 (pF 1 18 2) <|
 aX 11 (pL true 18 10) <|
 aX 12 (pF 1 18 3) <|
 aX 13 (pL true 18 12) <|
 aX 14 (pK c false 63 [11, 13]) <|
 aX 15 (pU .not 14) <|
 aXZ
noncomputable def f23_r4 (c : CallF) : RF := rg [4] <| aX 4 (pM (cn (.bool false))) <|
 aXZ
noncomputable def f23_r5 (c : CallF) : RF := rg [21] <| aX 16 (pF 19 1 2) <|
 aX 17 (pL false 1 16) <|
 aX 18 (pF 19 1 3) <|
 aX 19 (pL false 1 18) <|
 aX 20 (pK c false 64 [17, 19]) <|
 aX 21 (pU .not 20) <|
 aXZ
noncomputable def f23_r6 (c : CallF) : RF := rg [4] <| aX 4 (pM (cn (.bool false))) <|
 aXZ
noncomputable def f23_r7 (c : CallF) : RF := rg [4] <| aX 4 (pM (cn (.bool true))) <|
 aXZ
noncomputable def f23 (c : CallF) (k : Nat) : St :=
 (bSeq (bReg (f23_r0 c))
 (bSeq (bSeq (bReg (f23_r1 c))
 (bCond (.tmp 9) (bSeq (bReg (f23_r2 c))
 (bEx .ret)) (bEx .nrm)))
 (bSeq (bSeq (bReg (f23_r3 c))
 (bCond (.tmp 15) (bSeq (bReg (f23_r4 c))
 (bEx .ret)) (bEx .nrm)))
 (bSeq (bSeq (bReg (f23_r5 c))
 (bCond (.tmp 21) (bSeq (bReg (f23_r6 c))
 (bEx .ret)) (bEx .nrm)))
 (bSeq (bReg (f23_r7 c))
 (bEx .ret))))))
theorem f23_eq (c : CallF) (k : Nat) : exec cx c 22 f23_an k (Tryd.f23.body.getD .skip) = f23 c k := by kernel_rfl
/-! ### f54: loop.example/g01263/laws.szHalf -/
def f54_an : Ann := ⟨[(0, r0 [1, 2]), (1, r0 [1]), (2, r0 [1, 10]), (3, r0 [4]), (4, r0 [4])], []⟩
noncomputable def f54_r0 (c : CallF) : RF := rg [1, 2] <| aX 2 (pBox 18 0) <|
 aX 4 (pM (cn (.int .i64 0))) <|
 aXZ
noncomputable def f54_r1 (c : CallF) : RF := rg [1] <| aX 5 (pF 1 1 2) <|
 aX 6 (pL false 1 5) <|
 aX 7 (pM 1) <|
 aX 8 (pK c false 96 [6, 7]) <|
 aX 1 (pM 8) <|
 aXZ
noncomputable def f54_r2 (c : CallF) : RF := rg [1, 10] <| aX 9 (pM 1) <|
 aX 10 (pB .lss 3 9 (cn (.int .i64 0))) <|
 aXZ
noncomputable def f54_r3 (c : CallF) : RF := rg [4] <| aX 4 (pM (cn (.int .i64 (-1)))) <|
 aXZ
noncomputable def f54_r4 (c : CallF) : RF := rg [4] <| aX 11 (pM 1) <|
 aX 4 (pM 11) <|
 aXZ
noncomputable def f54 (c : CallF) (k : Nat) : St :=
 (bSeq (bReg (f54_r0 c))
 (bSeq (bReg (f54_r1 c))
 (bSeq (bSeq (bReg (f54_r2 c))
 (bCond (.tmp 10) (bSeq (bReg (f54_r3 c))
 (bEx .ret)) (bEx .nrm)))
 (bSeq (bReg (f54_r4 c))
 (bEx .ret)))))
theorem f54_eq (c : CallF) (k : Nat) : exec cx c 12 f54_an k (Tryd.f54.body.getD .skip) = f54 c k := by kernel_rfl
/-! ### f55: loop.example/g01263/laws.szMarkS -/
def f55_an : Ann := ⟨[(0, r0 [0, 1]), (1, r0 [0, 1]), (2, r0 [0, 1, 11]), (3, r0 [4]), (4, r0 [0, 1, 5]), (5, r0 [0, 1, 5, 15]), (6, r0 [0, 1, 5]), (7, r0 [0, 1, 5]), (8, r0 [0, 1, 5, 25]), (9, r0 [4]), (10, r0 [4])], [(5, [0, 1, 5])]⟩
noncomputable def f55_r0 (c : CallF) : RF := rg [0, 1] <| aX 4 (pM (cn (.int .i64 0))) <|
 aXZ
noncomputable def f55_r1 (c : CallF) : RF := rg [0, 1] <| aX 6 (pM 1) <|
 aX 7 (pM 0) <|
 aX 8 (pLen 49 7) <|
 aX 9 (pB .sub 3 6 8) <|
 aX 1 (pM 9) <|
 aXZ
noncomputable def f55_r2 (c : CallF) : RF := rg [0, 1, 11] <| aX 10 (pM 1) <|
 aX 11 (pB .lss 3 10 (cn (.int .i64 0))) <|
 aXZ
noncomputable def f55_r3 (c : CallF) : RF := rg [4] <| aX 4 (pM (cn (.int .i64 (-1)))) <|
 aXZ
noncomputable def f55_r4 (c : CallF) : RF := rg [0, 1, 5] <| aX 5 (pM (cn (.int .i64 0))) <|
 aXZ
noncomputable def f55_r5 (c : CallF) : RF := rg [0, 1, 5, 15] <| aX 12 (pM 5) <|
 aX 13 (pM 0) <|
 aX 14 (pLen 49 13) <|
 aX 15 (pB .lss 3 12 14) <|
 aXZ
noncomputable def f55_r6 (c : CallF) : RF := rg [0, 1, 5] <| aX 16 (pM 5) <|
 aX 17 (pB .add 3 16 (cn (.int .i64 1))) <|
 aX 5 (pM 17) <|
 aXZ
noncomputable def f55_r7 (c : CallF) : RF := rg [0, 1, 5] <| aX 18 (pM 0) <|
 aX 19 (pM 5) <|
 aX 20 (pI 2 18 19) <|
 aX 21 (pL true 2 20) <|
 aX 22 (pM 1) <|
 aX 23 (pK c false 97 [21, 22]) <|
 aX 1 (pM 23) <|
 aXZ
noncomputable def f55_r8 (c : CallF) : RF := rg [0, 1, 5, 25] <| aX 24 (pM 1) <|
 aX 25 (pB .lss 3 24 (cn (.int .i64 0))) <|
 aXZ
noncomputable def f55_r9 (c : CallF) : RF := rg [4] <| aX 4 (pM (cn (.int .i64 (-1)))) <|
 aXZ
noncomputable def f55_r10 (c : CallF) : RF := rg [4] <| aX 26 (pM 1) <|
 aX 4 (pM 26) <|
 aXZ
noncomputable def f55_l5 (c : CallF) (k : Nat) : St :=
 (bSeq (bSeq (bReg (f55_r5 c))
 (bCond (.tmp 15) (bEx .nrm) (bEx (.ext 0))))
 (bSeq (bBlock 1 (bSeq (bReg (f55_r7 c))
 (bSeq (bReg (f55_r8 c))
 (bCond (.tmp 25) (bSeq (bReg (f55_r9 c))
 (bEx .ret)) (bEx .nrm)))))
 (bReg (f55_r6 c))))
noncomputable def f55 (c : CallF) (k : Nat) : St :=
 (bSeq (bReg (f55_r0 c))
 (bSeq (bReg (f55_r1 c))
 (bSeq (bSeq (bReg (f55_r2 c))
 (bCond (.tmp 11) (bSeq (bReg (f55_r3 c))
 (bEx .ret)) (bEx .nrm)))
 (bSeq (bSeq (bReg (f55_r4 c))
 (bBlock 0 (bLoop [0, 1, 5] (f55_l5 c k) k)))
 (bSeq (bReg (f55_r10 c))
 (bEx .ret))))))
theorem f55_eq (c : CallF) (k : Nat) : exec cx c 27 f55_an k (Tryd.f55.body.getD .skip) = f55 c k := by kernel_rfl
/-! ### f56: loop.example/g01263/spec.l06Ok -/
def f56_an : Ann := ⟨[(0, r0 [0]), (1, r0 [0, 34]), (2, r0 [2]), (3, r0 [0, 3]), (4, r0 [0, 3, 4]), (5, r0 [0, 3, 4, 45]), (6, r0 [0, 3, 4]), (7, r0 [0, 4, 69]), (8, r0 [2]), (9, r0 [0, 3, 4]), (10, r0 [2])], [(5, [0, 3, 4])]⟩
noncomputable def f56_r0 (c : CallF) : RF := rg [0] <| aX 2 (pM (cn (.bool false))) <|
 aXZ
noncomputable def f56_r1 (c : CallF) : RF := rg [0, 34] <| aX 5 (pM 0) <|
 aX 6 (pN 5) <|
 aX 7 (pF 0 1 6) <|
 aX 8 (pL false 1 7) <|
 aX 9 (pK c false 98 [8]) <|
 aX 10 (pU .not 9) <|
 aX 11 (pM 10) <|
 aX 12 (pG 11 false (pM 0)) <|
 aX 13 (pG 11 false (pN 12)) <|
 aX 14 (pG 11 false (pF 1 18 13)) <|
 aX 15 (pG 11 false (pK c false 99 [14])) <|
 aX 16 (pG 11 false (pU .not 15)) <|
 aX 17 (pP 11 (cn (.bool true)) 16) <|
 aX 18 (pM 17) <|
 aX 19 (pG 18 false (pM 0)) <|
 aX 20 (pG 18 false (pN 19)) <|
 aX 21 (pG 18 false (pF 1 18 20)) <|
 aX 22 (pG 18 false (pF 0 1 21)) <|
 aX 23 (pG 18 false (pL false 1 22)) <|
 aX 24 (pG 18 false (pU .not 23)) <|
 aX 25 (pP 18 (cn (.bool true)) 24) <|
 aX 26 (pM 25) <|
 aX 27 (pG 26 false (pM 0)) <|
 aX 28 (pG 26 false (pN 27)) <|
 aX 29 (pG 26 false (pF 19 1 28)) <|
 aX 30 (pG 26 false (pL false 1 29)) <|
 aX 31 (pG 26 false (pLen 58 30)) <|
 aX 32 (pG 26 false (pK c false 84 [31, (cn (.int .i64 1)), (cn (.int .i64 30))])) <|
 aX 33 (pG 26 false (pU .not 32)) <|
 aX 34 (pP 26 (cn (.bool true)) 33) <|
 aXZ
noncomputable def f56_r2 (c : CallF) : RF := rg [2] <| aX 2 (pM (cn (.bool false))) <|
 aXZ
noncomputable def f56_r3 (c : CallF) : RF := rg [0, 3] <| aX 35 (pM 0) <|
 aX 36 (pN 35) <|
 aX 37 (pF 0 1 36) <|
 aX 38 (pL false 1 37) <|
 aX 3 (pM 38) <|
 aXZ
noncomputable def f56_r4 (c : CallF) : RF := rg [0, 3, 4] <| aX 4 (pM (cn (.int .i64 0))) <|
 aXZ
noncomputable def f56_r5 (c : CallF) : RF := rg [0, 3, 4, 45] <| aX 39 (pM 4) <|
 aX 40 (pM 0) <|
 aX 41 (pN 40) <|
 aX 42 (pF 19 1 41) <|
 aX 43 (pL false 1 42) <|
 aX 44 (pLen 58 43) <|
 aX 45 (pB .lss 3 39 44) <|
 aXZ
noncomputable def f56_r6 (c : CallF) : RF := rg [0, 3, 4] <| aX 46 (pM 4) <|
 aX 47 (pB .add 3 46 (cn (.int .i64 1))) <|
 aX 4 (pM 47) <|
 aXZ
noncomputable def f56_r7 (c : CallF) : RF := rg [0, 4, 69] <| aX 48 (pM 0) <|
 aX 49 (pN 48) <|
 aX 50 (pF 19 1 49) <|
 aX 51 (pL false 1 50) <|
 aX 52 (pM 4) <|
 aX 53 (pI 2 51 52) <|
 aX 54 (pF 0 1 53) <|
 aX 55 (pL false 1 54) <|
 aX 56 (pK c false 98 [55]) <|
 aX 57 (pU .not 56) <|
 aX 58 (pM 57) <|
 aX 59 (pG 58 false (pM 0)) <|
 aX 60 (pG 58 false (pN 59)) <|
 aX 61 (pG 58 false (pF 19 1 60)) <|
 aX 62 (pG 58 false (pL false 1 61)) <|
 aX 63 (pG 58 false (pM 4)) <|
 aX 64 (pG 58 false (pI 2 62 63)) <|
 aX 65 (pG 58 false (pF 0 1 64)) <|
 aX 66 (pG 58 false (pL false 1 65)) <|
 aX 67 (pG 58 false (pM 3)) <|
 aX 68 (pG 58 false (pB .eql 9 66 67)) <|
 aX 69 (pP 58 (cn (.bool true)) 68) <|
 aXZ
noncomputable def f56_r8 (c : CallF) : RF := rg [2] <| aX 2 (pM (cn (.bool false))) <|
 aXZ
noncomputable def f56_r9 (c : CallF) : RF := rg [0, 3, 4] <| aX 70 (pM 0) <|
 aX 71 (pN 70) <|
 aX 72 (pF 19 1 71) <|
 aX 73 (pL false 1 72) <|
 aX 74 (pM 4) <|
 aX 75 (pI 2 73 74) <|
 aX 76 (pF 0 1 75) <|
 aX 77 (pL false 1 76) <|
 aX 3 (pM 77) <|
 aXZ
noncomputable def f56_r10 (c : CallF) : RF := rg [2] <| aX 2 (pM (cn (.bool true))) <|
 aXZ
noncomputable def f56_l5 (c : CallF) (k : Nat) : St :=
 (bSeq (bSeq (bReg (f56_r5 c))
 (bCond (.tmp 45) (bEx .nrm) (bEx (.ext 0))))
 (bSeq (bBlock 1 (bSeq (bSeq (bReg (f56_r7 c))
 (bCond (.tmp 69) (bSeq (bReg (f56_r8 c))
 (bEx .ret)) (bEx .nrm)))
 (bReg (f56_r9 c))))
 (bReg (f56_r6 c))))
noncomputable def f56 (c : CallF) (k : Nat) : St :=
 (bSeq (bReg (f56_r0 c))
 (bSeq (bSeq (bReg (f56_r1 c))
 (bCond (.tmp 34) (bSeq (bReg (f56_r2 c))
 (bEx .ret)) (bEx .nrm)))
 (bSeq (bReg (f56_r3 c))
 (bSeq (bSeq (bReg (f56_r4 c))
 (bBlock 0 (bLoop [0, 3, 4] (f56_l5 c k) k)))
 (bSeq (bReg (f56_r10 c))
 (bEx .ret))))))
theorem f56_eq (c : CallF) (k : Nat) : exec cx c 78 f56_an k (Tryd.f56.body.getD .skip) = f56 c k := by kernel_rfl
/-! ### f57: loop.example/g01263/spec.l06Chain -/
def f57_an : Ann := ⟨[(0, r0 [0]), (1, r0 [0, 3]), (2, r0 [0, 3, 4]), (3, r0 [0, 3, 4, 22]), (4, r0 [0, 3, 4]), (5, r0 [0, 3, 4]), (6, r0 [2])], [(3, [0, 3, 4])]⟩
noncomputable def f57_r0 (c : CallF) : RF := rg [0] <| aX 2 (pM (cn (.str []))) <|
 aXZ
noncomputable def f57_r1 (c : CallF) : RF := rgD [0, 3] (aY 5 (pM 0) <|
 aY 6 (pN 5) <|
 aY 7 (pF 0 1 6) <|
 aY 8 (pL false 1 7) <|
 aY 9 (pB .add 9 8 (cn (.str [32]))) <|
 aY 10 (pM 0) <|
 aY 11 (pN 10) <|
 aY 12 (pF 1 18 11) <|
 aY 13 (pK c false 100 [12]) <|
 aY 14 (pB .add 9 9 13) <|
 aY 15 (pB .add 9 14 (cn (.str [10]))) <|
 aY 3 (pM 15) <|
 aYZ)
 (aXZ)
noncomputable def f57_r2 (c : CallF) : RF := rg [0, 3, 4] <| aX 4 (pM (cn (.int .i64 0))) <|
 aXZ
noncomputable def f57_r3 (c : CallF) : RF := rg [0, 3, 4, 22] <| aX 16 (pM 4) <|
 aX 17 (pM 0) <|
 aX 18 (pN 17) <|
 aX 19 (pF 19 1 18) <|
 aX 20 (pL false 1 19) <|
 aX 21 (pLen 58 20) <|
 aX 22 (pB .lss 3 16 21) <|
 aXZ
noncomputable def f57_r4 (c : CallF) : RF := rg [0, 3, 4] <| aX 23 (pM 4) <|
 aX 24 (pB .add 3 23 (cn (.int .i64 1))) <|
 aX 4 (pM 24) <|
 aXZ
noncomputable def f57_r5 (c : CallF) : RF := rgD [0, 3, 4] (aY 25 (pM 3) <|
 aY 26 (pM 0) <|
 aY 27 (pN 26) <|
 aY 28 (pF 19 1 27) <|
 aY 29 (pL false 1 28) <|
 aY 30 (pM 4) <|
 aY 31 (pI 2 29 30) <|
 aY 32 (pF 0 1 31) <|
 aY 33 (pL false 1 32) <|
 aY 34 (pB .add 9 33 (cn (.str [32]))) <|
 aY 35 (pM 0) <|
 aY 36 (pN 35) <|
 aY 37 (pF 19 1 36) <|
 aY 38 (pL false 1 37) <|
 aY 39 (pM 4) <|
 aY 40 (pI 2 38 39) <|
 aY 41 (pF 1 1 40) <|
 aY 42 (pL false 1 41) <|
 aY 43 (pK c false 101 [42]) <|
 aY 44 (pB .add 9 34 43) <|
 aY 45 (pB .add 9 44 (cn (.str [10]))) <|
 aY 46 (pB .add 9 25 45) <|
 aY 3 (pM 46) <|
 aYZ)
 (aXZ)
noncomputable def f57_r6 (c : CallF) : RF := rg [2] <| aX 47 (pM 3) <|
 aX 2 (pM 47) <|
 aXZ
noncomputable def f57_l3 (c : CallF) (k : Nat) : St :=
 (bSeq (bSeq (bReg (f57_r3 c))
 (bCond (.tmp 22) (bEx .nrm) (bEx (.ext 0))))
 (bSeq (bBlock 1 (bReg (f57_r5 c)))
 (bReg (f57_r4 c))))
noncomputable def f57 (c : CallF) (k : Nat) : St :=
 (bSeq (bReg (f57_r0 c))
 (bSeq (bReg (f57_r1 c))
 (bSeq (bSeq (bReg (f57_r2 c))
 (bBlock 0 (bLoop [0, 3, 4] (f57_l3 c k) k)))
 (bSeq (bReg (f57_r6 c))
 (bEx .ret)))))
theorem f57_eq (c : CallF) (k : Nat) : exec cx c 48 f57_an k (Tryd.f57.body.getD .skip) = f57 c k := by kernel_rfl
/-! ### f58: loop.example/g01263/laws.toHalf -/
def f58_an : Ann := ⟨[(0, r0 [1, 2]), (1, r0 [1, 2, 3]), (2, r0 [1, 2, 3]), (3, r0 [1, 2, 3]), (4, r0 [2, 3]), (5, r0 [2])], []⟩
noncomputable def f58_r0 (c : CallF) : RF := rg [1, 2] <| aX 1 (pBox 18 0) <|
 aX 2 (pAl 57 18) <|
 aXZ
noncomputable def f58_r1 (c : CallF) : RF := rg [1, 2, 3] <| aX 3 (pAl 57 18) <|
 aXZ
noncomputable def f58_r2 (c : CallF) : RF := rg [1, 2, 3] <| aX 4 (pF 0 1 1) <|
 aX 5 (pL false 1 4) <|
 aX 6 (pF 0 1 3) <|
 aX0 (pS 1 6 5) <|
 aXZ
noncomputable def f58_r3 (c : CallF) : RF := rg [1, 2, 3] <| aX 7 (pF 1 1 1) <|
 aX 8 (pL false 1 7) <|
 aX 9 (pK c false 102 [8]) <|
 aX 10 (pF 1 1 3) <|
 aX0 (pS 1 10 9) <|
 aXZ
noncomputable def f58_r4 (c : CallF) : RF := rg [2, 3] <| aX 11 (pF 2 16 1) <|
 aX 12 (pL true 16 11) <|
 aX 13 (pK c false 103 [12]) <|
 aX 14 (pF 2 16 3) <|
 aX0 (pS 16 14 13) <|
 aXZ
noncomputable def f58_r5 (c : CallF) : RF := rg [2] <| aX 15 (pL true 18 3) <|
 aX0 (pS 18 2 15) <|
 aXZ
noncomputable def f58 (c : CallF) (k : Nat) : St :=
 (bSeq (bReg (f58_r0 c))
 (bSeq (bReg (f58_r1 c))
 (bSeq (bReg (f58_r2 c))
 (bSeq (bReg (f58_r3 c))
 (bSeq (bReg (f58_r4 c))
 (bSeq (bReg (f58_r5 c))
 (bEx .ret)))))))
theorem f58_eq (c : CallF) (k : Nat) : exec cx c 16 f58_an k (Tryd.f58.body.getD .skip) = f58 c k := by kernel_rfl
/-! ### f59: loop.example/g01263/laws.toMarkS -/
def f59_an : Ann := ⟨[(0, r0 [0]), (1, r0 [0, 3]), (2, r0 [0, 3, 4]), (3, r0 [0, 3, 4, 11]), (4, r0 [0, 3, 4]), (5, r0 [0, 3, 4]), (6, r0 [2])], [(3, [0, 3, 4])]⟩
noncomputable def f59_r0 (c : CallF) : RF := rg [0] <| aX 2 (pM (cn .nils)) <|
 aXZ
noncomputable def f59_r1 (c : CallF) : RF := rg [0, 3] <| aX 5 (pM 0) <|
 aX 6 (pLen 49 5) <|
 aX 7 (fun n e M => aMakeO n 107 2 24 (zeroOf cx.P 107) (eget e 6) (eget e 6)) <|
 aX 3 (pM 7) <|
 aXZ
noncomputable def f59_r2 (c : CallF) : RF := rg [0, 3, 4] <| aX 4 (pM (cn (.int .i64 0))) <|
 aXZ
noncomputable def f59_r3 (c : CallF) : RF := rg [0, 3, 4, 11] <| aX 8 (pM 4) <|
 aX 9 (pM 0) <|
 aX 10 (pLen 49 9) <|
 aX 11 (pB .lss 3 8 10) <|
 aXZ
noncomputable def f59_r4 (c : CallF) : RF := rg [0, 3, 4] <| aX 12 (pM 4) <|
 aX 13 (pB .add 3 12 (cn (.int .i64 1))) <|
 aX 4 (pM 13) <|
 aXZ
noncomputable def f59_r5 (c : CallF) : RF := rg [0, 3, 4] <| aX 14 (pM 3) <|
 aX 15 (pM 4) <|
 aX 16 (pM 0) <|
 aX 17 (pM 4) <|
 aX 18 (pI 2 16 17) <|
 aX 19 (pL true 2 18) <|
 aX 20 (pK c false 104 [19]) <|
 aX 21 (pI 2 14 15) <|
 aX0 (pS 2 21 20) <|
 aXZ
noncomputable def f59_r6 (c : CallF) : RF := rg [2] <| aX 22 (pM 3) <|
 aX 2 (pM 22) <|
 aXZ
noncomputable def f59_l3 (c : CallF) (k : Nat) : St :=
 (bSeq (bSeq (bReg (f59_r3 c))
 (bCond (.tmp 11) (bEx .nrm) (bEx (.ext 0))))
 (bSeq (bBlock 1 (bReg (f59_r5 c)))
 (bReg (f59_r4 c))))
noncomputable def f59 (c : CallF) (k : Nat) : St :=
 (bSeq (bReg (f59_r0 c))
 (bSeq (bReg (f59_r1 c))
 (bSeq (bSeq (bReg (f59_r2 c))
 (bBlock 0 (bLoop [0, 3, 4] (f59_l3 c k) k)))
 (bSeq (bReg (f59_r6 c))
 (bEx .ret)))))
theorem f59_eq (c : CallF) (k : Nat) : exec cx c 23 f59_an k (Tryd.f59.body.getD .skip) = f59 c k := by kernel_rfl
/-! ### f60: loop.example/g01263/impl.ValidChain -/
def f60_an : Ann := ⟨[(0, r0 [1]), (1, r0 [1, 33]), (2, r0 [2]), (3, r0 [1, 3]), (4, r0 [3, 37, 38, 39]), (5, r0 [3, 37, 38, 39, 40]), (6, r0 [3, 5, 37, 38, 39]), (7, r0 [5, 37, 38, 39, 52]), (8, r0 [2]), (9, r0 [3, 37, 38, 39]), (10, r0 [3, 37, 38, 39]), (11, r0 [2])], [(5, [3, 37, 38, 39])]⟩
noncomputable def f60_r0 (c : CallF) : RF := rg [1] <| aX 1 (pBox 20 0) <|
 aX 2 (pM (cn (.bool false))) <|
 aXZ
noncomputable def f60_r1 (c : CallF) : RF := rg [1, 33] <| aX 6 (pF 0 1 1) <|
 aX 7 (pL false 1 6) <|
 aX 8 (pK c false 105 [7]) <|
 aX 9 (pU .not 8) <|
 aX 10 (pM 9) <|
 aX 11 (pG 10 false (pF 1 18 1)) <|
 aX 12 (pG 10 false (pL true 18 11)) <|
 aX 13 (pG 10 false (pK c false 106 [12])) <|
 aX 14 (pG 10 false (pU .not 13)) <|
 aX 15 (pP 10 (cn (.bool true)) 14) <|
 aX 16 (pM 15) <|
 aX 17 (pG 16 false (pF 1 18 1)) <|
 aX 18 (pG 16 false (pF 0 1 17)) <|
 aX 19 (pG 16 false (pL false 1 18)) <|
 aX 20 (pG 16 false (pU .not 19)) <|
 aX 21 (pP 16 (cn (.bool true)) 20) <|
 aX 22 (pM 21) <|
 aX 23 (pG 22 false (pF 19 1 1)) <|
 aX 24 (pG 22 false (pL false 1 23)) <|
 aX 25 (pG 22 false (pLen 58 24)) <|
 aX 26 (pG 22 false (pB .lss 3 25 (cn (.int .i64 1)))) <|
 aX 27 (pP 22 (cn (.bool true)) 26) <|
 aX 28 (pM 27) <|
 aX 29 (pG 28 false (pF 19 1 1)) <|
 aX 30 (pG 28 false (pL false 1 29)) <|
 aX 31 (pG 28 false (pLen 58 30)) <|
 aX 32 (pG 28 false (pB .gtr 3 31 (cn (.int .i64 30)))) <|
 aX 33 (pP 28 (cn (.bool true)) 32) <|
 aXZ
noncomputable def f60_r2 (c : CallF) : RF := rg [2] <| aX 2 (pM (cn (.bool false))) <|
 aXZ
noncomputable def f60_r3 (c : CallF) : RF := rg [1, 3] <| aX 34 (pF 0 1 1) <|
 aX 35 (pL false 1 34) <|
 aX 3 (pM 35) <|
 aXZ
noncomputable def f60_r4 (c : CallF) : RF := rg [3, 37, 38, 39] <| aX 36 (pF 19 1 1) <|
 aX 37 (pL false 1 36) <|
 aX 38 (pLen 58 37) <|
 aX 39 (pM (cn (.int .i64 0))) <|
 aXZ
noncomputable def f60_r5 (c : CallF) : RF := rg [3, 37, 38, 39, 40] <| aX 40 (pB .lss 3 39 38) <|
 aXZ
noncomputable def f60_r6 (c : CallF) : RF := rg [3, 5, 37, 38, 39] <| aX 41 (pI 2 37 39) <|
 aX 42 (pL true 2 41) <|
 aX 5 (pAl 107 2) <|
 aX0 (pS 2 5 42) <|
 aXZ
noncomputable def f60_r7 (c : CallF) : RF := rg [5, 37, 38, 39, 52] <| aX 43 (pF 0 1 5) <|
 aX 44 (pL false 1 43) <|
 aX 45 (pK c false 105 [44]) <|
 aX 46 (pU .not 45) <|
 aX 47 (pM 46) <|
 aX 48 (pG 47 false (pF 0 1 5)) <|
 aX 49 (pG 47 false (pL false 1 48)) <|
 aX 50 (pG 47 false (pM 3)) <|
 aX 51 (pG 47 false (pB .eql 9 49 50)) <|
 aX 52 (pP 47 (cn (.bool true)) 51) <|
 aXZ
noncomputable def f60_r8 (c : CallF) : RF := rg [2] <| aX 2 (pM (cn (.bool false))) <|
 aXZ
noncomputable def f60_r9 (c : CallF) : RF := rg [3, 37, 38, 39] <| aX 53 (pF 0 1 5) <|
 aX 54 (pL false 1 53) <|
 aX 3 (pM 54) <|
 aXZ
noncomputable def f60_r10 (c : CallF) : RF := rg [3, 37, 38, 39] <| aX 55 (pB .add 3 39 (cn (.int .i64 1))) <|
 aX 39 (pM 55) <|
 aXZ
noncomputable def f60_r11 (c : CallF) : RF := rg [2] <| aX 2 (pM (cn (.bool true))) <|
 aXZ
noncomputable def f60_l5 (c : CallF) (k : Nat) : St :=
 (bSeq (bReg (f60_r5 c))
 (bSeq (bCond (.tmp 40) (bEx .nrm) (bEx (.ext 0)))
 (bSeq (bBlock 1 (bSeq (bReg (f60_r6 c))
 (bSeq (bSeq (bReg (f60_r7 c))
 (bCond (.tmp 52) (bSeq (bReg (f60_r8 c))
 (bEx .ret)) (bEx .nrm)))
 (bReg (f60_r9 c)))))
 (bReg (f60_r10 c)))))
noncomputable def f60 (c : CallF) (k : Nat) : St :=
 (bSeq (bReg (f60_r0 c))
 (bSeq (bSeq (bReg (f60_r1 c))
 (bCond (.tmp 33) (bSeq (bReg (f60_r2 c))
 (bEx .ret)) (bEx .nrm)))
 (bSeq (bReg (f60_r3 c))
 (bSeq (bSeq (bReg (f60_r4 c))
 (bBlock 0 (bLoop [3, 37, 38, 39] (f60_l5 c k) k)))
 (bSeq (bReg (f60_r11 c))
 (bEx .ret))))))
theorem f60_eq (c : CallF) (k : Nat) : exec cx c 56 f60_an k (Tryd.f60.body.getD .skip) = f60 c k := by kernel_rfl
/-! ### f61: loop.example/g01263/impl.halfText -/
def f61_an : Ann := ⟨[(0, r0 [1]), (1, r0 [1, 3]), (2, r0 [1, 3, 11]), (3, r0 [1, 3]), (4, ⟨[0], [], [], [], [1, 3, 4]⟩), (5, r0 [1, 3, 4, 14, 15]), (6, r0 [1, 3, 4, 14, 15, 16]), (7, r0 [1, 3, 4, 6, 14, 15]), (8, ⟨[5], [], [], [], [1, 3, 4, 14, 15]⟩), (9, r0 [1, 3, 4, 14, 15]), (10, ⟨[3], [], [], [], [1, 7]⟩), (11, r0 [7, 30, 31, 32]), (12, r0 [7, 30, 31, 32, 33]), (13, r0 [7, 9, 30, 31, 32]), (14, ⟨[13], [], [], [13, 14], [7, 30, 31, 32]⟩), (15, r0 [7, 30, 31, 32]), (16, r0 [2])], [(6, [1, 3, 4, 14, 15]), (12, [7, 30, 31, 32])]⟩
noncomputable def f61_r0 (c : CallF) : RF := rg [1] <| aX 1 (pBox 18 0) <|
 aX 2 (pM (cn (.str []))) <|
 aXZ
noncomputable def f61_r1 (c : CallF) : RF := rg [1, 3] <| aX 3 (pM (cn (.str [102, 111, 105, 108]))) <|
 aXZ
noncomputable def f61_r2 (c : CallF) : RF := rg [1, 3, 11] <| aX 10 (pF 0 1 1) <|
 aX 11 (pL false 1 10) <|
 aXZ
noncomputable def f61_r3 (c : CallF) : RF := rg [1, 3] <| aX 3 (pM (cn (.str [115, 116, 111, 99, 107]))) <|
 aXZ
noncomputable def f61_r4 (c : CallF) : RF := rg [1, 3, 4] <| aX 12 (fun n e M => aLitO false n 5 1 [] M) <|
 aX 4 (pM 12) <|
 aXZ
noncomputable def f61_r5 (c : CallF) : RF := rg [1, 3, 4, 14, 15] <| aX 13 (pF 2 16 1) <|
 aX 14 (pL true 16 13) <|
 aX 15 (pM (cn (.int .i64 0))) <|
 aXZ
noncomputable def f61_r6 (c : CallF) : RF := rg [1, 3, 4, 14, 15, 16] <| aX 16 (pB .lss 3 15 (cn (.int .i64 16))) <|
 aXZ
noncomputable def f61_r7 (c : CallF) : RF := rg [1, 3, 4, 6, 14, 15] <| aX 17 (fun n e M => keep (aIndexA false 16 1 (eget e 14) (eget e 15))) <|
 aX 6 (pM 17) <|
 aXZ
noncomputable def f61_r8 (c : CallF) : RF := rg [1, 3, 4, 14, 15] <| aX 18 (pM 4) <|
 aX 19 (pM 6) <|
 aX 20 (pB .add 45 (cn (.int .i8 100)) 19) <|
 aX 21 (fun n e M => keep (aConvI .u8 (eget e 20))) <|
 aX 22 (fun n e M => keep (aLitI 5 1 [(eget e 21)] M)) <|
 aX 23 (fun n e M => aAppO n 5 1 1 (eget e 18) (eget e 22) M) <|
 aX 4 (pM 23) <|
 aXZ
noncomputable def f61_r9 (c : CallF) : RF := rg [1, 3, 4, 14, 15] <| aX 24 (pB .add 3 15 (cn (.int .i64 1))) <|
 aX 15 (pM 24) <|
 aXZ
noncomputable def f61_r10 (c : CallF) : RF := rg [1, 7] <| aX 25 (pM 3) <|
 aX 26 (pM 4) <|
 aX 27 (fun n e M => keep (aConvB (eget e 26) M)) <|
 aX 28 (fun n e M => aLitO false n 9 1 [(eget e 25), (eget e 27)] M) <|
 aX 7 (pM 28) <|
 aXZ
noncomputable def f61_r11 (c : CallF) : RF := rg [7, 30, 31, 32] <| aX 29 (pF 1 1 1) <|
 aX 30 (pL false 1 29) <|
 aX 31 (pLen 54 30) <|
 aX 32 (pM (cn (.int .i64 0))) <|
 aXZ
noncomputable def f61_r12 (c : CallF) : RF := rg [7, 30, 31, 32, 33] <| aX 33 (pB .lss 3 32 31) <|
 aXZ
noncomputable def f61_r13 (c : CallF) : RF := rg [7, 9, 30, 31, 32] <| aX 34 (pI 2 30 32) <|
 aX 35 (pL true 2 34) <|
 aX 9 (pAl 156 2) <|
 aX0 (pS 2 9 35) <|
 aXZ
noncomputable def f61_r14 (c : CallF) : RF := rgD [7, 30, 31, 32] (aY 36 (pM 7) <|
 aY 37 (pF 0 1 9) <|
 aY 38 (pL false 1 37) <|
 aY 39 (pF 0 1 9) <|
 aY 40 (pL false 1 39) <|
 aY 41 (pB .add 45 40 (cn (.int .i8 1))) <|
 aY 42 (fun n e M => keep (aSliceS (some (eget e 38)) (some (eget e 41)) (.str [100, 115, 108, 118, 99, 109]))) <|
 aY 43 (pF 1 1 9) <|
 aY 44 (pL false 1 43) <|
 aY 45 (fun n e M => keep (aConvI .i64 (eget e 44))) <|
 aY 46 (pK c false 90 [45]) <|
 aY 47 (pB .add 9 42 46) <|
 aY 48 (fun n e M => keep (aLitI 9 1 [(eget e 47)] M)) <|
 aYZ)
 (aX 49 (fun n e M => aAppO n 9 1 16 (eget e 36) (eget e 48) M) <|
 aX 7 (pM 49) <|
 aXZ)
noncomputable def f61_r15 (c : CallF) : RF := rg [7, 30, 31, 32] <| aX 50 (pB .add 3 32 (cn (.int .i64 1))) <|
 aX 32 (pM 50) <|
 aXZ
noncomputable def f61_r16 (c : CallF) : RF := rg [2] <| aX 51 (pM 7) <|
 aX 52 (pK c false 91 [51, (cn (.str [32]))]) <|
 aX 2 (pM 52) <|
 aXZ
noncomputable def f61_l6 (c : CallF) (k : Nat) : St :=
 (bSeq (bReg (f61_r6 c))
 (bSeq (bCond (.tmp 16) (bEx .nrm) (bEx (.ext 0)))
 (bSeq (bBlock 1 (bSeq (bReg (f61_r7 c))
 (bReg (f61_r8 c))))
 (bReg (f61_r9 c)))))
noncomputable def f61_l12 (c : CallF) (k : Nat) : St :=
 (bSeq (bReg (f61_r12 c))
 (bSeq (bCond (.tmp 33) (bEx .nrm) (bEx (.ext 2)))
 (bSeq (bBlock 3 (bSeq (bReg (f61_r13 c))
 (bReg (f61_r14 c))))
 (bReg (f61_r15 c)))))
noncomputable def f61 (c : CallF) (k : Nat) : St :=
 (bSeq (bReg (f61_r0 c))
 (bSeq (bReg (f61_r1 c))
 (bSeq (bSeq (bReg (f61_r2 c))
 (bCond (.tmp 11) (bReg (f61_r3 c)) (bEx .nrm)))
 (bSeq (bReg (f61_r4 c))
 (bSeq (bSeq (bReg (f61_r5 c))
 (bBlock 0 (bLoop [1, 3, 4, 14, 15] (f61_l6 c k) k)))
 (bSeq (bReg (f61_r10 c))
 (bSeq (bSeq (bReg (f61_r11 c))
 (bBlock 2 (bLoop [7, 30, 31, 32] (f61_l12 c k) k)))
 (bSeq (bReg (f61_r16 c))
 (bEx .ret)))))))))
theorem f61_eq (c : CallF) (k : Nat) : exec cx c 53 f61_an k (Tryd.f61.body.getD .skip) = f61 c k := by kernel_rfl
/-! ### f62: loop.example/g01263/impl.hex -/
def f62_an : Ann := ⟨[(0, r0 [0]), (1, r0 [0, 3]), (2, r0 [0, 3, 7, 8]), (3, r0 [0, 3, 7, 8, 9]), (4, r0 [0, 3, 4, 7, 8]), (5, r0 [0, 3, 7, 8]), (6, r0 [0, 3, 7, 8]), (7, r0 [2])], [(3, [0, 3, 7, 8])]⟩
noncomputable def f62_r0 (c : CallF) : RF := rg [0] <| aX 2 (pM (cn (.str []))) <|
 aXZ
noncomputable def f62_r1 (c : CallF) : RF := rg [0, 3] <| aX 5 (fun n e M => aMakeO n 5 1 1 (zeroOf cx.P 5) (.int .i64 8) (.int .i64 8)) <|
 aX 3 (pM 5) <|
 aXZ
noncomputable def f62_r2 (c : CallF) : RF := rg [0, 3, 7, 8] <| aX 6 (pM 3) <|
 aX 7 (pLen 153 6) <|
 aX 8 (pM (cn (.int .i64 0))) <|
 aXZ
noncomputable def f62_r3 (c : CallF) : RF := rg [0, 3, 7, 8, 9] <| aX 9 (pB .lss 3 8 7) <|
 aXZ
noncomputable def f62_r4 (c : CallF) : RF := rg [0, 3, 4, 7, 8] <| aX 10 (pM 8) <|
 aX 4 (pM 10) <|
 aXZ
noncomputable def f62_r5 (c : CallF) : RF := rg [0, 3, 7, 8] <| aX 11 (pM 3) <|
 aX 12 (pM 4) <|
 aX 13 (pM 0) <|
 aX 14 (pM 4) <|
 aX 15 (pB .mul 3 (cn (.int .i64 4)) 14) <|
 aX 16 (pB .sub 3 (cn (.int .i64 28)) 15) <|
 aX 17 (pB .shr 105 13 16) <|
 aX 18 (pB .and 105 17 (cn (.int .u32 15))) <|
 aX 19 (fun n e M => keep (aIndexB (.str [48, 49, 50, 51, 52, 53, 54, 55, 56, 57, 97, 98, 99, 100, 101, 102]) (eget e 18))) <|
 aX 20 (pI 1 11 12) <|
 aX0 (pS 1 20 19) <|
 aXZ
noncomputable def f62_r6 (c : CallF) : RF := rg [0, 3, 7, 8] <| aX 21 (pB .add 3 8 (cn (.int .i64 1))) <|
 aX 8 (pM 21) <|
 aXZ
noncomputable def f62_r7 (c : CallF) : RF := rg [2] <| aX 22 (pM 3) <|
 aX 23 (fun n e M => keep (aConvB (eget e 22) M)) <|
 aX 2 (pM 23) <|
 aXZ
noncomputable def f62_l3 (c : CallF) (k : Nat) : St :=
 (bSeq (bReg (f62_r3 c))
 (bSeq (bCond (.tmp 9) (bEx .nrm) (bEx (.ext 0)))
 (bSeq (bBlock 1 (bSeq (bReg (f62_r4 c))
 (bReg (f62_r5 c))))
 (bReg (f62_r6 c)))))
noncomputable def f62 (c : CallF) (k : Nat) : St :=
 (bSeq (bReg (f62_r0 c))
 (bSeq (bReg (f62_r1 c))
 (bSeq (bSeq (bReg (f62_r2 c))
 (bBlock 0 (bLoop [0, 3, 7, 8] (f62_l3 c k) k)))
 (bSeq (bReg (f62_r7 c))
 (bEx .ret)))))
theorem f62_eq (c : CallF) (k : Nat) : exec cx c 24 f62_an k (Tryd.f62.body.getD .skip) = f62 c k := by kernel_rfl
/-! ### f63: loop.example/g01263/laws.eqHalf -/
def f63_an : Ann := ⟨[(0, r0 [2, 3]), (1, r0 [2, 3, 9]), (2, r0 [4]), (3, r0 [2, 3, 15]), (4, r0 [4]), (5, r0 [21]), (6, r0 [4]), (7, r0 [4])], []⟩
noncomputable def f63_r0 (c : CallF) : RF := rg [2, 3] <| aX 2 (pBox 18 0) <|
 aX 3 (pBox 18 1) <|
 aX 4 (pM (cn (.bool false))) <|
 aXZ
noncomputable def f63_r1 (c : CallF) : RF := rg [2, 3, 9] <| aX 5 (pF 0 1 2) <|
 aX 6 (pL false 1 5) <|
 aX 7 (pF 0 1 3) <|
 aX 8 (pL false 1 7) <|
 aX 9 (pB .neq 4 6 8) <|
 aXZ
noncomputable def f63_r2 (c : CallF) : RF := rg [4] <| aX 4 (pM (cn (.bool false))) <|
 aXZ
noncomputable def f63_r3 (c : CallF) : RF := rg [2, 3, 15] <| aX 10 (pF 1 1 2) <|
 aX 11 (pL false 1 10) <|
 aX 12 (pF 1 1 3) <|
 aX 13 (pL false 1 12) <|
 aX 14 (pK c false 107 [11, 13]) <|
 aX 15 (pU .not 14) <|
 aXZ
noncomputable def f63_r4 (c : CallF) : RF := rg [4] <| aX 4 (pM (cn (.bool false))) <|
 aXZ
noncomputable def f63_r5 (c : CallF) : RF := rg [21] <| aX 16 (pF 2 16 2) <|
 aX 17 (pL true 16 16) <|
 aX 18 (pF 2 16 3) <|
 aX 19 (pL true 16 18) <|
 aX 20 (pK c false 108 [17, 19]) <|
 aX 21 (pU .not 20) <|
 aXZ
noncomputable def f63_r6 (c : CallF) : RF := rg [4] <| aX 4 (pM (cn (.bool false))) <|
 aXZ
noncomputable def f63_r7 (c : CallF) : RF := rg [4] <| aX 4 (pM (cn (.bool true))) <|
 aXZ
noncomputable def f63 (c : CallF) (k : Nat) : St :=
 (bSeq (bReg (f63_r0 c))
 (bSeq (bSeq (bReg (f63_r1 c))
 (bCond (.tmp 9) (bSeq (bReg (f63_r2 c))
 (bEx .ret)) (bEx .nrm)))
 (bSeq (bSeq (bReg (f63_r3 c))
 (bCond (.tmp 15) (bSeq (bReg (f63_r4 c))
 (bEx .ret)) (bEx .nrm)))
 (bSeq (bSeq (bReg (f63_r5 c))
 (bCond (.tmp 21) (bSeq (bReg (f63_r6 c))
 (bEx .ret)) (bEx .nrm)))
 (bSeq (bReg (f63_r7 c))
 (bEx .ret))))))
theorem f63_eq (c : CallF) (k : Nat) : exec cx c 22 f63_an k (Tryd.f63.body.getD .skip) = f63 c k := by kernel_rfl
/-! ### f64: loop.example/g01263/laws.eqMarkS -/
def f64_an : Ann := ⟨[(0, r0 [0, 1]), (1, r0 [0, 1, 10]), (2, r0 [4]), (3, r0 [0, 1, 5]), (4, r0 [0, 1, 5, 14]), (5, r0 [0, 1, 5]), (6, r0 [0, 1, 5, 26]), (7, r0 [4]), (8, r0 [4])], [(4, [0, 1, 5])]⟩
noncomputable def f64_r0 (c : CallF) : RF := rg [0, 1] <| aX 4 (pM (cn (.bool false))) <|
 aXZ
noncomputable def f64_r1 (c : CallF) : RF := rg [0, 1, 10] <| aX 6 (pM 0) <|
 aX 7 (pLen 58 6) <|
 aX 8 (pM 1) <|
 aX 9 (pLen 58 8) <|
 aX 10 (pB .neq 3 7 9) <|
 aXZ
noncomputable def f64_r2 (c : CallF) : RF := rg [4] <| aX 4 (pM (cn (.bool false))) <|
 aXZ
noncomputable def f64_r3 (c : CallF) : RF := rg [0, 1, 5] <| aX 5 (pM (cn (.int .i64 0))) <|
 aXZ
noncomputable def f64_r4 (c : CallF) : RF := rg [0, 1, 5, 14] <| aX 11 (pM 5) <|
 aX 12 (pM 0) <|
 aX 13 (pLen 58 12) <|
 aX 14 (pB .lss 3 11 13) <|
 aXZ
noncomputable def f64_r5 (c : CallF) : RF := rg [0, 1, 5] <| aX 15 (pM 5) <|
 aX 16 (pB .add 3 15 (cn (.int .i64 1))) <|
 aX 5 (pM 16) <|
 aXZ
noncomputable def f64_r6 (c : CallF) : RF := rgD [0, 1, 5, 26] (aY 17 (pM 0) <|
 aY 18 (pM 5) <|
 aY 19 (pI 2 17 18) <|
 aY 20 (pL true 2 19) <|
 aY 21 (pM 1) <|
 aY 22 (pM 5) <|
 aY 23 (pI 2 21 22) <|
 aY 24 (pL true 2 23) <|
 aY 25 (pK c false 109 [20, 24]) <|
 aY 26 (pU .not 25) <|
 aYZ)
 (aXZ)
noncomputable def f64_r7 (c : CallF) : RF := rg [4] <| aX 4 (pM (cn (.bool false))) <|
 aXZ
noncomputable def f64_r8 (c : CallF) : RF := rg [4] <| aX 4 (pM (cn (.bool true))) <|
 aXZ
noncomputable def f64_l4 (c : CallF) (k : Nat) : St :=
 (bSeq (bSeq (bReg (f64_r4 c))
 (bCond (.tmp 14) (bEx .nrm) (bEx (.ext 0))))
 (bSeq (bBlock 1 (bSeq (bReg (f64_r6 c))
 (bCond (.tmp 26) (bSeq (bReg (f64_r7 c))
 (bEx .ret)) (bEx .nrm))))
 (bReg (f64_r5 c))))
noncomputable def f64 (c : CallF) (k : Nat) : St :=
 (bSeq (bReg (f64_r0 c))
 (bSeq (bSeq (bReg (f64_r1 c))
 (bCond (.tmp 10) (bSeq (bReg (f64_r2 c))
 (bEx .ret)) (bEx .nrm)))
 (bSeq (bSeq (bReg (f64_r3 c))
 (bBlock 0 (bLoop [0, 1, 5] (f64_l4 c k) k)))
 (bSeq (bReg (f64_r8 c))
 (bEx .ret)))))
theorem f64_eq (c : CallF) (k : Nat) : exec cx c 27 f64_an k (Tryd.f64.body.getD .skip) = f64 c k := by kernel_rfl
/-! ### f84: loop.example/g01263/spec.l00In -/
def f84_an : Ann := ⟨[(0, r0 [0, 1, 2]), (1, r0 [6])], []⟩
noncomputable def f84_r0 (c : CallF) : RF := rg [0, 1, 2] <| aX 6 (pM (cn (.bool false))) <|
 aXZ
noncomputable def f84_r1 (c : CallF) : RF := rg [6] <| aX 7 (pM 0) <|
 aX 8 (pM 1) <|
 aX 9 (pB .geq 2 7 8) <|
 aX 10 (pM 9) <|
 aX 11 (pG 10 true (pM 0)) <|
 aX 12 (pG 10 true (pM 2)) <|
 aX 13 (pG 10 true (pB .leq 2 11 12)) <|
 aX 14 (pP 10 13 (cn (.bool false))) <|
 aX 6 (pM 14) <|
 aXZ
noncomputable def f84 (c : CallF) (k : Nat) : St :=
 (bSeq (bReg (f84_r0 c))
 (bSeq (bReg (f84_r1 c))
 (bEx .ret)))
theorem f84_eq (c : CallF) (k : Nat) : exec cx c 15 f84_an k (Tryd.f84.body.getD .skip) = f84 c k := by kernel_rfl
/-! ### f87: loop.example/g01263/impl.isLetters -/
def f87_an : Ann := ⟨[(0, r0 [0, 1]), (1, r0 [0, 1, 7, 8]), (2, r0 [0, 1, 7, 8, 9]), (3, r0 [0, 1, 5, 7, 8]), (4, r0 [0, 1, 7, 8, 20]), (5, r0 [4]), (6, r0 [0, 1, 7, 8]), (7, r0 [4])], [(2, [0, 1, 7, 8])]⟩
noncomputable def f87_r0 (c : CallF) : RF := rg [0, 1] <| aX 4 (pM (cn (.bool false))) <|
 aXZ
noncomputable def f87_r1 (c : CallF) : RF := rg [0, 1, 7, 8] <| aX 6 (pM 0) <|
 aX 7 (pLen 9 6) <|
 aX 8 (pM (cn (.int .i64 0))) <|
 aXZ
noncomputable def f87_r2 (c : CallF) : RF := rg [0, 1, 7, 8, 9] <| aX 9 (pB .lss 3 8 7) <|
 aXZ
noncomputable def f87_r3 (c : CallF) : RF := rg [0, 1, 5, 7, 8] <| aX 10 (pM 8) <|
 aX 5 (pM 10) <|
 aXZ
noncomputable def f87_r4 (c : CallF) : RF := rg [0, 1, 7, 8, 20] <| aX 11 (pM 0) <|
 aX 12 (pM 5) <|
 aX 13 (fun n e M => keep (aIndexB (eget e 11) (eget e 12))) <|
 aX 14 (pB .lss 5 13 (cn (.int .u8 97))) <|
 aX 15 (pM 14) <|
 aX 16 (pG 15 false (pM 0)) <|
 aX 17 (pG 15 false (pM 5)) <|
 aX 18 (pG 15 false (fun n e M => keep (aIndexB (eget e 16) (eget e 17)))) <|
 aX 19 (pG 15 false (pB .gtr 5 18 (cn (.int .u8 122)))) <|
 aX 20 (pP 15 (cn (.bool true)) 19) <|
 aXZ
noncomputable def f87_r5 (c : CallF) : RF := rg [4] <| aX 4 (pM (cn (.bool false))) <|
 aXZ
noncomputable def f87_r6 (c : CallF) : RF := rg [0, 1, 7, 8] <| aX 21 (pB .add 3 8 (cn (.int .i64 1))) <|
 aX 8 (pM 21) <|
 aXZ
noncomputable def f87_r7 (c : CallF) : RF := rg [4] <| aX 22 (pM 0) <|
 aX 23 (pLen 9 22) <|
 aX 24 (pB .geq 3 23 (cn (.int .i64 1))) <|
 aX 25 (pM 24) <|
 aX 26 (pG 25 true (pM 0)) <|
 aX 27 (pG 25 true (pLen 9 26)) <|
 aX 28 (pG 25 true (pM 1)) <|
 aX 29 (pG 25 true (pB .leq 3 27 28)) <|
 aX 30 (pP 25 29 (cn (.bool false))) <|
 aX 4 (pM 30) <|
 aXZ
noncomputable def f87_l2 (c : CallF) (k : Nat) : St :=
 (bSeq (bReg (f87_r2 c))
 (bSeq (bCond (.tmp 9) (bEx .nrm) (bEx (.ext 0)))
 (bSeq (bBlock 1 (bSeq (bReg (f87_r3 c))
 (bSeq (bReg (f87_r4 c))
 (bCond (.tmp 20) (bSeq (bReg (f87_r5 c))
 (bEx .ret)) (bEx .nrm)))))
 (bReg (f87_r6 c)))))
noncomputable def f87 (c : CallF) (k : Nat) : St :=
 (bSeq (bReg (f87_r0 c))
 (bSeq (bSeq (bReg (f87_r1 c))
 (bBlock 0 (bLoop [0, 1, 7, 8] (f87_l2 c k) k)))
 (bSeq (bReg (f87_r7 c))
 (bEx .ret))))
theorem f87_eq (c : CallF) (k : Nat) : exec cx c 31 f87_an k (Tryd.f87.body.getD .skip) = f87 c k := by kernel_rfl
/-! ### f90: loop.example/g01263/impl.decimal -/
def f90_an : Ann := ⟨[(0, r0 [0]), (1, r0 [2])], []⟩
noncomputable def f90_r0 (c : CallF) : RF := rg [0] <| aX 2 (pM (cn (.str []))) <|
 aXZ
noncomputable def f90_r1 (c : CallF) : RF := rg [2] <| aX 3 (pM 0) <|
 aX 4 (pK c false 133 [3, (cn (.int .i64 10))]) <|
 aX 2 (pM 4) <|
 aXZ
noncomputable def f90 (c : CallF) (k : Nat) : St :=
 (bSeq (bReg (f90_r0 c))
 (bSeq (bReg (f90_r1 c))
 (bEx .ret)))
theorem f90_eq (c : CallF) (k : Nat) : exec cx c 5 f90_an k (Tryd.f90.body.getD .skip) = f90 c k := by kernel_rfl
/-! ### f96: loop.example/g01263/laws.szNotchS -/
def f96_an : Ann := ⟨[(0, r0 [0, 1]), (1, r0 [1]), (2, r0 [1, 10]), (3, r0 [4]), (4, r0 [4])], []⟩
noncomputable def f96_r0 (c : CallF) : RF := rg [0, 1] <| aX 4 (pM (cn (.int .i64 0))) <|
 aXZ
noncomputable def f96_r1 (c : CallF) : RF := rg [1] <| aX 5 (pM 1) <|
 aX 6 (pM 0) <|
 aX 7 (pLen 44 6) <|
 aX 8 (pB .sub 3 5 7) <|
 aX 1 (pM 8) <|
 aXZ
noncomputable def f96_r2 (c : CallF) : RF := rg [1, 10] <| aX 9 (pM 1) <|
 aX 10 (pB .lss 3 9 (cn (.int .i64 0))) <|
 aXZ
noncomputable def f96_r3 (c : CallF) : RF := rg [4] <| aX 4 (pM (cn (.int .i64 (-1)))) <|
 aXZ
noncomputable def f96_r4 (c : CallF) : RF := rg [4] <| aX 11 (pM 1) <|
 aX 4 (pM 11) <|
 aXZ
noncomputable def f96 (c : CallF) (k : Nat) : St :=
 (bSeq (bReg (f96_r0 c))
 (bSeq (bReg (f96_r1 c))
 (bSeq (bSeq (bReg (f96_r2 c))
 (bCond (.tmp 10) (bSeq (bReg (f96_r3 c))
 (bEx .ret)) (bEx .nrm)))
 (bSeq (bReg (f96_r4 c))
 (bEx .ret)))))
theorem f96_eq (c : CallF) (k : Nat) : exec cx c 12 f96_an k (Tryd.f96.body.getD .skip) = f96 c k := by kernel_rfl
/-! ### f97: loop.example/g01263/laws.szMark -/
def f97_an : Ann := ⟨[(0, r0 [1, 2]), (1, r0 [1]), (2, r0 [1, 11]), (3, r0 [4]), (4, r0 [4])], []⟩
noncomputable def f97_r0 (c : CallF) : RF := rg [1, 2] <| aX 2 (pBox 2 0) <|
 aX 4 (pM (cn (.int .i64 0))) <|
 aXZ
noncomputable def f97_r1 (c : CallF) : RF := rg [1] <| aX 5 (pM 1) <|
 aX 6 (pF 0 1 2) <|
 aX 7 (pL false 1 6) <|
 aX 8 (pLen 9 7) <|
 aX 9 (pB .sub 3 5 8) <|
 aX 1 (pM 9) <|
 aXZ
noncomputable def f97_r2 (c : CallF) : RF := rg [1, 11] <| aX 10 (pM 1) <|
 aX 11 (pB .lss 3 10 (cn (.int .i64 0))) <|
 aXZ
noncomputable def f97_r3 (c : CallF) : RF := rg [4] <| aX 4 (pM (cn (.int .i64 (-1)))) <|
 aXZ
noncomputable def f97_r4 (c : CallF) : RF := rg [4] <| aX 12 (pM 1) <|
 aX 4 (pM 12) <|
 aXZ
noncomputable def f97 (c : CallF) (k : Nat) : St :=
 (bSeq (bReg (f97_r0 c))
 (bSeq (bReg (f97_r1 c))
 (bSeq (bSeq (bReg (f97_r2 c))
 (bCond (.tmp 11) (bSeq (bReg (f97_r3 c))
 (bEx .ret)) (bEx .nrm)))
 (bSeq (bReg (f97_r4 c))
 (bEx .ret)))))
theorem f97_eq (c : CallF) (k : Nat) : exec cx c 13 f97_an k (Tryd.f97.body.getD .skip) = f97 c k := by kernel_rfl
/-! ### f98: loop.example/g01263/spec.l06Name -/
def f98_an : Ann := ⟨[(0, r0 [0]), (1, r0 [0, 3]), (2, r0 [0, 3, 7]), (3, r0 [0, 3]), (4, r0 [0, 3, 19]), (5, r0 [2]), (6, r0 [2])], [(2, [0, 3])]⟩
noncomputable def f98_r0 (c : CallF) : RF := rg [0] <| aX 2 (pM (cn (.bool false))) <|
 aXZ
noncomputable def f98_r1 (c : CallF) : RF := rg [0, 3] <| aX 3 (pM (cn (.int .i64 0))) <|
 aXZ
noncomputable def f98_r2 (c : CallF) : RF := rg [0, 3, 7] <| aX 4 (pM 3) <|
 aX 5 (pM 0) <|
 aX 6 (pLen 9 5) <|
 aX 7 (pB .lss 3 4 6) <|
 aXZ
noncomputable def f98_r3 (c : CallF) : RF := rg [0, 3] <| aX 8 (pM 3) <|
 aX 9 (pB .add 3 8 (cn (.int .i64 1))) <|
 aX 3 (pM 9) <|
 aXZ
noncomputable def f98_r4 (c : CallF) : RF := rg [0, 3, 19] <| aX 10 (pM 0) <|
 aX 11 (pM 3) <|
 aX 12 (fun n e M => keep (aIndexB (eget e 10) (eget e 11))) <|
 aX 13 (pB .lss 5 12 (cn (.int .u8 97))) <|
 aX 14 (pM 13) <|
 aX 15 (pG 14 false (pM 0)) <|
 aX 16 (pG 14 false (pM 3)) <|
 aX 17 (pG 14 false (fun n e M => keep (aIndexB (eget e 15) (eget e 16)))) <|
 aX 18 (pG 14 false (pB .gtr 5 17 (cn (.int .u8 122)))) <|
 aX 19 (pP 14 (cn (.bool true)) 18) <|
 aXZ
noncomputable def f98_r5 (c : CallF) : RF := rg [2] <| aX 2 (pM (cn (.bool false))) <|
 aXZ
noncomputable def f98_r6 (c : CallF) : RF := rg [2] <| aX 20 (pM 0) <|
 aX 21 (pB .neq 9 20 (cn (.str []))) <|
 aX 22 (pM 21) <|
 aX 23 (pG 22 true (pM 0)) <|
 aX 24 (pG 22 true (pLen 9 23)) <|
 aX 25 (pG 22 true (pB .leq 3 24 (cn (.int .i64 12)))) <|
 aX 26 (pP 22 25 (cn (.bool false))) <|
 aX 2 (pM 26) <|
 aXZ
noncomputable def f98_l2 (c : CallF) (k : Nat) : St :=
 (bSeq (bSeq (bReg (f98_r2 c))
 (bCond (.tmp 7) (bEx .nrm) (bEx (.ext 0))))
 (bSeq (bBlock 1 (bSeq (bReg (f98_r4 c))
 (bCond (.tmp 19) (bSeq (bReg (f98_r5 c))
 (bEx .ret)) (bEx .nrm))))
 (bReg (f98_r3 c))))
noncomputable def f98 (c : CallF) (k : Nat) : St :=
 (bSeq (bReg (f98_r0 c))
 (bSeq (bSeq (bReg (f98_r1 c))
 (bBlock 0 (bLoop [0, 3] (f98_l2 c k) k)))
 (bSeq (bReg (f98_r6 c))
 (bEx .ret))))
theorem f98_eq (c : CallF) (k : Nat) : exec cx c 27 f98_an k (Tryd.f98.body.getD .skip) = f98 c k := by kernel_rfl
/-! ### f99: loop.example/g01263/spec.l01Ok -/
def f99_an : Ann := ⟨[(0, r0 [0]), (1, r0 [2])], []⟩
noncomputable def f99_r0 (c : CallF) : RF := rg [0] <| aX 2 (pM (cn (.bool false))) <|
 aXZ
noncomputable def f99_r1 (c : CallF) : RF := rg [2] <| aX 3 (pM 0) <|
 aX 4 (pN 3) <|
 aX 5 (pF 1 1 4) <|
 aX 6 (pL false 1 5) <|
 aX 7 (pK c false 142 [6]) <|
 aX 8 (pM 7) <|
 aX 9 (pG 8 true (pM 0)) <|
 aX 10 (pG 8 true (pN 9)) <|
 aX 11 (pG 8 true (pF 2 16 10)) <|
 aX 12 (pG 8 true (pL true 16 11)) <|
 aX 13 (pG 8 true (pK c false 143 [12])) <|
 aX 14 (pP 8 13 (cn (.bool false))) <|
 aX 2 (pM 14) <|
 aXZ
noncomputable def f99 (c : CallF) (k : Nat) : St :=
 (bSeq (bReg (f99_r0 c))
 (bSeq (bReg (f99_r1 c))
 (bEx .ret)))
theorem f99_eq (c : CallF) (k : Nat) : exec cx c 15 f99_an k (Tryd.f99.body.getD .skip) = f99 c k := by kernel_rfl
/-! ### f100: loop.example/g01263/spec.l01Text -/
def f100_an : Ann := ⟨[(0, r0 [0]), (1, r0 [0, 3]), (2, r0 [0, 3, 10]), (3, r0 [0, 3]), (4, r0 [0, 3, 4]), (5, r0 [0, 3, 4, 12]), (6, r0 [0, 3, 4]), (7, r0 [0, 3, 4]), (8, r0 [0, 3, 5]), (9, r0 [0, 3, 5, 34]), (10, r0 [0, 3, 5]), (11, r0 [0, 3, 5, 6]), (12, r0 [0, 3, 5]), (13, r0 [2])], [(5, [0, 3, 4]), (9, [0, 3, 5])]⟩
noncomputable def f100_r0 (c : CallF) : RF := rg [0] <| aX 2 (pM (cn (.str []))) <|
 aXZ
noncomputable def f100_r1 (c : CallF) : RF := rg [0, 3] <| aX 3 (pM (cn (.str [102, 111, 105, 108, 32]))) <|
 aXZ
noncomputable def f100_r2 (c : CallF) : RF := rg [0, 3, 10] <| aX 7 (pM 0) <|
 aX 8 (pN 7) <|
 aX 9 (pF 0 1 8) <|
 aX 10 (pL false 1 9) <|
 aXZ
noncomputable def f100_r3 (c : CallF) : RF := rg [0, 3] <| aX 3 (pM (cn (.str [115, 116, 111, 99, 107, 32]))) <|
 aXZ
noncomputable def f100_r4 (c : CallF) : RF := rg [0, 3, 4] <| aX 4 (pM (cn (.int .i64 0))) <|
 aXZ
noncomputable def f100_r5 (c : CallF) : RF := rg [0, 3, 4, 12] <| aX 11 (pM 4) <|
 aX 12 (pB .lss 3 11 (cn (.int .i64 16))) <|
 aXZ
noncomputable def f100_r6 (c : CallF) : RF := rg [0, 3, 4] <| aX 13 (pM 4) <|
 aX 14 (pB .add 3 13 (cn (.int .i64 1))) <|
 aX 4 (pM 14) <|
 aXZ
noncomputable def f100_r7 (c : CallF) : RF := rg [0, 3, 4] <| aX 15 (pM 3) <|
 aX 16 (pM 0) <|
 aX 17 (pM 4) <|
 aX 18 (pN 16) <|
 aX 19 (pF 2 16 18) <|
 aX 20 (fun n e M => keep (aIndexP 16 1 (eget e 19) (eget e 17) M)) <|
 aX 21 (pL false 1 20) <|
 aX 22 (fun n e M => keep (aConvI .i64 (eget e 21))) <|
 aX 23 (pB .add 3 (cn (.int .i64 100)) 22) <|
 aX 24 (fun n e M => keep (aConvI .u8 (eget e 23))) <|
 aX 25 (fun n e M => keep (aLitI 5 1 [(eget e 24)] M)) <|
 aX 26 (fun n e M => keep (aConvB (eget e 25) M)) <|
 aX 27 (pB .add 9 15 26) <|
 aX 3 (pM 27) <|
 aXZ
noncomputable def f100_r8 (c : CallF) : RF := rg [0, 3, 5] <| aX 5 (pM (cn (.int .i64 0))) <|
 aXZ
noncomputable def f100_r9 (c : CallF) : RF := rg [0, 3, 5, 34] <| aX 28 (pM 5) <|
 aX 29 (pM 0) <|
 aX 30 (pN 29) <|
 aX 31 (pF 1 1 30) <|
 aX 32 (pL false 1 31) <|
 aX 33 (pLen 54 32) <|
 aX 34 (pB .lss 3 28 33) <|
 aXZ
noncomputable def f100_r10 (c : CallF) : RF := rg [0, 3, 5] <| aX 35 (pM 5) <|
 aX 36 (pB .add 3 35 (cn (.int .i64 1))) <|
 aX 5 (pM 36) <|
 aXZ
noncomputable def f100_r11 (c : CallF) : RF := rg [0, 3, 5, 6] <| aX 37 (pM 0) <|
 aX 38 (pN 37) <|
 aX 39 (pF 1 1 38) <|
 aX 40 (pL false 1 39) <|
 aX 41 (pM 5) <|
 aX 42 (pI 2 40 41) <|
 aX 43 (pL true 2 42) <|
 aX 6 (pAl 156 2) <|
 aX0 (pS 2 6 43) <|
 aXZ
noncomputable def f100_r12 (c : CallF) : RF := rgD [0, 3, 5] (aY 44 (pM 3) <|
 aY 45 (pK c false 144 []) <|
 aY 46 (pF 0 1 6) <|
 aY 47 (pL false 1 46) <|
 aY 48 (pF 0 1 6) <|
 aY 49 (pL false 1 48) <|
 aY 50 (pB .add 45 49 (cn (.int .i8 1))) <|
 aY 51 (fun n e M => keep (aSliceS (some (eget e 47)) (some (eget e 50)) (eget e 45))) <|
 aY 52 (pB .add 9 (cn (.str [32])) 51) <|
 aY 53 (pF 1 1 6) <|
 aY 54 (pL false 1 53) <|
 aY 55 (fun n e M => keep (aConvI .i64 (eget e 54))) <|
 aY 56 (pK c false 139 [55]) <|
 aY 57 (pB .add 9 52 56) <|
 aY 58 (pB .add 9 44 57) <|
 aY 3 (pM 58) <|
 aYZ)
 (aXZ)
noncomputable def f100_r13 (c : CallF) : RF := rg [2] <| aX 59 (pM 3) <|
 aX 2 (pM 59) <|
 aXZ
noncomputable def f100_l5 (c : CallF) (k : Nat) : St :=
 (bSeq (bSeq (bReg (f100_r5 c))
 (bCond (.tmp 12) (bEx .nrm) (bEx (.ext 0))))
 (bSeq (bBlock 1 (bReg (f100_r7 c)))
 (bReg (f100_r6 c))))
noncomputable def f100_l9 (c : CallF) (k : Nat) : St :=
 (bSeq (bSeq (bReg (f100_r9 c))
 (bCond (.tmp 34) (bEx .nrm) (bEx (.ext 2))))
 (bSeq (bBlock 3 (bSeq (bReg (f100_r11 c))
 (bReg (f100_r12 c))))
 (bReg (f100_r10 c))))
noncomputable def f100 (c : CallF) (k : Nat) : St :=
 (bSeq (bReg (f100_r0 c))
 (bSeq (bReg (f100_r1 c))
 (bSeq (bSeq (bReg (f100_r2 c))
 (bCond (.tmp 10) (bReg (f100_r3 c)) (bEx .nrm)))
 (bSeq (bSeq (bReg (f100_r4 c))
 (bBlock 0 (bLoop [0, 3, 4] (f100_l5 c k) k)))
 (bSeq (bSeq (bReg (f100_r8 c))
 (bBlock 2 (bLoop [0, 3, 5] (f100_l9 c k) k)))
 (bSeq (bReg (f100_r13 c))
 (bEx .ret)))))))
theorem f100_eq (c : CallF) (k : Nat) : exec cx c 60 f100_an k (Tryd.f100.body.getD .skip) = f100 c k := by kernel_rfl
/-! ### f101: loop.example/g01263/spec.l06Hex -/
def f101_an : Ann := ⟨[(0, r0 [0]), (1, r0 [0, 3]), (2, ⟨[0], [], [], [], [0, 3, 4]⟩), (3, r0 [0, 3, 4, 5]), (4, r0 [0, 3, 4, 5, 8]), (5, r0 [0, 3, 4, 5]), (6, ⟨[9], [], [], [], [0, 3, 4, 5]⟩), (7, r0 [2])], [(4, [0, 3, 4, 5])]⟩
noncomputable def f101_r0 (c : CallF) : RF := rg [0] <| aX 2 (pM (cn (.str []))) <|
 aXZ
noncomputable def f101_r1 (c : CallF) : RF := rg [0, 3] <| aX 3 (pM (cn (.str [48, 49, 50, 51, 52, 53, 54, 55, 56, 57, 97, 98, 99, 100, 101, 102]))) <|
 aXZ
noncomputable def f101_r2 (c : CallF) : RF := rg [0, 3, 4] <| aX 6 (fun n e M => aLitO false n 5 1 [] M) <|
 aX 4 (pM 6) <|
 aXZ
noncomputable def f101_r3 (c : CallF) : RF := rg [0, 3, 4, 5] <| aX 5 (pM (cn (.int .i64 28))) <|
 aXZ
noncomputable def f101_r4 (c : CallF) : RF := rg [0, 3, 4, 5, 8] <| aX 7 (pM 5) <|
 aX 8 (pB .geq 3 7 (cn (.int .i64 0))) <|
 aXZ
noncomputable def f101_r5 (c : CallF) : RF := rg [0, 3, 4, 5] <| aX 9 (pM 5) <|
 aX 10 (pB .sub 3 9 (cn (.int .i64 4))) <|
 aX 5 (pM 10) <|
 aXZ
noncomputable def f101_r6 (c : CallF) : RF := rg [0, 3, 4, 5] <| aX 11 (pM 4) <|
 aX 12 (pM 3) <|
 aX 13 (pM 0) <|
 aX 14 (pM 5) <|
 aX 15 (fun n e M => keep (aConvI .u64 (eget e 14))) <|
 aX 16 (pB .shr 105 13 15) <|
 aX 17 (pB .and 105 16 (cn (.int .u32 15))) <|
 aX 18 (fun n e M => keep (aIndexB (eget e 12) (eget e 17))) <|
 aX 19 (fun n e M => keep (aLitI 5 1 [(eget e 18)] M)) <|
 aX 20 (fun n e M => aAppO n 5 1 1 (eget e 11) (eget e 19) M) <|
 aX 4 (pM 20) <|
 aXZ
noncomputable def f101_r7 (c : CallF) : RF := rg [2] <| aX 21 (pM 4) <|
 aX 22 (fun n e M => keep (aConvB (eget e 21) M)) <|
 aX 2 (pM 22) <|
 aXZ
noncomputable def f101_l4 (c : CallF) (k : Nat) : St :=
 (bSeq (bSeq (bReg (f101_r4 c))
 (bCond (.tmp 8) (bEx .nrm) (bEx (.ext 0))))
 (bSeq (bBlock 1 (bReg (f101_r6 c)))
 (bReg (f101_r5 c))))
noncomputable def f101 (c : CallF) (k : Nat) : St :=
 (bSeq (bReg (f101_r0 c))
 (bSeq (bReg (f101_r1 c))
 (bSeq (bReg (f101_r2 c))
 (bSeq (bSeq (bReg (f101_r3 c))
 (bBlock 0 (bLoop [0, 3, 4, 5] (f101_l4 c k) k)))
 (bSeq (bReg (f101_r7 c))
 (bEx .ret))))))
theorem f101_eq (c : CallF) (k : Nat) : exec cx c 23 f101_an k (Tryd.f101.body.getD .skip) = f101 c k := by kernel_rfl
/-! ### f102: loop.example/g01263/laws.toNotchS -/
def f102_an : Ann := ⟨[(0, r0 [0]), (1, r0 [0, 3]), (2, r0 [0, 3, 4]), (3, r0 [0, 3, 4, 11]), (4, r0 [0, 3, 4]), (5, r0 [0, 3, 4]), (6, r0 [2])], [(3, [0, 3, 4])]⟩
noncomputable def f102_r0 (c : CallF) : RF := rg [0] <| aX 2 (pM (cn .nils)) <|
 aXZ
noncomputable def f102_r1 (c : CallF) : RF := rg [0, 3] <| aX 5 (pM 0) <|
 aX 6 (pLen 44 5) <|
 aX 7 (fun n e M => aMakeO n 156 2 4 (zeroOf cx.P 156) (eget e 6) (eget e 6)) <|
 aX 3 (pM 7) <|
 aXZ
noncomputable def f102_r2 (c : CallF) : RF := rg [0, 3, 4] <| aX 4 (pM (cn (.int .i64 0))) <|
 aXZ
noncomputable def f102_r3 (c : CallF) : RF := rg [0, 3, 4, 11] <| aX 8 (pM 4) <|
 aX 9 (pM 0) <|
 aX 10 (pLen 44 9) <|
 aX 11 (pB .lss 3 8 10) <|
 aXZ
noncomputable def f102_r4 (c : CallF) : RF := rg [0, 3, 4] <| aX 12 (pM 4) <|
 aX 13 (pB .add 3 12 (cn (.int .i64 1))) <|
 aX 4 (pM 13) <|
 aXZ
noncomputable def f102_r5 (c : CallF) : RF := rg [0, 3, 4] <| aX 14 (pM 3) <|
 aX 15 (pM 4) <|
 aX 16 (pM 0) <|
 aX 17 (pM 4) <|
 aX 18 (pI 2 16 17) <|
 aX 19 (pL true 2 18) <|
 aX 20 (pK c false 145 [19]) <|
 aX 21 (pI 2 14 15) <|
 aX0 (pS 2 21 20) <|
 aXZ
noncomputable def f102_r6 (c : CallF) : RF := rg [2] <| aX 22 (pM 3) <|
 aX 2 (pM 22) <|
 aXZ
noncomputable def f102_l3 (c : CallF) (k : Nat) : St :=
 (bSeq (bSeq (bReg (f102_r3 c))
 (bCond (.tmp 11) (bEx .nrm) (bEx (.ext 0))))
 (bSeq (bBlock 1 (bReg (f102_r5 c)))
 (bReg (f102_r4 c))))
noncomputable def f102 (c : CallF) (k : Nat) : St :=
 (bSeq (bReg (f102_r0 c))
 (bSeq (bReg (f102_r1 c))
 (bSeq (bSeq (bReg (f102_r2 c))
 (bBlock 0 (bLoop [0, 3, 4] (f102_l3 c k) k)))
 (bSeq (bReg (f102_r6 c))
 (bEx .ret)))))
theorem f102_eq (c : CallF) (k : Nat) : exec cx c 23 f102_an k (Tryd.f102.body.getD .skip) = f102 c k := by kernel_rfl
/-! ### f103: loop.example/g01263/laws.toGrain -/
def f103_an : Ann := ⟨[(0, r0 [1, 2]), (1, r0 [1, 2, 3]), (2, r0 [1, 2, 3, 4]), (3, r0 [1, 2, 3, 4, 6]), (4, r0 [1, 2, 3, 4]), (5, r0 [1, 2, 3, 4]), (6, r0 [2])], [(3, [1, 2, 3, 4])]⟩
noncomputable def f103_r0 (c : CallF) : RF := rg [1, 2] <| aX 1 (pBox 16 0) <|
 aX 2 (pAl 55 16) <|
 aXZ
noncomputable def f103_r1 (c : CallF) : RF := rg [1, 2, 3] <| aX 3 (pAl 55 16) <|
 aXZ
noncomputable def f103_r2 (c : CallF) : RF := rg [1, 2, 3, 4] <| aX 4 (pM (cn (.int .i64 0))) <|
 aXZ
noncomputable def f103_r3 (c : CallF) : RF := rg [1, 2, 3, 4, 6] <| aX 5 (pM 4) <|
 aX 6 (pB .lss 3 5 (cn (.int .i64 16))) <|
 aXZ
noncomputable def f103_r4 (c : CallF) : RF := rg [1, 2, 3, 4] <| aX 7 (pM 4) <|
 aX 8 (pB .add 3 7 (cn (.int .i64 1))) <|
 aX 4 (pM 8) <|
 aXZ
noncomputable def f103_r5 (c : CallF) : RF := rg [1, 2, 3, 4] <| aX 9 (pM 4) <|
 aX 10 (pM 4) <|
 aX 11 (fun n e M => keep (aIndexP 16 1 (eget e 1) (eget e 10) M)) <|
 aX 12 (pL false 1 11) <|
 aX 13 (fun n e M => keep (aIndexP 16 1 (eget e 3) (eget e 9) M)) <|
 aX0 (pS 1 13 12) <|
 aXZ
noncomputable def f103_r6 (c : CallF) : RF := rg [2] <| aX 14 (pL true 16 3) <|
 aX0 (pS 16 2 14) <|
 aXZ
noncomputable def f103_l3 (c : CallF) (k : Nat) : St :=
 (bSeq (bSeq (bReg (f103_r3 c))
 (bCond (.tmp 6) (bEx .nrm) (bEx (.ext 0))))
 (bSeq (bBlock 1 (bReg (f103_r5 c)))
 (bReg (f103_r4 c))))
noncomputable def f103 (c : CallF) (k : Nat) : St :=
 (bSeq (bReg (f103_r0 c))
 (bSeq (bReg (f103_r1 c))
 (bSeq (bSeq (bReg (f103_r2 c))
 (bBlock 0 (bLoop [1, 2, 3, 4] (f103_l3 c k) k)))
 (bSeq (bReg (f103_r6 c))
 (bEx .ret)))))
theorem f103_eq (c : CallF) (k : Nat) : exec cx c 15 f103_an k (Tryd.f103.body.getD .skip) = f103 c k := by kernel_rfl
/-! ### f104: loop.example/g01263/laws.toMark -/
def f104_an : Ann := ⟨[(0, r0 [1, 2]), (1, r0 [1, 2, 3]), (2, r0 [1, 2, 3]), (3, r0 [2, 3]), (4, r0 [2])], []⟩
noncomputable def f104_r0 (c : CallF) : RF := rg [1, 2] <| aX 1 (pBox 2 0) <|
 aX 2 (pAl 107 2) <|
 aXZ
noncomputable def f104_r1 (c : CallF) : RF := rg [1, 2, 3] <| aX 3 (pAl 107 2) <|
 aXZ
noncomputable def f104_r2 (c : CallF) : RF := rg [1, 2, 3] <| aX 4 (pF 0 1 1) <|
 aX 5 (pL false 1 4) <|
 aX 6 (pF 0 1 3) <|
 aX0 (pS 1 6 5) <|
 aXZ
noncomputable def f104_r3 (c : CallF) : RF := rg [2, 3] <| aX 7 (pF 1 1 1) <|
 aX 8 (pL false 1 7) <|
 aX 9 (pF 1 1 3) <|
 aX0 (pS 1 9 8) <|
 aXZ
noncomputable def f104_r4 (c : CallF) : RF := rg [2] <| aX 10 (pL true 2 3) <|
 aX0 (pS 2 2 10) <|
 aXZ
noncomputable def f104 (c : CallF) (k : Nat) : St :=
 (bSeq (bReg (f104_r0 c))
 (bSeq (bReg (f104_r1 c))
 (bSeq (bReg (f104_r2 c))
 (bSeq (bReg (f104_r3 c))
 (bSeq (bReg (f104_r4 c))
 (bEx .ret))))))
theorem f104_eq (c : CallF) (k : Nat) : exec cx c 11 f104_an k (Tryd.f104.body.getD .skip) = f104 c k := by kernel_rfl
/-! ### f105: loop.example/g01263/impl.isName -/
def f105_an : Ann := ⟨[(0, r0 [0]), (1, r0 [2])], []⟩
noncomputable def f105_r0 (c : CallF) : RF := rg [0] <| aX 2 (pM (cn (.bool false))) <|
 aXZ
noncomputable def f105_r1 (c : CallF) : RF := rg [2] <| aX 3 (pM 0) <|
 aX 4 (pK c false 87 [3, (cn (.int .i64 12))]) <|
 aX 2 (pM 4) <|
 aXZ
noncomputable def f105 (c : CallF) (k : Nat) : St :=
 (bSeq (bReg (f105_r0 c))
 (bSeq (bReg (f105_r1 c))
 (bEx .ret)))
theorem f105_eq (c : CallF) (k : Nat) : exec cx c 5 f105_an k (Tryd.f105.body.getD .skip) = f105 c k := by kernel_rfl
/-! ### f106: loop.example/g01263/impl.ValidHalf -/
def f106_an : Ann := ⟨[(0, r0 [1]), (1, r0 [1, 14]), (2, r0 [2]), (3, r0 [1, 16, 17, 18]), (4, r0 [1, 16, 17, 18, 19]), (5, r0 [1, 3, 4, 16, 17, 18]), (6, r0 [1, 3, 4, 16, 17, 18, 37]), (7, r0 [2]), (8, r0 [1, 16, 17, 18, 64]), (9, r0 [2]), (10, r0 [1, 16, 17, 18]), (11, r0 [2])], [(4, [1, 16, 17, 18])]⟩
noncomputable def f106_r0 (c : CallF) : RF := rg [1] <| aX 1 (pBox 18 0) <|
 aX 2 (pM (cn (.bool false))) <|
 aXZ
noncomputable def f106_r1 (c : CallF) : RF := rg [1, 14] <| aX 5 (pF 1 1 1) <|
 aX 6 (pL false 1 5) <|
 aX 7 (pLen 54 6) <|
 aX 8 (pB .gtr 3 7 (cn (.int .i64 60))) <|
 aX 9 (pM 8) <|
 aX 10 (pG 9 false (pF 2 16 1)) <|
 aX 11 (pG 9 false (pL true 16 10)) <|
 aX 12 (pG 9 false (pK c false 146 [11])) <|
 aX 13 (pG 9 false (pU .not 12)) <|
 aX 14 (pP 9 (cn (.bool true)) 13) <|
 aXZ
noncomputable def f106_r2 (c : CallF) : RF := rg [2] <| aX 2 (pM (cn (.bool false))) <|
 aXZ
noncomputable def f106_r3 (c : CallF) : RF := rg [1, 16, 17, 18] <| aX 15 (pF 1 1 1) <|
 aX 16 (pL false 1 15) <|
 aX 17 (pLen 54 16) <|
 aX 18 (pM (cn (.int .i64 0))) <|
 aXZ
noncomputable def f106_r4 (c : CallF) : RF := rg [1, 16, 17, 18, 19] <| aX 19 (pB .lss 3 18 17) <|
 aXZ
noncomputable def f106_r5 (c : CallF) : RF := rg [1, 3, 4, 16, 17, 18] <| aX 20 (pM 18) <|
 aX 21 (pI 2 16 18) <|
 aX 22 (pL true 2 21) <|
 aX 4 (pAl 156 2) <|
 aX 3 (pM 20) <|
 aX0 (pS 2 4 22) <|
 aXZ
noncomputable def f106_r6 (c : CallF) : RF := rg [1, 3, 4, 16, 17, 18, 37] <| aX 23 (pF 0 1 4) <|
 aX 24 (pL false 1 23) <|
 aX 25 (fun n e M => keep (aConvI .i64 (eget e 24))) <|
 aX 26 (pK c false 147 [25]) <|
 aX 27 (pU .not 26) <|
 aX 28 (pM 27) <|
 aX 29 (pG 28 false (pF 1 1 4)) <|
 aX 30 (pG 28 false (pL false 1 29)) <|
 aX 31 (pG 28 false (pB .lss 154 30 (cn (.int .i16 0)))) <|
 aX 32 (pP 28 (cn (.bool true)) 31) <|
 aX 33 (pM 32) <|
 aX 34 (pG 33 false (pL true 2 4)) <|
 aX 35 (pG 33 false (pK c false 148 [34])) <|
 aX 36 (pG 33 false (pB .gtr 2 35 (cn (.int .i64 200)))) <|
 aX 37 (pP 33 (cn (.bool true)) 36) <|
 aXZ
noncomputable def f106_r7 (c : CallF) : RF := rg [2] <| aX 2 (pM (cn (.bool false))) <|
 aXZ
noncomputable def f106_r8 (c : CallF) : RF := rgD [1, 16, 17, 18, 64] (aY 38 (pM 3) <|
 aY 39 (pB .gtr 3 38 (cn (.int .i64 0))) <|
 aY 40 (pM 39) <|
 aY 41 (pG 40 true (pF 1 1 4)) <|
 aY 42 (pG 40 true (pL false 1 41)) <|
 aY 43 (pG 40 true (fun n e M => keep (aConvI .i64 (eget e 42)))) <|
 aY 44 (pG 40 true (pF 1 1 1)) <|
 aY 45 (pG 40 true (pL false 1 44)) <|
 aY 46 (pG 40 true (pM 3)) <|
 aY 47 (pG 40 true (pB .sub 3 46 (cn (.int .i64 1)))) <|
 aY 48 (pG 40 true (pI 2 45 47)) <|
 aY 49 (pG 40 true (pL true 2 48)) <|
 aY 50 (pG 40 true (pK c false 148 [49])) <|
 aY 51 (pG 40 true (pB .leq 2 43 50)) <|
 aY 52 (pG 40 true (pM 51)) <|
 aY 53 (pG 52 false (pF 0 1 4)) <|
 aY 54 (pG 52 false (pL false 1 53)) <|
 aY 55 (pG 52 false (pF 1 1 1)) <|
 aY 56 (pG 52 false (pL false 1 55)) <|
 aY 57 (pG 52 false (pM 3)) <|
 aY 58 (pG 52 false (pB .sub 3 57 (cn (.int .i64 1)))) <|
 aY 59 (pG 52 false (pI 2 56 58)) <|
 aY 60 (pG 52 false (pF 0 1 59)) <|
 aY 61 (pG 52 false (pL false 1 60)) <|
 aY 62 (pG 52 false (pB .gtr 45 54 61)) <|
 aY 63 (pG 40 true (pP 52 (cn (.bool true)) 62)) <|
 aY 64 (pP 40 63 (cn (.bool false))) <|
 aYZ)
 (aXZ)
noncomputable def f106_r9 (c : CallF) : RF := rg [2] <| aX 2 (pM (cn (.bool false))) <|
 aXZ
noncomputable def f106_r10 (c : CallF) : RF := rg [1, 16, 17, 18] <| aX 65 (pB .add 3 18 (cn (.int .i64 1))) <|
 aX 18 (pM 65) <|
 aXZ
noncomputable def f106_r11 (c : CallF) : RF := rg [2] <| aX 2 (pM (cn (.bool true))) <|
 aXZ
noncomputable def f106_l4 (c : CallF) (k : Nat) : St :=
 (bSeq (bReg (f106_r4 c))
 (bSeq (bCond (.tmp 19) (bEx .nrm) (bEx (.ext 0)))
 (bSeq (bBlock 1 (bSeq (bReg (f106_r5 c))
 (bSeq (bSeq (bReg (f106_r6 c))
 (bCond (.tmp 37) (bSeq (bReg (f106_r7 c))
 (bEx .ret)) (bEx .nrm)))
 (bSeq (bReg (f106_r8 c))
 (bCond (.tmp 64) (bSeq (bReg (f106_r9 c))
 (bEx .ret)) (bEx .nrm))))))
 (bReg (f106_r10 c)))))
noncomputable def f106 (c : CallF) (k : Nat) : St :=
 (bSeq (bReg (f106_r0 c))
 (bSeq (bSeq (bReg (f106_r1 c))
 (bCond (.tmp 14) (bSeq (bReg (f106_r2 c))
 (bEx .ret)) (bEx .nrm)))
 (bSeq (bSeq (bReg (f106_r3 c))
 (bBlock 0 (bLoop [1, 16, 17, 18] (f106_l4 c k) k)))
 (bSeq (bReg (f106_r11 c))
 (bEx .ret)))))
theorem f106_eq (c : CallF) (k : Nat) : exec cx c 66 f106_an k (Tryd.f106.body.getD .skip) = f106 c k := by kernel_rfl
/-! ### f107: loop.example/g01263/laws.eqNotchS -/
def f107_an : Ann := ⟨[(0, r0 [0, 1]), (1, r0 [0, 1, 10]), (2, r0 [4]), (3, r0 [0, 1, 5]), (4, r0 [0, 1, 5, 14]), (5, r0 [0, 1, 5]), (6, r0 [0, 1, 5, 26]), (7, r0 [4]), (8, r0 [4])], [(4, [0, 1, 5])]⟩
noncomputable def f107_r0 (c : CallF) : RF := rg [0, 1] <| aX 4 (pM (cn (.bool false))) <|
 aXZ
noncomputable def f107_r1 (c : CallF) : RF := rg [0, 1, 10] <| aX 6 (pM 0) <|
 aX 7 (pLen 54 6) <|
 aX 8 (pM 1) <|
 aX 9 (pLen 54 8) <|
 aX 10 (pB .neq 3 7 9) <|
 aXZ
noncomputable def f107_r2 (c : CallF) : RF := rg [4] <| aX 4 (pM (cn (.bool false))) <|
 aXZ
noncomputable def f107_r3 (c : CallF) : RF := rg [0, 1, 5] <| aX 5 (pM (cn (.int .i64 0))) <|
 aXZ
noncomputable def f107_r4 (c : CallF) : RF := rg [0, 1, 5, 14] <| aX 11 (pM 5) <|
 aX 12 (pM 0) <|
 aX 13 (pLen 54 12) <|
 aX 14 (pB .lss 3 11 13) <|
 aXZ
noncomputable def f107_r5 (c : CallF) : RF := rg [0, 1, 5] <| aX 15 (pM 5) <|
 aX 16 (pB .add 3 15 (cn (.int .i64 1))) <|
 aX 5 (pM 16) <|
 aXZ
noncomputable def f107_r6 (c : CallF) : RF := rgD [0, 1, 5, 26] (aY 17 (pM 0) <|
 aY 18 (pM 5) <|
 aY 19 (pI 2 17 18) <|
 aY 20 (pL true 2 19) <|
 aY 21 (pM 1) <|
 aY 22 (pM 5) <|
 aY 23 (pI 2 21 22) <|
 aY 24 (pL true 2 23) <|
 aY 25 (pK c false 149 [20, 24]) <|
 aY 26 (pU .not 25) <|
 aYZ)
 (aXZ)
noncomputable def f107_r7 (c : CallF) : RF := rg [4] <| aX 4 (pM (cn (.bool false))) <|
 aXZ
noncomputable def f107_r8 (c : CallF) : RF := rg [4] <| aX 4 (pM (cn (.bool true))) <|
 aXZ
noncomputable def f107_l4 (c : CallF) (k : Nat) : St :=
 (bSeq (bSeq (bReg (f107_r4 c))
 (bCond (.tmp 14) (bEx .nrm) (bEx (.ext 0))))
 (bSeq (bBlock 1 (bSeq (bReg (f107_r6 c))
 (bCond (.tmp 26) (bSeq (bReg (f107_r7 c))
 (bEx .ret)) (bEx .nrm))))
 (bReg (f107_r5 c))))
noncomputable def f107 (c : CallF) (k : Nat) : St :=
 (bSeq (bReg (f107_r0 c))
 (bSeq (bSeq (bReg (f107_r1 c))
 (bCond (.tmp 10) (bSeq (bReg (f107_r2 c))
 (bEx .ret)) (bEx .nrm)))
 (bSeq (bSeq (bReg (f107_r3 c))
 (bBlock 0 (bLoop [0, 1, 5] (f107_l4 c k) k)))
 (bSeq (bReg (f107_r8 c))
 (bEx .ret)))))
theorem f107_eq (c : CallF) (k : Nat) : exec cx c 27 f107_an k (Tryd.f107.body.getD .skip) = f107 c k := by kernel_rfl
/-! ### f108: loop.example/g01263/laws.eqGrain -/
def f108_an : Ann := ⟨[(0, r0 [2, 3]), (1, r0 [2, 3, 5]), (2, r0 [2, 3, 5, 7]), (3, r0 [2, 3, 5]), (4, r0 [2, 3, 5, 16]), (5, r0 [4]), (6, r0 [4])], [(2, [2, 3, 5])]⟩
noncomputable def f108_r0 (c : CallF) : RF := rg [2, 3] <| aX 2 (pBox 16 0) <|
 aX 3 (pBox 16 1) <|
 aX 4 (pM (cn (.bool false))) <|
 aXZ
noncomputable def f108_r1 (c : CallF) : RF := rg [2, 3, 5] <| aX 5 (pM (cn (.int .i64 0))) <|
 aXZ
noncomputable def f108_r2 (c : CallF) : RF := rg [2, 3, 5, 7] <| aX 6 (pM 5) <|
 aX 7 (pB .lss 3 6 (cn (.int .i64 16))) <|
 aXZ
noncomputable def f108_r3 (c : CallF) : RF := rg [2, 3, 5] <| aX 8 (pM 5) <|
 aX 9 (pB .add 3 8 (cn (.int .i64 1))) <|
 aX 5 (pM 9) <|
 aXZ
noncomputable def f108_r4 (c : CallF) : RF := rgD [2, 3, 5, 16] (aY 10 (pM 5) <|
 aY 11 (fun n e M => keep (aIndexP 16 1 (eget e 2) (eget e 10) M)) <|
 aY 12 (pL false 1 11) <|
 aY 13 (pM 5) <|
 aY 14 (fun n e M => keep (aIndexP 16 1 (eget e 3) (eget e 13) M)) <|
 aY 15 (pL false 1 14) <|
 aY 16 (pB .neq 45 12 15) <|
 aYZ)
 (aXZ)
noncomputable def f108_r5 (c : CallF) : RF := rg [4] <| aX 4 (pM (cn (.bool false))) <|
 aXZ
noncomputable def f108_r6 (c : CallF) : RF := rg [4] <| aX 4 (pM (cn (.bool true))) <|
 aXZ
noncomputable def f108_l2 (c : CallF) (k : Nat) : St :=
 (bSeq (bSeq (bReg (f108_r2 c))
 (bCond (.tmp 7) (bEx .nrm) (bEx (.ext 0))))
 (bSeq (bBlock 1 (bSeq (bReg (f108_r4 c))
 (bCond (.tmp 16) (bSeq (bReg (f108_r5 c))
 (bEx .ret)) (bEx .nrm))))
 (bReg (f108_r3 c))))
noncomputable def f108 (c : CallF) (k : Nat) : St :=
 (bSeq (bReg (f108_r0 c))
 (bSeq (bSeq (bReg (f108_r1 c))
 (bBlock 0 (bLoop [2, 3, 5] (f108_l2 c k) k)))
 (bSeq (bReg (f108_r6 c))
 (bEx .ret))))
theorem f108_eq (c : CallF) (k : Nat) : exec cx c 17 f108_an k (Tryd.f108.body.getD .skip) = f108 c k := by kernel_rfl
/-! ### f109: loop.example/g01263/laws.eqMark -/
def f109_an : Ann := ⟨[(0, r0 [2, 3]), (1, r0 [2, 3, 9]), (2, r0 [4]), (3, r0 [14]), (4, r0 [4]), (5, r0 [4])], []⟩
noncomputable def f109_r0 (c : CallF) : RF := rg [2, 3] <| aX 2 (pBox 2 0) <|
 aX 3 (pBox 2 1) <|
 aX 4 (pM (cn (.bool false))) <|
 aXZ
noncomputable def f109_r1 (c : CallF) : RF := rg [2, 3, 9] <| aX 5 (pF 0 1 2) <|
 aX 6 (pL false 1 5) <|
 aX 7 (pF 0 1 3) <|
 aX 8 (pL false 1 7) <|
 aX 9 (pB .neq 9 6 8) <|
 aXZ
noncomputable def f109_r2 (c : CallF) : RF := rg [4] <| aX 4 (pM (cn (.bool false))) <|
 aXZ
noncomputable def f109_r3 (c : CallF) : RF := rg [14] <| aX 10 (pF 1 1 2) <|
 aX 11 (pL false 1 10) <|
 aX 12 (pF 1 1 3) <|
 aX 13 (pL false 1 12) <|
 aX 14 (pB .neq 105 11 13) <|
 aXZ
noncomputable def f109_r4 (c : CallF) : RF := rg [4] <| aX 4 (pM (cn (.bool false))) <|
 aXZ
noncomputable def f109_r5 (c : CallF) : RF := rg [4] <| aX 4 (pM (cn (.bool true))) <|
 aXZ
noncomputable def f109 (c : CallF) (k : Nat) : St :=
 (bSeq (bReg (f109_r0 c))
 (bSeq (bSeq (bReg (f109_r1 c))
 (bCond (.tmp 9) (bSeq (bReg (f109_r2 c))
 (bEx .ret)) (bEx .nrm)))
 (bSeq (bSeq (bReg (f109_r3 c))
 (bCond (.tmp 14) (bSeq (bReg (f109_r4 c))
 (bEx .ret)) (bEx .nrm)))
 (bSeq (bReg (f109_r5 c))
 (bEx .ret)))))
theorem f109_eq (c : CallF) (k : Nat) : exec cx c 15 f109_an k (Tryd.f109.body.getD .skip) = f109 c k := by kernel_rfl
/-! ### f139: loop.example/g01263/spec.Decimal -/
def f139_an : Ann := ⟨[(0, r0 [0]), (1, r0 [0, 4]), (2, r0 [2]), (3, r0 [2])], []⟩
noncomputable def f139_r0 (c : CallF) : RF := rg [0] <| aX 2 (pM (cn (.str []))) <|
 aXZ
noncomputable def f139_r1 (c : CallF) : RF := rg [0, 4] <| aX 3 (pM 0) <|
 aX 4 (pB .lss 2 3 (cn (.int .i64 10))) <|
 aXZ
noncomputable def f139_r2 (c : CallF) : RF := rg [2] <| aX 5 (pM 0) <|
 aX 6 (pB .rem 2 5 (cn (.int .i64 10))) <|
 aX 7 (pB .add 2 (cn (.int .i64 48)) 6) <|
 aX 8 (fun n e M => keep (aConvI .u8 (eget e 7))) <|
 aX 9 (fun n e M => keep (aLitI 5 1 [(eget e 8)] M)) <|
 aX 10 (fun n e M => keep (aConvB (eget e 9) M)) <|
 aX 2 (pM 10) <|
 aXZ
noncomputable def f139_r3 (c : CallF) : RF := rgD [2] (aY 11 (pM 0) <|
 aY 12 (pB .quo 2 11 (cn (.int .i64 10))) <|
 aY 13 (pK c false 139 [12]) <|
 aY 14 (pM 0) <|
 aY 15 (pB .rem 2 14 (cn (.int .i64 10))) <|
 aY 16 (pB .add 2 (cn (.int .i64 48)) 15) <|
 aY 17 (fun n e M => keep (aConvI .u8 (eget e 16))) <|
 aY 18 (fun n e M => keep (aLitI 5 1 [(eget e 17)] M)) <|
 aY 19 (fun n e M => keep (aConvB (eget e 18) M)) <|
 aY 20 (pB .add 9 13 19) <|
 aY 2 (pM 20) <|
 aYZ)
 (aXZ)
noncomputable def f139 (c : CallF) (k : Nat) : St :=
 (bSeq (bReg (f139_r0 c))
 (bSeq (bSeq (bReg (f139_r1 c))
 (bCond (.tmp 4) (bSeq (bReg (f139_r2 c))
 (bEx .ret)) (bEx .nrm)))
 (bSeq (bReg (f139_r3 c))
 (bEx .ret))))
theorem f139_eq (c : CallF) (k : Nat) : exec cx c 21 f139_an k (Tryd.f139.body.getD .skip) = f139 c k := by kernel_rfl
/-! ### f142: loop.example/g01263/spec.l01Notches -/
def f142_an : Ann := ⟨[(0, r0 [0]), (1, r0 [0, 7]), (2, r0 [2]), (3, r0 [0, 3]), (4, r0 [0, 3, 11]), (5, r0 [0, 3]), (6, r0 [0, 3, 4]), (7, r0 [0, 3, 4, 32]), (8, r0 [2]), (9, r0 [0, 3, 57]), (10, r0 [2]), (11, r0 [2])], [(4, [0, 3])]⟩
noncomputable def f142_r0 (c : CallF) : RF := rg [0] <| aX 2 (pM (cn (.bool false))) <|
 aXZ
noncomputable def f142_r1 (c : CallF) : RF := rg [0, 7] <| aX 5 (pM 0) <|
 aX 6 (pLen 54 5) <|
 aX 7 (pB .gtr 3 6 (cn (.int .i64 60))) <|
 aXZ
noncomputable def f142_r2 (c : CallF) : RF := rg [2] <| aX 2 (pM (cn (.bool false))) <|
 aXZ
noncomputable def f142_r3 (c : CallF) : RF := rg [0, 3] <| aX 3 (pM (cn (.int .i64 0))) <|
 aXZ
noncomputable def f142_r4 (c : CallF) : RF := rg [0, 3, 11] <| aX 8 (pM 3) <|
 aX 9 (pM 0) <|
 aX 10 (pLen 54 9) <|
 aX 11 (pB .lss 3 8 10) <|
 aXZ
noncomputable def f142_r5 (c : CallF) : RF := rg [0, 3] <| aX 12 (pM 3) <|
 aX 13 (pB .add 3 12 (cn (.int .i64 1))) <|
 aX 3 (pM 13) <|
 aXZ
noncomputable def f142_r6 (c : CallF) : RF := rg [0, 3, 4] <| aX 14 (pM 0) <|
 aX 15 (pM 3) <|
 aX 16 (pI 2 14 15) <|
 aX 17 (pL true 2 16) <|
 aX 4 (pAl 156 2) <|
 aX0 (pS 2 4 17) <|
 aXZ
noncomputable def f142_r7 (c : CallF) : RF := rg [0, 3, 4, 32] <| aX 18 (pF 0 1 4) <|
 aX 19 (pL false 1 18) <|
 aX 20 (fun n e M => keep (aConvI .i64 (eget e 19))) <|
 aX 21 (pK c false 168 [20]) <|
 aX 22 (pU .not 21) <|
 aX 23 (pM 22) <|
 aX 24 (pG 23 false (pF 1 1 4)) <|
 aX 25 (pG 23 false (pL false 1 24)) <|
 aX 26 (pG 23 false (pB .lss 154 25 (cn (.int .i16 0)))) <|
 aX 27 (pP 23 (cn (.bool true)) 26) <|
 aX 28 (pM 27) <|
 aX 29 (pG 28 false (pL true 2 4)) <|
 aX 30 (pG 28 false (pK c false 169 [29])) <|
 aX 31 (pG 28 false (pB .gtr 2 30 (cn (.int .i64 200)))) <|
 aX 32 (pP 28 (cn (.bool true)) 31) <|
 aXZ
noncomputable def f142_r8 (c : CallF) : RF := rg [2] <| aX 2 (pM (cn (.bool false))) <|
 aXZ
noncomputable def f142_r9 (c : CallF) : RF := rgD [0, 3, 57] (aY 33 (pM 3) <|
 aY 34 (pB .gtr 3 33 (cn (.int .i64 0))) <|
 aY 35 (pM 34) <|
 aY 36 (pG 35 true (pF 0 1 4)) <|
 aY 37 (pG 35 true (pL false 1 36)) <|
 aY 38 (pG 35 true (pM 0)) <|
 aY 39 (pG 35 true (pM 3)) <|
 aY 40 (pG 35 true (pB .sub 3 39 (cn (.int .i64 1)))) <|
 aY 41 (pG 35 true (pI 2 38 40)) <|
 aY 42 (pG 35 true (pF 0 1 41)) <|
 aY 43 (pG 35 true (pL false 1 42)) <|
 aY 44 (pG 35 true (pB .gtr 45 37 43)) <|
 aY 45 (pG 35 true (pM 44)) <|
 aY 46 (pG 45 false (pF 1 1 4)) <|
 aY 47 (pG 45 false (pL false 1 46)) <|
 aY 48 (pG 45 false (fun n e M => keep (aConvI .i64 (eget e 47)))) <|
 aY 49 (pG 45 false (pM 0)) <|
 aY 50 (pG 45 false (pM 3)) <|
 aY 51 (pG 45 false (pB .sub 3 50 (cn (.int .i64 1)))) <|
 aY 52 (pG 45 false (pI 2 49 51)) <|
 aY 53 (pG 45 false (pL true 2 52)) <|
 aY 54 (pG 45 false (pK c false 169 [53])) <|
 aY 55 (pG 45 false (pB .leq 2 48 54)) <|
 aY 56 (pG 35 true (pP 45 (cn (.bool true)) 55)) <|
 aY 57 (pP 35 56 (cn (.bool false))) <|
 aYZ)
 (aXZ)
noncomputable def f142_r10 (c : CallF) : RF := rg [2] <| aX 2 (pM (cn (.bool false))) <|
 aXZ
noncomputable def f142_r11 (c : CallF) : RF := rg [2] <| aX 2 (pM (cn (.bool true))) <|
 aXZ
noncomputable def f142_l4 (c : CallF) (k : Nat) : St :=
 (bSeq (bSeq (bReg (f142_r4 c))
 (bCond (.tmp 11) (bEx .nrm) (bEx (.ext 0))))
 (bSeq (bBlock 1 (bSeq (bReg (f142_r6 c))
 (bSeq (bSeq (bReg (f142_r7 c))
 (bCond (.tmp 32) (bSeq (bReg (f142_r8 c))
 (bEx .ret)) (bEx .nrm)))
 (bSeq (bReg (f142_r9 c))
 (bCond (.tmp 57) (bSeq (bReg (f142_r10 c))
 (bEx .ret)) (bEx .nrm))))))
 (bReg (f142_r5 c))))
noncomputable def f142 (c : CallF) (k : Nat) : St :=
 (bSeq (bReg (f142_r0 c))
 (bSeq (bSeq (bReg (f142_r1 c))
 (bCond (.tmp 7) (bSeq (bReg (f142_r2 c))
 (bEx .ret)) (bEx .nrm)))
 (bSeq (bSeq (bReg (f142_r3 c))
 (bBlock 0 (bLoop [0, 3] (f142_l4 c k) k)))
 (bSeq (bReg (f142_r11 c))
 (bEx .ret)))))
theorem f142_eq (c : CallF) (k : Nat) : exec cx c 58 f142_an k (Tryd.f142.body.getD .skip) = f142 c k := by kernel_rfl
/-! ### f143: loop.example/g01263/spec.l01Grain -/
def f143_an : Ann := ⟨[(0, r0 [1]), (1, r0 [1, 3]), (2, r0 [1, 3, 5]), (3, r0 [1, 3]), (4, r0 [1, 3, 17]), (5, r0 [2]), (6, r0 [2])], [(2, [1, 3])]⟩
noncomputable def f143_r0 (c : CallF) : RF := rg [1] <| aX 1 (pBox 16 0) <|
 aX 2 (pM (cn (.bool false))) <|
 aXZ
noncomputable def f143_r1 (c : CallF) : RF := rg [1, 3] <| aX 3 (pM (cn (.int .i64 0))) <|
 aXZ
noncomputable def f143_r2 (c : CallF) : RF := rg [1, 3, 5] <| aX 4 (pM 3) <|
 aX 5 (pB .lss 3 4 (cn (.int .i64 16))) <|
 aXZ
noncomputable def f143_r3 (c : CallF) : RF := rg [1, 3] <| aX 6 (pM 3) <|
 aX 7 (pB .add 3 6 (cn (.int .i64 1))) <|
 aX 3 (pM 7) <|
 aXZ
noncomputable def f143_r4 (c : CallF) : RF := rg [1, 3, 17] <| aX 8 (pM 3) <|
 aX 9 (fun n e M => keep (aIndexP 16 1 (eget e 1) (eget e 8) M)) <|
 aX 10 (pL false 1 9) <|
 aX 11 (pB .lss 45 10 (cn (.int .i8 (-3)))) <|
 aX 12 (pM 11) <|
 aX 13 (pG 12 false (pM 3)) <|
 aX 14 (pG 12 false (fun n e M => keep (aIndexP 16 1 (eget e 1) (eget e 13) M))) <|
 aX 15 (pG 12 false (pL false 1 14)) <|
 aX 16 (pG 12 false (pB .gtr 45 15 (cn (.int .i8 3)))) <|
 aX 17 (pP 12 (cn (.bool true)) 16) <|
 aXZ
noncomputable def f143_r5 (c : CallF) : RF := rg [2] <| aX 2 (pM (cn (.bool false))) <|
 aXZ
noncomputable def f143_r6 (c : CallF) : RF := rg [2] <| aX 2 (pM (cn (.bool true))) <|
 aXZ
noncomputable def f143_l2 (c : CallF) (k : Nat) : St :=
 (bSeq (bSeq (bReg (f143_r2 c))
 (bCond (.tmp 5) (bEx .nrm) (bEx (.ext 0))))
 (bSeq (bBlock 1 (bSeq (bReg (f143_r4 c))
 (bCond (.tmp 17) (bSeq (bReg (f143_r5 c))
 (bEx .ret)) (bEx .nrm))))
 (bReg (f143_r3 c))))
noncomputable def f143 (c : CallF) (k : Nat) : St :=
 (bSeq (bReg (f143_r0 c))
 (bSeq (bSeq (bReg (f143_r1 c))
 (bBlock 0 (bLoop [1, 3] (f143_l2 c k) k)))
 (bSeq (bReg (f143_r6 c))
 (bEx .ret))))
theorem f143_eq (c : CallF) (k : Nat) : exec cx c 18 f143_an k (Tryd.f143.body.getD .skip) = f143 c k := by kernel_rfl
/-! ### f144: loop.example/g01263/spec.l01Letters -/
def f144_an : Ann := ⟨[(0, r0 []), (1, r0 [0])], []⟩
noncomputable def f144_r0 (c : CallF) : RF := rg [] <| aX 0 (pM (cn (.str []))) <|
 aXZ
noncomputable def f144_r1 (c : CallF) : RF := rg [0] <| aX 0 (pM (cn (.str [100, 115, 108, 118, 99, 109]))) <|
 aXZ
noncomputable def f144 (c : CallF) (k : Nat) : St :=
 (bSeq (bReg (f144_r0 c))
 (bSeq (bReg (f144_r1 c))
 (bEx .ret)))
theorem f144_eq (c : CallF) (k : Nat) : exec cx c 1 f144_an k (Tryd.f144.body.getD .skip) = f144 c k := by kernel_rfl
/-! ### f145: loop.example/g01263/laws.toNotch -/
def f145_an : Ann := ⟨[(0, r0 [1, 2]), (1, r0 [1, 2, 3]), (2, r0 [1, 2, 3]), (3, r0 [2, 3]), (4, r0 [2])], []⟩
noncomputable def f145_r0 (c : CallF) : RF := rg [1, 2] <| aX 1 (pBox 2 0) <|
 aX 2 (pAl 156 2) <|
 aXZ
noncomputable def f145_r1 (c : CallF) : RF := rg [1, 2, 3] <| aX 3 (pAl 156 2) <|
 aXZ
noncomputable def f145_r2 (c : CallF) : RF := rg [1, 2, 3] <| aX 4 (pF 0 1 1) <|
 aX 5 (pL false 1 4) <|
 aX 6 (pF 0 1 3) <|
 aX0 (pS 1 6 5) <|
 aXZ
noncomputable def f145_r3 (c : CallF) : RF := rg [2, 3] <| aX 7 (pF 1 1 1) <|
 aX 8 (pL false 1 7) <|
 aX 9 (pF 1 1 3) <|
 aX0 (pS 1 9 8) <|
 aXZ
noncomputable def f145_r4 (c : CallF) : RF := rg [2] <| aX 10 (pL true 2 3) <|
 aX0 (pS 2 2 10) <|
 aXZ
noncomputable def f145 (c : CallF) (k : Nat) : St :=
 (bSeq (bReg (f145_r0 c))
 (bSeq (bReg (f145_r1 c))
 (bSeq (bReg (f145_r2 c))
 (bSeq (bReg (f145_r3 c))
 (bSeq (bReg (f145_r4 c))
 (bEx .ret))))))
theorem f145_eq (c : CallF) (k : Nat) : exec cx c 11 f145_an k (Tryd.f145.body.getD .skip) = f145 c k := by kernel_rfl
/-! ### f146: loop.example/g01263/impl.ValidGrain -/
def f146_an : Ann := ⟨[(0, r0 [1]), (1, r0 [5, 6]), (2, r0 [5, 6, 7]), (3, r0 [4, 5, 6]), (4, r0 [5, 6, 14]), (5, r0 [2]), (6, r0 [5, 6]), (7, r0 [2])], [(2, [5, 6])]⟩
noncomputable def f146_r0 (c : CallF) : RF := rg [1] <| aX 1 (pBox 16 0) <|
 aX 2 (pM (cn (.bool false))) <|
 aXZ
noncomputable def f146_r1 (c : CallF) : RF := rg [5, 6] <| aX 5 (pL true 16 1) <|
 aX 6 (pM (cn (.int .i64 0))) <|
 aXZ
noncomputable def f146_r2 (c : CallF) : RF := rg [5, 6, 7] <| aX 7 (pB .lss 3 6 (cn (.int .i64 16))) <|
 aXZ
noncomputable def f146_r3 (c : CallF) : RF := rg [4, 5, 6] <| aX 8 (fun n e M => keep (aIndexA false 16 1 (eget e 5) (eget e 6))) <|
 aX 4 (pM 8) <|
 aXZ
noncomputable def f146_r4 (c : CallF) : RF := rg [5, 6, 14] <| aX 9 (pM 4) <|
 aX 10 (pB .lss 45 9 (cn (.int .i8 (-3)))) <|
 aX 11 (pM 10) <|
 aX 12 (pG 11 false (pM 4)) <|
 aX 13 (pG 11 false (pB .gtr 45 12 (cn (.int .i8 3)))) <|
 aX 14 (pP 11 (cn (.bool true)) 13) <|
 aXZ
noncomputable def f146_r5 (c : CallF) : RF := rg [2] <| aX 2 (pM (cn (.bool false))) <|
 aXZ
noncomputable def f146_r6 (c : CallF) : RF := rg [5, 6] <| aX 15 (pB .add 3 6 (cn (.int .i64 1))) <|
 aX 6 (pM 15) <|
 aXZ
noncomputable def f146_r7 (c : CallF) : RF := rg [2] <| aX 2 (pM (cn (.bool true))) <|
 aXZ
noncomputable def f146_l2 (c : CallF) (k : Nat) : St :=
 (bSeq (bReg (f146_r2 c))
 (bSeq (bCond (.tmp 7) (bEx .nrm) (bEx (.ext 0)))
 (bSeq (bBlock 1 (bSeq (bReg (f146_r3 c))
 (bSeq (bReg (f146_r4 c))
 (bCond (.tmp 14) (bSeq (bReg (f146_r5 c))
 (bEx .ret)) (bEx .nrm)))))
 (bReg (f146_r6 c)))))
noncomputable def f146 (c : CallF) (k : Nat) : St :=
 (bSeq (bReg (f146_r0 c))
 (bSeq (bSeq (bReg (f146_r1 c))
 (bBlock 0 (bLoop [5, 6] (f146_l2 c k) k)))
 (bSeq (bReg (f146_r7 c))
 (bEx .ret))))
theorem f146_eq (c : CallF) (k : Nat) : exec cx c 16 f146_an k (Tryd.f146.body.getD .skip) = f146 c k := by kernel_rfl
/-! ### f147: loop.example/g01263/impl.isKind -/
def f147_an : Ann := ⟨[(0, r0 [0]), (1, r0 [2])], []⟩
noncomputable def f147_r0 (c : CallF) : RF := rg [0] <| aX 2 (pM (cn (.bool false))) <|
 aXZ
noncomputable def f147_r1 (c : CallF) : RF := rg [2] <| aX 3 (pM 0) <|
 aX 4 (pB .geq 2 3 (cn (.int .i64 0))) <|
 aX 5 (pM 4) <|
 aX 6 (pG 5 true (pM 0)) <|
 aX 7 (pG 5 true (pB .leq 2 6 (cn (.int .i64 5)))) <|
 aX 8 (pP 5 7 (cn (.bool false))) <|
 aX 2 (pM 8) <|
 aXZ
noncomputable def f147 (c : CallF) (k : Nat) : St :=
 (bSeq (bReg (f147_r0 c))
 (bSeq (bReg (f147_r1 c))
 (bEx .ret)))
theorem f147_eq (c : CallF) (k : Nat) : exec cx c 9 f147_an k (Tryd.f147.body.getD .skip) = f147 c k := by kernel_rfl
/-! ### f148: (loop.example/g01263/impl.Notch).end -/
def f148_an : Ann := ⟨[(0, r0 [1]), (1, r0 [2])], []⟩
noncomputable def f148_r0 (c : CallF) : RF := rg [1] <| aX 1 (pBox 2 0) <|
 aX 2 (pM (cn (.int .i64 0))) <|
 aXZ
noncomputable def f148_r1 (c : CallF) : RF := rgD [2] (aY 3 (pF 1 1 1) <|
 aY 4 (pL false 1 3) <|
 aY 5 (fun n e M => keep (aConvI .i64 (eget e 4))) <|
 aY 6 (pF 0 1 1) <|
 aY 7 (pL false 1 6) <|
 aY 8 (fun n e M => keep (aConvI .i64 (eget e 7))) <|
 aY 9 (pK c false 170 [8]) <|
 aY 10 (pB .add 2 5 9) <|
 aY 2 (pM 10) <|
 aYZ)
 (aXZ)
noncomputable def f148 (c : CallF) (k : Nat) : St :=
 (bSeq (bReg (f148_r0 c))
 (bSeq (bReg (f148_r1 c))
 (bEx .ret)))
theorem f148_eq (c : CallF) (k : Nat) : exec cx c 11 f148_an k (Tryd.f148.body.getD .skip) = f148 c k := by kernel_rfl
/-! ### f149: loop.example/g01263/laws.eqNotch -/
def f149_an : Ann := ⟨[(0, r0 [2, 3]), (1, r0 [2, 3, 9]), (2, r0 [4]), (3, r0 [14]), (4, r0 [4]), (5, r0 [4])], []⟩
noncomputable def f149_r0 (c : CallF) : RF := rg [2, 3] <| aX 2 (pBox 2 0) <|
 aX 3 (pBox 2 1) <|
 aX 4 (pM (cn (.bool false))) <|
 aXZ
noncomputable def f149_r1 (c : CallF) : RF := rg [2, 3, 9] <| aX 5 (pF 0 1 2) <|
 aX 6 (pL false 1 5) <|
 aX 7 (pF 0 1 3) <|
 aX 8 (pL false 1 7) <|
 aX 9 (pB .neq 45 6 8) <|
 aXZ
noncomputable def f149_r2 (c : CallF) : RF := rg [4] <| aX 4 (pM (cn (.bool false))) <|
 aXZ
noncomputable def f149_r3 (c : CallF) : RF := rg [14] <| aX 10 (pF 1 1 2) <|
 aX 11 (pL false 1 10) <|
 aX 12 (pF 1 1 3) <|
 aX 13 (pL false 1 12) <|
 aX 14 (pB .neq 154 11 13) <|
 aXZ
noncomputable def f149_r4 (c : CallF) : RF := rg [4] <| aX 4 (pM (cn (.bool false))) <|
 aXZ
noncomputable def f149_r5 (c : CallF) : RF := rg [4] <| aX 4 (pM (cn (.bool true))) <|
 aXZ
noncomputable def f149 (c : CallF) (k : Nat) : St :=
 (bSeq (bReg (f149_r0 c))
 (bSeq (bSeq (bReg (f149_r1 c))
 (bCond (.tmp 9) (bSeq (bReg (f149_r2 c))
 (bEx .ret)) (bEx .nrm)))
 (bSeq (bSeq (bReg (f149_r3 c))
 (bCond (.tmp 14) (bSeq (bReg (f149_r4 c))
 (bEx .ret)) (bEx .nrm)))
 (bSeq (bReg (f149_r5 c))
 (bEx .ret)))))
theorem f149_eq (c : CallF) (k : Nat) : exec cx c 15 f149_an k (Tryd.f149.body.getD .skip) = f149 c k := by kernel_rfl
/-! ### f168: loop.example/g01263/spec.l01Kind -/
def f168_an : Ann := ⟨[(0, r0 [0]), (1, r0 [2])], []⟩
noncomputable def f168_r0 (c : CallF) : RF := rg [0] <| aX 2 (pM (cn (.bool false))) <|
 aXZ
noncomputable def f168_r1 (c : CallF) : RF := rg [2] <| aX 3 (pM 0) <|
 aX 4 (pK c false 84 [3, (cn (.int .i64 0)), (cn (.int .i64 5))]) <|
 aX 2 (pM 4) <|
 aXZ
noncomputable def f168 (c : CallF) (k : Nat) : St :=
 (bSeq (bReg (f168_r0 c))
 (bSeq (bReg (f168_r1 c))
 (bEx .ret)))
theorem f168_eq (c : CallF) (k : Nat) : exec cx c 5 f168_an k (Tryd.f168.body.getD .skip) = f168 c k := by kernel_rfl
/-! ### f169: loop.example/g01263/spec.l01Ends -/
def f169_an : Ann := ⟨[(0, r0 [1]), (1, r0 [2])], []⟩
noncomputable def f169_r0 (c : CallF) : RF := rg [1] <| aX 1 (pBox 2 0) <|
 aX 2 (pM (cn (.int .i64 0))) <|
 aXZ
noncomputable def f169_r1 (c : CallF) : RF := rgD [2] (aY 3 (pF 1 1 1) <|
 aY 4 (pL false 1 3) <|
 aY 5 (fun n e M => keep (aConvI .i64 (eget e 4))) <|
 aY 6 (pK c false 186 []) <|
 aY 7 (pF 0 1 1) <|
 aY 8 (pL false 1 7) <|
 aY 9 (pI 1 6 8) <|
 aY 10 (pL false 1 9) <|
 aY 11 (pB .add 2 5 10) <|
 aY 2 (pM 11) <|
 aYZ)
 (aXZ)
noncomputable def f169 (c : CallF) (k : Nat) : St :=
 (bSeq (bReg (f169_r0 c))
 (bSeq (bReg (f169_r1 c))
 (bEx .ret)))
theorem f169_eq (c : CallF) (k : Nat) : exec cx c 12 f169_an k (Tryd.f169.body.getD .skip) = f169 c k := by kernel_rfl
/-! ### f170: loop.example/g01263/impl.width -/
def f170_an : Ann := ⟨[(0, r0 [0]), (1, r0 [2])], []⟩
noncomputable def f170_r0 (c : CallF) : RF := rg [0] <| aX 2 (pM (cn (.int .i64 0))) <|
 aXZ
noncomputable def f170_r1 (c : CallF) : RF := rg [2] <| aX 3 (fun n e M => keep (aLitI 2 1 [(.int .i64 1), (.int .i64 2), (.int .i64 4), (.int .i64 6), (.int .i64 9), (.int .i64 12)] M)) <|
 aX 4 (pM 0) <|
 aX 5 (pI 1 3 4) <|
 aX 6 (pL false 1 5) <|
 aX 2 (pM 6) <|
 aXZ
noncomputable def f170 (c : CallF) (k : Nat) : St :=
 (bSeq (bReg (f170_r0 c))
 (bSeq (bReg (f170_r1 c))
 (bEx .ret)))
theorem f170_eq (c : CallF) (k : Nat) : exec cx c 7 f170_an k (Tryd.f170.body.getD .skip) = f170 c k := by kernel_rfl
/-! ### f186: loop.example/g01263/spec.l01Widths -/
def f186_an : Ann := ⟨[(0, r0 []), (1, r0 [0])], []⟩
noncomputable def f186_r0 (c : CallF) : RF := rg [] <| aX 0 (pM (cn .nils)) <|
 aXZ
noncomputable def f186_r1 (c : CallF) : RF := rg [0] <| aX 1 (fun n e M => keep (aLitI 2 1 [(.int .i64 1), (.int .i64 2), (.int .i64 4), (.int .i64 6), (.int .i64 9), (.int .i64 12)] M)) <|
 aX 0 (pM 1) <|
 aXZ
noncomputable def f186 (c : CallF) (k : Nat) : St :=
 (bSeq (bReg (f186_r0 c))
 (bSeq (bReg (f186_r1 c))
 (bEx .ret)))
theorem f186_eq (c : CallF) (k : Nat) : exec cx c 2 f186_an k (Tryd.f186.body.getD .skip) = f186 c k := by kernel_rfl
def anns : List (Nat × Ann) := [(5, f5_an), (19, f19_an), (20, f20_an), (21, f21_an), (22, f22_an), (23, f23_an), (54, f54_an), (55, f55_an), (56, f56_an), (57, f57_an), (58, f58_an), (59, f59_an), (60, f60_an), (61, f61_an), (62, f62_an), (63, f63_an), (64, f64_an), (84, f84_an), (87, f87_an), (90, f90_an), (96, f96_an), (97, f97_an), (98, f98_an), (99, f99_an), (100, f100_an), (101, f101_an), (102, f102_an), (103, f103_an), (104, f104_an), (105, f105_an), (106, f106_an), (107, f107_an), (108, f108_an), (109, f109_an), (139, f139_an), (142, f142_an), (143, f143_an), (144, f144_an), (145, f145_an), (146, f146_an), (147, f147_an), (148, f148_an), (149, f149_an), (168, f168_an), (169, f169_an), (170, f170_an), (186, f186_an)]
noncomputable def CN0 : Nat → CallF := callN cx (Go.Ab.look anns) (fun _ _ _ => none) (fun _ => false)
def isP (f : Nat) : Bool := has [91, 133] f
noncomputable def primF : CallF := splitNil (callN cx (Go.Ab.look anns) (fun _ _ _ => none) (fun _ => false) 3)
noncomputable def CN : Nat → CallF := callN cx (Go.Ab.look anns) (withLib libT primF) isP
end Go.Proofs.YtbhbmgmnnkcmcaaDoor

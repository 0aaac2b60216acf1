/- Printed by a program of ours (ext.py). -/
import Derived.Test.YtbhbmgmnnkcmcaaDoorAbLib
import Derived.Test.YtbhbmgmnnkcmcaaDoorProg
set_option linter.unusedVariables false
set_option linter.unusedSimpArgs false
set_option maxRecDepth 100000
set_option maxHeartbeats 2000000
namespace Go.Proofs.YtbhbmgmnnkcmcaaDoor
open Go Go.Ab
noncomputable def cx : Cx := ⟨Tryd.prog, fun f => has [] f⟩
noncomputable abbrev pB := pB_ cx.P
noncomputable abbrev pLen := pLen_ cx.P
noncomputable abbrev pAl := pAl_ cx.P
noncomputable abbrev pK := pK_ cx
/-! ### f4: loop.example/g01263/laws.FnExactRollText -/
def f4_an : Ann := ⟨[(0, r0 [1]), (1, r0 [1, 3]), (2, r0 [1, 3]), (3, r0 [1, 11]), (4, r0 [2]), (5, r0 [1, 4]), (6, r0 [1, 4, 5]), (7, r0 [1, 4, 5, 6]), (8, r0 [1, 5, 21]), (9, r0 [2]), (10, r0 [26]), (11, r0 [2]), (12, r0 [2])], []⟩
noncomputable def f4_r0 (c : CallF) : RF := rg [1] <| aX 1 (pBox 2 0) <|
 aX 2 (pM (cn (.bool false))) <|
 aXZ
noncomputable def f4_r1 (c : CallF) : RF := rg [1, 3] <| aX 3 (pM (cn (.int .i64 1048576))) <|
 aXZ
noncomputable def f4_r2 (c : CallF) : RF := rg [1, 3] <| aX 7 (pL true 2 1) <|
 aX 8 (pM 3) <|
 aX 9 (pK c false 14 [7, 8]) <|
 aX 3 (pM 9) <|
 aXZ
noncomputable def f4_r3 (c : CallF) : RF := rg [1, 11] <| aX 10 (pM 3) <|
 aX 11 (pB .lss 3 10 (cn (.int .i64 0))) <|
 aXZ
noncomputable def f4_r4 (c : CallF) : RF := rg [2] <| aX 2 (pM (cn (.bool true))) <|
 aXZ
noncomputable def f4_r5 (c : CallF) : RF := rg [1, 4] <| aX 12 (pL true 2 1) <|
 aX 13 (pK c false 16 [12]) <|
 aX 14 (pK c false 15 [13]) <|
 aX 4 (pM 14) <|
 aXZ
noncomputable def f4_r6 (c : CallF) : RF := rg [1, 4, 5] <| aX 15 (pL true 2 1) <|
 aX 16 (pK c false 16 [15]) <|
 aX 5 (pAl 40 2) <|
 aX0 (pS 2 5 16) <|
 aXZ
noncomputable def f4_r7 (c : CallF) : RF := rg [1, 4, 5, 6] <| aX 17 (pL true 2 5) <|
 aX 18 (pK c false 17 [17]) <|
 aX 6 (pM 18) <|
 aXZ
noncomputable def f4_r8 (c : CallF) : RF := rg [1, 5, 21] <| aX 19 (pM 6) <|
 aX 20 (pM 4) <|
 aX 21 (pB .neq 9 19 20) <|
 aXZ
noncomputable def f4_r9 (c : CallF) : RF := rg [2] <| aX 2 (pM (cn (.bool false))) <|
 aXZ
noncomputable def f4_r10 (c : CallF) : RF := rgD [26] (aY 22 (pL true 2 5) <|
 aY 23 (pL true 2 1) <|
 aY 24 (pK c false 16 [23]) <|
 aY 25 (pK c false 18 [22, 24]) <|
 aY 26 (pU .not 25) <|
 aYZ)
 (aXZ)
noncomputable def f4_r11 (c : CallF) : RF := rg [2] <| aX 2 (pM (cn (.bool false))) <|
 aXZ
noncomputable def f4_r12 (c : CallF) : RF := rg [2] <| aX 2 (pM (cn (.bool true))) <|
 aXZ
noncomputable def f4 (c : CallF) (k : Nat) : St :=
 (bSeq (bReg (f4_r0 c))
 (bSeq (bReg (f4_r1 c))
 (bSeq (bReg (f4_r2 c))
 (bSeq (bSeq (bReg (f4_r3 c))
 (bCond (.tmp 11) (bSeq (bReg (f4_r4 c))
 (bEx .ret)) (bEx .nrm)))
 (bSeq (bReg (f4_r5 c))
 (bSeq (bReg (f4_r6 c))
 (bSeq (bReg (f4_r7 c))
 (bSeq (bSeq (bReg (f4_r8 c))
 (bCond (.tmp 21) (bSeq (bReg (f4_r9 c))
 (bEx .ret)) (bEx .nrm)))
 (bSeq (bSeq (bReg (f4_r10 c))
 (bCond (.tmp 26) (bSeq (bReg (f4_r11 c))
 (bEx .ret)) (bEx .nrm)))
 (bSeq (bReg (f4_r12 c))
 (bEx .ret)))))))))))
theorem f4_eq (c : CallF) (k : Nat) : exec cx c 27 f4_an k (Tryd.f4.body.getD .skip) = f4 c k := by kernel_rfl
/-! ### f9: loop.example/g01263/laws.szAccount -/
def f9_an : Ann := ⟨[(0, r0 [1, 2]), (1, r0 [1, 2]), (2, r0 [1, 2, 11]), (3, r0 [4]), (4, r0 [1]), (5, r0 [1, 17]), (6, r0 [4]), (7, r0 [4])], []⟩
noncomputable def f9_r0 (c : CallF) : RF := rg [1, 2] <| aX 2 (pBox 3 0) <|
 aX 4 (pM (cn (.int .i64 0))) <|
 aXZ
noncomputable def f9_r1 (c : CallF) : RF := rg [1, 2] <| aX 5 (pM 1) <|
 aX 6 (pF 0 1 2) <|
 aX 7 (pL false 1 6) <|
 aX 8 (pLen 9 7) <|
 aX 9 (pB .sub 3 5 8) <|
 aX 1 (pM 9) <|
 aXZ
noncomputable def f9_r2 (c : CallF) : RF := rg [1, 2, 11] <| aX 10 (pM 1) <|
 aX 11 (pB .lss 3 10 (cn (.int .i64 0))) <|
 aXZ
noncomputable def f9_r3 (c : CallF) : RF := rg [4] <| aX 4 (pM (cn (.int .i64 (-1)))) <|
 aXZ
noncomputable def f9_r4 (c : CallF) : RF := rg [1] <| aX 12 (pF 1 1 2) <|
 aX 13 (pL false 1 12) <|
 aX 14 (pM 1) <|
 aX 15 (pK c false 37 [13, 14]) <|
 aX 1 (pM 15) <|
 aXZ
noncomputable def f9_r5 (c : CallF) : RF := rg [1, 17] <| aX 16 (pM 1) <|
 aX 17 (pB .lss 3 16 (cn (.int .i64 0))) <|
 aXZ
noncomputable def f9_r6 (c : CallF) : RF := rg [4] <| aX 4 (pM (cn (.int .i64 (-1)))) <|
 aXZ
noncomputable def f9_r7 (c : CallF) : RF := rg [4] <| aX 18 (pM 1) <|
 aX 4 (pM 18) <|
 aXZ
noncomputable def f9 (c : CallF) (k : Nat) : St :=
 (bSeq (bReg (f9_r0 c))
 (bSeq (bReg (f9_r1 c))
 (bSeq (bSeq (bReg (f9_r2 c))
 (bCond (.tmp 11) (bSeq (bReg (f9_r3 c))
 (bEx .ret)) (bEx .nrm)))
 (bSeq (bReg (f9_r4 c))
 (bSeq (bSeq (bReg (f9_r5 c))
 (bCond (.tmp 17) (bSeq (bReg (f9_r6 c))
 (bEx .ret)) (bEx .nrm)))
 (bSeq (bReg (f9_r7 c))
 (bEx .ret)))))))
theorem f9_eq (c : CallF) (k : Nat) : exec cx c 19 f9_an k (Tryd.f9.body.getD .skip) = f9 c k := by kernel_rfl
/-! ### f11: loop.example/g01263/laws.toAccount -/
def f11_an : Ann := ⟨[(0, r0 [1, 2]), (1, r0 [1, 2, 3]), (2, r0 [1, 2, 3]), (3, r0 [1, 2, 3]), (4, r0 [2, 3]), (5, r0 [2])], []⟩
noncomputable def f11_r0 (c : CallF) : RF := rg [1, 2] <| aX 1 (pBox 3 0) <|
 aX 2 (pAl 29 3) <|
 aXZ
noncomputable def f11_r1 (c : CallF) : RF := rg [1, 2, 3] <| aX 3 (pAl 29 3) <|
 aXZ
noncomputable def f11_r2 (c : CallF) : RF := rg [1, 2, 3] <| aX 4 (pF 0 1 1) <|
 aX 5 (pL false 1 4) <|
 aX 6 (pF 0 1 3) <|
 aX0 (pS 1 6 5) <|
 aXZ
noncomputable def f11_r3 (c : CallF) : RF := rg [1, 2, 3] <| aX 7 (pF 1 1 1) <|
 aX 8 (pL false 1 7) <|
 aX 9 (pK c false 40 [8]) <|
 aX 10 (pF 1 1 3) <|
 aX0 (pS 1 10 9) <|
 aXZ
noncomputable def f11_r4 (c : CallF) : RF := rg [2, 3] <| aX 11 (pF 2 1 1) <|
 aX 12 (pL false 1 11) <|
 aX 13 (pF 2 1 3) <|
 aX0 (pS 1 13 12) <|
 aXZ
noncomputable def f11_r5 (c : CallF) : RF := rg [2] <| aX 14 (pL true 3 3) <|
 aX0 (pS 3 2 14) <|
 aXZ
noncomputable def f11 (c : CallF) (k : Nat) : St :=
 (bSeq (bReg (f11_r0 c))
 (bSeq (bReg (f11_r1 c))
 (bSeq (bReg (f11_r2 c))
 (bSeq (bReg (f11_r3 c))
 (bSeq (bReg (f11_r4 c))
 (bSeq (bReg (f11_r5 c))
 (bEx .ret)))))))
theorem f11_eq (c : CallF) (k : Nat) : exec cx c 15 f11_an k (Tryd.f11.body.getD .skip) = f11 c k := by kernel_rfl
/-! ### f12: loop.example/g01263/impl.AccountText -/
def f12_an : Ann := ⟨[(0, r0 [1]), (1, r0 [1, 15]), (2, r0 [2]), (3, r0 [1, 3]), (4, r0 [1, 3, 20, 21, 22]), (5, r0 [1, 3, 20, 21, 22, 23]), (6, r0 [1, 3, 5, 20, 21, 22]), (7, r0 [1, 3, 20, 21, 22]), (8, r0 [1, 3, 20, 21, 22]), (9, r0 [1, 3, 40]), (10, r0 [2]), (11, r0 [1, 3, 51]), (12, r0 [2]), (13, r0 [2])], [(5, [1, 3, 20, 21, 22])]⟩
noncomputable def f12_r0 (c : CallF) : RF := rg [1] <| aX 1 (pBox 3 0) <|
 aX 2 (pM (cn (.str []))) <|
 aXZ
noncomputable def f12_r1 (c : CallF) : RF := rg [1, 15] <| aX 6 (pL true 3 1) <|
 aX 7 (pK c false 41 [6]) <|
 aX 8 (pU .not 7) <|
 aX 9 (pM 8) <|
 aX 10 (pG 9 false (pF 2 1 1)) <|
 aX 11 (pG 9 false (pL false 1 10)) <|
 aX 12 (pG 9 false (pK c false 43 [11])) <|
 aX 13 (pG 9 false (pK c false 42 [12])) <|
 aX 14 (pG 9 false (pU .not 13)) <|
 aX 15 (pP 9 (cn (.bool true)) 14) <|
 aXZ
noncomputable def f12_r2 (c : CallF) : RF := rg [2] <| aX 2 (pM (cn (.str []))) <|
 aXZ
noncomputable def f12_r3 (c : CallF) : RF := rg [1, 3] <| aX 16 (pF 0 1 1) <|
 aX 17 (pL false 1 16) <|
 aX 18 (pB .add 9 17 (cn (.str [10]))) <|
 aX 3 (pM 18) <|
 aXZ
noncomputable def f12_r4 (c : CallF) : RF := rg [1, 3, 20, 21, 22] <| aX 19 (pF 1 1 1) <|
 aX 20 (pL false 1 19) <|
 aX 21 (pLen 27 20) <|
 aX 22 (pM (cn (.int .i64 0))) <|
 aXZ
noncomputable def f12_r5 (c : CallF) : RF := rg [1, 3, 20, 21, 22, 23] <| aX 23 (pB .lss 3 22 21) <|
 aXZ
noncomputable def f12_r6 (c : CallF) : RF := rg [1, 3, 5, 20, 21, 22] <| aX 24 (pI 2 20 22) <|
 aX 25 (pL true 2 24) <|
 aX 5 (pAl 85 2) <|
 aX0 (pS 2 5 25) <|
 aXZ
noncomputable def f12_r7 (c : CallF) : RF := rgD [1, 3, 20, 21, 22] (aY 26 (pM 3) <|
 aY 27 (pK c false 44 []) <|
 aY 28 (pF 0 1 5) <|
 aY 29 (pL false 1 28) <|
 aY 30 (pI 1 27 29) <|
 aY 31 (pL false 1 30) <|
 aY 32 (pB .add 9 31 (cn (.str [32]))) <|
 aY 33 (pF 1 1 5) <|
 aY 34 (pL false 1 33) <|
 aY 35 (pK c false 45 [34]) <|
 aY 36 (pB .add 9 32 35) <|
 aY 37 (pB .add 9 36 (cn (.str [10]))) <|
 aY 38 (pB .add 9 26 37) <|
 aY 3 (pM 38) <|
 aYZ)
 (aXZ)
noncomputable def f12_r8 (c : CallF) : RF := rg [1, 3, 20, 21, 22] <| aX 39 (pB .add 3 22 (cn (.int .i64 1))) <|
 aX 22 (pM 39) <|
 aXZ
noncomputable def f12_r9 (c : CallF) : RF := rg [1, 3, 40] <| aX 41 (pF 2 1 1) <|
 aX 42 (pL false 1 41) <|
 aX 43 (pB .gtr 2 42 (cn (.int .i64 0))) <|
 aX 40 (pM 43) <|
 aXZ
noncomputable def f12_r10 (c : CallF) : RF := rg [2] <| aX 44 (pM 3) <|
 aX 45 (pB .add 9 44 (cn (.str [111, 119, 101, 115, 32]))) <|
 aX 46 (pF 2 1 1) <|
 aX 47 (pL false 1 46) <|
 aX 48 (pK c false 45 [47]) <|
 aX 49 (pB .add 9 45 48) <|
 aX 50 (pB .add 9 49 (cn (.str [10]))) <|
 aX 2 (pM 50) <|
 aXZ
noncomputable def f12_r11 (c : CallF) : RF := rg [1, 3, 51] <| aX 52 (pF 2 1 1) <|
 aX 53 (pL false 1 52) <|
 aX 54 (pB .lss 2 53 (cn (.int .i64 0))) <|
 aX 51 (pM 54) <|
 aXZ
noncomputable def f12_r12 (c : CallF) : RF := rg [2] <| aX 55 (pM 3) <|
 aX 56 (pB .add 9 55 (cn (.str [111, 118, 101, 114, 32]))) <|
 aX 57 (pF 2 1 1) <|
 aX 58 (pL false 1 57) <|
 aX 59 (pU .neg 58) <|
 aX 60 (pK c false 45 [59]) <|
 aX 61 (pB .add 9 56 60) <|
 aX 62 (pB .add 9 61 (cn (.str [10]))) <|
 aX 2 (pM 62) <|
 aXZ
noncomputable def f12_r13 (c : CallF) : RF := rg [2] <| aX 63 (pM 3) <|
 aX 64 (pB .add 9 63 (cn (.str [113, 117, 105, 116, 10]))) <|
 aX 2 (pM 64) <|
 aXZ
noncomputable def f12_l5 (c : CallF) (k : Nat) : St :=
 (bSeq (bReg (f12_r5 c))
 (bSeq (bCond (.tmp 23) (bEx .nrm) (bEx (.ext 0)))
 (bSeq (bBlock 1 (bSeq (bReg (f12_r6 c))
 (bReg (f12_r7 c))))
 (bReg (f12_r8 c)))))
noncomputable def f12 (c : CallF) (k : Nat) : St :=
 (bSeq (bReg (f12_r0 c))
 (bSeq (bSeq (bReg (f12_r1 c))
 (bCond (.tmp 15) (bSeq (bReg (f12_r2 c))
 (bEx .ret)) (bEx .nrm)))
 (bSeq (bReg (f12_r3 c))
 (bSeq (bSeq (bReg (f12_r4 c))
 (bBlock 0 (bLoop [1, 3, 20, 21, 22] (f12_l5 c k) k)))
 (bSeq (bBlock 2 (bSeq (bReg (f12_r9 c))
 (bCond (.tmp 40) (bSeq (bReg (f12_r10 c))
 (bEx .ret)) (bSeq (bReg (f12_r11 c))
 (bCond (.tmp 51) (bSeq (bReg (f12_r12 c))
 (bEx .ret)) (bEx .nrm))))))
 (bSeq (bReg (f12_r13 c))
 (bEx .ret)))))))
theorem f12_eq (c : CallF) (k : Nat) : exec cx c 65 f12_an k (Tryd.f12.body.getD .skip) = f12 c k := by kernel_rfl
/-! ### f13: loop.example/g01263/laws.eqAccount -/
def f13_an : Ann := ⟨[(0, r0 [2, 3]), (1, r0 [2, 3, 9]), (2, r0 [4]), (3, r0 [2, 3, 15]), (4, r0 [4]), (5, r0 [20]), (6, r0 [4]), (7, r0 [4])], []⟩
noncomputable def f13_r0 (c : CallF) : RF := rg [2, 3] <| aX 2 (pBox 3 0) <|
 aX 3 (pBox 3 1) <|
 aX 4 (pM (cn (.bool false))) <|
 aXZ
noncomputable def f13_r1 (c : CallF) : RF := rg [2, 3, 9] <| aX 5 (pF 0 1 2) <|
 aX 6 (pL false 1 5) <|
 aX 7 (pF 0 1 3) <|
 aX 8 (pL false 1 7) <|
 aX 9 (pB .neq 9 6 8) <|
 aXZ
noncomputable def f13_r2 (c : CallF) : RF := rg [4] <| aX 4 (pM (cn (.bool false))) <|
 aXZ
noncomputable def f13_r3 (c : CallF) : RF := rg [2, 3, 15] <| aX 10 (pF 1 1 2) <|
 aX 11 (pL false 1 10) <|
 aX 12 (pF 1 1 3) <|
 aX 13 (pL false 1 12) <|
 aX 14 (pK c false 46 [11, 13]) <|
 aX 15 (pU .not 14) <|
 aXZ
noncomputable def f13_r4 (c : CallF) : RF := rg [4] <| aX 4 (pM (cn (.bool false))) <|
 aXZ
noncomputable def f13_r5 (c : CallF) : RF := rg [20] <| aX 16 (pF 2 1 2) <|
 aX 17 (pL false 1 16) <|
 aX 18 (pF 2 1 3) <|
 aX 19 (pL false 1 18) <|
 aX 20 (pB .neq 2 17 19) <|
 aXZ
noncomputable def f13_r6 (c : CallF) : RF := rg [4] <| aX 4 (pM (cn (.bool false))) <|
 aXZ
noncomputable def f13_r7 (c : CallF) : RF := rg [4] <| aX 4 (pM (cn (.bool true))) <|
 aXZ
noncomputable def f13 (c : CallF) (k : Nat) : St :=
 (bSeq (bReg (f13_r0 c))
 (bSeq (bSeq (bReg (f13_r1 c))
 (bCond (.tmp 9) (bSeq (bReg (f13_r2 c))
 (bEx .ret)) (bEx .nrm)))
 (bSeq (bSeq (bReg (f13_r3 c))
 (bCond (.tmp 15) (bSeq (bReg (f13_r4 c))
 (bEx .ret)) (bEx .nrm)))
 (bSeq (bSeq (bReg (f13_r5 c))
 (bCond (.tmp 20) (bSeq (bReg (f13_r6 c))
 (bEx .ret)) (bEx .nrm)))
 (bSeq (bReg (f13_r7 c))
 (bEx .ret))))))
theorem f13_eq (c : CallF) (k : Nat) : exec cx c 21 f13_an k (Tryd.f13.body.getD .skip) = f13 c k := by kernel_rfl
/-! ### f14: loop.example/g01263/laws.szRoll -/
def f14_an : Ann := ⟨[(0, r0 [1, 2]), (1, r0 [1]), (2, r0 [1, 10]), (3, r0 [4]), (4, r0 [4])], []⟩
noncomputable def f14_r0 (c : CallF) : RF := rg [1, 2] <| aX 2 (pBox 2 0) <|
 aX 4 (pM (cn (.int .i64 0))) <|
 aXZ
noncomputable def f14_r1 (c : CallF) : RF := rg [1] <| aX 5 (pF 0 1 2) <|
 aX 6 (pL false 1 5) <|
 aX 7 (pM 1) <|
 aX 8 (pK c false 47 [6, 7]) <|
 aX 1 (pM 8) <|
 aXZ
noncomputable def f14_r2 (c : CallF) : RF := rg [1, 10] <| aX 9 (pM 1) <|
 aX 10 (pB .lss 3 9 (cn (.int .i64 0))) <|
 aXZ
noncomputable def f14_r3 (c : CallF) : RF := rg [4] <| aX 4 (pM (cn (.int .i64 (-1)))) <|
 aXZ
noncomputable def f14_r4 (c : CallF) : RF := rg [4] <| aX 11 (pM 1) <|
 aX 4 (pM 11) <|
 aXZ
noncomputable def f14 (c : CallF) (k : Nat) : St :=
 (bSeq (bReg (f14_r0 c))
 (bSeq (bReg (f14_r1 c))
 (bSeq (bSeq (bReg (f14_r2 c))
 (bCond (.tmp 10) (bSeq (bReg (f14_r3 c))
 (bEx .ret)) (bEx .nrm)))
 (bSeq (bReg (f14_r4 c))
 (bEx .ret)))))
theorem f14_eq (c : CallF) (k : Nat) : exec cx c 12 f14_an k (Tryd.f14.body.getD .skip) = f14 c k := by kernel_rfl
/-! ### f15: loop.example/g01263/spec.RollText -/
def f15_an : Ann := ⟨[(0, r0 [1]), (1, r0 [1, 12]), (2, r0 [2]), (3, r0 [1, 3]), (4, r0 [1, 3, 4]), (5, r0 [1, 3, 4, 17]), (6, r0 [1, 3, 4]), (7, r0 [1, 3, 4, 25]), (8, r0 [2]), (9, r0 [1, 3, 4]), (10, r0 [2])], [(5, [1, 3, 4])]⟩
noncomputable def f15_r0 (c : CallF) : RF := rg [1] <| aX 1 (pBox 2 0) <|
 aX 2 (pM (cn (.str []))) <|
 aXZ
noncomputable def f15_r1 (c : CallF) : RF := rg [1, 12] <| aX 5 (pK c false 48 [1]) <|
 aX 6 (pU .not 5) <|
 aX 7 (pM 6) <|
 aX 8 (pG 7 false (pF 1 1 1)) <|
 aX 9 (pG 7 false (pL false 1 8)) <|
 aX 10 (pG 7 false (pK c false 49 [9])) <|
 aX 11 (pG 7 false (pU .not 10)) <|
 aX 12 (pP 7 (cn (.bool true)) 11) <|
 aXZ
noncomputable def f15_r2 (c : CallF) : RF := rg [2] <| aX 2 (pM (cn (.str []))) <|
 aXZ
noncomputable def f15_r3 (c : CallF) : RF := rg [1, 3] <| aX 3 (pM (cn (.str []))) <|
 aXZ
noncomputable def f15_r4 (c : CallF) : RF := rg [1, 3, 4] <| aX 4 (pM (cn (.int .i64 0))) <|
 aXZ
noncomputable def f15_r5 (c : CallF) : RF := rg [1, 3, 4, 17] <| aX 13 (pM 4) <|
 aX 14 (pF 0 1 1) <|
 aX 15 (pL false 1 14) <|
 aX 16 (pLen 38 15) <|
 aX 17 (pB .lss 3 13 16) <|
 aXZ
noncomputable def f15_r6 (c : CallF) : RF := rg [1, 3, 4] <| aX 18 (pM 4) <|
 aX 19 (pB .add 3 18 (cn (.int .i64 1))) <|
 aX 4 (pM 19) <|
 aXZ
noncomputable def f15_r7 (c : CallF) : RF := rg [1, 3, 4, 25] <| aX 20 (pF 0 1 1) <|
 aX 21 (pL false 1 20) <|
 aX 22 (pM 4) <|
 aX 23 (pI 3 21 22) <|
 aX 24 (pK c false 38 [23]) <|
 aX 25 (pU .not 24) <|
 aXZ
noncomputable def f15_r8 (c : CallF) : RF := rg [2] <| aX 2 (pM (cn (.str []))) <|
 aXZ
noncomputable def f15_r9 (c : CallF) : RF := rg [1, 3, 4] <| aX 26 (pM 3) <|
 aX 27 (pF 0 1 1) <|
 aX 28 (pL false 1 27) <|
 aX 29 (pM 4) <|
 aX 30 (pI 3 28 29) <|
 aX 31 (pK c false 39 [30]) <|
 aX 32 (pB .add 9 26 31) <|
 aX 3 (pM 32) <|
 aXZ
noncomputable def f15_r10 (c : CallF) : RF := rg [2] <| aX 33 (pM 3) <|
 aX 34 (pB .add 9 33 (cn (.str [111, 119, 101, 100, 32]))) <|
 aX 35 (pF 1 1 1) <|
 aX 36 (pL false 1 35) <|
 aX 37 (pK c false 50 [36]) <|
 aX 38 (pB .add 9 34 37) <|
 aX 39 (pB .add 9 38 (cn (.str [10]))) <|
 aX 2 (pM 39) <|
 aXZ
noncomputable def f15_l5 (c : CallF) (k : Nat) : St :=
 (bSeq (bSeq (bReg (f15_r5 c))
 (bCond (.tmp 17) (bEx .nrm) (bEx (.ext 0))))
 (bSeq (bBlock 1 (bSeq (bSeq (bReg (f15_r7 c))
 (bCond (.tmp 25) (bSeq (bReg (f15_r8 c))
 (bEx .ret)) (bEx .nrm)))
 (bReg (f15_r9 c))))
 (bReg (f15_r6 c))))
noncomputable def f15 (c : CallF) (k : Nat) : St :=
 (bSeq (bReg (f15_r0 c))
 (bSeq (bSeq (bReg (f15_r1 c))
 (bCond (.tmp 12) (bSeq (bReg (f15_r2 c))
 (bEx .ret)) (bEx .nrm)))
 (bSeq (bReg (f15_r3 c))
 (bSeq (bSeq (bReg (f15_r4 c))
 (bBlock 0 (bLoop [1, 3, 4] (f15_l5 c k) k)))
 (bSeq (bReg (f15_r10 c))
 (bEx .ret))))))
theorem f15_eq (c : CallF) (k : Nat) : exec cx c 40 f15_an k (Tryd.f15.body.getD .skip) = f15 c k := by kernel_rfl
/-! ### f16: loop.example/g01263/laws.toRoll -/
def f16_an : Ann := ⟨[(0, r0 [1, 2]), (1, r0 [1, 2, 3]), (2, r0 [1, 2, 3]), (3, r0 [2, 3]), (4, r0 [2])], []⟩
noncomputable def f16_r0 (c : CallF) : RF := rg [1, 2] <| aX 1 (pBox 2 0) <|
 aX 2 (pAl 40 2) <|
 aXZ
noncomputable def f16_r1 (c : CallF) : RF := rg [1, 2, 3] <| aX 3 (pAl 40 2) <|
 aXZ
noncomputable def f16_r2 (c : CallF) : RF := rg [1, 2, 3] <| aX 4 (pF 0 1 1) <|
 aX 5 (pL false 1 4) <|
 aX 6 (pK c false 51 [5]) <|
 aX 7 (pF 0 1 3) <|
 aX0 (pS 1 7 6) <|
 aXZ
noncomputable def f16_r3 (c : CallF) : RF := rg [2, 3] <| aX 8 (pF 1 1 1) <|
 aX 9 (pL false 1 8) <|
 aX 10 (pF 1 1 3) <|
 aX0 (pS 1 10 9) <|
 aXZ
noncomputable def f16_r4 (c : CallF) : RF := rg [2] <| aX 11 (pL true 2 3) <|
 aX0 (pS 2 2 11) <|
 aXZ
noncomputable def f16 (c : CallF) (k : Nat) : St :=
 (bSeq (bReg (f16_r0 c))
 (bSeq (bReg (f16_r1 c))
 (bSeq (bReg (f16_r2 c))
 (bSeq (bReg (f16_r3 c))
 (bSeq (bReg (f16_r4 c))
 (bEx .ret))))))
theorem f16_eq (c : CallF) (k : Nat) : exec cx c 12 f16_an k (Tryd.f16.body.getD .skip) = f16 c k := by kernel_rfl
/-! ### f17: loop.example/g01263/impl.RollText -/
def f17_an : Ann := ⟨[(0, r0 [1]), (1, r0 [1, 15]), (2, r0 [2]), (3, r0 [1, 3]), (4, r0 [1, 3, 17, 18, 19]), (5, r0 [1, 3, 17, 18, 19, 20]), (6, r0 [1, 3, 5, 17, 18, 19]), (7, r0 [1, 3, 6, 17, 18, 19]), (8, r0 [1, 3, 6, 17, 18, 19, 26]), (9, r0 [2]), (10, r0 [1, 3, 17, 18, 19]), (11, r0 [1, 3, 17, 18, 19]), (12, r0 [2])], [(5, [1, 3, 17, 18, 19])]⟩
noncomputable def f17_r0 (c : CallF) : RF := rg [1] <| aX 1 (pBox 2 0) <|
 aX 2 (pM (cn (.str []))) <|
 aXZ
noncomputable def f17_r1 (c : CallF) : RF := rg [1, 15] <| aX 7 (pL true 2 1) <|
 aX 8 (pK c false 52 [7]) <|
 aX 9 (pU .not 8) <|
 aX 10 (pM 9) <|
 aX 11 (pG 10 false (pF 1 1 1)) <|
 aX 12 (pG 10 false (pL false 1 11)) <|
 aX 13 (pG 10 false (pK c false 42 [12])) <|
 aX 14 (pG 10 false (pU .not 13)) <|
 aX 15 (pP 10 (cn (.bool true)) 14) <|
 aXZ
noncomputable def f17_r2 (c : CallF) : RF := rg [2] <| aX 2 (pM (cn (.str []))) <|
 aXZ
noncomputable def f17_r3 (c : CallF) : RF := rg [1, 3] <| aX 3 (pM (cn (.str []))) <|
 aXZ
noncomputable def f17_r4 (c : CallF) : RF := rg [1, 3, 17, 18, 19] <| aX 16 (pF 0 1 1) <|
 aX 17 (pL false 1 16) <|
 aX 18 (pLen 38 17) <|
 aX 19 (pM (cn (.int .i64 0))) <|
 aXZ
noncomputable def f17_r5 (c : CallF) : RF := rg [1, 3, 17, 18, 19, 20] <| aX 20 (pB .lss 3 19 18) <|
 aXZ
noncomputable def f17_r6 (c : CallF) : RF := rg [1, 3, 5, 17, 18, 19] <| aX 21 (pI 3 17 19) <|
 aX 22 (pL true 3 21) <|
 aX 5 (pAl 29 3) <|
 aX0 (pS 3 5 22) <|
 aXZ
noncomputable def f17_r7 (c : CallF) : RF := rg [1, 3, 6, 17, 18, 19] <| aX 23 (pL true 3 5) <|
 aX 24 (pK c false 12 [23]) <|
 aX 6 (pM 24) <|
 aXZ
noncomputable def f17_r8 (c : CallF) : RF := rg [1, 3, 6, 17, 18, 19, 26] <| aX 25 (pM 6) <|
 aX 26 (pB .eql 9 25 (cn (.str []))) <|
 aXZ
noncomputable def f17_r9 (c : CallF) : RF := rg [2] <| aX 2 (pM (cn (.str []))) <|
 aXZ
noncomputable def f17_r10 (c : CallF) : RF := rg [1, 3, 17, 18, 19] <| aX 27 (pM 3) <|
 aX 28 (pM 6) <|
 aX 29 (pB .add 9 27 28) <|
 aX 3 (pM 29) <|
 aXZ
noncomputable def f17_r11 (c : CallF) : RF := rg [1, 3, 17, 18, 19] <| aX 30 (pB .add 3 19 (cn (.int .i64 1))) <|
 aX 19 (pM 30) <|
 aXZ
noncomputable def f17_r12 (c : CallF) : RF := rg [2] <| aX 31 (pM 3) <|
 aX 32 (pB .add 9 31 (cn (.str [111, 119, 101, 100, 32]))) <|
 aX 33 (pF 1 1 1) <|
 aX 34 (pL false 1 33) <|
 aX 35 (pK c false 45 [34]) <|
 aX 36 (pB .add 9 32 35) <|
 aX 37 (pB .add 9 36 (cn (.str [10]))) <|
 aX 2 (pM 37) <|
 aXZ
noncomputable def f17_l5 (c : CallF) (k : Nat) : St :=
 (bSeq (bReg (f17_r5 c))
 (bSeq (bCond (.tmp 20) (bEx .nrm) (bEx (.ext 0)))
 (bSeq (bBlock 1 (bSeq (bReg (f17_r6 c))
 (bSeq (bReg (f17_r7 c))
 (bSeq (bSeq (bReg (f17_r8 c))
 (bCond (.tmp 26) (bSeq (bReg (f17_r9 c))
 (bEx .ret)) (bEx .nrm)))
 (bReg (f17_r10 c))))))
 (bReg (f17_r11 c)))))
noncomputable def f17 (c : CallF) (k : Nat) : St :=
 (bSeq (bReg (f17_r0 c))
 (bSeq (bSeq (bReg (f17_r1 c))
 (bCond (.tmp 15) (bSeq (bReg (f17_r2 c))
 (bEx .ret)) (bEx .nrm)))
 (bSeq (bReg (f17_r3 c))
 (bSeq (bSeq (bReg (f17_r4 c))
 (bBlock 0 (bLoop [1, 3, 17, 18, 19] (f17_l5 c k) k)))
 (bSeq (bReg (f17_r12 c))
 (bEx .ret))))))
theorem f17_eq (c : CallF) (k : Nat) : exec cx c 38 f17_an k (Tryd.f17.body.getD .skip) = f17 c k := by kernel_rfl
/-! ### f18: loop.example/g01263/laws.eqRoll -/
def f18_an : Ann := ⟨[(0, r0 [2, 3]), (1, r0 [2, 3, 10]), (2, r0 [4]), (3, r0 [15]), (4, r0 [4]), (5, r0 [4])], []⟩
noncomputable def f18_r0 (c : CallF) : RF := rg [2, 3] <| aX 2 (pBox 2 0) <|
 aX 3 (pBox 2 1) <|
 aX 4 (pM (cn (.bool false))) <|
 aXZ
noncomputable def f18_r1 (c : CallF) : RF := rg [2, 3, 10] <| aX 5 (pF 0 1 2) <|
 aX 6 (pL false 1 5) <|
 aX 7 (pF 0 1 3) <|
 aX 8 (pL false 1 7) <|
 aX 9 (pK c false 53 [6, 8]) <|
 aX 10 (pU .not 9) <|
 aXZ
noncomputable def f18_r2 (c : CallF) : RF := rg [4] <| aX 4 (pM (cn (.bool false))) <|
 aXZ
noncomputable def f18_r3 (c : CallF) : RF := rg [15] <| aX 11 (pF 1 1 2) <|
 aX 12 (pL false 1 11) <|
 aX 13 (pF 1 1 3) <|
 aX 14 (pL false 1 13) <|
 aX 15 (pB .neq 2 12 14) <|
 aXZ
noncomputable def f18_r4 (c : CallF) : RF := rg [4] <| aX 4 (pM (cn (.bool false))) <|
 aXZ
noncomputable def f18_r5 (c : CallF) : RF := rg [4] <| aX 4 (pM (cn (.bool true))) <|
 aXZ
noncomputable def f18 (c : CallF) (k : Nat) : St :=
 (bSeq (bReg (f18_r0 c))
 (bSeq (bSeq (bReg (f18_r1 c))
 (bCond (.tmp 10) (bSeq (bReg (f18_r2 c))
 (bEx .ret)) (bEx .nrm)))
 (bSeq (bSeq (bReg (f18_r3 c))
 (bCond (.tmp 15) (bSeq (bReg (f18_r4 c))
 (bEx .ret)) (bEx .nrm)))
 (bSeq (bReg (f18_r5 c))
 (bEx .ret)))))
theorem f18_eq (c : CallF) (k : Nat) : exec cx c 16 f18_an k (Tryd.f18.body.getD .skip) = f18 c k := by kernel_rfl
/-! ### f37: loop.example/g01263/laws.szItemS -/
def f37_an : Ann := ⟨[(0, r0 [0, 1]), (1, r0 [1]), (2, r0 [1, 10]), (3, r0 [4]), (4, r0 [4])], []⟩
noncomputable def f37_r0 (c : CallF) : RF := rg [0, 1] <| aX 4 (pM (cn (.int .i64 0))) <|
 aXZ
noncomputable def f37_r1 (c : CallF) : RF := rg [1] <| aX 5 (pM 1) <|
 aX 6 (pM 0) <|
 aX 7 (pLen 22 6) <|
 aX 8 (pB .sub 3 5 7) <|
 aX 1 (pM 8) <|
 aXZ
noncomputable def f37_r2 (c : CallF) : RF := rg [1, 10] <| aX 9 (pM 1) <|
 aX 10 (pB .lss 3 9 (cn (.int .i64 0))) <|
 aXZ
noncomputable def f37_r3 (c : CallF) : RF := rg [4] <| aX 4 (pM (cn (.int .i64 (-1)))) <|
 aXZ
noncomputable def f37_r4 (c : CallF) : RF := rg [4] <| aX 11 (pM 1) <|
 aX 4 (pM 11) <|
 aXZ
noncomputable def f37 (c : CallF) (k : Nat) : St :=
 (bSeq (bReg (f37_r0 c))
 (bSeq (bReg (f37_r1 c))
 (bSeq (bSeq (bReg (f37_r2 c))
 (bCond (.tmp 10) (bSeq (bReg (f37_r3 c))
 (bEx .ret)) (bEx .nrm)))
 (bSeq (bReg (f37_r4 c))
 (bEx .ret)))))
theorem f37_eq (c : CallF) (k : Nat) : exec cx c 12 f37_an k (Tryd.f37.body.getD .skip) = f37 c k := by kernel_rfl
/-! ### f38: loop.example/g01263/spec.l05Plain -/
def f38_an : Ann := ⟨[(0, r0 [0]), (1, r0 [2])], []⟩
noncomputable def f38_r0 (c : CallF) : RF := rg [0] <| aX 2 (pM (cn (.bool false))) <|
 aXZ
noncomputable def f38_r1 (c : CallF) : RF := rg [2] <| aX 3 (pM 0) <|
 aX 4 (pK c false 83 [3]) <|
 aX 5 (pM 4) <|
 aX 6 (pG 5 true (pM 0)) <|
 aX 7 (pG 5 true (pN 6)) <|
 aX 8 (pG 5 true (pF 2 1 7)) <|
 aX 9 (pG 5 true (pL false 1 8)) <|
 aX 10 (pG 5 true (pK c false 84 [9, (cn (.int .i64 (-100000000))), (cn (.int .i64 100000000))])) <|
 aX 11 (pP 5 10 (cn (.bool false))) <|
 aX 2 (pM 11) <|
 aXZ
noncomputable def f38 (c : CallF) (k : Nat) : St :=
 (bSeq (bReg (f38_r0 c))
 (bSeq (bReg (f38_r1 c))
 (bEx .ret)))
theorem f38_eq (c : CallF) (k : Nat) : exec cx c 12 f38_an k (Tryd.f38.body.getD .skip) = f38 c k := by kernel_rfl
/-! ### f39: loop.example/g01263/spec.l05Text -/
def f39_an : Ann := ⟨[(0, r0 [0]), (1, r0 [0, 3]), (2, r0 [0, 3, 4]), (3, r0 [0, 3, 4, 16]), (4, r0 [0, 3, 4]), (5, r0 [0, 3, 4]), (6, r0 [0, 3, 48]), (7, r0 [2]), (8, r0 [0, 3, 62]), (9, r0 [2]), (10, r0 [2])], [(3, [0, 3, 4])]⟩
noncomputable def f39_r0 (c : CallF) : RF := rg [0] <| aX 2 (pM (cn (.str []))) <|
 aXZ
noncomputable def f39_r1 (c : CallF) : RF := rg [0, 3] <| aX 5 (pM 0) <|
 aX 6 (pN 5) <|
 aX 7 (pF 0 1 6) <|
 aX 8 (pL false 1 7) <|
 aX 9 (pB .add 9 8 (cn (.str [10]))) <|
 aX 3 (pM 9) <|
 aXZ
noncomputable def f39_r2 (c : CallF) : RF := rg [0, 3, 4] <| aX 4 (pM (cn (.int .i64 0))) <|
 aXZ
noncomputable def f39_r3 (c : CallF) : RF := rg [0, 3, 4, 16] <| aX 10 (pM 4) <|
 aX 11 (pM 0) <|
 aX 12 (pN 11) <|
 aX 13 (pF 1 1 12) <|
 aX 14 (pL false 1 13) <|
 aX 15 (pLen 27 14) <|
 aX 16 (pB .lss 3 10 15) <|
 aXZ
noncomputable def f39_r4 (c : CallF) : RF := rg [0, 3, 4] <| aX 17 (pM 4) <|
 aX 18 (pB .add 3 17 (cn (.int .i64 1))) <|
 aX 4 (pM 18) <|
 aXZ
noncomputable def f39_r5 (c : CallF) : RF := rgD [0, 3, 4] (aY 19 (pM 3) <|
 aY 20 (pK c false 85 []) <|
 aY 21 (pM 0) <|
 aY 22 (pN 21) <|
 aY 23 (pF 1 1 22) <|
 aY 24 (pL false 1 23) <|
 aY 25 (pM 4) <|
 aY 26 (pI 2 24 25) <|
 aY 27 (pF 0 1 26) <|
 aY 28 (pL false 1 27) <|
 aY 29 (pI 1 20 28) <|
 aY 30 (pL false 1 29) <|
 aY 31 (pB .add 9 30 (cn (.str [32]))) <|
 aY 32 (pM 0) <|
 aY 33 (pN 32) <|
 aY 34 (pF 1 1 33) <|
 aY 35 (pL false 1 34) <|
 aY 36 (pM 4) <|
 aY 37 (pI 2 35 36) <|
 aY 38 (pF 1 1 37) <|
 aY 39 (pL false 1 38) <|
 aY 40 (pK c false 50 [39]) <|
 aY 41 (pB .add 9 31 40) <|
 aY 42 (pB .add 9 41 (cn (.str [10]))) <|
 aY 43 (pB .add 9 19 42) <|
 aY 3 (pM 43) <|
 aYZ)
 (aXZ)
noncomputable def f39_r6 (c : CallF) : RF := rg [0, 3, 48] <| aX 44 (pM 0) <|
 aX 45 (pN 44) <|
 aX 46 (pF 2 1 45) <|
 aX 47 (pL false 1 46) <|
 aX 48 (pB .gtr 2 47 (cn (.int .i64 0))) <|
 aXZ
noncomputable def f39_r7 (c : CallF) : RF := rg [2] <| aX 49 (pM 3) <|
 aX 50 (pB .add 9 49 (cn (.str [111, 119, 101, 115, 32]))) <|
 aX 51 (pM 0) <|
 aX 52 (pN 51) <|
 aX 53 (pF 2 1 52) <|
 aX 54 (pL false 1 53) <|
 aX 55 (pK c false 50 [54]) <|
 aX 56 (pB .add 9 50 55) <|
 aX 57 (pB .add 9 56 (cn (.str [10]))) <|
 aX 2 (pM 57) <|
 aXZ
noncomputable def f39_r8 (c : CallF) : RF := rg [0, 3, 62] <| aX 58 (pM 0) <|
 aX 59 (pN 58) <|
 aX 60 (pF 2 1 59) <|
 aX 61 (pL false 1 60) <|
 aX 62 (pB .lss 2 61 (cn (.int .i64 0))) <|
 aXZ
noncomputable def f39_r9 (c : CallF) : RF := rg [2] <| aX 63 (pM 3) <|
 aX 64 (pB .add 9 63 (cn (.str [111, 118, 101, 114, 32]))) <|
 aX 65 (pM 0) <|
 aX 66 (pN 65) <|
 aX 67 (pF 2 1 66) <|
 aX 68 (pL false 1 67) <|
 aX 69 (pU .neg 68) <|
 aX 70 (pK c false 50 [69]) <|
 aX 71 (pB .add 9 64 70) <|
 aX 72 (pB .add 9 71 (cn (.str [10]))) <|
 aX 2 (pM 72) <|
 aXZ
noncomputable def f39_r10 (c : CallF) : RF := rg [2] <| aX 73 (pM 3) <|
 aX 74 (pB .add 9 73 (cn (.str [113, 117, 105, 116, 10]))) <|
 aX 2 (pM 74) <|
 aXZ
noncomputable def f39_l3 (c : CallF) (k : Nat) : St :=
 (bSeq (bSeq (bReg (f39_r3 c))
 (bCond (.tmp 16) (bEx .nrm) (bEx (.ext 0))))
 (bSeq (bBlock 1 (bReg (f39_r5 c)))
 (bReg (f39_r4 c))))
noncomputable def f39 (c : CallF) (k : Nat) : St :=
 (bSeq (bReg (f39_r0 c))
 (bSeq (bReg (f39_r1 c))
 (bSeq (bSeq (bReg (f39_r2 c))
 (bBlock 0 (bLoop [0, 3, 4] (f39_l3 c k) k)))
 (bSeq (bSeq (bReg (f39_r6 c))
 (bCond (.tmp 48) (bSeq (bReg (f39_r7 c))
 (bEx .ret)) (bEx .nrm)))
 (bSeq (bSeq (bReg (f39_r8 c))
 (bCond (.tmp 62) (bSeq (bReg (f39_r9 c))
 (bEx .ret)) (bEx .nrm)))
 (bSeq (bReg (f39_r10 c))
 (bEx .ret)))))))
theorem f39_eq (c : CallF) (k : Nat) : exec cx c 75 f39_an k (Tryd.f39.body.getD .skip) = f39 c k := by kernel_rfl
/-! ### f40: loop.example/g01263/laws.toItemS -/
def f40_an : Ann := ⟨[(0, r0 [0]), (1, r0 [0, 3]), (2, r0 [0, 3, 4]), (3, r0 [0, 3, 4, 11]), (4, r0 [0, 3, 4]), (5, r0 [0, 3, 4]), (6, r0 [2])], [(3, [0, 3, 4])]⟩
noncomputable def f40_r0 (c : CallF) : RF := rg [0] <| aX 2 (pM (cn .nils)) <|
 aXZ
noncomputable def f40_r1 (c : CallF) : RF := rg [0, 3] <| aX 5 (pM 0) <|
 aX 6 (pLen 22 5) <|
 aX 7 (fun n e M => aMakeO n 85 2 16 (zeroOf cx.P 85) (eget e 6) (eget e 6)) <|
 aX 3 (pM 7) <|
 aXZ
noncomputable def f40_r2 (c : CallF) : RF := rg [0, 3, 4] <| aX 4 (pM (cn (.int .i64 0))) <|
 aXZ
noncomputable def f40_r3 (c : CallF) : RF := rg [0, 3, 4, 11] <| aX 8 (pM 4) <|
 aX 9 (pM 0) <|
 aX 10 (pLen 22 9) <|
 aX 11 (pB .lss 3 8 10) <|
 aXZ
noncomputable def f40_r4 (c : CallF) : RF := rg [0, 3, 4] <| aX 12 (pM 4) <|
 aX 13 (pB .add 3 12 (cn (.int .i64 1))) <|
 aX 4 (pM 13) <|
 aXZ
noncomputable def f40_r5 (c : CallF) : RF := rg [0, 3, 4] <| aX 14 (pM 3) <|
 aX 15 (pM 4) <|
 aX 16 (pM 0) <|
 aX 17 (pM 4) <|
 aX 18 (pI 2 16 17) <|
 aX 19 (pL true 2 18) <|
 aX 20 (pK c false 86 [19]) <|
 aX 21 (pI 2 14 15) <|
 aX0 (pS 2 21 20) <|
 aXZ
noncomputable def f40_r6 (c : CallF) : RF := rg [2] <| aX 22 (pM 3) <|
 aX 2 (pM 22) <|
 aXZ
noncomputable def f40_l3 (c : CallF) (k : Nat) : St :=
 (bSeq (bSeq (bReg (f40_r3 c))
 (bCond (.tmp 11) (bEx .nrm) (bEx (.ext 0))))
 (bSeq (bBlock 1 (bReg (f40_r5 c)))
 (bReg (f40_r4 c))))
noncomputable def f40 (c : CallF) (k : Nat) : St :=
 (bSeq (bReg (f40_r0 c))
 (bSeq (bReg (f40_r1 c))
 (bSeq (bSeq (bReg (f40_r2 c))
 (bBlock 0 (bLoop [0, 3, 4] (f40_l3 c k) k)))
 (bSeq (bReg (f40_r6 c))
 (bEx .ret)))))
theorem f40_eq (c : CallF) (k : Nat) : exec cx c 23 f40_an k (Tryd.f40.body.getD .skip) = f40 c k := by kernel_rfl
/-! ### f41: loop.example/g01263/impl.CheckAccount -/
def f41_an : Ann := ⟨[(0, r0 [1]), (1, r0 [2])], []⟩
noncomputable def f41_r0 (c : CallF) : RF := rg [1] <| aX 1 (pBox 3 0) <|
 aX 2 (pM (cn (.bool false))) <|
 aXZ
noncomputable def f41_r1 (c : CallF) : RF := rgD [2] (aY 3 (pF 0 1 1) <|
 aY 4 (pL false 1 3) <|
 aY 5 (pK c false 87 [4, (cn (.int .i64 16))]) <|
 aY 6 (pM 5) <|
 aY 7 (pG 6 true (pF 1 1 1)) <|
 aY 8 (pG 6 true (pL false 1 7)) <|
 aY 9 (pG 6 true (pK c false 88 [8])) <|
 aY 10 (pP 6 9 (cn (.bool false))) <|
 aY 11 (pM 10) <|
 aY 12 (pG 11 true (pF 2 1 1)) <|
 aY 13 (pG 11 true (pL false 1 12)) <|
 aY 14 (pG 11 true (pF 1 1 1)) <|
 aY 15 (pG 11 true (pL false 1 14)) <|
 aY 16 (pG 11 true (pK c false 89 [15])) <|
 aY 17 (pG 11 true (pB .eql 2 13 16)) <|
 aY 18 (pP 11 17 (cn (.bool false))) <|
 aY 2 (pM 18) <|
 aYZ)
 (aXZ)
noncomputable def f41 (c : CallF) (k : Nat) : St :=
 (bSeq (bReg (f41_r0 c))
 (bSeq (bReg (f41_r1 c))
 (bEx .ret)))
theorem f41_eq (c : CallF) (k : Nat) : exec cx c 19 f41_an k (Tryd.f41.body.getD .skip) = f41 c k := by kernel_rfl
/-! ### f42: loop.example/g01263/impl.isAmount -/
def f42_an : Ann := ⟨[(0, r0 [0]), (1, r0 [2])], []⟩
noncomputable def f42_r0 (c : CallF) : RF := rg [0] <| aX 2 (pM (cn (.bool false))) <|
 aXZ
noncomputable def f42_r1 (c : CallF) : RF := rg [2] <| aX 3 (pM 0) <|
 aX 4 (pB .geq 2 3 (cn (.int .i64 0))) <|
 aX 5 (pM 4) <|
 aX 6 (pG 5 true (pM 0)) <|
 aX 7 (pG 5 true (pB .leq 2 6 (cn (.int .i64 100000000)))) <|
 aX 8 (pP 5 7 (cn (.bool false))) <|
 aX 2 (pM 8) <|
 aXZ
noncomputable def f42 (c : CallF) (k : Nat) : St :=
 (bSeq (bReg (f42_r0 c))
 (bSeq (bReg (f42_r1 c))
 (bEx .ret)))
theorem f42_eq (c : CallF) (k : Nat) : exec cx c 9 f42_an k (Tryd.f42.body.getD .skip) = f42 c k := by kernel_rfl
/-! ### f43: loop.example/g01263/impl.size -/
def f43_an : Ann := ⟨[(0, r0 [0]), (1, r0 [2])], []⟩
noncomputable def f43_r0 (c : CallF) : RF := rg [0] <| aX 2 (pM (cn (.int .i64 0))) <|
 aXZ
noncomputable def f43_r1 (c : CallF) : RF := rg [2] <| aX 3 (pM 0) <|
 aX 4 (pM 0) <|
 aX 5 (pU .neg 4) <|
 aX 6 (fun n e M => keep (aMax true (eget e 3) (eget e 5))) <|
 aX 2 (pM 6) <|
 aXZ
noncomputable def f43 (c : CallF) (k : Nat) : St :=
 (bSeq (bReg (f43_r0 c))
 (bSeq (bReg (f43_r1 c))
 (bEx .ret)))
theorem f43_eq (c : CallF) (k : Nat) : exec cx c 7 f43_an k (Tryd.f43.body.getD .skip) = f43 c k := by kernel_rfl
/-! ### f44: loop.example/g01263/impl.itemWords -/
def f44_an : Ann := ⟨[(0, r0 []), (1, r0 [0])], []⟩
noncomputable def f44_r0 (c : CallF) : RF := rg [] <| aX 0 (pM (cn .nils)) <|
 aXZ
noncomputable def f44_r1 (c : CallF) : RF := rg [0] <| aX 1 (fun n e M => keep (aLitI 9 1 [(.str [102, 97, 114, 109]), (.str [100, 101, 98, 116]), (.str [112, 97, 105, 100]), (.str [97, 108, 108, 111, 119, 101, 100])] M)) <|
 aX 0 (pM 1) <|
 aXZ
noncomputable def f44 (c : CallF) (k : Nat) : St :=
 (bSeq (bReg (f44_r0 c))
 (bSeq (bReg (f44_r1 c))
 (bEx .ret)))
theorem f44_eq (c : CallF) (k : Nat) : exec cx c 2 f44_an k (Tryd.f44.body.getD .skip) = f44 c k := by kernel_rfl
/-! ### f45: loop.example/g01263/impl.AmountText -/
def f45_an : Ann := ⟨[(0, r0 [0]), (1, r0 [0, 8]), (2, r0 [2]), (3, r0 [0, 10]), (4, r0 [2]), (5, ⟨[0], [], [], [], [0, 3]⟩), (6, r0 [3, 19, 20, 21]), (7, r0 [3, 19, 20, 21, 22]), (8, r0 [3, 4, 5, 19, 20, 21]), (9, r0 [3, 4, 5, 19, 20, 21, 27]), (10, ⟨[9], [], [], [9, 10], [3, 19, 20, 21]⟩), (11, r0 [3, 19, 20, 21]), (12, r0 [2])], [(7, [3, 19, 20, 21])]⟩
noncomputable def f45_r0 (c : CallF) : RF := rg [0] <| aX 2 (pM (cn (.str []))) <|
 aXZ
noncomputable def f45_r1 (c : CallF) : RF := rg [0, 8] <| aX 6 (pM 0) <|
 aX 7 (pK c false 42 [6]) <|
 aX 8 (pU .not 7) <|
 aXZ
noncomputable def f45_r2 (c : CallF) : RF := rg [2] <| aX 2 (pM (cn (.str []))) <|
 aXZ
noncomputable def f45_r3 (c : CallF) : RF := rg [0, 10] <| aX 9 (pM 0) <|
 aX 10 (pB .eql 2 9 (cn (.int .i64 0))) <|
 aXZ
noncomputable def f45_r4 (c : CallF) : RF := rg [2] <| aX 2 (pM (cn (.str [48, 100]))) <|
 aXZ
noncomputable def f45_r5 (c : CallF) : RF := rg [0, 3] <| aX 11 (fun n e M => aLitO false n 9 1 [] M) <|
 aX 3 (pM 11) <|
 aXZ
noncomputable def f45_r6 (c : CallF) : RF := rg [3, 19, 20, 21] <| aX 12 (pM 0) <|
 aX 13 (pB .quo 2 12 (cn (.int .i64 240))) <|
 aX 14 (pM 0) <|
 aX 15 (pB .quo 2 14 (cn (.int .i64 12))) <|
 aX 16 (pB .rem 2 15 (cn (.int .i64 20))) <|
 aX 17 (pM 0) <|
 aX 18 (pB .rem 2 17 (cn (.int .i64 12))) <|
 aX 19 (fun n e M => keep (aLitI 2 1 [(eget e 13), (eget e 16), (eget e 18)] M)) <|
 aX 20 (pLen 136 19) <|
 aX 21 (pM (cn (.int .i64 0))) <|
 aXZ
noncomputable def f45_r7 (c : CallF) : RF := rg [3, 19, 20, 21, 22] <| aX 22 (pB .lss 3 21 20) <|
 aXZ
noncomputable def f45_r8 (c : CallF) : RF := rg [3, 4, 5, 19, 20, 21] <| aX 23 (pM 21) <|
 aX 24 (pI 1 19 21) <|
 aX 25 (pL false 1 24) <|
 aX 4 (pM 23) <|
 aX 5 (pM 25) <|
 aXZ
noncomputable def f45_r9 (c : CallF) : RF := rg [3, 4, 5, 19, 20, 21, 27] <| aX 26 (pM 5) <|
 aX 27 (pB .gtr 2 26 (cn (.int .i64 0))) <|
 aXZ
noncomputable def f45_r10 (c : CallF) : RF := rgD [3, 19, 20, 21] (aY 28 (pM 3) <|
 aY 29 (pM 5) <|
 aY 30 (pK c false 90 [29]) <|
 aY 31 (pM 4) <|
 aY 32 (pM 4) <|
 aY 33 (pB .add 3 32 (cn (.int .i64 1))) <|
 aY 34 (fun n e M => keep (aSliceS (some (eget e 31)) (some (eget e 33)) (.str [108, 115, 100]))) <|
 aY 35 (pB .add 9 30 34) <|
 aY 36 (fun n e M => keep (aLitI 9 1 [(eget e 35)] M)) <|
 aYZ)
 (aX 37 (fun n e M => aAppO n 9 1 16 (eget e 28) (eget e 36) M) <|
 aX 3 (pM 37) <|
 aXZ)
noncomputable def f45_r11 (c : CallF) : RF := rg [3, 19, 20, 21] <| aX 38 (pB .add 3 21 (cn (.int .i64 1))) <|
 aX 21 (pM 38) <|
 aXZ
noncomputable def f45_r12 (c : CallF) : RF := rg [2] <| aX 39 (pM 3) <|
 aX 40 (pK c false 91 [39, (cn (.str [32]))]) <|
 aX 2 (pM 40) <|
 aXZ
noncomputable def f45_l7 (c : CallF) (k : Nat) : St :=
 (bSeq (bReg (f45_r7 c))
 (bSeq (bCond (.tmp 22) (bEx .nrm) (bEx (.ext 0)))
 (bSeq (bBlock 1 (bSeq (bReg (f45_r8 c))
 (bSeq (bReg (f45_r9 c))
 (bCond (.tmp 27) (bReg (f45_r10 c)) (bEx .nrm)))))
 (bReg (f45_r11 c)))))
noncomputable def f45 (c : CallF) (k : Nat) : St :=
 (bSeq (bReg (f45_r0 c))
 (bSeq (bSeq (bReg (f45_r1 c))
 (bCond (.tmp 8) (bSeq (bReg (f45_r2 c))
 (bEx .ret)) (bEx .nrm)))
 (bSeq (bSeq (bReg (f45_r3 c))
 (bCond (.tmp 10) (bSeq (bReg (f45_r4 c))
 (bEx .ret)) (bEx .nrm)))
 (bSeq (bReg (f45_r5 c))
 (bSeq (bSeq (bReg (f45_r6 c))
 (bBlock 0 (bLoop [3, 19, 20, 21] (f45_l7 c k) k)))
 (bSeq (bReg (f45_r12 c))
 (bEx .ret)))))))
theorem f45_eq (c : CallF) (k : Nat) : exec cx c 41 f45_an k (Tryd.f45.body.getD .skip) = f45 c k := by kernel_rfl
/-! ### f46: loop.example/g01263/laws.eqItemS -/
def f46_an : Ann := ⟨[(0, r0 [0, 1]), (1, r0 [0, 1, 10]), (2, r0 [4]), (3, r0 [0, 1, 5]), (4, r0 [0, 1, 5, 14]), (5, r0 [0, 1, 5]), (6, r0 [0, 1, 5, 26]), (7, r0 [4]), (8, r0 [4])], [(4, [0, 1, 5])]⟩
noncomputable def f46_r0 (c : CallF) : RF := rg [0, 1] <| aX 4 (pM (cn (.bool false))) <|
 aXZ
noncomputable def f46_r1 (c : CallF) : RF := rg [0, 1, 10] <| aX 6 (pM 0) <|
 aX 7 (pLen 27 6) <|
 aX 8 (pM 1) <|
 aX 9 (pLen 27 8) <|
 aX 10 (pB .neq 3 7 9) <|
 aXZ
noncomputable def f46_r2 (c : CallF) : RF := rg [4] <| aX 4 (pM (cn (.bool false))) <|
 aXZ
noncomputable def f46_r3 (c : CallF) : RF := rg [0, 1, 5] <| aX 5 (pM (cn (.int .i64 0))) <|
 aXZ
noncomputable def f46_r4 (c : CallF) : RF := rg [0, 1, 5, 14] <| aX 11 (pM 5) <|
 aX 12 (pM 0) <|
 aX 13 (pLen 27 12) <|
 aX 14 (pB .lss 3 11 13) <|
 aXZ
noncomputable def f46_r5 (c : CallF) : RF := rg [0, 1, 5] <| aX 15 (pM 5) <|
 aX 16 (pB .add 3 15 (cn (.int .i64 1))) <|
 aX 5 (pM 16) <|
 aXZ
noncomputable def f46_r6 (c : CallF) : RF := rgD [0, 1, 5, 26] (aY 17 (pM 0) <|
 aY 18 (pM 5) <|
 aY 19 (pI 2 17 18) <|
 aY 20 (pL true 2 19) <|
 aY 21 (pM 1) <|
 aY 22 (pM 5) <|
 aY 23 (pI 2 21 22) <|
 aY 24 (pL true 2 23) <|
 aY 25 (pK c false 92 [20, 24]) <|
 aY 26 (pU .not 25) <|
 aYZ)
 (aXZ)
noncomputable def f46_r7 (c : CallF) : RF := rg [4] <| aX 4 (pM (cn (.bool false))) <|
 aXZ
noncomputable def f46_r8 (c : CallF) : RF := rg [4] <| aX 4 (pM (cn (.bool true))) <|
 aXZ
noncomputable def f46_l4 (c : CallF) (k : Nat) : St :=
 (bSeq (bSeq (bReg (f46_r4 c))
 (bCond (.tmp 14) (bEx .nrm) (bEx (.ext 0))))
 (bSeq (bBlock 1 (bSeq (bReg (f46_r6 c))
 (bCond (.tmp 26) (bSeq (bReg (f46_r7 c))
 (bEx .ret)) (bEx .nrm))))
 (bReg (f46_r5 c))))
noncomputable def f46 (c : CallF) (k : Nat) : St :=
 (bSeq (bReg (f46_r0 c))
 (bSeq (bSeq (bReg (f46_r1 c))
 (bCond (.tmp 10) (bSeq (bReg (f46_r2 c))
 (bEx .ret)) (bEx .nrm)))
 (bSeq (bSeq (bReg (f46_r3 c))
 (bBlock 0 (bLoop [0, 1, 5] (f46_l4 c k) k)))
 (bSeq (bReg (f46_r8 c))
 (bEx .ret)))))
theorem f46_eq (c : CallF) (k : Nat) : exec cx c 27 f46_an k (Tryd.f46.body.getD .skip) = f46 c k := by kernel_rfl
/-! ### f47: loop.example/g01263/laws.szAccountS -/
def f47_an : Ann := ⟨[(0, r0 [0, 1]), (1, r0 [0, 1]), (2, r0 [0, 1, 11]), (3, r0 [4]), (4, r0 [0, 1, 5]), (5, r0 [0, 1, 5, 15]), (6, r0 [0, 1, 5]), (7, r0 [0, 1, 5]), (8, r0 [0, 1, 5, 25]), (9, r0 [4]), (10, r0 [4])], [(5, [0, 1, 5])]⟩
noncomputable def f47_r0 (c : CallF) : RF := rg [0, 1] <| aX 4 (pM (cn (.int .i64 0))) <|
 aXZ
noncomputable def f47_r1 (c : CallF) : RF := rg [0, 1] <| aX 6 (pM 1) <|
 aX 7 (pM 0) <|
 aX 8 (pLen 33 7) <|
 aX 9 (pB .sub 3 6 8) <|
 aX 1 (pM 9) <|
 aXZ
noncomputable def f47_r2 (c : CallF) : RF := rg [0, 1, 11] <| aX 10 (pM 1) <|
 aX 11 (pB .lss 3 10 (cn (.int .i64 0))) <|
 aXZ
noncomputable def f47_r3 (c : CallF) : RF := rg [4] <| aX 4 (pM (cn (.int .i64 (-1)))) <|
 aXZ
noncomputable def f47_r4 (c : CallF) : RF := rg [0, 1, 5] <| aX 5 (pM (cn (.int .i64 0))) <|
 aXZ
noncomputable def f47_r5 (c : CallF) : RF := rg [0, 1, 5, 15] <| aX 12 (pM 5) <|
 aX 13 (pM 0) <|
 aX 14 (pLen 33 13) <|
 aX 15 (pB .lss 3 12 14) <|
 aXZ
noncomputable def f47_r6 (c : CallF) : RF := rg [0, 1, 5] <| aX 16 (pM 5) <|
 aX 17 (pB .add 3 16 (cn (.int .i64 1))) <|
 aX 5 (pM 17) <|
 aXZ
noncomputable def f47_r7 (c : CallF) : RF := rg [0, 1, 5] <| aX 18 (pM 0) <|
 aX 19 (pM 5) <|
 aX 20 (pI 3 18 19) <|
 aX 21 (pL true 3 20) <|
 aX 22 (pM 1) <|
 aX 23 (pK c false 9 [21, 22]) <|
 aX 1 (pM 23) <|
 aXZ
noncomputable def f47_r8 (c : CallF) : RF := rg [0, 1, 5, 25] <| aX 24 (pM 1) <|
 aX 25 (pB .lss 3 24 (cn (.int .i64 0))) <|
 aXZ
noncomputable def f47_r9 (c : CallF) : RF := rg [4] <| aX 4 (pM (cn (.int .i64 (-1)))) <|
 aXZ
noncomputable def f47_r10 (c : CallF) : RF := rg [4] <| aX 26 (pM 1) <|
 aX 4 (pM 26) <|
 aXZ
noncomputable def f47_l5 (c : CallF) (k : Nat) : St :=
 (bSeq (bSeq (bReg (f47_r5 c))
 (bCond (.tmp 15) (bEx .nrm) (bEx (.ext 0))))
 (bSeq (bBlock 1 (bSeq (bReg (f47_r7 c))
 (bSeq (bReg (f47_r8 c))
 (bCond (.tmp 25) (bSeq (bReg (f47_r9 c))
 (bEx .ret)) (bEx .nrm)))))
 (bReg (f47_r6 c))))
noncomputable def f47 (c : CallF) (k : Nat) : St :=
 (bSeq (bReg (f47_r0 c))
 (bSeq (bReg (f47_r1 c))
 (bSeq (bSeq (bReg (f47_r2 c))
 (bCond (.tmp 11) (bSeq (bReg (f47_r3 c))
 (bEx .ret)) (bEx .nrm)))
 (bSeq (bSeq (bReg (f47_r4 c))
 (bBlock 0 (bLoop [0, 1, 5] (f47_l5 c k) k)))
 (bSeq (bReg (f47_r10 c))
 (bEx .ret))))))
theorem f47_eq (c : CallF) (k : Nat) : exec cx c 27 f47_an k (Tryd.f47.body.getD .skip) = f47 c k := by kernel_rfl
/-! ### f48: loop.example/g01263/spec.l05Roll -/
def f48_an : Ann := ⟨[(0, r0 [0]), (1, r0 [2])], []⟩
noncomputable def f48_r0 (c : CallF) : RF := rg [0] <| aX 2 (pM (cn (.bool false))) <|
 aXZ
noncomputable def f48_r1 (c : CallF) : RF := rg [2] <| aX 3 (pM 0) <|
 aX 4 (pN 3) <|
 aX 5 (pF 0 1 4) <|
 aX 6 (pL false 1 5) <|
 aX 7 (pLen 38 6) <|
 aX 8 (pB .leq 3 7 (cn (.int .i64 20))) <|
 aX 9 (pM 8) <|
 aX 10 (pG 9 true (pM 0)) <|
 aX 11 (pG 9 true (pK c false 93 [10])) <|
 aX 12 (pG 9 true (pB .lss 2 11 (cn (.int .i64 0)))) <|
 aX 13 (pP 9 12 (cn (.bool false))) <|
 aX 2 (pM 13) <|
 aXZ
noncomputable def f48 (c : CallF) (k : Nat) : St :=
 (bSeq (bReg (f48_r0 c))
 (bSeq (bReg (f48_r1 c))
 (bEx .ret)))
theorem f48_eq (c : CallF) (k : Nat) : exec cx c 14 f48_an k (Tryd.f48.body.getD .skip) = f48 c k := by kernel_rfl
/-! ### f49: loop.example/g01263/spec.l01Amount -/
def f49_an : Ann := ⟨[(0, r0 [0]), (1, r0 [2])], []⟩
noncomputable def f49_r0 (c : CallF) : RF := rg [0] <| aX 2 (pM (cn (.bool false))) <|
 aXZ
noncomputable def f49_r1 (c : CallF) : RF := rg [2] <| aX 3 (pM 0) <|
 aX 4 (pK c false 84 [3, (cn (.int .i64 0)), (cn (.int .i64 100000000))]) <|
 aX 2 (pM 4) <|
 aXZ
noncomputable def f49 (c : CallF) (k : Nat) : St :=
 (bSeq (bReg (f49_r0 c))
 (bSeq (bReg (f49_r1 c))
 (bEx .ret)))
theorem f49_eq (c : CallF) (k : Nat) : exec cx c 5 f49_an k (Tryd.f49.body.getD .skip) = f49 c k := by kernel_rfl
/-! ### f50: loop.example/g01263/spec.l01AmountText -/
def f50_an : Ann := ⟨[(0, r0 [0]), (1, r0 [0, 5]), (2, r0 [2]), (3, r0 [0, 3]), (4, r0 [0, 3]), (5, r0 [2])], []⟩
noncomputable def f50_r0 (c : CallF) : RF := rg [0] <| aX 2 (pM (cn (.str []))) <|
 aXZ
noncomputable def f50_r1 (c : CallF) : RF := rg [0, 5] <| aX 4 (pM 0) <|
 aX 5 (pB .eql 2 4 (cn (.int .i64 0))) <|
 aXZ
noncomputable def f50_r2 (c : CallF) : RF := rg [2] <| aX 2 (pM (cn (.str [48, 100]))) <|
 aXZ
noncomputable def f50_r3 (c : CallF) : RF := rg [0, 3] <| aX 6 (pM 0) <|
 aX 7 (pB .quo 2 6 (cn (.int .i64 240))) <|
 aX 8 (pK c false 94 [(cn (.str [])), 7, (cn (.str [108]))]) <|
 aX 3 (pM 8) <|
 aXZ
noncomputable def f50_r4 (c : CallF) : RF := rg [0, 3] <| aX 9 (pM 3) <|
 aX 10 (pM 0) <|
 aX 11 (pB .quo 2 10 (cn (.int .i64 12))) <|
 aX 12 (pB .rem 2 11 (cn (.int .i64 20))) <|
 aX 13 (pK c false 94 [9, 12, (cn (.str [115]))]) <|
 aX 3 (pM 13) <|
 aXZ
noncomputable def f50_r5 (c : CallF) : RF := rg [2] <| aX 14 (pM 3) <|
 aX 15 (pM 0) <|
 aX 16 (pB .rem 2 15 (cn (.int .i64 12))) <|
 aX 17 (pK c false 94 [14, 16, (cn (.str [100]))]) <|
 aX 2 (pM 17) <|
 aXZ
noncomputable def f50 (c : CallF) (k : Nat) : St :=
 (bSeq (bReg (f50_r0 c))
 (bSeq (bSeq (bReg (f50_r1 c))
 (bCond (.tmp 5) (bSeq (bReg (f50_r2 c))
 (bEx .ret)) (bEx .nrm)))
 (bSeq (bReg (f50_r3 c))
 (bSeq (bReg (f50_r4 c))
 (bSeq (bReg (f50_r5 c))
 (bEx .ret))))))
theorem f50_eq (c : CallF) (k : Nat) : exec cx c 18 f50_an k (Tryd.f50.body.getD .skip) = f50 c k := by kernel_rfl
/-! ### f51: loop.example/g01263/laws.toAccountS -/
def f51_an : Ann := ⟨[(0, r0 [0]), (1, r0 [0, 3]), (2, r0 [0, 3, 4]), (3, r0 [0, 3, 4, 11]), (4, r0 [0, 3, 4]), (5, r0 [0, 3, 4]), (6, r0 [2])], [(3, [0, 3, 4])]⟩
noncomputable def f51_r0 (c : CallF) : RF := rg [0] <| aX 2 (pM (cn .nils)) <|
 aXZ
noncomputable def f51_r1 (c : CallF) : RF := rg [0, 3] <| aX 5 (pM 0) <|
 aX 6 (pLen 33 5) <|
 aX 7 (fun n e M => aMakeO n 29 3 48 (zeroOf cx.P 29) (eget e 6) (eget e 6)) <|
 aX 3 (pM 7) <|
 aXZ
noncomputable def f51_r2 (c : CallF) : RF := rg [0, 3, 4] <| aX 4 (pM (cn (.int .i64 0))) <|
 aXZ
noncomputable def f51_r3 (c : CallF) : RF := rg [0, 3, 4, 11] <| aX 8 (pM 4) <|
 aX 9 (pM 0) <|
 aX 10 (pLen 33 9) <|
 aX 11 (pB .lss 3 8 10) <|
 aXZ
noncomputable def f51_r4 (c : CallF) : RF := rg [0, 3, 4] <| aX 12 (pM 4) <|
 aX 13 (pB .add 3 12 (cn (.int .i64 1))) <|
 aX 4 (pM 13) <|
 aXZ
noncomputable def f51_r5 (c : CallF) : RF := rg [0, 3, 4] <| aX 14 (pM 3) <|
 aX 15 (pM 4) <|
 aX 16 (pM 0) <|
 aX 17 (pM 4) <|
 aX 18 (pI 3 16 17) <|
 aX 19 (pL true 3 18) <|
 aX 20 (pK c false 11 [19]) <|
 aX 21 (pI 3 14 15) <|
 aX0 (pS 3 21 20) <|
 aXZ
noncomputable def f51_r6 (c : CallF) : RF := rg [2] <| aX 22 (pM 3) <|
 aX 2 (pM 22) <|
 aXZ
noncomputable def f51_l3 (c : CallF) (k : Nat) : St :=
 (bSeq (bSeq (bReg (f51_r3 c))
 (bCond (.tmp 11) (bEx .nrm) (bEx (.ext 0))))
 (bSeq (bBlock 1 (bReg (f51_r5 c)))
 (bReg (f51_r4 c))))
noncomputable def f51 (c : CallF) (k : Nat) : St :=
 (bSeq (bReg (f51_r0 c))
 (bSeq (bReg (f51_r1 c))
 (bSeq (bSeq (bReg (f51_r2 c))
 (bBlock 0 (bLoop [0, 3, 4] (f51_l3 c k) k)))
 (bSeq (bReg (f51_r6 c))
 (bEx .ret)))))
theorem f51_eq (c : CallF) (k : Nat) : exec cx c 23 f51_an k (Tryd.f51.body.getD .skip) = f51 c k := by kernel_rfl
/-! ### f52: loop.example/g01263/impl.validRoll -/
def f52_an : Ann := ⟨[(0, r0 [1]), (1, r0 [4]), (2, r0 [2])], []⟩
noncomputable def f52_r0 (c : CallF) : RF := rg [1] <| aX 1 (pBox 2 0) <|
 aX 2 (pM (cn (.bool false))) <|
 aXZ
noncomputable def f52_r1 (c : CallF) : RF := rg [4] <| aX 6 (pL true 2 1) <|
 aX 7 (pK c false 95 [6]) <|
 aX 5 (pM 7) <|
 aX 8 (pE 0 5) <|
 aX 9 (pE 1 5) <|
 aX 3 (pM 8) <|
 aX 4 (pM 9) <|
 aXZ
noncomputable def f52_r2 (c : CallF) : RF := rg [2] <| aX 10 (pM 4) <|
 aX 11 (pB .eql 2 10 (cn (.int .i64 6))) <|
 aX 2 (pM 11) <|
 aXZ
noncomputable def f52 (c : CallF) (k : Nat) : St :=
 (bSeq (bReg (f52_r0 c))
 (bSeq (bReg (f52_r1 c))
 (bSeq (bReg (f52_r2 c))
 (bEx .ret))))
theorem f52_eq (c : CallF) (k : Nat) : exec cx c 12 f52_an k (Tryd.f52.body.getD .skip) = f52 c k := by kernel_rfl
/-! ### f53: loop.example/g01263/laws.eqAccountS -/
def f53_an : Ann := ⟨[(0, r0 [0, 1]), (1, r0 [0, 1, 10]), (2, r0 [4]), (3, r0 [0, 1, 5]), (4, r0 [0, 1, 5, 14]), (5, r0 [0, 1, 5]), (6, r0 [0, 1, 5, 26]), (7, r0 [4]), (8, r0 [4])], [(4, [0, 1, 5])]⟩
noncomputable def f53_r0 (c : CallF) : RF := rg [0, 1] <| aX 4 (pM (cn (.bool false))) <|
 aXZ
noncomputable def f53_r1 (c : CallF) : RF := rg [0, 1, 10] <| aX 6 (pM 0) <|
 aX 7 (pLen 38 6) <|
 aX 8 (pM 1) <|
 aX 9 (pLen 38 8) <|
 aX 10 (pB .neq 3 7 9) <|
 aXZ
noncomputable def f53_r2 (c : CallF) : RF := rg [4] <| aX 4 (pM (cn (.bool false))) <|
 aXZ
noncomputable def f53_r3 (c : CallF) : RF := rg [0, 1, 5] <| aX 5 (pM (cn (.int .i64 0))) <|
 aXZ
noncomputable def f53_r4 (c : CallF) : RF := rg [0, 1, 5, 14] <| aX 11 (pM 5) <|
 aX 12 (pM 0) <|
 aX 13 (pLen 38 12) <|
 aX 14 (pB .lss 3 11 13) <|
 aXZ
noncomputable def f53_r5 (c : CallF) : RF := rg [0, 1, 5] <| aX 15 (pM 5) <|
 aX 16 (pB .add 3 15 (cn (.int .i64 1))) <|
 aX 5 (pM 16) <|
 aXZ
noncomputable def f53_r6 (c : CallF) : RF := rgD [0, 1, 5, 26] (aY 17 (pM 0) <|
 aY 18 (pM 5) <|
 aY 19 (pI 3 17 18) <|
 aY 20 (pL true 3 19) <|
 aY 21 (pM 1) <|
 aY 22 (pM 5) <|
 aY 23 (pI 3 21 22) <|
 aY 24 (pL true 3 23) <|
 aY 25 (pK c false 13 [20, 24]) <|
 aY 26 (pU .not 25) <|
 aYZ)
 (aXZ)
noncomputable def f53_r7 (c : CallF) : RF := rg [4] <| aX 4 (pM (cn (.bool false))) <|
 aXZ
noncomputable def f53_r8 (c : CallF) : RF := rg [4] <| aX 4 (pM (cn (.bool true))) <|
 aXZ
noncomputable def f53_l4 (c : CallF) (k : Nat) : St :=
 (bSeq (bSeq (bReg (f53_r4 c))
 (bCond (.tmp 14) (bEx .nrm) (bEx (.ext 0))))
 (bSeq (bBlock 1 (bSeq (bReg (f53_r6 c))
 (bCond (.tmp 26) (bSeq (bReg (f53_r7 c))
 (bEx .ret)) (bEx .nrm))))
 (bReg (f53_r5 c))))
noncomputable def f53 (c : CallF) (k : Nat) : St :=
 (bSeq (bReg (f53_r0 c))
 (bSeq (bSeq (bReg (f53_r1 c))
 (bCond (.tmp 10) (bSeq (bReg (f53_r2 c))
 (bEx .ret)) (bEx .nrm)))
 (bSeq (bSeq (bReg (f53_r3 c))
 (bBlock 0 (bLoop [0, 1, 5] (f53_l4 c k) k)))
 (bSeq (bReg (f53_r8 c))
 (bEx .ret)))))
theorem f53_eq (c : CallF) (k : Nat) : exec cx c 27 f53_an k (Tryd.f53.body.getD .skip) = f53 c k := by kernel_rfl
/-! ### f83: loop.example/g01263/spec.l05Right -/
def f83_an : Ann := ⟨[(0, r0 [0]), (1, r0 [2])], []⟩
noncomputable def f83_r0 (c : CallF) : RF := rg [0] <| aX 2 (pM (cn (.bool false))) <|
 aXZ
noncomputable def f83_r1 (c : CallF) : RF := rgD [2] (aY 3 (pM 0) <|
 aY 4 (pN 3) <|
 aY 5 (pF 0 1 4) <|
 aY 6 (pL false 1 5) <|
 aY 7 (pK c false 110 [6]) <|
 aY 8 (pM 7) <|
 aY 9 (pG 8 true (pM 0)) <|
 aY 10 (pG 8 true (pN 9)) <|
 aY 11 (pG 8 true (pF 1 1 10)) <|
 aY 12 (pG 8 true (pL false 1 11)) <|
 aY 13 (pG 8 true (pK c false 112 [12])) <|
 aY 14 (pP 8 13 (cn (.bool false))) <|
 aY 15 (pM 14) <|
 aY 16 (pG 15 true (pM 0)) <|
 aY 17 (pG 15 true (pN 16)) <|
 aY 18 (pG 15 true (pF 2 1 17)) <|
 aY 19 (pG 15 true (pL false 1 18)) <|
 aY 20 (pG 15 true (pM 0)) <|
 aY 21 (pG 15 true (pN 20)) <|
 aY 22 (pG 15 true (pF 1 1 21)) <|
 aY 23 (pG 15 true (pL false 1 22)) <|
 aY 24 (pG 15 true (pK c false 131 [23])) <|
 aY 25 (pG 15 true (pB .eql 2 19 24)) <|
 aY 26 (pP 15 25 (cn (.bool false))) <|
 aY 2 (pM 26) <|
 aYZ)
 (aXZ)
noncomputable def f83 (c : CallF) (k : Nat) : St :=
 (bSeq (bReg (f83_r0 c))
 (bSeq (bReg (f83_r1 c))
 (bEx .ret)))
theorem f83_eq (c : CallF) (k : Nat) : exec cx c 27 f83_an k (Tryd.f83.body.getD .skip) = f83 c k := by kernel_rfl
/-! ### f84: loop.example/g01263/spec.l00In -/
def f84_an : Ann := ⟨[(0, r0 [0, 1, 2]), (1, r0 [6])], []⟩
noncomputable def f84_r0 (c : CallF) : RF := rg [0, 1, 2] <| aX 6 (pM (cn (.bool false))) <|
 aXZ
noncomputable def f84_r1 (c : CallF) : RF := rg [6] <| aX 7 (pM 0) <|
 aX 8 (pM 1) <|
 aX 9 (pB .geq 2 7 8) <|
 aX 10 (pM 9) <|
 aX 11 (pG 10 true (pM 0)) <|
 aX 12 (pG 10 true (pM 2)) <|
 aX 13 (pG 10 true (pB .leq 2 11 12)) <|
 aX 14 (pP 10 13 (cn (.bool false))) <|
 aX 6 (pM 14) <|
 aXZ
noncomputable def f84 (c : CallF) (k : Nat) : St :=
 (bSeq (bReg (f84_r0 c))
 (bSeq (bReg (f84_r1 c))
 (bEx .ret)))
theorem f84_eq (c : CallF) (k : Nat) : exec cx c 15 f84_an k (Tryd.f84.body.getD .skip) = f84 c k := by kernel_rfl
/-! ### f85: loop.example/g01263/spec.l05Words -/
def f85_an : Ann := ⟨[(0, r0 []), (1, r0 [0])], []⟩
noncomputable def f85_r0 (c : CallF) : RF := rg [] <| aX 0 (pM (cn .nils)) <|
 aXZ
noncomputable def f85_r1 (c : CallF) : RF := rg [0] <| aX 1 (fun n e M => keep (aLitI 9 1 [(.str [102, 97, 114, 109]), (.str [100, 101, 98, 116]), (.str [112, 97, 105, 100]), (.str [97, 108, 108, 111, 119, 101, 100])] M)) <|
 aX 0 (pM 1) <|
 aXZ
noncomputable def f85 (c : CallF) (k : Nat) : St :=
 (bSeq (bReg (f85_r0 c))
 (bSeq (bReg (f85_r1 c))
 (bEx .ret)))
theorem f85_eq (c : CallF) (k : Nat) : exec cx c 2 f85_an k (Tryd.f85.body.getD .skip) = f85 c k := by kernel_rfl
/-! ### f86: loop.example/g01263/laws.toItem -/
def f86_an : Ann := ⟨[(0, r0 [1, 2]), (1, r0 [1, 2, 3]), (2, r0 [1, 2, 3]), (3, r0 [2, 3]), (4, r0 [2])], []⟩
noncomputable def f86_r0 (c : CallF) : RF := rg [1, 2] <| aX 1 (pBox 2 0) <|
 aX 2 (pAl 85 2) <|
 aXZ
noncomputable def f86_r1 (c : CallF) : RF := rg [1, 2, 3] <| aX 3 (pAl 85 2) <|
 aXZ
noncomputable def f86_r2 (c : CallF) : RF := rg [1, 2, 3] <| aX 4 (pF 0 1 1) <|
 aX 5 (pL false 1 4) <|
 aX 6 (pF 0 1 3) <|
 aX0 (pS 1 6 5) <|
 aXZ
noncomputable def f86_r3 (c : CallF) : RF := rg [2, 3] <| aX 7 (pF 1 1 1) <|
 aX 8 (pL false 1 7) <|
 aX 9 (pF 1 1 3) <|
 aX0 (pS 1 9 8) <|
 aXZ
noncomputable def f86_r4 (c : CallF) : RF := rg [2] <| aX 10 (pL true 2 3) <|
 aX0 (pS 2 2 10) <|
 aXZ
noncomputable def f86 (c : CallF) (k : Nat) : St :=
 (bSeq (bReg (f86_r0 c))
 (bSeq (bReg (f86_r1 c))
 (bSeq (bReg (f86_r2 c))
 (bSeq (bReg (f86_r3 c))
 (bSeq (bReg (f86_r4 c))
 (bEx .ret))))))
theorem f86_eq (c : CallF) (k : Nat) : exec cx c 11 f86_an k (Tryd.f86.body.getD .skip) = f86 c k := by kernel_rfl
/-! ### f87: loop.example/g01263/impl.isLetters -/
def f87_an : Ann := ⟨[(0, r0 [0, 1]), (1, r0 [0, 1, 7, 8]), (2, r0 [0, 1, 7, 8, 9]), (3, r0 [0, 1, 5, 7, 8]), (4, r0 [0, 1, 7, 8, 20]), (5, r0 [4]), (6, r0 [0, 1, 7, 8]), (7, r0 [4])], [(2, [0, 1, 7, 8])]⟩
noncomputable def f87_r0 (c : CallF) : RF := rg [0, 1] <| aX 4 (pM (cn (.bool false))) <|
 aXZ
noncomputable def f87_r1 (c : CallF) : RF := rg [0, 1, 7, 8] <| aX 6 (pM 0) <|
 aX 7 (pLen 9 6) <|
 aX 8 (pM (cn (.int .i64 0))) <|
 aXZ
noncomputable def f87_r2 (c : CallF) : RF := rg [0, 1, 7, 8, 9] <| aX 9 (pB .lss 3 8 7) <|
 aXZ
noncomputable def f87_r3 (c : CallF) : RF := rg [0, 1, 5, 7, 8] <| aX 10 (pM 8) <|
 aX 5 (pM 10) <|
 aXZ
noncomputable def f87_r4 (c : CallF) : RF := rg [0, 1, 7, 8, 20] <| aX 11 (pM 0) <|
 aX 12 (pM 5) <|
 aX 13 (fun n e M => keep (aIndexB (eget e 11) (eget e 12))) <|
 aX 14 (pB .lss 5 13 (cn (.int .u8 97))) <|
 aX 15 (pM 14) <|
 aX 16 (pG 15 false (pM 0)) <|
 aX 17 (pG 15 false (pM 5)) <|
 aX 18 (pG 15 false (fun n e M => keep (aIndexB (eget e 16) (eget e 17)))) <|
 aX 19 (pG 15 false (pB .gtr 5 18 (cn (.int .u8 122)))) <|
 aX 20 (pP 15 (cn (.bool true)) 19) <|
 aXZ
noncomputable def f87_r5 (c : CallF) : RF := rg [4] <| aX 4 (pM (cn (.bool false))) <|
 aXZ
noncomputable def f87_r6 (c : CallF) : RF := rg [0, 1, 7, 8] <| aX 21 (pB .add 3 8 (cn (.int .i64 1))) <|
 aX 8 (pM 21) <|
 aXZ
noncomputable def f87_r7 (c : CallF) : RF := rg [4] <| aX 22 (pM 0) <|
 aX 23 (pLen 9 22) <|
 aX 24 (pB .geq 3 23 (cn (.int .i64 1))) <|
 aX 25 (pM 24) <|
 aX 26 (pG 25 true (pM 0)) <|
 aX 27 (pG 25 true (pLen 9 26)) <|
 aX 28 (pG 25 true (pM 1)) <|
 aX 29 (pG 25 true (pB .leq 3 27 28)) <|
 aX 30 (pP 25 29 (cn (.bool false))) <|
 aX 4 (pM 30) <|
 aXZ
noncomputable def f87_l2 (c : CallF) (k : Nat) : St :=
 (bSeq (bReg (f87_r2 c))
 (bSeq (bCond (.tmp 9) (bEx .nrm) (bEx (.ext 0)))
 (bSeq (bBlock 1 (bSeq (bReg (f87_r3 c))
 (bSeq (bReg (f87_r4 c))
 (bCond (.tmp 20) (bSeq (bReg (f87_r5 c))
 (bEx .ret)) (bEx .nrm)))))
 (bReg (f87_r6 c)))))
noncomputable def f87 (c : CallF) (k : Nat) : St :=
 (bSeq (bReg (f87_r0 c))
 (bSeq (bSeq (bReg (f87_r1 c))
 (bBlock 0 (bLoop [0, 1, 7, 8] (f87_l2 c k) k)))
 (bSeq (bReg (f87_r7 c))
 (bEx .ret))))
theorem f87_eq (c : CallF) (k : Nat) : exec cx c 31 f87_an k (Tryd.f87.body.getD .skip) = f87 c k := by kernel_rfl
/-! ### f88: loop.example/g01263/impl.ValidItems -/
def f88_an : Ann := ⟨[(0, r0 [0]), (1, r0 [0, 5, 6, 7]), (2, r0 [0, 5, 6, 7, 8]), (3, r0 [0, 4, 5, 6, 7]), (4, r0 [0, 5, 6, 7, 13]), (5, r0 [2]), (6, r0 [0, 5, 6, 7]), (7, r0 [2])], [(2, [0, 5, 6, 7])]⟩
noncomputable def f88_r0 (c : CallF) : RF := rg [0] <| aX 2 (pM (cn (.bool false))) <|
 aXZ
noncomputable def f88_r1 (c : CallF) : RF := rg [0, 5, 6, 7] <| aX 5 (pM 0) <|
 aX 6 (pLen 27 5) <|
 aX 7 (pM (cn (.int .i64 0))) <|
 aXZ
noncomputable def f88_r2 (c : CallF) : RF := rg [0, 5, 6, 7, 8] <| aX 8 (pB .lss 3 7 6) <|
 aXZ
noncomputable def f88_r3 (c : CallF) : RF := rg [0, 4, 5, 6, 7] <| aX 9 (pI 2 5 7) <|
 aX 10 (pL true 2 9) <|
 aX 4 (pAl 85 2) <|
 aX0 (pS 2 4 10) <|
 aXZ
noncomputable def f88_r4 (c : CallF) : RF := rg [0, 5, 6, 7, 13] <| aX 11 (pL true 2 4) <|
 aX 12 (pK c false 132 [11]) <|
 aX 13 (pU .not 12) <|
 aXZ
noncomputable def f88_r5 (c : CallF) : RF := rg [2] <| aX 2 (pM (cn (.bool false))) <|
 aXZ
noncomputable def f88_r6 (c : CallF) : RF := rg [0, 5, 6, 7] <| aX 14 (pB .add 3 7 (cn (.int .i64 1))) <|
 aX 7 (pM 14) <|
 aXZ
noncomputable def f88_r7 (c : CallF) : RF := rg [2] <| aX 15 (pM 0) <|
 aX 16 (pLen 27 15) <|
 aX 17 (pB .leq 3 16 (cn (.int .i64 40))) <|
 aX 2 (pM 17) <|
 aXZ
noncomputable def f88_l2 (c : CallF) (k : Nat) : St :=
 (bSeq (bReg (f88_r2 c))
 (bSeq (bCond (.tmp 8) (bEx .nrm) (bEx (.ext 0)))
 (bSeq (bBlock 1 (bSeq (bReg (f88_r3 c))
 (bSeq (bReg (f88_r4 c))
 (bCond (.tmp 13) (bSeq (bReg (f88_r5 c))
 (bEx .ret)) (bEx .nrm)))))
 (bReg (f88_r6 c)))))
noncomputable def f88 (c : CallF) (k : Nat) : St :=
 (bSeq (bReg (f88_r0 c))
 (bSeq (bSeq (bReg (f88_r1 c))
 (bBlock 0 (bLoop [0, 5, 6, 7] (f88_l2 c k) k)))
 (bSeq (bReg (f88_r7 c))
 (bEx .ret))))
theorem f88_eq (c : CallF) (k : Nat) : exec cx c 18 f88_an k (Tryd.f88.body.getD .skip) = f88 c k := by kernel_rfl
/-! ### f89: loop.example/g01263/impl.balance -/
def f89_an : Ann := ⟨[(0, r0 [0]), (1, r0 [0, 3]), (2, r0 [3, 6, 7, 8]), (3, r0 [3, 6, 7, 8, 9]), (4, r0 [3, 5, 6, 7, 8]), (5, r0 [3, 5, 6, 7, 8, 19]), (6, r0 [3, 6, 7, 8]), (7, r0 [3, 6, 7, 8]), (8, r0 [3, 6, 7, 8]), (9, r0 [2])], [(3, [3, 6, 7, 8])]⟩
noncomputable def f89_r0 (c : CallF) : RF := rg [0] <| aX 2 (pM (cn (.int .i64 0))) <|
 aXZ
noncomputable def f89_r1 (c : CallF) : RF := rg [0, 3] <| aX 3 (pM (cn (.int .i64 0))) <|
 aXZ
noncomputable def f89_r2 (c : CallF) : RF := rg [3, 6, 7, 8] <| aX 6 (pM 0) <|
 aX 7 (pLen 27 6) <|
 aX 8 (pM (cn (.int .i64 0))) <|
 aXZ
noncomputable def f89_r3 (c : CallF) : RF := rg [3, 6, 7, 8, 9] <| aX 9 (pB .lss 3 8 7) <|
 aXZ
noncomputable def f89_r4 (c : CallF) : RF := rg [3, 5, 6, 7, 8] <| aX 10 (pI 2 6 8) <|
 aX 11 (pL true 2 10) <|
 aX 5 (pAl 85 2) <|
 aX0 (pS 2 5 11) <|
 aXZ
noncomputable def f89_r5 (c : CallF) : RF := rg [3, 5, 6, 7, 8, 19] <| aX 12 (pF 0 1 5) <|
 aX 13 (pL false 1 12) <|
 aX 14 (pB .eql 45 13 (cn (.int .i8 0))) <|
 aX 15 (pM 14) <|
 aX 16 (pG 15 false (pF 0 1 5)) <|
 aX 17 (pG 15 false (pL false 1 16)) <|
 aX 18 (pG 15 false (pB .eql 45 17 (cn (.int .i8 1)))) <|
 aX 19 (pP 15 (cn (.bool true)) 18) <|
 aXZ
noncomputable def f89_r6 (c : CallF) : RF := rg [3, 6, 7, 8] <| aX 20 (pM 3) <|
 aX 21 (pF 1 1 5) <|
 aX 22 (pL false 1 21) <|
 aX 23 (pB .add 2 20 22) <|
 aX 3 (pM 23) <|
 aXZ
noncomputable def f89_r7 (c : CallF) : RF := rg [3, 6, 7, 8] <| aX 24 (pM 3) <|
 aX 25 (pF 1 1 5) <|
 aX 26 (pL false 1 25) <|
 aX 27 (pB .sub 2 24 26) <|
 aX 3 (pM 27) <|
 aXZ
noncomputable def f89_r8 (c : CallF) : RF := rg [3, 6, 7, 8] <| aX 28 (pB .add 3 8 (cn (.int .i64 1))) <|
 aX 8 (pM 28) <|
 aXZ
noncomputable def f89_r9 (c : CallF) : RF := rg [2] <| aX 29 (pM 3) <|
 aX 2 (pM 29) <|
 aXZ
noncomputable def f89_l3 (c : CallF) (k : Nat) : St :=
 (bSeq (bReg (f89_r3 c))
 (bSeq (bCond (.tmp 9) (bEx .nrm) (bEx (.ext 0)))
 (bSeq (bBlock 1 (bSeq (bReg (f89_r4 c))
 (bSeq (bReg (f89_r5 c))
 (bCond (.tmp 19) (bReg (f89_r6 c)) (bReg (f89_r7 c))))))
 (bReg (f89_r8 c)))))
noncomputable def f89 (c : CallF) (k : Nat) : St :=
 (bSeq (bReg (f89_r0 c))
 (bSeq (bReg (f89_r1 c))
 (bSeq (bSeq (bReg (f89_r2 c))
 (bBlock 0 (bLoop [3, 6, 7, 8] (f89_l3 c k) k)))
 (bSeq (bReg (f89_r9 c))
 (bEx .ret)))))
theorem f89_eq (c : CallF) (k : Nat) : exec cx c 30 f89_an k (Tryd.f89.body.getD .skip) = f89 c k := by kernel_rfl
/-! ### f90: loop.example/g01263/impl.decimal -/
def f90_an : Ann := ⟨[(0, r0 [0]), (1, r0 [2])], []⟩
noncomputable def f90_r0 (c : CallF) : RF := rg [0] <| aX 2 (pM (cn (.str []))) <|
 aXZ
noncomputable def f90_r1 (c : CallF) : RF := rg [2] <| aX 3 (pM 0) <|
 aX 4 (pK c false 133 [3, (cn (.int .i64 10))]) <|
 aX 2 (pM 4) <|
 aXZ
noncomputable def f90 (c : CallF) (k : Nat) : St :=
 (bSeq (bReg (f90_r0 c))
 (bSeq (bReg (f90_r1 c))
 (bEx .ret)))
theorem f90_eq (c : CallF) (k : Nat) : exec cx c 5 f90_an k (Tryd.f90.body.getD .skip) = f90 c k := by kernel_rfl
/-! ### f92: loop.example/g01263/laws.eqItem -/
def f92_an : Ann := ⟨[(0, r0 [2, 3]), (1, r0 [2, 3, 9]), (2, r0 [4]), (3, r0 [14]), (4, r0 [4]), (5, r0 [4])], []⟩
noncomputable def f92_r0 (c : CallF) : RF := rg [2, 3] <| aX 2 (pBox 2 0) <|
 aX 3 (pBox 2 1) <|
 aX 4 (pM (cn (.bool false))) <|
 aXZ
noncomputable def f92_r1 (c : CallF) : RF := rg [2, 3, 9] <| aX 5 (pF 0 1 2) <|
 aX 6 (pL false 1 5) <|
 aX 7 (pF 0 1 3) <|
 aX 8 (pL false 1 7) <|
 aX 9 (pB .neq 45 6 8) <|
 aXZ
noncomputable def f92_r2 (c : CallF) : RF := rg [4] <| aX 4 (pM (cn (.bool false))) <|
 aXZ
noncomputable def f92_r3 (c : CallF) : RF := rg [14] <| aX 10 (pF 1 1 2) <|
 aX 11 (pL false 1 10) <|
 aX 12 (pF 1 1 3) <|
 aX 13 (pL false 1 12) <|
 aX 14 (pB .neq 2 11 13) <|
 aXZ
noncomputable def f92_r4 (c : CallF) : RF := rg [4] <| aX 4 (pM (cn (.bool false))) <|
 aXZ
noncomputable def f92_r5 (c : CallF) : RF := rg [4] <| aX 4 (pM (cn (.bool true))) <|
 aXZ
noncomputable def f92 (c : CallF) (k : Nat) : St :=
 (bSeq (bReg (f92_r0 c))
 (bSeq (bSeq (bReg (f92_r1 c))
 (bCond (.tmp 9) (bSeq (bReg (f92_r2 c))
 (bEx .ret)) (bEx .nrm)))
 (bSeq (bSeq (bReg (f92_r3 c))
 (bCond (.tmp 14) (bSeq (bReg (f92_r4 c))
 (bEx .ret)) (bEx .nrm)))
 (bSeq (bReg (f92_r5 c))
 (bEx .ret)))))
theorem f92_eq (c : CallF) (k : Nat) : exec cx c 15 f92_an k (Tryd.f92.body.getD .skip) = f92 c k := by kernel_rfl
/-! ### f93: loop.example/g01263/spec.l05Fault -/
def f93_an : Ann := ⟨[(0, r0 [0]), (1, r0 [0, 3]), (2, r0 [0, 3, 10]), (3, r0 [0, 3]), (4, r0 [0, 3, 28]), (5, r0 [2]), (6, r0 [0, 39]), (7, r0 [2]), (8, r0 [2])], [(2, [0, 3])]⟩
noncomputable def f93_r0 (c : CallF) : RF := rg [0] <| aX 2 (pM (cn (.int .i64 0))) <|
 aXZ
noncomputable def f93_r1 (c : CallF) : RF := rg [0, 3] <| aX 3 (pM (cn (.int .i64 0))) <|
 aXZ
noncomputable def f93_r2 (c : CallF) : RF := rg [0, 3, 10] <| aX 4 (pM 3) <|
 aX 5 (pM 0) <|
 aX 6 (pN 5) <|
 aX 7 (pF 0 1 6) <|
 aX 8 (pL false 1 7) <|
 aX 9 (pLen 38 8) <|
 aX 10 (pB .lss 3 4 9) <|
 aXZ
noncomputable def f93_r3 (c : CallF) : RF := rg [0, 3] <| aX 11 (pM 3) <|
 aX 12 (pB .add 3 11 (cn (.int .i64 1))) <|
 aX 3 (pM 12) <|
 aXZ
noncomputable def f93_r4 (c : CallF) : RF := rg [0, 3, 28] <| aX 13 (pM 0) <|
 aX 14 (pN 13) <|
 aX 15 (pF 0 1 14) <|
 aX 16 (pL false 1 15) <|
 aX 17 (pM 3) <|
 aX 18 (pI 3 16 17) <|
 aX 19 (pK c false 83 [18]) <|
 aX 20 (pU .not 19) <|
 aX 21 (pM 20) <|
 aX 22 (pG 21 false (pM 0)) <|
 aX 23 (pG 21 false (pN 22)) <|
 aX 24 (pG 21 false (pF 0 1 23)) <|
 aX 25 (pG 21 false (pL false 1 24)) <|
 aX 26 (pG 21 false (pM 3)) <|
 aX 27 (pG 21 false (pK c false 137 [25, 26])) <|
 aX 28 (pP 21 (cn (.bool true)) 27) <|
 aXZ
noncomputable def f93_r5 (c : CallF) : RF := rg [2] <| aX 29 (pM 3) <|
 aX 2 (pM 29) <|
 aXZ
noncomputable def f93_r6 (c : CallF) : RF := rgD [0, 39] (aY 30 (pM 0) <|
 aY 31 (pN 30) <|
 aY 32 (pF 1 1 31) <|
 aY 33 (pL false 1 32) <|
 aY 34 (pM 0) <|
 aY 35 (pN 34) <|
 aY 36 (pF 0 1 35) <|
 aY 37 (pL false 1 36) <|
 aY 38 (pK c false 138 [37]) <|
 aY 39 (pB .neq 2 33 38) <|
 aYZ)
 (aXZ)
noncomputable def f93_r7 (c : CallF) : RF := rg [2] <| aX 40 (pM 0) <|
 aX 41 (pN 40) <|
 aX 42 (pF 0 1 41) <|
 aX 43 (pL false 1 42) <|
 aX 44 (pLen 38 43) <|
 aX 2 (pM 44) <|
 aXZ
noncomputable def f93_r8 (c : CallF) : RF := rg [2] <| aX 2 (pM (cn (.int .i64 (-1)))) <|
 aXZ
noncomputable def f93_l2 (c : CallF) (k : Nat) : St :=
 (bSeq (bSeq (bReg (f93_r2 c))
 (bCond (.tmp 10) (bEx .nrm) (bEx (.ext 0))))
 (bSeq (bBlock 1 (bSeq (bReg (f93_r4 c))
 (bCond (.tmp 28) (bSeq (bReg (f93_r5 c))
 (bEx .ret)) (bEx .nrm))))
 (bReg (f93_r3 c))))
noncomputable def f93 (c : CallF) (k : Nat) : St :=
 (bSeq (bReg (f93_r0 c))
 (bSeq (bSeq (bReg (f93_r1 c))
 (bBlock 0 (bLoop [0, 3] (f93_l2 c k) k)))
 (bSeq (bSeq (bReg (f93_r6 c))
 (bCond (.tmp 39) (bSeq (bReg (f93_r7 c))
 (bEx .ret)) (bEx .nrm)))
 (bSeq (bReg (f93_r8 c))
 (bEx .ret)))))
theorem f93_eq (c : CallF) (k : Nat) : exec cx c 45 f93_an k (Tryd.f93.body.getD .skip) = f93 c k := by kernel_rfl
/-! ### f94: loop.example/g01263/spec.l01Part -/
def f94_an : Ann := ⟨[(0, r0 [0, 1, 2]), (1, r0 [0, 1, 2, 8]), (2, r0 [6]), (3, r0 [0, 1, 2, 11]), (4, r0 [0, 1, 2]), (5, r0 [6])], []⟩
noncomputable def f94_r0 (c : CallF) : RF := rg [0, 1, 2] <| aX 6 (pM (cn (.str []))) <|
 aXZ
noncomputable def f94_r1 (c : CallF) : RF := rg [0, 1, 2, 8] <| aX 7 (pM 1) <|
 aX 8 (pB .eql 2 7 (cn (.int .i64 0))) <|
 aXZ
noncomputable def f94_r2 (c : CallF) : RF := rg [6] <| aX 9 (pM 0) <|
 aX 6 (pM 9) <|
 aXZ
noncomputable def f94_r3 (c : CallF) : RF := rg [0, 1, 2, 11] <| aX 10 (pM 0) <|
 aX 11 (pB .neq 9 10 (cn (.str []))) <|
 aXZ
noncomputable def f94_r4 (c : CallF) : RF := rg [0, 1, 2] <| aX 12 (pM 0) <|
 aX 13 (pB .add 9 12 (cn (.str [32]))) <|
 aX 0 (pM 13) <|
 aXZ
noncomputable def f94_r5 (c : CallF) : RF := rg [6] <| aX 14 (pM 0) <|
 aX 15 (pM 1) <|
 aX 16 (pK c false 139 [15]) <|
 aX 17 (pB .add 9 14 16) <|
 aX 18 (pM 2) <|
 aX 19 (pB .add 9 17 18) <|
 aX 6 (pM 19) <|
 aXZ
noncomputable def f94 (c : CallF) (k : Nat) : St :=
 (bSeq (bReg (f94_r0 c))
 (bSeq (bSeq (bReg (f94_r1 c))
 (bCond (.tmp 8) (bSeq (bReg (f94_r2 c))
 (bEx .ret)) (bEx .nrm)))
 (bSeq (bSeq (bReg (f94_r3 c))
 (bCond (.tmp 11) (bReg (f94_r4 c)) (bEx .nrm)))
 (bSeq (bReg (f94_r5 c))
 (bEx .ret)))))
theorem f94_eq (c : CallF) (k : Nat) : exec cx c 20 f94_an k (Tryd.f94.body.getD .skip) = f94 c k := by kernel_rfl
/-! ### f95: loop.example/g01263/impl.FirstFault -/
def f95_an : Ann := ⟨[(0, r0 [1]), (1, r0 [1, 9]), (2, r0 [2, 3]), (3, r0 [1, 11, 12, 13]), (4, r0 [1, 11, 12, 13, 14]), (5, r0 [1, 4, 5, 11, 12, 13]), (6, r0 [1, 4, 11, 12, 13, 29]), (7, r0 [2, 3]), (8, r0 [1, 11, 12, 13]), (9, r0 [1, 37]), (10, r0 [2, 3]), (11, r0 [2, 3])], [(4, [1, 11, 12, 13])]⟩
noncomputable def f95_r0 (c : CallF) : RF := rg [1] <| aX 1 (pBox 2 0) <|
 aX 2 (pM (cn (.int .i64 0))) <|
 aX 3 (pM (cn (.int .i64 0))) <|
 aXZ
noncomputable def f95_r1 (c : CallF) : RF := rg [1, 9] <| aX 6 (pF 0 1 1) <|
 aX 7 (pL false 1 6) <|
 aX 8 (pLen 38 7) <|
 aX 9 (pB .gtr 3 8 (cn (.int .i64 20))) <|
 aXZ
noncomputable def f95_r2 (c : CallF) : RF := rg [2, 3] <| aX 2 (pM (cn (.int .i64 0))) <|
 aX 3 (pM (cn (.int .i64 3))) <|
 aXZ
noncomputable def f95_r3 (c : CallF) : RF := rg [1, 11, 12, 13] <| aX 10 (pF 0 1 1) <|
 aX 11 (pL false 1 10) <|
 aX 12 (pLen 38 11) <|
 aX 13 (pM (cn (.int .i64 0))) <|
 aXZ
noncomputable def f95_r4 (c : CallF) : RF := rg [1, 11, 12, 13, 14] <| aX 14 (pB .lss 3 13 12) <|
 aXZ
noncomputable def f95_r5 (c : CallF) : RF := rg [1, 4, 5, 11, 12, 13] <| aX 15 (pM 13) <|
 aX 16 (pI 3 11 13) <|
 aX 17 (pL true 3 16) <|
 aX 5 (pAl 29 3) <|
 aX 4 (pM 15) <|
 aX0 (pS 3 5 17) <|
 aXZ
noncomputable def f95_r6 (c : CallF) : RF := rgD [1, 4, 11, 12, 13, 29] (aY 18 (pL true 3 5) <|
 aY 19 (pK c false 41 [18]) <|
 aY 20 (pU .not 19) <|
 aY 21 (pM 20) <|
 aY 22 (pG 21 false (pF 0 1 1)) <|
 aY 23 (pG 21 false (pL false 1 22)) <|
 aY 24 (pG 21 false (pM 4)) <|
 aY 25 (pG 21 false (fun n e M => keep (aSlice 3 none (some (eget e 24)) (eget e 23) M))) <|
 aY 26 (pG 21 false (pF 0 1 5)) <|
 aY 27 (pG 21 false (pL false 1 26)) <|
 aY 28 (pG 21 false (pK c false 140 [25, 27])) <|
 aY 29 (pP 21 (cn (.bool true)) 28) <|
 aYZ)
 (aXZ)
noncomputable def f95_r7 (c : CallF) : RF := rg [2, 3] <| aX 30 (pM 4) <|
 aX 2 (pM 30) <|
 aX 3 (pM (cn (.int .i64 0))) <|
 aXZ
noncomputable def f95_r8 (c : CallF) : RF := rg [1, 11, 12, 13] <| aX 31 (pB .add 3 13 (cn (.int .i64 1))) <|
 aX 13 (pM 31) <|
 aXZ
noncomputable def f95_r9 (c : CallF) : RF := rgD [1, 37] (aY 32 (pF 1 1 1) <|
 aY 33 (pL false 1 32) <|
 aY 34 (pF 0 1 1) <|
 aY 35 (pL false 1 34) <|
 aY 36 (pK c false 141 [35]) <|
 aY 37 (pB .neq 2 33 36) <|
 aYZ)
 (aXZ)
noncomputable def f95_r10 (c : CallF) : RF := rg [2, 3] <| aX 38 (pF 0 1 1) <|
 aX 39 (pL false 1 38) <|
 aX 40 (pLen 38 39) <|
 aX 2 (pM 40) <|
 aX 3 (pM (cn (.int .i64 0))) <|
 aXZ
noncomputable def f95_r11 (c : CallF) : RF := rg [2, 3] <| aX 2 (pM (cn (.int .i64 0))) <|
 aX 3 (pM (cn (.int .i64 6))) <|
 aXZ
noncomputable def f95_l4 (c : CallF) (k : Nat) : St :=
 (bSeq (bReg (f95_r4 c))
 (bSeq (bCond (.tmp 14) (bEx .nrm) (bEx (.ext 0)))
 (bSeq (bBlock 1 (bSeq (bReg (f95_r5 c))
 (bSeq (bReg (f95_r6 c))
 (bCond (.tmp 29) (bSeq (bReg (f95_r7 c))
 (bEx .ret)) (bEx .nrm)))))
 (bReg (f95_r8 c)))))
noncomputable def f95 (c : CallF) (k : Nat) : St :=
 (bSeq (bReg (f95_r0 c))
 (bSeq (bSeq (bReg (f95_r1 c))
 (bCond (.tmp 9) (bSeq (bReg (f95_r2 c))
 (bEx .ret)) (bEx .nrm)))
 (bSeq (bSeq (bReg (f95_r3 c))
 (bBlock 0 (bLoop [1, 11, 12, 13] (f95_l4 c k) k)))
 (bSeq (bSeq (bReg (f95_r9 c))
 (bCond (.tmp 37) (bSeq (bReg (f95_r10 c))
 (bEx .ret)) (bEx .nrm)))
 (bSeq (bReg (f95_r11 c))
 (bEx .ret))))))
theorem f95_eq (c : CallF) (k : Nat) : exec cx c 41 f95_an k (Tryd.f95.body.getD .skip) = f95 c k := by kernel_rfl
/-! ### f110: loop.example/g01263/spec.l05Title -/
def f110_an : Ann := ⟨[(0, r0 [0]), (1, r0 [0, 3]), (2, r0 [0, 3, 7]), (3, r0 [0, 3]), (4, r0 [0, 3, 19]), (5, r0 [2]), (6, r0 [2])], [(2, [0, 3])]⟩
noncomputable def f110_r0 (c : CallF) : RF := rg [0] <| aX 2 (pM (cn (.bool false))) <|
 aXZ
noncomputable def f110_r1 (c : CallF) : RF := rg [0, 3] <| aX 3 (pM (cn (.int .i64 0))) <|
 aXZ
noncomputable def f110_r2 (c : CallF) : RF := rg [0, 3, 7] <| aX 4 (pM 3) <|
 aX 5 (pM 0) <|
 aX 6 (pLen 9 5) <|
 aX 7 (pB .lss 3 4 6) <|
 aXZ
noncomputable def f110_r3 (c : CallF) : RF := rg [0, 3] <| aX 8 (pM 3) <|
 aX 9 (pB .add 3 8 (cn (.int .i64 1))) <|
 aX 3 (pM 9) <|
 aXZ
noncomputable def f110_r4 (c : CallF) : RF := rg [0, 3, 19] <| aX 10 (pM 0) <|
 aX 11 (pM 3) <|
 aX 12 (fun n e M => keep (aIndexB (eget e 10) (eget e 11))) <|
 aX 13 (pB .lss 5 12 (cn (.int .u8 97))) <|
 aX 14 (pM 13) <|
 aX 15 (pG 14 false (pM 0)) <|
 aX 16 (pG 14 false (pM 3)) <|
 aX 17 (pG 14 false (fun n e M => keep (aIndexB (eget e 15) (eget e 16)))) <|
 aX 18 (pG 14 false (pB .gtr 5 17 (cn (.int .u8 122)))) <|
 aX 19 (pP 14 (cn (.bool true)) 18) <|
 aXZ
noncomputable def f110_r5 (c : CallF) : RF := rg [2] <| aX 2 (pM (cn (.bool false))) <|
 aXZ
noncomputable def f110_r6 (c : CallF) : RF := rg [2] <| aX 20 (pM 0) <|
 aX 21 (pLen 9 20) <|
 aX 22 (pK c false 84 [21, (cn (.int .i64 1)), (cn (.int .i64 16))]) <|
 aX 2 (pM 22) <|
 aXZ
noncomputable def f110_l2 (c : CallF) (k : Nat) : St :=
 (bSeq (bSeq (bReg (f110_r2 c))
 (bCond (.tmp 7) (bEx .nrm) (bEx (.ext 0))))
 (bSeq (bBlock 1 (bSeq (bReg (f110_r4 c))
 (bCond (.tmp 19) (bSeq (bReg (f110_r5 c))
 (bEx .ret)) (bEx .nrm))))
 (bReg (f110_r3 c))))
noncomputable def f110 (c : CallF) (k : Nat) : St :=
 (bSeq (bReg (f110_r0 c))
 (bSeq (bSeq (bReg (f110_r1 c))
 (bBlock 0 (bLoop [0, 3] (f110_l2 c k) k)))
 (bSeq (bReg (f110_r6 c))
 (bEx .ret))))
theorem f110_eq (c : CallF) (k : Nat) : exec cx c 23 f110_an k (Tryd.f110.body.getD .skip) = f110 c k := by kernel_rfl
/-! ### f112: loop.example/g01263/spec.l05Items -/
def f112_an : Ann := ⟨[(0, r0 [0]), (1, r0 [0, 6]), (2, r0 [2]), (3, r0 [0, 3]), (4, r0 [0, 3, 10]), (5, r0 [0, 3]), (6, r0 [0, 3, 17]), (7, r0 [2]), (8, r0 [2])], [(4, [0, 3])]⟩
noncomputable def f112_r0 (c : CallF) : RF := rg [0] <| aX 2 (pM (cn (.bool false))) <|
 aXZ
noncomputable def f112_r1 (c : CallF) : RF := rg [0, 6] <| aX 4 (pM 0) <|
 aX 5 (pLen 27 4) <|
 aX 6 (pB .gtr 3 5 (cn (.int .i64 40))) <|
 aXZ
noncomputable def f112_r2 (c : CallF) : RF := rg [2] <| aX 2 (pM (cn (.bool false))) <|
 aXZ
noncomputable def f112_r3 (c : CallF) : RF := rg [0, 3] <| aX 3 (pM (cn (.int .i64 0))) <|
 aXZ
noncomputable def f112_r4 (c : CallF) : RF := rg [0, 3, 10] <| aX 7 (pM 3) <|
 aX 8 (pM 0) <|
 aX 9 (pLen 27 8) <|
 aX 10 (pB .lss 3 7 9) <|
 aXZ
noncomputable def f112_r5 (c : CallF) : RF := rg [0, 3] <| aX 11 (pM 3) <|
 aX 12 (pB .add 3 11 (cn (.int .i64 1))) <|
 aX 3 (pM 12) <|
 aXZ
noncomputable def f112_r6 (c : CallF) : RF := rg [0, 3, 17] <| aX 13 (pM 0) <|
 aX 14 (pM 3) <|
 aX 15 (pI 2 13 14) <|
 aX 16 (pK c false 151 [15]) <|
 aX 17 (pU .not 16) <|
 aXZ
noncomputable def f112_r7 (c : CallF) : RF := rg [2] <| aX 2 (pM (cn (.bool false))) <|
 aXZ
noncomputable def f112_r8 (c : CallF) : RF := rg [2] <| aX 2 (pM (cn (.bool true))) <|
 aXZ
noncomputable def f112_l4 (c : CallF) (k : Nat) : St :=
 (bSeq (bSeq (bReg (f112_r4 c))
 (bCond (.tmp 10) (bEx .nrm) (bEx (.ext 0))))
 (bSeq (bBlock 1 (bSeq (bReg (f112_r6 c))
 (bCond (.tmp 17) (bSeq (bReg (f112_r7 c))
 (bEx .ret)) (bEx .nrm))))
 (bReg (f112_r5 c))))
noncomputable def f112 (c : CallF) (k : Nat) : St :=
 (bSeq (bReg (f112_r0 c))
 (bSeq (bSeq (bReg (f112_r1 c))
 (bCond (.tmp 6) (bSeq (bReg (f112_r2 c))
 (bEx .ret)) (bEx .nrm)))
 (bSeq (bSeq (bReg (f112_r3 c))
 (bBlock 0 (bLoop [0, 3] (f112_l4 c k) k)))
 (bSeq (bReg (f112_r8 c))
 (bEx .ret)))))
theorem f112_eq (c : CallF) (k : Nat) : exec cx c 18 f112_an k (Tryd.f112.body.getD .skip) = f112 c k := by kernel_rfl
/-! ### f131: loop.example/g01263/spec.l05Balance -/
def f131_an : Ann := ⟨[(0, r0 [0]), (1, r0 [0, 3]), (2, r0 [0, 3, 4]), (3, r0 [0, 3, 4, 8]), (4, r0 [0, 3, 4]), (5, r0 [0, 3, 4, 24]), (6, r0 [0, 3, 4]), (7, r0 [0, 3, 4]), (8, r0 [2])], [(3, [0, 3, 4])]⟩
noncomputable def f131_r0 (c : CallF) : RF := rg [0] <| aX 2 (pM (cn (.int .i64 0))) <|
 aXZ
noncomputable def f131_r1 (c : CallF) : RF := rg [0, 3] <| aX 3 (pM (cn (.int .i64 0))) <|
 aXZ
noncomputable def f131_r2 (c : CallF) : RF := rg [0, 3, 4] <| aX 4 (pM (cn (.int .i64 0))) <|
 aXZ
noncomputable def f131_r3 (c : CallF) : RF := rg [0, 3, 4, 8] <| aX 5 (pM 4) <|
 aX 6 (pM 0) <|
 aX 7 (pLen 27 6) <|
 aX 8 (pB .lss 3 5 7) <|
 aXZ
noncomputable def f131_r4 (c : CallF) : RF := rg [0, 3, 4] <| aX 9 (pM 4) <|
 aX 10 (pB .add 3 9 (cn (.int .i64 1))) <|
 aX 4 (pM 10) <|
 aXZ
noncomputable def f131_r5 (c : CallF) : RF := rg [0, 3, 4, 24] <| aX 11 (pM 0) <|
 aX 12 (pM 4) <|
 aX 13 (pI 2 11 12) <|
 aX 14 (pF 0 1 13) <|
 aX 15 (pL false 1 14) <|
 aX 16 (pB .eql 45 15 (cn (.int .i8 0))) <|
 aX 17 (pM 16) <|
 aX 18 (pG 17 false (pM 0)) <|
 aX 19 (pG 17 false (pM 4)) <|
 aX 20 (pG 17 false (pI 2 18 19)) <|
 aX 21 (pG 17 false (pF 0 1 20)) <|
 aX 22 (pG 17 false (pL false 1 21)) <|
 aX 23 (pG 17 false (pB .eql 45 22 (cn (.int .i8 1)))) <|
 aX 24 (pP 17 (cn (.bool true)) 23) <|
 aXZ
noncomputable def f131_r6 (c : CallF) : RF := rg [0, 3, 4] <| aX 25 (pM 3) <|
 aX 26 (pM 0) <|
 aX 27 (pM 4) <|
 aX 28 (pI 2 26 27) <|
 aX 29 (pF 1 1 28) <|
 aX 30 (pL false 1 29) <|
 aX 31 (pB .add 2 25 30) <|
 aX 3 (pM 31) <|
 aXZ
noncomputable def f131_r7 (c : CallF) : RF := rg [0, 3, 4] <| aX 32 (pM 3) <|
 aX 33 (pM 0) <|
 aX 34 (pM 4) <|
 aX 35 (pI 2 33 34) <|
 aX 36 (pF 1 1 35) <|
 aX 37 (pL false 1 36) <|
 aX 38 (pB .sub 2 32 37) <|
 aX 3 (pM 38) <|
 aXZ
noncomputable def f131_r8 (c : CallF) : RF := rg [2] <| aX 39 (pM 3) <|
 aX 2 (pM 39) <|
 aXZ
noncomputable def f131_l3 (c : CallF) (k : Nat) : St :=
 (bSeq (bSeq (bReg (f131_r3 c))
 (bCond (.tmp 8) (bEx .nrm) (bEx (.ext 0))))
 (bSeq (bBlock 1 (bSeq (bReg (f131_r5 c))
 (bCond (.tmp 24) (bReg (f131_r6 c)) (bReg (f131_r7 c)))))
 (bReg (f131_r4 c))))
noncomputable def f131 (c : CallF) (k : Nat) : St :=
 (bSeq (bReg (f131_r0 c))
 (bSeq (bReg (f131_r1 c))
 (bSeq (bSeq (bReg (f131_r2 c))
 (bBlock 0 (bLoop [0, 3, 4] (f131_l3 c k) k)))
 (bSeq (bReg (f131_r8 c))
 (bEx .ret)))))
theorem f131_eq (c : CallF) (k : Nat) : exec cx c 40 f131_an k (Tryd.f131.body.getD .skip) = f131 c k := by kernel_rfl
/-! ### f132: loop.example/g01263/impl.validItem -/
def f132_an : Ann := ⟨[(0, r0 [1]), (1, r0 [2])], []⟩
noncomputable def f132_r0 (c : CallF) : RF := rg [1] <| aX 1 (pBox 2 0) <|
 aX 2 (pM (cn (.bool false))) <|
 aXZ
noncomputable def f132_r1 (c : CallF) : RF := rg [2] <| aX 3 (pF 0 1 1) <|
 aX 4 (pL false 1 3) <|
 aX 5 (pB .geq 45 4 (cn (.int .i8 0))) <|
 aX 6 (pM 5) <|
 aX 7 (pG 6 true (pF 0 1 1)) <|
 aX 8 (pG 6 true (pL false 1 7)) <|
 aX 9 (pG 6 true (pB .leq 45 8 (cn (.int .i8 3)))) <|
 aX 10 (pP 6 9 (cn (.bool false))) <|
 aX 11 (pM 10) <|
 aX 12 (pG 11 true (pF 1 1 1)) <|
 aX 13 (pG 11 true (pL false 1 12)) <|
 aX 14 (pG 11 true (pK c false 42 [13])) <|
 aX 15 (pP 11 14 (cn (.bool false))) <|
 aX 2 (pM 15) <|
 aXZ
noncomputable def f132 (c : CallF) (k : Nat) : St :=
 (bSeq (bReg (f132_r0 c))
 (bSeq (bReg (f132_r1 c))
 (bEx .ret)))
theorem f132_eq (c : CallF) (k : Nat) : exec cx c 16 f132_an k (Tryd.f132.body.getD .skip) = f132 c k := by kernel_rfl
/-! ### f137: loop.example/g01263/spec.l05Twin -/
def f137_an : Ann := ⟨[(0, r0 [0, 1]), (1, r0 [0, 1, 5]), (2, r0 [0, 1, 5, 8]), (3, r0 [0, 1, 5]), (4, r0 [0, 1, 5, 21]), (5, r0 [4]), (6, r0 [4])], [(2, [0, 1, 5])]⟩
noncomputable def f137_r0 (c : CallF) : RF := rg [0, 1] <| aX 4 (pM (cn (.bool false))) <|
 aXZ
noncomputable def f137_r1 (c : CallF) : RF := rg [0, 1, 5] <| aX 5 (pM (cn (.int .i64 0))) <|
 aXZ
noncomputable def f137_r2 (c : CallF) : RF := rg [0, 1, 5, 8] <| aX 6 (pM 5) <|
 aX 7 (pM 1) <|
 aX 8 (pB .lss 3 6 7) <|
 aXZ
noncomputable def f137_r3 (c : CallF) : RF := rg [0, 1, 5] <| aX 9 (pM 5) <|
 aX 10 (pB .add 3 9 (cn (.int .i64 1))) <|
 aX 5 (pM 10) <|
 aXZ
noncomputable def f137_r4 (c : CallF) : RF := rgD [0, 1, 5, 21] (aY 11 (pM 0) <|
 aY 12 (pM 5) <|
 aY 13 (pI 3 11 12) <|
 aY 14 (pF 0 1 13) <|
 aY 15 (pL false 1 14) <|
 aY 16 (pM 0) <|
 aY 17 (pM 1) <|
 aY 18 (pI 3 16 17) <|
 aY 19 (pF 0 1 18) <|
 aY 20 (pL false 1 19) <|
 aY 21 (pB .eql 9 15 20) <|
 aYZ)
 (aXZ)
noncomputable def f137_r5 (c : CallF) : RF := rg [4] <| aX 4 (pM (cn (.bool true))) <|
 aXZ
noncomputable def f137_r6 (c : CallF) : RF := rg [4] <| aX 4 (pM (cn (.bool false))) <|
 aXZ
noncomputable def f137_l2 (c : CallF) (k : Nat) : St :=
 (bSeq (bSeq (bReg (f137_r2 c))
 (bCond (.tmp 8) (bEx .nrm) (bEx (.ext 0))))
 (bSeq (bBlock 1 (bSeq (bReg (f137_r4 c))
 (bCond (.tmp 21) (bSeq (bReg (f137_r5 c))
 (bEx .ret)) (bEx .nrm))))
 (bReg (f137_r3 c))))
noncomputable def f137 (c : CallF) (k : Nat) : St :=
 (bSeq (bReg (f137_r0 c))
 (bSeq (bSeq (bReg (f137_r1 c))
 (bBlock 0 (bLoop [0, 1, 5] (f137_l2 c k) k)))
 (bSeq (bReg (f137_r6 c))
 (bEx .ret))))
theorem f137_eq (c : CallF) (k : Nat) : exec cx c 22 f137_an k (Tryd.f137.body.getD .skip) = f137 c k := by kernel_rfl
/-! ### f138: loop.example/g01263/spec.l05Owed -/
def f138_an : Ann := ⟨[(0, r0 [0]), (1, r0 [0, 3]), (2, r0 [0, 3, 4]), (3, r0 [0, 3, 4, 8]), (4, r0 [0, 3, 4]), (5, r0 [0, 3, 4]), (6, r0 [2])], [(3, [0, 3, 4])]⟩
noncomputable def f138_r0 (c : CallF) : RF := rg [0] <| aX 2 (pM (cn (.int .i64 0))) <|
 aXZ
noncomputable def f138_r1 (c : CallF) : RF := rg [0, 3] <| aX 3 (pM (cn (.int .i64 0))) <|
 aXZ
noncomputable def f138_r2 (c : CallF) : RF := rg [0, 3, 4] <| aX 4 (pM (cn (.int .i64 0))) <|
 aXZ
noncomputable def f138_r3 (c : CallF) : RF := rg [0, 3, 4, 8] <| aX 5 (pM 4) <|
 aX 6 (pM 0) <|
 aX 7 (pLen 38 6) <|
 aX 8 (pB .lss 3 5 7) <|
 aXZ
noncomputable def f138_r4 (c : CallF) : RF := rg [0, 3, 4] <| aX 9 (pM 4) <|
 aX 10 (pB .add 3 9 (cn (.int .i64 1))) <|
 aX 4 (pM 10) <|
 aXZ
noncomputable def f138_r5 (c : CallF) : RF := rg [0, 3, 4] <| aX 11 (pM 3) <|
 aX 12 (pM 0) <|
 aX 13 (pM 4) <|
 aX 14 (pI 3 12 13) <|
 aX 15 (pF 2 1 14) <|
 aX 16 (pL false 1 15) <|
 aX 17 (pK c false 165 [16, (cn (.int .i64 0))]) <|
 aX 18 (pB .add 2 11 17) <|
 aX 3 (pM 18) <|
 aXZ
noncomputable def f138_r6 (c : CallF) : RF := rg [2] <| aX 19 (pM 3) <|
 aX 2 (pM 19) <|
 aXZ
noncomputable def f138_l3 (c : CallF) (k : Nat) : St :=
 (bSeq (bSeq (bReg (f138_r3 c))
 (bCond (.tmp 8) (bEx .nrm) (bEx (.ext 0))))
 (bSeq (bBlock 1 (bReg (f138_r5 c)))
 (bReg (f138_r4 c))))
noncomputable def f138 (c : CallF) (k : Nat) : St :=
 (bSeq (bReg (f138_r0 c))
 (bSeq (bReg (f138_r1 c))
 (bSeq (bSeq (bReg (f138_r2 c))
 (bBlock 0 (bLoop [0, 3, 4] (f138_l3 c k) k)))
 (bSeq (bReg (f138_r6 c))
 (bEx .ret)))))
theorem f138_eq (c : CallF) (k : Nat) : exec cx c 20 f138_an k (Tryd.f138.body.getD .skip) = f138 c k := by kernel_rfl
/-! ### f139: loop.example/g01263/spec.Decimal -/
def f139_an : Ann := ⟨[(0, r0 [0]), (1, r0 [0, 4]), (2, r0 [2]), (3, r0 [2])], []⟩
noncomputable def f139_r0 (c : CallF) : RF := rg [0] <| aX 2 (pM (cn (.str []))) <|
 aXZ
noncomputable def f139_r1 (c : CallF) : RF := rg [0, 4] <| aX 3 (pM 0) <|
 aX 4 (pB .lss 2 3 (cn (.int .i64 10))) <|
 aXZ
noncomputable def f139_r2 (c : CallF) : RF := rg [2] <| aX 5 (pM 0) <|
 aX 6 (pB .rem 2 5 (cn (.int .i64 10))) <|
 aX 7 (pB .add 2 (cn (.int .i64 48)) 6) <|
 aX 8 (fun n e M => keep (aConvI .u8 (eget e 7))) <|
 aX 9 (fun n e M => keep (aLitI 5 1 [(eget e 8)] M)) <|
 aX 10 (fun n e M => keep (aConvB (eget e 9) M)) <|
 aX 2 (pM 10) <|
 aXZ
noncomputable def f139_r3 (c : CallF) : RF := rgD [2] (aY 11 (pM 0) <|
 aY 12 (pB .quo 2 11 (cn (.int .i64 10))) <|
 aY 13 (pK c false 139 [12]) <|
 aY 14 (pM 0) <|
 aY 15 (pB .rem 2 14 (cn (.int .i64 10))) <|
 aY 16 (pB .add 2 (cn (.int .i64 48)) 15) <|
 aY 17 (fun n e M => keep (aConvI .u8 (eget e 16))) <|
 aY 18 (fun n e M => keep (aLitI 5 1 [(eget e 17)] M)) <|
 aY 19 (fun n e M => keep (aConvB (eget e 18) M)) <|
 aY 20 (pB .add 9 13 19) <|
 aY 2 (pM 20) <|
 aYZ)
 (aXZ)
noncomputable def f139 (c : CallF) (k : Nat) : St :=
 (bSeq (bReg (f139_r0 c))
 (bSeq (bSeq (bReg (f139_r1 c))
 (bCond (.tmp 4) (bSeq (bReg (f139_r2 c))
 (bEx .ret)) (bEx .nrm)))
 (bSeq (bReg (f139_r3 c))
 (bEx .ret))))
theorem f139_eq (c : CallF) (k : Nat) : exec cx c 21 f139_an k (Tryd.f139.body.getD .skip) = f139 c k := by kernel_rfl
/-! ### f140: loop.example/g01263/impl.hasTitle -/
def f140_an : Ann := ⟨[(0, r0 [0, 3]), (1, r0 [4])], []⟩
noncomputable def f140_r0 (c : CallF) : RF := rg [0, 3] <| aX 3 (pBox 1 1) <|
 aX 4 (pM (cn (.bool false))) <|
 aXZ
noncomputable def f140_r1 (c : CallF) : RF := rg [4] <| aX 5 (pM 0) <|
 aX 6 (pM (fun e => (.fn 167 [(eget e 3)]))) <|
 aX 7 (pK c false 166 [5, 6]) <|
 aX 4 (pM 7) <|
 aXZ
noncomputable def f140 (c : CallF) (k : Nat) : St :=
 (bSeq (bReg (f140_r0 c))
 (bSeq (bReg (f140_r1 c))
 (bEx .ret)))
theorem f140_eq (c : CallF) (k : Nat) : exec cx c 8 f140_an k (Tryd.f140.body.getD .skip) = f140 c k := by kernel_rfl
/-! ### f141: loop.example/g01263/impl.owed -/
def f141_an : Ann := ⟨[(0, r0 [0]), (1, r0 [0, 3]), (2, r0 [3, 6, 7, 8]), (3, r0 [3, 6, 7, 8, 9]), (4, r0 [3, 5, 6, 7, 8]), (5, r0 [3, 6, 7, 8]), (6, r0 [3, 6, 7, 8]), (7, r0 [2])], [(3, [3, 6, 7, 8])]⟩
noncomputable def f141_r0 (c : CallF) : RF := rg [0] <| aX 2 (pM (cn (.int .i64 0))) <|
 aXZ
noncomputable def f141_r1 (c : CallF) : RF := rg [0, 3] <| aX 3 (pM (cn (.int .i64 0))) <|
 aXZ
noncomputable def f141_r2 (c : CallF) : RF := rg [3, 6, 7, 8] <| aX 6 (pM 0) <|
 aX 7 (pLen 38 6) <|
 aX 8 (pM (cn (.int .i64 0))) <|
 aXZ
noncomputable def f141_r3 (c : CallF) : RF := rg [3, 6, 7, 8, 9] <| aX 9 (pB .lss 3 8 7) <|
 aXZ
noncomputable def f141_r4 (c : CallF) : RF := rg [3, 5, 6, 7, 8] <| aX 10 (pI 3 6 8) <|
 aX 11 (pL true 3 10) <|
 aX 5 (pAl 29 3) <|
 aX0 (pS 3 5 11) <|
 aXZ
noncomputable def f141_r5 (c : CallF) : RF := rg [3, 6, 7, 8] <| aX 12 (pM 3) <|
 aX 13 (pF 2 1 5) <|
 aX 14 (pL false 1 13) <|
 aX 15 (fun n e M => keep (aMax true (eget e 14) (.int .i64 0))) <|
 aX 16 (pB .add 2 12 15) <|
 aX 3 (pM 16) <|
 aXZ
noncomputable def f141_r6 (c : CallF) : RF := rg [3, 6, 7, 8] <| aX 17 (pB .add 3 8 (cn (.int .i64 1))) <|
 aX 8 (pM 17) <|
 aXZ
noncomputable def f141_r7 (c : CallF) : RF := rg [2] <| aX 18 (pM 3) <|
 aX 2 (pM 18) <|
 aXZ
noncomputable def f141_l3 (c : CallF) (k : Nat) : St :=
 (bSeq (bReg (f141_r3 c))
 (bSeq (bCond (.tmp 9) (bEx .nrm) (bEx (.ext 0)))
 (bSeq (bBlock 1 (bSeq (bReg (f141_r4 c))
 (bReg (f141_r5 c))))
 (bReg (f141_r6 c)))))
noncomputable def f141 (c : CallF) (k : Nat) : St :=
 (bSeq (bReg (f141_r0 c))
 (bSeq (bReg (f141_r1 c))
 (bSeq (bSeq (bReg (f141_r2 c))
 (bBlock 0 (bLoop [3, 6, 7, 8] (f141_l3 c k) k)))
 (bSeq (bReg (f141_r7 c))
 (bEx .ret)))))
theorem f141_eq (c : CallF) (k : Nat) : exec cx c 19 f141_an k (Tryd.f141.body.getD .skip) = f141 c k := by kernel_rfl
/-! ### f151: loop.example/g01263/spec.l05Item -/
def f151_an : Ann := ⟨[(0, r0 [0]), (1, r0 [2])], []⟩
noncomputable def f151_r0 (c : CallF) : RF := rg [0] <| aX 2 (pM (cn (.bool false))) <|
 aXZ
noncomputable def f151_r1 (c : CallF) : RF := rg [2] <| aX 3 (pM 0) <|
 aX 4 (pN 3) <|
 aX 5 (pF 0 1 4) <|
 aX 6 (pL false 1 5) <|
 aX 7 (fun n e M => keep (aConvI .i64 (eget e 6))) <|
 aX 8 (pK c false 84 [7, (cn (.int .i64 0)), (cn (.int .i64 3))]) <|
 aX 9 (pM 8) <|
 aX 10 (pG 9 true (pM 0)) <|
 aX 11 (pG 9 true (pN 10)) <|
 aX 12 (pG 9 true (pF 1 1 11)) <|
 aX 13 (pG 9 true (pL false 1 12)) <|
 aX 14 (pG 9 true (pK c false 49 [13])) <|
 aX 15 (pP 9 14 (cn (.bool false))) <|
 aX 2 (pM 15) <|
 aXZ
noncomputable def f151 (c : CallF) (k : Nat) : St :=
 (bSeq (bReg (f151_r0 c))
 (bSeq (bReg (f151_r1 c))
 (bEx .ret)))
theorem f151_eq (c : CallF) (k : Nat) : exec cx c 16 f151_an k (Tryd.f151.body.getD .skip) = f151 c k := by kernel_rfl
/-! ### f165: loop.example/g01263/spec.l00Max -/
def f165_an : Ann := ⟨[(0, r0 [0, 1]), (1, r0 [0, 1, 7]), (2, r0 [4]), (3, r0 [4])], []⟩
noncomputable def f165_r0 (c : CallF) : RF := rg [0, 1] <| aX 4 (pM (cn (.int .i64 0))) <|
 aXZ
noncomputable def f165_r1 (c : CallF) : RF := rg [0, 1, 7] <| aX 5 (pM 0) <|
 aX 6 (pM 1) <|
 aX 7 (pB .gtr 2 5 6) <|
 aXZ
noncomputable def f165_r2 (c : CallF) : RF := rg [4] <| aX 8 (pM 0) <|
 aX 4 (pM 8) <|
 aXZ
noncomputable def f165_r3 (c : CallF) : RF := rg [4] <| aX 9 (pM 1) <|
 aX 4 (pM 9) <|
 aXZ
noncomputable def f165 (c : CallF) (k : Nat) : St :=
 (bSeq (bReg (f165_r0 c))
 (bSeq (bSeq (bReg (f165_r1 c))
 (bCond (.tmp 7) (bSeq (bReg (f165_r2 c))
 (bEx .ret)) (bEx .nrm)))
 (bSeq (bReg (f165_r3 c))
 (bEx .ret))))
theorem f165_eq (c : CallF) (k : Nat) : exec cx c 10 f165_an k (Tryd.f165.body.getD .skip) = f165 c k := by kernel_rfl
/-! ### f166: slices.ContainsFunc[[]loop.example/g01263/impl.Account,loop.example/g01263/impl.Account] -/
def f166_an : Ann := ⟨[(0, r0 [0, 1]), (1, r0 [4])], []⟩
noncomputable def f166_r0 (c : CallF) : RF := rg [0, 1] <| aX 4 (pM (cn (.bool false))) <|
 aXZ
noncomputable def f166_r1 (c : CallF) : RF := rg [4] <| aX 5 (pM 0) <|
 aX 6 (pM 1) <|
 aX 7 (pK c false 185 [5, 6]) <|
 aX 8 (pB .geq 3 7 (cn (.int .i64 0))) <|
 aX 4 (pM 8) <|
 aXZ
noncomputable def f166 (c : CallF) (k : Nat) : St :=
 (bSeq (bReg (f166_r0 c))
 (bSeq (bReg (f166_r1 c))
 (bEx .ret)))
theorem f166_eq (c : CallF) (k : Nat) : exec cx c 9 f166_an k (Tryd.f166.body.getD .skip) = f166 c k := by kernel_rfl
/-! ### f167: loop.example/g01263/impl.hasTitle$1 -/
def f167_an : Ann := ⟨[(0, r0 [1, 2]), (1, r0 [3])], []⟩
noncomputable def f167_r0 (c : CallF) : RF := rg [1, 2] <| aX 2 (pBox 3 0) <|
 aX 3 (pM (cn (.bool false))) <|
 aXZ
noncomputable def f167_r1 (c : CallF) : RF := rg [3] <| aX 4 (pF 0 1 2) <|
 aX 5 (pL false 1 4) <|
 aX 6 (pL false 1 1) <|
 aX 7 (pB .eql 9 5 6) <|
 aX 3 (pM 7) <|
 aXZ
noncomputable def f167 (c : CallF) (k : Nat) : St :=
 (bSeq (bReg (f167_r0 c))
 (bSeq (bReg (f167_r1 c))
 (bEx .ret)))
theorem f167_eq (c : CallF) (k : Nat) : exec cx c 8 f167_an k (Tryd.f167.body.getD .skip) = f167 c k := by kernel_rfl
/-! ### f185: slices.IndexFunc[[]loop.example/g01263/impl.Account,loop.example/g01263/impl.Account] -/
def f185_an : Ann := ⟨[(0, r0 [0, 1]), (1, r0 [0, 1, 7, 8]), (2, r0 [0, 1, 7, 8, 9]), (3, r0 [0, 1, 5, 7, 8]), (4, r0 [0, 1, 5, 7, 8, 16]), (5, r0 [4]), (6, r0 [0, 1, 7, 8]), (7, r0 [4])], [(2, [0, 1, 7, 8])]⟩
noncomputable def f185_r0 (c : CallF) : RF := rg [0, 1] <| aX 4 (pM (cn (.int .i64 0))) <|
 aXZ
noncomputable def f185_r1 (c : CallF) : RF := rg [0, 1, 7, 8] <| aX 6 (pM 0) <|
 aX 7 (pLen 38 6) <|
 aX 8 (pM (cn (.int .i64 0))) <|
 aXZ
noncomputable def f185_r2 (c : CallF) : RF := rg [0, 1, 7, 8, 9] <| aX 9 (pB .lss 3 8 7) <|
 aXZ
noncomputable def f185_r3 (c : CallF) : RF := rg [0, 1, 5, 7, 8] <| aX 10 (pM 8) <|
 aX 5 (pM 10) <|
 aXZ
noncomputable def f185_r4 (c : CallF) : RF := rg [0, 1, 5, 7, 8, 16] <| aX 11 (pM 1) <|
 aX 12 (pM 0) <|
 aX 13 (pM 5) <|
 aX 14 (pI 3 12 13) <|
 aX 15 (pL true 3 14) <|
 aX 16 (fun n e M => oCall cx c false n (eget e 11) [(eget e 15)] M) <|
 aXZ
noncomputable def f185_r5 (c : CallF) : RF := rg [4] <| aX 17 (pM 5) <|
 aX 4 (pM 17) <|
 aXZ
noncomputable def f185_r6 (c : CallF) : RF := rg [0, 1, 7, 8] <| aX 18 (pB .add 3 8 (cn (.int .i64 1))) <|
 aX 8 (pM 18) <|
 aXZ
noncomputable def f185_r7 (c : CallF) : RF := rg [4] <| aX 4 (pM (cn (.int .i64 (-1)))) <|
 aXZ
noncomputable def f185_l2 (c : CallF) (k : Nat) : St :=
 (bSeq (bReg (f185_r2 c))
 (bSeq (bCond (.tmp 9) (bEx .nrm) (bEx (.ext 0)))
 (bSeq (bBlock 1 (bSeq (bReg (f185_r3 c))
 (bSeq (bReg (f185_r4 c))
 (bCond (.tmp 16) (bSeq (bReg (f185_r5 c))
 (bEx .ret)) (bEx .nrm)))))
 (bReg (f185_r6 c)))))
noncomputable def f185 (c : CallF) (k : Nat) : St :=
 (bSeq (bReg (f185_r0 c))
 (bSeq (bSeq (bReg (f185_r1 c))
 (bBlock 0 (bLoop [0, 1, 7, 8] (f185_l2 c k) k)))
 (bSeq (bReg (f185_r7 c))
 (bEx .ret))))
theorem f185_eq (c : CallF) (k : Nat) : exec cx c 19 f185_an k (Tryd.f185.body.getD .skip) = f185 c k := by kernel_rfl
def anns : List (Nat × Ann) := [(4, f4_an), (9, f9_an), (11, f11_an), (12, f12_an), (13, f13_an), (14, f14_an), (15, f15_an), (16, f16_an), (17, f17_an), (18, f18_an), (37, f37_an), (38, f38_an), (39, f39_an), (40, f40_an), (41, f41_an), (42, f42_an), (43, f43_an), (44, f44_an), (45, f45_an), (46, f46_an), (47, f47_an), (48, f48_an), (49, f49_an), (50, f50_an), (51, f51_an), (52, f52_an), (53, f53_an), (83, f83_an), (84, f84_an), (85, f85_an), (86, f86_an), (87, f87_an), (88, f88_an), (89, f89_an), (90, f90_an), (92, f92_an), (93, f93_an), (94, f94_an), (95, f95_an), (110, f110_an), (112, f112_an), (131, f131_an), (132, f132_an), (137, f137_an), (138, f138_an), (139, f139_an), (140, f140_an), (141, f141_an), (151, f151_an), (165, f165_an), (166, f166_an), (167, f167_an), (185, f185_an)]
noncomputable def CN0 : Nat → CallF := callN cx (Go.Ab.look anns) (fun _ _ _ => none) (fun _ => false)
def isP (f : Nat) : Bool := has [91, 133] f
noncomputable def primF : CallF := splitNil (callN cx (Go.Ab.look anns) (fun _ _ _ => none) (fun _ => false) 3)
noncomputable def CN : Nat → CallF := callN cx (Go.Ab.look anns) (withLib libT primF) isP
end Go.Proofs.YtbhbmgmnnkcmcaaDoor

/- Printed by a program of ours (ext.py). -/
import Derived.Test.YtkkmbehooldmjaaDoorAbLib
import Derived.Test.YtkkmbehooldmjaaDoorProg
set_option linter.unusedVariables false
set_option linter.unusedSimpArgs false
set_option maxRecDepth 100000
set_option maxHeartbeats 2000000
namespace Go.Proofs.YtkkmbehooldmjaaDoor
open Go Go.Ab
noncomputable def cx : Cx := ⟨Tryd.prog, fun f => has [] f⟩
noncomputable abbrev pB := pB_ cx.P
noncomputable abbrev pLen := pLen_ cx.P
noncomputable abbrev pAl := pAl_ cx.P
noncomputable abbrev pK := pK_ cx
/-! ### f3: loop.example/g01263/laws.FnExactDealsText -/
def f3_an : Ann := ⟨[(0, r0 [0]), (1, r0 [0, 3]), (2, r0 [0, 3]), (3, r0 [0, 11]), (4, r0 [2]), (5, r0 [0, 4]), (6, r0 [0, 4, 5]), (7, r0 [0, 4, 5, 6]), (8, r0 [0, 5, 21]), (9, r0 [2]), (10, r0 [26]), (11, r0 [2]), (12, r0 [2])], []⟩
noncomputable def f3_r0 (c : CallF) : RF := rg [0] <| aX 2 (pM (cn (.bool false))) <|
 aXZ
noncomputable def f3_r1 (c : CallF) : RF := rg [0, 3] <| aX 3 (pM (cn (.int .i64 1048576))) <|
 aXZ
noncomputable def f3_r2 (c : CallF) : RF := rg [0, 3] <| aX 7 (pM 0) <|
 aX 8 (pM 3) <|
 aX 9 (pK c false 4 [7, 8]) <|
 aX 3 (pM 9) <|
 aXZ
noncomputable def f3_r3 (c : CallF) : RF := rg [0, 11] <| aX 10 (pM 3) <|
 aX 11 (pB .lss 3 10 (cn (.int .i64 0))) <|
 aXZ
noncomputable def f3_r4 (c : CallF) : RF := rg [2] <| aX 2 (pM (cn (.bool true))) <|
 aXZ
noncomputable def f3_r5 (c : CallF) : RF := rg [0, 4] <| aX 12 (pM 0) <|
 aX 13 (pK c false 6 [12]) <|
 aX 14 (pK c false 5 [13]) <|
 aX 4 (pM 14) <|
 aXZ
noncomputable def f3_r6 (c : CallF) : RF := rg [0, 4, 5] <| aX 15 (pM 0) <|
 aX 16 (pK c false 6 [15]) <|
 aX 5 (pM 16) <|
 aXZ
noncomputable def f3_r7 (c : CallF) : RF := rg [0, 4, 5, 6] <| aX 17 (pM 5) <|
 aX 18 (pK c false 7 [17]) <|
 aX 6 (pM 18) <|
 aXZ
noncomputable def f3_r8 (c : CallF) : RF := rg [0, 5, 21] <| aX 19 (pM 6) <|
 aX 20 (pM 4) <|
 aX 21 (pB .neq 9 19 20) <|
 aXZ
noncomputable def f3_r9 (c : CallF) : RF := rg [2] <| aX 2 (pM (cn (.bool false))) <|
 aXZ
noncomputable def f3_r10 (c : CallF) : RF := rg [26] <| aX 22 (pM 5) <|
 aX 23 (pM 0) <|
 aX 24 (pK c false 6 [23]) <|
 aX 25 (pK c false 8 [22, 24]) <|
 aX 26 (pU .not 25) <|
 aXZ
noncomputable def f3_r11 (c : CallF) : RF := rg [2] <| aX 2 (pM (cn (.bool false))) <|
 aXZ
noncomputable def f3_r12 (c : CallF) : RF := rg [2] <| aX 2 (pM (cn (.bool true))) <|
 aXZ
noncomputable def f3 (c : CallF) (k : Nat) : St :=
 (bSeq (bReg (f3_r0 c))
 (bSeq (bReg (f3_r1 c))
 (bSeq (bReg (f3_r2 c))
 (bSeq (bSeq (bReg (f3_r3 c))
 (bCond (.tmp 11) (bSeq (bReg (f3_r4 c))
 (bEx .ret)) (bEx .nrm)))
 (bSeq (bReg (f3_r5 c))
 (bSeq (bReg (f3_r6 c))
 (bSeq (bReg (f3_r7 c))
 (bSeq (bSeq (bReg (f3_r8 c))
 (bCond (.tmp 21) (bSeq (bReg (f3_r9 c))
 (bEx .ret)) (bEx .nrm)))
 (bSeq (bSeq (bReg (f3_r10 c))
 (bCond (.tmp 26) (bSeq (bReg (f3_r11 c))
 (bEx .ret)) (bEx .nrm)))
 (bSeq (bReg (f3_r12 c))
 (bEx .ret)))))))))))
theorem f3_eq (c : CallF) (k : Nat) : exec cx c 27 f3_an k (Tryd.f3.body.getD .skip) = f3 c k := by kernel_rfl
/-! ### f4: loop.example/g01263/laws.szDealS -/
def f4_an : Ann := ⟨[(0, r0 [0, 1]), (1, r0 [1]), (2, r0 [1, 10]), (3, r0 [4]), (4, r0 [4])], []⟩
noncomputable def f4_r0 (c : CallF) : RF := rg [0, 1] <| aX 4 (pM (cn (.int .i64 0))) <|
 aXZ
noncomputable def f4_r1 (c : CallF) : RF := rg [1] <| aX 5 (pM 1) <|
 aX 6 (pM 0) <|
 aX 7 (pLen 22 6) <|
 aX 8 (pB .sub 3 5 7) <|
 aX 1 (pM 8) <|
 aXZ
noncomputable def f4_r2 (c : CallF) : RF := rg [1, 10] <| aX 9 (pM 1) <|
 aX 10 (pB .lss 3 9 (cn (.int .i64 0))) <|
 aXZ
noncomputable def f4_r3 (c : CallF) : RF := rg [4] <| aX 4 (pM (cn (.int .i64 (-1)))) <|
 aXZ
noncomputable def f4_r4 (c : CallF) : RF := rg [4] <| aX 11 (pM 1) <|
 aX 4 (pM 11) <|
 aXZ
noncomputable def f4 (c : CallF) (k : Nat) : St :=
 (bSeq (bReg (f4_r0 c))
 (bSeq (bReg (f4_r1 c))
 (bSeq (bSeq (bReg (f4_r2 c))
 (bCond (.tmp 10) (bSeq (bReg (f4_r3 c))
 (bEx .ret)) (bEx .nrm)))
 (bSeq (bReg (f4_r4 c))
 (bEx .ret)))))
theorem f4_eq (c : CallF) (k : Nat) : exec cx c 12 f4_an k (Tryd.f4.body.getD .skip) = f4 c k := by kernel_rfl
/-! ### f5: loop.example/g01263/spec.DealsText -/
def f5_an : Ann := ⟨[(0, r0 [0]), (1, r0 [0, 10]), (2, r0 [2]), (3, r0 [2])], []⟩
noncomputable def f5_r0 (c : CallF) : RF := rg [0] <| aX 2 (pM (cn (.str []))) <|
 aXZ
noncomputable def f5_r1 (c : CallF) : RF := rg [0, 10] <| aX 3 (pM 0) <|
 aX 4 (pK c false 9 [3]) <|
 aX 5 (pU .not 4) <|
 aX 6 (pM 5) <|
 aX 7 (pG 6 false (pM 0)) <|
 aX 8 (pG 6 false (pLen 25 7)) <|
 aX 9 (pG 6 false (pB .gtr 3 8 (cn (.int .i64 80)))) <|
 aX 10 (pP 6 (cn (.bool true)) 9) <|
 aXZ
noncomputable def f5_r2 (c : CallF) : RF := rg [2] <| aX 2 (pM (cn (.str []))) <|
 aXZ
noncomputable def f5_r3 (c : CallF) : RF := rg [2] <| aX 11 (pM 0) <|
 aX 12 (pK c false 10 [11]) <|
 aX 2 (pM 12) <|
 aXZ
noncomputable def f5 (c : CallF) (k : Nat) : St :=
 (bSeq (bReg (f5_r0 c))
 (bSeq (bSeq (bReg (f5_r1 c))
 (bCond (.tmp 10) (bSeq (bReg (f5_r2 c))
 (bEx .ret)) (bEx .nrm)))
 (bSeq (bReg (f5_r3 c))
 (bEx .ret))))
theorem f5_eq (c : CallF) (k : Nat) : exec cx c 13 f5_an k (Tryd.f5.body.getD .skip) = f5 c k := by kernel_rfl
/-! ### f6: loop.example/g01263/laws.toDealS -/
def f6_an : Ann := ⟨[(0, r0 [0]), (1, r0 [0, 3]), (2, r0 [0, 3, 4]), (3, r0 [0, 3, 4, 11]), (4, r0 [0, 3, 4]), (5, r0 [0, 3, 4]), (6, r0 [2])], [(3, [0, 3, 4])]⟩
noncomputable def f6_r0 (c : CallF) : RF := rg [0] <| aX 2 (pM (cn .nils)) <|
 aXZ
noncomputable def f6_r1 (c : CallF) : RF := rg [0, 3] <| aX 5 (pM 0) <|
 aX 6 (pLen 22 5) <|
 aX 7 (fun n e M => aMakeO n 32 6 48 (zeroOf cx.P 32) (eget e 6) (eget e 6)) <|
 aX 3 (pM 7) <|
 aXZ
noncomputable def f6_r2 (c : CallF) : RF := rg [0, 3, 4] <| aX 4 (pM (cn (.int .i64 0))) <|
 aXZ
noncomputable def f6_r3 (c : CallF) : RF := rg [0, 3, 4, 11] <| aX 8 (pM 4) <|
 aX 9 (pM 0) <|
 aX 10 (pLen 22 9) <|
 aX 11 (pB .lss 3 8 10) <|
 aXZ
noncomputable def f6_r4 (c : CallF) : RF := rg [0, 3, 4] <| aX 12 (pM 4) <|
 aX 13 (pB .add 3 12 (cn (.int .i64 1))) <|
 aX 4 (pM 13) <|
 aXZ
noncomputable def f6_r5 (c : CallF) : RF := rg [0, 3, 4] <| aX 14 (pM 3) <|
 aX 15 (pM 4) <|
 aX 16 (pM 0) <|
 aX 17 (pM 4) <|
 aX 18 (pI 6 16 17) <|
 aX 19 (pL true 6 18) <|
 aX 20 (pK c false 11 [19]) <|
 aX 21 (pI 6 14 15) <|
 aX0 (pS 6 21 20) <|
 aXZ
noncomputable def f6_r6 (c : CallF) : RF := rg [2] <| aX 22 (pM 3) <|
 aX 2 (pM 22) <|
 aXZ
noncomputable def f6_l3 (c : CallF) (k : Nat) : St :=
 (bSeq (bSeq (bReg (f6_r3 c))
 (bCond (.tmp 11) (bEx .nrm) (bEx (.ext 0))))
 (bSeq (bBlock 1 (bReg (f6_r5 c)))
 (bReg (f6_r4 c))))
noncomputable def f6 (c : CallF) (k : Nat) : St :=
 (bSeq (bReg (f6_r0 c))
 (bSeq (bReg (f6_r1 c))
 (bSeq (bSeq (bReg (f6_r2 c))
 (bBlock 0 (bLoop [0, 3, 4] (f6_l3 c k) k)))
 (bSeq (bReg (f6_r6 c))
 (bEx .ret)))))
theorem f6_eq (c : CallF) (k : Nat) : exec cx c 23 f6_an k (Tryd.f6.body.getD .skip) = f6 c k := by kernel_rfl
/-! ### f7: loop.example/g01263/impl.DealsText -/
def f7_an : Ann := ⟨[(0, r0 [0]), (1, r0 [0, 13]), (2, r0 [2]), (3, r0 [0, 3]), (4, r0 [3, 14, 15, 16]), (5, r0 [3, 14, 15, 16, 17]), (6, r0 [3, 5, 14, 15, 16]), (7, r0 [3, 14, 15, 16]), (8, r0 [3, 14, 15, 16]), (9, r0 [2])], [(5, [3, 14, 15, 16])]⟩
noncomputable def f7_r0 (c : CallF) : RF := rg [0] <| aX 2 (pM (cn (.str []))) <|
 aXZ
noncomputable def f7_r1 (c : CallF) : RF := rg [0, 13] <| aX 6 (pM 0) <|
 aX 7 (pK c false 12 [6]) <|
 aX 8 (pU .not 7) <|
 aX 9 (pM 8) <|
 aX 10 (pG 9 false (pM 0)) <|
 aX 11 (pG 9 false (pLen 25 10)) <|
 aX 12 (pG 9 false (pB .gtr 3 11 (cn (.int .i64 80)))) <|
 aX 13 (pP 9 (cn (.bool true)) 12) <|
 aXZ
noncomputable def f7_r2 (c : CallF) : RF := rg [2] <| aX 2 (pM (cn (.str []))) <|
 aXZ
noncomputable def f7_r3 (c : CallF) : RF := rg [0, 3] <| aX 3 (pM (cn (.str []))) <|
 aXZ
noncomputable def f7_r4 (c : CallF) : RF := rg [3, 14, 15, 16] <| aX 14 (pM 0) <|
 aX 15 (pLen 25 14) <|
 aX 16 (pM (cn (.int .i64 0))) <|
 aXZ
noncomputable def f7_r5 (c : CallF) : RF := rg [3, 14, 15, 16, 17] <| aX 17 (pB .lss 3 16 15) <|
 aXZ
noncomputable def f7_r6 (c : CallF) : RF := rg [3, 5, 14, 15, 16] <| aX 18 (pI 6 14 16) <|
 aX 19 (pL true 6 18) <|
 aX 5 (pAl 32 6) <|
 aX0 (pS 6 5 19) <|
 aXZ
noncomputable def f7_r7 (c : CallF) : RF := rg [3, 14, 15, 16] <| aX 20 (pM 3) <|
 aX 21 (pL true 6 5) <|
 aX 22 (pK c false 13 [21]) <|
 aX 23 (pB .add 9 22 (cn (.str [10]))) <|
 aX 24 (pB .add 9 20 23) <|
 aX 3 (pM 24) <|
 aXZ
noncomputable def f7_r8 (c : CallF) : RF := rg [3, 14, 15, 16] <| aX 25 (pB .add 3 16 (cn (.int .i64 1))) <|
 aX 16 (pM 25) <|
 aXZ
noncomputable def f7_r9 (c : CallF) : RF := rg [2] <| aX 26 (pM 3) <|
 aX 2 (pM 26) <|
 aXZ
noncomputable def f7_l5 (c : CallF) (k : Nat) : St :=
 (bSeq (bReg (f7_r5 c))
 (bSeq (bCond (.tmp 17) (bEx .nrm) (bEx (.ext 0)))
 (bSeq (bBlock 1 (bSeq (bReg (f7_r6 c))
 (bReg (f7_r7 c))))
 (bReg (f7_r8 c)))))
noncomputable def f7 (c : CallF) (k : Nat) : St :=
 (bSeq (bReg (f7_r0 c))
 (bSeq (bSeq (bReg (f7_r1 c))
 (bCond (.tmp 13) (bSeq (bReg (f7_r2 c))
 (bEx .ret)) (bEx .nrm)))
 (bSeq (bReg (f7_r3 c))
 (bSeq (bSeq (bReg (f7_r4 c))
 (bBlock 0 (bLoop [3, 14, 15, 16] (f7_l5 c k) k)))
 (bSeq (bReg (f7_r9 c))
 (bEx .ret))))))
theorem f7_eq (c : CallF) (k : Nat) : exec cx c 27 f7_an k (Tryd.f7.body.getD .skip) = f7 c k := by kernel_rfl
/-! ### f8: loop.example/g01263/laws.eqDealS -/
def f8_an : Ann := ⟨[(0, r0 [0, 1]), (1, r0 [0, 1, 10]), (2, r0 [4]), (3, r0 [0, 1, 5]), (4, r0 [0, 1, 5, 14]), (5, r0 [0, 1, 5]), (6, r0 [0, 1, 5, 26]), (7, r0 [4]), (8, r0 [4])], [(4, [0, 1, 5])]⟩
noncomputable def f8_r0 (c : CallF) : RF := rg [0, 1] <| aX 4 (pM (cn (.bool false))) <|
 aXZ
noncomputable def f8_r1 (c : CallF) : RF := rg [0, 1, 10] <| aX 6 (pM 0) <|
 aX 7 (pLen 25 6) <|
 aX 8 (pM 1) <|
 aX 9 (pLen 25 8) <|
 aX 10 (pB .neq 3 7 9) <|
 aXZ
noncomputable def f8_r2 (c : CallF) : RF := rg [4] <| aX 4 (pM (cn (.bool false))) <|
 aXZ
noncomputable def f8_r3 (c : CallF) : RF := rg [0, 1, 5] <| aX 5 (pM (cn (.int .i64 0))) <|
 aXZ
noncomputable def f8_r4 (c : CallF) : RF := rg [0, 1, 5, 14] <| aX 11 (pM 5) <|
 aX 12 (pM 0) <|
 aX 13 (pLen 25 12) <|
 aX 14 (pB .lss 3 11 13) <|
 aXZ
noncomputable def f8_r5 (c : CallF) : RF := rg [0, 1, 5] <| aX 15 (pM 5) <|
 aX 16 (pB .add 3 15 (cn (.int .i64 1))) <|
 aX 5 (pM 16) <|
 aXZ
noncomputable def f8_r6 (c : CallF) : RF := rgD [0, 1, 5, 26] (aY 17 (pM 0) <|
 aY 18 (pM 5) <|
 aY 19 (pI 6 17 18) <|
 aY 20 (pL true 6 19) <|
 aY 21 (pM 1) <|
 aY 22 (pM 5) <|
 aY 23 (pI 6 21 22) <|
 aY 24 (pL true 6 23) <|
 aY 25 (pK c false 14 [20, 24]) <|
 aY 26 (pU .not 25) <|
 aYZ)
 (aXZ)
noncomputable def f8_r7 (c : CallF) : RF := rg [4] <| aX 4 (pM (cn (.bool false))) <|
 aXZ
noncomputable def f8_r8 (c : CallF) : RF := rg [4] <| aX 4 (pM (cn (.bool true))) <|
 aXZ
noncomputable def f8_l4 (c : CallF) (k : Nat) : St :=
 (bSeq (bSeq (bReg (f8_r4 c))
 (bCond (.tmp 14) (bEx .nrm) (bEx (.ext 0))))
 (bSeq (bBlock 1 (bSeq (bReg (f8_r6 c))
 (bCond (.tmp 26) (bSeq (bReg (f8_r7 c))
 (bEx .ret)) (bEx .nrm))))
 (bReg (f8_r5 c))))
noncomputable def f8 (c : CallF) (k : Nat) : St :=
 (bSeq (bReg (f8_r0 c))
 (bSeq (bSeq (bReg (f8_r1 c))
 (bCond (.tmp 10) (bSeq (bReg (f8_r2 c))
 (bEx .ret)) (bEx .nrm)))
 (bSeq (bSeq (bReg (f8_r3 c))
 (bBlock 0 (bLoop [0, 1, 5] (f8_l4 c k) k)))
 (bSeq (bReg (f8_r8 c))
 (bEx .ret)))))
theorem f8_eq (c : CallF) (k : Nat) : exec cx c 27 f8_an k (Tryd.f8.body.getD .skip) = f8 c k := by kernel_rfl
/-! ### f9: loop.example/g01263/spec.l07Deals -/
def f9_an : Ann := ⟨[(0, r0 [0]), (1, r0 [0, 3]), (2, r0 [0, 3, 7]), (3, r0 [0, 3]), (4, r0 [0, 3, 14]), (5, r0 [2]), (6, r0 [2])], [(2, [0, 3])]⟩
noncomputable def f9_r0 (c : CallF) : RF := rg [0] <| aX 2 (pM (cn (.bool false))) <|
 aXZ
noncomputable def f9_r1 (c : CallF) : RF := rg [0, 3] <| aX 3 (pM (cn (.int .i64 0))) <|
 aXZ
noncomputable def f9_r2 (c : CallF) : RF := rg [0, 3, 7] <| aX 4 (pM 3) <|
 aX 5 (pM 0) <|
 aX 6 (pLen 25 5) <|
 aX 7 (pB .lss 3 4 6) <|
 aXZ
noncomputable def f9_r3 (c : CallF) : RF := rg [0, 3] <| aX 8 (pM 3) <|
 aX 9 (pB .add 3 8 (cn (.int .i64 1))) <|
 aX 3 (pM 9) <|
 aXZ
noncomputable def f9_r4 (c : CallF) : RF := rg [0, 3, 14] <| aX 10 (pM 0) <|
 aX 11 (pM 3) <|
 aX 12 (pI 6 10 11) <|
 aX 13 (pK c false 15 [12]) <|
 aX 14 (pU .not 13) <|
 aXZ
noncomputable def f9_r5 (c : CallF) : RF := rg [2] <| aX 2 (pM (cn (.bool false))) <|
 aXZ
noncomputable def f9_r6 (c : CallF) : RF := rg [2] <| aX 2 (pM (cn (.bool true))) <|
 aXZ
noncomputable def f9_l2 (c : CallF) (k : Nat) : St :=
 (bSeq (bSeq (bReg (f9_r2 c))
 (bCond (.tmp 7) (bEx .nrm) (bEx (.ext 0))))
 (bSeq (bBlock 1 (bSeq (bReg (f9_r4 c))
 (bCond (.tmp 14) (bSeq (bReg (f9_r5 c))
 (bEx .ret)) (bEx .nrm))))
 (bReg (f9_r3 c))))
noncomputable def f9 (c : CallF) (k : Nat) : St :=
 (bSeq (bReg (f9_r0 c))
 (bSeq (bSeq (bReg (f9_r1 c))
 (bBlock 0 (bLoop [0, 3] (f9_l2 c k) k)))
 (bSeq (bReg (f9_r6 c))
 (bEx .ret))))
theorem f9_eq (c : CallF) (k : Nat) : exec cx c 15 f9_an k (Tryd.f9.body.getD .skip) = f9 c k := by kernel_rfl
/-! ### f10: loop.example/g01263/spec.l07Text -/
def f10_an : Ann := ⟨[(0, r0 [0]), (1, r0 [0, 3]), (2, r0 [0, 3, 4]), (3, r0 [0, 3, 4, 8]), (4, r0 [0, 3, 4]), (5, r0 [0, 3, 4]), (6, r0 [2])], [(3, [0, 3, 4])]⟩
noncomputable def f10_r0 (c : CallF) : RF := rg [0] <| aX 2 (pM (cn (.str []))) <|
 aXZ
noncomputable def f10_r1 (c : CallF) : RF := rg [0, 3] <| aX 3 (pM (cn (.str []))) <|
 aXZ
noncomputable def f10_r2 (c : CallF) : RF := rg [0, 3, 4] <| aX 4 (pM (cn (.int .i64 0))) <|
 aXZ
noncomputable def f10_r3 (c : CallF) : RF := rg [0, 3, 4, 8] <| aX 5 (pM 4) <|
 aX 6 (pM 0) <|
 aX 7 (pLen 25 6) <|
 aX 8 (pB .lss 3 5 7) <|
 aXZ
noncomputable def f10_r4 (c : CallF) : RF := rg [0, 3, 4] <| aX 9 (pM 4) <|
 aX 10 (pB .add 3 9 (cn (.int .i64 1))) <|
 aX 4 (pM 10) <|
 aXZ
noncomputable def f10_r5 (c : CallF) : RF := rg [0, 3, 4] <| aX 11 (pM 3) <|
 aX 12 (pM 0) <|
 aX 13 (pM 4) <|
 aX 14 (pI 6 12 13) <|
 aX 15 (pK c false 16 [14]) <|
 aX 16 (pB .add 9 15 (cn (.str [10]))) <|
 aX 17 (pB .add 9 11 16) <|
 aX 3 (pM 17) <|
 aXZ
noncomputable def f10_r6 (c : CallF) : RF := rg [2] <| aX 18 (pM 3) <|
 aX 2 (pM 18) <|
 aXZ
noncomputable def f10_l3 (c : CallF) (k : Nat) : St :=
 (bSeq (bSeq (bReg (f10_r3 c))
 (bCond (.tmp 8) (bEx .nrm) (bEx (.ext 0))))
 (bSeq (bBlock 1 (bReg (f10_r5 c)))
 (bReg (f10_r4 c))))
noncomputable def f10 (c : CallF) (k : Nat) : St :=
 (bSeq (bReg (f10_r0 c))
 (bSeq (bReg (f10_r1 c))
 (bSeq (bSeq (bReg (f10_r2 c))
 (bBlock 0 (bLoop [0, 3, 4] (f10_l3 c k) k)))
 (bSeq (bReg (f10_r6 c))
 (bEx .ret)))))
theorem f10_eq (c : CallF) (k : Nat) : exec cx c 19 f10_an k (Tryd.f10.body.getD .skip) = f10 c k := by kernel_rfl
/-! ### f11: loop.example/g01263/laws.toDeal -/
def f11_an : Ann := ⟨[(0, r0 [1, 2]), (1, r0 [1, 2, 3]), (2, r0 [1, 2, 3]), (3, r0 [1, 2, 3]), (4, r0 [1, 2, 3]), (5, r0 [1, 2, 3]), (6, r0 [1, 2, 3]), (7, r0 [2, 3]), (8, r0 [2])], []⟩
noncomputable def f11_r0 (c : CallF) : RF := rg [1, 2] <| aX 1 (pBox 6 0) <|
 aX 2 (pAl 32 6) <|
 aXZ
noncomputable def f11_r1 (c : CallF) : RF := rg [1, 2, 3] <| aX 3 (pAl 32 6) <|
 aXZ
noncomputable def f11_r2 (c : CallF) : RF := rg [1, 2, 3] <| aX 4 (pF 0 1 1) <|
 aX 5 (pL false 1 4) <|
 aX 6 (pF 0 1 3) <|
 aX0 (pS 1 6 5) <|
 aXZ
noncomputable def f11_r3 (c : CallF) : RF := rg [1, 2, 3] <| aX 7 (pF 1 1 1) <|
 aX 8 (pL false 1 7) <|
 aX 9 (pF 1 1 3) <|
 aX0 (pS 1 9 8) <|
 aXZ
noncomputable def f11_r4 (c : CallF) : RF := rg [1, 2, 3] <| aX 10 (pF 2 1 1) <|
 aX 11 (pL false 1 10) <|
 aX 12 (pF 2 1 3) <|
 aX0 (pS 1 12 11) <|
 aXZ
noncomputable def f11_r5 (c : CallF) : RF := rg [1, 2, 3] <| aX 13 (pF 3 1 1) <|
 aX 14 (pL false 1 13) <|
 aX 15 (pF 3 1 3) <|
 aX0 (pS 1 15 14) <|
 aXZ
noncomputable def f11_r6 (c : CallF) : RF := rg [1, 2, 3] <| aX 16 (pF 4 1 1) <|
 aX 17 (pL false 1 16) <|
 aX 18 (pF 4 1 3) <|
 aX0 (pS 1 18 17) <|
 aXZ
noncomputable def f11_r7 (c : CallF) : RF := rg [2, 3] <| aX 19 (pF 5 1 1) <|
 aX 20 (pL false 1 19) <|
 aX 21 (pF 5 1 3) <|
 aX0 (pS 1 21 20) <|
 aXZ
noncomputable def f11_r8 (c : CallF) : RF := rg [2] <| aX 22 (pL true 6 3) <|
 aX0 (pS 6 2 22) <|
 aXZ
noncomputable def f11 (c : CallF) (k : Nat) : St :=
 (bSeq (bReg (f11_r0 c))
 (bSeq (bReg (f11_r1 c))
 (bSeq (bReg (f11_r2 c))
 (bSeq (bReg (f11_r3 c))
 (bSeq (bReg (f11_r4 c))
 (bSeq (bReg (f11_r5 c))
 (bSeq (bReg (f11_r6 c))
 (bSeq (bReg (f11_r7 c))
 (bSeq (bReg (f11_r8 c))
 (bEx .ret))))))))))
theorem f11_eq (c : CallF) (k : Nat) : exec cx c 23 f11_an k (Tryd.f11.body.getD .skip) = f11 c k := by kernel_rfl
/-! ### f12: loop.example/g01263/impl.areDeals -/
def f12_an : Ann := ⟨[(0, r0 [0]), (1, r0 [5, 6, 7]), (2, r0 [5, 6, 7, 8]), (3, r0 [4, 5, 6, 7]), (4, r0 [5, 6, 7, 13]), (5, r0 [2]), (6, r0 [5, 6, 7]), (7, r0 [2])], [(2, [5, 6, 7])]⟩
noncomputable def f12_r0 (c : CallF) : RF := rg [0] <| aX 2 (pM (cn (.bool false))) <|
 aXZ
noncomputable def f12_r1 (c : CallF) : RF := rg [5, 6, 7] <| aX 5 (pM 0) <|
 aX 6 (pLen 25 5) <|
 aX 7 (pM (cn (.int .i64 0))) <|
 aXZ
noncomputable def f12_r2 (c : CallF) : RF := rg [5, 6, 7, 8] <| aX 8 (pB .lss 3 7 6) <|
 aXZ
noncomputable def f12_r3 (c : CallF) : RF := rg [4, 5, 6, 7] <| aX 9 (pI 6 5 7) <|
 aX 10 (pL true 6 9) <|
 aX 4 (pAl 32 6) <|
 aX0 (pS 6 4 10) <|
 aXZ
noncomputable def f12_r4 (c : CallF) : RF := rg [5, 6, 7, 13] <| aX 11 (pL true 6 4) <|
 aX 12 (pK c false 17 [11]) <|
 aX 13 (pU .not 12) <|
 aXZ
noncomputable def f12_r5 (c : CallF) : RF := rg [2] <| aX 2 (pM (cn (.bool false))) <|
 aXZ
noncomputable def f12_r6 (c : CallF) : RF := rg [5, 6, 7] <| aX 14 (pB .add 3 7 (cn (.int .i64 1))) <|
 aX 7 (pM 14) <|
 aXZ
noncomputable def f12_r7 (c : CallF) : RF := rg [2] <| aX 2 (pM (cn (.bool true))) <|
 aXZ
noncomputable def f12_l2 (c : CallF) (k : Nat) : St :=
 (bSeq (bReg (f12_r2 c))
 (bSeq (bCond (.tmp 8) (bEx .nrm) (bEx (.ext 0)))
 (bSeq (bBlock 1 (bSeq (bReg (f12_r3 c))
 (bSeq (bReg (f12_r4 c))
 (bCond (.tmp 13) (bSeq (bReg (f12_r5 c))
 (bEx .ret)) (bEx .nrm)))))
 (bReg (f12_r6 c)))))
noncomputable def f12 (c : CallF) (k : Nat) : St :=
 (bSeq (bReg (f12_r0 c))
 (bSeq (bSeq (bReg (f12_r1 c))
 (bBlock 0 (bLoop [5, 6, 7] (f12_l2 c k) k)))
 (bSeq (bReg (f12_r7 c))
 (bEx .ret))))
theorem f12_eq (c : CallF) (k : Nat) : exec cx c 15 f12_an k (Tryd.f12.body.getD .skip) = f12 c k := by kernel_rfl
/-! ### f13: loop.example/g01263/impl.dealText -/
def f13_an : Ann := ⟨[(0, r0 [1]), (1, r0 [1, 4]), (2, r0 [1, 4, 5]), (3, r0 [2]), (4, r0 [1, 4, 25]), (5, r0 [2]), (6, r0 [1, 45]), (7, r0 [2]), (8, r0 [2])], []⟩
noncomputable def f13_r0 (c : CallF) : RF := rg [1] <| aX 1 (pBox 6 0) <|
 aX 2 (pM (cn (.str []))) <|
 aXZ
noncomputable def f13_r1 (c : CallF) : RF := rg [1, 4] <| aX 3 (pF 1 1 1) <|
 aX 4 (pL false 1 3) <|
 aXZ
noncomputable def f13_r2 (c : CallF) : RF := rg [1, 4, 5] <| aX 6 (pB .eql 30 4 (cn (.int .i8 1))) <|
 aX 5 (pM 6) <|
 aXZ
noncomputable def f13_r3 (c : CallF) : RF := rgD [2] (aY 7 (pF 0 1 1) <|
 aY 8 (pL false 1 7) <|
 aY 9 (pK c false 18 [8]) <|
 aY 10 (pB .add 9 9 (cn (.str [32, 99, 117, 116, 32]))) <|
 aY 11 (pF 3 1 1) <|
 aY 12 (pL false 1 11) <|
 aY 13 (pK c false 18 [12]) <|
 aY 14 (pB .add 9 10 13) <|
 aY 15 (pB .add 9 14 (cn (.str [32]))) <|
 aY 16 (pF 4 1 1) <|
 aY 17 (pL false 1 16) <|
 aY 18 (pK c false 18 [17]) <|
 aY 19 (pB .add 9 15 18) <|
 aY 20 (pB .add 9 19 (cn (.str [32]))) <|
 aY 21 (pF 5 1 1) <|
 aY 22 (pL false 1 21) <|
 aY 23 (pK c false 19 [22]) <|
 aY 24 (pB .add 9 20 23) <|
 aY 2 (pM 24) <|
 aYZ)
 (aXZ)
noncomputable def f13_r4 (c : CallF) : RF := rg [1, 4, 25] <| aX 26 (pB .eql 30 4 (cn (.int .i8 2))) <|
 aX 25 (pM 26) <|
 aXZ
noncomputable def f13_r5 (c : CallF) : RF := rgD [2] (aY 27 (pF 0 1 1) <|
 aY 28 (pL false 1 27) <|
 aY 29 (pK c false 18 [28]) <|
 aY 30 (pB .add 9 29 (cn (.str [32, 112, 97, 115, 115, 32]))) <|
 aY 31 (pF 2 1 1) <|
 aY 32 (pL false 1 31) <|
 aY 33 (pK c false 18 [32]) <|
 aY 34 (pB .add 9 30 33) <|
 aY 35 (pB .add 9 34 (cn (.str [32]))) <|
 aY 36 (pF 3 1 1) <|
 aY 37 (pL false 1 36) <|
 aY 38 (pK c false 18 [37]) <|
 aY 39 (pB .add 9 35 38) <|
 aY 40 (pB .add 9 39 (cn (.str [32]))) <|
 aY 41 (pF 4 1 1) <|
 aY 42 (pL false 1 41) <|
 aY 43 (pK c false 18 [42]) <|
 aY 44 (pB .add 9 40 43) <|
 aY 2 (pM 44) <|
 aYZ)
 (aXZ)
noncomputable def f13_r6 (c : CallF) : RF := rg [1, 45] <| aX 46 (pB .eql 30 4 (cn (.int .i8 3))) <|
 aX 45 (pM 46) <|
 aXZ
noncomputable def f13_r7 (c : CallF) : RF := rgD [2] (aY 47 (pF 0 1 1) <|
 aY 48 (pL false 1 47) <|
 aY 49 (pK c false 18 [48]) <|
 aY 50 (pB .add 9 49 (cn (.str [32, 112, 97, 121, 32]))) <|
 aY 51 (pF 2 1 1) <|
 aY 52 (pL false 1 51) <|
 aY 53 (pK c false 18 [52]) <|
 aY 54 (pB .add 9 50 53) <|
 aY 55 (pB .add 9 54 (cn (.str [32]))) <|
 aY 56 (pF 5 1 1) <|
 aY 57 (pL false 1 56) <|
 aY 58 (pK c false 19 [57]) <|
 aY 59 (pB .add 9 55 58) <|
 aY 2 (pM 59) <|
 aYZ)
 (aXZ)
noncomputable def f13_r8 (c : CallF) : RF := rgD [2] (aY 60 (pF 0 1 1) <|
 aY 61 (pL false 1 60) <|
 aY 62 (pK c false 18 [61]) <|
 aY 63 (pB .add 9 62 (cn (.str [32, 101, 110, 100, 32]))) <|
 aY 64 (pF 2 1 1) <|
 aY 65 (pL false 1 64) <|
 aY 66 (pK c false 18 [65]) <|
 aY 67 (pB .add 9 63 66) <|
 aY 68 (pB .add 9 67 (cn (.str [32]))) <|
 aY 69 (pF 3 1 1) <|
 aY 70 (pL false 1 69) <|
 aY 71 (pK c false 18 [70]) <|
 aY 72 (pB .add 9 68 71) <|
 aY 2 (pM 72) <|
 aYZ)
 (aXZ)
noncomputable def f13 (c : CallF) (k : Nat) : St :=
 (bSeq (bReg (f13_r0 c))
 (bSeq (bSeq (bReg (f13_r1 c))
 (bBlock 0 (bSeq (bReg (f13_r2 c))
 (bCond (.tmp 5) (bSeq (bReg (f13_r3 c))
 (bEx .ret)) (bSeq (bReg (f13_r4 c))
 (bCond (.tmp 25) (bSeq (bReg (f13_r5 c))
 (bEx .ret)) (bSeq (bReg (f13_r6 c))
 (bCond (.tmp 45) (bSeq (bReg (f13_r7 c))
 (bEx .ret)) (bEx .nrm)))))))))
 (bSeq (bReg (f13_r8 c))
 (bEx .ret))))
theorem f13_eq (c : CallF) (k : Nat) : exec cx c 73 f13_an k (Tryd.f13.body.getD .skip) = f13 c k := by kernel_rfl
/-! ### f14: loop.example/g01263/laws.eqDeal -/
def f14_an : Ann := ⟨[(0, r0 [2, 3]), (1, r0 [2, 3, 9]), (2, r0 [4]), (3, r0 [2, 3, 14]), (4, r0 [4]), (5, r0 [2, 3, 19]), (6, r0 [4]), (7, r0 [2, 3, 24]), (8, r0 [4]), (9, r0 [2, 3, 29]), (10, r0 [4]), (11, r0 [34]), (12, r0 [4]), (13, r0 [4])], []⟩
noncomputable def f14_r0 (c : CallF) : RF := rg [2, 3] <| aX 2 (pBox 6 0) <|
 aX 3 (pBox 6 1) <|
 aX 4 (pM (cn (.bool false))) <|
 aXZ
noncomputable def f14_r1 (c : CallF) : RF := rg [2, 3, 9] <| aX 5 (pF 0 1 2) <|
 aX 6 (pL false 1 5) <|
 aX 7 (pF 0 1 3) <|
 aX 8 (pL false 1 7) <|
 aX 9 (pB .neq 2 6 8) <|
 aXZ
noncomputable def f14_r2 (c : CallF) : RF := rg [4] <| aX 4 (pM (cn (.bool false))) <|
 aXZ
noncomputable def f14_r3 (c : CallF) : RF := rg [2, 3, 14] <| aX 10 (pF 1 1 2) <|
 aX 11 (pL false 1 10) <|
 aX 12 (pF 1 1 3) <|
 aX 13 (pL false 1 12) <|
 aX 14 (pB .neq 30 11 13) <|
 aXZ
noncomputable def f14_r4 (c : CallF) : RF := rg [4] <| aX 4 (pM (cn (.bool false))) <|
 aXZ
noncomputable def f14_r5 (c : CallF) : RF := rg [2, 3, 19] <| aX 15 (pF 2 1 2) <|
 aX 16 (pL false 1 15) <|
 aX 17 (pF 2 1 3) <|
 aX 18 (pL false 1 17) <|
 aX 19 (pB .neq 2 16 18) <|
 aXZ
noncomputable def f14_r6 (c : CallF) : RF := rg [4] <| aX 4 (pM (cn (.bool false))) <|
 aXZ
noncomputable def f14_r7 (c : CallF) : RF := rg [2, 3, 24] <| aX 20 (pF 3 1 2) <|
 aX 21 (pL false 1 20) <|
 aX 22 (pF 3 1 3) <|
 aX 23 (pL false 1 22) <|
 aX 24 (pB .neq 2 21 23) <|
 aXZ
noncomputable def f14_r8 (c : CallF) : RF := rg [4] <| aX 4 (pM (cn (.bool false))) <|
 aXZ
noncomputable def f14_r9 (c : CallF) : RF := rg [2, 3, 29] <| aX 25 (pF 4 1 2) <|
 aX 26 (pL false 1 25) <|
 aX 27 (pF 4 1 3) <|
 aX 28 (pL false 1 27) <|
 aX 29 (pB .neq 2 26 28) <|
 aXZ
noncomputable def f14_r10 (c : CallF) : RF := rg [4] <| aX 4 (pM (cn (.bool false))) <|
 aXZ
noncomputable def f14_r11 (c : CallF) : RF := rg [34] <| aX 30 (pF 5 1 2) <|
 aX 31 (pL false 1 30) <|
 aX 32 (pF 5 1 3) <|
 aX 33 (pL false 1 32) <|
 aX 34 (pB .neq 2 31 33) <|
 aXZ
noncomputable def f14_r12 (c : CallF) : RF := rg [4] <| aX 4 (pM (cn (.bool false))) <|
 aXZ
noncomputable def f14_r13 (c : CallF) : RF := rg [4] <| aX 4 (pM (cn (.bool true))) <|
 aXZ
noncomputable def f14 (c : CallF) (k : Nat) : St :=
 (bSeq (bReg (f14_r0 c))
 (bSeq (bSeq (bReg (f14_r1 c))
 (bCond (.tmp 9) (bSeq (bReg (f14_r2 c))
 (bEx .ret)) (bEx .nrm)))
 (bSeq (bSeq (bReg (f14_r3 c))
 (bCond (.tmp 14) (bSeq (bReg (f14_r4 c))
 (bEx .ret)) (bEx .nrm)))
 (bSeq (bSeq (bReg (f14_r5 c))
 (bCond (.tmp 19) (bSeq (bReg (f14_r6 c))
 (bEx .ret)) (bEx .nrm)))
 (bSeq (bSeq (bReg (f14_r7 c))
 (bCond (.tmp 24) (bSeq (bReg (f14_r8 c))
 (bEx .ret)) (bEx .nrm)))
 (bSeq (bSeq (bReg (f14_r9 c))
 (bCond (.tmp 29) (bSeq (bReg (f14_r10 c))
 (bEx .ret)) (bEx .nrm)))
 (bSeq (bSeq (bReg (f14_r11 c))
 (bCond (.tmp 34) (bSeq (bReg (f14_r12 c))
 (bEx .ret)) (bEx .nrm)))
 (bSeq (bReg (f14_r13 c))
 (bEx .ret)))))))))
theorem f14_eq (c : CallF) (k : Nat) : exec cx c 35 f14_an k (Tryd.f14.body.getD .skip) = f14 c k := by kernel_rfl
/-! ### f15: loop.example/g01263/spec.l07Deal -/
def f15_an : Ann := ⟨[(0, r0 [0]), (1, r0 [0, 3]), (2, r0 [0, 3, 4]), (3, r0 [0, 3, 4, 5]), (4, r0 [0, 3, 4, 5, 6]), (5, r0 [0, 3, 4, 5, 6, 32]), (6, r0 [2]), (7, r0 [0, 3, 4, 5, 6, 36]), (8, r0 [0, 3, 4, 5, 6, 36, 37]), (9, r0 [2]), (10, r0 [0, 3, 4, 5, 6, 36, 53]), (11, r0 [2]), (12, r0 [0, 3, 4, 6, 36, 69]), (13, r0 [2]), (14, r0 [0, 3, 4, 89]), (15, r0 [2]), (16, r0 [2])], []⟩
noncomputable def f15_r0 (c : CallF) : RF := rg [0] <| aX 2 (pM (cn (.bool false))) <|
 aXZ
noncomputable def f15_r1 (c : CallF) : RF := rg [0, 3] <| aX 7 (pM 0) <|
 aX 8 (pN 7) <|
 aX 9 (pF 2 1 8) <|
 aX 10 (pL false 1 9) <|
 aX 11 (pK c false 20 [10, (cn (.int .i64 0)), (cn (.int .i64 39))]) <|
 aX 3 (pM 11) <|
 aXZ
noncomputable def f15_r2 (c : CallF) : RF := rg [0, 3, 4] <| aX 12 (pM 0) <|
 aX 13 (pN 12) <|
 aX 14 (pF 3 1 13) <|
 aX 15 (pL false 1 14) <|
 aX 16 (pK c false 20 [15, (cn (.int .i64 0)), (cn (.int .i64 15))]) <|
 aX 4 (pM 16) <|
 aXZ
noncomputable def f15_r3 (c : CallF) : RF := rg [0, 3, 4, 5] <| aX 17 (pM 0) <|
 aX 18 (pN 17) <|
 aX 19 (pF 4 1 18) <|
 aX 20 (pL false 1 19) <|
 aX 21 (pK c false 20 [20, (cn (.int .i64 0)), (cn (.int .i64 15))]) <|
 aX 5 (pM 21) <|
 aXZ
noncomputable def f15_r4 (c : CallF) : RF := rg [0, 3, 4, 5, 6] <| aX 22 (pM 0) <|
 aX 23 (pN 22) <|
 aX 24 (pF 5 1 23) <|
 aX 25 (pL false 1 24) <|
 aX 26 (pK c false 20 [25, (cn (.int .i64 1)), (cn (.int .i64 100000000))]) <|
 aX 6 (pM 26) <|
 aXZ
noncomputable def f15_r5 (c : CallF) : RF := rg [0, 3, 4, 5, 6, 32] <| aX 27 (pM 0) <|
 aX 28 (pN 27) <|
 aX 29 (pF 0 1 28) <|
 aX 30 (pL false 1 29) <|
 aX 31 (pK c false 21 [30]) <|
 aX 32 (pU .not 31) <|
 aXZ
noncomputable def f15_r6 (c : CallF) : RF := rg [2] <| aX 2 (pM (cn (.bool false))) <|
 aXZ
noncomputable def f15_r7 (c : CallF) : RF := rg [0, 3, 4, 5, 6, 36] <| aX 33 (pM 0) <|
 aX 34 (pN 33) <|
 aX 35 (pF 1 1 34) <|
 aX 36 (pL false 1 35) <|
 aXZ
noncomputable def f15_r8 (c : CallF) : RF := rg [0, 3, 4, 5, 6, 36, 37] <| aX 38 (pB .eql 30 36 (cn (.int .i8 1))) <|
 aX 37 (pM 38) <|
 aXZ
noncomputable def f15_r9 (c : CallF) : RF := rg [2] <| aX 39 (pM 0) <|
 aX 40 (pN 39) <|
 aX 41 (pF 2 1 40) <|
 aX 42 (pL false 1 41) <|
 aX 43 (pB .eql 2 42 (cn (.int .i64 0))) <|
 aX 44 (pM 43) <|
 aX 45 (pG 44 true (pM 4)) <|
 aX 46 (pP 44 45 (cn (.bool false))) <|
 aX 47 (pM 46) <|
 aX 48 (pG 47 true (pM 5)) <|
 aX 49 (pP 47 48 (cn (.bool false))) <|
 aX 50 (pM 49) <|
 aX 51 (pG 50 true (pM 6)) <|
 aX 52 (pP 50 51 (cn (.bool false))) <|
 aX 2 (pM 52) <|
 aXZ
noncomputable def f15_r10 (c : CallF) : RF := rg [0, 3, 4, 5, 6, 36, 53] <| aX 54 (pB .eql 30 36 (cn (.int .i8 2))) <|
 aX 53 (pM 54) <|
 aXZ
noncomputable def f15_r11 (c : CallF) : RF := rg [2] <| aX 55 (pM 3) <|
 aX 56 (pM 55) <|
 aX 57 (pG 56 true (pM 4)) <|
 aX 58 (pP 56 57 (cn (.bool false))) <|
 aX 59 (pM 58) <|
 aX 60 (pG 59 true (pM 5)) <|
 aX 61 (pP 59 60 (cn (.bool false))) <|
 aX 62 (pM 61) <|
 aX 63 (pG 62 true (pM 0)) <|
 aX 64 (pG 62 true (pN 63)) <|
 aX 65 (pG 62 true (pF 5 1 64)) <|
 aX 66 (pG 62 true (pL false 1 65)) <|
 aX 67 (pG 62 true (pB .eql 2 66 (cn (.int .i64 0)))) <|
 aX 68 (pP 62 67 (cn (.bool false))) <|
 aX 2 (pM 68) <|
 aXZ
noncomputable def f15_r12 (c : CallF) : RF := rg [0, 3, 4, 6, 36, 69] <| aX 70 (pB .eql 30 36 (cn (.int .i8 3))) <|
 aX 69 (pM 70) <|
 aXZ
noncomputable def f15_r13 (c : CallF) : RF := rg [2] <| aX 71 (pM 3) <|
 aX 72 (pM 71) <|
 aX 73 (pG 72 true (pM 0)) <|
 aX 74 (pG 72 true (pN 73)) <|
 aX 75 (pG 72 true (pF 3 1 74)) <|
 aX 76 (pG 72 true (pL false 1 75)) <|
 aX 77 (pG 72 true (pB .eql 2 76 (cn (.int .i64 0)))) <|
 aX 78 (pP 72 77 (cn (.bool false))) <|
 aX 79 (pM 78) <|
 aX 80 (pG 79 true (pM 0)) <|
 aX 81 (pG 79 true (pN 80)) <|
 aX 82 (pG 79 true (pF 4 1 81)) <|
 aX 83 (pG 79 true (pL false 1 82)) <|
 aX 84 (pG 79 true (pB .eql 2 83 (cn (.int .i64 0)))) <|
 aX 85 (pP 79 84 (cn (.bool false))) <|
 aX 86 (pM 85) <|
 aX 87 (pG 86 true (pM 6)) <|
 aX 88 (pP 86 87 (cn (.bool false))) <|
 aX 2 (pM 88) <|
 aXZ
noncomputable def f15_r14 (c : CallF) : RF := rg [0, 3, 4, 89] <| aX 90 (pB .eql 30 36 (cn (.int .i8 4))) <|
 aX 89 (pM 90) <|
 aXZ
noncomputable def f15_r15 (c : CallF) : RF := rg [2] <| aX 91 (pM 3) <|
 aX 92 (pM 91) <|
 aX 93 (pG 92 true (pM 4)) <|
 aX 94 (pP 92 93 (cn (.bool false))) <|
 aX 95 (pM 94) <|
 aX 96 (pG 95 true (pM 0)) <|
 aX 97 (pG 95 true (pN 96)) <|
 aX 98 (pG 95 true (pF 4 1 97)) <|
 aX 99 (pG 95 true (pL false 1 98)) <|
 aX 100 (pG 95 true (pB .eql 2 99 (cn (.int .i64 0)))) <|
 aX 101 (pP 95 100 (cn (.bool false))) <|
 aX 102 (pM 101) <|
 aX 103 (pG 102 true (pM 0)) <|
 aX 104 (pG 102 true (pN 103)) <|
 aX 105 (pG 102 true (pF 5 1 104)) <|
 aX 106 (pG 102 true (pL false 1 105)) <|
 aX 107 (pG 102 true (pB .eql 2 106 (cn (.int .i64 0)))) <|
 aX 108 (pP 102 107 (cn (.bool false))) <|
 aX 2 (pM 108) <|
 aXZ
noncomputable def f15_r16 (c : CallF) : RF := rg [2] <| aX 2 (pM (cn (.bool false))) <|
 aXZ
noncomputable def f15 (c : CallF) (k : Nat) : St :=
 (bSeq (bReg (f15_r0 c))
 (bSeq (bReg (f15_r1 c))
 (bSeq (bReg (f15_r2 c))
 (bSeq (bReg (f15_r3 c))
 (bSeq (bReg (f15_r4 c))
 (bSeq (bSeq (bReg (f15_r5 c))
 (bCond (.tmp 32) (bSeq (bReg (f15_r6 c))
 (bEx .ret)) (bEx .nrm)))
 (bSeq (bSeq (bReg (f15_r7 c))
 (bBlock 0 (bSeq (bReg (f15_r8 c))
 (bCond (.tmp 37) (bSeq (bReg (f15_r9 c))
 (bEx .ret)) (bSeq (bReg (f15_r10 c))
 (bCond (.tmp 53) (bSeq (bReg (f15_r11 c))
 (bEx .ret)) (bSeq (bReg (f15_r12 c))
 (bCond (.tmp 69) (bSeq (bReg (f15_r13 c))
 (bEx .ret)) (bSeq (bReg (f15_r14 c))
 (bCond (.tmp 89) (bSeq (bReg (f15_r15 c))
 (bEx .ret)) (bEx .nrm)))))))))))
 (bSeq (bReg (f15_r16 c))
 (bEx .ret)))))))))
theorem f15_eq (c : CallF) (k : Nat) : exec cx c 109 f15_an k (Tryd.f15.body.getD .skip) = f15 c k := by kernel_rfl
/-! ### f16: loop.example/g01263/spec.l07Line -/
def f16_an : Ann := ⟨[(0, r0 [0]), (1, r0 [0, 3]), (2, r0 [0, 3, 12]), (3, r0 [0, 3, 12, 13]), (4, r0 [2]), (5, r0 [0, 3, 12, 37]), (6, r0 [2]), (7, r0 [0, 3, 61]), (8, r0 [2]), (9, r0 [2])], []⟩
noncomputable def f16_r0 (c : CallF) : RF := rg [0] <| aX 2 (pM (cn (.str []))) <|
 aXZ
noncomputable def f16_r1 (c : CallF) : RF := rg [0, 3] <| aX 4 (pM 0) <|
 aX 5 (pN 4) <|
 aX 6 (pF 0 1 5) <|
 aX 7 (pL false 1 6) <|
 aX 8 (pK c false 22 [7]) <|
 aX 3 (pM 8) <|
 aXZ
noncomputable def f16_r2 (c : CallF) : RF := rg [0, 3, 12] <| aX 9 (pM 0) <|
 aX 10 (pN 9) <|
 aX 11 (pF 1 1 10) <|
 aX 12 (pL false 1 11) <|
 aXZ
noncomputable def f16_r3 (c : CallF) : RF := rg [0, 3, 12, 13] <| aX 14 (pB .eql 30 12 (cn (.int .i8 1))) <|
 aX 13 (pM 14) <|
 aXZ
noncomputable def f16_r4 (c : CallF) : RF := rgD [2] (aY 15 (pM 3) <|
 aY 16 (pB .add 9 15 (cn (.str [32, 99, 117, 116, 32]))) <|
 aY 17 (pM 0) <|
 aY 18 (pN 17) <|
 aY 19 (pF 3 1 18) <|
 aY 20 (pL false 1 19) <|
 aY 21 (pK c false 22 [20]) <|
 aY 22 (pB .add 9 16 21) <|
 aY 23 (pB .add 9 22 (cn (.str [32]))) <|
 aY 24 (pM 0) <|
 aY 25 (pN 24) <|
 aY 26 (pF 4 1 25) <|
 aY 27 (pL false 1 26) <|
 aY 28 (pK c false 22 [27]) <|
 aY 29 (pB .add 9 23 28) <|
 aY 30 (pB .add 9 29 (cn (.str [32]))) <|
 aY 31 (pM 0) <|
 aY 32 (pN 31) <|
 aY 33 (pF 5 1 32) <|
 aY 34 (pL false 1 33) <|
 aY 35 (pK c false 23 [34]) <|
 aY 36 (pB .add 9 30 35) <|
 aY 2 (pM 36) <|
 aYZ)
 (aXZ)
noncomputable def f16_r5 (c : CallF) : RF := rg [0, 3, 12, 37] <| aX 38 (pB .eql 30 12 (cn (.int .i8 2))) <|
 aX 37 (pM 38) <|
 aXZ
noncomputable def f16_r6 (c : CallF) : RF := rgD [2] (aY 39 (pM 3) <|
 aY 40 (pB .add 9 39 (cn (.str [32, 112, 97, 115, 115, 32]))) <|
 aY 41 (pM 0) <|
 aY 42 (pN 41) <|
 aY 43 (pF 2 1 42) <|
 aY 44 (pL false 1 43) <|
 aY 45 (pK c false 22 [44]) <|
 aY 46 (pB .add 9 40 45) <|
 aY 47 (pB .add 9 46 (cn (.str [32]))) <|
 aY 48 (pM 0) <|
 aY 49 (pN 48) <|
 aY 50 (pF 3 1 49) <|
 aY 51 (pL false 1 50) <|
 aY 52 (pK c false 22 [51]) <|
 aY 53 (pB .add 9 47 52) <|
 aY 54 (pB .add 9 53 (cn (.str [32]))) <|
 aY 55 (pM 0) <|
 aY 56 (pN 55) <|
 aY 57 (pF 4 1 56) <|
 aY 58 (pL false 1 57) <|
 aY 59 (pK c false 22 [58]) <|
 aY 60 (pB .add 9 54 59) <|
 aY 2 (pM 60) <|
 aYZ)
 (aXZ)
noncomputable def f16_r7 (c : CallF) : RF := rg [0, 3, 61] <| aX 62 (pB .eql 30 12 (cn (.int .i8 3))) <|
 aX 61 (pM 62) <|
 aXZ
noncomputable def f16_r8 (c : CallF) : RF := rgD [2] (aY 63 (pM 3) <|
 aY 64 (pB .add 9 63 (cn (.str [32, 112, 97, 121, 32]))) <|
 aY 65 (pM 0) <|
 aY 66 (pN 65) <|
 aY 67 (pF 2 1 66) <|
 aY 68 (pL false 1 67) <|
 aY 69 (pK c false 22 [68]) <|
 aY 70 (pB .add 9 64 69) <|
 aY 71 (pB .add 9 70 (cn (.str [32]))) <|
 aY 72 (pM 0) <|
 aY 73 (pN 72) <|
 aY 74 (pF 5 1 73) <|
 aY 75 (pL false 1 74) <|
 aY 76 (pK c false 23 [75]) <|
 aY 77 (pB .add 9 71 76) <|
 aY 2 (pM 77) <|
 aYZ)
 (aXZ)
noncomputable def f16_r9 (c : CallF) : RF := rgD [2] (aY 78 (pM 3) <|
 aY 79 (pB .add 9 78 (cn (.str [32, 101, 110, 100, 32]))) <|
 aY 80 (pM 0) <|
 aY 81 (pN 80) <|
 aY 82 (pF 2 1 81) <|
 aY 83 (pL false 1 82) <|
 aY 84 (pK c false 22 [83]) <|
 aY 85 (pB .add 9 79 84) <|
 aY 86 (pB .add 9 85 (cn (.str [32]))) <|
 aY 87 (pM 0) <|
 aY 88 (pN 87) <|
 aY 89 (pF 3 1 88) <|
 aY 90 (pL false 1 89) <|
 aY 91 (pK c false 22 [90]) <|
 aY 92 (pB .add 9 86 91) <|
 aY 2 (pM 92) <|
 aYZ)
 (aXZ)
noncomputable def f16 (c : CallF) (k : Nat) : St :=
 (bSeq (bReg (f16_r0 c))
 (bSeq (bReg (f16_r1 c))
 (bSeq (bSeq (bReg (f16_r2 c))
 (bBlock 0 (bSeq (bReg (f16_r3 c))
 (bCond (.tmp 13) (bSeq (bReg (f16_r4 c))
 (bEx .ret)) (bSeq (bReg (f16_r5 c))
 (bCond (.tmp 37) (bSeq (bReg (f16_r6 c))
 (bEx .ret)) (bSeq (bReg (f16_r7 c))
 (bCond (.tmp 61) (bSeq (bReg (f16_r8 c))
 (bEx .ret)) (bEx .nrm)))))))))
 (bSeq (bReg (f16_r9 c))
 (bEx .ret)))))
theorem f16_eq (c : CallF) (k : Nat) : exec cx c 93 f16_an k (Tryd.f16.body.getD .skip) = f16 c k := by kernel_rfl
/-! ### f17: loop.example/g01263/impl.ValidDeal -/
def f17_an : Ann := ⟨[(0, r0 [1]), (1, r0 [1, 21]), (2, r0 [2]), (3, r0 [1, 3]), (4, r0 [1, 3, 4, 5, 6, 7]), (5, r0 [2])], []⟩
noncomputable def f17_r0 (c : CallF) : RF := rg [1] <| aX 1 (pBox 6 0) <|
 aX 2 (pM (cn (.bool false))) <|
 aXZ
noncomputable def f17_r1 (c : CallF) : RF := rg [1, 21] <| aX 8 (pF 1 1 1) <|
 aX 9 (pL false 1 8) <|
 aX 10 (pB .lss 30 9 (cn (.int .i8 1))) <|
 aX 11 (pM 10) <|
 aX 12 (pG 11 false (pF 1 1 1)) <|
 aX 13 (pG 11 false (pL false 1 12)) <|
 aX 14 (pG 11 false (pB .gtr 30 13 (cn (.int .i8 4)))) <|
 aX 15 (pP 11 (cn (.bool true)) 14) <|
 aX 16 (pM 15) <|
 aX 17 (pG 16 false (pF 0 1 1)) <|
 aX 18 (pG 16 false (pL false 1 17)) <|
 aX 19 (pG 16 false (pK c false 24 [18])) <|
 aX 20 (pG 16 false (pU .not 19)) <|
 aX 21 (pP 16 (cn (.bool true)) 20) <|
 aXZ
noncomputable def f17_r2 (c : CallF) : RF := rg [2] <| aX 2 (pM (cn (.bool false))) <|
 aXZ
noncomputable def f17_r3 (c : CallF) : RF := rg [1, 3] <| aX 3 (pM (cn (.fn 25 []))) <|
 aXZ
noncomputable def f17_r4 (c : CallF) : RF := rg [1, 3, 4, 5, 6, 7] <| aX 23 (pF 1 1 1) <|
 aX 24 (pL false 1 23) <|
 aX 25 (pK c false 26 [24]) <|
 aX 22 (pM 25) <|
 aX 26 (pE 0 22) <|
 aX 27 (pE 1 22) <|
 aX 28 (pE 2 22) <|
 aX 29 (pE 3 22) <|
 aX 4 (pM 26) <|
 aX 5 (pM 27) <|
 aX 6 (pM 28) <|
 aX 7 (pM 29) <|
 aXZ
noncomputable def f17_r5 (c : CallF) : RF := rg [2] <| aX 30 (pM 3) <|
 aX 31 (pM 4) <|
 aX 32 (pF 2 1 1) <|
 aX 33 (pL false 1 32) <|
 aX 34 (fun n e M => oCall cx c false n (eget e 30) [(eget e 31), (eget e 33), (.int .i64 0), (.int .i64 39)] M) <|
 aX 35 (pM 34) <|
 aX 36 (pG 35 true (pM 3)) <|
 aX 37 (pG 35 true (pM 5)) <|
 aX 38 (pG 35 true (pF 3 1 1)) <|
 aX 39 (pG 35 true (pL false 1 38)) <|
 aX 40 (pG 35 true (fun n e M => oCall cx c false n (eget e 36) [(eget e 37), (eget e 39), (.int .i64 0), (.int .i64 15)] M)) <|
 aX 41 (pP 35 40 (cn (.bool false))) <|
 aX 42 (pM 41) <|
 aX 43 (pG 42 true (pM 3)) <|
 aX 44 (pG 42 true (pM 6)) <|
 aX 45 (pG 42 true (pF 4 1 1)) <|
 aX 46 (pG 42 true (pL false 1 45)) <|
 aX 47 (pG 42 true (fun n e M => oCall cx c false n (eget e 43) [(eget e 44), (eget e 46), (.int .i64 0), (.int .i64 15)] M)) <|
 aX 48 (pP 42 47 (cn (.bool false))) <|
 aX 49 (pM 48) <|
 aX 50 (pG 49 true (pM 3)) <|
 aX 51 (pG 49 true (pM 7)) <|
 aX 52 (pG 49 true (pF 5 1 1)) <|
 aX 53 (pG 49 true (pL false 1 52)) <|
 aX 54 (pG 49 true (fun n e M => oCall cx c false n (eget e 50) [(eget e 51), (eget e 53), (.int .i64 1), (.int .i64 100000000)] M)) <|
 aX 55 (pP 49 54 (cn (.bool false))) <|
 aX 2 (pM 55) <|
 aXZ
noncomputable def f17 (c : CallF) (k : Nat) : St :=
 (bSeq (bReg (f17_r0 c))
 (bSeq (bSeq (bReg (f17_r1 c))
 (bCond (.tmp 21) (bSeq (bReg (f17_r2 c))
 (bEx .ret)) (bEx .nrm)))
 (bSeq (bReg (f17_r3 c))
 (bSeq (bReg (f17_r4 c))
 (bSeq (bReg (f17_r5 c))
 (bEx .ret))))))
theorem f17_eq (c : CallF) (k : Nat) : exec cx c 56 f17_an k (Tryd.f17.body.getD .skip) = f17 c k := by kernel_rfl
/-! ### f18: loop.example/g01263/impl.decimal -/
def f18_an : Ann := ⟨[(0, r0 [0]), (1, r0 [2])], []⟩
noncomputable def f18_r0 (c : CallF) : RF := rg [0] <| aX 2 (pM (cn (.str []))) <|
 aXZ
noncomputable def f18_r1 (c : CallF) : RF := rg [2] <| aX 3 (pM 0) <|
 aX 4 (pK c false 27 [3, (cn (.int .i64 10))]) <|
 aX 2 (pM 4) <|
 aXZ
noncomputable def f18 (c : CallF) (k : Nat) : St :=
 (bSeq (bReg (f18_r0 c))
 (bSeq (bReg (f18_r1 c))
 (bEx .ret)))
theorem f18_eq (c : CallF) (k : Nat) : exec cx c 5 f18_an k (Tryd.f18.body.getD .skip) = f18 c k := by kernel_rfl
/-! ### f19: loop.example/g01263/impl.AmountText -/
def f19_an : Ann := ⟨[(0, r0 [0]), (1, r0 [0, 8]), (2, r0 [2]), (3, r0 [0, 10]), (4, r0 [2]), (5, ⟨[0], [], [], [], [0, 3]⟩), (6, r0 [3, 19, 20, 21]), (7, r0 [3, 19, 20, 21, 22]), (8, r0 [3, 4, 5, 19, 20, 21]), (9, r0 [3, 4, 5, 19, 20, 21, 27]), (10, ⟨[9], [], [], [9, 10], [3, 19, 20, 21]⟩), (11, r0 [3, 19, 20, 21]), (12, r0 [2])], [(7, [3, 19, 20, 21])]⟩
noncomputable def f19_r0 (c : CallF) : RF := rg [0] <| aX 2 (pM (cn (.str []))) <|
 aXZ
noncomputable def f19_r1 (c : CallF) : RF := rg [0, 8] <| aX 6 (pM 0) <|
 aX 7 (pK c false 28 [6]) <|
 aX 8 (pU .not 7) <|
 aXZ
noncomputable def f19_r2 (c : CallF) : RF := rg [2] <| aX 2 (pM (cn (.str []))) <|
 aXZ
noncomputable def f19_r3 (c : CallF) : RF := rg [0, 10] <| aX 9 (pM 0) <|
 aX 10 (pB .eql 2 9 (cn (.int .i64 0))) <|
 aXZ
noncomputable def f19_r4 (c : CallF) : RF := rg [2] <| aX 2 (pM (cn (.str [48, 100]))) <|
 aXZ
noncomputable def f19_r5 (c : CallF) : RF := rg [0, 3] <| aX 11 (fun n e M => aLitO false n 9 1 [] M) <|
 aX 3 (pM 11) <|
 aXZ
noncomputable def f19_r6 (c : CallF) : RF := rg [3, 19, 20, 21] <| aX 12 (pM 0) <|
 aX 13 (pB .quo 2 12 (cn (.int .i64 240))) <|
 aX 14 (pM 0) <|
 aX 15 (pB .quo 2 14 (cn (.int .i64 12))) <|
 aX 16 (pB .rem 2 15 (cn (.int .i64 20))) <|
 aX 17 (pM 0) <|
 aX 18 (pB .rem 2 17 (cn (.int .i64 12))) <|
 aX 19 (fun n e M => keep (aLitI 2 1 [(eget e 13), (eget e 16), (eget e 18)] M)) <|
 aX 20 (pLen 49 19) <|
 aX 21 (pM (cn (.int .i64 0))) <|
 aXZ
noncomputable def f19_r7 (c : CallF) : RF := rg [3, 19, 20, 21, 22] <| aX 22 (pB .lss 3 21 20) <|
 aXZ
noncomputable def f19_r8 (c : CallF) : RF := rg [3, 4, 5, 19, 20, 21] <| aX 23 (pM 21) <|
 aX 24 (pI 1 19 21) <|
 aX 25 (pL false 1 24) <|
 aX 4 (pM 23) <|
 aX 5 (pM 25) <|
 aXZ
noncomputable def f19_r9 (c : CallF) : RF := rg [3, 4, 5, 19, 20, 21, 27] <| aX 26 (pM 5) <|
 aX 27 (pB .gtr 2 26 (cn (.int .i64 0))) <|
 aXZ
noncomputable def f19_r10 (c : CallF) : RF := rgD [3, 19, 20, 21] (aY 28 (pM 3) <|
 aY 29 (pM 5) <|
 aY 30 (pK c false 18 [29]) <|
 aY 31 (pM 4) <|
 aY 32 (pM 4) <|
 aY 33 (pB .add 3 32 (cn (.int .i64 1))) <|
 aY 34 (fun n e M => keep (aSliceS (some (eget e 31)) (some (eget e 33)) (.str [108, 115, 100]))) <|
 aY 35 (pB .add 9 30 34) <|
 aY 36 (fun n e M => keep (aLitI 9 1 [(eget e 35)] M)) <|
 aYZ)
 (aX 37 (fun n e M => aAppO n 9 1 16 (eget e 28) (eget e 36) M) <|
 aX 3 (pM 37) <|
 aXZ)
noncomputable def f19_r11 (c : CallF) : RF := rg [3, 19, 20, 21] <| aX 38 (pB .add 3 21 (cn (.int .i64 1))) <|
 aX 21 (pM 38) <|
 aXZ
noncomputable def f19_r12 (c : CallF) : RF := rg [2] <| aX 39 (pM 3) <|
 aX 40 (pK c false 29 [39, (cn (.str [32]))]) <|
 aX 2 (pM 40) <|
 aXZ
noncomputable def f19_l7 (c : CallF) (k : Nat) : St :=
 (bSeq (bReg (f19_r7 c))
 (bSeq (bCond (.tmp 22) (bEx .nrm) (bEx (.ext 0)))
 (bSeq (bBlock 1 (bSeq (bReg (f19_r8 c))
 (bSeq (bReg (f19_r9 c))
 (bCond (.tmp 27) (bReg (f19_r10 c)) (bEx .nrm)))))
 (bReg (f19_r11 c)))))
noncomputable def f19 (c : CallF) (k : Nat) : St :=
 (bSeq (bReg (f19_r0 c))
 (bSeq (bSeq (bReg (f19_r1 c))
 (bCond (.tmp 8) (bSeq (bReg (f19_r2 c))
 (bEx .ret)) (bEx .nrm)))
 (bSeq (bSeq (bReg (f19_r3 c))
 (bCond (.tmp 10) (bSeq (bReg (f19_r4 c))
 (bEx .ret)) (bEx .nrm)))
 (bSeq (bReg (f19_r5 c))
 (bSeq (bSeq (bReg (f19_r6 c))
 (bBlock 0 (bLoop [3, 19, 20, 21] (f19_l7 c k) k)))
 (bSeq (bReg (f19_r12 c))
 (bEx .ret)))))))
theorem f19_eq (c : CallF) (k : Nat) : exec cx c 41 f19_an k (Tryd.f19.body.getD .skip) = f19 c k := by kernel_rfl
/-! ### f20: loop.example/g01263/spec.l00In -/
def f20_an : Ann := ⟨[(0, r0 [0, 1, 2]), (1, r0 [6])], []⟩
noncomputable def f20_r0 (c : CallF) : RF := rg [0, 1, 2] <| aX 6 (pM (cn (.bool false))) <|
 aXZ
noncomputable def f20_r1 (c : CallF) : RF := rg [6] <| aX 7 (pM 0) <|
 aX 8 (pM 1) <|
 aX 9 (pB .geq 2 7 8) <|
 aX 10 (pM 9) <|
 aX 11 (pG 10 true (pM 0)) <|
 aX 12 (pG 10 true (pM 2)) <|
 aX 13 (pG 10 true (pB .leq 2 11 12)) <|
 aX 14 (pP 10 13 (cn (.bool false))) <|
 aX 6 (pM 14) <|
 aXZ
noncomputable def f20 (c : CallF) (k : Nat) : St :=
 (bSeq (bReg (f20_r0 c))
 (bSeq (bReg (f20_r1 c))
 (bEx .ret)))
theorem f20_eq (c : CallF) (k : Nat) : exec cx c 15 f20_an k (Tryd.f20.body.getD .skip) = f20 c k := by kernel_rfl
/-! ### f21: loop.example/g01263/spec.l07Day -/
def f21_an : Ann := ⟨[(0, r0 [0]), (1, r0 [2])], []⟩
noncomputable def f21_r0 (c : CallF) : RF := rg [0] <| aX 2 (pM (cn (.bool false))) <|
 aXZ
noncomputable def f21_r1 (c : CallF) : RF := rg [2] <| aX 3 (pM 0) <|
 aX 4 (pK c false 20 [3, (cn (.int .i64 0)), (cn (.int .i64 100000))]) <|
 aX 2 (pM 4) <|
 aXZ
noncomputable def f21 (c : CallF) (k : Nat) : St :=
 (bSeq (bReg (f21_r0 c))
 (bSeq (bReg (f21_r1 c))
 (bEx .ret)))
theorem f21_eq (c : CallF) (k : Nat) : exec cx c 5 f21_an k (Tryd.f21.body.getD .skip) = f21 c k := by kernel_rfl
/-! ### f22: loop.example/g01263/spec.Decimal -/
def f22_an : Ann := ⟨[(0, r0 [0]), (1, r0 [0, 4]), (2, r0 [2]), (3, r0 [2])], []⟩
noncomputable def f22_r0 (c : CallF) : RF := rg [0] <| aX 2 (pM (cn (.str []))) <|
 aXZ
noncomputable def f22_r1 (c : CallF) : RF := rg [0, 4] <| aX 3 (pM 0) <|
 aX 4 (pB .lss 2 3 (cn (.int .i64 10))) <|
 aXZ
noncomputable def f22_r2 (c : CallF) : RF := rg [2] <| aX 5 (pM 0) <|
 aX 6 (pB .rem 2 5 (cn (.int .i64 10))) <|
 aX 7 (pB .add 2 (cn (.int .i64 48)) 6) <|
 aX 8 (fun n e M => keep (aConvI .u8 (eget e 7))) <|
 aX 9 (fun n e M => keep (aLitI 5 1 [(eget e 8)] M)) <|
 aX 10 (fun n e M => keep (aConvB (eget e 9) M)) <|
 aX 2 (pM 10) <|
 aXZ
noncomputable def f22_r3 (c : CallF) : RF := rgD [2] (aY 11 (pM 0) <|
 aY 12 (pB .quo 2 11 (cn (.int .i64 10))) <|
 aY 13 (pK c false 22 [12]) <|
 aY 14 (pM 0) <|
 aY 15 (pB .rem 2 14 (cn (.int .i64 10))) <|
 aY 16 (pB .add 2 (cn (.int .i64 48)) 15) <|
 aY 17 (fun n e M => keep (aConvI .u8 (eget e 16))) <|
 aY 18 (fun n e M => keep (aLitI 5 1 [(eget e 17)] M)) <|
 aY 19 (fun n e M => keep (aConvB (eget e 18) M)) <|
 aY 20 (pB .add 9 13 19) <|
 aY 2 (pM 20) <|
 aYZ)
 (aXZ)
noncomputable def f22 (c : CallF) (k : Nat) : St :=
 (bSeq (bReg (f22_r0 c))
 (bSeq (bSeq (bReg (f22_r1 c))
 (bCond (.tmp 4) (bSeq (bReg (f22_r2 c))
 (bEx .ret)) (bEx .nrm)))
 (bSeq (bReg (f22_r3 c))
 (bEx .ret))))
theorem f22_eq (c : CallF) (k : Nat) : exec cx c 21 f22_an k (Tryd.f22.body.getD .skip) = f22 c k := by kernel_rfl
/-! ### f23: loop.example/g01263/spec.l01AmountText -/
def f23_an : Ann := ⟨[(0, r0 [0]), (1, r0 [0, 5]), (2, r0 [2]), (3, r0 [0, 3]), (4, r0 [0, 3]), (5, r0 [2])], []⟩
noncomputable def f23_r0 (c : CallF) : RF := rg [0] <| aX 2 (pM (cn (.str []))) <|
 aXZ
noncomputable def f23_r1 (c : CallF) : RF := rg [0, 5] <| aX 4 (pM 0) <|
 aX 5 (pB .eql 2 4 (cn (.int .i64 0))) <|
 aXZ
noncomputable def f23_r2 (c : CallF) : RF := rg [2] <| aX 2 (pM (cn (.str [48, 100]))) <|
 aXZ
noncomputable def f23_r3 (c : CallF) : RF := rg [0, 3] <| aX 6 (pM 0) <|
 aX 7 (pB .quo 2 6 (cn (.int .i64 240))) <|
 aX 8 (pK c false 30 [(cn (.str [])), 7, (cn (.str [108]))]) <|
 aX 3 (pM 8) <|
 aXZ
noncomputable def f23_r4 (c : CallF) : RF := rg [0, 3] <| aX 9 (pM 3) <|
 aX 10 (pM 0) <|
 aX 11 (pB .quo 2 10 (cn (.int .i64 12))) <|
 aX 12 (pB .rem 2 11 (cn (.int .i64 20))) <|
 aX 13 (pK c false 30 [9, 12, (cn (.str [115]))]) <|
 aX 3 (pM 13) <|
 aXZ
noncomputable def f23_r5 (c : CallF) : RF := rg [2] <| aX 14 (pM 3) <|
 aX 15 (pM 0) <|
 aX 16 (pB .rem 2 15 (cn (.int .i64 12))) <|
 aX 17 (pK c false 30 [14, 16, (cn (.str [100]))]) <|
 aX 2 (pM 17) <|
 aXZ
noncomputable def f23 (c : CallF) (k : Nat) : St :=
 (bSeq (bReg (f23_r0 c))
 (bSeq (bSeq (bReg (f23_r1 c))
 (bCond (.tmp 5) (bSeq (bReg (f23_r2 c))
 (bEx .ret)) (bEx .nrm)))
 (bSeq (bReg (f23_r3 c))
 (bSeq (bReg (f23_r4 c))
 (bSeq (bReg (f23_r5 c))
 (bEx .ret))))))
theorem f23_eq (c : CallF) (k : Nat) : exec cx c 18 f23_an k (Tryd.f23.body.getD .skip) = f23 c k := by kernel_rfl
/-! ### f24: loop.example/g01263/impl.isBookDay -/
def f24_an : Ann := ⟨[(0, r0 [0]), (1, r0 [2])], []⟩
noncomputable def f24_r0 (c : CallF) : RF := rg [0] <| aX 2 (pM (cn (.bool false))) <|
 aXZ
noncomputable def f24_r1 (c : CallF) : RF := rg [2] <| aX 3 (pM 0) <|
 aX 4 (pB .geq 2 3 (cn (.int .i64 0))) <|
 aX 5 (pM 4) <|
 aX 6 (pG 5 true (pM 0)) <|
 aX 7 (pG 5 true (pB .leq 2 6 (cn (.int .i64 100000)))) <|
 aX 8 (pP 5 7 (cn (.bool false))) <|
 aX 2 (pM 8) <|
 aXZ
noncomputable def f24 (c : CallF) (k : Nat) : St :=
 (bSeq (bReg (f24_r0 c))
 (bSeq (bReg (f24_r1 c))
 (bEx .ret)))
theorem f24_eq (c : CallF) (k : Nat) : exec cx c 9 f24_an k (Tryd.f24.body.getD .skip) = f24 c k := by kernel_rfl
/-! ### f25: loop.example/g01263/impl.ValidDeal$1 -/
def f25_an : Ann := ⟨[(0, r0 [0, 1, 2, 3]), (1, r0 [8])], []⟩
noncomputable def f25_r0 (c : CallF) : RF := rg [0, 1, 2, 3] <| aX 8 (pM (cn (.bool false))) <|
 aXZ
noncomputable def f25_r1 (c : CallF) : RF := rg [8] <| aX 9 (pM 0) <|
 aX 10 (pM 9) <|
 aX 11 (pG 10 true (pM 1)) <|
 aX 12 (pG 10 true (pM 2)) <|
 aX 13 (pG 10 true (pB .geq 2 11 12)) <|
 aX 14 (pP 10 13 (cn (.bool false))) <|
 aX 15 (pM 14) <|
 aX 16 (pG 15 true (pM 1)) <|
 aX 17 (pG 15 true (pM 3)) <|
 aX 18 (pG 15 true (pB .leq 2 16 17)) <|
 aX 19 (pP 15 18 (cn (.bool false))) <|
 aX 20 (pM 19) <|
 aX 21 (pG 20 false (pM 0)) <|
 aX 22 (pG 20 false (pU .not 21)) <|
 aX 23 (pG 20 false (pM 22)) <|
 aX 24 (pG 23 true (pM 1)) <|
 aX 25 (pG 23 true (pB .eql 2 24 (cn (.int .i64 0)))) <|
 aX 26 (pG 20 false (pP 23 25 (cn (.bool false)))) <|
 aX 27 (pP 20 (cn (.bool true)) 26) <|
 aX 8 (pM 27) <|
 aXZ
noncomputable def f25 (c : CallF) (k : Nat) : St :=
 (bSeq (bReg (f25_r0 c))
 (bSeq (bReg (f25_r1 c))
 (bEx .ret)))
theorem f25_eq (c : CallF) (k : Nat) : exec cx c 28 f25_an k (Tryd.f25.body.getD .skip) = f25 c k := by kernel_rfl
/-! ### f26: loop.example/g01263/impl.uses -/
def f26_an : Ann := ⟨[(0, r0 [0]), (1, r0 [6]), (2, r0 [6, 7]), (3, r0 [2, 3, 4, 5]), (4, r0 [6, 9]), (5, r0 [2, 3, 4, 5]), (6, r0 [11]), (7, r0 [2, 3, 4, 5]), (8, r0 [2, 3, 4, 5])], []⟩
noncomputable def f26_r0 (c : CallF) : RF := rg [0] <| aX 2 (pM (cn (.bool false))) <|
 aX 3 (pM (cn (.bool false))) <|
 aX 4 (pM (cn (.bool false))) <|
 aX 5 (pM (cn (.bool false))) <|
 aXZ
noncomputable def f26_r1 (c : CallF) : RF := rg [6] <| aX 6 (pM 0) <|
 aXZ
noncomputable def f26_r2 (c : CallF) : RF := rg [6, 7] <| aX 8 (pB .eql 30 6 (cn (.int .i8 1))) <|
 aX 7 (pM 8) <|
 aXZ
noncomputable def f26_r3 (c : CallF) : RF := rg [2, 3, 4, 5] <| aX 2 (pM (cn (.bool false))) <|
 aX 3 (pM (cn (.bool true))) <|
 aX 4 (pM (cn (.bool true))) <|
 aX 5 (pM (cn (.bool true))) <|
 aXZ
noncomputable def f26_r4 (c : CallF) : RF := rg [6, 9] <| aX 10 (pB .eql 30 6 (cn (.int .i8 2))) <|
 aX 9 (pM 10) <|
 aXZ
noncomputable def f26_r5 (c : CallF) : RF := rg [2, 3, 4, 5] <| aX 2 (pM (cn (.bool true))) <|
 aX 3 (pM (cn (.bool true))) <|
 aX 4 (pM (cn (.bool true))) <|
 aX 5 (pM (cn (.bool false))) <|
 aXZ
noncomputable def f26_r6 (c : CallF) : RF := rg [11] <| aX 12 (pB .eql 30 6 (cn (.int .i8 3))) <|
 aX 11 (pM 12) <|
 aXZ
noncomputable def f26_r7 (c : CallF) : RF := rg [2, 3, 4, 5] <| aX 2 (pM (cn (.bool true))) <|
 aX 3 (pM (cn (.bool false))) <|
 aX 4 (pM (cn (.bool false))) <|
 aX 5 (pM (cn (.bool true))) <|
 aXZ
noncomputable def f26_r8 (c : CallF) : RF := rg [2, 3, 4, 5] <| aX 2 (pM (cn (.bool true))) <|
 aX 3 (pM (cn (.bool true))) <|
 aX 4 (pM (cn (.bool false))) <|
 aX 5 (pM (cn (.bool false))) <|
 aXZ
noncomputable def f26 (c : CallF) (k : Nat) : St :=
 (bSeq (bReg (f26_r0 c))
 (bSeq (bSeq (bReg (f26_r1 c))
 (bBlock 0 (bSeq (bReg (f26_r2 c))
 (bCond (.tmp 7) (bSeq (bReg (f26_r3 c))
 (bEx .ret)) (bSeq (bReg (f26_r4 c))
 (bCond (.tmp 9) (bSeq (bReg (f26_r5 c))
 (bEx .ret)) (bSeq (bReg (f26_r6 c))
 (bCond (.tmp 11) (bSeq (bReg (f26_r7 c))
 (bEx .ret)) (bEx .nrm)))))))))
 (bSeq (bReg (f26_r8 c))
 (bEx .ret))))
theorem f26_eq (c : CallF) (k : Nat) : exec cx c 13 f26_an k (Tryd.f26.body.getD .skip) = f26 c k := by kernel_rfl
/-! ### f28: loop.example/g01263/impl.isAmount -/
def f28_an : Ann := ⟨[(0, r0 [0]), (1, r0 [2])], []⟩
noncomputable def f28_r0 (c : CallF) : RF := rg [0] <| aX 2 (pM (cn (.bool false))) <|
 aXZ
noncomputable def f28_r1 (c : CallF) : RF := rg [2] <| aX 3 (pM 0) <|
 aX 4 (pB .geq 2 3 (cn (.int .i64 0))) <|
 aX 5 (pM 4) <|
 aX 6 (pG 5 true (pM 0)) <|
 aX 7 (pG 5 true (pB .leq 2 6 (cn (.int .i64 100000000)))) <|
 aX 8 (pP 5 7 (cn (.bool false))) <|
 aX 2 (pM 8) <|
 aXZ
noncomputable def f28 (c : CallF) (k : Nat) : St :=
 (bSeq (bReg (f28_r0 c))
 (bSeq (bReg (f28_r1 c))
 (bEx .ret)))
theorem f28_eq (c : CallF) (k : Nat) : exec cx c 9 f28_an k (Tryd.f28.body.getD .skip) = f28 c k := by kernel_rfl
/-! ### f30: loop.example/g01263/spec.l01Part -/
def f30_an : Ann := ⟨[(0, r0 [0, 1, 2]), (1, r0 [0, 1, 2, 8]), (2, r0 [6]), (3, r0 [0, 1, 2, 11]), (4, r0 [0, 1, 2]), (5, r0 [6])], []⟩
noncomputable def f30_r0 (c : CallF) : RF := rg [0, 1, 2] <| aX 6 (pM (cn (.str []))) <|
 aXZ
noncomputable def f30_r1 (c : CallF) : RF := rg [0, 1, 2, 8] <| aX 7 (pM 1) <|
 aX 8 (pB .eql 2 7 (cn (.int .i64 0))) <|
 aXZ
noncomputable def f30_r2 (c : CallF) : RF := rg [6] <| aX 9 (pM 0) <|
 aX 6 (pM 9) <|
 aXZ
noncomputable def f30_r3 (c : CallF) : RF := rg [0, 1, 2, 11] <| aX 10 (pM 0) <|
 aX 11 (pB .neq 9 10 (cn (.str []))) <|
 aXZ
noncomputable def f30_r4 (c : CallF) : RF := rg [0, 1, 2] <| aX 12 (pM 0) <|
 aX 13 (pB .add 9 12 (cn (.str [32]))) <|
 aX 0 (pM 13) <|
 aXZ
noncomputable def f30_r5 (c : CallF) : RF := rg [6] <| aX 14 (pM 0) <|
 aX 15 (pM 1) <|
 aX 16 (pK c false 22 [15]) <|
 aX 17 (pB .add 9 14 16) <|
 aX 18 (pM 2) <|
 aX 19 (pB .add 9 17 18) <|
 aX 6 (pM 19) <|
 aXZ
noncomputable def f30 (c : CallF) (k : Nat) : St :=
 (bSeq (bReg (f30_r0 c))
 (bSeq (bSeq (bReg (f30_r1 c))
 (bCond (.tmp 8) (bSeq (bReg (f30_r2 c))
 (bEx .ret)) (bEx .nrm)))
 (bSeq (bSeq (bReg (f30_r3 c))
 (bCond (.tmp 11) (bReg (f30_r4 c)) (bEx .nrm)))
 (bSeq (bReg (f30_r5 c))
 (bEx .ret)))))
theorem f30_eq (c : CallF) (k : Nat) : exec cx c 20 f30_an k (Tryd.f30.body.getD .skip) = f30 c k := by kernel_rfl
def anns : List (Nat × Ann) := [(3, f3_an), (4, f4_an), (5, f5_an), (6, f6_an), (7, f7_an), (8, f8_an), (9, f9_an), (10, f10_an), (11, f11_an), (12, f12_an), (13, f13_an), (14, f14_an), (15, f15_an), (16, f16_an), (17, f17_an), (18, f18_an), (19, f19_an), (20, f20_an), (21, f21_an), (22, f22_an), (23, f23_an), (24, f24_an), (25, f25_an), (26, f26_an), (28, f28_an), (30, f30_an)]
noncomputable def CN0 : Nat → CallF := callN cx (Go.Ab.look anns) (fun _ _ _ => none) (fun _ => false)
def isP (f : Nat) : Bool := has [27, 29] f
noncomputable def primF : CallF := splitNil (callN cx (Go.Ab.look anns) (fun _ _ _ => none) (fun _ => false) 3)
noncomputable def CN : Nat → CallF := callN cx (Go.Ab.look anns) (withLib libT primF) isP
end Go.Proofs.YtkkmbehooldmjaaDoor

/- Printed by a program of ours (ext.py). -/
import Derived.Test.YtbhbmgmnnkcmcaaDoorAbLib
import Derived.Test.YtbhbmgmnnkcmcaaDoorProg
set_option linter.unusedVariables false
set_option linter.unusedSimpArgs false
set_option maxRecDepth 100000
set_option maxHeartbeats 2000000
namespace Go.Proofs.YtbhbmgmnnkcmcaaDoor
open Go Go.Ab
noncomputable def cx : Cx := ⟨Tryd.prog, fun f => has [26, 69] f⟩
noncomputable abbrev pB := pB_ cx.P
noncomputable abbrev pLen := pLen_ cx.P
noncomputable abbrev pAl := pAl_ cx.P
noncomputable abbrev pK := pK_ cx
/-! ### f6: loop.example/g01263/laws.FnExactReadAccount -/
def f6_an : Ann := ⟨[(0, r0 [0]), (1, r0 [0, 13]), (2, r0 [2]), (3, r0 [0, 3, 4]), (4, ⟨[], [1], [], [], [0, 3, 4, 5, 6]⟩), (5, r0 [0, 3, 4, 5, 32]), (6, r0 [2]), (7, r0 [0, 3, 4, 5, 7]), (8, r0 [0, 3, 4, 5, 7]), (9, r0 [0, 3, 4, 5, 7, 8]), (10, r0 [0, 3, 4, 5, 7, 8]), (11, r0 [0, 3, 4, 5, 7, 8, 40]), (12, r0 [2]), (13, r0 [0, 3, 4, 5, 7, 43]), (14, r0 [2]), (15, r0 [3, 4, 5, 7, 9, 10]), (16, r0 [5, 7, 57]), (17, r0 [2]), (18, r0 [5, 7, 8]), (19, r0 [7, 8]), (20, r0 [7, 8, 62]), (21, r0 [2]), (22, r0 [65]), (23, r0 [2]), (24, r0 [2])], []⟩
noncomputable def f6_r0 (c : CallF) : RF := rg [0] <| aX 2 (pM (cn (.bool false))) <|
 aXZ
noncomputable def f6_r1 (c : CallF) : RF := rg [0, 13] <| aX 11 (pM 0) <|
 aX 12 (pLen 9 11) <|
 aX 13 (pB .gtr 3 12 (cn (.int .i64 1048576))) <|
 aXZ
noncomputable def f6_r2 (c : CallF) : RF := rg [2] <| aX 2 (pM (cn (.bool true))) <|
 aXZ
noncomputable def f6_r3 (c : CallF) : RF := rg [0, 3, 4] <| aX 15 (pM 0) <|
 aX 16 (pK c false 24 [15]) <|
 aX 14 (pM 16) <|
 aX 17 (pE 0 14) <|
 aX 18 (pE 1 14) <|
 aX 3 (pAl 29 3) <|
 aX0 (pS 3 3 17) <|
 aX 4 (pM 18) <|
 aXZ
noncomputable def f6_r4 (c : CallF) : RF := rg [0, 3, 4, 5, 6] <| aX 20 (pM 0) <|
 aX 21 (pK c true 25 [20]) <|
 aX 19 (pM 21) <|
 aX 22 (pE 0 19) <|
 aX 23 (pE 1 19) <|
 aX 5 (pAl 29 3) <|
 aX0 (pS 3 5 22) <|
 aX 6 (pM 23) <|
 aXZ
noncomputable def f6_r5 (c : CallF) : RF := rg [0, 3, 4, 5, 32] <| aX 24 (pL true 3 5) <|
 aX 25 (pL true 3 3) <|
 aX 26 (pK c false 13 [24, 25]) <|
 aX 27 (pU .not 26) <|
 aX 28 (pM 27) <|
 aX 29 (pG 28 false (pM 6)) <|
 aX 30 (pG 28 false (pM 4)) <|
 aX 31 (pG 28 false (pB .neq 2 29 30)) <|
 aX 32 (pP 28 (cn (.bool true)) 31) <|
 aXZ
noncomputable def f6_r6 (c : CallF) : RF := rg [2] <| aX 2 (pM (cn (.bool false))) <|
 aXZ
noncomputable def f6_r7 (c : CallF) : RF := rg [0, 3, 4, 5, 7] <| aX 7 (pM (cn (.int .i64 1))) <|
 aXZ
noncomputable def f6_r8 (c : CallF) : RF := rg [0, 3, 4, 5, 7] <| aX 33 (pL true 3 5) <|
 aX 34 (pM 7) <|
 aX 35 (pK c false 26 [33, 34]) <|
 aX 7 (pM 35) <|
 aXZ
noncomputable def f6_r9 (c : CallF) : RF := rg [0, 3, 4, 5, 7, 8] <| aX 8 (pM (cn (.int .i64 1))) <|
 aXZ
noncomputable def f6_r10 (c : CallF) : RF := rg [0, 3, 4, 5, 7, 8] <| aX 36 (pL true 3 5) <|
 aX 37 (pM 8) <|
 aX 38 (pK c false 27 [36, 37]) <|
 aX 8 (pM 38) <|
 aXZ
noncomputable def f6_r11 (c : CallF) : RF := rg [0, 3, 4, 5, 7, 8, 40] <| aX 39 (pM 8) <|
 aX 40 (pB .lss 3 39 (cn (.int .i64 0))) <|
 aXZ
noncomputable def f6_r12 (c : CallF) : RF := rg [2] <| aX 2 (pM (cn (.bool false))) <|
 aXZ
noncomputable def f6_r13 (c : CallF) : RF := rg [0, 3, 4, 5, 7, 43] <| aX 41 (pM 8) <|
 aX 42 (pM 7) <|
 aX 43 (pB .neq 3 41 42) <|
 aXZ
noncomputable def f6_r14 (c : CallF) : RF := rg [2] <| aX 2 (pM (cn (.bool false))) <|
 aXZ
noncomputable def f6_r15 (c : CallF) : RF := rg [3, 4, 5, 7, 9, 10] <| aX 45 (pM 0) <|
 aX 46 (pK c false 25 [45]) <|
 aX 44 (pM 46) <|
 aX 47 (pE 0 44) <|
 aX 48 (pE 1 44) <|
 aX 9 (pAl 29 3) <|
 aX0 (pS 3 9 47) <|
 aX 10 (pM 48) <|
 aXZ
noncomputable def f6_r16 (c : CallF) : RF := rg [5, 7, 57] <| aX 49 (pL true 3 9) <|
 aX 50 (pL true 3 3) <|
 aX 51 (pK c false 13 [49, 50]) <|
 aX 52 (pU .not 51) <|
 aX 53 (pM 52) <|
 aX 54 (pG 53 false (pM 10)) <|
 aX 55 (pG 53 false (pM 4)) <|
 aX 56 (pG 53 false (pB .neq 2 54 55)) <|
 aX 57 (pP 53 (cn (.bool true)) 56) <|
 aXZ
noncomputable def f6_r17 (c : CallF) : RF := rg [2] <| aX 2 (pM (cn (.bool false))) <|
 aXZ
noncomputable def f6_r18 (c : CallF) : RF := rg [5, 7, 8] <| aX 8 (pM (cn (.int .i64 1))) <|
 aXZ
noncomputable def f6_r19 (c : CallF) : RF := rg [7, 8] <| aX 58 (pL true 3 5) <|
 aX 59 (pM 8) <|
 aX 60 (pK c false 27 [58, 59]) <|
 aX 8 (pM 60) <|
 aXZ
noncomputable def f6_r20 (c : CallF) : RF := rg [7, 8, 62] <| aX 61 (pM 8) <|
 aX 62 (pB .lss 3 61 (cn (.int .i64 0))) <|
 aXZ
noncomputable def f6_r21 (c : CallF) : RF := rg [2] <| aX 2 (pM (cn (.bool false))) <|
 aXZ
noncomputable def f6_r22 (c : CallF) : RF := rg [65] <| aX 63 (pM 8) <|
 aX 64 (pM 7) <|
 aX 65 (pB .neq 3 63 64) <|
 aXZ
noncomputable def f6_r23 (c : CallF) : RF := rg [2] <| aX 2 (pM (cn (.bool false))) <|
 aXZ
noncomputable def f6_r24 (c : CallF) : RF := rg [2] <| aX 2 (pM (cn (.bool true))) <|
 aXZ
noncomputable def f6 (c : CallF) (k : Nat) : St :=
 (bSeq (bReg (f6_r0 c))
 (bSeq (bSeq (bReg (f6_r1 c))
 (bCond (.tmp 13) (bSeq (bReg (f6_r2 c))
 (bEx .ret)) (bEx .nrm)))
 (bSeq (bReg (f6_r3 c))
 (bSeq (bReg (f6_r4 c))
 (bSeq (bSeq (bReg (f6_r5 c))
 (bCond (.tmp 32) (bSeq (bReg (f6_r6 c))
 (bEx .ret)) (bEx .nrm)))
 (bSeq (bReg (f6_r7 c))
 (bSeq (bReg (f6_r8 c))
 (bSeq (bReg (f6_r9 c))
 (bSeq (bReg (f6_r10 c))
 (bSeq (bSeq (bReg (f6_r11 c))
 (bCond (.tmp 40) (bSeq (bReg (f6_r12 c))
 (bEx .ret)) (bEx .nrm)))
 (bSeq (bSeq (bReg (f6_r13 c))
 (bCond (.tmp 43) (bSeq (bReg (f6_r14 c))
 (bEx .ret)) (bEx .nrm)))
 (bSeq (bReg (f6_r15 c))
 (bSeq (bSeq (bReg (f6_r16 c))
 (bCond (.tmp 57) (bSeq (bReg (f6_r17 c))
 (bEx .ret)) (bEx .nrm)))
 (bSeq (bReg (f6_r18 c))
 (bSeq (bReg (f6_r19 c))
 (bSeq (bSeq (bReg (f6_r20 c))
 (bCond (.tmp 62) (bSeq (bReg (f6_r21 c))
 (bEx .ret)) (bEx .nrm)))
 (bSeq (bSeq (bReg (f6_r22 c))
 (bCond (.tmp 65) (bSeq (bReg (f6_r23 c))
 (bEx .ret)) (bEx .nrm)))
 (bSeq (bReg (f6_r24 c))
 (bEx .ret)))))))))))))))))))
theorem f6_eq (c : CallF) (k : Nat) : exec cx c 66 f6_an k (Tryd.f6.body.getD .skip) = f6 c k := by kernel_rfl
/-! ### f12: loop.example/g01263/impl.AccountText -/
def f12_an : Ann := ⟨[(0, r0 [1]), (1, r0 [1, 15]), (2, r0 [2]), (3, r0 [1, 3]), (4, r0 [1, 3, 20, 21, 22]), (5, r0 [1, 3, 20, 21, 22, 23]), (6, r0 [1, 3, 5, 20, 21, 22]), (7, r0 [1, 3, 20, 21, 22]), (8, r0 [1, 3, 20, 21, 22]), (9, r0 [1, 3, 40]), (10, r0 [2]), (11, r0 [1, 3, 51]), (12, r0 [2]), (13, r0 [2])], [(5, [1, 3, 20, 21, 22])]⟩
noncomputable def f12_r0 (c : CallF) : RF := rg [1] <| aX 1 (pBox 3 0) <|
 aX 2 (pM (cn (.str []))) <|
 aXZ
noncomputable def f12_r1 (c : CallF) : RF := rg [1, 15] <| aX 6 (pL true 3 1) <|
 aX 7 (pK c false 41 [6]) <|
 aX 8 (pU .not 7) <|
 aX 9 (pM 8) <|
 aX 10 (pG 9 false (pF 2 1 1)) <|
 aX 11 (pG 9 false (pL false 1 10)) <|
 aX 12 (pG 9 false (pK c false 43 [11])) <|
 aX 13 (pG 9 false (pK c false 42 [12])) <|
 aX 14 (pG 9 false (pU .not 13)) <|
 aX 15 (pP 9 (cn (.bool true)) 14) <|
 aXZ
noncomputable def f12_r2 (c : CallF) : RF := rg [2] <| aX 2 (pM (cn (.str []))) <|
 aXZ
noncomputable def f12_r3 (c : CallF) : RF := rg [1, 3] <| aX 16 (pF 0 1 1) <|
 aX 17 (pL false 1 16) <|
 aX 18 (pB .add 9 17 (cn (.str [10]))) <|
 aX 3 (pM 18) <|
 aXZ
noncomputable def f12_r4 (c : CallF) : RF := rg [1, 3, 20, 21, 22] <| aX 19 (pF 1 1 1) <|
 aX 20 (pL false 1 19) <|
 aX 21 (pLen 27 20) <|
 aX 22 (pM (cn (.int .i64 0))) <|
 aXZ
noncomputable def f12_r5 (c : CallF) : RF := rg [1, 3, 20, 21, 22, 23] <| aX 23 (pB .lss 3 22 21) <|
 aXZ
noncomputable def f12_r6 (c : CallF) : RF := rg [1, 3, 5, 20, 21, 22] <| aX 24 (pI 2 20 22) <|
 aX 25 (pL true 2 24) <|
 aX 5 (pAl 85 2) <|
 aX0 (pS 2 5 25) <|
 aXZ
noncomputable def f12_r7 (c : CallF) : RF := rgD [1, 3, 20, 21, 22] (aY 26 (pM 3) <|
 aY 27 (pK c false 44 []) <|
 aY 28 (pF 0 1 5) <|
 aY 29 (pL false 1 28) <|
 aY 30 (pI 1 27 29) <|
 aY 31 (pL false 1 30) <|
 aY 32 (pB .add 9 31 (cn (.str [32]))) <|
 aY 33 (pF 1 1 5) <|
 aY 34 (pL false 1 33) <|
 aY 35 (pK c false 45 [34]) <|
 aY 36 (pB .add 9 32 35) <|
 aY 37 (pB .add 9 36 (cn (.str [10]))) <|
 aY 38 (pB .add 9 26 37) <|
 aY 3 (pM 38) <|
 aYZ)
 (aXZ)
noncomputable def f12_r8 (c : CallF) : RF := rg [1, 3, 20, 21, 22] <| aX 39 (pB .add 3 22 (cn (.int .i64 1))) <|
 aX 22 (pM 39) <|
 aXZ
noncomputable def f12_r9 (c : CallF) : RF := rg [1, 3, 40] <| aX 41 (pF 2 1 1) <|
 aX 42 (pL false 1 41) <|
 aX 43 (pB .gtr 2 42 (cn (.int .i64 0))) <|
 aX 40 (pM 43) <|
 aXZ
noncomputable def f12_r10 (c : CallF) : RF := rg [2] <| aX 44 (pM 3) <|
 aX 45 (pB .add 9 44 (cn (.str [111, 119, 101, 115, 32]))) <|
 aX 46 (pF 2 1 1) <|
 aX 47 (pL false 1 46) <|
 aX 48 (pK c false 45 [47]) <|
 aX 49 (pB .add 9 45 48) <|
 aX 50 (pB .add 9 49 (cn (.str [10]))) <|
 aX 2 (pM 50) <|
 aXZ
noncomputable def f12_r11 (c : CallF) : RF := rg [1, 3, 51] <| aX 52 (pF 2 1 1) <|
 aX 53 (pL false 1 52) <|
 aX 54 (pB .lss 2 53 (cn (.int .i64 0))) <|
 aX 51 (pM 54) <|
 aXZ
noncomputable def f12_r12 (c : CallF) : RF := rg [2] <| aX 55 (pM 3) <|
 aX 56 (pB .add 9 55 (cn (.str [111, 118, 101, 114, 32]))) <|
 aX 57 (pF 2 1 1) <|
 aX 58 (pL false 1 57) <|
 aX 59 (pU .neg 58) <|
 aX 60 (pK c false 45 [59]) <|
 aX 61 (pB .add 9 56 60) <|
 aX 62 (pB .add 9 61 (cn (.str [10]))) <|
 aX 2 (pM 62) <|
 aXZ
noncomputable def f12_r13 (c : CallF) : RF := rg [2] <| aX 63 (pM 3) <|
 aX 64 (pB .add 9 63 (cn (.str [113, 117, 105, 116, 10]))) <|
 aX 2 (pM 64) <|
 aXZ
noncomputable def f12_l5 (c : CallF) (k : Nat) : St :=
 (bSeq (bReg (f12_r5 c))
 (bSeq (bCond (.tmp 23) (bEx .nrm) (bEx (.ext 0)))
 (bSeq (bBlock 1 (bSeq (bReg (f12_r6 c))
 (bReg (f12_r7 c))))
 (bReg (f12_r8 c)))))
noncomputable def f12 (c : CallF) (k : Nat) : St :=
 (bSeq (bReg (f12_r0 c))
 (bSeq (bSeq (bReg (f12_r1 c))
 (bCond (.tmp 15) (bSeq (bReg (f12_r2 c))
 (bEx .ret)) (bEx .nrm)))
 (bSeq (bReg (f12_r3 c))
 (bSeq (bSeq (bReg (f12_r4 c))
 (bBlock 0 (bLoop [1, 3, 20, 21, 22] (f12_l5 c k) k)))
 (bSeq (bBlock 2 (bSeq (bReg (f12_r9 c))
 (bCond (.tmp 40) (bSeq (bReg (f12_r10 c))
 (bEx .ret)) (bSeq (bReg (f12_r11 c))
 (bCond (.tmp 51) (bSeq (bReg (f12_r12 c))
 (bEx .ret)) (bEx .nrm))))))
 (bSeq (bReg (f12_r13 c))
 (bEx .ret)))))))
theorem f12_eq (c : CallF) (k : Nat) : exec cx c 65 f12_an k (Tryd.f12.body.getD .skip) = f12 c k := by kernel_rfl
/-! ### f13: loop.example/g01263/laws.eqAccount -/
def f13_an : Ann := ⟨[(0, r0 [2, 3]), (1, r0 [2, 3, 9]), (2, r0 [4]), (3, r0 [2, 3, 15]), (4, r0 [4]), (5, r0 [20]), (6, r0 [4]), (7, r0 [4])], []⟩
noncomputable def f13_r0 (c : CallF) : RF := rg [2, 3] <| aX 2 (pBox 3 0) <|
 aX 3 (pBox 3 1) <|
 aX 4 (pM (cn (.bool false))) <|
 aXZ
noncomputable def f13_r1 (c : CallF) : RF := rg [2, 3, 9] <| aX 5 (pF 0 1 2) <|
 aX 6 (pL false 1 5) <|
 aX 7 (pF 0 1 3) <|
 aX 8 (pL false 1 7) <|
 aX 9 (pB .neq 9 6 8) <|
 aXZ
noncomputable def f13_r2 (c : CallF) : RF := rg [4] <| aX 4 (pM (cn (.bool false))) <|
 aXZ
noncomputable def f13_r3 (c : CallF) : RF := rg [2, 3, 15] <| aX 10 (pF 1 1 2) <|
 aX 11 (pL false 1 10) <|
 aX 12 (pF 1 1 3) <|
 aX 13 (pL false 1 12) <|
 aX 14 (pK c false 46 [11, 13]) <|
 aX 15 (pU .not 14) <|
 aXZ
noncomputable def f13_r4 (c : CallF) : RF := rg [4] <| aX 4 (pM (cn (.bool false))) <|
 aXZ
noncomputable def f13_r5 (c : CallF) : RF := rg [20] <| aX 16 (pF 2 1 2) <|
 aX 17 (pL false 1 16) <|
 aX 18 (pF 2 1 3) <|
 aX 19 (pL false 1 18) <|
 aX 20 (pB .neq 2 17 19) <|
 aXZ
noncomputable def f13_r6 (c : CallF) : RF := rg [4] <| aX 4 (pM (cn (.bool false))) <|
 aXZ
noncomputable def f13_r7 (c : CallF) : RF := rg [4] <| aX 4 (pM (cn (.bool true))) <|
 aXZ
noncomputable def f13 (c : CallF) (k : Nat) : St :=
 (bSeq (bReg (f13_r0 c))
 (bSeq (bSeq (bReg (f13_r1 c))
 (bCond (.tmp 9) (bSeq (bReg (f13_r2 c))
 (bEx .ret)) (bEx .nrm)))
 (bSeq (bSeq (bReg (f13_r3 c))
 (bCond (.tmp 15) (bSeq (bReg (f13_r4 c))
 (bEx .ret)) (bEx .nrm)))
 (bSeq (bSeq (bReg (f13_r5 c))
 (bCond (.tmp 20) (bSeq (bReg (f13_r6 c))
 (bEx .ret)) (bEx .nrm)))
 (bSeq (bReg (f13_r7 c))
 (bEx .ret))))))
theorem f13_eq (c : CallF) (k : Nat) : exec cx c 21 f13_an k (Tryd.f13.body.getD .skip) = f13 c k := by kernel_rfl
/-! ### f24: loop.example/g01263/spec.ReadAccount -/
def f24_an : Ann := ⟨[(0, r0 [0, 2]), (1, r0 [2, 4]), (2, r0 [2, 4, 5]), (3, r0 [2, 4, 5, 6, 7, 8]), (4, r0 [2, 6, 37]), (5, r0 [2, 3]), (6, r0 [2, 3])], []⟩
noncomputable def f24_r0 (c : CallF) : RF := rg [0, 2] <| aX 2 (pAl 29 3) <|
 aX 3 (pM (cn (.int .i64 0))) <|
 aXZ
noncomputable def f24_r1 (c : CallF) : RF := rg [2, 4] <| aX 9 (pM 0) <|
 aX 10 (pK c false 65 [9, (cn (.int .u8 10))]) <|
 aX 4 (pM 10) <|
 aXZ
noncomputable def f24_r2 (c : CallF) : RF := rg [2, 4, 5] <| aX 11 (pM 4) <|
 aX 12 (pLen 86 11) <|
 aX 5 (pM 12) <|
 aXZ
noncomputable def f24_r3 (c : CallF) : RF := rg [2, 4, 5, 6, 7, 8] <| aX 14 (pM 4) <|
 aX 15 (pM 5) <|
 aX 16 (pB .sub 3 15 (cn (.int .i64 1))) <|
 aX 17 (fun n e M => keep (aSlice 1 none (some (eget e 16)) (eget e 14) M)) <|
 aX 18 (pK c false 66 [17]) <|
 aX 13 (pM 18) <|
 aX 19 (pE 0 13) <|
 aX 20 (pE 1 13) <|
 aX 21 (pE 2 13) <|
 aX 6 (pAl 29 3) <|
 aX0 (pS 3 6 19) <|
 aX 7 (pM 20) <|
 aX 8 (pM 21) <|
 aXZ
noncomputable def f24_r4 (c : CallF) : RF := rg [2, 6, 37] <| aX 22 (pM 8) <|
 aX 23 (pU .not 22) <|
 aX 24 (pM 23) <|
 aX 25 (pG 24 false (pM 7)) <|
 aX 26 (pG 24 false (pM 5)) <|
 aX 27 (pG 24 false (pB .sub 3 26 (cn (.int .i64 1)))) <|
 aX 28 (pG 24 false (pB .neq 3 25 27)) <|
 aX 29 (pP 24 (cn (.bool true)) 28) <|
 aX 30 (pM 29) <|
 aX 31 (pG 30 false (pM 4)) <|
 aX 32 (pG 30 false (pM 5)) <|
 aX 33 (pG 30 false (pB .sub 3 32 (cn (.int .i64 1)))) <|
 aX 34 (pG 30 false (pI 1 31 33)) <|
 aX 35 (pG 30 false (pL false 1 34)) <|
 aX 36 (pG 30 false (pB .neq 9 35 (cn (.str [])))) <|
 aX 37 (pP 30 (cn (.bool true)) 36) <|
 aXZ
noncomputable def f24_r5 (c : CallF) : RF := rg [2, 3] <| aX 38 (fun n e M => keep (aBuild (zeroOf cx.P 29) [] M)) <|
 aX0 (pS 3 2 38) <|
 aX 3 (pM (cn (.int .i64 5))) <|
 aXZ
noncomputable def f24_r6 (c : CallF) : RF := rg [2, 3] <| aX 39 (pL true 3 6) <|
 aX0 (pS 3 2 39) <|
 aX 3 (pM (cn (.int .i64 0))) <|
 aXZ
noncomputable def f24 (c : CallF) (k : Nat) : St :=
 (bSeq (bReg (f24_r0 c))
 (bSeq (bReg (f24_r1 c))
 (bSeq (bReg (f24_r2 c))
 (bSeq (bReg (f24_r3 c))
 (bSeq (bSeq (bReg (f24_r4 c))
 (bCond (.tmp 37) (bSeq (bReg (f24_r5 c))
 (bEx .ret)) (bEx .nrm)))
 (bSeq (bReg (f24_r6 c))
 (bEx .ret)))))))
theorem f24_eq (c : CallF) (k : Nat) : exec cx c 40 f24_an k (Tryd.f24.body.getD .skip) = f24 c k := by kernel_rfl
/-! ### f25: loop.example/g01263/impl.ReadAccount -/
def f25_an : Ann := ⟨[(0, r0 [0, 2]), (1, r0 [2, 4, 5]), (2, ⟨[7], [], [], [], [2, 4, 5, 6, 7, 8]⟩), (3, r0 [2, 6, 31]), (4, ⟨[1], [], [], [], [2, 3]⟩), (5, ⟨[1], [], [], [], [2, 3]⟩)], []⟩
noncomputable def f25_r0 (c : CallF) : RF := rg [0, 2] <| aX 2 (pAl 29 3) <|
 aX 3 (pM (cn (.int .i64 0))) <|
 aXZ
noncomputable def f25_r1 (c : CallF) : RF := rg [2, 4, 5] <| aX 10 (pM 0) <|
 aX 11 (pK c false 67 [10]) <|
 aX 9 (pM 11) <|
 aX 12 (pE 0 9) <|
 aX 13 (pE 1 9) <|
 aX 4 (pM 12) <|
 aX 5 (pM 13) <|
 aXZ
noncomputable def f25_r2 (c : CallF) : RF := rg [2, 4, 5, 6, 7, 8] <| aX 15 (pM 4) <|
 aX 16 (pK c false 68 [15]) <|
 aX 14 (pM 16) <|
 aX 17 (pE 0 14) <|
 aX 18 (pE 1 14) <|
 aX 19 (pE 2 14) <|
 aX 6 (pAl 29 3) <|
 aX0 (pSK 3 6 17) <|
 aX 7 (pM 18) <|
 aX 8 (pM 19) <|
 aXZ
noncomputable def f25_r3 (c : CallF) : RF := rg [2, 6, 31] <| aX 20 (pM 5) <|
 aX 21 (pU .not 20) <|
 aX 22 (pM 21) <|
 aX 23 (pG 22 false (pM 8)) <|
 aX 24 (pG 22 false (pU .not 23)) <|
 aX 25 (pP 22 (cn (.bool true)) 24) <|
 aX 26 (pM 25) <|
 aX 27 (pG 26 false (pM 7)) <|
 aX 28 (pG 26 false (pM 4)) <|
 aX 29 (pG 26 false (pLen 86 28)) <|
 aX 30 (pG 26 false (pB .neq 3 27 29)) <|
 aX 31 (pP 26 (cn (.bool true)) 30) <|
 aXZ
noncomputable def f25_r4 (c : CallF) : RF := rg [2, 3] <| aX 32 (fun n e M => keep (aBuild (zeroOf cx.P 29) [] M)) <|
 aX0 (pSK 3 2 32) <|
 aX 3 (pM (cn (.int .i64 5))) <|
 aXZ
noncomputable def f25_r5 (c : CallF) : RF := rg [2, 3] <| aX 33 (pL true 3 6) <|
 aX0 (pSK 3 2 33) <|
 aX 3 (pM (cn (.int .i64 0))) <|
 aXZ
noncomputable def f25 (c : CallF) (k : Nat) : St :=
 (bSeq (bReg (f25_r0 c))
 (bSeq (bReg (f25_r1 c))
 (bSeq (bReg (f25_r2 c))
 (bSeq (bSeq (bReg (f25_r3 c))
 (bCond (.tmp 31) (bSeq (bReg (f25_r4 c))
 (bEx .ret)) (bEx .nrm)))
 (bSeq (bReg (f25_r5 c))
 (bEx .ret))))))
theorem f25_eq (c : CallF) (k : Nat) : exec cx c 34 f25_an k (Tryd.f25.body.getD .skip) = f25 c k := by kernel_rfl
/-! ### f26: loop.example/g01263/laws.markAccount -/
def f26_an : Ann := ⟨[(0, ⟨[0], [], [], [], [1, 2]⟩), (1, r0 [1]), (2, r0 [4])], []⟩
noncomputable def f26_r0 (c : CallF) : RF := rg [1, 2] <| aX 2 (fun n e M => aBoxO n 29 3 (eget e 0) M) <|
 aX 4 (pM (cn (.int .i64 0))) <|
 aXZ
noncomputable def f26_r1 (c : CallF) : RF := rg [1] <| aX 5 (pF 1 1 2) <|
 aX 6 (pL false 1 5) <|
 aX 7 (pM 1) <|
 aX 8 (pK c false 69 [6, 7]) <|
 aX 1 (pM 8) <|
 aXZ
noncomputable def f26_r2 (c : CallF) : RF := rg [4] <| aX 9 (pM 1) <|
 aX 4 (pM 9) <|
 aXZ
noncomputable def f26 (c : CallF) (k : Nat) : St :=
 (bSeq (bReg (f26_r0 c))
 (bSeq (bReg (f26_r1 c))
 (bSeq (bReg (f26_r2 c))
 (bEx .ret))))
theorem f26_eq (c : CallF) (k : Nat) : exec cx c 10 f26_an k (Tryd.f26.body.getD .skip) = f26 c k := by kernel_rfl
/-! ### f27: loop.example/g01263/laws.heldAccount -/
def f27_an : Ann := ⟨[(0, r0 [1, 2]), (1, r0 [1]), (2, r0 [1, 10]), (3, r0 [4]), (4, r0 [4])], []⟩
noncomputable def f27_r0 (c : CallF) : RF := rg [1, 2] <| aX 2 (pBox 3 0) <|
 aX 4 (pM (cn (.int .i64 0))) <|
 aXZ
noncomputable def f27_r1 (c : CallF) : RF := rg [1] <| aX 5 (pF 1 1 2) <|
 aX 6 (pL false 1 5) <|
 aX 7 (pM 1) <|
 aX 8 (pK c false 70 [6, 7]) <|
 aX 1 (pM 8) <|
 aXZ
noncomputable def f27_r2 (c : CallF) : RF := rg [1, 10] <| aX 9 (pM 1) <|
 aX 10 (pB .lss 3 9 (cn (.int .i64 0))) <|
 aXZ
noncomputable def f27_r3 (c : CallF) : RF := rg [4] <| aX 4 (pM (cn (.int .i64 (-1)))) <|
 aXZ
noncomputable def f27_r4 (c : CallF) : RF := rg [4] <| aX 11 (pM 1) <|
 aX 4 (pM 11) <|
 aXZ
noncomputable def f27 (c : CallF) (k : Nat) : St :=
 (bSeq (bReg (f27_r0 c))
 (bSeq (bReg (f27_r1 c))
 (bSeq (bSeq (bReg (f27_r2 c))
 (bCond (.tmp 10) (bSeq (bReg (f27_r3 c))
 (bEx .ret)) (bEx .nrm)))
 (bSeq (bReg (f27_r4 c))
 (bEx .ret)))))
theorem f27_eq (c : CallF) (k : Nat) : exec cx c 12 f27_an k (Tryd.f27.body.getD .skip) = f27 c k := by kernel_rfl
/-! ### f38: loop.example/g01263/spec.l05Plain -/
def f38_an : Ann := ⟨[(0, r0 [0]), (1, r0 [2])], []⟩
noncomputable def f38_r0 (c : CallF) : RF := rg [0] <| aX 2 (pM (cn (.bool false))) <|
 aXZ
noncomputable def f38_r1 (c : CallF) : RF := rg [2] <| aX 3 (pM 0) <|
 aX 4 (pK c false 83 [3]) <|
 aX 5 (pM 4) <|
 aX 6 (pG 5 true (pM 0)) <|
 aX 7 (pG 5 true (pN 6)) <|
 aX 8 (pG 5 true (pF 2 1 7)) <|
 aX 9 (pG 5 true (pL false 1 8)) <|
 aX 10 (pG 5 true (pK c false 84 [9, (cn (.int .i64 (-100000000))), (cn (.int .i64 100000000))])) <|
 aX 11 (pP 5 10 (cn (.bool false))) <|
 aX 2 (pM 11) <|
 aXZ
noncomputable def f38 (c : CallF) (k : Nat) : St :=
 (bSeq (bReg (f38_r0 c))
 (bSeq (bReg (f38_r1 c))
 (bEx .ret)))
theorem f38_eq (c : CallF) (k : Nat) : exec cx c 12 f38_an k (Tryd.f38.body.getD .skip) = f38 c k := by kernel_rfl
/-! ### f39: loop.example/g01263/spec.l05Text -/
def f39_an : Ann := ⟨[(0, r0 [0]), (1, r0 [0, 3]), (2, r0 [0, 3, 4]), (3, r0 [0, 3, 4, 16]), (4, r0 [0, 3, 4]), (5, r0 [0, 3, 4]), (6, r0 [0, 3, 48]), (7, r0 [2]), (8, r0 [0, 3, 62]), (9, r0 [2]), (10, r0 [2])], [(3, [0, 3, 4])]⟩
noncomputable def f39_r0 (c : CallF) : RF := rg [0] <| aX 2 (pM (cn (.str []))) <|
 aXZ
noncomputable def f39_r1 (c : CallF) : RF := rg [0, 3] <| aX 5 (pM 0) <|
 aX 6 (pN 5) <|
 aX 7 (pF 0 1 6) <|
 aX 8 (pL false 1 7) <|
 aX 9 (pB .add 9 8 (cn (.str [10]))) <|
 aX 3 (pM 9) <|
 aXZ
noncomputable def f39_r2 (c : CallF) : RF := rg [0, 3, 4] <| aX 4 (pM (cn (.int .i64 0))) <|
 aXZ
noncomputable def f39_r3 (c : CallF) : RF := rg [0, 3, 4, 16] <| aX 10 (pM 4) <|
 aX 11 (pM 0) <|
 aX 12 (pN 11) <|
 aX 13 (pF 1 1 12) <|
 aX 14 (pL false 1 13) <|
 aX 15 (pLen 27 14) <|
 aX 16 (pB .lss 3 10 15) <|
 aXZ
noncomputable def f39_r4 (c : CallF) : RF := rg [0, 3, 4] <| aX 17 (pM 4) <|
 aX 18 (pB .add 3 17 (cn (.int .i64 1))) <|
 aX 4 (pM 18) <|
 aXZ
noncomputable def f39_r5 (c : CallF) : RF := rgD [0, 3, 4] (aY 19 (pM 3) <|
 aY 20 (pK c false 85 []) <|
 aY 21 (pM 0) <|
 aY 22 (pN 21) <|
 aY 23 (pF 1 1 22) <|
 aY 24 (pL false 1 23) <|
 aY 25 (pM 4) <|
 aY 26 (pI 2 24 25) <|
 aY 27 (pF 0 1 26) <|
 aY 28 (pL false 1 27) <|
 aY 29 (pI 1 20 28) <|
 aY 30 (pL false 1 29) <|
 aY 31 (pB .add 9 30 (cn (.str [32]))) <|
 aY 32 (pM 0) <|
 aY 33 (pN 32) <|
 aY 34 (pF 1 1 33) <|
 aY 35 (pL false 1 34) <|
 aY 36 (pM 4) <|
 aY 37 (pI 2 35 36) <|
 aY 38 (pF 1 1 37) <|
 aY 39 (pL false 1 38) <|
 aY 40 (pK c false 50 [39]) <|
 aY 41 (pB .add 9 31 40) <|
 aY 42 (pB .add 9 41 (cn (.str [10]))) <|
 aY 43 (pB .add 9 19 42) <|
 aY 3 (pM 43) <|
 aYZ)
 (aXZ)
noncomputable def f39_r6 (c : CallF) : RF := rg [0, 3, 48] <| aX 44 (pM 0) <|
 aX 45 (pN 44) <|
 aX 46 (pF 2 1 45) <|
 aX 47 (pL false 1 46) <|
 aX 48 (pB .gtr 2 47 (cn (.int .i64 0))) <|
 aXZ
noncomputable def f39_r7 (c : CallF) : RF := rg [2] <| aX 49 (pM 3) <|
 aX 50 (pB .add 9 49 (cn (.str [111, 119, 101, 115, 32]))) <|
 aX 51 (pM 0) <|
 aX 52 (pN 51) <|
 aX 53 (pF 2 1 52) <|
 aX 54 (pL false 1 53) <|
 aX 55 (pK c false 50 [54]) <|
 aX 56 (pB .add 9 50 55) <|
 aX 57 (pB .add 9 56 (cn (.str [10]))) <|
 aX 2 (pM 57) <|
 aXZ
noncomputable def f39_r8 (c : CallF) : RF := rg [0, 3, 62] <| aX 58 (pM 0) <|
 aX 59 (pN 58) <|
 aX 60 (pF 2 1 59) <|
 aX 61 (pL false 1 60) <|
 aX 62 (pB .lss 2 61 (cn (.int .i64 0))) <|
 aXZ
noncomputable def f39_r9 (c : CallF) : RF := rg [2] <| aX 63 (pM 3) <|
 aX 64 (pB .add 9 63 (cn (.str [111, 118, 101, 114, 32]))) <|
 aX 65 (pM 0) <|
 aX 66 (pN 65) <|
 aX 67 (pF 2 1 66) <|
 aX 68 (pL false 1 67) <|
 aX 69 (pU .neg 68) <|
 aX 70 (pK c false 50 [69]) <|
 aX 71 (pB .add 9 64 70) <|
 aX 72 (pB .add 9 71 (cn (.str [10]))) <|
 aX 2 (pM 72) <|
 aXZ
noncomputable def f39_r10 (c : CallF) : RF := rg [2] <| aX 73 (pM 3) <|
 aX 74 (pB .add 9 73 (cn (.str [113, 117, 105, 116, 10]))) <|
 aX 2 (pM 74) <|
 aXZ
noncomputable def f39_l3 (c : CallF) (k : Nat) : St :=
 (bSeq (bSeq (bReg (f39_r3 c))
 (bCond (.tmp 16) (bEx .nrm) (bEx (.ext 0))))
 (bSeq (bBlock 1 (bReg (f39_r5 c)))
 (bReg (f39_r4 c))))
noncomputable def f39 (c : CallF) (k : Nat) : St :=
 (bSeq (bReg (f39_r0 c))
 (bSeq (bReg (f39_r1 c))
 (bSeq (bSeq (bReg (f39_r2 c))
 (bBlock 0 (bLoop [0, 3, 4] (f39_l3 c k) k)))
 (bSeq (bSeq (bReg (f39_r6 c))
 (bCond (.tmp 48) (bSeq (bReg (f39_r7 c))
 (bEx .ret)) (bEx .nrm)))
 (bSeq (bSeq (bReg (f39_r8 c))
 (bCond (.tmp 62) (bSeq (bReg (f39_r9 c))
 (bEx .ret)) (bEx .nrm)))
 (bSeq (bReg (f39_r10 c))
 (bEx .ret)))))))
theorem f39_eq (c : CallF) (k : Nat) : exec cx c 75 f39_an k (Tryd.f39.body.getD .skip) = f39 c k := by kernel_rfl
/-! ### f41: loop.example/g01263/impl.CheckAccount -/
def f41_an : Ann := ⟨[(0, r0 [1]), (1, r0 [2])], []⟩
noncomputable def f41_r0 (c : CallF) : RF := rg [1] <| aX 1 (pBox 3 0) <|
 aX 2 (pM (cn (.bool false))) <|
 aXZ
noncomputable def f41_r1 (c : CallF) : RF := rgD [2] (aY 3 (pF 0 1 1) <|
 aY 4 (pL false 1 3) <|
 aY 5 (pK c false 87 [4, (cn (.int .i64 16))]) <|
 aY 6 (pM 5) <|
 aY 7 (pG 6 true (pF 1 1 1)) <|
 aY 8 (pG 6 true (pL false 1 7)) <|
 aY 9 (pG 6 true (pK c false 88 [8])) <|
 aY 10 (pP 6 9 (cn (.bool false))) <|
 aY 11 (pM 10) <|
 aY 12 (pG 11 true (pF 2 1 1)) <|
 aY 13 (pG 11 true (pL false 1 12)) <|
 aY 14 (pG 11 true (pF 1 1 1)) <|
 aY 15 (pG 11 true (pL false 1 14)) <|
 aY 16 (pG 11 true (pK c false 89 [15])) <|
 aY 17 (pG 11 true (pB .eql 2 13 16)) <|
 aY 18 (pP 11 17 (cn (.bool false))) <|
 aY 2 (pM 18) <|
 aYZ)
 (aXZ)
noncomputable def f41 (c : CallF) (k : Nat) : St :=
 (bSeq (bReg (f41_r0 c))
 (bSeq (bReg (f41_r1 c))
 (bEx .ret)))
theorem f41_eq (c : CallF) (k : Nat) : exec cx c 19 f41_an k (Tryd.f41.body.getD .skip) = f41 c k := by kernel_rfl
/-! ### f42: loop.example/g01263/impl.isAmount -/
def f42_an : Ann := ⟨[(0, r0 [0]), (1, r0 [2])], []⟩
noncomputable def f42_r0 (c : CallF) : RF := rg [0] <| aX 2 (pM (cn (.bool false))) <|
 aXZ
noncomputable def f42_r1 (c : CallF) : RF := rg [2] <| aX 3 (pM 0) <|
 aX 4 (pB .geq 2 3 (cn (.int .i64 0))) <|
 aX 5 (pM 4) <|
 aX 6 (pG 5 true (pM 0)) <|
 aX 7 (pG 5 true (pB .leq 2 6 (cn (.int .i64 100000000)))) <|
 aX 8 (pP 5 7 (cn (.bool false))) <|
 aX 2 (pM 8) <|
 aXZ
noncomputable def f42 (c : CallF) (k : Nat) : St :=
 (bSeq (bReg (f42_r0 c))
 (bSeq (bReg (f42_r1 c))
 (bEx .ret)))
theorem f42_eq (c : CallF) (k : Nat) : exec cx c 9 f42_an k (Tryd.f42.body.getD .skip) = f42 c k := by kernel_rfl
/-! ### f43: loop.example/g01263/impl.size -/
def f43_an : Ann := ⟨[(0, r0 [0]), (1, r0 [2])], []⟩
noncomputable def f43_r0 (c : CallF) : RF := rg [0] <| aX 2 (pM (cn (.int .i64 0))) <|
 aXZ
noncomputable def f43_r1 (c : CallF) : RF := rg [2] <| aX 3 (pM 0) <|
 aX 4 (pM 0) <|
 aX 5 (pU .neg 4) <|
 aX 6 (fun n e M => keep (aMax true (eget e 3) (eget e 5))) <|
 aX 2 (pM 6) <|
 aXZ
noncomputable def f43 (c : CallF) (k : Nat) : St :=
 (bSeq (bReg (f43_r0 c))
 (bSeq (bReg (f43_r1 c))
 (bEx .ret)))
theorem f43_eq (c : CallF) (k : Nat) : exec cx c 7 f43_an k (Tryd.f43.body.getD .skip) = f43 c k := by kernel_rfl
/-! ### f44: loop.example/g01263/impl.itemWords -/
def f44_an : Ann := ⟨[(0, r0 []), (1, r0 [0])], []⟩
noncomputable def f44_r0 (c : CallF) : RF := rg [] <| aX 0 (pM (cn .nils)) <|
 aXZ
noncomputable def f44_r1 (c : CallF) : RF := rg [0] <| aX 1 (fun n e M => keep (aLitI 9 1 [(.str [102, 97, 114, 109]), (.str [100, 101, 98, 116]), (.str [112, 97, 105, 100]), (.str [97, 108, 108, 111, 119, 101, 100])] M)) <|
 aX 0 (pM 1) <|
 aXZ
noncomputable def f44 (c : CallF) (k : Nat) : St :=
 (bSeq (bReg (f44_r0 c))
 (bSeq (bReg (f44_r1 c))
 (bEx .ret)))
theorem f44_eq (c : CallF) (k : Nat) : exec cx c 2 f44_an k (Tryd.f44.body.getD .skip) = f44 c k := by kernel_rfl
/-! ### f45: loop.example/g01263/impl.AmountText -/
def f45_an : Ann := ⟨[(0, r0 [0]), (1, r0 [0, 8]), (2, r0 [2]), (3, r0 [0, 10]), (4, r0 [2]), (5, ⟨[0], [], [], [], [0, 3]⟩), (6, r0 [3, 19, 20, 21]), (7, r0 [3, 19, 20, 21, 22]), (8, r0 [3, 4, 5, 19, 20, 21]), (9, r0 [3, 4, 5, 19, 20, 21, 27]), (10, ⟨[9], [], [], [9, 10], [3, 19, 20, 21]⟩), (11, r0 [3, 19, 20, 21]), (12, r0 [2])], [(7, [3, 19, 20, 21])]⟩
noncomputable def f45_r0 (c : CallF) : RF := rg [0] <| aX 2 (pM (cn (.str []))) <|
 aXZ
noncomputable def f45_r1 (c : CallF) : RF := rg [0, 8] <| aX 6 (pM 0) <|
 aX 7 (pK c false 42 [6]) <|
 aX 8 (pU .not 7) <|
 aXZ
noncomputable def f45_r2 (c : CallF) : RF := rg [2] <| aX 2 (pM (cn (.str []))) <|
 aXZ
noncomputable def f45_r3 (c : CallF) : RF := rg [0, 10] <| aX 9 (pM 0) <|
 aX 10 (pB .eql 2 9 (cn (.int .i64 0))) <|
 aXZ
noncomputable def f45_r4 (c : CallF) : RF := rg [2] <| aX 2 (pM (cn (.str [48, 100]))) <|
 aXZ
noncomputable def f45_r5 (c : CallF) : RF := rg [0, 3] <| aX 11 (fun n e M => aLitO false n 9 1 [] M) <|
 aX 3 (pM 11) <|
 aXZ
noncomputable def f45_r6 (c : CallF) : RF := rg [3, 19, 20, 21] <| aX 12 (pM 0) <|
 aX 13 (pB .quo 2 12 (cn (.int .i64 240))) <|
 aX 14 (pM 0) <|
 aX 15 (pB .quo 2 14 (cn (.int .i64 12))) <|
 aX 16 (pB .rem 2 15 (cn (.int .i64 20))) <|
 aX 17 (pM 0) <|
 aX 18 (pB .rem 2 17 (cn (.int .i64 12))) <|
 aX 19 (fun n e M => keep (aLitI 2 1 [(eget e 13), (eget e 16), (eget e 18)] M)) <|
 aX 20 (pLen 136 19) <|
 aX 21 (pM (cn (.int .i64 0))) <|
 aXZ
noncomputable def f45_r7 (c : CallF) : RF := rg [3, 19, 20, 21, 22] <| aX 22 (pB .lss 3 21 20) <|
 aXZ
noncomputable def f45_r8 (c : CallF) : RF := rg [3, 4, 5, 19, 20, 21] <| aX 23 (pM 21) <|
 aX 24 (pI 1 19 21) <|
 aX 25 (pL false 1 24) <|
 aX 4 (pM 23) <|
 aX 5 (pM 25) <|
 aXZ
noncomputable def f45_r9 (c : CallF) : RF := rg [3, 4, 5, 19, 20, 21, 27] <| aX 26 (pM 5) <|
 aX 27 (pB .gtr 2 26 (cn (.int .i64 0))) <|
 aXZ
noncomputable def f45_r10 (c : CallF) : RF := rgD [3, 19, 20, 21] (aY 28 (pM 3) <|
 aY 29 (pM 5) <|
 aY 30 (pK c false 90 [29]) <|
 aY 31 (pM 4) <|
 aY 32 (pM 4) <|
 aY 33 (pB .add 3 32 (cn (.int .i64 1))) <|
 aY 34 (fun n e M => keep (aSliceS (some (eget e 31)) (some (eget e 33)) (.str [108, 115, 100]))) <|
 aY 35 (pB .add 9 30 34) <|
 aY 36 (fun n e M => keep (aLitI 9 1 [(eget e 35)] M)) <|
 aYZ)
 (aX 37 (fun n e M => aAppO n 9 1 16 (eget e 28) (eget e 36) M) <|
 aX 3 (pM 37) <|
 aXZ)
noncomputable def f45_r11 (c : CallF) : RF := rg [3, 19, 20, 21] <| aX 38 (pB .add 3 21 (cn (.int .i64 1))) <|
 aX 21 (pM 38) <|
 aXZ
noncomputable def f45_r12 (c : CallF) : RF := rg [2] <| aX 39 (pM 3) <|
 aX 40 (pK c false 91 [39, (cn (.str [32]))]) <|
 aX 2 (pM 40) <|
 aXZ
noncomputable def f45_l7 (c : CallF) (k : Nat) : St :=
 (bSeq (bReg (f45_r7 c))
 (bSeq (bCond (.tmp 22) (bEx .nrm) (bEx (.ext 0)))
 (bSeq (bBlock 1 (bSeq (bReg (f45_r8 c))
 (bSeq (bReg (f45_r9 c))
 (bCond (.tmp 27) (bReg (f45_r10 c)) (bEx .nrm)))))
 (bReg (f45_r11 c)))))
noncomputable def f45 (c : CallF) (k : Nat) : St :=
 (bSeq (bReg (f45_r0 c))
 (bSeq (bSeq (bReg (f45_r1 c))
 (bCond (.tmp 8) (bSeq (bReg (f45_r2 c))
 (bEx .ret)) (bEx .nrm)))
 (bSeq (bSeq (bReg (f45_r3 c))
 (bCond (.tmp 10) (bSeq (bReg (f45_r4 c))
 (bEx .ret)) (bEx .nrm)))
 (bSeq (bReg (f45_r5 c))
 (bSeq (bSeq (bReg (f45_r6 c))
 (bBlock 0 (bLoop [3, 19, 20, 21] (f45_l7 c k) k)))
 (bSeq (bReg (f45_r12 c))
 (bEx .ret)))))))
theorem f45_eq (c : CallF) (k : Nat) : exec cx c 41 f45_an k (Tryd.f45.body.getD .skip) = f45 c k := by kernel_rfl
/-! ### f46: loop.example/g01263/laws.eqItemS -/
def f46_an : Ann := ⟨[(0, r0 [0, 1]), (1, r0 [0, 1, 10]), (2, r0 [4]), (3, r0 [0, 1, 5]), (4, r0 [0, 1, 5, 14]), (5, r0 [0, 1, 5]), (6, r0 [0, 1, 5, 26]), (7, r0 [4]), (8, r0 [4])], [(4, [0, 1, 5])]⟩
noncomputable def f46_r0 (c : CallF) : RF := rg [0, 1] <| aX 4 (pM (cn (.bool false))) <|
 aXZ
noncomputable def f46_r1 (c : CallF) : RF := rg [0, 1, 10] <| aX 6 (pM 0) <|
 aX 7 (pLen 27 6) <|
 aX 8 (pM 1) <|
 aX 9 (pLen 27 8) <|
 aX 10 (pB .neq 3 7 9) <|
 aXZ
noncomputable def f46_r2 (c : CallF) : RF := rg [4] <| aX 4 (pM (cn (.bool false))) <|
 aXZ
noncomputable def f46_r3 (c : CallF) : RF := rg [0, 1, 5] <| aX 5 (pM (cn (.int .i64 0))) <|
 aXZ
noncomputable def f46_r4 (c : CallF) : RF := rg [0, 1, 5, 14] <| aX 11 (pM 5) <|
 aX 12 (pM 0) <|
 aX 13 (pLen 27 12) <|
 aX 14 (pB .lss 3 11 13) <|
 aXZ
noncomputable def f46_r5 (c : CallF) : RF := rg [0, 1, 5] <| aX 15 (pM 5) <|
 aX 16 (pB .add 3 15 (cn (.int .i64 1))) <|
 aX 5 (pM 16) <|
 aXZ
noncomputable def f46_r6 (c : CallF) : RF := rgD [0, 1, 5, 26] (aY 17 (pM 0) <|
 aY 18 (pM 5) <|
 aY 19 (pI 2 17 18) <|
 aY 20 (pL true 2 19) <|
 aY 21 (pM 1) <|
 aY 22 (pM 5) <|
 aY 23 (pI 2 21 22) <|
 aY 24 (pL true 2 23) <|
 aY 25 (pK c false 92 [20, 24]) <|
 aY 26 (pU .not 25) <|
 aYZ)
 (aXZ)
noncomputable def f46_r7 (c : CallF) : RF := rg [4] <| aX 4 (pM (cn (.bool false))) <|
 aXZ
noncomputable def f46_r8 (c : CallF) : RF := rg [4] <| aX 4 (pM (cn (.bool true))) <|
 aXZ
noncomputable def f46_l4 (c : CallF) (k : Nat) : St :=
 (bSeq (bSeq (bReg (f46_r4 c))
 (bCond (.tmp 14) (bEx .nrm) (bEx (.ext 0))))
 (bSeq (bBlock 1 (bSeq (bReg (f46_r6 c))
 (bCond (.tmp 26) (bSeq (bReg (f46_r7 c))
 (bEx .ret)) (bEx .nrm))))
 (bReg (f46_r5 c))))
noncomputable def f46 (c : CallF) (k : Nat) : St :=
 (bSeq (bReg (f46_r0 c))
 (bSeq (bSeq (bReg (f46_r1 c))
 (bCond (.tmp 10) (bSeq (bReg (f46_r2 c))
 (bEx .ret)) (bEx .nrm)))
 (bSeq (bSeq (bReg (f46_r3 c))
 (bBlock 0 (bLoop [0, 1, 5] (f46_l4 c k) k)))
 (bSeq (bReg (f46_r8 c))
 (bEx .ret)))))
theorem f46_eq (c : CallF) (k : Nat) : exec cx c 27 f46_an k (Tryd.f46.body.getD .skip) = f46 c k := by kernel_rfl
/-! ### f49: loop.example/g01263/spec.l01Amount -/
def f49_an : Ann := ⟨[(0, r0 [0]), (1, r0 [2])], []⟩
noncomputable def f49_r0 (c : CallF) : RF := rg [0] <| aX 2 (pM (cn (.bool false))) <|
 aXZ
noncomputable def f49_r1 (c : CallF) : RF := rg [2] <| aX 3 (pM 0) <|
 aX 4 (pK c false 84 [3, (cn (.int .i64 0)), (cn (.int .i64 100000000))]) <|
 aX 2 (pM 4) <|
 aXZ
noncomputable def f49 (c : CallF) (k : Nat) : St :=
 (bSeq (bReg (f49_r0 c))
 (bSeq (bReg (f49_r1 c))
 (bEx .ret)))
theorem f49_eq (c : CallF) (k : Nat) : exec cx c 5 f49_an k (Tryd.f49.body.getD .skip) = f49 c k := by kernel_rfl
/-! ### f50: loop.example/g01263/spec.l01AmountText -/
def f50_an : Ann := ⟨[(0, r0 [0]), (1, r0 [0, 5]), (2, r0 [2]), (3, r0 [0, 3]), (4, r0 [0, 3]), (5, r0 [2])], []⟩
noncomputable def f50_r0 (c : CallF) : RF := rg [0] <| aX 2 (pM (cn (.str []))) <|
 aXZ
noncomputable def f50_r1 (c : CallF) : RF := rg [0, 5] <| aX 4 (pM 0) <|
 aX 5 (pB .eql 2 4 (cn (.int .i64 0))) <|
 aXZ
noncomputable def f50_r2 (c : CallF) : RF := rg [2] <| aX 2 (pM (cn (.str [48, 100]))) <|
 aXZ
noncomputable def f50_r3 (c : CallF) : RF := rg [0, 3] <| aX 6 (pM 0) <|
 aX 7 (pB .quo 2 6 (cn (.int .i64 240))) <|
 aX 8 (pK c false 94 [(cn (.str [])), 7, (cn (.str [108]))]) <|
 aX 3 (pM 8) <|
 aXZ
noncomputable def f50_r4 (c : CallF) : RF := rg [0, 3] <| aX 9 (pM 3) <|
 aX 10 (pM 0) <|
 aX 11 (pB .quo 2 10 (cn (.int .i64 12))) <|
 aX 12 (pB .rem 2 11 (cn (.int .i64 20))) <|
 aX 13 (pK c false 94 [9, 12, (cn (.str [115]))]) <|
 aX 3 (pM 13) <|
 aXZ
noncomputable def f50_r5 (c : CallF) : RF := rg [2] <| aX 14 (pM 3) <|
 aX 15 (pM 0) <|
 aX 16 (pB .rem 2 15 (cn (.int .i64 12))) <|
 aX 17 (pK c false 94 [14, 16, (cn (.str [100]))]) <|
 aX 2 (pM 17) <|
 aXZ
noncomputable def f50 (c : CallF) (k : Nat) : St :=
 (bSeq (bReg (f50_r0 c))
 (bSeq (bSeq (bReg (f50_r1 c))
 (bCond (.tmp 5) (bSeq (bReg (f50_r2 c))
 (bEx .ret)) (bEx .nrm)))
 (bSeq (bReg (f50_r3 c))
 (bSeq (bReg (f50_r4 c))
 (bSeq (bReg (f50_r5 c))
 (bEx .ret))))))
theorem f50_eq (c : CallF) (k : Nat) : exec cx c 18 f50_an k (Tryd.f50.body.getD .skip) = f50 c k := by kernel_rfl
/-! ### f65: loop.example/g01263/spec.l01Split -/
def f65_an : Ann := ⟨[(0, r0 [0, 1]), (1, ⟨[0], [], [], [], [0, 1, 5]⟩), (2, r0 [0, 1, 5, 6]), (3, r0 [0, 1, 5, 6, 7]), (4, r0 [0, 1, 5, 6, 7, 12]), (5, r0 [0, 1, 5, 6, 7]), (6, r0 [0, 1, 5, 6, 7, 19]), (7, ⟨[6], [], [], [], [0, 1, 5, 7]⟩), (8, r0 [0, 1, 5, 6, 7]), (9, ⟨[5], [], [], [], [4]⟩)], [(4, [0, 1, 5, 6, 7])]⟩
noncomputable def f65_r0 (c : CallF) : RF := rg [0, 1] <| aX 4 (pM (cn .nils)) <|
 aXZ
noncomputable def f65_r1 (c : CallF) : RF := rg [0, 1, 5] <| aX 8 (fun n e M => aLitO false n 9 1 [] M) <|
 aX 5 (pM 8) <|
 aXZ
noncomputable def f65_r2 (c : CallF) : RF := rg [0, 1, 5, 6] <| aX 6 (pM (cn (.int .i64 0))) <|
 aXZ
noncomputable def f65_r3 (c : CallF) : RF := rg [0, 1, 5, 6, 7] <| aX 7 (pM (cn (.int .i64 0))) <|
 aXZ
noncomputable def f65_r4 (c : CallF) : RF := rg [0, 1, 5, 6, 7, 12] <| aX 9 (pM 7) <|
 aX 10 (pM 0) <|
 aX 11 (pLen 9 10) <|
 aX 12 (pB .lss 3 9 11) <|
 aXZ
noncomputable def f65_r5 (c : CallF) : RF := rg [0, 1, 5, 6, 7] <| aX 13 (pM 7) <|
 aX 14 (pB .add 3 13 (cn (.int .i64 1))) <|
 aX 7 (pM 14) <|
 aXZ
noncomputable def f65_r6 (c : CallF) : RF := rg [0, 1, 5, 6, 7, 19] <| aX 15 (pM 0) <|
 aX 16 (pM 7) <|
 aX 17 (fun n e M => keep (aIndexB (eget e 15) (eget e 16))) <|
 aX 18 (pM 1) <|
 aX 19 (pB .eql 5 17 18) <|
 aXZ
noncomputable def f65_r7 (c : CallF) : RF := rg [0, 1, 5, 7] <| aX 20 (pM 5) <|
 aX 21 (pM 0) <|
 aX 22 (pM 6) <|
 aX 23 (pM 7) <|
 aX 24 (fun n e M => keep (aSliceS (some (eget e 22)) (some (eget e 23)) (eget e 21))) <|
 aX 25 (fun n e M => keep (aLitI 9 1 [(eget e 24)] M)) <|
 aX 26 (fun n e M => aAppO n 9 1 16 (eget e 20) (eget e 25) M) <|
 aX 5 (pM 26) <|
 aXZ
noncomputable def f65_r8 (c : CallF) : RF := rg [0, 1, 5, 6, 7] <| aX 27 (pM 7) <|
 aX 28 (pB .add 3 27 (cn (.int .i64 1))) <|
 aX 6 (pM 28) <|
 aXZ
noncomputable def f65_r9 (c : CallF) : RF := rg [4] <| aX 29 (pM 5) <|
 aX 30 (pM 0) <|
 aX 31 (pM 6) <|
 aX 32 (fun n e M => keep (aSliceS (some (eget e 31)) none (eget e 30))) <|
 aX 33 (fun n e M => keep (aLitI 9 1 [(eget e 32)] M)) <|
 aX 34 (fun n e M => aAppO n 9 1 16 (eget e 29) (eget e 33) M) <|
 aX 4 (pM 34) <|
 aXZ
noncomputable def f65_l4 (c : CallF) (k : Nat) : St :=
 (bSeq (bSeq (bReg (f65_r4 c))
 (bCond (.tmp 12) (bEx .nrm) (bEx (.ext 0))))
 (bSeq (bBlock 1 (bSeq (bReg (f65_r6 c))
 (bCond (.tmp 19) (bSeq (bReg (f65_r7 c))
 (bReg (f65_r8 c))) (bEx .nrm))))
 (bReg (f65_r5 c))))
noncomputable def f65 (c : CallF) (k : Nat) : St :=
 (bSeq (bReg (f65_r0 c))
 (bSeq (bReg (f65_r1 c))
 (bSeq (bReg (f65_r2 c))
 (bSeq (bSeq (bReg (f65_r3 c))
 (bBlock 0 (bLoop [0, 1, 5, 6, 7] (f65_l4 c k) k)))
 (bSeq (bReg (f65_r9 c))
 (bEx .ret))))))
theorem f65_eq (c : CallF) (k : Nat) : exec cx c 35 f65_an k (Tryd.f65.body.getD .skip) = f65 c k := by kernel_rfl
/-! ### f66: loop.example/g01263/spec.l05Read -/
def f66_an : Ann := ⟨[(0, r0 [0, 2]), (1, r0 [0, 2, 20]), (2, r0 [2, 3, 4]), (3, ⟨[0], [], [], [], [0, 2, 5]⟩), (4, r0 [0, 2, 5, 6]), (5, r0 [0, 2, 5, 6, 26]), (6, r0 [0, 2, 5, 6, 7, 8]), (7, r0 [0, 2, 5, 6, 7, 36]), (8, ⟨[3], [], [], [], [0, 2, 5, 6]⟩), (9, r0 [0, 2, 5, 6]), (10, r0 [0, 2, 5, 6, 51]), (11, r0 [2, 3, 4]), (12, r0 [0, 2, 6, 9]), (13, r0 [0, 2, 6, 9, 59]), (14, r0 [2, 3, 4]), (15, r0 [0, 2, 6, 9, 10]), (16, ⟨[], [], [1, 2, 3, 4, 5, 6, 7, 8, 9, 10, 11, 12, 13], [14, 15, 16], [2, 3, 4]⟩)], [(5, [0, 2, 5, 6])]⟩
noncomputable def f66_r0 (c : CallF) : RF := rg [0, 2] <| aX 2 (pAl 29 3) <|
 aX 3 (pM (cn (.int .i64 0))) <|
 aX 4 (pM (cn (.bool false))) <|
 aXZ
noncomputable def f66_r1 (c : CallF) : RF := rg [0, 2, 20] <| aX 11 (pM 0) <|
 aX 12 (pLen 86 11) <|
 aX 13 (pB .eql 3 12 (cn (.int .i64 0))) <|
 aX 14 (pM 13) <|
 aX 15 (pG 14 false (pM 0)) <|
 aX 16 (pG 14 false (pI 1 15 (cn (.int .i64 0)))) <|
 aX 17 (pG 14 false (pL false 1 16)) <|
 aX 18 (pG 14 false (pK c false 110 [17])) <|
 aX 19 (pG 14 false (pU .not 18)) <|
 aX 20 (pP 14 (cn (.bool true)) 19) <|
 aXZ
noncomputable def f66_r2 (c : CallF) : RF := rg [2, 3, 4] <| aX 21 (fun n e M => keep (aBuild (zeroOf cx.P 29) [] M)) <|
 aX0 (pS 3 2 21) <|
 aX 3 (pM (cn (.int .i64 0))) <|
 aX 4 (pM (cn (.bool false))) <|
 aXZ
noncomputable def f66_r3 (c : CallF) : RF := rg [0, 2, 5] <| aX 22 (fun n e M => aLitO false n 85 2 [] M) <|
 aX 5 (pM 22) <|
 aXZ
noncomputable def f66_r4 (c : CallF) : RF := rg [0, 2, 5, 6] <| aX 6 (pM (cn (.int .i64 1))) <|
 aXZ
noncomputable def f66_r5 (c : CallF) : RF := rg [0, 2, 5, 6, 26] <| aX 23 (pM 6) <|
 aX 24 (pM 0) <|
 aX 25 (pLen 86 24) <|
 aX 26 (pB .lss 3 23 25) <|
 aXZ
noncomputable def f66_r6 (c : CallF) : RF := rg [0, 2, 5, 6, 7, 8] <| aX 28 (pM 0) <|
 aX 29 (pM 6) <|
 aX 30 (pI 1 28 29) <|
 aX 31 (pL false 1 30) <|
 aX 32 (pK c false 111 [31]) <|
 aX 27 (pM 32) <|
 aX 33 (pE 0 27) <|
 aX 34 (pE 1 27) <|
 aX 7 (pAl 85 2) <|
 aX0 (pS 2 7 33) <|
 aX 8 (pM 34) <|
 aXZ
noncomputable def f66_r7 (c : CallF) : RF := rg [0, 2, 5, 6, 7, 36] <| aX 35 (pM 8) <|
 aX 36 (pU .not 35) <|
 aXZ
noncomputable def f66_r8 (c : CallF) : RF := rg [0, 2, 5, 6] <| aX 37 (pM 5) <|
 aX 38 (pL true 2 7) <|
 aX 39 (fun n e M => keep (aLitI 85 2 [(eget e 38)] M)) <|
 aX 40 (fun n e M => aAppO n 85 2 16 (eget e 37) (eget e 39) M) <|
 aX 5 (pM 40) <|
 aXZ
noncomputable def f66_r9 (c : CallF) : RF := rg [0, 2, 5, 6] <| aX 41 (pM 6) <|
 aX 42 (pB .add 3 41 (cn (.int .i64 1))) <|
 aX 6 (pM 42) <|
 aXZ
noncomputable def f66_r10 (c : CallF) : RF := rg [0, 2, 5, 6, 51] <| aX 43 (pM 6) <|
 aX 44 (pM 0) <|
 aX 45 (pLen 86 44) <|
 aX 46 (pB .eql 3 43 45) <|
 aX 47 (pM 46) <|
 aX 48 (pG 47 false (pM 5)) <|
 aX 49 (pG 47 false (pK c false 112 [48])) <|
 aX 50 (pG 47 false (pU .not 49)) <|
 aX 51 (pP 47 (cn (.bool true)) 50) <|
 aXZ
noncomputable def f66_r11 (c : CallF) : RF := rg [2, 3, 4] <| aX 52 (fun n e M => keep (aBuild (zeroOf cx.P 29) [] M)) <|
 aX0 (pS 3 2 52) <|
 aX 3 (pM (cn (.int .i64 0))) <|
 aX 4 (pM (cn (.bool false))) <|
 aXZ
noncomputable def f66_r12 (c : CallF) : RF := rg [0, 2, 6, 9] <| aX 53 (pM 0) <|
 aX 54 (pI 1 53 (cn (.int .i64 0))) <|
 aX 55 (pL false 1 54) <|
 aX 56 (pM 5) <|
 aX 57 (pK c false 113 [55, 56]) <|
 aX 9 (pAl 29 3) <|
 aX0 (pS 3 9 57) <|
 aXZ
noncomputable def f66_r13 (c : CallF) : RF := rg [0, 2, 6, 9, 59] <| aX 58 (pK c false 38 [9]) <|
 aX 59 (pU .not 58) <|
 aXZ
noncomputable def f66_r14 (c : CallF) : RF := rg [2, 3, 4] <| aX 60 (fun n e M => keep (aBuild (zeroOf cx.P 29) [] M)) <|
 aX0 (pS 3 2 60) <|
 aX 3 (pM (cn (.int .i64 0))) <|
 aX 4 (pM (cn (.bool false))) <|
 aXZ
noncomputable def f66_r15 (c : CallF) : RF := rg [0, 2, 6, 9, 10] <| aX 61 (pK c false 39 [9]) <|
 aX 62 (pK c false 65 [61, (cn (.int .u8 10))]) <|
 aX 10 (pM 62) <|
 aXZ
noncomputable def f66_r16 (c : CallF) : RF := rgD [2, 3, 4] (aY 63 (pL true 3 9) <|
 aYc 64 (pM 6) <|
 aYc 65 (pB .add 3 64 (cn (.int .i64 1))) <|
 aYc 66 (pM 10) <|
 aYc 67 (pM 10) <|
 aYc 68 (pLen 86 67) <|
 aYc 69 (pB .sub 3 68 (cn (.int .i64 2))) <|
 aYc 70 (pI 1 66 69) <|
 aYc 71 (pL false 1 70) <|
 aYc 72 (pM 0) <|
 aYc 73 (pM 6) <|
 aYc 74 (pI 1 72 73) <|
 aYc 75 (pL false 1 74) <|
 aYc 76 (pB .eql 9 71 75) <|
 aYZ)
 (aX0 (pS 3 2 63) <|
 aX 3 (pM 65) <|
 aX 4 (pM 76) <|
 aXZ)
noncomputable def f66_l5 (c : CallF) (k : Nat) : St :=
 (bSeq (bSeq (bReg (f66_r5 c))
 (bCond (.tmp 26) (bEx .nrm) (bEx (.ext 0))))
 (bBlock 1 (bSeq (bReg (f66_r6 c))
 (bSeq (bSeq (bReg (f66_r7 c))
 (bCond (.tmp 36) (bEx (.ext 0)) (bEx .nrm)))
 (bSeq (bReg (f66_r8 c))
 (bReg (f66_r9 c)))))))
noncomputable def f66 (c : CallF) (k : Nat) : St :=
 (bSeq (bReg (f66_r0 c))
 (bSeq (bSeq (bReg (f66_r1 c))
 (bCond (.tmp 20) (bSeq (bReg (f66_r2 c))
 (bEx .ret)) (bEx .nrm)))
 (bSeq (bReg (f66_r3 c))
 (bSeq (bReg (f66_r4 c))
 (bSeq (bBlock 0 (bLoop [0, 2, 5, 6] (f66_l5 c k) k))
 (bSeq (bSeq (bReg (f66_r10 c))
 (bCond (.tmp 51) (bSeq (bReg (f66_r11 c))
 (bEx .ret)) (bEx .nrm)))
 (bSeq (bReg (f66_r12 c))
 (bSeq (bSeq (bReg (f66_r13 c))
 (bCond (.tmp 59) (bSeq (bReg (f66_r14 c))
 (bEx .ret)) (bEx .nrm)))
 (bSeq (bReg (f66_r15 c))
 (bSeq (bReg (f66_r16 c))
 (bEx .ret)))))))))))
theorem f66_eq (c : CallF) (k : Nat) : exec cx c 77 f66_an k (Tryd.f66.body.getD .skip) = f66 c k := by kernel_rfl
/-! ### f67: loop.example/g01263/impl.linesOf -/
def f67_an : Ann := ⟨[(0, r0 [0]), (1, r0 [0, 7]), (2, r0 [2, 3]), (3, r0 [4]), (4, r0 [4, 5]), (5, r0 [2, 3])], []⟩
noncomputable def f67_r0 (c : CallF) : RF := rg [0] <| aX 2 (pM (cn .nils)) <|
 aX 3 (pM (cn (.bool false))) <|
 aXZ
noncomputable def f67_r1 (c : CallF) : RF := rg [0, 7] <| aX 6 (pM 0) <|
 aX 7 (pB .eql 9 6 (cn (.str []))) <|
 aXZ
noncomputable def f67_r2 (c : CallF) : RF := rg [2, 3] <| aX 2 (pM (cn .nils)) <|
 aX 3 (pM (cn (.bool true))) <|
 aXZ
noncomputable def f67_r3 (c : CallF) : RF := rg [4] <| aX 8 (pM 0) <|
 aX 9 (pK c false 114 [8, (cn (.str [10]))]) <|
 aX 4 (pM 9) <|
 aXZ
noncomputable def f67_r4 (c : CallF) : RF := rg [4, 5] <| aX 10 (pM 4) <|
 aX 11 (pLen 86 10) <|
 aX 12 (pB .sub 3 11 (cn (.int .i64 1))) <|
 aX 5 (pM 12) <|
 aXZ
noncomputable def f67_r5 (c : CallF) : RF := rgD [2, 3] (aY 13 (pM 4) <|
 aY 14 (pM 5) <|
 aY 15 (fun n e M => keep (aSlice 1 none (some (eget e 14)) (eget e 13) M)) <|
 aY 16 (pM 4) <|
 aY 17 (pM 5) <|
 aY 18 (pI 1 16 17) <|
 aY 19 (pL false 1 18) <|
 aY 20 (pB .eql 9 19 (cn (.str []))) <|
 aY 2 (pM 15) <|
 aY 3 (pM 20) <|
 aYZ)
 (aXZ)
noncomputable def f67 (c : CallF) (k : Nat) : St :=
 (bSeq (bReg (f67_r0 c))
 (bSeq (bSeq (bReg (f67_r1 c))
 (bCond (.tmp 7) (bSeq (bReg (f67_r2 c))
 (bEx .ret)) (bEx .nrm)))
 (bSeq (bReg (f67_r3 c))
 (bSeq (bReg (f67_r4 c))
 (bSeq (bReg (f67_r5 c))
 (bEx .ret))))))
theorem f67_eq (c : CallF) (k : Nat) : exec cx c 21 f67_an k (Tryd.f67.body.getD .skip) = f67 c k := by kernel_rfl
/-! ### f68: loop.example/g01263/impl.readAccount -/
def f68_an : Ann := ⟨[(0, r0 [0, 2]), (1, r0 [0, 2, 19]), (2, ⟨[1], [], [], [], [2, 3, 4]⟩), (3, ⟨[0], [], [], [], [0, 2, 5]⟩), (4, r0 [0, 2, 5, 23, 24, 25]), (5, r0 [0, 2, 5, 23, 24, 25, 26]), (6, r0 [0, 2, 5, 6, 7, 23, 24, 25]), (7, r0 [0, 2, 5, 6, 8, 9, 23, 24, 25]), (8, r0 [0, 2, 5, 6, 9, 11, 23, 24, 25]), (9, r0 [0, 2, 5, 6, 9, 11, 23, 24, 25, 40]), (10, r0 [0, 2, 5, 11, 12, 13, 23, 24, 25]), (11, r0 [0, 2, 5, 11, 12, 23, 24, 25, 52]), (12, ⟨[1], [], [], [], [2, 3, 4]⟩), (13, ⟨[6], [], [], [], [0, 2, 5, 23, 24, 25]⟩), (14, ⟨[9], [], [], [], [0, 2, 6, 14, 15]⟩), (15, r0 [2, 6, 14, 15, 16]), (16, ⟨[11], [], [1, 2, 8, 9, 10], [11, 12, 13], [2, 3, 4]⟩), (17, r0 [0, 2, 5, 23, 24, 25]), (18, ⟨[1], [], [], [], [2, 3, 4]⟩)], [(5, [0, 2, 5, 23, 24, 25])]⟩
noncomputable def f68_r0 (c : CallF) : RF := rg [0, 2] <| aX 2 (pAl 29 3) <|
 aX 3 (pM (cn (.int .i64 0))) <|
 aX 4 (pM (cn (.bool false))) <|
 aXZ
noncomputable def f68_r1 (c : CallF) : RF := rg [0, 2, 19] <| aX 17 (pM 0) <|
 aX 18 (pLen 86 17) <|
 aX 19 (pB .lss 3 18 (cn (.int .i64 2))) <|
 aXZ
noncomputable def f68_r2 (c : CallF) : RF := rg [2, 3, 4] <| aX 20 (fun n e M => keep (aBuild (zeroOf cx.P 29) [] M)) <|
 aX0 (pSK 3 2 20) <|
 aX 3 (pM (cn (.int .i64 0))) <|
 aX 4 (pM (cn (.bool false))) <|
 aXZ
noncomputable def f68_r3 (c : CallF) : RF := rg [0, 2, 5] <| aX 21 (fun n e M => aLitO false n 85 2 [] M) <|
 aX 5 (pM 21) <|
 aXZ
noncomputable def f68_r4 (c : CallF) : RF := rg [0, 2, 5, 23, 24, 25] <| aX 22 (pM 0) <|
 aX 23 (fun n e M => keep (aSlice 1 (some (.int .i64 1)) none (eget e 22) M)) <|
 aX 24 (pLen 86 23) <|
 aX 25 (pM (cn (.int .i64 0))) <|
 aXZ
noncomputable def f68_r5 (c : CallF) : RF := rg [0, 2, 5, 23, 24, 25, 26] <| aX 26 (pB .lss 3 25 24) <|
 aXZ
noncomputable def f68_r6 (c : CallF) : RF := rg [0, 2, 5, 6, 7, 23, 24, 25] <| aX 27 (pM 25) <|
 aX 28 (pI 1 23 25) <|
 aX 29 (pL false 1 28) <|
 aX 6 (pM 27) <|
 aX 7 (pM 29) <|
 aXZ
noncomputable def f68_r7 (c : CallF) : RF := rg [0, 2, 5, 6, 8, 9, 23, 24, 25] <| aX 31 (pM 7) <|
 aX 32 (pK c false 73 [31, (cn (.str [32]))]) <|
 aX 30 (pM 32) <|
 aX 33 (pE 0 30) <|
 aX 34 (pE 1 30) <|
 aX 35 (pE 2 30) <|
 aX 8 (pM 33) <|
 aX 9 (pM 34) <|
 aX 10 (pM 35) <|
 aXZ
noncomputable def f68_r8 (c : CallF) : RF := rg [0, 2, 5, 6, 9, 11, 23, 24, 25] <| aX 36 (pK c false 44 []) <|
 aX 37 (pM 8) <|
 aX 38 (pK c false 115 [36, 37]) <|
 aX 11 (pM 38) <|
 aXZ
noncomputable def f68_r9 (c : CallF) : RF := rg [0, 2, 5, 6, 9, 11, 23, 24, 25, 40] <| aX 39 (pM 11) <|
 aX 40 (pB .geq 3 39 (cn (.int .i64 0))) <|
 aXZ
noncomputable def f68_r10 (c : CallF) : RF := rg [0, 2, 5, 11, 12, 13, 23, 24, 25] <| aX 42 (pM 9) <|
 aX 43 (pK c false 116 [42]) <|
 aX 41 (pM 43) <|
 aX 44 (pE 0 41) <|
 aX 45 (pE 1 41) <|
 aX 12 (pM 44) <|
 aX 13 (pM 45) <|
 aXZ
noncomputable def f68_r11 (c : CallF) : RF := rg [0, 2, 5, 11, 12, 23, 24, 25, 52] <| aX 46 (pM 13) <|
 aX 47 (pB .neq 2 46 (cn (.int .i64 0))) <|
 aX 48 (pM 47) <|
 aX 49 (pG 48 false (pM 5)) <|
 aX 50 (pG 48 false (pLen 27 49)) <|
 aX 51 (pG 48 false (pB .eql 3 50 (cn (.int .i64 40)))) <|
 aX 52 (pP 48 (cn (.bool true)) 51) <|
 aXZ
noncomputable def f68_r12 (c : CallF) : RF := rg [2, 3, 4] <| aX 53 (fun n e M => keep (aBuild (zeroOf cx.P 29) [] M)) <|
 aX0 (pSK 3 2 53) <|
 aX 3 (pM (cn (.int .i64 0))) <|
 aX 4 (pM (cn (.bool false))) <|
 aXZ
noncomputable def f68_r13 (c : CallF) : RF := rg [0, 2, 5, 23, 24, 25] <| aX 54 (pM 5) <|
 aX 55 (pM 11) <|
 aX 56 (fun n e M => keep (aConvI .i8 (eget e 55))) <|
 aX 57 (pM 12) <|
 aX 58 (fun n e M => keep (aBuild (zeroOf cx.P 85) [(0, 1, (eget e 56)), (1, 1, (eget e 57))] M)) <|
 aX 59 (fun n e M => keep (aLitI 85 2 [(eget e 58)] M)) <|
 aX 60 (fun n e M => aAppO n 85 2 16 (eget e 54) (eget e 59) M) <|
 aX 5 (pM 60) <|
 aXZ
noncomputable def f68_r14 (c : CallF) : RF := rg [0, 2, 6, 14, 15] <| aX 62 (pM 0) <|
 aX 63 (pI 1 62 (cn (.int .i64 0))) <|
 aX 64 (pL false 1 63) <|
 aX 65 (pM 5) <|
 aX 66 (pK c false 117 [64, 65]) <|
 aX 61 (pM 66) <|
 aX 67 (pE 0 61) <|
 aX 68 (pE 1 61) <|
 aX 14 (pAl 29 3) <|
 aX0 (pSK 3 14 67) <|
 aX 15 (pM 68) <|
 aXZ
noncomputable def f68_r15 (c : CallF) : RF := rg [2, 6, 14, 15, 16] <| aX 69 (pM 0) <|
 aX 70 (pM 6) <|
 aX 71 (pB .add 3 70 (cn (.int .i64 2))) <|
 aX 72 (fun n e M => keep (aSlice 1 none (some (eget e 71)) (eget e 69) M)) <|
 aX 73 (pK c false 91 [72, (cn (.str [10]))]) <|
 aX 74 (pB .add 9 73 (cn (.str [10]))) <|
 aX 16 (pM 74) <|
 aXZ
noncomputable def f68_r16 (c : CallF) : RF := rgD [2, 3, 4] (aY 75 (pL true 3 14) <|
 aYc 76 (pM 6) <|
 aYc 77 (pB .add 3 76 (cn (.int .i64 2))) <|
 aY 78 (pM 15) <|
 aY 79 (pB .eql 2 78 (cn (.int .i64 0))) <|
 aY 80 (pM 79) <|
 aY 81 (pG 80 true (pL true 3 14)) <|
 aY 82 (pG 80 true (pK c false 12 [81])) <|
 aYc 83 (pG 80 true (pM 16)) <|
 aYc 84 (pG 80 true (pB .eql 9 82 83)) <|
 aYc 85 (pP 80 84 (cn (.bool false))) <|
 aYZ)
 (aX0 (pSK 3 2 75) <|
 aX 3 (pM 77) <|
 aX 4 (pM 85) <|
 aXZ)
noncomputable def f68_r17 (c : CallF) : RF := rg [0, 2, 5, 23, 24, 25] <| aX 86 (pB .add 3 25 (cn (.int .i64 1))) <|
 aX 25 (pM 86) <|
 aXZ
noncomputable def f68_r18 (c : CallF) : RF := rg [2, 3, 4] <| aX 87 (fun n e M => keep (aBuild (zeroOf cx.P 29) [] M)) <|
 aX0 (pSK 3 2 87) <|
 aX 3 (pM (cn (.int .i64 0))) <|
 aX 4 (pM (cn (.bool false))) <|
 aXZ
noncomputable def f68_l5 (c : CallF) (k : Nat) : St :=
 (bSeq (bReg (f68_r5 c))
 (bSeq (bCond (.tmp 26) (bEx .nrm) (bEx (.ext 0)))
 (bSeq (bBlock 1 (bSeq (bReg (f68_r6 c))
 (bSeq (bReg (f68_r7 c))
 (bSeq (bReg (f68_r8 c))
 (bSeq (bSeq (bReg (f68_r9 c))
 (bCond (.tmp 40) (bSeq (bReg (f68_r10 c))
 (bSeq (bSeq (bReg (f68_r11 c))
 (bCond (.tmp 52) (bSeq (bReg (f68_r12 c))
 (bEx .ret)) (bEx .nrm)))
 (bSeq (bReg (f68_r13 c))
 (bEx (.ext 1))))) (bEx .nrm)))
 (bSeq (bReg (f68_r14 c))
 (bSeq (bReg (f68_r15 c))
 (bSeq (bReg (f68_r16 c))
 (bEx .ret)))))))))
 (bReg (f68_r17 c)))))
noncomputable def f68 (c : CallF) (k : Nat) : St :=
 (bSeq (bReg (f68_r0 c))
 (bSeq (bSeq (bReg (f68_r1 c))
 (bCond (.tmp 19) (bSeq (bReg (f68_r2 c))
 (bEx .ret)) (bEx .nrm)))
 (bSeq (bReg (f68_r3 c))
 (bSeq (bSeq (bReg (f68_r4 c))
 (bBlock 0 (bLoop [0, 2, 5, 23, 24, 25] (f68_l5 c k) k)))
 (bSeq (bReg (f68_r18 c))
 (bEx .ret))))))
theorem f68_eq (c : CallF) (k : Nat) : exec cx c 88 f68_an k (Tryd.f68.body.getD .skip) = f68 c k := by kernel_rfl
/-! ### f69: loop.example/g01263/laws.markItemS -/
def f69_an : Ann := ⟨[(0, r0 [0, 1]), (1, r0 [0, 1, 5]), (2, r0 [0, 1, 5, 9]), (3, r0 [0, 1, 5]), (4, r0 [0, 1, 5]), (5, r0 [0, 1, 5]), (6, r0 [0, 1, 5]), (7, r0 [0, 1, 5]), (8, r0 [4])], [(2, [0, 1, 5])]⟩
noncomputable def f69_r0 (c : CallF) : RF := rg [0, 1] <| aX 4 (pM (cn (.int .i64 0))) <|
 aXZ
noncomputable def f69_r1 (c : CallF) : RF := rg [0, 1, 5] <| aX 5 (pM (cn (.int .i64 0))) <|
 aXZ
noncomputable def f69_r2 (c : CallF) : RF := rg [0, 1, 5, 9] <| aX 6 (pM 5) <|
 aX 7 (pM 0) <|
 aX 8 (pLen 27 7) <|
 aX 9 (pB .lss 3 6 8) <|
 aXZ
noncomputable def f69_r3 (c : CallF) : RF := rg [0, 1, 5] <| aX 10 (pM 5) <|
 aX 11 (pB .add 3 10 (cn (.int .i64 1))) <|
 aX 5 (pM 11) <|
 aXZ
noncomputable def f69_r4 (c : CallF) : RF := rg [0, 1, 5] <| aX 12 (pM 0) <|
 aX 13 (pM 5) <|
 aX 14 (pM 1) <|
 aX 15 (fun n e M => keep (aConvI .i8 (eget e 14))) <|
 aX 16 (pI 2 12 13) <|
 aX 17 (pF 0 1 16) <|
 aX0 (pS 1 17 15) <|
 aXZ
noncomputable def f69_r5 (c : CallF) : RF := rg [0, 1, 5] <| aX 18 (pM 1) <|
 aX 19 (pB .add 3 18 (cn (.int .i64 1))) <|
 aX 1 (pM 19) <|
 aXZ
noncomputable def f69_r6 (c : CallF) : RF := rg [0, 1, 5] <| aX 20 (pM 0) <|
 aX 21 (pM 5) <|
 aX 22 (pM 1) <|
 aX 23 (pI 2 20 21) <|
 aX 24 (pF 1 1 23) <|
 aX0 (pS 1 24 22) <|
 aXZ
noncomputable def f69_r7 (c : CallF) : RF := rg [0, 1, 5] <| aX 25 (pM 1) <|
 aX 26 (pB .add 3 25 (cn (.int .i64 1))) <|
 aX 1 (pM 26) <|
 aXZ
noncomputable def f69_r8 (c : CallF) : RF := rg [4] <| aX 27 (pM 1) <|
 aX 4 (pM 27) <|
 aXZ
noncomputable def f69_l2 (c : CallF) (k : Nat) : St :=
 (bSeq (bSeq (bReg (f69_r2 c))
 (bCond (.tmp 9) (bEx .nrm) (bEx (.ext 0))))
 (bSeq (bBlock 1 (bSeq (bReg (f69_r4 c))
 (bSeq (bReg (f69_r5 c))
 (bSeq (bReg (f69_r6 c))
 (bReg (f69_r7 c))))))
 (bReg (f69_r3 c))))
noncomputable def f69 (c : CallF) (k : Nat) : St :=
 (bSeq (bReg (f69_r0 c))
 (bSeq (bSeq (bReg (f69_r1 c))
 (bBlock 0 (bLoop [0, 1, 5] (f69_l2 c k) k)))
 (bSeq (bReg (f69_r8 c))
 (bEx .ret))))
theorem f69_eq (c : CallF) (k : Nat) : exec cx c 28 f69_an k (Tryd.f69.body.getD .skip) = f69 c k := by kernel_rfl
/-! ### f70: loop.example/g01263/laws.heldItemS -/
def f70_an : Ann := ⟨[(0, r0 [0, 1]), (1, r0 [0, 1, 5]), (2, r0 [0, 1, 5, 9]), (3, r0 [0, 1, 5]), (4, r0 [0, 1, 5, 19]), (5, r0 [4]), (6, r0 [0, 1, 5]), (7, r0 [0, 1, 5, 28]), (8, r0 [4]), (9, r0 [0, 1, 5]), (10, r0 [4])], [(2, [0, 1, 5])]⟩
noncomputable def f70_r0 (c : CallF) : RF := rg [0, 1] <| aX 4 (pM (cn (.int .i64 0))) <|
 aXZ
noncomputable def f70_r1 (c : CallF) : RF := rg [0, 1, 5] <| aX 5 (pM (cn (.int .i64 0))) <|
 aXZ
noncomputable def f70_r2 (c : CallF) : RF := rg [0, 1, 5, 9] <| aX 6 (pM 5) <|
 aX 7 (pM 0) <|
 aX 8 (pLen 27 7) <|
 aX 9 (pB .lss 3 6 8) <|
 aXZ
noncomputable def f70_r3 (c : CallF) : RF := rg [0, 1, 5] <| aX 10 (pM 5) <|
 aX 11 (pB .add 3 10 (cn (.int .i64 1))) <|
 aX 5 (pM 11) <|
 aXZ
noncomputable def f70_r4 (c : CallF) : RF := rg [0, 1, 5, 19] <| aX 12 (pM 0) <|
 aX 13 (pM 5) <|
 aX 14 (pI 2 12 13) <|
 aX 15 (pF 0 1 14) <|
 aX 16 (pL false 1 15) <|
 aX 17 (pM 1) <|
 aX 18 (fun n e M => keep (aConvI .i8 (eget e 17))) <|
 aX 19 (pB .neq 45 16 18) <|
 aXZ
noncomputable def f70_r5 (c : CallF) : RF := rg [4] <| aX 4 (pM (cn (.int .i64 (-1)))) <|
 aXZ
noncomputable def f70_r6 (c : CallF) : RF := rg [0, 1, 5] <| aX 20 (pM 1) <|
 aX 21 (pB .add 3 20 (cn (.int .i64 1))) <|
 aX 1 (pM 21) <|
 aXZ
noncomputable def f70_r7 (c : CallF) : RF := rg [0, 1, 5, 28] <| aX 22 (pM 0) <|
 aX 23 (pM 5) <|
 aX 24 (pI 2 22 23) <|
 aX 25 (pF 1 1 24) <|
 aX 26 (pL false 1 25) <|
 aX 27 (pM 1) <|
 aX 28 (pB .neq 2 26 27) <|
 aXZ
noncomputable def f70_r8 (c : CallF) : RF := rg [4] <| aX 4 (pM (cn (.int .i64 (-1)))) <|
 aXZ
noncomputable def f70_r9 (c : CallF) : RF := rg [0, 1, 5] <| aX 29 (pM 1) <|
 aX 30 (pB .add 3 29 (cn (.int .i64 1))) <|
 aX 1 (pM 30) <|
 aXZ
noncomputable def f70_r10 (c : CallF) : RF := rg [4] <| aX 31 (pM 1) <|
 aX 4 (pM 31) <|
 aXZ
noncomputable def f70_l2 (c : CallF) (k : Nat) : St :=
 (bSeq (bSeq (bReg (f70_r2 c))
 (bCond (.tmp 9) (bEx .nrm) (bEx (.ext 0))))
 (bSeq (bBlock 1 (bSeq (bSeq (bReg (f70_r4 c))
 (bCond (.tmp 19) (bSeq (bReg (f70_r5 c))
 (bEx .ret)) (bEx .nrm)))
 (bSeq (bReg (f70_r6 c))
 (bSeq (bSeq (bReg (f70_r7 c))
 (bCond (.tmp 28) (bSeq (bReg (f70_r8 c))
 (bEx .ret)) (bEx .nrm)))
 (bReg (f70_r9 c))))))
 (bReg (f70_r3 c))))
noncomputable def f70 (c : CallF) (k : Nat) : St :=
 (bSeq (bReg (f70_r0 c))
 (bSeq (bSeq (bReg (f70_r1 c))
 (bBlock 0 (bLoop [0, 1, 5] (f70_l2 c k) k)))
 (bSeq (bReg (f70_r10 c))
 (bEx .ret))))
theorem f70_eq (c : CallF) (k : Nat) : exec cx c 32 f70_an k (Tryd.f70.body.getD .skip) = f70 c k := by kernel_rfl
/-! ### f83: loop.example/g01263/spec.l05Right -/
def f83_an : Ann := ⟨[(0, r0 [0]), (1, r0 [2])], []⟩
noncomputable def f83_r0 (c : CallF) : RF := rg [0] <| aX 2 (pM (cn (.bool false))) <|
 aXZ
noncomputable def f83_r1 (c : CallF) : RF := rgD [2] (aY 3 (pM 0) <|
 aY 4 (pN 3) <|
 aY 5 (pF 0 1 4) <|
 aY 6 (pL false 1 5) <|
 aY 7 (pK c false 110 [6]) <|
 aY 8 (pM 7) <|
 aY 9 (pG 8 true (pM 0)) <|
 aY 10 (pG 8 true (pN 9)) <|
 aY 11 (pG 8 true (pF 1 1 10)) <|
 aY 12 (pG 8 true (pL false 1 11)) <|
 aY 13 (pG 8 true (pK c false 112 [12])) <|
 aY 14 (pP 8 13 (cn (.bool false))) <|
 aY 15 (pM 14) <|
 aY 16 (pG 15 true (pM 0)) <|
 aY 17 (pG 15 true (pN 16)) <|
 aY 18 (pG 15 true (pF 2 1 17)) <|
 aY 19 (pG 15 true (pL false 1 18)) <|
 aY 20 (pG 15 true (pM 0)) <|
 aY 21 (pG 15 true (pN 20)) <|
 aY 22 (pG 15 true (pF 1 1 21)) <|
 aY 23 (pG 15 true (pL false 1 22)) <|
 aY 24 (pG 15 true (pK c false 131 [23])) <|
 aY 25 (pG 15 true (pB .eql 2 19 24)) <|
 aY 26 (pP 15 25 (cn (.bool false))) <|
 aY 2 (pM 26) <|
 aYZ)
 (aXZ)
noncomputable def f83 (c : CallF) (k : Nat) : St :=
 (bSeq (bReg (f83_r0 c))
 (bSeq (bReg (f83_r1 c))
 (bEx .ret)))
theorem f83_eq (c : CallF) (k : Nat) : exec cx c 27 f83_an k (Tryd.f83.body.getD .skip) = f83 c k := by kernel_rfl
/-! ### f84: loop.example/g01263/spec.l00In -/
def f84_an : Ann := ⟨[(0, r0 [0, 1, 2]), (1, r0 [6])], []⟩
noncomputable def f84_r0 (c : CallF) : RF := rg [0, 1, 2] <| aX 6 (pM (cn (.bool false))) <|
 aXZ
noncomputable def f84_r1 (c : CallF) : RF := rg [6] <| aX 7 (pM 0) <|
 aX 8 (pM 1) <|
 aX 9 (pB .geq 2 7 8) <|
 aX 10 (pM 9) <|
 aX 11 (pG 10 true (pM 0)) <|
 aX 12 (pG 10 true (pM 2)) <|
 aX 13 (pG 10 true (pB .leq 2 11 12)) <|
 aX 14 (pP 10 13 (cn (.bool false))) <|
 aX 6 (pM 14) <|
 aXZ
noncomputable def f84 (c : CallF) (k : Nat) : St :=
 (bSeq (bReg (f84_r0 c))
 (bSeq (bReg (f84_r1 c))
 (bEx .ret)))
theorem f84_eq (c : CallF) (k : Nat) : exec cx c 15 f84_an k (Tryd.f84.body.getD .skip) = f84 c k := by kernel_rfl
/-! ### f85: loop.example/g01263/spec.l05Words -/
def f85_an : Ann := ⟨[(0, r0 []), (1, r0 [0])], []⟩
noncomputable def f85_r0 (c : CallF) : RF := rg [] <| aX 0 (pM (cn .nils)) <|
 aXZ
noncomputable def f85_r1 (c : CallF) : RF := rg [0] <| aX 1 (fun n e M => keep (aLitI 9 1 [(.str [102, 97, 114, 109]), (.str [100, 101, 98, 116]), (.str [112, 97, 105, 100]), (.str [97, 108, 108, 111, 119, 101, 100])] M)) <|
 aX 0 (pM 1) <|
 aXZ
noncomputable def f85 (c : CallF) (k : Nat) : St :=
 (bSeq (bReg (f85_r0 c))
 (bSeq (bReg (f85_r1 c))
 (bEx .ret)))
theorem f85_eq (c : CallF) (k : Nat) : exec cx c 2 f85_an k (Tryd.f85.body.getD .skip) = f85 c k := by kernel_rfl
/-! ### f87: loop.example/g01263/impl.isLetters -/
def f87_an : Ann := ⟨[(0, r0 [0, 1]), (1, r0 [0, 1, 7, 8]), (2, r0 [0, 1, 7, 8, 9]), (3, r0 [0, 1, 5, 7, 8]), (4, r0 [0, 1, 7, 8, 20]), (5, r0 [4]), (6, r0 [0, 1, 7, 8]), (7, r0 [4])], [(2, [0, 1, 7, 8])]⟩
noncomputable def f87_r0 (c : CallF) : RF := rg [0, 1] <| aX 4 (pM (cn (.bool false))) <|
 aXZ
noncomputable def f87_r1 (c : CallF) : RF := rg [0, 1, 7, 8] <| aX 6 (pM 0) <|
 aX 7 (pLen 9 6) <|
 aX 8 (pM (cn (.int .i64 0))) <|
 aXZ
noncomputable def f87_r2 (c : CallF) : RF := rg [0, 1, 7, 8, 9] <| aX 9 (pB .lss 3 8 7) <|
 aXZ
noncomputable def f87_r3 (c : CallF) : RF := rg [0, 1, 5, 7, 8] <| aX 10 (pM 8) <|
 aX 5 (pM 10) <|
 aXZ
noncomputable def f87_r4 (c : CallF) : RF := rg [0, 1, 7, 8, 20] <| aX 11 (pM 0) <|
 aX 12 (pM 5) <|
 aX 13 (fun n e M => keep (aIndexB (eget e 11) (eget e 12))) <|
 aX 14 (pB .lss 5 13 (cn (.int .u8 97))) <|
 aX 15 (pM 14) <|
 aX 16 (pG 15 false (pM 0)) <|
 aX 17 (pG 15 false (pM 5)) <|
 aX 18 (pG 15 false (fun n e M => keep (aIndexB (eget e 16) (eget e 17)))) <|
 aX 19 (pG 15 false (pB .gtr 5 18 (cn (.int .u8 122)))) <|
 aX 20 (pP 15 (cn (.bool true)) 19) <|
 aXZ
noncomputable def f87_r5 (c : CallF) : RF := rg [4] <| aX 4 (pM (cn (.bool false))) <|
 aXZ
noncomputable def f87_r6 (c : CallF) : RF := rg [0, 1, 7, 8] <| aX 21 (pB .add 3 8 (cn (.int .i64 1))) <|
 aX 8 (pM 21) <|
 aXZ
noncomputable def f87_r7 (c : CallF) : RF := rg [4] <| aX 22 (pM 0) <|
 aX 23 (pLen 9 22) <|
 aX 24 (pB .geq 3 23 (cn (.int .i64 1))) <|
 aX 25 (pM 24) <|
 aX 26 (pG 25 true (pM 0)) <|
 aX 27 (pG 25 true (pLen 9 26)) <|
 aX 28 (pG 25 true (pM 1)) <|
 aX 29 (pG 25 true (pB .leq 3 27 28)) <|
 aX 30 (pP 25 29 (cn (.bool false))) <|
 aX 4 (pM 30) <|
 aXZ
noncomputable def f87_l2 (c : CallF) (k : Nat) : St :=
 (bSeq (bReg (f87_r2 c))
 (bSeq (bCond (.tmp 9) (bEx .nrm) (bEx (.ext 0)))
 (bSeq (bBlock 1 (bSeq (bReg (f87_r3 c))
 (bSeq (bReg (f87_r4 c))
 (bCond (.tmp 20) (bSeq (bReg (f87_r5 c))
 (bEx .ret)) (bEx .nrm)))))
 (bReg (f87_r6 c)))))
noncomputable def f87 (c : CallF) (k : Nat) : St :=
 (bSeq (bReg (f87_r0 c))
 (bSeq (bSeq (bReg (f87_r1 c))
 (bBlock 0 (bLoop [0, 1, 7, 8] (f87_l2 c k) k)))
 (bSeq (bReg (f87_r7 c))
 (bEx .ret))))
theorem f87_eq (c : CallF) (k : Nat) : exec cx c 31 f87_an k (Tryd.f87.body.getD .skip) = f87 c k := by kernel_rfl
/-! ### f88: loop.example/g01263/impl.ValidItems -/
def f88_an : Ann := ⟨[(0, r0 [0]), (1, r0 [0, 5, 6, 7]), (2, r0 [0, 5, 6, 7, 8]), (3, r0 [0, 4, 5, 6, 7]), (4, r0 [0, 5, 6, 7, 13]), (5, r0 [2]), (6, r0 [0, 5, 6, 7]), (7, r0 [2])], [(2, [0, 5, 6, 7])]⟩
noncomputable def f88_r0 (c : CallF) : RF := rg [0] <| aX 2 (pM (cn (.bool false))) <|
 aXZ
noncomputable def f88_r1 (c : CallF) : RF := rg [0, 5, 6, 7] <| aX 5 (pM 0) <|
 aX 6 (pLen 27 5) <|
 aX 7 (pM (cn (.int .i64 0))) <|
 aXZ
noncomputable def f88_r2 (c : CallF) : RF := rg [0, 5, 6, 7, 8] <| aX 8 (pB .lss 3 7 6) <|
 aXZ
noncomputable def f88_r3 (c : CallF) : RF := rg [0, 4, 5, 6, 7] <| aX 9 (pI 2 5 7) <|
 aX 10 (pL true 2 9) <|
 aX 4 (pAl 85 2) <|
 aX0 (pS 2 4 10) <|
 aXZ
noncomputable def f88_r4 (c : CallF) : RF := rg [0, 5, 6, 7, 13] <| aX 11 (pL true 2 4) <|
 aX 12 (pK c false 132 [11]) <|
 aX 13 (pU .not 12) <|
 aXZ
noncomputable def f88_r5 (c : CallF) : RF := rg [2] <| aX 2 (pM (cn (.bool false))) <|
 aXZ
noncomputable def f88_r6 (c : CallF) : RF := rg [0, 5, 6, 7] <| aX 14 (pB .add 3 7 (cn (.int .i64 1))) <|
 aX 7 (pM 14) <|
 aXZ
noncomputable def f88_r7 (c : CallF) : RF := rg [2] <| aX 15 (pM 0) <|
 aX 16 (pLen 27 15) <|
 aX 17 (pB .leq 3 16 (cn (.int .i64 40))) <|
 aX 2 (pM 17) <|
 aXZ
noncomputable def f88_l2 (c : CallF) (k : Nat) : St :=
 (bSeq (bReg (f88_r2 c))
 (bSeq (bCond (.tmp 8) (bEx .nrm) (bEx (.ext 0)))
 (bSeq (bBlock 1 (bSeq (bReg (f88_r3 c))
 (bSeq (bReg (f88_r4 c))
 (bCond (.tmp 13) (bSeq (bReg (f88_r5 c))
 (bEx .ret)) (bEx .nrm)))))
 (bReg (f88_r6 c)))))
noncomputable def f88 (c : CallF) (k : Nat) : St :=
 (bSeq (bReg (f88_r0 c))
 (bSeq (bSeq (bReg (f88_r1 c))
 (bBlock 0 (bLoop [0, 5, 6, 7] (f88_l2 c k) k)))
 (bSeq (bReg (f88_r7 c))
 (bEx .ret))))
theorem f88_eq (c : CallF) (k : Nat) : exec cx c 18 f88_an k (Tryd.f88.body.getD .skip) = f88 c k := by kernel_rfl
/-! ### f89: loop.example/g01263/impl.balance -/
def f89_an : Ann := ⟨[(0, r0 [0]), (1, r0 [0, 3]), (2, r0 [3, 6, 7, 8]), (3, r0 [3, 6, 7, 8, 9]), (4, r0 [3, 5, 6, 7, 8]), (5, r0 [3, 5, 6, 7, 8, 19]), (6, r0 [3, 6, 7, 8]), (7, r0 [3, 6, 7, 8]), (8, r0 [3, 6, 7, 8]), (9, r0 [2])], [(3, [3, 6, 7, 8])]⟩
noncomputable def f89_r0 (c : CallF) : RF := rg [0] <| aX 2 (pM (cn (.int .i64 0))) <|
 aXZ
noncomputable def f89_r1 (c : CallF) : RF := rg [0, 3] <| aX 3 (pM (cn (.int .i64 0))) <|
 aXZ
noncomputable def f89_r2 (c : CallF) : RF := rg [3, 6, 7, 8] <| aX 6 (pM 0) <|
 aX 7 (pLen 27 6) <|
 aX 8 (pM (cn (.int .i64 0))) <|
 aXZ
noncomputable def f89_r3 (c : CallF) : RF := rg [3, 6, 7, 8, 9] <| aX 9 (pB .lss 3 8 7) <|
 aXZ
noncomputable def f89_r4 (c : CallF) : RF := rg [3, 5, 6, 7, 8] <| aX 10 (pI 2 6 8) <|
 aX 11 (pL true 2 10) <|
 aX 5 (pAl 85 2) <|
 aX0 (pS 2 5 11) <|
 aXZ
noncomputable def f89_r5 (c : CallF) : RF := rg [3, 5, 6, 7, 8, 19] <| aX 12 (pF 0 1 5) <|
 aX 13 (pL false 1 12) <|
 aX 14 (pB .eql 45 13 (cn (.int .i8 0))) <|
 aX 15 (pM 14) <|
 aX 16 (pG 15 false (pF 0 1 5)) <|
 aX 17 (pG 15 false (pL false 1 16)) <|
 aX 18 (pG 15 false (pB .eql 45 17 (cn (.int .i8 1)))) <|
 aX 19 (pP 15 (cn (.bool true)) 18) <|
 aXZ
noncomputable def f89_r6 (c : CallF) : RF := rg [3, 6, 7, 8] <| aX 20 (pM 3) <|
 aX 21 (pF 1 1 5) <|
 aX 22 (pL false 1 21) <|
 aX 23 (pB .add 2 20 22) <|
 aX 3 (pM 23) <|
 aXZ
noncomputable def f89_r7 (c : CallF) : RF := rg [3, 6, 7, 8] <| aX 24 (pM 3) <|
 aX 25 (pF 1 1 5) <|
 aX 26 (pL false 1 25) <|
 aX 27 (pB .sub 2 24 26) <|
 aX 3 (pM 27) <|
 aXZ
noncomputable def f89_r8 (c : CallF) : RF := rg [3, 6, 7, 8] <| aX 28 (pB .add 3 8 (cn (.int .i64 1))) <|
 aX 8 (pM 28) <|
 aXZ
noncomputable def f89_r9 (c : CallF) : RF := rg [2] <| aX 29 (pM 3) <|
 aX 2 (pM 29) <|
 aXZ
noncomputable def f89_l3 (c : CallF) (k : Nat) : St :=
 (bSeq (bReg (f89_r3 c))
 (bSeq (bCond (.tmp 9) (bEx .nrm) (bEx (.ext 0)))
 (bSeq (bBlock 1 (bSeq (bReg (f89_r4 c))
 (bSeq (bReg (f89_r5 c))
 (bCond (.tmp 19) (bReg (f89_r6 c)) (bReg (f89_r7 c))))))
 (bReg (f89_r8 c)))))
noncomputable def f89 (c : CallF) (k : Nat) : St :=
 (bSeq (bReg (f89_r0 c))
 (bSeq (bReg (f89_r1 c))
 (bSeq (bSeq (bReg (f89_r2 c))
 (bBlock 0 (bLoop [3, 6, 7, 8] (f89_l3 c k) k)))
 (bSeq (bReg (f89_r9 c))
 (bEx .ret)))))
theorem f89_eq (c : CallF) (k : Nat) : exec cx c 30 f89_an k (Tryd.f89.body.getD .skip) = f89 c k := by kernel_rfl
/-! ### f90: loop.example/g01263/impl.decimal -/
def f90_an : Ann := ⟨[(0, r0 [0]), (1, r0 [2])], []⟩
noncomputable def f90_r0 (c : CallF) : RF := rg [0] <| aX 2 (pM (cn (.str []))) <|
 aXZ
noncomputable def f90_r1 (c : CallF) : RF := rg [2] <| aX 3 (pM 0) <|
 aX 4 (pK c false 133 [3, (cn (.int .i64 10))]) <|
 aX 2 (pM 4) <|
 aXZ
noncomputable def f90 (c : CallF) (k : Nat) : St :=
 (bSeq (bReg (f90_r0 c))
 (bSeq (bReg (f90_r1 c))
 (bEx .ret)))
theorem f90_eq (c : CallF) (k : Nat) : exec cx c 5 f90_an k (Tryd.f90.body.getD .skip) = f90 c k := by kernel_rfl
/-! ### f92: loop.example/g01263/laws.eqItem -/
def f92_an : Ann := ⟨[(0, r0 [2, 3]), (1, r0 [2, 3, 9]), (2, r0 [4]), (3, r0 [14]), (4, r0 [4]), (5, r0 [4])], []⟩
noncomputable def f92_r0 (c : CallF) : RF := rg [2, 3] <| aX 2 (pBox 2 0) <|
 aX 3 (pBox 2 1) <|
 aX 4 (pM (cn (.bool false))) <|
 aXZ
noncomputable def f92_r1 (c : CallF) : RF := rg [2, 3, 9] <| aX 5 (pF 0 1 2) <|
 aX 6 (pL false 1 5) <|
 aX 7 (pF 0 1 3) <|
 aX 8 (pL false 1 7) <|
 aX 9 (pB .neq 45 6 8) <|
 aXZ
noncomputable def f92_r2 (c : CallF) : RF := rg [4] <| aX 4 (pM (cn (.bool false))) <|
 aXZ
noncomputable def f92_r3 (c : CallF) : RF := rg [14] <| aX 10 (pF 1 1 2) <|
 aX 11 (pL false 1 10) <|
 aX 12 (pF 1 1 3) <|
 aX 13 (pL false 1 12) <|
 aX 14 (pB .neq 2 11 13) <|
 aXZ
noncomputable def f92_r4 (c : CallF) : RF := rg [4] <| aX 4 (pM (cn (.bool false))) <|
 aXZ
noncomputable def f92_r5 (c : CallF) : RF := rg [4] <| aX 4 (pM (cn (.bool true))) <|
 aXZ
noncomputable def f92 (c : CallF) (k : Nat) : St :=
 (bSeq (bReg (f92_r0 c))
 (bSeq (bSeq (bReg (f92_r1 c))
 (bCond (.tmp 9) (bSeq (bReg (f92_r2 c))
 (bEx .ret)) (bEx .nrm)))
 (bSeq (bSeq (bReg (f92_r3 c))
 (bCond (.tmp 14) (bSeq (bReg (f92_r4 c))
 (bEx .ret)) (bEx .nrm)))
 (bSeq (bReg (f92_r5 c))
 (bEx .ret)))))
theorem f92_eq (c : CallF) (k : Nat) : exec cx c 15 f92_an k (Tryd.f92.body.getD .skip) = f92 c k := by kernel_rfl
/-! ### f94: loop.example/g01263/spec.l01Part -/
def f94_an : Ann := ⟨[(0, r0 [0, 1, 2]), (1, r0 [0, 1, 2, 8]), (2, r0 [6]), (3, r0 [0, 1, 2, 11]), (4, r0 [0, 1, 2]), (5, r0 [6])], []⟩
noncomputable def f94_r0 (c : CallF) : RF := rg [0, 1, 2] <| aX 6 (pM (cn (.str []))) <|
 aXZ
noncomputable def f94_r1 (c : CallF) : RF := rg [0, 1, 2, 8] <| aX 7 (pM 1) <|
 aX 8 (pB .eql 2 7 (cn (.int .i64 0))) <|
 aXZ
noncomputable def f94_r2 (c : CallF) : RF := rg [6] <| aX 9 (pM 0) <|
 aX 6 (pM 9) <|
 aXZ
noncomputable def f94_r3 (c : CallF) : RF := rg [0, 1, 2, 11] <| aX 10 (pM 0) <|
 aX 11 (pB .neq 9 10 (cn (.str []))) <|
 aXZ
noncomputable def f94_r4 (c : CallF) : RF := rg [0, 1, 2] <| aX 12 (pM 0) <|
 aX 13 (pB .add 9 12 (cn (.str [32]))) <|
 aX 0 (pM 13) <|
 aXZ
noncomputable def f94_r5 (c : CallF) : RF := rg [6] <| aX 14 (pM 0) <|
 aX 15 (pM 1) <|
 aX 16 (pK c false 139 [15]) <|
 aX 17 (pB .add 9 14 16) <|
 aX 18 (pM 2) <|
 aX 19 (pB .add 9 17 18) <|
 aX 6 (pM 19) <|
 aXZ
noncomputable def f94 (c : CallF) (k : Nat) : St :=
 (bSeq (bReg (f94_r0 c))
 (bSeq (bSeq (bReg (f94_r1 c))
 (bCond (.tmp 8) (bSeq (bReg (f94_r2 c))
 (bEx .ret)) (bEx .nrm)))
 (bSeq (bSeq (bReg (f94_r3 c))
 (bCond (.tmp 11) (bReg (f94_r4 c)) (bEx .nrm)))
 (bSeq (bReg (f94_r5 c))
 (bEx .ret)))))
theorem f94_eq (c : CallF) (k : Nat) : exec cx c 20 f94_an k (Tryd.f94.body.getD .skip) = f94 c k := by kernel_rfl
/-! ### f110: loop.example/g01263/spec.l05Title -/
def f110_an : Ann := ⟨[(0, r0 [0]), (1, r0 [0, 3]), (2, r0 [0, 3, 7]), (3, r0 [0, 3]), (4, r0 [0, 3, 19]), (5, r0 [2]), (6, r0 [2])], [(2, [0, 3])]⟩
noncomputable def f110_r0 (c : CallF) : RF := rg [0] <| aX 2 (pM (cn (.bool false))) <|
 aXZ
noncomputable def f110_r1 (c : CallF) : RF := rg [0, 3] <| aX 3 (pM (cn (.int .i64 0))) <|
 aXZ
noncomputable def f110_r2 (c : CallF) : RF := rg [0, 3, 7] <| aX 4 (pM 3) <|
 aX 5 (pM 0) <|
 aX 6 (pLen 9 5) <|
 aX 7 (pB .lss 3 4 6) <|
 aXZ
noncomputable def f110_r3 (c : CallF) : RF := rg [0, 3] <| aX 8 (pM 3) <|
 aX 9 (pB .add 3 8 (cn (.int .i64 1))) <|
 aX 3 (pM 9) <|
 aXZ
noncomputable def f110_r4 (c : CallF) : RF := rg [0, 3, 19] <| aX 10 (pM 0) <|
 aX 11 (pM 3) <|
 aX 12 (fun n e M => keep (aIndexB (eget e 10) (eget e 11))) <|
 aX 13 (pB .lss 5 12 (cn (.int .u8 97))) <|
 aX 14 (pM 13) <|
 aX 15 (pG 14 false (pM 0)) <|
 aX 16 (pG 14 false (pM 3)) <|
 aX 17 (pG 14 false (fun n e M => keep (aIndexB (eget e 15) (eget e 16)))) <|
 aX 18 (pG 14 false (pB .gtr 5 17 (cn (.int .u8 122)))) <|
 aX 19 (pP 14 (cn (.bool true)) 18) <|
 aXZ
noncomputable def f110_r5 (c : CallF) : RF := rg [2] <| aX 2 (pM (cn (.bool false))) <|
 aXZ
noncomputable def f110_r6 (c : CallF) : RF := rg [2] <| aX 20 (pM 0) <|
 aX 21 (pLen 9 20) <|
 aX 22 (pK c false 84 [21, (cn (.int .i64 1)), (cn (.int .i64 16))]) <|
 aX 2 (pM 22) <|
 aXZ
noncomputable def f110_l2 (c : CallF) (k : Nat) : St :=
 (bSeq (bSeq (bReg (f110_r2 c))
 (bCond (.tmp 7) (bEx .nrm) (bEx (.ext 0))))
 (bSeq (bBlock 1 (bSeq (bReg (f110_r4 c))
 (bCond (.tmp 19) (bSeq (bReg (f110_r5 c))
 (bEx .ret)) (bEx .nrm))))
 (bReg (f110_r3 c))))
noncomputable def f110 (c : CallF) (k : Nat) : St :=
 (bSeq (bReg (f110_r0 c))
 (bSeq (bSeq (bReg (f110_r1 c))
 (bBlock 0 (bLoop [0, 3] (f110_l2 c k) k)))
 (bSeq (bReg (f110_r6 c))
 (bEx .ret))))
theorem f110_eq (c : CallF) (k : Nat) : exec cx c 23 f110_an k (Tryd.f110.body.getD .skip) = f110 c k := by kernel_rfl
/-! ### f111: loop.example/g01263/spec.l05ReadItem -/
def f111_an : Ann := ⟨[(0, r0 [0, 2]), (1, r0 [2, 4, 5]), (2, r0 [2, 4, 5, 6]), (3, r0 [2, 4, 5, 6, 15]), (4, r0 [2, 4, 5, 6]), (5, r0 [2, 4, 5, 6, 23]), (6, r0 [2, 6, 7, 8]), (7, r0 [2, 3]), (8, r0 [2, 3])], [(3, [2, 4, 5, 6])]⟩
noncomputable def f111_r0 (c : CallF) : RF := rg [0, 2] <| aX 2 (pAl 85 2) <|
 aX 3 (pM (cn (.bool false))) <|
 aXZ
noncomputable def f111_r1 (c : CallF) : RF := rg [2, 4, 5] <| aX 10 (pM 0) <|
 aX 11 (pK c false 150 [10]) <|
 aX 9 (pM 11) <|
 aX 12 (pE 0 9) <|
 aX 13 (pE 1 9) <|
 aX 4 (pM 12) <|
 aX 5 (pM 13) <|
 aXZ
noncomputable def f111_r2 (c : CallF) : RF := rg [2, 4, 5, 6] <| aX 6 (pM (cn (.int .i64 0))) <|
 aXZ
noncomputable def f111_r3 (c : CallF) : RF := rg [2, 4, 5, 6, 15] <| aX 14 (pM 6) <|
 aX 15 (pB .lss 3 14 (cn (.int .i64 4))) <|
 aXZ
noncomputable def f111_r4 (c : CallF) : RF := rg [2, 4, 5, 6] <| aX 16 (pM 6) <|
 aX 17 (pB .add 3 16 (cn (.int .i64 1))) <|
 aX 6 (pM 17) <|
 aXZ
noncomputable def f111_r5 (c : CallF) : RF := rg [2, 4, 5, 6, 23] <| aX 18 (pK c false 85 []) <|
 aX 19 (pM 6) <|
 aX 20 (pI 1 18 19) <|
 aX 21 (pL false 1 20) <|
 aX 22 (pM 4) <|
 aX 23 (pB .eql 9 21 22) <|
 aXZ
noncomputable def f111_r6 (c : CallF) : RF := rg [2, 6, 7, 8] <| aX 25 (pM 5) <|
 aX 26 (pK c false 126 [25]) <|
 aX 24 (pM 26) <|
 aX 27 (pE 0 24) <|
 aX 28 (pE 1 24) <|
 aX 7 (pM 27) <|
 aX 8 (pM 28) <|
 aXZ
noncomputable def f111_r7 (c : CallF) : RF := rg [2, 3] <| aX 29 (pM 6) <|
 aX 30 (fun n e M => keep (aConvI .i8 (eget e 29))) <|
 aX 31 (pM 7) <|
 aX 32 (fun n e M => keep (aBuild (zeroOf cx.P 85) [(0, 1, (eget e 30)), (1, 1, (eget e 31))] M)) <|
 aX 33 (pM 8) <|
 aX0 (pS 2 2 32) <|
 aX 3 (pM 33) <|
 aXZ
noncomputable def f111_r8 (c : CallF) : RF := rg [2, 3] <| aX 34 (fun n e M => keep (aBuild (zeroOf cx.P 85) [] M)) <|
 aX0 (pS 2 2 34) <|
 aX 3 (pM (cn (.bool false))) <|
 aXZ
noncomputable def f111_l3 (c : CallF) (k : Nat) : St :=
 (bSeq (bSeq (bReg (f111_r3 c))
 (bCond (.tmp 15) (bEx .nrm) (bEx (.ext 0))))
 (bSeq (bBlock 1 (bSeq (bReg (f111_r5 c))
 (bCond (.tmp 23) (bSeq (bReg (f111_r6 c))
 (bSeq (bReg (f111_r7 c))
 (bEx .ret))) (bEx .nrm))))
 (bReg (f111_r4 c))))
noncomputable def f111 (c : CallF) (k : Nat) : St :=
 (bSeq (bReg (f111_r0 c))
 (bSeq (bReg (f111_r1 c))
 (bSeq (bSeq (bReg (f111_r2 c))
 (bBlock 0 (bLoop [2, 4, 5, 6] (f111_l3 c k) k)))
 (bSeq (bReg (f111_r8 c))
 (bEx .ret)))))
theorem f111_eq (c : CallF) (k : Nat) : exec cx c 35 f111_an k (Tryd.f111.body.getD .skip) = f111 c k := by kernel_rfl
/-! ### f112: loop.example/g01263/spec.l05Items -/
def f112_an : Ann := ⟨[(0, r0 [0]), (1, r0 [0, 6]), (2, r0 [2]), (3, r0 [0, 3]), (4, r0 [0, 3, 10]), (5, r0 [0, 3]), (6, r0 [0, 3, 17]), (7, r0 [2]), (8, r0 [2])], [(4, [0, 3])]⟩
noncomputable def f112_r0 (c : CallF) : RF := rg [0] <| aX 2 (pM (cn (.bool false))) <|
 aXZ
noncomputable def f112_r1 (c : CallF) : RF := rg [0, 6] <| aX 4 (pM 0) <|
 aX 5 (pLen 27 4) <|
 aX 6 (pB .gtr 3 5 (cn (.int .i64 40))) <|
 aXZ
noncomputable def f112_r2 (c : CallF) : RF := rg [2] <| aX 2 (pM (cn (.bool false))) <|
 aXZ
noncomputable def f112_r3 (c : CallF) : RF := rg [0, 3] <| aX 3 (pM (cn (.int .i64 0))) <|
 aXZ
noncomputable def f112_r4 (c : CallF) : RF := rg [0, 3, 10] <| aX 7 (pM 3) <|
 aX 8 (pM 0) <|
 aX 9 (pLen 27 8) <|
 aX 10 (pB .lss 3 7 9) <|
 aXZ
noncomputable def f112_r5 (c : CallF) : RF := rg [0, 3] <| aX 11 (pM 3) <|
 aX 12 (pB .add 3 11 (cn (.int .i64 1))) <|
 aX 3 (pM 12) <|
 aXZ
noncomputable def f112_r6 (c : CallF) : RF := rg [0, 3, 17] <| aX 13 (pM 0) <|
 aX 14 (pM 3) <|
 aX 15 (pI 2 13 14) <|
 aX 16 (pK c false 151 [15]) <|
 aX 17 (pU .not 16) <|
 aXZ
noncomputable def f112_r7 (c : CallF) : RF := rg [2] <| aX 2 (pM (cn (.bool false))) <|
 aXZ
noncomputable def f112_r8 (c : CallF) : RF := rg [2] <| aX 2 (pM (cn (.bool true))) <|
 aXZ
noncomputable def f112_l4 (c : CallF) (k : Nat) : St :=
 (bSeq (bSeq (bReg (f112_r4 c))
 (bCond (.tmp 10) (bEx .nrm) (bEx (.ext 0))))
 (bSeq (bBlock 1 (bSeq (bReg (f112_r6 c))
 (bCond (.tmp 17) (bSeq (bReg (f112_r7 c))
 (bEx .ret)) (bEx .nrm))))
 (bReg (f112_r5 c))))
noncomputable def f112 (c : CallF) (k : Nat) : St :=
 (bSeq (bReg (f112_r0 c))
 (bSeq (bSeq (bReg (f112_r1 c))
 (bCond (.tmp 6) (bSeq (bReg (f112_r2 c))
 (bEx .ret)) (bEx .nrm)))
 (bSeq (bSeq (bReg (f112_r3 c))
 (bBlock 0 (bLoop [0, 3] (f112_l4 c k) k)))
 (bSeq (bReg (f112_r8 c))
 (bEx .ret)))))
theorem f112_eq (c : CallF) (k : Nat) : exec cx c 18 f112_an k (Tryd.f112.body.getD .skip) = f112 c k := by kernel_rfl
/-! ### f113: loop.example/g01263/spec.l05Account -/
def f113_an : Ann := ⟨[(0, r0 [0, 1, 4]), (1, ⟨[7], [], [], [], [4]⟩)], []⟩
noncomputable def f113_r0 (c : CallF) : RF := rg [0, 1, 4] <| aX 4 (pAl 29 3) <|
 aXZ
noncomputable def f113_r1 (c : CallF) : RF := rg [4] <| aX 5 (pM 0) <|
 aX 6 (fun n e M => keep (aLitI 85 2 [] M)) <|
 aX 7 (pM 1) <|
 aX 8 (fun n e M => aAppI 85 2 16 (eget e 6) (eget e 7) M) <|
 aX 9 (pM 1) <|
 aX 10 (pK c false 131 [9]) <|
 aX 11 (fun n e M => keep (aBuild (zeroOf cx.P 29) [(0, 1, (eget e 5)), (1, 1, (eget e 8)), (2, 1, (eget e 10))] M)) <|
 aX0 (pSK 3 4 11) <|
 aXZ
noncomputable def f113 (c : CallF) (k : Nat) : St :=
 (bSeq (bReg (f113_r0 c))
 (bSeq (bReg (f113_r1 c))
 (bEx .ret)))
theorem f113_eq (c : CallF) (k : Nat) : exec cx c 12 f113_an k (Tryd.f113.body.getD .skip) = f113 c k := by kernel_rfl
/-! ### f115: slices.Index[[]string,string] -/
def f115_an : Ann := ⟨[(0, r0 [0, 1]), (1, r0 [0, 1, 7, 8]), (2, r0 [0, 1, 7, 8, 9]), (3, r0 [0, 1, 5, 7, 8]), (4, r0 [0, 1, 5, 7, 8, 16]), (5, r0 [4]), (6, r0 [0, 1, 7, 8]), (7, r0 [4])], [(2, [0, 1, 7, 8])]⟩
noncomputable def f115_r0 (c : CallF) : RF := rg [0, 1] <| aX 4 (pM (cn (.int .i64 0))) <|
 aXZ
noncomputable def f115_r1 (c : CallF) : RF := rg [0, 1, 7, 8] <| aX 6 (pM 0) <|
 aX 7 (pLen 86 6) <|
 aX 8 (pM (cn (.int .i64 0))) <|
 aXZ
noncomputable def f115_r2 (c : CallF) : RF := rg [0, 1, 7, 8, 9] <| aX 9 (pB .lss 3 8 7) <|
 aXZ
noncomputable def f115_r3 (c : CallF) : RF := rg [0, 1, 5, 7, 8] <| aX 10 (pM 8) <|
 aX 5 (pM 10) <|
 aXZ
noncomputable def f115_r4 (c : CallF) : RF := rg [0, 1, 5, 7, 8, 16] <| aX 11 (pM 1) <|
 aX 12 (pM 0) <|
 aX 13 (pM 5) <|
 aX 14 (pI 1 12 13) <|
 aX 15 (pL false 1 14) <|
 aX 16 (pB .eql 9 11 15) <|
 aXZ
noncomputable def f115_r5 (c : CallF) : RF := rg [4] <| aX 17 (pM 5) <|
 aX 4 (pM 17) <|
 aXZ
noncomputable def f115_r6 (c : CallF) : RF := rg [0, 1, 7, 8] <| aX 18 (pB .add 3 8 (cn (.int .i64 1))) <|
 aX 8 (pM 18) <|
 aXZ
noncomputable def f115_r7 (c : CallF) : RF := rg [4] <| aX 4 (pM (cn (.int .i64 (-1)))) <|
 aXZ
noncomputable def f115_l2 (c : CallF) (k : Nat) : St :=
 (bSeq (bReg (f115_r2 c))
 (bSeq (bCond (.tmp 9) (bEx .nrm) (bEx (.ext 0)))
 (bSeq (bBlock 1 (bSeq (bReg (f115_r3 c))
 (bSeq (bReg (f115_r4 c))
 (bCond (.tmp 16) (bSeq (bReg (f115_r5 c))
 (bEx .ret)) (bEx .nrm)))))
 (bReg (f115_r6 c)))))
noncomputable def f115 (c : CallF) (k : Nat) : St :=
 (bSeq (bReg (f115_r0 c))
 (bSeq (bSeq (bReg (f115_r1 c))
 (bBlock 0 (bLoop [0, 1, 7, 8] (f115_l2 c k) k)))
 (bSeq (bReg (f115_r7 c))
 (bEx .ret))))
theorem f115_eq (c : CallF) (k : Nat) : exec cx c 19 f115_an k (Tryd.f115.body.getD .skip) = f115 c k := by kernel_rfl
/-! ### f116: loop.example/g01263/impl.ReadAmount -/
def f116_an : Ann := ⟨[(0, r0 [0]), (1, r0 [0, 12]), (2, r0 [2, 3]), (3, r0 [0, 4]), (4, r0 [0, 4, 14, 15, 16]), (5, r0 [0, 4, 14, 15, 16, 17]), (6, r0 [0, 4, 6, 14, 15, 16]), (7, r0 [0, 4, 6, 14, 15, 16, 21]), (8, r0 [2, 3]), (9, r0 [0, 4, 6, 7, 8, 14, 15, 16]), (10, r0 [0, 4, 7, 8, 9, 14, 15, 16]), (11, r0 [0, 4, 7, 9, 14, 15, 16, 42]), (12, r0 [2, 3]), (13, r0 [0, 4, 14, 15, 16]), (14, r0 [0, 4, 14, 15, 16]), (15, r0 [4, 53]), (16, r0 [2, 3]), (17, r0 [2, 3])], [(5, [0, 4, 14, 15, 16])]⟩
noncomputable def f116_r0 (c : CallF) : RF := rg [0] <| aX 2 (pM (cn (.int .i64 0))) <|
 aX 3 (pM (cn (.int .i64 0))) <|
 aXZ
noncomputable def f116_r1 (c : CallF) : RF := rg [0, 12] <| aX 10 (pM 0) <|
 aX 11 (pLen 9 10) <|
 aX 12 (pB .gtr 3 11 (cn (.int .i64 30))) <|
 aXZ
noncomputable def f116_r2 (c : CallF) : RF := rg [2, 3] <| aX 2 (pM (cn (.int .i64 0))) <|
 aX 3 (pM (cn (.int .i64 5))) <|
 aXZ
noncomputable def f116_r3 (c : CallF) : RF := rg [0, 4] <| aX 4 (pM (cn (.int .i64 0))) <|
 aXZ
noncomputable def f116_r4 (c : CallF) : RF := rg [0, 4, 14, 15, 16] <| aX 13 (pM 0) <|
 aX 14 (pK c false 114 [13, (cn (.str [32]))]) <|
 aX 15 (pLen 86 14) <|
 aX 16 (pM (cn (.int .i64 0))) <|
 aXZ
noncomputable def f116_r5 (c : CallF) : RF := rg [0, 4, 14, 15, 16, 17] <| aX 17 (pB .lss 3 16 15) <|
 aXZ
noncomputable def f116_r6 (c : CallF) : RF := rg [0, 4, 6, 14, 15, 16] <| aX 18 (pI 1 14 16) <|
 aX 19 (pL false 1 18) <|
 aX 6 (pM 19) <|
 aXZ
noncomputable def f116_r7 (c : CallF) : RF := rg [0, 4, 6, 14, 15, 16, 21] <| aX 20 (pM 6) <|
 aX 21 (pB .eql 9 20 (cn (.str []))) <|
 aXZ
noncomputable def f116_r8 (c : CallF) : RF := rg [2, 3] <| aX 2 (pM (cn (.int .i64 0))) <|
 aX 3 (pM (cn (.int .i64 5))) <|
 aXZ
noncomputable def f116_r9 (c : CallF) : RF := rg [0, 4, 6, 7, 8, 14, 15, 16] <| aX 23 (pM 6) <|
 aX 24 (pM 6) <|
 aX 25 (pLen 9 24) <|
 aX 26 (pB .sub 3 25 (cn (.int .i64 1))) <|
 aX 27 (fun n e M => keep (aSliceS none (some (eget e 26)) (eget e 23))) <|
 aX 28 (pK c false 121 [27]) <|
 aX 22 (pM 28) <|
 aX 29 (pE 0 22) <|
 aX 30 (pE 1 22) <|
 aX 7 (pM 29) <|
 aX 8 (pM 30) <|
 aXZ
noncomputable def f116_r10 (c : CallF) : RF := rg [0, 4, 7, 8, 9, 14, 15, 16] <| aX 31 (pM 6) <|
 aX 32 (pM 6) <|
 aX 33 (pLen 9 32) <|
 aX 34 (pB .sub 3 33 (cn (.int .i64 1))) <|
 aX 35 (fun n e M => keep (aIndexB (eget e 31) (eget e 34))) <|
 aX 36 (pK c false 120 [(cn (.str [100, 115, 108])), 35]) <|
 aX 9 (pM 36) <|
 aXZ
noncomputable def f116_r11 (c : CallF) : RF := rg [0, 4, 7, 9, 14, 15, 16, 42] <| aX 37 (pM 8) <|
 aX 38 (pU .not 37) <|
 aX 39 (pM 38) <|
 aX 40 (pG 39 false (pM 9)) <|
 aX 41 (pG 39 false (pB .lss 3 40 (cn (.int .i64 0)))) <|
 aX 42 (pP 39 (cn (.bool true)) 41) <|
 aXZ
noncomputable def f116_r12 (c : CallF) : RF := rg [2, 3] <| aX 2 (pM (cn (.int .i64 0))) <|
 aX 3 (pM (cn (.int .i64 5))) <|
 aXZ
noncomputable def f116_r13 (c : CallF) : RF := rg [0, 4, 14, 15, 16] <| aX 43 (pM 4) <|
 aX 44 (pM 7) <|
 aX 45 (pM 9) <|
 aX 46 (pK c false 153 [45]) <|
 aX 47 (pB .mul 2 44 46) <|
 aX 48 (pB .add 2 43 47) <|
 aX 4 (pM 48) <|
 aXZ
noncomputable def f116_r14 (c : CallF) : RF := rg [0, 4, 14, 15, 16] <| aX 49 (pB .add 3 16 (cn (.int .i64 1))) <|
 aX 16 (pM 49) <|
 aXZ
noncomputable def f116_r15 (c : CallF) : RF := rg [4, 53] <| aX 50 (pM 4) <|
 aX 51 (pK c false 45 [50]) <|
 aX 52 (pM 0) <|
 aX 53 (pB .neq 9 51 52) <|
 aXZ
noncomputable def f116_r16 (c : CallF) : RF := rg [2, 3] <| aX 2 (pM (cn (.int .i64 0))) <|
 aX 3 (pM (cn (.int .i64 5))) <|
 aXZ
noncomputable def f116_r17 (c : CallF) : RF := rg [2, 3] <| aX 54 (pM 4) <|
 aX 2 (pM 54) <|
 aX 3 (pM (cn (.int .i64 0))) <|
 aXZ
noncomputable def f116_l5 (c : CallF) (k : Nat) : St :=
 (bSeq (bReg (f116_r5 c))
 (bSeq (bCond (.tmp 17) (bEx .nrm) (bEx (.ext 0)))
 (bSeq (bBlock 1 (bSeq (bReg (f116_r6 c))
 (bSeq (bSeq (bReg (f116_r7 c))
 (bCond (.tmp 21) (bSeq (bReg (f116_r8 c))
 (bEx .ret)) (bEx .nrm)))
 (bSeq (bReg (f116_r9 c))
 (bSeq (bReg (f116_r10 c))
 (bSeq (bSeq (bReg (f116_r11 c))
 (bCond (.tmp 42) (bSeq (bReg (f116_r12 c))
 (bEx .ret)) (bEx .nrm)))
 (bReg (f116_r13 c))))))))
 (bReg (f116_r14 c)))))
noncomputable def f116 (c : CallF) (k : Nat) : St :=
 (bSeq (bReg (f116_r0 c))
 (bSeq (bSeq (bReg (f116_r1 c))
 (bCond (.tmp 12) (bSeq (bReg (f116_r2 c))
 (bEx .ret)) (bEx .nrm)))
 (bSeq (bReg (f116_r3 c))
 (bSeq (bSeq (bReg (f116_r4 c))
 (bBlock 0 (bLoop [0, 4, 14, 15, 16] (f116_l5 c k) k)))
 (bSeq (bSeq (bReg (f116_r15 c))
 (bCond (.tmp 53) (bSeq (bReg (f116_r16 c))
 (bEx .ret)) (bEx .nrm)))
 (bSeq (bReg (f116_r17 c))
 (bEx .ret)))))))
theorem f116_eq (c : CallF) (k : Nat) : exec cx c 55 f116_an k (Tryd.f116.body.getD .skip) = f116 c k := by kernel_rfl
/-! ### f117: loop.example/g01263/impl.MakeAccount -/
def f117_an : Ann := ⟨[(0, r0 [0, 1, 4]), (1, r0 [0, 1, 4, 6]), (2, ⟨[1], [], [], [], [4, 5]⟩), (3, r0 [0, 1, 4, 11]), (4, ⟨[1], [], [], [], [4, 5]⟩), (5, ⟨[6], [], [], [], [4, 5]⟩)], []⟩
noncomputable def f117_r0 (c : CallF) : RF := rg [0, 1, 4] <| aX 4 (pAl 29 3) <|
 aX 5 (pM (cn (.int .i64 0))) <|
 aXZ
noncomputable def f117_r1 (c : CallF) : RF := rg [0, 1, 4, 6] <| aX 7 (pM 1) <|
 aX 8 (pK c false 88 [7]) <|
 aX 9 (pU .not 8) <|
 aX 6 (pM 9) <|
 aXZ
noncomputable def f117_r2 (c : CallF) : RF := rg [4, 5] <| aX 10 (fun n e M => keep (aBuild (zeroOf cx.P 29) [] M)) <|
 aX0 (pSK 3 4 10) <|
 aX 5 (pM (cn (.int .i64 1))) <|
 aXZ
noncomputable def f117_r3 (c : CallF) : RF := rg [0, 1, 4, 11] <| aX 12 (pM 0) <|
 aX 13 (pK c false 87 [12, (cn (.int .i64 16))]) <|
 aX 14 (pU .not 13) <|
 aX 11 (pM 14) <|
 aXZ
noncomputable def f117_r4 (c : CallF) : RF := rg [4, 5] <| aX 15 (fun n e M => keep (aBuild (zeroOf cx.P 29) [] M)) <|
 aX0 (pSK 3 4 15) <|
 aX 5 (pM (cn (.int .i64 2))) <|
 aXZ
noncomputable def f117_r5 (c : CallF) : RF := rg [4, 5] <| aX 16 (pM 0) <|
 aX 17 (pM 1) <|
 aX 18 (pK c false 154 [17]) <|
 aX 19 (pM 1) <|
 aX 20 (pK c false 89 [19]) <|
 aX 21 (fun n e M => keep (aBuild (zeroOf cx.P 29) [(0, 1, (eget e 16)), (1, 1, (eget e 18)), (2, 1, (eget e 20))] M)) <|
 aX0 (pSK 3 4 21) <|
 aX 5 (pM (cn (.int .i64 0))) <|
 aXZ
noncomputable def f117 (c : CallF) (k : Nat) : St :=
 (bSeq (bReg (f117_r0 c))
 (bSeq (bBlock 0 (bSeq (bReg (f117_r1 c))
 (bCond (.tmp 6) (bSeq (bReg (f117_r2 c))
 (bEx .ret)) (bSeq (bReg (f117_r3 c))
 (bCond (.tmp 11) (bSeq (bReg (f117_r4 c))
 (bEx .ret)) (bEx .nrm))))))
 (bSeq (bReg (f117_r5 c))
 (bEx .ret))))
theorem f117_eq (c : CallF) (k : Nat) : exec cx c 22 f117_an k (Tryd.f117.body.getD .skip) = f117 c k := by kernel_rfl
/-! ### f121: loop.example/g01263/impl.number -/
def f121_an : Ann := ⟨[(0, r0 [0]), (1, r0 [0, 22]), (2, r0 [2, 3]), (3, r0 [0, 4]), (4, r0 [0, 4, 24, 25]), (5, r0 [0, 4, 24, 25, 26]), (6, r0 [0, 4, 5, 24, 25]), (7, r0 [0, 4, 5, 24, 25, 37]), (8, r0 [2, 3]), (9, r0 [0, 4, 24, 25]), (10, r0 [0, 4, 24, 25]), (11, r0 [2, 3])], [(5, [0, 4, 24, 25])]⟩
noncomputable def f121_r0 (c : CallF) : RF := rg [0] <| aX 2 (pM (cn (.int .i64 0))) <|
 aX 3 (pM (cn (.bool false))) <|
 aXZ
noncomputable def f121_r1 (c : CallF) : RF := rg [0, 22] <| aX 6 (pM 0) <|
 aX 7 (pB .eql 9 6 (cn (.str []))) <|
 aX 8 (pM 7) <|
 aX 9 (pG 8 false (pM 0)) <|
 aX 10 (pG 8 false (pLen 9 9)) <|
 aX 11 (pG 8 false (pB .gtr 3 10 (cn (.int .i64 9)))) <|
 aX 12 (pP 8 (cn (.bool true)) 11) <|
 aX 13 (pM 12) <|
 aX 14 (pG 13 false (pM 0)) <|
 aX 15 (pG 13 false (fun n e M => keep (aIndexB (eget e 14) (.int .i64 0)))) <|
 aX 16 (pG 13 false (pB .eql 5 15 (cn (.int .u8 48)))) <|
 aX 17 (pG 13 false (pM 16)) <|
 aX 18 (pG 17 true (pM 0)) <|
 aX 19 (pG 17 true (pLen 9 18)) <|
 aX 20 (pG 17 true (pB .gtr 3 19 (cn (.int .i64 1)))) <|
 aX 21 (pG 13 false (pP 17 20 (cn (.bool false)))) <|
 aX 22 (pP 13 (cn (.bool true)) 21) <|
 aXZ
noncomputable def f121_r2 (c : CallF) : RF := rg [2, 3] <| aX 2 (pM (cn (.int .i64 0))) <|
 aX 3 (pM (cn (.bool false))) <|
 aXZ
noncomputable def f121_r3 (c : CallF) : RF := rg [0, 4] <| aX 4 (pM (cn (.int .i64 0))) <|
 aXZ
noncomputable def f121_r4 (c : CallF) : RF := rg [0, 4, 24, 25] <| aX 23 (pM 0) <|
 aX 24 (pLen 9 23) <|
 aX 25 (pM (cn (.int .i64 0))) <|
 aXZ
noncomputable def f121_r5 (c : CallF) : RF := rg [0, 4, 24, 25, 26] <| aX 26 (pB .lss 3 25 24) <|
 aXZ
noncomputable def f121_r6 (c : CallF) : RF := rg [0, 4, 5, 24, 25] <| aX 27 (pM 25) <|
 aX 5 (pM 27) <|
 aXZ
noncomputable def f121_r7 (c : CallF) : RF := rg [0, 4, 5, 24, 25, 37] <| aX 28 (pM 0) <|
 aX 29 (pM 5) <|
 aX 30 (fun n e M => keep (aIndexB (eget e 28) (eget e 29))) <|
 aX 31 (pB .lss 5 30 (cn (.int .u8 48))) <|
 aX 32 (pM 31) <|
 aX 33 (pG 32 false (pM 0)) <|
 aX 34 (pG 32 false (pM 5)) <|
 aX 35 (pG 32 false (fun n e M => keep (aIndexB (eget e 33) (eget e 34)))) <|
 aX 36 (pG 32 false (pB .gtr 5 35 (cn (.int .u8 57)))) <|
 aX 37 (pP 32 (cn (.bool true)) 36) <|
 aXZ
noncomputable def f121_r8 (c : CallF) : RF := rg [2, 3] <| aX 2 (pM (cn (.int .i64 0))) <|
 aX 3 (pM (cn (.bool false))) <|
 aXZ
noncomputable def f121_r9 (c : CallF) : RF := rg [0, 4, 24, 25] <| aX 38 (pM 4) <|
 aX 39 (pB .mul 2 38 (cn (.int .i64 10))) <|
 aX 40 (pM 0) <|
 aX 41 (pM 5) <|
 aX 42 (fun n e M => keep (aIndexB (eget e 40) (eget e 41))) <|
 aX 43 (pB .sub 5 42 (cn (.int .u8 48))) <|
 aX 44 (fun n e M => keep (aConvI .i64 (eget e 43))) <|
 aX 45 (pB .add 2 39 44) <|
 aX 4 (pM 45) <|
 aXZ
noncomputable def f121_r10 (c : CallF) : RF := rg [0, 4, 24, 25] <| aX 46 (pB .add 3 25 (cn (.int .i64 1))) <|
 aX 25 (pM 46) <|
 aXZ
noncomputable def f121_r11 (c : CallF) : RF := rg [2, 3] <| aX 47 (pM 4) <|
 aX 2 (pM 47) <|
 aX 3 (pM (cn (.bool true))) <|
 aXZ
noncomputable def f121_l5 (c : CallF) (k : Nat) : St :=
 (bSeq (bReg (f121_r5 c))
 (bSeq (bCond (.tmp 26) (bEx .nrm) (bEx (.ext 0)))
 (bSeq (bBlock 1 (bSeq (bReg (f121_r6 c))
 (bSeq (bSeq (bReg (f121_r7 c))
 (bCond (.tmp 37) (bSeq (bReg (f121_r8 c))
 (bEx .ret)) (bEx .nrm)))
 (bReg (f121_r9 c)))))
 (bReg (f121_r10 c)))))
noncomputable def f121 (c : CallF) (k : Nat) : St :=
 (bSeq (bReg (f121_r0 c))
 (bSeq (bSeq (bReg (f121_r1 c))
 (bCond (.tmp 22) (bSeq (bReg (f121_r2 c))
 (bEx .ret)) (bEx .nrm)))
 (bSeq (bReg (f121_r3 c))
 (bSeq (bSeq (bReg (f121_r4 c))
 (bBlock 0 (bLoop [0, 4, 24, 25] (f121_l5 c k) k)))
 (bSeq (bReg (f121_r11 c))
 (bEx .ret))))))
theorem f121_eq (c : CallF) (k : Nat) : exec cx c 48 f121_an k (Tryd.f121.body.getD .skip) = f121 c k := by kernel_rfl
/-! ### f125: loop.example/g01263/spec.l01Number -/
def f125_an : Ann := ⟨[(0, r0 [0]), (1, r0 [0, 22]), (2, r0 [2, 3]), (3, r0 [0, 4]), (4, r0 [0, 4, 5]), (5, r0 [0, 4, 5, 26]), (6, r0 [0, 4, 5]), (7, r0 [0, 4, 5, 38]), (8, r0 [2, 3]), (9, r0 [0, 4, 5]), (10, r0 [2, 3])], [(5, [0, 4, 5])]⟩
noncomputable def f125_r0 (c : CallF) : RF := rg [0] <| aX 2 (pM (cn (.int .i64 0))) <|
 aX 3 (pM (cn (.bool false))) <|
 aXZ
noncomputable def f125_r1 (c : CallF) : RF := rg [0, 22] <| aX 6 (pM 0) <|
 aX 7 (pB .eql 9 6 (cn (.str []))) <|
 aX 8 (pM 7) <|
 aX 9 (pG 8 false (pM 0)) <|
 aX 10 (pG 8 false (pLen 9 9)) <|
 aX 11 (pG 8 false (pB .gtr 3 10 (cn (.int .i64 10)))) <|
 aX 12 (pP 8 (cn (.bool true)) 11) <|
 aX 13 (pM 12) <|
 aX 14 (pG 13 false (pM 0)) <|
 aX 15 (pG 13 false (fun n e M => keep (aIndexB (eget e 14) (.int .i64 0)))) <|
 aX 16 (pG 13 false (pB .eql 5 15 (cn (.int .u8 48)))) <|
 aX 17 (pG 13 false (pM 16)) <|
 aX 18 (pG 17 true (pM 0)) <|
 aX 19 (pG 17 true (pLen 9 18)) <|
 aX 20 (pG 17 true (pB .gtr 3 19 (cn (.int .i64 1)))) <|
 aX 21 (pG 13 false (pP 17 20 (cn (.bool false)))) <|
 aX 22 (pP 13 (cn (.bool true)) 21) <|
 aXZ
noncomputable def f125_r2 (c : CallF) : RF := rg [2, 3] <| aX 2 (pM (cn (.int .i64 0))) <|
 aX 3 (pM (cn (.bool false))) <|
 aXZ
noncomputable def f125_r3 (c : CallF) : RF := rg [0, 4] <| aX 4 (pM (cn (.int .i64 0))) <|
 aXZ
noncomputable def f125_r4 (c : CallF) : RF := rg [0, 4, 5] <| aX 5 (pM (cn (.int .i64 0))) <|
 aXZ
noncomputable def f125_r5 (c : CallF) : RF := rg [0, 4, 5, 26] <| aX 23 (pM 5) <|
 aX 24 (pM 0) <|
 aX 25 (pLen 9 24) <|
 aX 26 (pB .lss 3 23 25) <|
 aXZ
noncomputable def f125_r6 (c : CallF) : RF := rg [0, 4, 5] <| aX 27 (pM 5) <|
 aX 28 (pB .add 3 27 (cn (.int .i64 1))) <|
 aX 5 (pM 28) <|
 aXZ
noncomputable def f125_r7 (c : CallF) : RF := rg [0, 4, 5, 38] <| aX 29 (pM 0) <|
 aX 30 (pM 5) <|
 aX 31 (fun n e M => keep (aIndexB (eget e 29) (eget e 30))) <|
 aX 32 (pB .lss 5 31 (cn (.int .u8 48))) <|
 aX 33 (pM 32) <|
 aX 34 (pG 33 false (pM 0)) <|
 aX 35 (pG 33 false (pM 5)) <|
 aX 36 (pG 33 false (fun n e M => keep (aIndexB (eget e 34) (eget e 35)))) <|
 aX 37 (pG 33 false (pB .gtr 5 36 (cn (.int .u8 57)))) <|
 aX 38 (pP 33 (cn (.bool true)) 37) <|
 aXZ
noncomputable def f125_r8 (c : CallF) : RF := rg [2, 3] <| aX 2 (pM (cn (.int .i64 0))) <|
 aX 3 (pM (cn (.bool false))) <|
 aXZ
noncomputable def f125_r9 (c : CallF) : RF := rg [0, 4, 5] <| aX 39 (pM 4) <|
 aX 40 (pB .mul 2 (cn (.int .i64 10)) 39) <|
 aX 41 (pM 0) <|
 aX 42 (pM 5) <|
 aX 43 (fun n e M => keep (aIndexB (eget e 41) (eget e 42))) <|
 aX 44 (pB .sub 5 43 (cn (.int .u8 48))) <|
 aX 45 (fun n e M => keep (aConvI .i64 (eget e 44))) <|
 aX 46 (pB .add 2 40 45) <|
 aX 4 (pM 46) <|
 aXZ
noncomputable def f125_r10 (c : CallF) : RF := rg [2, 3] <| aX 47 (pM 4) <|
 aX 2 (pM 47) <|
 aX 3 (pM (cn (.bool true))) <|
 aXZ
noncomputable def f125_l5 (c : CallF) (k : Nat) : St :=
 (bSeq (bSeq (bReg (f125_r5 c))
 (bCond (.tmp 26) (bEx .nrm) (bEx (.ext 0))))
 (bSeq (bBlock 1 (bSeq (bSeq (bReg (f125_r7 c))
 (bCond (.tmp 38) (bSeq (bReg (f125_r8 c))
 (bEx .ret)) (bEx .nrm)))
 (bReg (f125_r9 c))))
 (bReg (f125_r6 c))))
noncomputable def f125 (c : CallF) (k : Nat) : St :=
 (bSeq (bReg (f125_r0 c))
 (bSeq (bSeq (bReg (f125_r1 c))
 (bCond (.tmp 22) (bSeq (bReg (f125_r2 c))
 (bEx .ret)) (bEx .nrm)))
 (bSeq (bReg (f125_r3 c))
 (bSeq (bSeq (bReg (f125_r4 c))
 (bBlock 0 (bLoop [0, 4, 5] (f125_l5 c k) k)))
 (bSeq (bReg (f125_r10 c))
 (bEx .ret))))))
theorem f125_eq (c : CallF) (k : Nat) : exec cx c 48 f125_an k (Tryd.f125.body.getD .skip) = f125 c k := by kernel_rfl
/-! ### f126: loop.example/g01263/spec.l01ReadAmount -/
def f126_an : Ann := ⟨[(0, r0 [0]), (1, r0 [0, 4]), (2, r0 [0, 4, 5]), (3, r0 [0, 4, 5, 6]), (4, r0 [0, 4, 5, 6, 15]), (5, r0 [0, 4, 5, 6]), (6, r0 [0, 4, 5, 6, 7]), (7, r0 [0, 4, 5, 6, 7, 24]), (8, r0 [2, 3]), (9, r0 [0, 4, 5, 6, 7, 8, 9]), (10, r0 [0, 4, 5, 6, 7, 8, 41]), (11, r0 [2, 3]), (12, r0 [0, 4, 5, 6, 8, 48]), (13, r0 [2, 3]), (14, r0 [0, 4, 5, 6, 8, 48, 49]), (15, r0 [0, 4, 5, 6]), (16, r0 [0, 4, 5, 6, 8, 48, 55]), (17, r0 [0, 4, 5, 6]), (18, r0 [0, 4, 5, 6, 8, 61]), (19, r0 [0, 4, 5, 6]), (20, r0 [2, 3])], [(4, [0, 4, 5, 6])]⟩
noncomputable def f126_r0 (c : CallF) : RF := rg [0] <| aX 2 (pM (cn (.int .i64 0))) <|
 aX 3 (pM (cn (.bool false))) <|
 aXZ
noncomputable def f126_r1 (c : CallF) : RF := rg [0, 4] <| aX 10 (pM 0) <|
 aX 11 (pK c false 65 [10, (cn (.int .u8 32))]) <|
 aX 4 (pM 11) <|
 aXZ
noncomputable def f126_r2 (c : CallF) : RF := rg [0, 4, 5] <| aX 5 (pM (cn (.int .i64 0))) <|
 aXZ
noncomputable def f126_r3 (c : CallF) : RF := rg [0, 4, 5, 6] <| aX 6 (pM (cn (.int .i64 0))) <|
 aXZ
noncomputable def f126_r4 (c : CallF) : RF := rg [0, 4, 5, 6, 15] <| aX 12 (pM 6) <|
 aX 13 (pM 4) <|
 aX 14 (pLen 86 13) <|
 aX 15 (pB .lss 3 12 14) <|
 aXZ
noncomputable def f126_r5 (c : CallF) : RF := rg [0, 4, 5, 6] <| aX 16 (pM 6) <|
 aX 17 (pB .add 3 16 (cn (.int .i64 1))) <|
 aX 6 (pM 17) <|
 aXZ
noncomputable def f126_r6 (c : CallF) : RF := rg [0, 4, 5, 6, 7] <| aX 18 (pM 4) <|
 aX 19 (pM 6) <|
 aX 20 (pI 1 18 19) <|
 aX 21 (pL false 1 20) <|
 aX 22 (pLen 9 21) <|
 aX 7 (pM 22) <|
 aXZ
noncomputable def f126_r7 (c : CallF) : RF := rg [0, 4, 5, 6, 7, 24] <| aX 23 (pM 7) <|
 aX 24 (pB .lss 3 23 (cn (.int .i64 2))) <|
 aXZ
noncomputable def f126_r8 (c : CallF) : RF := rg [2, 3] <| aX 2 (pM (cn (.int .i64 0))) <|
 aX 3 (pM (cn (.bool false))) <|
 aXZ
noncomputable def f126_r9 (c : CallF) : RF := rg [0, 4, 5, 6, 7, 8, 9] <| aX 26 (pM 4) <|
 aX 27 (pM 6) <|
 aX 28 (pI 1 26 27) <|
 aX 29 (pL false 1 28) <|
 aX 30 (pM 7) <|
 aX 31 (pB .sub 3 30 (cn (.int .i64 1))) <|
 aX 32 (fun n e M => keep (aSliceS none (some (eget e 31)) (eget e 29))) <|
 aX 33 (pK c false 125 [32]) <|
 aX 25 (pM 33) <|
 aX 34 (pE 0 25) <|
 aX 35 (pE 1 25) <|
 aX 8 (pM 34) <|
 aX 9 (pM 35) <|
 aXZ
noncomputable def f126_r10 (c : CallF) : RF := rg [0, 4, 5, 6, 7, 8, 41] <| aX 36 (pM 9) <|
 aX 37 (pU .not 36) <|
 aX 38 (pM 37) <|
 aX 39 (pG 38 false (pM 8)) <|
 aX 40 (pG 38 false (pB .gtr 2 39 (cn (.int .i64 100000000)))) <|
 aX 41 (pP 38 (cn (.bool true)) 40) <|
 aXZ
noncomputable def f126_r11 (c : CallF) : RF := rg [2, 3] <| aX 2 (pM (cn (.int .i64 0))) <|
 aX 3 (pM (cn (.bool false))) <|
 aXZ
noncomputable def f126_r12 (c : CallF) : RF := rg [0, 4, 5, 6, 8, 48] <| aX 42 (pM 4) <|
 aX 43 (pM 6) <|
 aX 44 (pI 1 42 43) <|
 aX 45 (pL false 1 44) <|
 aX 46 (pM 7) <|
 aX 47 (pB .sub 3 46 (cn (.int .i64 1))) <|
 aX 48 (fun n e M => keep (aIndexB (eget e 45) (eget e 47))) <|
 aXZ
noncomputable def f126_r13 (c : CallF) : RF := rg [2, 3] <| aX 2 (pM (cn (.int .i64 0))) <|
 aX 3 (pM (cn (.bool false))) <|
 aXZ
noncomputable def f126_r14 (c : CallF) : RF := rg [0, 4, 5, 6, 8, 48, 49] <| aX 50 (pB .eql 5 48 (cn (.int .u8 108))) <|
 aX 49 (pM 50) <|
 aXZ
noncomputable def f126_r15 (c : CallF) : RF := rg [0, 4, 5, 6] <| aX 51 (pM 5) <|
 aX 52 (pM 8) <|
 aX 53 (pB .mul 2 (cn (.int .i64 240)) 52) <|
 aX 54 (pB .add 2 51 53) <|
 aX 5 (pM 54) <|
 aXZ
noncomputable def f126_r16 (c : CallF) : RF := rg [0, 4, 5, 6, 8, 48, 55] <| aX 56 (pB .eql 5 48 (cn (.int .u8 115))) <|
 aX 55 (pM 56) <|
 aXZ
noncomputable def f126_r17 (c : CallF) : RF := rg [0, 4, 5, 6] <| aX 57 (pM 5) <|
 aX 58 (pM 8) <|
 aX 59 (pB .mul 2 (cn (.int .i64 12)) 58) <|
 aX 60 (pB .add 2 57 59) <|
 aX 5 (pM 60) <|
 aXZ
noncomputable def f126_r18 (c : CallF) : RF := rg [0, 4, 5, 6, 8, 61] <| aX 62 (pB .eql 5 48 (cn (.int .u8 100))) <|
 aX 61 (pM 62) <|
 aXZ
noncomputable def f126_r19 (c : CallF) : RF := rg [0, 4, 5, 6] <| aX 63 (pM 5) <|
 aX 64 (pM 8) <|
 aX 65 (pB .add 2 63 64) <|
 aX 5 (pM 65) <|
 aXZ
noncomputable def f126_r20 (c : CallF) : RF := rg [2, 3] <| aX 66 (pM 5) <|
 aX 67 (pM 5) <|
 aX 68 (pK c false 49 [67]) <|
 aX 69 (pM 68) <|
 aX 70 (pG 69 true (pM 5)) <|
 aX 71 (pG 69 true (pK c false 50 [70])) <|
 aX 72 (pG 69 true (pM 0)) <|
 aX 73 (pG 69 true (pB .eql 9 71 72)) <|
 aX 74 (pP 69 73 (cn (.bool false))) <|
 aX 2 (pM 66) <|
 aX 3 (pM 74) <|
 aXZ
noncomputable def f126_l4 (c : CallF) (k : Nat) : St :=
 (bSeq (bSeq (bReg (f126_r4 c))
 (bCond (.tmp 15) (bEx .nrm) (bEx (.ext 0))))
 (bSeq (bBlock 1 (bSeq (bReg (f126_r6 c))
 (bSeq (bSeq (bReg (f126_r7 c))
 (bCond (.tmp 24) (bSeq (bReg (f126_r8 c))
 (bEx .ret)) (bEx .nrm)))
 (bSeq (bReg (f126_r9 c))
 (bSeq (bSeq (bReg (f126_r10 c))
 (bCond (.tmp 41) (bSeq (bReg (f126_r11 c))
 (bEx .ret)) (bEx .nrm)))
 (bSeq (bReg (f126_r12 c))
 (bBlock 2 (bSeq (bReg (f126_r14 c))
 (bCond (.tmp 49) (bReg (f126_r15 c)) (bSeq (bReg (f126_r16 c))
 (bCond (.tmp 55) (bReg (f126_r17 c)) (bSeq (bReg (f126_r18 c))
 (bCond (.tmp 61) (bReg (f126_r19 c)) (bSeq (bReg (f126_r13 c))
 (bEx .ret)))))))))))))))
 (bReg (f126_r5 c))))
noncomputable def f126 (c : CallF) (k : Nat) : St :=
 (bSeq (bReg (f126_r0 c))
 (bSeq (bReg (f126_r1 c))
 (bSeq (bReg (f126_r2 c))
 (bSeq (bSeq (bReg (f126_r3 c))
 (bBlock 0 (bLoop [0, 4, 5, 6] (f126_l4 c k) k)))
 (bSeq (bReg (f126_r20 c))
 (bEx .ret))))))
theorem f126_eq (c : CallF) (k : Nat) : exec cx c 75 f126_an k (Tryd.f126.body.getD .skip) = f126 c k := by kernel_rfl
/-! ### f131: loop.example/g01263/spec.l05Balance -/
def f131_an : Ann := ⟨[(0, r0 [0]), (1, r0 [0, 3]), (2, r0 [0, 3, 4]), (3, r0 [0, 3, 4, 8]), (4, r0 [0, 3, 4]), (5, r0 [0, 3, 4, 24]), (6, r0 [0, 3, 4]), (7, r0 [0, 3, 4]), (8, r0 [2])], [(3, [0, 3, 4])]⟩
noncomputable def f131_r0 (c : CallF) : RF := rg [0] <| aX 2 (pM (cn (.int .i64 0))) <|
 aXZ
noncomputable def f131_r1 (c : CallF) : RF := rg [0, 3] <| aX 3 (pM (cn (.int .i64 0))) <|
 aXZ
noncomputable def f131_r2 (c : CallF) : RF := rg [0, 3, 4] <| aX 4 (pM (cn (.int .i64 0))) <|
 aXZ
noncomputable def f131_r3 (c : CallF) : RF := rg [0, 3, 4, 8] <| aX 5 (pM 4) <|
 aX 6 (pM 0) <|
 aX 7 (pLen 27 6) <|
 aX 8 (pB .lss 3 5 7) <|
 aXZ
noncomputable def f131_r4 (c : CallF) : RF := rg [0, 3, 4] <| aX 9 (pM 4) <|
 aX 10 (pB .add 3 9 (cn (.int .i64 1))) <|
 aX 4 (pM 10) <|
 aXZ
noncomputable def f131_r5 (c : CallF) : RF := rg [0, 3, 4, 24] <| aX 11 (pM 0) <|
 aX 12 (pM 4) <|
 aX 13 (pI 2 11 12) <|
 aX 14 (pF 0 1 13) <|
 aX 15 (pL false 1 14) <|
 aX 16 (pB .eql 45 15 (cn (.int .i8 0))) <|
 aX 17 (pM 16) <|
 aX 18 (pG 17 false (pM 0)) <|
 aX 19 (pG 17 false (pM 4)) <|
 aX 20 (pG 17 false (pI 2 18 19)) <|
 aX 21 (pG 17 false (pF 0 1 20)) <|
 aX 22 (pG 17 false (pL false 1 21)) <|
 aX 23 (pG 17 false (pB .eql 45 22 (cn (.int .i8 1)))) <|
 aX 24 (pP 17 (cn (.bool true)) 23) <|
 aXZ
noncomputable def f131_r6 (c : CallF) : RF := rg [0, 3, 4] <| aX 25 (pM 3) <|
 aX 26 (pM 0) <|
 aX 27 (pM 4) <|
 aX 28 (pI 2 26 27) <|
 aX 29 (pF 1 1 28) <|
 aX 30 (pL false 1 29) <|
 aX 31 (pB .add 2 25 30) <|
 aX 3 (pM 31) <|
 aXZ
noncomputable def f131_r7 (c : CallF) : RF := rg [0, 3, 4] <| aX 32 (pM 3) <|
 aX 33 (pM 0) <|
 aX 34 (pM 4) <|
 aX 35 (pI 2 33 34) <|
 aX 36 (pF 1 1 35) <|
 aX 37 (pL false 1 36) <|
 aX 38 (pB .sub 2 32 37) <|
 aX 3 (pM 38) <|
 aXZ
noncomputable def f131_r8 (c : CallF) : RF := rg [2] <| aX 39 (pM 3) <|
 aX 2 (pM 39) <|
 aXZ
noncomputable def f131_l3 (c : CallF) (k : Nat) : St :=
 (bSeq (bSeq (bReg (f131_r3 c))
 (bCond (.tmp 8) (bEx .nrm) (bEx (.ext 0))))
 (bSeq (bBlock 1 (bSeq (bReg (f131_r5 c))
 (bCond (.tmp 24) (bReg (f131_r6 c)) (bReg (f131_r7 c)))))
 (bReg (f131_r4 c))))
noncomputable def f131 (c : CallF) (k : Nat) : St :=
 (bSeq (bReg (f131_r0 c))
 (bSeq (bReg (f131_r1 c))
 (bSeq (bSeq (bReg (f131_r2 c))
 (bBlock 0 (bLoop [0, 3, 4] (f131_l3 c k) k)))
 (bSeq (bReg (f131_r8 c))
 (bEx .ret)))))
theorem f131_eq (c : CallF) (k : Nat) : exec cx c 40 f131_an k (Tryd.f131.body.getD .skip) = f131 c k := by kernel_rfl
/-! ### f132: loop.example/g01263/impl.validItem -/
def f132_an : Ann := ⟨[(0, r0 [1]), (1, r0 [2])], []⟩
noncomputable def f132_r0 (c : CallF) : RF := rg [1] <| aX 1 (pBox 2 0) <|
 aX 2 (pM (cn (.bool false))) <|
 aXZ
noncomputable def f132_r1 (c : CallF) : RF := rg [2] <| aX 3 (pF 0 1 1) <|
 aX 4 (pL false 1 3) <|
 aX 5 (pB .geq 45 4 (cn (.int .i8 0))) <|
 aX 6 (pM 5) <|
 aX 7 (pG 6 true (pF 0 1 1)) <|
 aX 8 (pG 6 true (pL false 1 7)) <|
 aX 9 (pG 6 true (pB .leq 45 8 (cn (.int .i8 3)))) <|
 aX 10 (pP 6 9 (cn (.bool false))) <|
 aX 11 (pM 10) <|
 aX 12 (pG 11 true (pF 1 1 1)) <|
 aX 13 (pG 11 true (pL false 1 12)) <|
 aX 14 (pG 11 true (pK c false 42 [13])) <|
 aX 15 (pP 11 14 (cn (.bool false))) <|
 aX 2 (pM 15) <|
 aXZ
noncomputable def f132 (c : CallF) (k : Nat) : St :=
 (bSeq (bReg (f132_r0 c))
 (bSeq (bReg (f132_r1 c))
 (bEx .ret)))
theorem f132_eq (c : CallF) (k : Nat) : exec cx c 16 f132_an k (Tryd.f132.body.getD .skip) = f132 c k := by kernel_rfl
/-! ### f139: loop.example/g01263/spec.Decimal -/
def f139_an : Ann := ⟨[(0, r0 [0]), (1, r0 [0, 4]), (2, r0 [2]), (3, r0 [2])], []⟩
noncomputable def f139_r0 (c : CallF) : RF := rg [0] <| aX 2 (pM (cn (.str []))) <|
 aXZ
noncomputable def f139_r1 (c : CallF) : RF := rg [0, 4] <| aX 3 (pM 0) <|
 aX 4 (pB .lss 2 3 (cn (.int .i64 10))) <|
 aXZ
noncomputable def f139_r2 (c : CallF) : RF := rg [2] <| aX 5 (pM 0) <|
 aX 6 (pB .rem 2 5 (cn (.int .i64 10))) <|
 aX 7 (pB .add 2 (cn (.int .i64 48)) 6) <|
 aX 8 (fun n e M => keep (aConvI .u8 (eget e 7))) <|
 aX 9 (fun n e M => keep (aLitI 5 1 [(eget e 8)] M)) <|
 aX 10 (fun n e M => keep (aConvB (eget e 9) M)) <|
 aX 2 (pM 10) <|
 aXZ
noncomputable def f139_r3 (c : CallF) : RF := rgD [2] (aY 11 (pM 0) <|
 aY 12 (pB .quo 2 11 (cn (.int .i64 10))) <|
 aY 13 (pK c false 139 [12]) <|
 aY 14 (pM 0) <|
 aY 15 (pB .rem 2 14 (cn (.int .i64 10))) <|
 aY 16 (pB .add 2 (cn (.int .i64 48)) 15) <|
 aY 17 (fun n e M => keep (aConvI .u8 (eget e 16))) <|
 aY 18 (fun n e M => keep (aLitI 5 1 [(eget e 17)] M)) <|
 aY 19 (fun n e M => keep (aConvB (eget e 18) M)) <|
 aY 20 (pB .add 9 13 19) <|
 aY 2 (pM 20) <|
 aYZ)
 (aXZ)
noncomputable def f139 (c : CallF) (k : Nat) : St :=
 (bSeq (bReg (f139_r0 c))
 (bSeq (bSeq (bReg (f139_r1 c))
 (bCond (.tmp 4) (bSeq (bReg (f139_r2 c))
 (bEx .ret)) (bEx .nrm)))
 (bSeq (bReg (f139_r3 c))
 (bEx .ret))))
theorem f139_eq (c : CallF) (k : Nat) : exec cx c 21 f139_an k (Tryd.f139.body.getD .skip) = f139 c k := by kernel_rfl
/-! ### f150: loop.example/g01263/spec.l05First -/
def f150_an : Ann := ⟨[(0, r0 [0]), (1, r0 [0, 4]), (2, r0 [0, 4, 8]), (3, r0 [0, 4]), (4, r0 [0, 4, 14]), (5, r0 [2, 3]), (6, r0 [2, 3])], [(2, [0, 4])]⟩
noncomputable def f150_r0 (c : CallF) : RF := rg [0] <| aX 2 (pM (cn (.str []))) <|
 aX 3 (pM (cn (.str []))) <|
 aXZ
noncomputable def f150_r1 (c : CallF) : RF := rg [0, 4] <| aX 4 (pM (cn (.int .i64 0))) <|
 aXZ
noncomputable def f150_r2 (c : CallF) : RF := rg [0, 4, 8] <| aX 5 (pM 4) <|
 aX 6 (pM 0) <|
 aX 7 (pLen 9 6) <|
 aX 8 (pB .lss 3 5 7) <|
 aXZ
noncomputable def f150_r3 (c : CallF) : RF := rg [0, 4] <| aX 9 (pM 4) <|
 aX 10 (pB .add 3 9 (cn (.int .i64 1))) <|
 aX 4 (pM 10) <|
 aXZ
noncomputable def f150_r4 (c : CallF) : RF := rg [0, 4, 14] <| aX 11 (pM 0) <|
 aX 12 (pM 4) <|
 aX 13 (fun n e M => keep (aIndexB (eget e 11) (eget e 12))) <|
 aX 14 (pB .eql 5 13 (cn (.int .u8 32))) <|
 aXZ
noncomputable def f150_r5 (c : CallF) : RF := rgD [2, 3] (aY 15 (pM 0) <|
 aY 16 (pM 4) <|
 aY 17 (fun n e M => keep (aSliceS none (some (eget e 16)) (eget e 15))) <|
 aY 18 (pM 0) <|
 aY 19 (pM 4) <|
 aY 20 (pB .add 3 19 (cn (.int .i64 1))) <|
 aY 21 (fun n e M => keep (aSliceS (some (eget e 20)) none (eget e 18))) <|
 aY 2 (pM 17) <|
 aY 3 (pM 21) <|
 aYZ)
 (aXZ)
noncomputable def f150_r6 (c : CallF) : RF := rg [2, 3] <| aX 22 (pM 0) <|
 aX 2 (pM 22) <|
 aX 3 (pM (cn (.str []))) <|
 aXZ
noncomputable def f150_l2 (c : CallF) (k : Nat) : St :=
 (bSeq (bSeq (bReg (f150_r2 c))
 (bCond (.tmp 8) (bEx .nrm) (bEx (.ext 0))))
 (bSeq (bBlock 1 (bSeq (bReg (f150_r4 c))
 (bCond (.tmp 14) (bSeq (bReg (f150_r5 c))
 (bEx .ret)) (bEx .nrm))))
 (bReg (f150_r3 c))))
noncomputable def f150 (c : CallF) (k : Nat) : St :=
 (bSeq (bReg (f150_r0 c))
 (bSeq (bSeq (bReg (f150_r1 c))
 (bBlock 0 (bLoop [0, 4] (f150_l2 c k) k)))
 (bSeq (bReg (f150_r6 c))
 (bEx .ret))))
theorem f150_eq (c : CallF) (k : Nat) : exec cx c 23 f150_an k (Tryd.f150.body.getD .skip) = f150 c k := by kernel_rfl
/-! ### f151: loop.example/g01263/spec.l05Item -/
def f151_an : Ann := ⟨[(0, r0 [0]), (1, r0 [2])], []⟩
noncomputable def f151_r0 (c : CallF) : RF := rg [0] <| aX 2 (pM (cn (.bool false))) <|
 aXZ
noncomputable def f151_r1 (c : CallF) : RF := rg [2] <| aX 3 (pM 0) <|
 aX 4 (pN 3) <|
 aX 5 (pF 0 1 4) <|
 aX 6 (pL false 1 5) <|
 aX 7 (fun n e M => keep (aConvI .i64 (eget e 6))) <|
 aX 8 (pK c false 84 [7, (cn (.int .i64 0)), (cn (.int .i64 3))]) <|
 aX 9 (pM 8) <|
 aX 10 (pG 9 true (pM 0)) <|
 aX 11 (pG 9 true (pN 10)) <|
 aX 12 (pG 9 true (pF 1 1 11)) <|
 aX 13 (pG 9 true (pL false 1 12)) <|
 aX 14 (pG 9 true (pK c false 49 [13])) <|
 aX 15 (pP 9 14 (cn (.bool false))) <|
 aX 2 (pM 15) <|
 aXZ
noncomputable def f151 (c : CallF) (k : Nat) : St :=
 (bSeq (bReg (f151_r0 c))
 (bSeq (bReg (f151_r1 c))
 (bEx .ret)))
theorem f151_eq (c : CallF) (k : Nat) : exec cx c 16 f151_an k (Tryd.f151.body.getD .skip) = f151 c k := by kernel_rfl
/-! ### f153: loop.example/g01263/impl.worth -/
def f153_an : Ann := ⟨[(0, r0 [0]), (1, r0 [2])], []⟩
noncomputable def f153_r0 (c : CallF) : RF := rg [0] <| aX 2 (pM (cn (.int .i64 0))) <|
 aXZ
noncomputable def f153_r1 (c : CallF) : RF := rg [2] <| aX 3 (fun n e M => keep (aLitI 2 1 [(.int .i64 1), (.int .i64 12), (.int .i64 240), (.int .i64 4800), (.int .i64 24000), (.int .i64 240000)] M)) <|
 aX 4 (pM 0) <|
 aX 5 (pI 1 3 4) <|
 aX 6 (pL false 1 5) <|
 aX 2 (pM 6) <|
 aXZ
noncomputable def f153 (c : CallF) (k : Nat) : St :=
 (bSeq (bReg (f153_r0 c))
 (bSeq (bReg (f153_r1 c))
 (bEx .ret)))
theorem f153_eq (c : CallF) (k : Nat) : exec cx c 7 f153_an k (Tryd.f153.body.getD .skip) = f153 c k := by kernel_rfl
/-! ### f154: slices.Clone[[]loop.example/g01263/impl.Item,loop.example/g01263/impl.Item] -/
def f154_an : Ann := ⟨[(0, r0 [0]), (1, r0 [0, 4]), (2, r0 [2]), (3, r0 [2])], []⟩
noncomputable def f154_r0 (c : CallF) : RF := rg [0] <| aX 2 (pM (cn .nils)) <|
 aXZ
noncomputable def f154_r1 (c : CallF) : RF := rg [0, 4] <| aX 3 (pM 0) <|
 aX 4 (pB .eql 27 3 (cn .nils)) <|
 aXZ
noncomputable def f154_r2 (c : CallF) : RF := rg [2] <| aX 2 (pM (cn .nils)) <|
 aXZ
noncomputable def f154_r3 (c : CallF) : RF := rg [2] <| aX 5 (fun n e M => keep (aLitI 85 2 [] M)) <|
 aX 6 (pM 0) <|
 aX 7 (fun n e M => aAppI 85 2 16 (eget e 5) (eget e 6) M) <|
 aX 2 (pM 7) <|
 aXZ
noncomputable def f154 (c : CallF) (k : Nat) : St :=
 (bSeq (bReg (f154_r0 c))
 (bSeq (bSeq (bReg (f154_r1 c))
 (bCond (.tmp 4) (bSeq (bReg (f154_r2 c))
 (bEx .ret)) (bEx .nrm)))
 (bSeq (bReg (f154_r3 c))
 (bEx .ret))))
theorem f154_eq (c : CallF) (k : Nat) : exec cx c 8 f154_an k (Tryd.f154.body.getD .skip) = f154 c k := by kernel_rfl
def anns : List (Nat × Ann) := [(6, f6_an), (12, f12_an), (13, f13_an), (24, f24_an), (25, f25_an), (26, f26_an), (27, f27_an), (38, f38_an), (39, f39_an), (41, f41_an), (42, f42_an), (43, f43_an), (44, f44_an), (45, f45_an), (46, f46_an), (49, f49_an), (50, f50_an), (65, f65_an), (66, f66_an), (67, f67_an), (68, f68_an), (69, f69_an), (70, f70_an), (83, f83_an), (84, f84_an), (85, f85_an), (87, f87_an), (88, f88_an), (89, f89_an), (90, f90_an), (92, f92_an), (94, f94_an), (110, f110_an), (111, f111_an), (112, f112_an), (113, f113_an), (115, f115_an), (116, f116_an), (117, f117_an), (121, f121_an), (125, f125_an), (126, f126_an), (131, f131_an), (132, f132_an), (139, f139_an), (150, f150_an), (151, f151_an), (153, f153_an), (154, f154_an)]
noncomputable def CN0 : Nat → CallF := callN cx (Go.Ab.look anns) (fun _ _ _ => none) (fun _ => false)
def isP (f : Nat) : Bool := has [154, 73, 91, 114, 120, 133] f
noncomputable def primF : CallF := splitNil (callN cx (Go.Ab.look anns) (fun _ _ _ => none) (fun _ => false) 3)
noncomputable def CN : Nat → CallF := callN cx (Go.Ab.look anns) (withLib libT primF) isP
end Go.Proofs.YtbhbmgmnnkcmcaaDoor

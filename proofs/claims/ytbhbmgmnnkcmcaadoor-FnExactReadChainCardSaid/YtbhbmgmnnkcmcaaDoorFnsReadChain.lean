/- Printed by a program of ours (ext.py). -/
import Derived.Test.YtbhbmgmnnkcmcaaDoorAbLib
import Derived.Test.YtbhbmgmnnkcmcaaDoorProg
set_option linter.unusedVariables false
set_option linter.unusedSimpArgs false
set_option maxRecDepth 100000
set_option maxHeartbeats 2000000
namespace Go.Proofs.YtbhbmgmnnkcmcaaDoor
open Go Go.Ab
noncomputable def cx : Cx := ⟨Tryd.prog, fun f => has [30, 76, 77, 122] f⟩
noncomputable abbrev pB := pB_ cx.P
noncomputable abbrev pLen := pLen_ cx.P
noncomputable abbrev pAl := pAl_ cx.P
noncomputable abbrev pK := pK_ cx
/-! ### f7: loop.example/g01263/laws.FnExactReadChain -/
def f7_an : Ann := ⟨[(0, r0 [0]), (1, r0 [0, 13]), (2, r0 [2]), (3, r0 [0, 3, 4]), (4, ⟨[], [1], [], [], [0, 3, 4, 5, 6]⟩), (5, r0 [0, 3, 4, 5, 32]), (6, r0 [2]), (7, r0 [0, 3, 4, 5, 7]), (8, r0 [0, 3, 4, 5, 7]), (9, r0 [0, 3, 4, 5, 7, 8]), (10, r0 [0, 3, 4, 5, 7, 8]), (11, r0 [0, 3, 4, 5, 7, 8, 40]), (12, r0 [2]), (13, r0 [0, 3, 4, 5, 7, 43]), (14, r0 [2]), (15, r0 [3, 4, 5, 7, 9, 10]), (16, r0 [5, 7, 57]), (17, r0 [2]), (18, r0 [5, 7, 8]), (19, r0 [7, 8]), (20, r0 [7, 8, 62]), (21, r0 [2]), (22, r0 [65]), (23, r0 [2]), (24, r0 [2])], []⟩
noncomputable def f7_r0 (c : CallF) : RF := rg [0] <| aX 2 (pM (cn (.bool false))) <|
 aXZ
noncomputable def f7_r1 (c : CallF) : RF := rg [0, 13] <| aX 11 (pM 0) <|
 aX 12 (pLen 9 11) <|
 aX 13 (pB .gtr 3 12 (cn (.int .i64 1048576))) <|
 aXZ
noncomputable def f7_r2 (c : CallF) : RF := rg [2] <| aX 2 (pM (cn (.bool true))) <|
 aXZ
noncomputable def f7_r3 (c : CallF) : RF := rg [0, 3, 4] <| aX 15 (pM 0) <|
 aX 16 (pK c false 28 [15]) <|
 aX 14 (pM 16) <|
 aX 17 (pE 0 14) <|
 aX 18 (pE 1 14) <|
 aX 3 (pAl 60 20) <|
 aX0 (pS 20 3 17) <|
 aX 4 (pM 18) <|
 aXZ
noncomputable def f7_r4 (c : CallF) : RF := rg [0, 3, 4, 5, 6] <| aX 20 (pM 0) <|
 aX 21 (pK c true 29 [20]) <|
 aX 19 (pM 21) <|
 aX 22 (pE 0 19) <|
 aX 23 (pE 1 19) <|
 aX 5 (pAl 60 20) <|
 aX0 (pS 20 5 22) <|
 aX 6 (pM 23) <|
 aXZ
noncomputable def f7_r5 (c : CallF) : RF := rg [0, 3, 4, 5, 32] <| aX 24 (pL true 20 5) <|
 aX 25 (pL true 20 3) <|
 aX 26 (pK c false 23 [24, 25]) <|
 aX 27 (pU .not 26) <|
 aX 28 (pM 27) <|
 aX 29 (pG 28 false (pM 6)) <|
 aX 30 (pG 28 false (pM 4)) <|
 aX 31 (pG 28 false (pB .neq 2 29 30)) <|
 aX 32 (pP 28 (cn (.bool true)) 31) <|
 aXZ
noncomputable def f7_r6 (c : CallF) : RF := rg [2] <| aX 2 (pM (cn (.bool false))) <|
 aXZ
noncomputable def f7_r7 (c : CallF) : RF := rg [0, 3, 4, 5, 7] <| aX 7 (pM (cn (.int .i64 1))) <|
 aXZ
noncomputable def f7_r8 (c : CallF) : RF := rg [0, 3, 4, 5, 7] <| aX 33 (pL true 20 5) <|
 aX 34 (pM 7) <|
 aX 35 (pK c false 30 [33, 34]) <|
 aX 7 (pM 35) <|
 aXZ
noncomputable def f7_r9 (c : CallF) : RF := rg [0, 3, 4, 5, 7, 8] <| aX 8 (pM (cn (.int .i64 1))) <|
 aXZ
noncomputable def f7_r10 (c : CallF) : RF := rg [0, 3, 4, 5, 7, 8] <| aX 36 (pL true 20 5) <|
 aX 37 (pM 8) <|
 aX 38 (pK c false 31 [36, 37]) <|
 aX 8 (pM 38) <|
 aXZ
noncomputable def f7_r11 (c : CallF) : RF := rg [0, 3, 4, 5, 7, 8, 40] <| aX 39 (pM 8) <|
 aX 40 (pB .lss 3 39 (cn (.int .i64 0))) <|
 aXZ
noncomputable def f7_r12 (c : CallF) : RF := rg [2] <| aX 2 (pM (cn (.bool false))) <|
 aXZ
noncomputable def f7_r13 (c : CallF) : RF := rg [0, 3, 4, 5, 7, 43] <| aX 41 (pM 8) <|
 aX 42 (pM 7) <|
 aX 43 (pB .neq 3 41 42) <|
 aXZ
noncomputable def f7_r14 (c : CallF) : RF := rg [2] <| aX 2 (pM (cn (.bool false))) <|
 aXZ
noncomputable def f7_r15 (c : CallF) : RF := rg [3, 4, 5, 7, 9, 10] <| aX 45 (pM 0) <|
 aX 46 (pK c false 29 [45]) <|
 aX 44 (pM 46) <|
 aX 47 (pE 0 44) <|
 aX 48 (pE 1 44) <|
 aX 9 (pAl 60 20) <|
 aX0 (pS 20 9 47) <|
 aX 10 (pM 48) <|
 aXZ
noncomputable def f7_r16 (c : CallF) : RF := rg [5, 7, 57] <| aX 49 (pL true 20 9) <|
 aX 50 (pL true 20 3) <|
 aX 51 (pK c false 23 [49, 50]) <|
 aX 52 (pU .not 51) <|
 aX 53 (pM 52) <|
 aX 54 (pG 53 false (pM 10)) <|
 aX 55 (pG 53 false (pM 4)) <|
 aX 56 (pG 53 false (pB .neq 2 54 55)) <|
 aX 57 (pP 53 (cn (.bool true)) 56) <|
 aXZ
noncomputable def f7_r17 (c : CallF) : RF := rg [2] <| aX 2 (pM (cn (.bool false))) <|
 aXZ
noncomputable def f7_r18 (c : CallF) : RF := rg [5, 7, 8] <| aX 8 (pM (cn (.int .i64 1))) <|
 aXZ
noncomputable def f7_r19 (c : CallF) : RF := rg [7, 8] <| aX 58 (pL true 20 5) <|
 aX 59 (pM 8) <|
 aX 60 (pK c false 31 [58, 59]) <|
 aX 8 (pM 60) <|
 aXZ
noncomputable def f7_r20 (c : CallF) : RF := rg [7, 8, 62] <| aX 61 (pM 8) <|
 aX 62 (pB .lss 3 61 (cn (.int .i64 0))) <|
 aXZ
noncomputable def f7_r21 (c : CallF) : RF := rg [2] <| aX 2 (pM (cn (.bool false))) <|
 aXZ
noncomputable def f7_r22 (c : CallF) : RF := rg [65] <| aX 63 (pM 8) <|
 aX 64 (pM 7) <|
 aX 65 (pB .neq 3 63 64) <|
 aXZ
noncomputable def f7_r23 (c : CallF) : RF := rg [2] <| aX 2 (pM (cn (.bool false))) <|
 aXZ
noncomputable def f7_r24 (c : CallF) : RF := rg [2] <| aX 2 (pM (cn (.bool true))) <|
 aXZ
noncomputable def f7 (c : CallF) (k : Nat) : St :=
 (bSeq (bReg (f7_r0 c))
 (bSeq (bSeq (bReg (f7_r1 c))
 (bCond (.tmp 13) (bSeq (bReg (f7_r2 c))
 (bEx .ret)) (bEx .nrm)))
 (bSeq (bReg (f7_r3 c))
 (bSeq (bReg (f7_r4 c))
 (bSeq (bSeq (bReg (f7_r5 c))
 (bCond (.tmp 32) (bSeq (bReg (f7_r6 c))
 (bEx .ret)) (bEx .nrm)))
 (bSeq (bReg (f7_r7 c))
 (bSeq (bReg (f7_r8 c))
 (bSeq (bReg (f7_r9 c))
 (bSeq (bReg (f7_r10 c))
 (bSeq (bSeq (bReg (f7_r11 c))
 (bCond (.tmp 40) (bSeq (bReg (f7_r12 c))
 (bEx .ret)) (bEx .nrm)))
 (bSeq (bSeq (bReg (f7_r13 c))
 (bCond (.tmp 43) (bSeq (bReg (f7_r14 c))
 (bEx .ret)) (bEx .nrm)))
 (bSeq (bReg (f7_r15 c))
 (bSeq (bSeq (bReg (f7_r16 c))
 (bCond (.tmp 57) (bSeq (bReg (f7_r17 c))
 (bEx .ret)) (bEx .nrm)))
 (bSeq (bReg (f7_r18 c))
 (bSeq (bReg (f7_r19 c))
 (bSeq (bSeq (bReg (f7_r20 c))
 (bCond (.tmp 62) (bSeq (bReg (f7_r21 c))
 (bEx .ret)) (bEx .nrm)))
 (bSeq (bSeq (bReg (f7_r22 c))
 (bCond (.tmp 65) (bSeq (bReg (f7_r23 c))
 (bEx .ret)) (bEx .nrm)))
 (bSeq (bReg (f7_r24 c))
 (bEx .ret)))))))))))))))))))
theorem f7_eq (c : CallF) (k : Nat) : exec cx c 66 f7_an k (Tryd.f7.body.getD .skip) = f7 c k := by kernel_rfl
/-! ### f23: loop.example/g01263/laws.eqChain -/
def f23_an : Ann := ⟨[(0, r0 [2, 3]), (1, r0 [2, 3, 9]), (2, r0 [4]), (3, r0 [2, 3, 15]), (4, r0 [4]), (5, r0 [21]), (6, r0 [4]), (7, r0 [4])], []⟩
noncomputable def f23_r0 (c : CallF) : RF := rg [2, 3] <| aX 2 (pBox 20 0) <|
 aX 3 (pBox 20 1) <|
 aX 4 (pM (cn (.bool false))) <|
 aXZ
noncomputable def f23_r1 (c : CallF) : RF := rg [2, 3, 9] <| aX 5 (pF 0 1 2) <|
 aX 6 (pL false 1 5) <|
 aX 7 (pF 0 1 3) <|
 aX 8 (pL false 1 7) <|
 aX 9 (pB .neq 9 6 8) <|
 aXZ
noncomputable def f23_r2 (c : CallF) : RF := rg [4] <| aX 4 (pM (cn (.bool false))) <|
 aXZ
noncomputable def f23_r3 (c : CallF) : RF := rg [2, 3, 15] <| aX 10 (pF 1 18 2) <|
 aX 11 (pL true 18 10) <|
 aX 12 (pF 1 18 3) <|
 aX 13 (pL true 18 12) <|
 aX 14 (pK c false 63 [11, 13]) <|
 aX 15 (pU .not 14) <|
 aXZ
noncomputable def f23_r4 (c : CallF) : RF := rg [4] <| aX 4 (pM (cn (.bool false))) <|
 aXZ
noncomputable def f23_r5 (c : CallF) : RF := rg [21] <| aX 16 (pF 19 1 2) <|
 aX 17 (pL false 1 16) <|
 aX 18 (pF 19 1 3) <|
 aX 19 (pL false 1 18) <|
 aX 20 (pK c false 64 [17, 19]) <|
 aX 21 (pU .not 20) <|
 aXZ
noncomputable def f23_r6 (c : CallF) : RF := rg [4] <| aX 4 (pM (cn (.bool false))) <|
 aXZ
noncomputable def f23_r7 (c : CallF) : RF := rg [4] <| aX 4 (pM (cn (.bool true))) <|
 aXZ
noncomputable def f23 (c : CallF) (k : Nat) : St :=
 (bSeq (bReg (f23_r0 c))
 (bSeq (bSeq (bReg (f23_r1 c))
 (bCond (.tmp 9) (bSeq (bReg (f23_r2 c))
 (bEx .ret)) (bEx .nrm)))
 (bSeq (bSeq (bReg (f23_r3 c))
 (bCond (.tmp 15) (bSeq (bReg (f23_r4 c))
 (bEx .ret)) (bEx .nrm)))
 (bSeq (bSeq (bReg (f23_r5 c))
 (bCond (.tmp 21) (bSeq (bReg (f23_r6 c))
 (bEx .ret)) (bEx .nrm)))
 (bSeq (bReg (f23_r7 c))
 (bEx .ret))))))
theorem f23_eq (c : CallF) (k : Nat) : exec cx c 22 f23_an k (Tryd.f23.body.getD .skip) = f23 c k := by kernel_rfl
/-! ### f28: loop.example/g01263/spec.ReadChain -/
def f28_an : Ann := ⟨[(0, r0 [0, 2]), (1, r0 [2, 4]), (2, r0 [2, 4, 5]), (3, r0 [2, 4, 5, 31]), (4, r0 [2, 3]), (5, r0 [2, 4, 5, 6]), (6, r0 [2, 4, 5, 6, 46]), (7, r0 [2, 4, 5, 6]), (8, r0 [2, 4, 5, 6, 54]), (9, r0 [2, 3]), (10, ⟨[], [6, 10, 11], [], [], [2, 4, 5, 6, 7, 8]⟩), (11, r0 [2, 4, 5, 6, 7, 67]), (12, r0 [2, 3]), (13, ⟨[], [7, 8], [], [8], [2, 4, 5, 9]⟩), (14, r0 [2, 4, 5, 9, 10]), (15, r0 [2, 4, 5, 9, 10, 79]), (16, r0 [2, 4, 5, 9, 10]), (17, r0 [2, 4, 5, 9, 10, 11]), (18, r0 [2, 4, 5, 9, 10, 11, 89]), (19, r0 [2, 3]), (20, r0 [2, 4, 5, 9, 10, 11, 12, 13]), (21, r0 [2, 4, 5, 9, 10, 11, 12, 99]), (22, r0 [2, 3]), (23, ⟨[8], [], [], [8, 9, 10], [2, 4, 5, 9, 10]⟩), (24, r0 [2, 9, 112]), (25, r0 [2, 3]), (26, r0 [2, 3])], [(6, [2, 4, 5, 6]), (15, [2, 4, 5, 9, 10])]⟩
noncomputable def f28_r0 (c : CallF) : RF := rg [0, 2] <| aX 2 (pAl 60 20) <|
 aX 3 (pM (cn (.int .i64 0))) <|
 aXZ
noncomputable def f28_r1 (c : CallF) : RF := rg [2, 4] <| aX 14 (pM 0) <|
 aX 15 (pK c false 65 [14, (cn (.int .u8 10))]) <|
 aX 4 (pM 15) <|
 aXZ
noncomputable def f28_r2 (c : CallF) : RF := rg [2, 4, 5] <| aX 16 (pM 4) <|
 aX 17 (pLen 86 16) <|
 aX 5 (pM 17) <|
 aXZ
noncomputable def f28_r3 (c : CallF) : RF := rg [2, 4, 5, 31] <| aX 18 (pM 5) <|
 aX 19 (pB .lss 3 18 (cn (.int .i64 3))) <|
 aX 20 (pM 19) <|
 aX 21 (pG 20 false (pM 5)) <|
 aX 22 (pG 20 false (pB .gtr 3 21 (cn (.int .i64 32)))) <|
 aX 23 (pP 20 (cn (.bool true)) 22) <|
 aX 24 (pM 23) <|
 aX 25 (pG 24 false (pM 4)) <|
 aX 26 (pG 24 false (pM 5)) <|
 aX 27 (pG 24 false (pB .sub 3 26 (cn (.int .i64 1)))) <|
 aX 28 (pG 24 false (pI 1 25 27)) <|
 aX 29 (pG 24 false (pL false 1 28)) <|
 aX 30 (pG 24 false (pB .neq 9 29 (cn (.str [])))) <|
 aX 31 (pP 24 (cn (.bool true)) 30) <|
 aXZ
noncomputable def f28_r4 (c : CallF) : RF := rg [2, 3] <| aX 32 (fun n e M => keep (aBuild (zeroOf cx.P 60) [] M)) <|
 aX0 (pS 20 2 32) <|
 aX 3 (pM (cn (.int .i64 5))) <|
 aXZ
noncomputable def f28_r5 (c : CallF) : RF := rg [2, 4, 5, 6] <| aX 6 (pM (cn (.int .i64 0))) <|
 aXZ
noncomputable def f28_r6 (c : CallF) : RF := rg [2, 4, 5, 6, 46] <| aX 33 (pM 6) <|
 aX 34 (pM 4) <|
 aX 35 (pI 1 34 (cn (.int .i64 0))) <|
 aX 36 (pL false 1 35) <|
 aX 37 (pLen 9 36) <|
 aX 38 (pB .lss 3 33 37) <|
 aX 39 (pM 38) <|
 aX 40 (pG 39 true (pM 4)) <|
 aX 41 (pG 39 true (pI 1 40 (cn (.int .i64 0)))) <|
 aX 42 (pG 39 true (pL false 1 41)) <|
 aX 43 (pG 39 true (pM 6)) <|
 aX 44 (pG 39 true (fun n e M => keep (aIndexB (eget e 42) (eget e 43)))) <|
 aX 45 (pG 39 true (pB .neq 5 44 (cn (.int .u8 32)))) <|
 aX 46 (pP 39 45 (cn (.bool false))) <|
 aXZ
noncomputable def f28_r7 (c : CallF) : RF := rg [2, 4, 5, 6] <| aX 47 (pM 6) <|
 aX 48 (pB .add 3 47 (cn (.int .i64 1))) <|
 aX 6 (pM 48) <|
 aXZ
noncomputable def f28_r8 (c : CallF) : RF := rg [2, 4, 5, 6, 54] <| aX 49 (pM 6) <|
 aX 50 (pM 4) <|
 aX 51 (pI 1 50 (cn (.int .i64 0))) <|
 aX 52 (pL false 1 51) <|
 aX 53 (pLen 9 52) <|
 aX 54 (pB .eql 3 49 53) <|
 aXZ
noncomputable def f28_r9 (c : CallF) : RF := rg [2, 3] <| aX 55 (fun n e M => keep (aBuild (zeroOf cx.P 60) [] M)) <|
 aX0 (pS 20 2 55) <|
 aX 3 (pM (cn (.int .i64 5))) <|
 aXZ
noncomputable def f28_r10 (c : CallF) : RF := rg [2, 4, 5, 6, 7, 8] <| aX 57 (pM 4) <|
 aX 58 (pI 1 57 (cn (.int .i64 0))) <|
 aX 59 (pL false 1 58) <|
 aX 60 (pM 6) <|
 aX 61 (pB .add 3 60 (cn (.int .i64 1))) <|
 aX 62 (fun n e M => keep (aSliceS (some (eget e 61)) none (eget e 59))) <|
 aX 63 (pK c true 71 [62]) <|
 aX 56 (pM 63) <|
 aX 64 (pE 0 56) <|
 aX 65 (pE 1 56) <|
 aX 7 (fun n e M => gho cx.P true n (oAlloc cx.P n 57 18)) <|
 aX0 (fun n e M => oStoreG cx.P 57 false 18 (eget e 7) (eget e 64) M) <|
 aX 8 (pM 65) <|
 aXZ
noncomputable def f28_r11 (c : CallF) : RF := rg [2, 4, 5, 6, 7, 67] <| aX 66 (pM 8) <|
 aX 67 (pB .neq 2 66 (cn (.int .i64 0))) <|
 aXZ
noncomputable def f28_r12 (c : CallF) : RF := rg [2, 3] <| aX 68 (fun n e M => keep (aBuild (zeroOf cx.P 60) [] M)) <|
 aX0 (pS 20 2 68) <|
 aX 3 (pM (cn (.int .i64 5))) <|
 aXZ
noncomputable def f28_r13 (c : CallF) : RF := rgD [2, 4, 5, 9] (aY 69 (pM 4) <|
 aY 70 (pI 1 69 (cn (.int .i64 0))) <|
 aY 71 (pL false 1 70) <|
 aY 72 (pM 6) <|
 aY 73 (fun n e M => keep (aSliceS none (some (eget e 72)) (eget e 71))) <|
 aY 74 (pL true 18 7) <|
 aY 75 (fun n e M => keep (aBuild (zeroOf cx.P 60) [(0, 1, (eget e 73)), (1, 18, (eget e 74))] M)) <|
 aY 9 (fun n e M => gho cx.P true n (oAlloc cx.P n 60 20)) <|
 aYZ)
 (aX0 (fun n e M => oStoreG cx.P 60 false 20 (eget e 9) (eget e 75) M) <|
 aXZ)
noncomputable def f28_r14 (c : CallF) : RF := rg [2, 4, 5, 9, 10] <| aX 10 (pM (cn (.int .i64 1))) <|
 aXZ
noncomputable def f28_r15 (c : CallF) : RF := rg [2, 4, 5, 9, 10, 79] <| aX 76 (pM 10) <|
 aX 77 (pM 5) <|
 aX 78 (pB .sub 3 77 (cn (.int .i64 1))) <|
 aX 79 (pB .lss 3 76 78) <|
 aXZ
noncomputable def f28_r16 (c : CallF) : RF := rg [2, 4, 5, 9, 10] <| aX 80 (pM 10) <|
 aX 81 (pB .add 3 80 (cn (.int .i64 1))) <|
 aX 10 (pM 81) <|
 aXZ
noncomputable def f28_r17 (c : CallF) : RF := rg [2, 4, 5, 9, 10, 11] <| aX 82 (pM 4) <|
 aX 83 (pM 10) <|
 aX 84 (pI 1 82 83) <|
 aX 85 (pL false 1 84) <|
 aX 86 (pK c false 65 [85, (cn (.int .u8 32))]) <|
 aX 11 (pM 86) <|
 aXZ
noncomputable def f28_r18 (c : CallF) : RF := rg [2, 4, 5, 9, 10, 11, 89] <| aX 87 (pM 11) <|
 aX 88 (pLen 86 87) <|
 aX 89 (pB .neq 3 88 (cn (.int .i64 2))) <|
 aXZ
noncomputable def f28_r19 (c : CallF) : RF := rg [2, 3] <| aX 90 (fun n e M => keep (aBuild (zeroOf cx.P 60) [] M)) <|
 aX0 (pS 20 2 90) <|
 aX 3 (pM (cn (.int .i64 5))) <|
 aXZ
noncomputable def f28_r20 (c : CallF) : RF := rg [2, 4, 5, 9, 10, 11, 12, 13] <| aX 92 (pM 11) <|
 aX 93 (pI 1 92 (cn (.int .i64 1))) <|
 aX 94 (pL false 1 93) <|
 aX 95 (pK c false 72 [94]) <|
 aX 91 (pM 95) <|
 aX 96 (pE 0 91) <|
 aX 97 (pE 1 91) <|
 aX 12 (pM 96) <|
 aX 13 (pM 97) <|
 aXZ
noncomputable def f28_r21 (c : CallF) : RF := rg [2, 4, 5, 9, 10, 11, 12, 99] <| aX 98 (pM 13) <|
 aX 99 (pU .not 98) <|
 aXZ
noncomputable def f28_r22 (c : CallF) : RF := rg [2, 3] <| aX 100 (fun n e M => keep (aBuild (zeroOf cx.P 60) [] M)) <|
 aX0 (pS 20 2 100) <|
 aX 3 (pM (cn (.int .i64 5))) <|
 aXZ
noncomputable def f28_r23 (c : CallF) : RF := rgD [2, 4, 5, 9, 10] (aY 101 (pF 19 1 9) <|
 aY 102 (pL false 1 101) <|
 aY 103 (pM 11) <|
 aY 104 (pI 1 103 (cn (.int .i64 0))) <|
 aY 105 (pL false 1 104) <|
 aY 106 (pM 12) <|
 aY 107 (fun n e M => keep (aBuild (zeroOf cx.P 107) [(0, 1, (eget e 105)), (1, 1, (eget e 106))] M)) <|
 aY 108 (fun n e M => keep (aLitI 107 2 [(eget e 107)] M)) <|
 aYZ)
 (aX 109 (fun n e M => aAppO n 107 2 24 (eget e 102) (eget e 108) M) <|
 aX 110 (pF 19 1 9) <|
 aX0 (pS 1 110 109) <|
 aXZ)
noncomputable def f28_r24 (c : CallF) : RF := rg [2, 9, 112] <| aX 111 (pK c false 56 [9]) <|
 aX 112 (pU .not 111) <|
 aXZ
noncomputable def f28_r25 (c : CallF) : RF := rg [2, 3] <| aX 113 (fun n e M => keep (aBuild (zeroOf cx.P 60) [] M)) <|
 aX0 (pS 20 2 113) <|
 aX 3 (pM (cn (.int .i64 5))) <|
 aXZ
noncomputable def f28_r26 (c : CallF) : RF := rg [2, 3] <| aX 114 (pL true 20 9) <|
 aX0 (pS 20 2 114) <|
 aX 3 (pM (cn (.int .i64 0))) <|
 aXZ
noncomputable def f28_l6 (c : CallF) (k : Nat) : St :=
 (bSeq (bSeq (bReg (f28_r6 c))
 (bCond (.tmp 46) (bEx .nrm) (bEx (.ext 0))))
 (bBlock 1 (bReg (f28_r7 c))))
noncomputable def f28_l15 (c : CallF) (k : Nat) : St :=
 (bSeq (bSeq (bReg (f28_r15 c))
 (bCond (.tmp 79) (bEx .nrm) (bEx (.ext 2))))
 (bSeq (bBlock 3 (bSeq (bReg (f28_r17 c))
 (bSeq (bSeq (bReg (f28_r18 c))
 (bCond (.tmp 89) (bSeq (bReg (f28_r19 c))
 (bEx .ret)) (bEx .nrm)))
 (bSeq (bReg (f28_r20 c))
 (bSeq (bSeq (bReg (f28_r21 c))
 (bCond (.tmp 99) (bSeq (bReg (f28_r22 c))
 (bEx .ret)) (bEx .nrm)))
 (bReg (f28_r23 c)))))))
 (bReg (f28_r16 c))))
noncomputable def f28 (c : CallF) (k : Nat) : St :=
 (bSeq (bReg (f28_r0 c))
 (bSeq (bReg (f28_r1 c))
 (bSeq (bReg (f28_r2 c))
 (bSeq (bSeq (bReg (f28_r3 c))
 (bCond (.tmp 31) (bSeq (bReg (f28_r4 c))
 (bEx .ret)) (bEx .nrm)))
 (bSeq (bReg (f28_r5 c))
 (bSeq (bBlock 0 (bLoop [2, 4, 5, 6] (f28_l6 c k) k))
 (bSeq (bSeq (bReg (f28_r8 c))
 (bCond (.tmp 54) (bSeq (bReg (f28_r9 c))
 (bEx .ret)) (bEx .nrm)))
 (bSeq (bReg (f28_r10 c))
 (bSeq (bSeq (bReg (f28_r11 c))
 (bCond (.tmp 67) (bSeq (bReg (f28_r12 c))
 (bEx .ret)) (bEx .nrm)))
 (bSeq (bReg (f28_r13 c))
 (bSeq (bSeq (bReg (f28_r14 c))
 (bBlock 2 (bLoop [2, 4, 5, 9, 10] (f28_l15 c k) k)))
 (bSeq (bSeq (bReg (f28_r24 c))
 (bCond (.tmp 112) (bSeq (bReg (f28_r25 c))
 (bEx .ret)) (bEx .nrm)))
 (bSeq (bReg (f28_r26 c))
 (bEx .ret))))))))))))))
theorem f28_eq (c : CallF) (k : Nat) : exec cx c 115 f28_an k (Tryd.f28.body.getD .skip) = f28 c k := by kernel_rfl
/-! ### f29: loop.example/g01263/impl.ReadChain -/
def f29_an : Ann := ⟨[(0, r0 [0, 2]), (1, r0 [2, 4, 5]), (2, r0 [2, 4, 35]), (3, ⟨[1], [], [], [], [2, 3]⟩), (4, r0 [2, 4, 6, 7]), (5, ⟨[6], [1, 5, 6], [], [], [2, 4, 6, 9, 10]⟩), (6, r0 [2, 4, 6, 9, 51]), (7, ⟨[1], [], [], [], [2, 3]⟩), (8, ⟨[4], [3, 4], [], [], [2, 4, 11]⟩), (9, r0 [2, 11, 57, 58, 59]), (10, r0 [2, 11, 57, 58, 59, 60]), (11, r0 [2, 11, 13, 57, 58, 59]), (12, r0 [2, 11, 14, 15, 57, 58, 59]), (13, r0 [2, 11, 14, 17, 18, 57, 58, 59]), (14, r0 [2, 11, 14, 17, 57, 58, 59, 75]), (15, ⟨[1], [], [], [], [2, 3]⟩), (16, ⟨[6, 8], [], [], [], [2, 11, 57, 58, 59]⟩), (17, r0 [2, 11, 57, 58, 59]), (18, r0 [2, 11, 88]), (19, ⟨[1], [], [], [], [2, 3]⟩), (20, ⟨[1], [], [], [], [2, 3]⟩)], [(10, [2, 11, 57, 58, 59])]⟩
noncomputable def f29_r0 (c : CallF) : RF := rg [0, 2] <| aX 2 (pAl 60 20) <|
 aX 3 (pM (cn (.int .i64 0))) <|
 aXZ
noncomputable def f29_r1 (c : CallF) : RF := rg [2, 4, 5] <| aX 20 (pM 0) <|
 aX 21 (pK c false 67 [20]) <|
 aX 19 (pM 21) <|
 aX 22 (pE 0 19) <|
 aX 23 (pE 1 19) <|
 aX 4 (pM 22) <|
 aX 5 (pM 23) <|
 aXZ
noncomputable def f29_r2 (c : CallF) : RF := rg [2, 4, 35] <| aX 24 (pM 5) <|
 aX 25 (pU .not 24) <|
 aX 26 (pM 25) <|
 aX 27 (pG 26 false (pM 4)) <|
 aX 28 (pG 26 false (pLen 86 27)) <|
 aX 29 (pG 26 false (pB .lss 3 28 (cn (.int .i64 2)))) <|
 aX 30 (pP 26 (cn (.bool true)) 29) <|
 aX 31 (pM 30) <|
 aX 32 (pG 31 false (pM 4)) <|
 aX 33 (pG 31 false (pLen 86 32)) <|
 aX 34 (pG 31 false (pB .gtr 3 33 (cn (.int .i64 31)))) <|
 aX 35 (pP 31 (cn (.bool true)) 34) <|
 aXZ
noncomputable def f29_r3 (c : CallF) : RF := rg [2, 3] <| aX 36 (fun n e M => keep (aBuild (zeroOf cx.P 60) [] M)) <|
 aX0 (pSK 20 2 36) <|
 aX 3 (pM (cn (.int .i64 5))) <|
 aXZ
noncomputable def f29_r4 (c : CallF) : RF := rg [2, 4, 6, 7] <| aX 38 (pM 4) <|
 aX 39 (pI 1 38 (cn (.int .i64 0))) <|
 aX 40 (pL false 1 39) <|
 aX 41 (pK c false 73 [40, (cn (.str [32]))]) <|
 aX 37 (pM 41) <|
 aX 42 (pE 0 37) <|
 aX 43 (pE 1 37) <|
 aX 44 (pE 2 37) <|
 aX 6 (pM 42) <|
 aX 7 (pM 43) <|
 aX 8 (pM 44) <|
 aXZ
noncomputable def f29_r5 (c : CallF) : RF := rg [2, 4, 6, 9, 10] <| aX 46 (pM 7) <|
 aX 47 (pK c true 74 [46]) <|
 aX 45 (pM 47) <|
 aX 48 (pE 0 45) <|
 aX 49 (pE 1 45) <|
 aX 9 (fun n e M => gho cx.P true n (oAlloc cx.P n 57 18)) <|
 aX0 (fun n e M => oStoreG cx.P 57 true 18 (eget e 9) (eget e 48) M) <|
 aX 10 (pM 49) <|
 aXZ
noncomputable def f29_r6 (c : CallF) : RF := rg [2, 4, 6, 9, 51] <| aX 50 (pM 10) <|
 aX 51 (pB .neq 2 50 (cn (.int .i64 0))) <|
 aXZ
noncomputable def f29_r7 (c : CallF) : RF := rg [2, 3] <| aX 52 (fun n e M => keep (aBuild (zeroOf cx.P 60) [] M)) <|
 aX0 (pSK 20 2 52) <|
 aX 3 (pM (cn (.int .i64 5))) <|
 aXZ
noncomputable def f29_r8 (c : CallF) : RF := rg [2, 4, 11] <| aX 53 (pM 6) <|
 aX 54 (pL true 18 9) <|
 aX 55 (fun n e M => keep (aBuild (zeroOf cx.P 60) [(0, 1, (eget e 53)), (1, 18, (eget e 54))] M)) <|
 aX 11 (fun n e M => gho cx.P true n (oAlloc cx.P n 60 20)) <|
 aX0 (fun n e M => oStoreG cx.P 60 true 20 (eget e 11) (eget e 55) M) <|
 aXZ
noncomputable def f29_r9 (c : CallF) : RF := rg [2, 11, 57, 58, 59] <| aX 56 (pM 4) <|
 aX 57 (fun n e M => keep (aSlice 1 (some (.int .i64 1)) none (eget e 56) M)) <|
 aX 58 (pLen 86 57) <|
 aX 59 (pM (cn (.int .i64 0))) <|
 aXZ
noncomputable def f29_r10 (c : CallF) : RF := rg [2, 11, 57, 58, 59, 60] <| aX 60 (pB .lss 3 59 58) <|
 aXZ
noncomputable def f29_r11 (c : CallF) : RF := rg [2, 11, 13, 57, 58, 59] <| aX 61 (pI 1 57 59) <|
 aX 62 (pL false 1 61) <|
 aX 13 (pM 62) <|
 aXZ
noncomputable def f29_r12 (c : CallF) : RF := rg [2, 11, 14, 15, 57, 58, 59] <| aX 64 (pM 13) <|
 aX 65 (pK c false 73 [64, (cn (.str [32]))]) <|
 aX 63 (pM 65) <|
 aX 66 (pE 0 63) <|
 aX 67 (pE 1 63) <|
 aX 68 (pE 2 63) <|
 aX 14 (pM 66) <|
 aX 15 (pM 67) <|
 aX 16 (pM 68) <|
 aXZ
noncomputable def f29_r13 (c : CallF) : RF := rg [2, 11, 14, 17, 18, 57, 58, 59] <| aX 70 (pM 15) <|
 aX 71 (pK c false 75 [70]) <|
 aX 69 (pM 71) <|
 aX 72 (pE 0 69) <|
 aX 73 (pE 1 69) <|
 aX 17 (pM 72) <|
 aX 18 (pM 73) <|
 aXZ
noncomputable def f29_r14 (c : CallF) : RF := rg [2, 11, 14, 17, 57, 58, 59, 75] <| aX 74 (pM 18) <|
 aX 75 (pU .not 74) <|
 aXZ
noncomputable def f29_r15 (c : CallF) : RF := rg [2, 3] <| aX 76 (fun n e M => keep (aBuild (zeroOf cx.P 60) [] M)) <|
 aX0 (pSK 20 2 76) <|
 aX 3 (pM (cn (.int .i64 5))) <|
 aXZ
noncomputable def f29_r16 (c : CallF) : RF := rg [2, 11, 57, 58, 59] <| aX 77 (pF 19 1 11) <|
 aX 78 (pL false 1 77) <|
 aX 79 (pM 14) <|
 aX 80 (pM 17) <|
 aX 81 (fun n e M => keep (aBuild (zeroOf cx.P 107) [(0, 1, (eget e 79)), (1, 1, (eget e 80))] M)) <|
 aX 82 (fun n e M => keep (aLitI 107 2 [(eget e 81)] M)) <|
 aX 83 (fun n e M => aAppO n 107 2 24 (eget e 78) (eget e 82) M) <|
 aX 84 (pF 19 1 11) <|
 aX0 (pSK 1 84 83) <|
 aXZ
noncomputable def f29_r17 (c : CallF) : RF := rg [2, 11, 57, 58, 59] <| aX 85 (pB .add 3 59 (cn (.int .i64 1))) <|
 aX 59 (pM 85) <|
 aXZ
noncomputable def f29_r18 (c : CallF) : RF := rg [2, 11, 88] <| aX 86 (pL true 20 11) <|
 aX 87 (pK c false 60 [86]) <|
 aX 88 (pU .not 87) <|
 aXZ
noncomputable def f29_r19 (c : CallF) : RF := rg [2, 3] <| aX 89 (fun n e M => keep (aBuild (zeroOf cx.P 60) [] M)) <|
 aX0 (pSK 20 2 89) <|
 aX 3 (pM (cn (.int .i64 5))) <|
 aXZ
noncomputable def f29_r20 (c : CallF) : RF := rg [2, 3] <| aX 90 (pL true 20 11) <|
 aX0 (pSK 20 2 90) <|
 aX 3 (pM (cn (.int .i64 0))) <|
 aXZ
noncomputable def f29_l10 (c : CallF) (k : Nat) : St :=
 (bSeq (bReg (f29_r10 c))
 (bSeq (bCond (.tmp 60) (bEx .nrm) (bEx (.ext 0)))
 (bSeq (bBlock 1 (bSeq (bReg (f29_r11 c))
 (bSeq (bReg (f29_r12 c))
 (bSeq (bReg (f29_r13 c))
 (bSeq (bSeq (bReg (f29_r14 c))
 (bCond (.tmp 75) (bSeq (bReg (f29_r15 c))
 (bEx .ret)) (bEx .nrm)))
 (bReg (f29_r16 c)))))))
 (bReg (f29_r17 c)))))
noncomputable def f29 (c : CallF) (k : Nat) : St :=
 (bSeq (bReg (f29_r0 c))
 (bSeq (bReg (f29_r1 c))
 (bSeq (bSeq (bReg (f29_r2 c))
 (bCond (.tmp 35) (bSeq (bReg (f29_r3 c))
 (bEx .ret)) (bEx .nrm)))
 (bSeq (bReg (f29_r4 c))
 (bSeq (bReg (f29_r5 c))
 (bSeq (bSeq (bReg (f29_r6 c))
 (bCond (.tmp 51) (bSeq (bReg (f29_r7 c))
 (bEx .ret)) (bEx .nrm)))
 (bSeq (bReg (f29_r8 c))
 (bSeq (bSeq (bReg (f29_r9 c))
 (bBlock 0 (bLoop [2, 11, 57, 58, 59] (f29_l10 c k) k)))
 (bSeq (bSeq (bReg (f29_r18 c))
 (bCond (.tmp 88) (bSeq (bReg (f29_r19 c))
 (bEx .ret)) (bEx .nrm)))
 (bSeq (bReg (f29_r20 c))
 (bEx .ret)))))))))))
theorem f29_eq (c : CallF) (k : Nat) : exec cx c 91 f29_an k (Tryd.f29.body.getD .skip) = f29 c k := by kernel_rfl
/-! ### f30: loop.example/g01263/laws.markChain -/
def f30_an : Ann := ⟨[(0, ⟨[0], [], [], [], [1, 2]⟩), (1, r0 [1, 2]), (2, r0 [1]), (3, r0 [4])], []⟩
noncomputable def f30_r0 (c : CallF) : RF := rg [1, 2] <| aX 2 (fun n e M => aBoxO n 60 20 (eget e 0) M) <|
 aX 4 (pM (cn (.int .i64 0))) <|
 aXZ
noncomputable def f30_r1 (c : CallF) : RF := rg [1, 2] <| aX 5 (pF 1 18 2) <|
 aX 6 (pL true 18 5) <|
 aX 7 (pM 1) <|
 aX 8 (pK c false 76 [6, 7]) <|
 aX 1 (pM 8) <|
 aXZ
noncomputable def f30_r2 (c : CallF) : RF := rg [1] <| aX 9 (pF 19 1 2) <|
 aX 10 (pL false 1 9) <|
 aX 11 (pM 1) <|
 aX 12 (pK c false 77 [10, 11]) <|
 aX 1 (pM 12) <|
 aXZ
noncomputable def f30_r3 (c : CallF) : RF := rg [4] <| aX 13 (pM 1) <|
 aX 4 (pM 13) <|
 aXZ
noncomputable def f30 (c : CallF) (k : Nat) : St :=
 (bSeq (bReg (f30_r0 c))
 (bSeq (bReg (f30_r1 c))
 (bSeq (bReg (f30_r2 c))
 (bSeq (bReg (f30_r3 c))
 (bEx .ret)))))
theorem f30_eq (c : CallF) (k : Nat) : exec cx c 14 f30_an k (Tryd.f30.body.getD .skip) = f30 c k := by kernel_rfl
/-! ### f31: loop.example/g01263/laws.heldChain -/
def f31_an : Ann := ⟨[(0, r0 [1, 2]), (1, r0 [1, 2]), (2, r0 [1, 2, 10]), (3, r0 [4]), (4, r0 [1]), (5, r0 [1, 16]), (6, r0 [4]), (7, r0 [4])], []⟩
noncomputable def f31_r0 (c : CallF) : RF := rg [1, 2] <| aX 2 (pBox 20 0) <|
 aX 4 (pM (cn (.int .i64 0))) <|
 aXZ
noncomputable def f31_r1 (c : CallF) : RF := rg [1, 2] <| aX 5 (pF 1 18 2) <|
 aX 6 (pL true 18 5) <|
 aX 7 (pM 1) <|
 aX 8 (pK c false 78 [6, 7]) <|
 aX 1 (pM 8) <|
 aXZ
noncomputable def f31_r2 (c : CallF) : RF := rg [1, 2, 10] <| aX 9 (pM 1) <|
 aX 10 (pB .lss 3 9 (cn (.int .i64 0))) <|
 aXZ
noncomputable def f31_r3 (c : CallF) : RF := rg [4] <| aX 4 (pM (cn (.int .i64 (-1)))) <|
 aXZ
noncomputable def f31_r4 (c : CallF) : RF := rg [1] <| aX 11 (pF 19 1 2) <|
 aX 12 (pL false 1 11) <|
 aX 13 (pM 1) <|
 aX 14 (pK c false 79 [12, 13]) <|
 aX 1 (pM 14) <|
 aXZ
noncomputable def f31_r5 (c : CallF) : RF := rg [1, 16] <| aX 15 (pM 1) <|
 aX 16 (pB .lss 3 15 (cn (.int .i64 0))) <|
 aXZ
noncomputable def f31_r6 (c : CallF) : RF := rg [4] <| aX 4 (pM (cn (.int .i64 (-1)))) <|
 aXZ
noncomputable def f31_r7 (c : CallF) : RF := rg [4] <| aX 17 (pM 1) <|
 aX 4 (pM 17) <|
 aXZ
noncomputable def f31 (c : CallF) (k : Nat) : St :=
 (bSeq (bReg (f31_r0 c))
 (bSeq (bReg (f31_r1 c))
 (bSeq (bSeq (bReg (f31_r2 c))
 (bCond (.tmp 10) (bSeq (bReg (f31_r3 c))
 (bEx .ret)) (bEx .nrm)))
 (bSeq (bReg (f31_r4 c))
 (bSeq (bSeq (bReg (f31_r5 c))
 (bCond (.tmp 16) (bSeq (bReg (f31_r6 c))
 (bEx .ret)) (bEx .nrm)))
 (bSeq (bReg (f31_r7 c))
 (bEx .ret)))))))
theorem f31_eq (c : CallF) (k : Nat) : exec cx c 18 f31_an k (Tryd.f31.body.getD .skip) = f31 c k := by kernel_rfl
/-! ### f56: loop.example/g01263/spec.l06Ok -/
def f56_an : Ann := ⟨[(0, r0 [0]), (1, r0 [0, 34]), (2, r0 [2]), (3, r0 [0, 3]), (4, r0 [0, 3, 4]), (5, r0 [0, 3, 4, 45]), (6, r0 [0, 3, 4]), (7, r0 [0, 4, 69]), (8, r0 [2]), (9, r0 [0, 3, 4]), (10, r0 [2])], [(5, [0, 3, 4])]⟩
noncomputable def f56_r0 (c : CallF) : RF := rg [0] <| aX 2 (pM (cn (.bool false))) <|
 aXZ
noncomputable def f56_r1 (c : CallF) : RF := rg [0, 34] <| aX 5 (pM 0) <|
 aX 6 (pN 5) <|
 aX 7 (pF 0 1 6) <|
 aX 8 (pL false 1 7) <|
 aX 9 (pK c false 98 [8]) <|
 aX 10 (pU .not 9) <|
 aX 11 (pM 10) <|
 aX 12 (pG 11 false (pM 0)) <|
 aX 13 (pG 11 false (pN 12)) <|
 aX 14 (pG 11 false (pF 1 18 13)) <|
 aX 15 (pG 11 false (pK c false 99 [14])) <|
 aX 16 (pG 11 false (pU .not 15)) <|
 aX 17 (pP 11 (cn (.bool true)) 16) <|
 aX 18 (pM 17) <|
 aX 19 (pG 18 false (pM 0)) <|
 aX 20 (pG 18 false (pN 19)) <|
 aX 21 (pG 18 false (pF 1 18 20)) <|
 aX 22 (pG 18 false (pF 0 1 21)) <|
 aX 23 (pG 18 false (pL false 1 22)) <|
 aX 24 (pG 18 false (pU .not 23)) <|
 aX 25 (pP 18 (cn (.bool true)) 24) <|
 aX 26 (pM 25) <|
 aX 27 (pG 26 false (pM 0)) <|
 aX 28 (pG 26 false (pN 27)) <|
 aX 29 (pG 26 false (pF 19 1 28)) <|
 aX 30 (pG 26 false (pL false 1 29)) <|
 aX 31 (pG 26 false (pLen 58 30)) <|
 aX 32 (pG 26 false (pK c false 84 [31, (cn (.int .i64 1)), (cn (.int .i64 30))])) <|
 aX 33 (pG 26 false (pU .not 32)) <|
 aX 34 (pP 26 (cn (.bool true)) 33) <|
 aXZ
noncomputable def f56_r2 (c : CallF) : RF := rg [2] <| aX 2 (pM (cn (.bool false))) <|
 aXZ
noncomputable def f56_r3 (c : CallF) : RF := rg [0, 3] <| aX 35 (pM 0) <|
 aX 36 (pN 35) <|
 aX 37 (pF 0 1 36) <|
 aX 38 (pL false 1 37) <|
 aX 3 (pM 38) <|
 aXZ
noncomputable def f56_r4 (c : CallF) : RF := rg [0, 3, 4] <| aX 4 (pM (cn (.int .i64 0))) <|
 aXZ
noncomputable def f56_r5 (c : CallF) : RF := rg [0, 3, 4, 45] <| aX 39 (pM 4) <|
 aX 40 (pM 0) <|
 aX 41 (pN 40) <|
 aX 42 (pF 19 1 41) <|
 aX 43 (pL false 1 42) <|
 aX 44 (pLen 58 43) <|
 aX 45 (pB .lss 3 39 44) <|
 aXZ
noncomputable def f56_r6 (c : CallF) : RF := rg [0, 3, 4] <| aX 46 (pM 4) <|
 aX 47 (pB .add 3 46 (cn (.int .i64 1))) <|
 aX 4 (pM 47) <|
 aXZ
noncomputable def f56_r7 (c : CallF) : RF := rg [0, 4, 69] <| aX 48 (pM 0) <|
 aX 49 (pN 48) <|
 aX 50 (pF 19 1 49) <|
 aX 51 (pL false 1 50) <|
 aX 52 (pM 4) <|
 aX 53 (pI 2 51 52) <|
 aX 54 (pF 0 1 53) <|
 aX 55 (pL false 1 54) <|
 aX 56 (pK c false 98 [55]) <|
 aX 57 (pU .not 56) <|
 aX 58 (pM 57) <|
 aX 59 (pG 58 false (pM 0)) <|
 aX 60 (pG 58 false (pN 59)) <|
 aX 61 (pG 58 false (pF 19 1 60)) <|
 aX 62 (pG 58 false (pL false 1 61)) <|
 aX 63 (pG 58 false (pM 4)) <|
 aX 64 (pG 58 false (pI 2 62 63)) <|
 aX 65 (pG 58 false (pF 0 1 64)) <|
 aX 66 (pG 58 false (pL false 1 65)) <|
 aX 67 (pG 58 false (pM 3)) <|
 aX 68 (pG 58 false (pB .eql 9 66 67)) <|
 aX 69 (pP 58 (cn (.bool true)) 68) <|
 aXZ
noncomputable def f56_r8 (c : CallF) : RF := rg [2] <| aX 2 (pM (cn (.bool false))) <|
 aXZ
noncomputable def f56_r9 (c : CallF) : RF := rg [0, 3, 4] <| aX 70 (pM 0) <|
 aX 71 (pN 70) <|
 aX 72 (pF 19 1 71) <|
 aX 73 (pL false 1 72) <|
 aX 74 (pM 4) <|
 aX 75 (pI 2 73 74) <|
 aX 76 (pF 0 1 75) <|
 aX 77 (pL false 1 76) <|
 aX 3 (pM 77) <|
 aXZ
noncomputable def f56_r10 (c : CallF) : RF := rg [2] <| aX 2 (pM (cn (.bool true))) <|
 aXZ
noncomputable def f56_l5 (c : CallF) (k : Nat) : St :=
 (bSeq (bSeq (bReg (f56_r5 c))
 (bCond (.tmp 45) (bEx .nrm) (bEx (.ext 0))))
 (bSeq (bBlock 1 (bSeq (bSeq (bReg (f56_r7 c))
 (bCond (.tmp 69) (bSeq (bReg (f56_r8 c))
 (bEx .ret)) (bEx .nrm)))
 (bReg (f56_r9 c))))
 (bReg (f56_r6 c))))
noncomputable def f56 (c : CallF) (k : Nat) : St :=
 (bSeq (bReg (f56_r0 c))
 (bSeq (bSeq (bReg (f56_r1 c))
 (bCond (.tmp 34) (bSeq (bReg (f56_r2 c))
 (bEx .ret)) (bEx .nrm)))
 (bSeq (bReg (f56_r3 c))
 (bSeq (bSeq (bReg (f56_r4 c))
 (bBlock 0 (bLoop [0, 3, 4] (f56_l5 c k) k)))
 (bSeq (bReg (f56_r10 c))
 (bEx .ret))))))
theorem f56_eq (c : CallF) (k : Nat) : exec cx c 78 f56_an k (Tryd.f56.body.getD .skip) = f56 c k := by kernel_rfl
/-! ### f60: loop.example/g01263/impl.ValidChain -/
def f60_an : Ann := ⟨[(0, r0 [1]), (1, r0 [1, 33]), (2, r0 [2]), (3, r0 [1, 3]), (4, r0 [3, 37, 38, 39]), (5, r0 [3, 37, 38, 39, 40]), (6, r0 [3, 5, 37, 38, 39]), (7, r0 [5, 37, 38, 39, 52]), (8, r0 [2]), (9, r0 [3, 37, 38, 39]), (10, r0 [3, 37, 38, 39]), (11, r0 [2])], [(5, [3, 37, 38, 39])]⟩
noncomputable def f60_r0 (c : CallF) : RF := rg [1] <| aX 1 (pBox 20 0) <|
 aX 2 (pM (cn (.bool false))) <|
 aXZ
noncomputable def f60_r1 (c : CallF) : RF := rg [1, 33] <| aX 6 (pF 0 1 1) <|
 aX 7 (pL false 1 6) <|
 aX 8 (pK c false 105 [7]) <|
 aX 9 (pU .not 8) <|
 aX 10 (pM 9) <|
 aX 11 (pG 10 false (pF 1 18 1)) <|
 aX 12 (pG 10 false (pL true 18 11)) <|
 aX 13 (pG 10 false (pK c false 106 [12])) <|
 aX 14 (pG 10 false (pU .not 13)) <|
 aX 15 (pP 10 (cn (.bool true)) 14) <|
 aX 16 (pM 15) <|
 aX 17 (pG 16 false (pF 1 18 1)) <|
 aX 18 (pG 16 false (pF 0 1 17)) <|
 aX 19 (pG 16 false (pL false 1 18)) <|
 aX 20 (pG 16 false (pU .not 19)) <|
 aX 21 (pP 16 (cn (.bool true)) 20) <|
 aX 22 (pM 21) <|
 aX 23 (pG 22 false (pF 19 1 1)) <|
 aX 24 (pG 22 false (pL false 1 23)) <|
 aX 25 (pG 22 false (pLen 58 24)) <|
 aX 26 (pG 22 false (pB .lss 3 25 (cn (.int .i64 1)))) <|
 aX 27 (pP 22 (cn (.bool true)) 26) <|
 aX 28 (pM 27) <|
 aX 29 (pG 28 false (pF 19 1 1)) <|
 aX 30 (pG 28 false (pL false 1 29)) <|
 aX 31 (pG 28 false (pLen 58 30)) <|
 aX 32 (pG 28 false (pB .gtr 3 31 (cn (.int .i64 30)))) <|
 aX 33 (pP 28 (cn (.bool true)) 32) <|
 aXZ
noncomputable def f60_r2 (c : CallF) : RF := rg [2] <| aX 2 (pM (cn (.bool false))) <|
 aXZ
noncomputable def f60_r3 (c : CallF) : RF := rg [1, 3] <| aX 34 (pF 0 1 1) <|
 aX 35 (pL false 1 34) <|
 aX 3 (pM 35) <|
 aXZ
noncomputable def f60_r4 (c : CallF) : RF := rg [3, 37, 38, 39] <| aX 36 (pF 19 1 1) <|
 aX 37 (pL false 1 36) <|
 aX 38 (pLen 58 37) <|
 aX 39 (pM (cn (.int .i64 0))) <|
 aXZ
noncomputable def f60_r5 (c : CallF) : RF := rg [3, 37, 38, 39, 40] <| aX 40 (pB .lss 3 39 38) <|
 aXZ
noncomputable def f60_r6 (c : CallF) : RF := rg [3, 5, 37, 38, 39] <| aX 41 (pI 2 37 39) <|
 aX 42 (pL true 2 41) <|
 aX 5 (pAl 107 2) <|
 aX0 (pS 2 5 42) <|
 aXZ
noncomputable def f60_r7 (c : CallF) : RF := rg [5, 37, 38, 39, 52] <| aX 43 (pF 0 1 5) <|
 aX 44 (pL false 1 43) <|
 aX 45 (pK c false 105 [44]) <|
 aX 46 (pU .not 45) <|
 aX 47 (pM 46) <|
 aX 48 (pG 47 false (pF 0 1 5)) <|
 aX 49 (pG 47 false (pL false 1 48)) <|
 aX 50 (pG 47 false (pM 3)) <|
 aX 51 (pG 47 false (pB .eql 9 49 50)) <|
 aX 52 (pP 47 (cn (.bool true)) 51) <|
 aXZ
noncomputable def f60_r8 (c : CallF) : RF := rg [2] <| aX 2 (pM (cn (.bool false))) <|
 aXZ
noncomputable def f60_r9 (c : CallF) : RF := rg [3, 37, 38, 39] <| aX 53 (pF 0 1 5) <|
 aX 54 (pL false 1 53) <|
 aX 3 (pM 54) <|
 aXZ
noncomputable def f60_r10 (c : CallF) : RF := rg [3, 37, 38, 39] <| aX 55 (pB .add 3 39 (cn (.int .i64 1))) <|
 aX 39 (pM 55) <|
 aXZ
noncomputable def f60_r11 (c : CallF) : RF := rg [2] <| aX 2 (pM (cn (.bool true))) <|
 aXZ
noncomputable def f60_l5 (c : CallF) (k : Nat) : St :=
 (bSeq (bReg (f60_r5 c))
 (bSeq (bCond (.tmp 40) (bEx .nrm) (bEx (.ext 0)))
 (bSeq (bBlock 1 (bSeq (bReg (f60_r6 c))
 (bSeq (bSeq (bReg (f60_r7 c))
 (bCond (.tmp 52) (bSeq (bReg (f60_r8 c))
 (bEx .ret)) (bEx .nrm)))
 (bReg (f60_r9 c)))))
 (bReg (f60_r10 c)))))
noncomputable def f60 (c : CallF) (k : Nat) : St :=
 (bSeq (bReg (f60_r0 c))
 (bSeq (bSeq (bReg (f60_r1 c))
 (bCond (.tmp 33) (bSeq (bReg (f60_r2 c))
 (bEx .ret)) (bEx .nrm)))
 (bSeq (bReg (f60_r3 c))
 (bSeq (bSeq (bReg (f60_r4 c))
 (bBlock 0 (bLoop [3, 37, 38, 39] (f60_l5 c k) k)))
 (bSeq (bReg (f60_r11 c))
 (bEx .ret))))))
theorem f60_eq (c : CallF) (k : Nat) : exec cx c 56 f60_an k (Tryd.f60.body.getD .skip) = f60 c k := by kernel_rfl
/-! ### f63: loop.example/g01263/laws.eqHalf -/
def f63_an : Ann := ⟨[(0, r0 [2, 3]), (1, r0 [2, 3, 9]), (2, r0 [4]), (3, r0 [2, 3, 15]), (4, r0 [4]), (5, r0 [21]), (6, r0 [4]), (7, r0 [4])], []⟩
noncomputable def f63_r0 (c : CallF) : RF := rg [2, 3] <| aX 2 (pBox 18 0) <|
 aX 3 (pBox 18 1) <|
 aX 4 (pM (cn (.bool false))) <|
 aXZ
noncomputable def f63_r1 (c : CallF) : RF := rg [2, 3, 9] <| aX 5 (pF 0 1 2) <|
 aX 6 (pL false 1 5) <|
 aX 7 (pF 0 1 3) <|
 aX 8 (pL false 1 7) <|
 aX 9 (pB .neq 4 6 8) <|
 aXZ
noncomputable def f63_r2 (c : CallF) : RF := rg [4] <| aX 4 (pM (cn (.bool false))) <|
 aXZ
noncomputable def f63_r3 (c : CallF) : RF := rg [2, 3, 15] <| aX 10 (pF 1 1 2) <|
 aX 11 (pL false 1 10) <|
 aX 12 (pF 1 1 3) <|
 aX 13 (pL false 1 12) <|
 aX 14 (pK c false 107 [11, 13]) <|
 aX 15 (pU .not 14) <|
 aXZ
noncomputable def f63_r4 (c : CallF) : RF := rg [4] <| aX 4 (pM (cn (.bool false))) <|
 aXZ
noncomputable def f63_r5 (c : CallF) : RF := rg [21] <| aX 16 (pF 2 16 2) <|
 aX 17 (pL true 16 16) <|
 aX 18 (pF 2 16 3) <|
 aX 19 (pL true 16 18) <|
 aX 20 (pK c false 108 [17, 19]) <|
 aX 21 (pU .not 20) <|
 aXZ
noncomputable def f63_r6 (c : CallF) : RF := rg [4] <| aX 4 (pM (cn (.bool false))) <|
 aXZ
noncomputable def f63_r7 (c : CallF) : RF := rg [4] <| aX 4 (pM (cn (.bool true))) <|
 aXZ
noncomputable def f63 (c : CallF) (k : Nat) : St :=
 (bSeq (bReg (f63_r0 c))
 (bSeq (bSeq (bReg (f63_r1 c))
 (bCond (.tmp 9) (bSeq (bReg (f63_r2 c))
 (bEx .ret)) (bEx .nrm)))
 (bSeq (bSeq (bReg (f63_r3 c))
 (bCond (.tmp 15) (bSeq (bReg (f63_r4 c))
 (bEx .ret)) (bEx .nrm)))
 (bSeq (bSeq (bReg (f63_r5 c))
 (bCond (.tmp 21) (bSeq (bReg (f63_r6 c))
 (bEx .ret)) (bEx .nrm)))
 (bSeq (bReg (f63_r7 c))
 (bEx .ret))))))
theorem f63_eq (c : CallF) (k : Nat) : exec cx c 22 f63_an k (Tryd.f63.body.getD .skip) = f63 c k := by kernel_rfl
/-! ### f64: loop.example/g01263/laws.eqMarkS -/
def f64_an : Ann := ⟨[(0, r0 [0, 1]), (1, r0 [0, 1, 10]), (2, r0 [4]), (3, r0 [0, 1, 5]), (4, r0 [0, 1, 5, 14]), (5, r0 [0, 1, 5]), (6, r0 [0, 1, 5, 26]), (7, r0 [4]), (8, r0 [4])], [(4, [0, 1, 5])]⟩
noncomputable def f64_r0 (c : CallF) : RF := rg [0, 1] <| aX 4 (pM (cn (.bool false))) <|
 aXZ
noncomputable def f64_r1 (c : CallF) : RF := rg [0, 1, 10] <| aX 6 (pM 0) <|
 aX 7 (pLen 58 6) <|
 aX 8 (pM 1) <|
 aX 9 (pLen 58 8) <|
 aX 10 (pB .neq 3 7 9) <|
 aXZ
noncomputable def f64_r2 (c : CallF) : RF := rg [4] <| aX 4 (pM (cn (.bool false))) <|
 aXZ
noncomputable def f64_r3 (c : CallF) : RF := rg [0, 1, 5] <| aX 5 (pM (cn (.int .i64 0))) <|
 aXZ
noncomputable def f64_r4 (c : CallF) : RF := rg [0, 1, 5, 14] <| aX 11 (pM 5) <|
 aX 12 (pM 0) <|
 aX 13 (pLen 58 12) <|
 aX 14 (pB .lss 3 11 13) <|
 aXZ
noncomputable def f64_r5 (c : CallF) : RF := rg [0, 1, 5] <| aX 15 (pM 5) <|
 aX 16 (pB .add 3 15 (cn (.int .i64 1))) <|
 aX 5 (pM 16) <|
 aXZ
noncomputable def f64_r6 (c : CallF) : RF := rgD [0, 1, 5, 26] (aY 17 (pM 0) <|
 aY 18 (pM 5) <|
 aY 19 (pI 2 17 18) <|
 aY 20 (pL true 2 19) <|
 aY 21 (pM 1) <|
 aY 22 (pM 5) <|
 aY 23 (pI 2 21 22) <|
 aY 24 (pL true 2 23) <|
 aY 25 (pK c false 109 [20, 24]) <|
 aY 26 (pU .not 25) <|
 aYZ)
 (aXZ)
noncomputable def f64_r7 (c : CallF) : RF := rg [4] <| aX 4 (pM (cn (.bool false))) <|
 aXZ
noncomputable def f64_r8 (c : CallF) : RF := rg [4] <| aX 4 (pM (cn (.bool true))) <|
 aXZ
noncomputable def f64_l4 (c : CallF) (k : Nat) : St :=
 (bSeq (bSeq (bReg (f64_r4 c))
 (bCond (.tmp 14) (bEx .nrm) (bEx (.ext 0))))
 (bSeq (bBlock 1 (bSeq (bReg (f64_r6 c))
 (bCond (.tmp 26) (bSeq (bReg (f64_r7 c))
 (bEx .ret)) (bEx .nrm))))
 (bReg (f64_r5 c))))
noncomputable def f64 (c : CallF) (k : Nat) : St :=
 (bSeq (bReg (f64_r0 c))
 (bSeq (bSeq (bReg (f64_r1 c))
 (bCond (.tmp 10) (bSeq (bReg (f64_r2 c))
 (bEx .ret)) (bEx .nrm)))
 (bSeq (bSeq (bReg (f64_r3 c))
 (bBlock 0 (bLoop [0, 1, 5] (f64_l4 c k) k)))
 (bSeq (bReg (f64_r8 c))
 (bEx .ret)))))
theorem f64_eq (c : CallF) (k : Nat) : exec cx c 27 f64_an k (Tryd.f64.body.getD .skip) = f64 c k := by kernel_rfl
/-! ### f65: loop.example/g01263/spec.l01Split -/
def f65_an : Ann := ⟨[(0, r0 [0, 1]), (1, ⟨[0], [], [], [], [0, 1, 5]⟩), (2, r0 [0, 1, 5, 6]), (3, r0 [0, 1, 5, 6, 7]), (4, r0 [0, 1, 5, 6, 7, 12]), (5, r0 [0, 1, 5, 6, 7]), (6, r0 [0, 1, 5, 6, 7, 19]), (7, ⟨[6], [], [], [], [0, 1, 5, 7]⟩), (8, r0 [0, 1, 5, 6, 7]), (9, ⟨[5], [], [], [], [4]⟩)], [(4, [0, 1, 5, 6, 7])]⟩
noncomputable def f65_r0 (c : CallF) : RF := rg [0, 1] <| aX 4 (pM (cn .nils)) <|
 aXZ
noncomputable def f65_r1 (c : CallF) : RF := rg [0, 1, 5] <| aX 8 (fun n e M => aLitO false n 9 1 [] M) <|
 aX 5 (pM 8) <|
 aXZ
noncomputable def f65_r2 (c : CallF) : RF := rg [0, 1, 5, 6] <| aX 6 (pM (cn (.int .i64 0))) <|
 aXZ
noncomputable def f65_r3 (c : CallF) : RF := rg [0, 1, 5, 6, 7] <| aX 7 (pM (cn (.int .i64 0))) <|
 aXZ
noncomputable def f65_r4 (c : CallF) : RF := rg [0, 1, 5, 6, 7, 12] <| aX 9 (pM 7) <|
 aX 10 (pM 0) <|
 aX 11 (pLen 9 10) <|
 aX 12 (pB .lss 3 9 11) <|
 aXZ
noncomputable def f65_r5 (c : CallF) : RF := rg [0, 1, 5, 6, 7] <| aX 13 (pM 7) <|
 aX 14 (pB .add 3 13 (cn (.int .i64 1))) <|
 aX 7 (pM 14) <|
 aXZ
noncomputable def f65_r6 (c : CallF) : RF := rg [0, 1, 5, 6, 7, 19] <| aX 15 (pM 0) <|
 aX 16 (pM 7) <|
 aX 17 (fun n e M => keep (aIndexB (eget e 15) (eget e 16))) <|
 aX 18 (pM 1) <|
 aX 19 (pB .eql 5 17 18) <|
 aXZ
noncomputable def f65_r7 (c : CallF) : RF := rg [0, 1, 5, 7] <| aX 20 (pM 5) <|
 aX 21 (pM 0) <|
 aX 22 (pM 6) <|
 aX 23 (pM 7) <|
 aX 24 (fun n e M => keep (aSliceS (some (eget e 22)) (some (eget e 23)) (eget e 21))) <|
 aX 25 (fun n e M => keep (aLitI 9 1 [(eget e 24)] M)) <|
 aX 26 (fun n e M => aAppO n 9 1 16 (eget e 20) (eget e 25) M) <|
 aX 5 (pM 26) <|
 aXZ
noncomputable def f65_r8 (c : CallF) : RF := rg [0, 1, 5, 6, 7] <| aX 27 (pM 7) <|
 aX 28 (pB .add 3 27 (cn (.int .i64 1))) <|
 aX 6 (pM 28) <|
 aXZ
noncomputable def f65_r9 (c : CallF) : RF := rg [4] <| aX 29 (pM 5) <|
 aX 30 (pM 0) <|
 aX 31 (pM 6) <|
 aX 32 (fun n e M => keep (aSliceS (some (eget e 31)) none (eget e 30))) <|
 aX 33 (fun n e M => keep (aLitI 9 1 [(eget e 32)] M)) <|
 aX 34 (fun n e M => aAppO n 9 1 16 (eget e 29) (eget e 33) M) <|
 aX 4 (pM 34) <|
 aXZ
noncomputable def f65_l4 (c : CallF) (k : Nat) : St :=
 (bSeq (bSeq (bReg (f65_r4 c))
 (bCond (.tmp 12) (bEx .nrm) (bEx (.ext 0))))
 (bSeq (bBlock 1 (bSeq (bReg (f65_r6 c))
 (bCond (.tmp 19) (bSeq (bReg (f65_r7 c))
 (bReg (f65_r8 c))) (bEx .nrm))))
 (bReg (f65_r5 c))))
noncomputable def f65 (c : CallF) (k : Nat) : St :=
 (bSeq (bReg (f65_r0 c))
 (bSeq (bReg (f65_r1 c))
 (bSeq (bReg (f65_r2 c))
 (bSeq (bSeq (bReg (f65_r3 c))
 (bBlock 0 (bLoop [0, 1, 5, 6, 7] (f65_l4 c k) k)))
 (bSeq (bReg (f65_r9 c))
 (bEx .ret))))))
theorem f65_eq (c : CallF) (k : Nat) : exec cx c 35 f65_an k (Tryd.f65.body.getD .skip) = f65 c k := by kernel_rfl
/-! ### f67: loop.example/g01263/impl.linesOf -/
def f67_an : Ann := ⟨[(0, r0 [0]), (1, r0 [0, 7]), (2, r0 [2, 3]), (3, r0 [4]), (4, r0 [4, 5]), (5, r0 [2, 3])], []⟩
noncomputable def f67_r0 (c : CallF) : RF := rg [0] <| aX 2 (pM (cn .nils)) <|
 aX 3 (pM (cn (.bool false))) <|
 aXZ
noncomputable def f67_r1 (c : CallF) : RF := rg [0, 7] <| aX 6 (pM 0) <|
 aX 7 (pB .eql 9 6 (cn (.str []))) <|
 aXZ
noncomputable def f67_r2 (c : CallF) : RF := rg [2, 3] <| aX 2 (pM (cn .nils)) <|
 aX 3 (pM (cn (.bool true))) <|
 aXZ
noncomputable def f67_r3 (c : CallF) : RF := rg [4] <| aX 8 (pM 0) <|
 aX 9 (pK c false 114 [8, (cn (.str [10]))]) <|
 aX 4 (pM 9) <|
 aXZ
noncomputable def f67_r4 (c : CallF) : RF := rg [4, 5] <| aX 10 (pM 4) <|
 aX 11 (pLen 86 10) <|
 aX 12 (pB .sub 3 11 (cn (.int .i64 1))) <|
 aX 5 (pM 12) <|
 aXZ
noncomputable def f67_r5 (c : CallF) : RF := rgD [2, 3] (aY 13 (pM 4) <|
 aY 14 (pM 5) <|
 aY 15 (fun n e M => keep (aSlice 1 none (some (eget e 14)) (eget e 13) M)) <|
 aY 16 (pM 4) <|
 aY 17 (pM 5) <|
 aY 18 (pI 1 16 17) <|
 aY 19 (pL false 1 18) <|
 aY 20 (pB .eql 9 19 (cn (.str []))) <|
 aY 2 (pM 15) <|
 aY 3 (pM 20) <|
 aYZ)
 (aXZ)
noncomputable def f67 (c : CallF) (k : Nat) : St :=
 (bSeq (bReg (f67_r0 c))
 (bSeq (bSeq (bReg (f67_r1 c))
 (bCond (.tmp 7) (bSeq (bReg (f67_r2 c))
 (bEx .ret)) (bEx .nrm)))
 (bSeq (bReg (f67_r3 c))
 (bSeq (bReg (f67_r4 c))
 (bSeq (bReg (f67_r5 c))
 (bEx .ret))))))
theorem f67_eq (c : CallF) (k : Nat) : exec cx c 21 f67_an k (Tryd.f67.body.getD .skip) = f67 c k := by kernel_rfl
/-! ### f71: loop.example/g01263/spec.ReadHalf -/
def f71_an : Ann := ⟨[(0, r0 [0, 2]), (1, ⟨[6], [], [], [], [2, 4, 5]⟩), (2, r0 [2, 4, 12]), (3, ⟨[1], [], [], [], [2, 3]⟩), (4, ⟨[1], [], [], [], [2, 3]⟩)], []⟩
noncomputable def f71_r0 (c : CallF) : RF := rg [0, 2] <| aX 2 (pAl 57 18) <|
 aX 3 (pM (cn (.int .i64 0))) <|
 aXZ
noncomputable def f71_r1 (c : CallF) : RF := rg [2, 4, 5] <| aX 7 (pM 0) <|
 aX 8 (pK c false 118 [7]) <|
 aX 6 (pM 8) <|
 aX 9 (pE 0 6) <|
 aX 10 (pE 1 6) <|
 aX 4 (pAl 57 18) <|
 aX0 (pSK 18 4 9) <|
 aX 5 (pM 10) <|
 aXZ
noncomputable def f71_r2 (c : CallF) : RF := rg [2, 4, 12] <| aX 11 (pM 5) <|
 aX 12 (pU .not 11) <|
 aXZ
noncomputable def f71_r3 (c : CallF) : RF := rg [2, 3] <| aX 13 (fun n e M => keep (aBuild (zeroOf cx.P 57) [] M)) <|
 aX0 (pSK 18 2 13) <|
 aX 3 (pM (cn (.int .i64 5))) <|
 aXZ
noncomputable def f71_r4 (c : CallF) : RF := rg [2, 3] <| aX 14 (pL true 18 4) <|
 aX0 (pSK 18 2 14) <|
 aX 3 (pM (cn (.int .i64 0))) <|
 aXZ
noncomputable def f71 (c : CallF) (k : Nat) : St :=
 (bSeq (bReg (f71_r0 c))
 (bSeq (bReg (f71_r1 c))
 (bSeq (bSeq (bReg (f71_r2 c))
 (bCond (.tmp 12) (bSeq (bReg (f71_r3 c))
 (bEx .ret)) (bEx .nrm)))
 (bSeq (bReg (f71_r4 c))
 (bEx .ret)))))
theorem f71_eq (c : CallF) (k : Nat) : exec cx c 15 f71_an k (Tryd.f71.body.getD .skip) = f71 c k := by kernel_rfl
/-! ### f72: loop.example/g01263/spec.l06Unhex -/
def f72_an : Ann := ⟨[(0, r0 [0]), (1, r0 [0, 4]), (2, r0 [0, 4, 5]), (3, r0 [0, 4, 5, 10]), (4, r0 [0, 4, 5]), (5, r0 [0, 4, 5, 6]), (6, r0 [2, 3]), (7, r0 [0, 4, 5, 6, 16]), (8, r0 [0, 4, 5]), (9, r0 [0, 4, 5, 6, 29]), (10, r0 [0, 4, 5]), (11, r0 [2, 3])], [(3, [0, 4, 5])]⟩
noncomputable def f72_r0 (c : CallF) : RF := rg [0] <| aX 2 (pM (cn (.int .u32 0))) <|
 aX 3 (pM (cn (.bool false))) <|
 aXZ
noncomputable def f72_r1 (c : CallF) : RF := rg [0, 4] <| aX 4 (pM (cn (.int .u32 0))) <|
 aXZ
noncomputable def f72_r2 (c : CallF) : RF := rg [0, 4, 5] <| aX 5 (pM (cn (.int .i64 0))) <|
 aXZ
noncomputable def f72_r3 (c : CallF) : RF := rg [0, 4, 5, 10] <| aX 7 (pM 5) <|
 aX 8 (pM 0) <|
 aX 9 (pLen 9 8) <|
 aX 10 (pB .lss 3 7 9) <|
 aXZ
noncomputable def f72_r4 (c : CallF) : RF := rg [0, 4, 5] <| aX 11 (pM 5) <|
 aX 12 (pB .add 3 11 (cn (.int .i64 1))) <|
 aX 5 (pM 12) <|
 aXZ
noncomputable def f72_r5 (c : CallF) : RF := rg [0, 4, 5, 6] <| aX 13 (pM 0) <|
 aX 14 (pM 5) <|
 aX 15 (fun n e M => keep (aIndexB (eget e 13) (eget e 14))) <|
 aX 6 (pM 15) <|
 aXZ
noncomputable def f72_r6 (c : CallF) : RF := rg [2, 3] <| aX 2 (pM (cn (.int .u32 0))) <|
 aX 3 (pM (cn (.bool false))) <|
 aXZ
noncomputable def f72_r7 (c : CallF) : RF := rg [0, 4, 5, 6, 16] <| aX 17 (pM 6) <|
 aX 18 (pB .geq 5 17 (cn (.int .u8 48))) <|
 aX 19 (pM 18) <|
 aX 20 (pG 19 true (pM 6)) <|
 aX 21 (pG 19 true (pB .leq 5 20 (cn (.int .u8 57)))) <|
 aX 22 (pP 19 21 (cn (.bool false))) <|
 aX 16 (pM 22) <|
 aXZ
noncomputable def f72_r8 (c : CallF) : RF := rg [0, 4, 5] <| aX 23 (pM 4) <|
 aX 24 (pB .shl 105 23 (cn (.int .u64 4))) <|
 aX 25 (pM 6) <|
 aX 26 (pB .sub 5 25 (cn (.int .u8 48))) <|
 aX 27 (fun n e M => keep (aConvI .u32 (eget e 26))) <|
 aX 28 (pB .or 105 24 27) <|
 aX 4 (pM 28) <|
 aXZ
noncomputable def f72_r9 (c : CallF) : RF := rg [0, 4, 5, 6, 29] <| aX 30 (pM 6) <|
 aX 31 (pB .geq 5 30 (cn (.int .u8 97))) <|
 aX 32 (pM 31) <|
 aX 33 (pG 32 true (pM 6)) <|
 aX 34 (pG 32 true (pB .leq 5 33 (cn (.int .u8 102)))) <|
 aX 35 (pP 32 34 (cn (.bool false))) <|
 aX 29 (pM 35) <|
 aXZ
noncomputable def f72_r10 (c : CallF) : RF := rg [0, 4, 5] <| aX 36 (pM 4) <|
 aX 37 (pB .shl 105 36 (cn (.int .u64 4))) <|
 aX 38 (pM 6) <|
 aX 39 (pB .sub 5 38 (cn (.int .u8 97))) <|
 aX 40 (fun n e M => keep (aConvI .u32 (eget e 39))) <|
 aX 41 (pB .or 105 37 40) <|
 aX 42 (pB .add 105 41 (cn (.int .u32 10))) <|
 aX 4 (pM 42) <|
 aXZ
noncomputable def f72_r11 (c : CallF) : RF := rg [2, 3] <| aX 43 (pM 4) <|
 aX 44 (pM 0) <|
 aX 45 (pLen 9 44) <|
 aX 46 (pB .eql 3 45 (cn (.int .i64 8))) <|
 aX 2 (pM 43) <|
 aX 3 (pM 46) <|
 aXZ
noncomputable def f72_l3 (c : CallF) (k : Nat) : St :=
 (bSeq (bSeq (bReg (f72_r3 c))
 (bCond (.tmp 10) (bEx .nrm) (bEx (.ext 0))))
 (bSeq (bBlock 1 (bSeq (bReg (f72_r5 c))
 (bBlock 2 (bSeq (bReg (f72_r7 c))
 (bCond (.tmp 16) (bReg (f72_r8 c)) (bSeq (bReg (f72_r9 c))
 (bCond (.tmp 29) (bReg (f72_r10 c)) (bSeq (bReg (f72_r6 c))
 (bEx .ret)))))))))
 (bReg (f72_r4 c))))
noncomputable def f72 (c : CallF) (k : Nat) : St :=
 (bSeq (bReg (f72_r0 c))
 (bSeq (bReg (f72_r1 c))
 (bSeq (bSeq (bReg (f72_r2 c))
 (bBlock 0 (bLoop [0, 4, 5] (f72_l3 c k) k)))
 (bSeq (bReg (f72_r11 c))
 (bEx .ret)))))
theorem f72_eq (c : CallF) (k : Nat) : exec cx c 47 f72_an k (Tryd.f72.body.getD .skip) = f72 c k := by kernel_rfl
/-! ### f74: loop.example/g01263/impl.ReadHalf -/
def f74_an : Ann := ⟨[(0, r0 [0, 2]), (1, r0 [2, 4]), (2, r0 [2, 4, 40]), (3, ⟨[1], [], [], [], [2, 3]⟩), (4, ⟨[6], [5, 6], [], [], [2, 4, 5]⟩), (5, r0 [2, 4, 5, 47]), (6, r0 [2, 4, 5, 47, 48]), (7, r0 [2, 4, 5, 6, 47]), (8, r0 [2, 4, 5, 6, 47, 63]), (9, ⟨[1], [], [], [], [2, 3]⟩), (10, r0 [2, 4, 5, 47]), (11, r0 [2, 4, 5, 47]), (12, r0 [2, 5, 77, 78, 79]), (13, r0 [2, 5, 77, 78, 79, 80]), (14, r0 [2, 5, 8, 77, 78, 79]), (15, r0 [2, 5, 8, 77, 78, 79, 84]), (16, ⟨[1], [], [], [], [2, 3]⟩), (17, r0 [2, 5, 8, 9, 77, 78, 79]), (18, r0 [2, 5, 9, 10, 11, 77, 78, 79]), (19, r0 [2, 5, 9, 10, 77, 78, 79, 104]), (20, ⟨[1], [], [], [], [2, 3]⟩), (21, ⟨[8, 10], [], [], [], [2, 5, 77, 78, 79]⟩), (22, r0 [2, 5, 77, 78, 79]), (23, r0 [2, 5, 119]), (24, ⟨[1], [], [], [], [2, 3]⟩), (25, ⟨[1], [], [], [], [2, 3]⟩)], [(6, [2, 4, 5, 47]), (13, [2, 5, 77, 78, 79])]⟩
noncomputable def f74_r0 (c : CallF) : RF := rg [0, 2] <| aX 2 (pAl 57 18) <|
 aX 3 (pM (cn (.int .i64 0))) <|
 aXZ
noncomputable def f74_r1 (c : CallF) : RF := rg [2, 4] <| aX 12 (pM 0) <|
 aX 13 (pK c false 114 [12, (cn (.str [32]))]) <|
 aX 4 (pM 13) <|
 aXZ
noncomputable def f74_r2 (c : CallF) : RF := rg [2, 4, 40] <| aX 14 (pM 4) <|
 aX 15 (pLen 86 14) <|
 aX 16 (pB .lss 3 15 (cn (.int .i64 2))) <|
 aX 17 (pM 16) <|
 aX 18 (pG 17 false (pM 4)) <|
 aX 19 (pG 17 false (pLen 86 18)) <|
 aX 20 (pG 17 false (pB .gtr 3 19 (cn (.int .i64 62)))) <|
 aX 21 (pP 17 (cn (.bool true)) 20) <|
 aX 22 (pM 21) <|
 aX 23 (pG 22 false (pM 4)) <|
 aX 24 (pG 22 false (pI 1 23 (cn (.int .i64 0)))) <|
 aX 25 (pG 22 false (pL false 1 24)) <|
 aX 26 (pG 22 false (pB .neq 9 25 (cn (.str [115, 116, 111, 99, 107])))) <|
 aX 27 (pG 22 false (pM 26)) <|
 aX 28 (pG 27 true (pM 4)) <|
 aX 29 (pG 27 true (pI 1 28 (cn (.int .i64 0)))) <|
 aX 30 (pG 27 true (pL false 1 29)) <|
 aX 31 (pG 27 true (pB .neq 9 30 (cn (.str [102, 111, 105, 108])))) <|
 aX 32 (pG 22 false (pP 27 31 (cn (.bool false)))) <|
 aX 33 (pP 22 (cn (.bool true)) 32) <|
 aX 34 (pM 33) <|
 aX 35 (pG 34 false (pM 4)) <|
 aX 36 (pG 34 false (pI 1 35 (cn (.int .i64 1)))) <|
 aX 37 (pG 34 false (pL false 1 36)) <|
 aX 38 (pG 34 false (pLen 9 37)) <|
 aX 39 (pG 34 false (pB .neq 3 38 (cn (.int .i64 16)))) <|
 aX 40 (pP 34 (cn (.bool true)) 39) <|
 aXZ
noncomputable def f74_r3 (c : CallF) : RF := rg [2, 3] <| aX 41 (fun n e M => keep (aBuild (zeroOf cx.P 57) [] M)) <|
 aX0 (pSK 18 2 41) <|
 aX 3 (pM (cn (.int .i64 5))) <|
 aXZ
noncomputable def f74_r4 (c : CallF) : RF := rg [2, 4, 5] <| aX 42 (pM 4) <|
 aX 43 (pI 1 42 (cn (.int .i64 0))) <|
 aX 44 (pL false 1 43) <|
 aX 45 (pB .eql 9 44 (cn (.str [115, 116, 111, 99, 107]))) <|
 aX 46 (fun n e M => keep (aBuild (zeroOf cx.P 57) [(0, 1, (eget e 45))] M)) <|
 aX 5 (fun n e M => gho cx.P true n (oAlloc cx.P n 57 18)) <|
 aX0 (fun n e M => oStoreG cx.P 57 true 18 (eget e 5) (eget e 46) M) <|
 aXZ
noncomputable def f74_r5 (c : CallF) : RF := rg [2, 4, 5, 47] <| aX 47 (pM (cn (.int .i64 0))) <|
 aXZ
noncomputable def f74_r6 (c : CallF) : RF := rg [2, 4, 5, 47, 48] <| aX 48 (pB .lss 3 47 (cn (.int .i64 16))) <|
 aXZ
noncomputable def f74_r7 (c : CallF) : RF := rg [2, 4, 5, 6, 47] <| aX 49 (pM 47) <|
 aX 6 (pM 49) <|
 aXZ
noncomputable def f74_r8 (c : CallF) : RF := rg [2, 4, 5, 6, 47, 63] <| aX 50 (pM 4) <|
 aX 51 (pI 1 50 (cn (.int .i64 1))) <|
 aX 52 (pL false 1 51) <|
 aX 53 (pM 6) <|
 aX 54 (fun n e M => keep (aIndexB (eget e 52) (eget e 53))) <|
 aX 55 (pB .lss 5 54 (cn (.int .u8 97))) <|
 aX 56 (pM 55) <|
 aX 57 (pG 56 false (pM 4)) <|
 aX 58 (pG 56 false (pI 1 57 (cn (.int .i64 1)))) <|
 aX 59 (pG 56 false (pL false 1 58)) <|
 aX 60 (pG 56 false (pM 6)) <|
 aX 61 (pG 56 false (fun n e M => keep (aIndexB (eget e 59) (eget e 60)))) <|
 aX 62 (pG 56 false (pB .gtr 5 61 (cn (.int .u8 103)))) <|
 aX 63 (pP 56 (cn (.bool true)) 62) <|
 aXZ
noncomputable def f74_r9 (c : CallF) : RF := rg [2, 3] <| aX 64 (fun n e M => keep (aBuild (zeroOf cx.P 57) [] M)) <|
 aX0 (pSK 18 2 64) <|
 aX 3 (pM (cn (.int .i64 5))) <|
 aXZ
noncomputable def f74_r10 (c : CallF) : RF := rg [2, 4, 5, 47] <| aX 65 (pM 6) <|
 aX 66 (pM 4) <|
 aX 67 (pI 1 66 (cn (.int .i64 1))) <|
 aX 68 (pL false 1 67) <|
 aX 69 (pM 6) <|
 aX 70 (fun n e M => keep (aIndexB (eget e 68) (eget e 69))) <|
 aX 71 (fun n e M => keep (aConvI .i8 (eget e 70))) <|
 aX 72 (pB .sub 45 71 (cn (.int .i8 100))) <|
 aX 73 (pF 2 16 5) <|
 aX 74 (fun n e M => keep (aIndexP 16 1 (eget e 73) (eget e 65) M)) <|
 aX0 (pS 1 74 72) <|
 aXZ
noncomputable def f74_r11 (c : CallF) : RF := rg [2, 4, 5, 47] <| aX 75 (pB .add 3 47 (cn (.int .i64 1))) <|
 aX 47 (pM 75) <|
 aXZ
noncomputable def f74_r12 (c : CallF) : RF := rg [2, 5, 77, 78, 79] <| aX 76 (pM 4) <|
 aX 77 (fun n e M => keep (aSlice 1 (some (.int .i64 2)) none (eget e 76) M)) <|
 aX 78 (pLen 86 77) <|
 aX 79 (pM (cn (.int .i64 0))) <|
 aXZ
noncomputable def f74_r13 (c : CallF) : RF := rg [2, 5, 77, 78, 79, 80] <| aX 80 (pB .lss 3 79 78) <|
 aXZ
noncomputable def f74_r14 (c : CallF) : RF := rg [2, 5, 8, 77, 78, 79] <| aX 81 (pI 1 77 79) <|
 aX 82 (pL false 1 81) <|
 aX 8 (pM 82) <|
 aXZ
noncomputable def f74_r15 (c : CallF) : RF := rg [2, 5, 8, 77, 78, 79, 84] <| aX 83 (pM 8) <|
 aX 84 (pB .eql 9 83 (cn (.str []))) <|
 aXZ
noncomputable def f74_r16 (c : CallF) : RF := rg [2, 3] <| aX 85 (fun n e M => keep (aBuild (zeroOf cx.P 57) [] M)) <|
 aX0 (pSK 18 2 85) <|
 aX 3 (pM (cn (.int .i64 5))) <|
 aXZ
noncomputable def f74_r17 (c : CallF) : RF := rg [2, 5, 8, 9, 77, 78, 79] <| aX 86 (pM 8) <|
 aX 87 (fun n e M => keep (aIndexB (eget e 86) (.int .i64 0))) <|
 aX 88 (pK c false 120 [(cn (.str [100, 115, 108, 118, 99, 109])), 87]) <|
 aX 9 (pM 88) <|
 aXZ
noncomputable def f74_r18 (c : CallF) : RF := rg [2, 5, 9, 10, 11, 77, 78, 79] <| aX 90 (pM 8) <|
 aX 91 (fun n e M => keep (aSliceS (some (.int .i64 1)) none (eget e 90))) <|
 aX 92 (pK c false 121 [91]) <|
 aX 89 (pM 92) <|
 aX 93 (pE 0 89) <|
 aX 94 (pE 1 89) <|
 aX 10 (pM 93) <|
 aX 11 (pM 94) <|
 aXZ
noncomputable def f74_r19 (c : CallF) : RF := rg [2, 5, 9, 10, 77, 78, 79, 104] <| aX 95 (pM 9) <|
 aX 96 (pB .lss 3 95 (cn (.int .i64 0))) <|
 aX 97 (pM 96) <|
 aX 98 (pG 97 false (pM 11)) <|
 aX 99 (pG 97 false (pU .not 98)) <|
 aX 100 (pP 97 (cn (.bool true)) 99) <|
 aX 101 (pM 100) <|
 aX 102 (pG 101 false (pM 10)) <|
 aX 103 (pG 101 false (pB .gtr 2 102 (cn (.int .i64 200)))) <|
 aX 104 (pP 101 (cn (.bool true)) 103) <|
 aXZ
noncomputable def f74_r20 (c : CallF) : RF := rg [2, 3] <| aX 105 (fun n e M => keep (aBuild (zeroOf cx.P 57) [] M)) <|
 aX0 (pSK 18 2 105) <|
 aX 3 (pM (cn (.int .i64 5))) <|
 aXZ
noncomputable def f74_r21 (c : CallF) : RF := rg [2, 5, 77, 78, 79] <| aX 106 (pF 1 1 5) <|
 aX 107 (pL false 1 106) <|
 aX 108 (pM 9) <|
 aX 109 (fun n e M => keep (aConvI .i8 (eget e 108))) <|
 aX 110 (pM 10) <|
 aX 111 (fun n e M => keep (aConvI .i16 (eget e 110))) <|
 aX 112 (fun n e M => keep (aBuild (zeroOf cx.P 156) [(0, 1, (eget e 109)), (1, 1, (eget e 111))] M)) <|
 aX 113 (fun n e M => keep (aLitI 156 2 [(eget e 112)] M)) <|
 aX 114 (fun n e M => aAppO n 156 2 4 (eget e 107) (eget e 113) M) <|
 aX 115 (pF 1 1 5) <|
 aX0 (pSK 1 115 114) <|
 aXZ
noncomputable def f74_r22 (c : CallF) : RF := rg [2, 5, 77, 78, 79] <| aX 116 (pB .add 3 79 (cn (.int .i64 1))) <|
 aX 79 (pM 116) <|
 aXZ
noncomputable def f74_r23 (c : CallF) : RF := rg [2, 5, 119] <| aX 117 (pL true 18 5) <|
 aX 118 (pK c false 106 [117]) <|
 aX 119 (pU .not 118) <|
 aXZ
noncomputable def f74_r24 (c : CallF) : RF := rg [2, 3] <| aX 120 (fun n e M => keep (aBuild (zeroOf cx.P 57) [] M)) <|
 aX0 (pSK 18 2 120) <|
 aX 3 (pM (cn (.int .i64 5))) <|
 aXZ
noncomputable def f74_r25 (c : CallF) : RF := rg [2, 3] <| aX 121 (pL true 18 5) <|
 aX0 (pSK 18 2 121) <|
 aX 3 (pM (cn (.int .i64 0))) <|
 aXZ
noncomputable def f74_l6 (c : CallF) (k : Nat) : St :=
 (bSeq (bReg (f74_r6 c))
 (bSeq (bCond (.tmp 48) (bEx .nrm) (bEx (.ext 0)))
 (bSeq (bBlock 1 (bSeq (bReg (f74_r7 c))
 (bSeq (bSeq (bReg (f74_r8 c))
 (bCond (.tmp 63) (bSeq (bReg (f74_r9 c))
 (bEx .ret)) (bEx .nrm)))
 (bReg (f74_r10 c)))))
 (bReg (f74_r11 c)))))
noncomputable def f74_l13 (c : CallF) (k : Nat) : St :=
 (bSeq (bReg (f74_r13 c))
 (bSeq (bCond (.tmp 80) (bEx .nrm) (bEx (.ext 2)))
 (bSeq (bBlock 3 (bSeq (bReg (f74_r14 c))
 (bSeq (bSeq (bReg (f74_r15 c))
 (bCond (.tmp 84) (bSeq (bReg (f74_r16 c))
 (bEx .ret)) (bEx .nrm)))
 (bSeq (bReg (f74_r17 c))
 (bSeq (bReg (f74_r18 c))
 (bSeq (bSeq (bReg (f74_r19 c))
 (bCond (.tmp 104) (bSeq (bReg (f74_r20 c))
 (bEx .ret)) (bEx .nrm)))
 (bReg (f74_r21 c))))))))
 (bReg (f74_r22 c)))))
noncomputable def f74 (c : CallF) (k : Nat) : St :=
 (bSeq (bReg (f74_r0 c))
 (bSeq (bReg (f74_r1 c))
 (bSeq (bSeq (bReg (f74_r2 c))
 (bCond (.tmp 40) (bSeq (bReg (f74_r3 c))
 (bEx .ret)) (bEx .nrm)))
 (bSeq (bReg (f74_r4 c))
 (bSeq (bSeq (bReg (f74_r5 c))
 (bBlock 0 (bLoop [2, 4, 5, 47] (f74_l6 c k) k)))
 (bSeq (bSeq (bReg (f74_r12 c))
 (bBlock 2 (bLoop [2, 5, 77, 78, 79] (f74_l13 c k) k)))
 (bSeq (bSeq (bReg (f74_r23 c))
 (bCond (.tmp 119) (bSeq (bReg (f74_r24 c))
 (bEx .ret)) (bEx .nrm)))
 (bSeq (bReg (f74_r25 c))
 (bEx .ret)))))))))
theorem f74_eq (c : CallF) (k : Nat) : exec cx c 122 f74_an k (Tryd.f74.body.getD .skip) = f74 c k := by kernel_rfl
/-! ### f75: loop.example/g01263/impl.unhex -/
def f75_an : Ann := ⟨[(0, r0 [0]), (1, r0 [0, 4]), (2, r0 [0, 4, 8, 9]), (3, r0 [0, 4, 8, 9, 10]), (4, r0 [0, 4, 5, 8, 9]), (5, r0 [0, 4, 6, 8, 9]), (6, r0 [0, 4, 6, 8, 9, 17]), (7, r0 [2, 3]), (8, r0 [0, 4, 8, 9]), (9, r0 [0, 4, 8, 9]), (10, r0 [2, 3])], [(3, [0, 4, 8, 9])]⟩
noncomputable def f75_r0 (c : CallF) : RF := rg [0] <| aX 2 (pM (cn (.int .u32 0))) <|
 aX 3 (pM (cn (.bool false))) <|
 aXZ
noncomputable def f75_r1 (c : CallF) : RF := rg [0, 4] <| aX 4 (pM (cn (.int .u32 0))) <|
 aXZ
noncomputable def f75_r2 (c : CallF) : RF := rg [0, 4, 8, 9] <| aX 7 (pM 0) <|
 aX 8 (pLen 9 7) <|
 aX 9 (pM (cn (.int .i64 0))) <|
 aXZ
noncomputable def f75_r3 (c : CallF) : RF := rg [0, 4, 8, 9, 10] <| aX 10 (pB .lss 3 9 8) <|
 aXZ
noncomputable def f75_r4 (c : CallF) : RF := rg [0, 4, 5, 8, 9] <| aX 11 (pM 9) <|
 aX 5 (pM 11) <|
 aXZ
noncomputable def f75_r5 (c : CallF) : RF := rg [0, 4, 6, 8, 9] <| aX 12 (pM 0) <|
 aX 13 (pM 5) <|
 aX 14 (fun n e M => keep (aIndexB (eget e 12) (eget e 13))) <|
 aX 15 (pK c false 120 [(cn (.str [48, 49, 50, 51, 52, 53, 54, 55, 56, 57, 97, 98, 99, 100, 101, 102])), 14]) <|
 aX 6 (pM 15) <|
 aXZ
noncomputable def f75_r6 (c : CallF) : RF := rg [0, 4, 6, 8, 9, 17] <| aX 16 (pM 6) <|
 aX 17 (pB .lss 3 16 (cn (.int .i64 0))) <|
 aXZ
noncomputable def f75_r7 (c : CallF) : RF := rg [2, 3] <| aX 2 (pM (cn (.int .u32 0))) <|
 aX 3 (pM (cn (.bool false))) <|
 aXZ
noncomputable def f75_r8 (c : CallF) : RF := rg [0, 4, 8, 9] <| aX 18 (pM 4) <|
 aX 19 (pB .shl 105 18 (cn (.int .u64 4))) <|
 aX 20 (pM 6) <|
 aX 21 (fun n e M => keep (aConvI .u32 (eget e 20))) <|
 aX 22 (pB .or 105 19 21) <|
 aX 4 (pM 22) <|
 aXZ
noncomputable def f75_r9 (c : CallF) : RF := rg [0, 4, 8, 9] <| aX 23 (pB .add 3 9 (cn (.int .i64 1))) <|
 aX 9 (pM 23) <|
 aXZ
noncomputable def f75_r10 (c : CallF) : RF := rg [2, 3] <| aX 24 (pM 4) <|
 aX 25 (pM 0) <|
 aX 26 (pLen 9 25) <|
 aX 27 (pB .eql 3 26 (cn (.int .i64 8))) <|
 aX 2 (pM 24) <|
 aX 3 (pM 27) <|
 aXZ
noncomputable def f75_l3 (c : CallF) (k : Nat) : St :=
 (bSeq (bReg (f75_r3 c))
 (bSeq (bCond (.tmp 10) (bEx .nrm) (bEx (.ext 0)))
 (bSeq (bBlock 1 (bSeq (bReg (f75_r4 c))
 (bSeq (bReg (f75_r5 c))
 (bSeq (bSeq (bReg (f75_r6 c))
 (bCond (.tmp 17) (bSeq (bReg (f75_r7 c))
 (bEx .ret)) (bEx .nrm)))
 (bReg (f75_r8 c))))))
 (bReg (f75_r9 c)))))
noncomputable def f75 (c : CallF) (k : Nat) : St :=
 (bSeq (bReg (f75_r0 c))
 (bSeq (bReg (f75_r1 c))
 (bSeq (bSeq (bReg (f75_r2 c))
 (bBlock 0 (bLoop [0, 4, 8, 9] (f75_l3 c k) k)))
 (bSeq (bReg (f75_r10 c))
 (bEx .ret)))))
theorem f75_eq (c : CallF) (k : Nat) : exec cx c 28 f75_an k (Tryd.f75.body.getD .skip) = f75 c k := by kernel_rfl
/-! ### f76: loop.example/g01263/laws.markHalf -/
def f76_an : Ann := ⟨[(0, ⟨[0], [], [], [], [1, 2]⟩), (1, r0 [1]), (2, r0 [4])], []⟩
noncomputable def f76_r0 (c : CallF) : RF := rg [1, 2] <| aX 2 (fun n e M => aBoxO n 57 18 (eget e 0) M) <|
 aX 4 (pM (cn (.int .i64 0))) <|
 aXZ
noncomputable def f76_r1 (c : CallF) : RF := rg [1] <| aX 5 (pF 1 1 2) <|
 aX 6 (pL false 1 5) <|
 aX 7 (pM 1) <|
 aX 8 (pK c false 122 [6, 7]) <|
 aX 1 (pM 8) <|
 aXZ
noncomputable def f76_r2 (c : CallF) : RF := rg [4] <| aX 9 (pM 1) <|
 aX 4 (pM 9) <|
 aXZ
noncomputable def f76 (c : CallF) (k : Nat) : St :=
 (bSeq (bReg (f76_r0 c))
 (bSeq (bReg (f76_r1 c))
 (bSeq (bReg (f76_r2 c))
 (bEx .ret))))
theorem f76_eq (c : CallF) (k : Nat) : exec cx c 10 f76_an k (Tryd.f76.body.getD .skip) = f76 c k := by kernel_rfl
/-! ### f77: loop.example/g01263/laws.markMarkS -/
def f77_an : Ann := ⟨[(0, r0 [0, 1]), (1, r0 [0, 1, 5]), (2, r0 [0, 1, 5, 9]), (3, r0 [0, 1, 5]), (4, r0 [0, 1, 5]), (5, r0 [0, 1, 5]), (6, r0 [0, 1, 5]), (7, r0 [0, 1, 5]), (8, r0 [4])], [(2, [0, 1, 5])]⟩
noncomputable def f77_r0 (c : CallF) : RF := rg [0, 1] <| aX 4 (pM (cn (.int .i64 0))) <|
 aXZ
noncomputable def f77_r1 (c : CallF) : RF := rg [0, 1, 5] <| aX 5 (pM (cn (.int .i64 0))) <|
 aXZ
noncomputable def f77_r2 (c : CallF) : RF := rg [0, 1, 5, 9] <| aX 6 (pM 5) <|
 aX 7 (pM 0) <|
 aX 8 (pLen 58 7) <|
 aX 9 (pB .lss 3 6 8) <|
 aXZ
noncomputable def f77_r3 (c : CallF) : RF := rg [0, 1, 5] <| aX 10 (pM 5) <|
 aX 11 (pB .add 3 10 (cn (.int .i64 1))) <|
 aX 5 (pM 11) <|
 aXZ
noncomputable def f77_r4 (c : CallF) : RF := rg [0, 1, 5] <| aX 12 (pM 0) <|
 aX 13 (pM 5) <|
 aX 14 (pM 1) <|
 aX 15 (pK c false 123 [14]) <|
 aX 16 (pI 2 12 13) <|
 aX 17 (pF 0 1 16) <|
 aX0 (pS 1 17 15) <|
 aXZ
noncomputable def f77_r5 (c : CallF) : RF := rg [0, 1, 5] <| aX 18 (pM 1) <|
 aX 19 (pB .add 3 18 (cn (.int .i64 1))) <|
 aX 1 (pM 19) <|
 aXZ
noncomputable def f77_r6 (c : CallF) : RF := rg [0, 1, 5] <| aX 20 (pM 0) <|
 aX 21 (pM 5) <|
 aX 22 (pM 1) <|
 aX 23 (fun n e M => keep (aConvI .u32 (eget e 22))) <|
 aX 24 (pI 2 20 21) <|
 aX 25 (pF 1 1 24) <|
 aX0 (pS 1 25 23) <|
 aXZ
noncomputable def f77_r7 (c : CallF) : RF := rg [0, 1, 5] <| aX 26 (pM 1) <|
 aX 27 (pB .add 3 26 (cn (.int .i64 1))) <|
 aX 1 (pM 27) <|
 aXZ
noncomputable def f77_r8 (c : CallF) : RF := rg [4] <| aX 28 (pM 1) <|
 aX 4 (pM 28) <|
 aXZ
noncomputable def f77_l2 (c : CallF) (k : Nat) : St :=
 (bSeq (bSeq (bReg (f77_r2 c))
 (bCond (.tmp 9) (bEx .nrm) (bEx (.ext 0))))
 (bSeq (bBlock 1 (bSeq (bReg (f77_r4 c))
 (bSeq (bReg (f77_r5 c))
 (bSeq (bReg (f77_r6 c))
 (bReg (f77_r7 c))))))
 (bReg (f77_r3 c))))
noncomputable def f77 (c : CallF) (k : Nat) : St :=
 (bSeq (bReg (f77_r0 c))
 (bSeq (bSeq (bReg (f77_r1 c))
 (bBlock 0 (bLoop [0, 1, 5] (f77_l2 c k) k)))
 (bSeq (bReg (f77_r8 c))
 (bEx .ret))))
theorem f77_eq (c : CallF) (k : Nat) : exec cx c 29 f77_an k (Tryd.f77.body.getD .skip) = f77 c k := by kernel_rfl
/-! ### f78: loop.example/g01263/laws.heldHalf -/
def f78_an : Ann := ⟨[(0, r0 [1, 2]), (1, r0 [1]), (2, r0 [1, 10]), (3, r0 [4]), (4, r0 [4])], []⟩
noncomputable def f78_r0 (c : CallF) : RF := rg [1, 2] <| aX 2 (pBox 18 0) <|
 aX 4 (pM (cn (.int .i64 0))) <|
 aXZ
noncomputable def f78_r1 (c : CallF) : RF := rg [1] <| aX 5 (pF 1 1 2) <|
 aX 6 (pL false 1 5) <|
 aX 7 (pM 1) <|
 aX 8 (pK c false 124 [6, 7]) <|
 aX 1 (pM 8) <|
 aXZ
noncomputable def f78_r2 (c : CallF) : RF := rg [1, 10] <| aX 9 (pM 1) <|
 aX 10 (pB .lss 3 9 (cn (.int .i64 0))) <|
 aXZ
noncomputable def f78_r3 (c : CallF) : RF := rg [4] <| aX 4 (pM (cn (.int .i64 (-1)))) <|
 aXZ
noncomputable def f78_r4 (c : CallF) : RF := rg [4] <| aX 11 (pM 1) <|
 aX 4 (pM 11) <|
 aXZ
noncomputable def f78 (c : CallF) (k : Nat) : St :=
 (bSeq (bReg (f78_r0 c))
 (bSeq (bReg (f78_r1 c))
 (bSeq (bSeq (bReg (f78_r2 c))
 (bCond (.tmp 10) (bSeq (bReg (f78_r3 c))
 (bEx .ret)) (bEx .nrm)))
 (bSeq (bReg (f78_r4 c))
 (bEx .ret)))))
theorem f78_eq (c : CallF) (k : Nat) : exec cx c 12 f78_an k (Tryd.f78.body.getD .skip) = f78 c k := by kernel_rfl
/-! ### f79: loop.example/g01263/laws.heldMarkS -/
def f79_an : Ann := ⟨[(0, r0 [0, 1]), (1, r0 [0, 1, 5]), (2, r0 [0, 1, 5, 9]), (3, r0 [0, 1, 5]), (4, r0 [0, 1, 5, 19]), (5, r0 [4]), (6, r0 [0, 1, 5]), (7, r0 [0, 1, 5, 29]), (8, r0 [4]), (9, r0 [0, 1, 5]), (10, r0 [4])], [(2, [0, 1, 5])]⟩
noncomputable def f79_r0 (c : CallF) : RF := rg [0, 1] <| aX 4 (pM (cn (.int .i64 0))) <|
 aXZ
noncomputable def f79_r1 (c : CallF) : RF := rg [0, 1, 5] <| aX 5 (pM (cn (.int .i64 0))) <|
 aXZ
noncomputable def f79_r2 (c : CallF) : RF := rg [0, 1, 5, 9] <| aX 6 (pM 5) <|
 aX 7 (pM 0) <|
 aX 8 (pLen 58 7) <|
 aX 9 (pB .lss 3 6 8) <|
 aXZ
noncomputable def f79_r3 (c : CallF) : RF := rg [0, 1, 5] <| aX 10 (pM 5) <|
 aX 11 (pB .add 3 10 (cn (.int .i64 1))) <|
 aX 5 (pM 11) <|
 aXZ
noncomputable def f79_r4 (c : CallF) : RF := rgD [0, 1, 5, 19] (aY 12 (pM 0) <|
 aY 13 (pM 5) <|
 aY 14 (pI 2 12 13) <|
 aY 15 (pF 0 1 14) <|
 aY 16 (pL false 1 15) <|
 aY 17 (pM 1) <|
 aY 18 (pK c false 123 [17]) <|
 aY 19 (pB .neq 9 16 18) <|
 aYZ)
 (aXZ)
noncomputable def f79_r5 (c : CallF) : RF := rg [4] <| aX 4 (pM (cn (.int .i64 (-1)))) <|
 aXZ
noncomputable def f79_r6 (c : CallF) : RF := rg [0, 1, 5] <| aX 20 (pM 1) <|
 aX 21 (pB .add 3 20 (cn (.int .i64 1))) <|
 aX 1 (pM 21) <|
 aXZ
noncomputable def f79_r7 (c : CallF) : RF := rg [0, 1, 5, 29] <| aX 22 (pM 0) <|
 aX 23 (pM 5) <|
 aX 24 (pI 2 22 23) <|
 aX 25 (pF 1 1 24) <|
 aX 26 (pL false 1 25) <|
 aX 27 (pM 1) <|
 aX 28 (fun n e M => keep (aConvI .u32 (eget e 27))) <|
 aX 29 (pB .neq 105 26 28) <|
 aXZ
noncomputable def f79_r8 (c : CallF) : RF := rg [4] <| aX 4 (pM (cn (.int .i64 (-1)))) <|
 aXZ
noncomputable def f79_r9 (c : CallF) : RF := rg [0, 1, 5] <| aX 30 (pM 1) <|
 aX 31 (pB .add 3 30 (cn (.int .i64 1))) <|
 aX 1 (pM 31) <|
 aXZ
noncomputable def f79_r10 (c : CallF) : RF := rg [4] <| aX 32 (pM 1) <|
 aX 4 (pM 32) <|
 aXZ
noncomputable def f79_l2 (c : CallF) (k : Nat) : St :=
 (bSeq (bSeq (bReg (f79_r2 c))
 (bCond (.tmp 9) (bEx .nrm) (bEx (.ext 0))))
 (bSeq (bBlock 1 (bSeq (bSeq (bReg (f79_r4 c))
 (bCond (.tmp 19) (bSeq (bReg (f79_r5 c))
 (bEx .ret)) (bEx .nrm)))
 (bSeq (bReg (f79_r6 c))
 (bSeq (bSeq (bReg (f79_r7 c))
 (bCond (.tmp 29) (bSeq (bReg (f79_r8 c))
 (bEx .ret)) (bEx .nrm)))
 (bReg (f79_r9 c))))))
 (bReg (f79_r3 c))))
noncomputable def f79 (c : CallF) (k : Nat) : St :=
 (bSeq (bReg (f79_r0 c))
 (bSeq (bSeq (bReg (f79_r1 c))
 (bBlock 0 (bLoop [0, 1, 5] (f79_l2 c k) k)))
 (bSeq (bReg (f79_r10 c))
 (bEx .ret))))
theorem f79_eq (c : CallF) (k : Nat) : exec cx c 33 f79_an k (Tryd.f79.body.getD .skip) = f79 c k := by kernel_rfl
/-! ### f84: loop.example/g01263/spec.l00In -/
def f84_an : Ann := ⟨[(0, r0 [0, 1, 2]), (1, r0 [6])], []⟩
noncomputable def f84_r0 (c : CallF) : RF := rg [0, 1, 2] <| aX 6 (pM (cn (.bool false))) <|
 aXZ
noncomputable def f84_r1 (c : CallF) : RF := rg [6] <| aX 7 (pM 0) <|
 aX 8 (pM 1) <|
 aX 9 (pB .geq 2 7 8) <|
 aX 10 (pM 9) <|
 aX 11 (pG 10 true (pM 0)) <|
 aX 12 (pG 10 true (pM 2)) <|
 aX 13 (pG 10 true (pB .leq 2 11 12)) <|
 aX 14 (pP 10 13 (cn (.bool false))) <|
 aX 6 (pM 14) <|
 aXZ
noncomputable def f84 (c : CallF) (k : Nat) : St :=
 (bSeq (bReg (f84_r0 c))
 (bSeq (bReg (f84_r1 c))
 (bEx .ret)))
theorem f84_eq (c : CallF) (k : Nat) : exec cx c 15 f84_an k (Tryd.f84.body.getD .skip) = f84 c k := by kernel_rfl
/-! ### f87: loop.example/g01263/impl.isLetters -/
def f87_an : Ann := ⟨[(0, r0 [0, 1]), (1, r0 [0, 1, 7, 8]), (2, r0 [0, 1, 7, 8, 9]), (3, r0 [0, 1, 5, 7, 8]), (4, r0 [0, 1, 7, 8, 20]), (5, r0 [4]), (6, r0 [0, 1, 7, 8]), (7, r0 [4])], [(2, [0, 1, 7, 8])]⟩
noncomputable def f87_r0 (c : CallF) : RF := rg [0, 1] <| aX 4 (pM (cn (.bool false))) <|
 aXZ
noncomputable def f87_r1 (c : CallF) : RF := rg [0, 1, 7, 8] <| aX 6 (pM 0) <|
 aX 7 (pLen 9 6) <|
 aX 8 (pM (cn (.int .i64 0))) <|
 aXZ
noncomputable def f87_r2 (c : CallF) : RF := rg [0, 1, 7, 8, 9] <| aX 9 (pB .lss 3 8 7) <|
 aXZ
noncomputable def f87_r3 (c : CallF) : RF := rg [0, 1, 5, 7, 8] <| aX 10 (pM 8) <|
 aX 5 (pM 10) <|
 aXZ
noncomputable def f87_r4 (c : CallF) : RF := rg [0, 1, 7, 8, 20] <| aX 11 (pM 0) <|
 aX 12 (pM 5) <|
 aX 13 (fun n e M => keep (aIndexB (eget e 11) (eget e 12))) <|
 aX 14 (pB .lss 5 13 (cn (.int .u8 97))) <|
 aX 15 (pM 14) <|
 aX 16 (pG 15 false (pM 0)) <|
 aX 17 (pG 15 false (pM 5)) <|
 aX 18 (pG 15 false (fun n e M => keep (aIndexB (eget e 16) (eget e 17)))) <|
 aX 19 (pG 15 false (pB .gtr 5 18 (cn (.int .u8 122)))) <|
 aX 20 (pP 15 (cn (.bool true)) 19) <|
 aXZ
noncomputable def f87_r5 (c : CallF) : RF := rg [4] <| aX 4 (pM (cn (.bool false))) <|
 aXZ
noncomputable def f87_r6 (c : CallF) : RF := rg [0, 1, 7, 8] <| aX 21 (pB .add 3 8 (cn (.int .i64 1))) <|
 aX 8 (pM 21) <|
 aXZ
noncomputable def f87_r7 (c : CallF) : RF := rg [4] <| aX 22 (pM 0) <|
 aX 23 (pLen 9 22) <|
 aX 24 (pB .geq 3 23 (cn (.int .i64 1))) <|
 aX 25 (pM 24) <|
 aX 26 (pG 25 true (pM 0)) <|
 aX 27 (pG 25 true (pLen 9 26)) <|
 aX 28 (pG 25 true (pM 1)) <|
 aX 29 (pG 25 true (pB .leq 3 27 28)) <|
 aX 30 (pP 25 29 (cn (.bool false))) <|
 aX 4 (pM 30) <|
 aXZ
noncomputable def f87_l2 (c : CallF) (k : Nat) : St :=
 (bSeq (bReg (f87_r2 c))
 (bSeq (bCond (.tmp 9) (bEx .nrm) (bEx (.ext 0)))
 (bSeq (bBlock 1 (bSeq (bReg (f87_r3 c))
 (bSeq (bReg (f87_r4 c))
 (bCond (.tmp 20) (bSeq (bReg (f87_r5 c))
 (bEx .ret)) (bEx .nrm)))))
 (bReg (f87_r6 c)))))
noncomputable def f87 (c : CallF) (k : Nat) : St :=
 (bSeq (bReg (f87_r0 c))
 (bSeq (bSeq (bReg (f87_r1 c))
 (bBlock 0 (bLoop [0, 1, 7, 8] (f87_l2 c k) k)))
 (bSeq (bReg (f87_r7 c))
 (bEx .ret))))
theorem f87_eq (c : CallF) (k : Nat) : exec cx c 31 f87_an k (Tryd.f87.body.getD .skip) = f87 c k := by kernel_rfl
/-! ### f98: loop.example/g01263/spec.l06Name -/
def f98_an : Ann := ⟨[(0, r0 [0]), (1, r0 [0, 3]), (2, r0 [0, 3, 7]), (3, r0 [0, 3]), (4, r0 [0, 3, 19]), (5, r0 [2]), (6, r0 [2])], [(2, [0, 3])]⟩
noncomputable def f98_r0 (c : CallF) : RF := rg [0] <| aX 2 (pM (cn (.bool false))) <|
 aXZ
noncomputable def f98_r1 (c : CallF) : RF := rg [0, 3] <| aX 3 (pM (cn (.int .i64 0))) <|
 aXZ
noncomputable def f98_r2 (c : CallF) : RF := rg [0, 3, 7] <| aX 4 (pM 3) <|
 aX 5 (pM 0) <|
 aX 6 (pLen 9 5) <|
 aX 7 (pB .lss 3 4 6) <|
 aXZ
noncomputable def f98_r3 (c : CallF) : RF := rg [0, 3] <| aX 8 (pM 3) <|
 aX 9 (pB .add 3 8 (cn (.int .i64 1))) <|
 aX 3 (pM 9) <|
 aXZ
noncomputable def f98_r4 (c : CallF) : RF := rg [0, 3, 19] <| aX 10 (pM 0) <|
 aX 11 (pM 3) <|
 aX 12 (fun n e M => keep (aIndexB (eget e 10) (eget e 11))) <|
 aX 13 (pB .lss 5 12 (cn (.int .u8 97))) <|
 aX 14 (pM 13) <|
 aX 15 (pG 14 false (pM 0)) <|
 aX 16 (pG 14 false (pM 3)) <|
 aX 17 (pG 14 false (fun n e M => keep (aIndexB (eget e 15) (eget e 16)))) <|
 aX 18 (pG 14 false (pB .gtr 5 17 (cn (.int .u8 122)))) <|
 aX 19 (pP 14 (cn (.bool true)) 18) <|
 aXZ
noncomputable def f98_r5 (c : CallF) : RF := rg [2] <| aX 2 (pM (cn (.bool false))) <|
 aXZ
noncomputable def f98_r6 (c : CallF) : RF := rg [2] <| aX 20 (pM 0) <|
 aX 21 (pB .neq 9 20 (cn (.str []))) <|
 aX 22 (pM 21) <|
 aX 23 (pG 22 true (pM 0)) <|
 aX 24 (pG 22 true (pLen 9 23)) <|
 aX 25 (pG 22 true (pB .leq 3 24 (cn (.int .i64 12)))) <|
 aX 26 (pP 22 25 (cn (.bool false))) <|
 aX 2 (pM 26) <|
 aXZ
noncomputable def f98_l2 (c : CallF) (k : Nat) : St :=
 (bSeq (bSeq (bReg (f98_r2 c))
 (bCond (.tmp 7) (bEx .nrm) (bEx (.ext 0))))
 (bSeq (bBlock 1 (bSeq (bReg (f98_r4 c))
 (bCond (.tmp 19) (bSeq (bReg (f98_r5 c))
 (bEx .ret)) (bEx .nrm))))
 (bReg (f98_r3 c))))
noncomputable def f98 (c : CallF) (k : Nat) : St :=
 (bSeq (bReg (f98_r0 c))
 (bSeq (bSeq (bReg (f98_r1 c))
 (bBlock 0 (bLoop [0, 3] (f98_l2 c k) k)))
 (bSeq (bReg (f98_r6 c))
 (bEx .ret))))
theorem f98_eq (c : CallF) (k : Nat) : exec cx c 27 f98_an k (Tryd.f98.body.getD .skip) = f98 c k := by kernel_rfl
/-! ### f99: loop.example/g01263/spec.l01Ok -/
def f99_an : Ann := ⟨[(0, r0 [0]), (1, r0 [2])], []⟩
noncomputable def f99_r0 (c : CallF) : RF := rg [0] <| aX 2 (pM (cn (.bool false))) <|
 aXZ
noncomputable def f99_r1 (c : CallF) : RF := rg [2] <| aX 3 (pM 0) <|
 aX 4 (pN 3) <|
 aX 5 (pF 1 1 4) <|
 aX 6 (pL false 1 5) <|
 aX 7 (pK c false 142 [6]) <|
 aX 8 (pM 7) <|
 aX 9 (pG 8 true (pM 0)) <|
 aX 10 (pG 8 true (pN 9)) <|
 aX 11 (pG 8 true (pF 2 16 10)) <|
 aX 12 (pG 8 true (pL true 16 11)) <|
 aX 13 (pG 8 true (pK c false 143 [12])) <|
 aX 14 (pP 8 13 (cn (.bool false))) <|
 aX 2 (pM 14) <|
 aXZ
noncomputable def f99 (c : CallF) (k : Nat) : St :=
 (bSeq (bReg (f99_r0 c))
 (bSeq (bReg (f99_r1 c))
 (bEx .ret)))
theorem f99_eq (c : CallF) (k : Nat) : exec cx c 15 f99_an k (Tryd.f99.body.getD .skip) = f99 c k := by kernel_rfl
/-! ### f105: loop.example/g01263/impl.isName -/
def f105_an : Ann := ⟨[(0, r0 [0]), (1, r0 [2])], []⟩
noncomputable def f105_r0 (c : CallF) : RF := rg [0] <| aX 2 (pM (cn (.bool false))) <|
 aXZ
noncomputable def f105_r1 (c : CallF) : RF := rg [2] <| aX 3 (pM 0) <|
 aX 4 (pK c false 87 [3, (cn (.int .i64 12))]) <|
 aX 2 (pM 4) <|
 aXZ
noncomputable def f105 (c : CallF) (k : Nat) : St :=
 (bSeq (bReg (f105_r0 c))
 (bSeq (bReg (f105_r1 c))
 (bEx .ret)))
theorem f105_eq (c : CallF) (k : Nat) : exec cx c 5 f105_an k (Tryd.f105.body.getD .skip) = f105 c k := by kernel_rfl
/-! ### f106: loop.example/g01263/impl.ValidHalf -/
def f106_an : Ann := ⟨[(0, r0 [1]), (1, r0 [1, 14]), (2, r0 [2]), (3, r0 [1, 16, 17, 18]), (4, r0 [1, 16, 17, 18, 19]), (5, r0 [1, 3, 4, 16, 17, 18]), (6, r0 [1, 3, 4, 16, 17, 18, 37]), (7, r0 [2]), (8, r0 [1, 16, 17, 18, 64]), (9, r0 [2]), (10, r0 [1, 16, 17, 18]), (11, r0 [2])], [(4, [1, 16, 17, 18])]⟩
noncomputable def f106_r0 (c : CallF) : RF := rg [1] <| aX 1 (pBox 18 0) <|
 aX 2 (pM (cn (.bool false))) <|
 aXZ
noncomputable def f106_r1 (c : CallF) : RF := rg [1, 14] <| aX 5 (pF 1 1 1) <|
 aX 6 (pL false 1 5) <|
 aX 7 (pLen 54 6) <|
 aX 8 (pB .gtr 3 7 (cn (.int .i64 60))) <|
 aX 9 (pM 8) <|
 aX 10 (pG 9 false (pF 2 16 1)) <|
 aX 11 (pG 9 false (pL true 16 10)) <|
 aX 12 (pG 9 false (pK c false 146 [11])) <|
 aX 13 (pG 9 false (pU .not 12)) <|
 aX 14 (pP 9 (cn (.bool true)) 13) <|
 aXZ
noncomputable def f106_r2 (c : CallF) : RF := rg [2] <| aX 2 (pM (cn (.bool false))) <|
 aXZ
noncomputable def f106_r3 (c : CallF) : RF := rg [1, 16, 17, 18] <| aX 15 (pF 1 1 1) <|
 aX 16 (pL false 1 15) <|
 aX 17 (pLen 54 16) <|
 aX 18 (pM (cn (.int .i64 0))) <|
 aXZ
noncomputable def f106_r4 (c : CallF) : RF := rg [1, 16, 17, 18, 19] <| aX 19 (pB .lss 3 18 17) <|
 aXZ
noncomputable def f106_r5 (c : CallF) : RF := rg [1, 3, 4, 16, 17, 18] <| aX 20 (pM 18) <|
 aX 21 (pI 2 16 18) <|
 aX 22 (pL true 2 21) <|
 aX 4 (pAl 156 2) <|
 aX 3 (pM 20) <|
 aX0 (pS 2 4 22) <|
 aXZ
noncomputable def f106_r6 (c : CallF) : RF := rg [1, 3, 4, 16, 17, 18, 37] <| aX 23 (pF 0 1 4) <|
 aX 24 (pL false 1 23) <|
 aX 25 (fun n e M => keep (aConvI .i64 (eget e 24))) <|
 aX 26 (pK c false 147 [25]) <|
 aX 27 (pU .not 26) <|
 aX 28 (pM 27) <|
 aX 29 (pG 28 false (pF 1 1 4)) <|
 aX 30 (pG 28 false (pL false 1 29)) <|
 aX 31 (pG 28 false (pB .lss 154 30 (cn (.int .i16 0)))) <|
 aX 32 (pP 28 (cn (.bool true)) 31) <|
 aX 33 (pM 32) <|
 aX 34 (pG 33 false (pL true 2 4)) <|
 aX 35 (pG 33 false (pK c false 148 [34])) <|
 aX 36 (pG 33 false (pB .gtr 2 35 (cn (.int .i64 200)))) <|
 aX 37 (pP 33 (cn (.bool true)) 36) <|
 aXZ
noncomputable def f106_r7 (c : CallF) : RF := rg [2] <| aX 2 (pM (cn (.bool false))) <|
 aXZ
noncomputable def f106_r8 (c : CallF) : RF := rgD [1, 16, 17, 18, 64] (aY 38 (pM 3) <|
 aY 39 (pB .gtr 3 38 (cn (.int .i64 0))) <|
 aY 40 (pM 39) <|
 aY 41 (pG 40 true (pF 1 1 4)) <|
 aY 42 (pG 40 true (pL false 1 41)) <|
 aY 43 (pG 40 true (fun n e M => keep (aConvI .i64 (eget e 42)))) <|
 aY 44 (pG 40 true (pF 1 1 1)) <|
 aY 45 (pG 40 true (pL false 1 44)) <|
 aY 46 (pG 40 true (pM 3)) <|
 aY 47 (pG 40 true (pB .sub 3 46 (cn (.int .i64 1)))) <|
 aY 48 (pG 40 true (pI 2 45 47)) <|
 aY 49 (pG 40 true (pL true 2 48)) <|
 aY 50 (pG 40 true (pK c false 148 [49])) <|
 aY 51 (pG 40 true (pB .leq 2 43 50)) <|
 aY 52 (pG 40 true (pM 51)) <|
 aY 53 (pG 52 false (pF 0 1 4)) <|
 aY 54 (pG 52 false (pL false 1 53)) <|
 aY 55 (pG 52 false (pF 1 1 1)) <|
 aY 56 (pG 52 false (pL false 1 55)) <|
 aY 57 (pG 52 false (pM 3)) <|
 aY 58 (pG 52 false (pB .sub 3 57 (cn (.int .i64 1)))) <|
 aY 59 (pG 52 false (pI 2 56 58)) <|
 aY 60 (pG 52 false (pF 0 1 59)) <|
 aY 61 (pG 52 false (pL false 1 60)) <|
 aY 62 (pG 52 false (pB .gtr 45 54 61)) <|
 aY 63 (pG 40 true (pP 52 (cn (.bool true)) 62)) <|
 aY 64 (pP 40 63 (cn (.bool false))) <|
 aYZ)
 (aXZ)
noncomputable def f106_r9 (c : CallF) : RF := rg [2] <| aX 2 (pM (cn (.bool false))) <|
 aXZ
noncomputable def f106_r10 (c : CallF) : RF := rg [1, 16, 17, 18] <| aX 65 (pB .add 3 18 (cn (.int .i64 1))) <|
 aX 18 (pM 65) <|
 aXZ
noncomputable def f106_r11 (c : CallF) : RF := rg [2] <| aX 2 (pM (cn (.bool true))) <|
 aXZ
noncomputable def f106_l4 (c : CallF) (k : Nat) : St :=
 (bSeq (bReg (f106_r4 c))
 (bSeq (bCond (.tmp 19) (bEx .nrm) (bEx (.ext 0)))
 (bSeq (bBlock 1 (bSeq (bReg (f106_r5 c))
 (bSeq (bSeq (bReg (f106_r6 c))
 (bCond (.tmp 37) (bSeq (bReg (f106_r7 c))
 (bEx .ret)) (bEx .nrm)))
 (bSeq (bReg (f106_r8 c))
 (bCond (.tmp 64) (bSeq (bReg (f106_r9 c))
 (bEx .ret)) (bEx .nrm))))))
 (bReg (f106_r10 c)))))
noncomputable def f106 (c : CallF) (k : Nat) : St :=
 (bSeq (bReg (f106_r0 c))
 (bSeq (bSeq (bReg (f106_r1 c))
 (bCond (.tmp 14) (bSeq (bReg (f106_r2 c))
 (bEx .ret)) (bEx .nrm)))
 (bSeq (bSeq (bReg (f106_r3 c))
 (bBlock 0 (bLoop [1, 16, 17, 18] (f106_l4 c k) k)))
 (bSeq (bReg (f106_r11 c))
 (bEx .ret)))))
theorem f106_eq (c : CallF) (k : Nat) : exec cx c 66 f106_an k (Tryd.f106.body.getD .skip) = f106 c k := by kernel_rfl
/-! ### f107: loop.example/g01263/laws.eqNotchS -/
def f107_an : Ann := ⟨[(0, r0 [0, 1]), (1, r0 [0, 1, 10]), (2, r0 [4]), (3, r0 [0, 1, 5]), (4, r0 [0, 1, 5, 14]), (5, r0 [0, 1, 5]), (6, r0 [0, 1, 5, 26]), (7, r0 [4]), (8, r0 [4])], [(4, [0, 1, 5])]⟩
noncomputable def f107_r0 (c : CallF) : RF := rg [0, 1] <| aX 4 (pM (cn (.bool false))) <|
 aXZ
noncomputable def f107_r1 (c : CallF) : RF := rg [0, 1, 10] <| aX 6 (pM 0) <|
 aX 7 (pLen 54 6) <|
 aX 8 (pM 1) <|
 aX 9 (pLen 54 8) <|
 aX 10 (pB .neq 3 7 9) <|
 aXZ
noncomputable def f107_r2 (c : CallF) : RF := rg [4] <| aX 4 (pM (cn (.bool false))) <|
 aXZ
noncomputable def f107_r3 (c : CallF) : RF := rg [0, 1, 5] <| aX 5 (pM (cn (.int .i64 0))) <|
 aXZ
noncomputable def f107_r4 (c : CallF) : RF := rg [0, 1, 5, 14] <| aX 11 (pM 5) <|
 aX 12 (pM 0) <|
 aX 13 (pLen 54 12) <|
 aX 14 (pB .lss 3 11 13) <|
 aXZ
noncomputable def f107_r5 (c : CallF) : RF := rg [0, 1, 5] <| aX 15 (pM 5) <|
 aX 16 (pB .add 3 15 (cn (.int .i64 1))) <|
 aX 5 (pM 16) <|
 aXZ
noncomputable def f107_r6 (c : CallF) : RF := rgD [0, 1, 5, 26] (aY 17 (pM 0) <|
 aY 18 (pM 5) <|
 aY 19 (pI 2 17 18) <|
 aY 20 (pL true 2 19) <|
 aY 21 (pM 1) <|
 aY 22 (pM 5) <|
 aY 23 (pI 2 21 22) <|
 aY 24 (pL true 2 23) <|
 aY 25 (pK c false 149 [20, 24]) <|
 aY 26 (pU .not 25) <|
 aYZ)
 (aXZ)
noncomputable def f107_r7 (c : CallF) : RF := rg [4] <| aX 4 (pM (cn (.bool false))) <|
 aXZ
noncomputable def f107_r8 (c : CallF) : RF := rg [4] <| aX 4 (pM (cn (.bool true))) <|
 aXZ
noncomputable def f107_l4 (c : CallF) (k : Nat) : St :=
 (bSeq (bSeq (bReg (f107_r4 c))
 (bCond (.tmp 14) (bEx .nrm) (bEx (.ext 0))))
 (bSeq (bBlock 1 (bSeq (bReg (f107_r6 c))
 (bCond (.tmp 26) (bSeq (bReg (f107_r7 c))
 (bEx .ret)) (bEx .nrm))))
 (bReg (f107_r5 c))))
noncomputable def f107 (c : CallF) (k : Nat) : St :=
 (bSeq (bReg (f107_r0 c))
 (bSeq (bSeq (bReg (f107_r1 c))
 (bCond (.tmp 10) (bSeq (bReg (f107_r2 c))
 (bEx .ret)) (bEx .nrm)))
 (bSeq (bSeq (bReg (f107_r3 c))
 (bBlock 0 (bLoop [0, 1, 5] (f107_l4 c k) k)))
 (bSeq (bReg (f107_r8 c))
 (bEx .ret)))))
theorem f107_eq (c : CallF) (k : Nat) : exec cx c 27 f107_an k (Tryd.f107.body.getD .skip) = f107 c k := by kernel_rfl
/-! ### f108: loop.example/g01263/laws.eqGrain -/
def f108_an : Ann := ⟨[(0, r0 [2, 3]), (1, r0 [2, 3, 5]), (2, r0 [2, 3, 5, 7]), (3, r0 [2, 3, 5]), (4, r0 [2, 3, 5, 16]), (5, r0 [4]), (6, r0 [4])], [(2, [2, 3, 5])]⟩
noncomputable def f108_r0 (c : CallF) : RF := rg [2, 3] <| aX 2 (pBox 16 0) <|
 aX 3 (pBox 16 1) <|
 aX 4 (pM (cn (.bool false))) <|
 aXZ
noncomputable def f108_r1 (c : CallF) : RF := rg [2, 3, 5] <| aX 5 (pM (cn (.int .i64 0))) <|
 aXZ
noncomputable def f108_r2 (c : CallF) : RF := rg [2, 3, 5, 7] <| aX 6 (pM 5) <|
 aX 7 (pB .lss 3 6 (cn (.int .i64 16))) <|
 aXZ
noncomputable def f108_r3 (c : CallF) : RF := rg [2, 3, 5] <| aX 8 (pM 5) <|
 aX 9 (pB .add 3 8 (cn (.int .i64 1))) <|
 aX 5 (pM 9) <|
 aXZ
noncomputable def f108_r4 (c : CallF) : RF := rgD [2, 3, 5, 16] (aY 10 (pM 5) <|
 aY 11 (fun n e M => keep (aIndexP 16 1 (eget e 2) (eget e 10) M)) <|
 aY 12 (pL false 1 11) <|
 aY 13 (pM 5) <|
 aY 14 (fun n e M => keep (aIndexP 16 1 (eget e 3) (eget e 13) M)) <|
 aY 15 (pL false 1 14) <|
 aY 16 (pB .neq 45 12 15) <|
 aYZ)
 (aXZ)
noncomputable def f108_r5 (c : CallF) : RF := rg [4] <| aX 4 (pM (cn (.bool false))) <|
 aXZ
noncomputable def f108_r6 (c : CallF) : RF := rg [4] <| aX 4 (pM (cn (.bool true))) <|
 aXZ
noncomputable def f108_l2 (c : CallF) (k : Nat) : St :=
 (bSeq (bSeq (bReg (f108_r2 c))
 (bCond (.tmp 7) (bEx .nrm) (bEx (.ext 0))))
 (bSeq (bBlock 1 (bSeq (bReg (f108_r4 c))
 (bCond (.tmp 16) (bSeq (bReg (f108_r5 c))
 (bEx .ret)) (bEx .nrm))))
 (bReg (f108_r3 c))))
noncomputable def f108 (c : CallF) (k : Nat) : St :=
 (bSeq (bReg (f108_r0 c))
 (bSeq (bSeq (bReg (f108_r1 c))
 (bBlock 0 (bLoop [2, 3, 5] (f108_l2 c k) k)))
 (bSeq (bReg (f108_r6 c))
 (bEx .ret))))
theorem f108_eq (c : CallF) (k : Nat) : exec cx c 17 f108_an k (Tryd.f108.body.getD .skip) = f108 c k := by kernel_rfl
/-! ### f109: loop.example/g01263/laws.eqMark -/
def f109_an : Ann := ⟨[(0, r0 [2, 3]), (1, r0 [2, 3, 9]), (2, r0 [4]), (3, r0 [14]), (4, r0 [4]), (5, r0 [4])], []⟩
noncomputable def f109_r0 (c : CallF) : RF := rg [2, 3] <| aX 2 (pBox 2 0) <|
 aX 3 (pBox 2 1) <|
 aX 4 (pM (cn (.bool false))) <|
 aXZ
noncomputable def f109_r1 (c : CallF) : RF := rg [2, 3, 9] <| aX 5 (pF 0 1 2) <|
 aX 6 (pL false 1 5) <|
 aX 7 (pF 0 1 3) <|
 aX 8 (pL false 1 7) <|
 aX 9 (pB .neq 9 6 8) <|
 aXZ
noncomputable def f109_r2 (c : CallF) : RF := rg [4] <| aX 4 (pM (cn (.bool false))) <|
 aXZ
noncomputable def f109_r3 (c : CallF) : RF := rg [14] <| aX 10 (pF 1 1 2) <|
 aX 11 (pL false 1 10) <|
 aX 12 (pF 1 1 3) <|
 aX 13 (pL false 1 12) <|
 aX 14 (pB .neq 105 11 13) <|
 aXZ
noncomputable def f109_r4 (c : CallF) : RF := rg [4] <| aX 4 (pM (cn (.bool false))) <|
 aXZ
noncomputable def f109_r5 (c : CallF) : RF := rg [4] <| aX 4 (pM (cn (.bool true))) <|
 aXZ
noncomputable def f109 (c : CallF) (k : Nat) : St :=
 (bSeq (bReg (f109_r0 c))
 (bSeq (bSeq (bReg (f109_r1 c))
 (bCond (.tmp 9) (bSeq (bReg (f109_r2 c))
 (bEx .ret)) (bEx .nrm)))
 (bSeq (bSeq (bReg (f109_r3 c))
 (bCond (.tmp 14) (bSeq (bReg (f109_r4 c))
 (bEx .ret)) (bEx .nrm)))
 (bSeq (bReg (f109_r5 c))
 (bEx .ret)))))
theorem f109_eq (c : CallF) (k : Nat) : exec cx c 15 f109_an k (Tryd.f109.body.getD .skip) = f109 c k := by kernel_rfl
/-! ### f118: loop.example/g01263/spec.l01ReadHalf -/
def f118_an : Ann := ⟨[(0, r0 [0, 2]), (1, r0 [2, 4]), (2, r0 [2, 4, 34]), (3, ⟨[1], [], [], [], [2, 3]⟩), (4, ⟨[6], [5, 6], [], [], [2, 4, 5]⟩), (5, r0 [2, 4, 5, 6]), (6, r0 [2, 4, 5, 6, 42]), (7, r0 [2, 4, 5, 6]), (8, r0 [2, 4, 5, 6, 7]), (9, r0 [2, 4, 5, 6, 7, 55]), (10, ⟨[1], [], [], [], [2, 3]⟩), (11, r0 [2, 4, 5, 6]), (12, r0 [2, 4, 5, 8]), (13, r0 [2, 4, 5, 8, 66]), (14, r0 [2, 4, 5, 8]), (15, r0 [2, 4, 5, 8, 9, 10]), (16, r0 [2, 4, 5, 8, 9, 78]), (17, ⟨[1], [], [], [], [2, 3]⟩), (18, ⟨[4, 6], [], [], [], [2, 4, 5, 8]⟩), (19, ⟨[2], [], [], [2, 3], [2, 3]⟩)], [(6, [2, 4, 5, 6]), (13, [2, 4, 5, 8])]⟩
noncomputable def f118_r0 (c : CallF) : RF := rg [0, 2] <| aX 2 (pAl 57 18) <|
 aX 3 (pM (cn (.bool false))) <|
 aXZ
noncomputable def f118_r1 (c : CallF) : RF := rg [2, 4] <| aX 11 (pM 0) <|
 aX 12 (pK c false 65 [11, (cn (.int .u8 32))]) <|
 aX 4 (pM 12) <|
 aXZ
noncomputable def f118_r2 (c : CallF) : RF := rg [2, 4, 34] <| aX 13 (pM 4) <|
 aX 14 (pLen 86 13) <|
 aX 15 (pB .lss 3 14 (cn (.int .i64 2))) <|
 aX 16 (pM 15) <|
 aX 17 (pG 16 false (pM 4)) <|
 aX 18 (pG 16 false (pI 1 17 (cn (.int .i64 0)))) <|
 aX 19 (pG 16 false (pL false 1 18)) <|
 aX 20 (pG 16 false (pB .neq 9 19 (cn (.str [115, 116, 111, 99, 107])))) <|
 aX 21 (pG 16 false (pM 20)) <|
 aX 22 (pG 21 true (pM 4)) <|
 aX 23 (pG 21 true (pI 1 22 (cn (.int .i64 0)))) <|
 aX 24 (pG 21 true (pL false 1 23)) <|
 aX 25 (pG 21 true (pB .neq 9 24 (cn (.str [102, 111, 105, 108])))) <|
 aX 26 (pG 16 false (pP 21 25 (cn (.bool false)))) <|
 aX 27 (pP 16 (cn (.bool true)) 26) <|
 aX 28 (pM 27) <|
 aX 29 (pG 28 false (pM 4)) <|
 aX 30 (pG 28 false (pI 1 29 (cn (.int .i64 1)))) <|
 aX 31 (pG 28 false (pL false 1 30)) <|
 aX 32 (pG 28 false (pLen 9 31)) <|
 aX 33 (pG 28 false (pB .neq 3 32 (cn (.int .i64 16)))) <|
 aX 34 (pP 28 (cn (.bool true)) 33) <|
 aXZ
noncomputable def f118_r3 (c : CallF) : RF := rg [2, 3] <| aX 35 (fun n e M => keep (aBuild (zeroOf cx.P 57) [] M)) <|
 aX0 (pSK 18 2 35) <|
 aX 3 (pM (cn (.bool false))) <|
 aXZ
noncomputable def f118_r4 (c : CallF) : RF := rg [2, 4, 5] <| aX 36 (pM 4) <|
 aX 37 (pI 1 36 (cn (.int .i64 0))) <|
 aX 38 (pL false 1 37) <|
 aX 39 (pB .eql 9 38 (cn (.str [115, 116, 111, 99, 107]))) <|
 aX 40 (fun n e M => keep (aBuild (zeroOf cx.P 57) [(0, 1, (eget e 39))] M)) <|
 aX 5 (fun n e M => gho cx.P true n (oAlloc cx.P n 57 18)) <|
 aX0 (fun n e M => oStoreG cx.P 57 true 18 (eget e 5) (eget e 40) M) <|
 aXZ
noncomputable def f118_r5 (c : CallF) : RF := rg [2, 4, 5, 6] <| aX 6 (pM (cn (.int .i64 0))) <|
 aXZ
noncomputable def f118_r6 (c : CallF) : RF := rg [2, 4, 5, 6, 42] <| aX 41 (pM 6) <|
 aX 42 (pB .lss 3 41 (cn (.int .i64 16))) <|
 aXZ
noncomputable def f118_r7 (c : CallF) : RF := rg [2, 4, 5, 6] <| aX 43 (pM 6) <|
 aX 44 (pB .add 3 43 (cn (.int .i64 1))) <|
 aX 6 (pM 44) <|
 aXZ
noncomputable def f118_r8 (c : CallF) : RF := rg [2, 4, 5, 6, 7] <| aX 45 (pM 4) <|
 aX 46 (pI 1 45 (cn (.int .i64 1))) <|
 aX 47 (pL false 1 46) <|
 aX 48 (pM 6) <|
 aX 49 (fun n e M => keep (aIndexB (eget e 47) (eget e 48))) <|
 aX 7 (pM 49) <|
 aXZ
noncomputable def f118_r9 (c : CallF) : RF := rg [2, 4, 5, 6, 7, 55] <| aX 50 (pM 7) <|
 aX 51 (pB .lss 5 50 (cn (.int .u8 97))) <|
 aX 52 (pM 51) <|
 aX 53 (pG 52 false (pM 7)) <|
 aX 54 (pG 52 false (pB .gtr 5 53 (cn (.int .u8 103)))) <|
 aX 55 (pP 52 (cn (.bool true)) 54) <|
 aXZ
noncomputable def f118_r10 (c : CallF) : RF := rg [2, 3] <| aX 56 (pL true 18 5) <|
 aX0 (pSK 18 2 56) <|
 aX 3 (pM (cn (.bool false))) <|
 aXZ
noncomputable def f118_r11 (c : CallF) : RF := rg [2, 4, 5, 6] <| aX 57 (pM 6) <|
 aX 58 (pM 7) <|
 aX 59 (fun n e M => keep (aConvI .i8 (eget e 58))) <|
 aX 60 (pB .sub 45 59 (cn (.int .i8 100))) <|
 aX 61 (pF 2 16 5) <|
 aX 62 (fun n e M => keep (aIndexP 16 1 (eget e 61) (eget e 57) M)) <|
 aX0 (pS 1 62 60) <|
 aXZ
noncomputable def f118_r12 (c : CallF) : RF := rg [2, 4, 5, 8] <| aX 8 (pM (cn (.int .i64 2))) <|
 aXZ
noncomputable def f118_r13 (c : CallF) : RF := rg [2, 4, 5, 8, 66] <| aX 63 (pM 8) <|
 aX 64 (pM 4) <|
 aX 65 (pLen 86 64) <|
 aX 66 (pB .lss 3 63 65) <|
 aXZ
noncomputable def f118_r14 (c : CallF) : RF := rg [2, 4, 5, 8] <| aX 67 (pM 8) <|
 aX 68 (pB .add 3 67 (cn (.int .i64 1))) <|
 aX 8 (pM 68) <|
 aXZ
noncomputable def f118_r15 (c : CallF) : RF := rg [2, 4, 5, 8, 9, 10] <| aX 70 (pM 4) <|
 aX 71 (pM 8) <|
 aX 72 (pI 1 70 71) <|
 aX 73 (pL false 1 72) <|
 aX 74 (pK c false 155 [73]) <|
 aX 69 (pM 74) <|
 aX 75 (pE 0 69) <|
 aX 76 (pE 1 69) <|
 aX 9 (pAl 156 2) <|
 aX0 (pS 2 9 75) <|
 aX 10 (pM 76) <|
 aXZ
noncomputable def f118_r16 (c : CallF) : RF := rg [2, 4, 5, 8, 9, 78] <| aX 77 (pM 10) <|
 aX 78 (pU .not 77) <|
 aXZ
noncomputable def f118_r17 (c : CallF) : RF := rg [2, 3] <| aX 79 (pL true 18 5) <|
 aX0 (pSK 18 2 79) <|
 aX 3 (pM (cn (.bool false))) <|
 aXZ
noncomputable def f118_r18 (c : CallF) : RF := rg [2, 4, 5, 8] <| aX 80 (pF 1 1 5) <|
 aX 81 (pL false 1 80) <|
 aX 82 (pL true 2 9) <|
 aX 83 (fun n e M => keep (aLitI 156 2 [(eget e 82)] M)) <|
 aX 84 (fun n e M => aAppO n 156 2 4 (eget e 81) (eget e 83) M) <|
 aX 85 (pF 1 1 5) <|
 aX0 (pSK 1 85 84) <|
 aXZ
noncomputable def f118_r19 (c : CallF) : RF := rgD [2, 3] (aY 86 (pL true 18 5) <|
 aY 87 (pK c false 99 [5]) <|
 aYZ)
 (aX0 (pSK 18 2 86) <|
 aX 3 (pM 87) <|
 aXZ)
noncomputable def f118_l6 (c : CallF) (k : Nat) : St :=
 (bSeq (bSeq (bReg (f118_r6 c))
 (bCond (.tmp 42) (bEx .nrm) (bEx (.ext 0))))
 (bSeq (bBlock 1 (bSeq (bReg (f118_r8 c))
 (bSeq (bSeq (bReg (f118_r9 c))
 (bCond (.tmp 55) (bSeq (bReg (f118_r10 c))
 (bEx .ret)) (bEx .nrm)))
 (bReg (f118_r11 c)))))
 (bReg (f118_r7 c))))
noncomputable def f118_l13 (c : CallF) (k : Nat) : St :=
 (bSeq (bSeq (bReg (f118_r13 c))
 (bCond (.tmp 66) (bEx .nrm) (bEx (.ext 2))))
 (bSeq (bBlock 3 (bSeq (bReg (f118_r15 c))
 (bSeq (bSeq (bReg (f118_r16 c))
 (bCond (.tmp 78) (bSeq (bReg (f118_r17 c))
 (bEx .ret)) (bEx .nrm)))
 (bReg (f118_r18 c)))))
 (bReg (f118_r14 c))))
noncomputable def f118 (c : CallF) (k : Nat) : St :=
 (bSeq (bReg (f118_r0 c))
 (bSeq (bReg (f118_r1 c))
 (bSeq (bSeq (bReg (f118_r2 c))
 (bCond (.tmp 34) (bSeq (bReg (f118_r3 c))
 (bEx .ret)) (bEx .nrm)))
 (bSeq (bReg (f118_r4 c))
 (bSeq (bSeq (bReg (f118_r5 c))
 (bBlock 0 (bLoop [2, 4, 5, 6] (f118_l6 c k) k)))
 (bSeq (bSeq (bReg (f118_r12 c))
 (bBlock 2 (bLoop [2, 4, 5, 8] (f118_l13 c k) k)))
 (bSeq (bReg (f118_r19 c))
 (bEx .ret))))))))
theorem f118_eq (c : CallF) (k : Nat) : exec cx c 88 f118_an k (Tryd.f118.body.getD .skip) = f118 c k := by kernel_rfl
/-! ### f121: loop.example/g01263/impl.number -/
def f121_an : Ann := ⟨[(0, r0 [0]), (1, r0 [0, 22]), (2, r0 [2, 3]), (3, r0 [0, 4]), (4, r0 [0, 4, 24, 25]), (5, r0 [0, 4, 24, 25, 26]), (6, r0 [0, 4, 5, 24, 25]), (7, r0 [0, 4, 5, 24, 25, 37]), (8, r0 [2, 3]), (9, r0 [0, 4, 24, 25]), (10, r0 [0, 4, 24, 25]), (11, r0 [2, 3])], [(5, [0, 4, 24, 25])]⟩
noncomputable def f121_r0 (c : CallF) : RF := rg [0] <| aX 2 (pM (cn (.int .i64 0))) <|
 aX 3 (pM (cn (.bool false))) <|
 aXZ
noncomputable def f121_r1 (c : CallF) : RF := rg [0, 22] <| aX 6 (pM 0) <|
 aX 7 (pB .eql 9 6 (cn (.str []))) <|
 aX 8 (pM 7) <|
 aX 9 (pG 8 false (pM 0)) <|
 aX 10 (pG 8 false (pLen 9 9)) <|
 aX 11 (pG 8 false (pB .gtr 3 10 (cn (.int .i64 9)))) <|
 aX 12 (pP 8 (cn (.bool true)) 11) <|
 aX 13 (pM 12) <|
 aX 14 (pG 13 false (pM 0)) <|
 aX 15 (pG 13 false (fun n e M => keep (aIndexB (eget e 14) (.int .i64 0)))) <|
 aX 16 (pG 13 false (pB .eql 5 15 (cn (.int .u8 48)))) <|
 aX 17 (pG 13 false (pM 16)) <|
 aX 18 (pG 17 true (pM 0)) <|
 aX 19 (pG 17 true (pLen 9 18)) <|
 aX 20 (pG 17 true (pB .gtr 3 19 (cn (.int .i64 1)))) <|
 aX 21 (pG 13 false (pP 17 20 (cn (.bool false)))) <|
 aX 22 (pP 13 (cn (.bool true)) 21) <|
 aXZ
noncomputable def f121_r2 (c : CallF) : RF := rg [2, 3] <| aX 2 (pM (cn (.int .i64 0))) <|
 aX 3 (pM (cn (.bool false))) <|
 aXZ
noncomputable def f121_r3 (c : CallF) : RF := rg [0, 4] <| aX 4 (pM (cn (.int .i64 0))) <|
 aXZ
noncomputable def f121_r4 (c : CallF) : RF := rg [0, 4, 24, 25] <| aX 23 (pM 0) <|
 aX 24 (pLen 9 23) <|
 aX 25 (pM (cn (.int .i64 0))) <|
 aXZ
noncomputable def f121_r5 (c : CallF) : RF := rg [0, 4, 24, 25, 26] <| aX 26 (pB .lss 3 25 24) <|
 aXZ
noncomputable def f121_r6 (c : CallF) : RF := rg [0, 4, 5, 24, 25] <| aX 27 (pM 25) <|
 aX 5 (pM 27) <|
 aXZ
noncomputable def f121_r7 (c : CallF) : RF := rg [0, 4, 5, 24, 25, 37] <| aX 28 (pM 0) <|
 aX 29 (pM 5) <|
 aX 30 (fun n e M => keep (aIndexB (eget e 28) (eget e 29))) <|
 aX 31 (pB .lss 5 30 (cn (.int .u8 48))) <|
 aX 32 (pM 31) <|
 aX 33 (pG 32 false (pM 0)) <|
 aX 34 (pG 32 false (pM 5)) <|
 aX 35 (pG 32 false (fun n e M => keep (aIndexB (eget e 33) (eget e 34)))) <|
 aX 36 (pG 32 false (pB .gtr 5 35 (cn (.int .u8 57)))) <|
 aX 37 (pP 32 (cn (.bool true)) 36) <|
 aXZ
noncomputable def f121_r8 (c : CallF) : RF := rg [2, 3] <| aX 2 (pM (cn (.int .i64 0))) <|
 aX 3 (pM (cn (.bool false))) <|
 aXZ
noncomputable def f121_r9 (c : CallF) : RF := rg [0, 4, 24, 25] <| aX 38 (pM 4) <|
 aX 39 (pB .mul 2 38 (cn (.int .i64 10))) <|
 aX 40 (pM 0) <|
 aX 41 (pM 5) <|
 aX 42 (fun n e M => keep (aIndexB (eget e 40) (eget e 41))) <|
 aX 43 (pB .sub 5 42 (cn (.int .u8 48))) <|
 aX 44 (fun n e M => keep (aConvI .i64 (eget e 43))) <|
 aX 45 (pB .add 2 39 44) <|
 aX 4 (pM 45) <|
 aXZ
noncomputable def f121_r10 (c : CallF) : RF := rg [0, 4, 24, 25] <| aX 46 (pB .add 3 25 (cn (.int .i64 1))) <|
 aX 25 (pM 46) <|
 aXZ
noncomputable def f121_r11 (c : CallF) : RF := rg [2, 3] <| aX 47 (pM 4) <|
 aX 2 (pM 47) <|
 aX 3 (pM (cn (.bool true))) <|
 aXZ
noncomputable def f121_l5 (c : CallF) (k : Nat) : St :=
 (bSeq (bReg (f121_r5 c))
 (bSeq (bCond (.tmp 26) (bEx .nrm) (bEx (.ext 0)))
 (bSeq (bBlock 1 (bSeq (bReg (f121_r6 c))
 (bSeq (bSeq (bReg (f121_r7 c))
 (bCond (.tmp 37) (bSeq (bReg (f121_r8 c))
 (bEx .ret)) (bEx .nrm)))
 (bReg (f121_r9 c)))))
 (bReg (f121_r10 c)))))
noncomputable def f121 (c : CallF) (k : Nat) : St :=
 (bSeq (bReg (f121_r0 c))
 (bSeq (bSeq (bReg (f121_r1 c))
 (bCond (.tmp 22) (bSeq (bReg (f121_r2 c))
 (bEx .ret)) (bEx .nrm)))
 (bSeq (bReg (f121_r3 c))
 (bSeq (bSeq (bReg (f121_r4 c))
 (bBlock 0 (bLoop [0, 4, 24, 25] (f121_l5 c k) k)))
 (bSeq (bReg (f121_r11 c))
 (bEx .ret))))))
theorem f121_eq (c : CallF) (k : Nat) : exec cx c 48 f121_an k (Tryd.f121.body.getD .skip) = f121 c k := by kernel_rfl
/-! ### f122: loop.example/g01263/laws.markNotchS -/
def f122_an : Ann := ⟨[(0, r0 [0, 1]), (1, r0 [0, 1, 5]), (2, r0 [0, 1, 5, 9]), (3, r0 [0, 1, 5]), (4, r0 [0, 1, 5]), (5, r0 [0, 1, 5]), (6, r0 [0, 1, 5]), (7, r0 [0, 1, 5]), (8, r0 [4])], [(2, [0, 1, 5])]⟩
noncomputable def f122_r0 (c : CallF) : RF := rg [0, 1] <| aX 4 (pM (cn (.int .i64 0))) <|
 aXZ
noncomputable def f122_r1 (c : CallF) : RF := rg [0, 1, 5] <| aX 5 (pM (cn (.int .i64 0))) <|
 aXZ
noncomputable def f122_r2 (c : CallF) : RF := rg [0, 1, 5, 9] <| aX 6 (pM 5) <|
 aX 7 (pM 0) <|
 aX 8 (pLen 54 7) <|
 aX 9 (pB .lss 3 6 8) <|
 aXZ
noncomputable def f122_r3 (c : CallF) : RF := rg [0, 1, 5] <| aX 10 (pM 5) <|
 aX 11 (pB .add 3 10 (cn (.int .i64 1))) <|
 aX 5 (pM 11) <|
 aXZ
noncomputable def f122_r4 (c : CallF) : RF := rg [0, 1, 5] <| aX 12 (pM 0) <|
 aX 13 (pM 5) <|
 aX 14 (pM 1) <|
 aX 15 (fun n e M => keep (aConvI .i8 (eget e 14))) <|
 aX 16 (pI 2 12 13) <|
 aX 17 (pF 0 1 16) <|
 aX0 (pS 1 17 15) <|
 aXZ
noncomputable def f122_r5 (c : CallF) : RF := rg [0, 1, 5] <| aX 18 (pM 1) <|
 aX 19 (pB .add 3 18 (cn (.int .i64 1))) <|
 aX 1 (pM 19) <|
 aXZ
noncomputable def f122_r6 (c : CallF) : RF := rg [0, 1, 5] <| aX 20 (pM 0) <|
 aX 21 (pM 5) <|
 aX 22 (pM 1) <|
 aX 23 (fun n e M => keep (aConvI .i16 (eget e 22))) <|
 aX 24 (pI 2 20 21) <|
 aX 25 (pF 1 1 24) <|
 aX0 (pS 1 25 23) <|
 aXZ
noncomputable def f122_r7 (c : CallF) : RF := rg [0, 1, 5] <| aX 26 (pM 1) <|
 aX 27 (pB .add 3 26 (cn (.int .i64 1))) <|
 aX 1 (pM 27) <|
 aXZ
noncomputable def f122_r8 (c : CallF) : RF := rg [4] <| aX 28 (pM 1) <|
 aX 4 (pM 28) <|
 aXZ
noncomputable def f122_l2 (c : CallF) (k : Nat) : St :=
 (bSeq (bSeq (bReg (f122_r2 c))
 (bCond (.tmp 9) (bEx .nrm) (bEx (.ext 0))))
 (bSeq (bBlock 1 (bSeq (bReg (f122_r4 c))
 (bSeq (bReg (f122_r5 c))
 (bSeq (bReg (f122_r6 c))
 (bReg (f122_r7 c))))))
 (bReg (f122_r3 c))))
noncomputable def f122 (c : CallF) (k : Nat) : St :=
 (bSeq (bReg (f122_r0 c))
 (bSeq (bSeq (bReg (f122_r1 c))
 (bBlock 0 (bLoop [0, 1, 5] (f122_l2 c k) k)))
 (bSeq (bReg (f122_r8 c))
 (bEx .ret))))
theorem f122_eq (c : CallF) (k : Nat) : exec cx c 29 f122_an k (Tryd.f122.body.getD .skip) = f122 c k := by kernel_rfl
/-! ### f123: loop.example/g01263/laws.markText -/
def f123_an : Ann := ⟨[(0, r0 [0]), (1, r0 [0, 5]), (2, r0 [2]), (3, r0 [0, 3]), (4, r0 [0, 3, 7]), (5, r0 [0, 3]), (6, r0 [0, 3]), (7, r0 [2])], [(4, [0, 3])]⟩
noncomputable def f123_r0 (c : CallF) : RF := rg [0] <| aX 2 (pM (cn (.str []))) <|
 aXZ
noncomputable def f123_r1 (c : CallF) : RF := rg [0, 5] <| aX 4 (pM 0) <|
 aX 5 (pB .leq 3 4 (cn (.int .i64 0))) <|
 aXZ
noncomputable def f123_r2 (c : CallF) : RF := rg [2] <| aX 2 (pM (cn (.str [109, 48]))) <|
 aXZ
noncomputable def f123_r3 (c : CallF) : RF := rg [0, 3] <| aX 3 (pM (cn (.str []))) <|
 aXZ
noncomputable def f123_r4 (c : CallF) : RF := rg [0, 3, 7] <| aX 6 (pM 0) <|
 aX 7 (pB .gtr 3 6 (cn (.int .i64 0))) <|
 aXZ
noncomputable def f123_r5 (c : CallF) : RF := rg [0, 3] <| aX 8 (pM 0) <|
 aX 9 (pB .rem 3 8 (cn (.int .i64 10))) <|
 aX 10 (pB .add 3 (cn (.int .i64 48)) 9) <|
 aX 11 (fun n e M => keep (aConvI .u8 (eget e 10))) <|
 aX 12 (fun n e M => keep (aLitI 5 1 [(eget e 11)] M)) <|
 aX 13 (fun n e M => keep (aConvB (eget e 12) M)) <|
 aX 14 (pM 3) <|
 aX 15 (pB .add 9 13 14) <|
 aX 3 (pM 15) <|
 aXZ
noncomputable def f123_r6 (c : CallF) : RF := rg [0, 3] <| aX 16 (pM 0) <|
 aX 17 (pB .quo 3 16 (cn (.int .i64 10))) <|
 aX 0 (pM 17) <|
 aXZ
noncomputable def f123_r7 (c : CallF) : RF := rg [2] <| aX 18 (pM 3) <|
 aX 19 (pB .add 9 (cn (.str [109])) 18) <|
 aX 2 (pM 19) <|
 aXZ
noncomputable def f123_l4 (c : CallF) (k : Nat) : St :=
 (bSeq (bSeq (bReg (f123_r4 c))
 (bCond (.tmp 7) (bEx .nrm) (bEx (.ext 0))))
 (bBlock 1 (bSeq (bReg (f123_r5 c))
 (bReg (f123_r6 c)))))
noncomputable def f123 (c : CallF) (k : Nat) : St :=
 (bSeq (bReg (f123_r0 c))
 (bSeq (bSeq (bReg (f123_r1 c))
 (bCond (.tmp 5) (bSeq (bReg (f123_r2 c))
 (bEx .ret)) (bEx .nrm)))
 (bSeq (bReg (f123_r3 c))
 (bSeq (bBlock 0 (bLoop [0, 3] (f123_l4 c k) k))
 (bSeq (bReg (f123_r7 c))
 (bEx .ret))))))
theorem f123_eq (c : CallF) (k : Nat) : exec cx c 20 f123_an k (Tryd.f123.body.getD .skip) = f123 c k := by kernel_rfl
/-! ### f124: loop.example/g01263/laws.heldNotchS -/
def f124_an : Ann := ⟨[(0, r0 [0, 1]), (1, r0 [0, 1, 5]), (2, r0 [0, 1, 5, 9]), (3, r0 [0, 1, 5]), (4, r0 [0, 1, 5, 19]), (5, r0 [4]), (6, r0 [0, 1, 5]), (7, r0 [0, 1, 5, 29]), (8, r0 [4]), (9, r0 [0, 1, 5]), (10, r0 [4])], [(2, [0, 1, 5])]⟩
noncomputable def f124_r0 (c : CallF) : RF := rg [0, 1] <| aX 4 (pM (cn (.int .i64 0))) <|
 aXZ
noncomputable def f124_r1 (c : CallF) : RF := rg [0, 1, 5] <| aX 5 (pM (cn (.int .i64 0))) <|
 aXZ
noncomputable def f124_r2 (c : CallF) : RF := rg [0, 1, 5, 9] <| aX 6 (pM 5) <|
 aX 7 (pM 0) <|
 aX 8 (pLen 54 7) <|
 aX 9 (pB .lss 3 6 8) <|
 aXZ
noncomputable def f124_r3 (c : CallF) : RF := rg [0, 1, 5] <| aX 10 (pM 5) <|
 aX 11 (pB .add 3 10 (cn (.int .i64 1))) <|
 aX 5 (pM 11) <|
 aXZ
noncomputable def f124_r4 (c : CallF) : RF := rg [0, 1, 5, 19] <| aX 12 (pM 0) <|
 aX 13 (pM 5) <|
 aX 14 (pI 2 12 13) <|
 aX 15 (pF 0 1 14) <|
 aX 16 (pL false 1 15) <|
 aX 17 (pM 1) <|
 aX 18 (fun n e M => keep (aConvI .i8 (eget e 17))) <|
 aX 19 (pB .neq 45 16 18) <|
 aXZ
noncomputable def f124_r5 (c : CallF) : RF := rg [4] <| aX 4 (pM (cn (.int .i64 (-1)))) <|
 aXZ
noncomputable def f124_r6 (c : CallF) : RF := rg [0, 1, 5] <| aX 20 (pM 1) <|
 aX 21 (pB .add 3 20 (cn (.int .i64 1))) <|
 aX 1 (pM 21) <|
 aXZ
noncomputable def f124_r7 (c : CallF) : RF := rg [0, 1, 5, 29] <| aX 22 (pM 0) <|
 aX 23 (pM 5) <|
 aX 24 (pI 2 22 23) <|
 aX 25 (pF 1 1 24) <|
 aX 26 (pL false 1 25) <|
 aX 27 (pM 1) <|
 aX 28 (fun n e M => keep (aConvI .i16 (eget e 27))) <|
 aX 29 (pB .neq 154 26 28) <|
 aXZ
noncomputable def f124_r8 (c : CallF) : RF := rg [4] <| aX 4 (pM (cn (.int .i64 (-1)))) <|
 aXZ
noncomputable def f124_r9 (c : CallF) : RF := rg [0, 1, 5] <| aX 30 (pM 1) <|
 aX 31 (pB .add 3 30 (cn (.int .i64 1))) <|
 aX 1 (pM 31) <|
 aXZ
noncomputable def f124_r10 (c : CallF) : RF := rg [4] <| aX 32 (pM 1) <|
 aX 4 (pM 32) <|
 aXZ
noncomputable def f124_l2 (c : CallF) (k : Nat) : St :=
 (bSeq (bSeq (bReg (f124_r2 c))
 (bCond (.tmp 9) (bEx .nrm) (bEx (.ext 0))))
 (bSeq (bBlock 1 (bSeq (bSeq (bReg (f124_r4 c))
 (bCond (.tmp 19) (bSeq (bReg (f124_r5 c))
 (bEx .ret)) (bEx .nrm)))
 (bSeq (bReg (f124_r6 c))
 (bSeq (bSeq (bReg (f124_r7 c))
 (bCond (.tmp 29) (bSeq (bReg (f124_r8 c))
 (bEx .ret)) (bEx .nrm)))
 (bReg (f124_r9 c))))))
 (bReg (f124_r3 c))))
noncomputable def f124 (c : CallF) (k : Nat) : St :=
 (bSeq (bReg (f124_r0 c))
 (bSeq (bSeq (bReg (f124_r1 c))
 (bBlock 0 (bLoop [0, 1, 5] (f124_l2 c k) k)))
 (bSeq (bReg (f124_r10 c))
 (bEx .ret))))
theorem f124_eq (c : CallF) (k : Nat) : exec cx c 33 f124_an k (Tryd.f124.body.getD .skip) = f124 c k := by kernel_rfl
/-! ### f125: loop.example/g01263/spec.l01Number -/
def f125_an : Ann := ⟨[(0, r0 [0]), (1, r0 [0, 22]), (2, r0 [2, 3]), (3, r0 [0, 4]), (4, r0 [0, 4, 5]), (5, r0 [0, 4, 5, 26]), (6, r0 [0, 4, 5]), (7, r0 [0, 4, 5, 38]), (8, r0 [2, 3]), (9, r0 [0, 4, 5]), (10, r0 [2, 3])], [(5, [0, 4, 5])]⟩
noncomputable def f125_r0 (c : CallF) : RF := rg [0] <| aX 2 (pM (cn (.int .i64 0))) <|
 aX 3 (pM (cn (.bool false))) <|
 aXZ
noncomputable def f125_r1 (c : CallF) : RF := rg [0, 22] <| aX 6 (pM 0) <|
 aX 7 (pB .eql 9 6 (cn (.str []))) <|
 aX 8 (pM 7) <|
 aX 9 (pG 8 false (pM 0)) <|
 aX 10 (pG 8 false (pLen 9 9)) <|
 aX 11 (pG 8 false (pB .gtr 3 10 (cn (.int .i64 10)))) <|
 aX 12 (pP 8 (cn (.bool true)) 11) <|
 aX 13 (pM 12) <|
 aX 14 (pG 13 false (pM 0)) <|
 aX 15 (pG 13 false (fun n e M => keep (aIndexB (eget e 14) (.int .i64 0)))) <|
 aX 16 (pG 13 false (pB .eql 5 15 (cn (.int .u8 48)))) <|
 aX 17 (pG 13 false (pM 16)) <|
 aX 18 (pG 17 true (pM 0)) <|
 aX 19 (pG 17 true (pLen 9 18)) <|
 aX 20 (pG 17 true (pB .gtr 3 19 (cn (.int .i64 1)))) <|
 aX 21 (pG 13 false (pP 17 20 (cn (.bool false)))) <|
 aX 22 (pP 13 (cn (.bool true)) 21) <|
 aXZ
noncomputable def f125_r2 (c : CallF) : RF := rg [2, 3] <| aX 2 (pM (cn (.int .i64 0))) <|
 aX 3 (pM (cn (.bool false))) <|
 aXZ
noncomputable def f125_r3 (c : CallF) : RF := rg [0, 4] <| aX 4 (pM (cn (.int .i64 0))) <|
 aXZ
noncomputable def f125_r4 (c : CallF) : RF := rg [0, 4, 5] <| aX 5 (pM (cn (.int .i64 0))) <|
 aXZ
noncomputable def f125_r5 (c : CallF) : RF := rg [0, 4, 5, 26] <| aX 23 (pM 5) <|
 aX 24 (pM 0) <|
 aX 25 (pLen 9 24) <|
 aX 26 (pB .lss 3 23 25) <|
 aXZ
noncomputable def f125_r6 (c : CallF) : RF := rg [0, 4, 5] <| aX 27 (pM 5) <|
 aX 28 (pB .add 3 27 (cn (.int .i64 1))) <|
 aX 5 (pM 28) <|
 aXZ
noncomputable def f125_r7 (c : CallF) : RF := rg [0, 4, 5, 38] <| aX 29 (pM 0) <|
 aX 30 (pM 5) <|
 aX 31 (fun n e M => keep (aIndexB (eget e 29) (eget e 30))) <|
 aX 32 (pB .lss 5 31 (cn (.int .u8 48))) <|
 aX 33 (pM 32) <|
 aX 34 (pG 33 false (pM 0)) <|
 aX 35 (pG 33 false (pM 5)) <|
 aX 36 (pG 33 false (fun n e M => keep (aIndexB (eget e 34) (eget e 35)))) <|
 aX 37 (pG 33 false (pB .gtr 5 36 (cn (.int .u8 57)))) <|
 aX 38 (pP 33 (cn (.bool true)) 37) <|
 aXZ
noncomputable def f125_r8 (c : CallF) : RF := rg [2, 3] <| aX 2 (pM (cn (.int .i64 0))) <|
 aX 3 (pM (cn (.bool false))) <|
 aXZ
noncomputable def f125_r9 (c : CallF) : RF := rg [0, 4, 5] <| aX 39 (pM 4) <|
 aX 40 (pB .mul 2 (cn (.int .i64 10)) 39) <|
 aX 41 (pM 0) <|
 aX 42 (pM 5) <|
 aX 43 (fun n e M => keep (aIndexB (eget e 41) (eget e 42))) <|
 aX 44 (pB .sub 5 43 (cn (.int .u8 48))) <|
 aX 45 (fun n e M => keep (aConvI .i64 (eget e 44))) <|
 aX 46 (pB .add 2 40 45) <|
 aX 4 (pM 46) <|
 aXZ
noncomputable def f125_r10 (c : CallF) : RF := rg [2, 3] <| aX 47 (pM 4) <|
 aX 2 (pM 47) <|
 aX 3 (pM (cn (.bool true))) <|
 aXZ
noncomputable def f125_l5 (c : CallF) (k : Nat) : St :=
 (bSeq (bSeq (bReg (f125_r5 c))
 (bCond (.tmp 26) (bEx .nrm) (bEx (.ext 0))))
 (bSeq (bBlock 1 (bSeq (bSeq (bReg (f125_r7 c))
 (bCond (.tmp 38) (bSeq (bReg (f125_r8 c))
 (bEx .ret)) (bEx .nrm)))
 (bReg (f125_r9 c))))
 (bReg (f125_r6 c))))
noncomputable def f125 (c : CallF) (k : Nat) : St :=
 (bSeq (bReg (f125_r0 c))
 (bSeq (bSeq (bReg (f125_r1 c))
 (bCond (.tmp 22) (bSeq (bReg (f125_r2 c))
 (bEx .ret)) (bEx .nrm)))
 (bSeq (bReg (f125_r3 c))
 (bSeq (bSeq (bReg (f125_r4 c))
 (bBlock 0 (bLoop [0, 4, 5] (f125_l5 c k) k)))
 (bSeq (bReg (f125_r10 c))
 (bEx .ret))))))
theorem f125_eq (c : CallF) (k : Nat) : exec cx c 48 f125_an k (Tryd.f125.body.getD .skip) = f125 c k := by kernel_rfl
/-! ### f142: loop.example/g01263/spec.l01Notches -/
def f142_an : Ann := ⟨[(0, r0 [0]), (1, r0 [0, 7]), (2, r0 [2]), (3, r0 [0, 3]), (4, r0 [0, 3, 11]), (5, r0 [0, 3]), (6, r0 [0, 3, 4]), (7, r0 [0, 3, 4, 32]), (8, r0 [2]), (9, r0 [0, 3, 57]), (10, r0 [2]), (11, r0 [2])], [(4, [0, 3])]⟩
noncomputable def f142_r0 (c : CallF) : RF := rg [0] <| aX 2 (pM (cn (.bool false))) <|
 aXZ
noncomputable def f142_r1 (c : CallF) : RF := rg [0, 7] <| aX 5 (pM 0) <|
 aX 6 (pLen 54 5) <|
 aX 7 (pB .gtr 3 6 (cn (.int .i64 60))) <|
 aXZ
noncomputable def f142_r2 (c : CallF) : RF := rg [2] <| aX 2 (pM (cn (.bool false))) <|
 aXZ
noncomputable def f142_r3 (c : CallF) : RF := rg [0, 3] <| aX 3 (pM (cn (.int .i64 0))) <|
 aXZ
noncomputable def f142_r4 (c : CallF) : RF := rg [0, 3, 11] <| aX 8 (pM 3) <|
 aX 9 (pM 0) <|
 aX 10 (pLen 54 9) <|
 aX 11 (pB .lss 3 8 10) <|
 aXZ
noncomputable def f142_r5 (c : CallF) : RF := rg [0, 3] <| aX 12 (pM 3) <|
 aX 13 (pB .add 3 12 (cn (.int .i64 1))) <|
 aX 3 (pM 13) <|
 aXZ
noncomputable def f142_r6 (c : CallF) : RF := rg [0, 3, 4] <| aX 14 (pM 0) <|
 aX 15 (pM 3) <|
 aX 16 (pI 2 14 15) <|
 aX 17 (pL true 2 16) <|
 aX 4 (pAl 156 2) <|
 aX0 (pS 2 4 17) <|
 aXZ
noncomputable def f142_r7 (c : CallF) : RF := rg [0, 3, 4, 32] <| aX 18 (pF 0 1 4) <|
 aX 19 (pL false 1 18) <|
 aX 20 (fun n e M => keep (aConvI .i64 (eget e 19))) <|
 aX 21 (pK c false 168 [20]) <|
 aX 22 (pU .not 21) <|
 aX 23 (pM 22) <|
 aX 24 (pG 23 false (pF 1 1 4)) <|
 aX 25 (pG 23 false (pL false 1 24)) <|
 aX 26 (pG 23 false (pB .lss 154 25 (cn (.int .i16 0)))) <|
 aX 27 (pP 23 (cn (.bool true)) 26) <|
 aX 28 (pM 27) <|
 aX 29 (pG 28 false (pL true 2 4)) <|
 aX 30 (pG 28 false (pK c false 169 [29])) <|
 aX 31 (pG 28 false (pB .gtr 2 30 (cn (.int .i64 200)))) <|
 aX 32 (pP 28 (cn (.bool true)) 31) <|
 aXZ
noncomputable def f142_r8 (c : CallF) : RF := rg [2] <| aX 2 (pM (cn (.bool false))) <|
 aXZ
noncomputable def f142_r9 (c : CallF) : RF := rgD [0, 3, 57] (aY 33 (pM 3) <|
 aY 34 (pB .gtr 3 33 (cn (.int .i64 0))) <|
 aY 35 (pM 34) <|
 aY 36 (pG 35 true (pF 0 1 4)) <|
 aY 37 (pG 35 true (pL false 1 36)) <|
 aY 38 (pG 35 true (pM 0)) <|
 aY 39 (pG 35 true (pM 3)) <|
 aY 40 (pG 35 true (pB .sub 3 39 (cn (.int .i64 1)))) <|
 aY 41 (pG 35 true (pI 2 38 40)) <|
 aY 42 (pG 35 true (pF 0 1 41)) <|
 aY 43 (pG 35 true (pL false 1 42)) <|
 aY 44 (pG 35 true (pB .gtr 45 37 43)) <|
 aY 45 (pG 35 true (pM 44)) <|
 aY 46 (pG 45 false (pF 1 1 4)) <|
 aY 47 (pG 45 false (pL false 1 46)) <|
 aY 48 (pG 45 false (fun n e M => keep (aConvI .i64 (eget e 47)))) <|
 aY 49 (pG 45 false (pM 0)) <|
 aY 50 (pG 45 false (pM 3)) <|
 aY 51 (pG 45 false (pB .sub 3 50 (cn (.int .i64 1)))) <|
 aY 52 (pG 45 false (pI 2 49 51)) <|
 aY 53 (pG 45 false (pL true 2 52)) <|
 aY 54 (pG 45 false (pK c false 169 [53])) <|
 aY 55 (pG 45 false (pB .leq 2 48 54)) <|
 aY 56 (pG 35 true (pP 45 (cn (.bool true)) 55)) <|
 aY 57 (pP 35 56 (cn (.bool false))) <|
 aYZ)
 (aXZ)
noncomputable def f142_r10 (c : CallF) : RF := rg [2] <| aX 2 (pM (cn (.bool false))) <|
 aXZ
noncomputable def f142_r11 (c : CallF) : RF := rg [2] <| aX 2 (pM (cn (.bool true))) <|
 aXZ
noncomputable def f142_l4 (c : CallF) (k : Nat) : St :=
 (bSeq (bSeq (bReg (f142_r4 c))
 (bCond (.tmp 11) (bEx .nrm) (bEx (.ext 0))))
 (bSeq (bBlock 1 (bSeq (bReg (f142_r6 c))
 (bSeq (bSeq (bReg (f142_r7 c))
 (bCond (.tmp 32) (bSeq (bReg (f142_r8 c))
 (bEx .ret)) (bEx .nrm)))
 (bSeq (bReg (f142_r9 c))
 (bCond (.tmp 57) (bSeq (bReg (f142_r10 c))
 (bEx .ret)) (bEx .nrm))))))
 (bReg (f142_r5 c))))
noncomputable def f142 (c : CallF) (k : Nat) : St :=
 (bSeq (bReg (f142_r0 c))
 (bSeq (bSeq (bReg (f142_r1 c))
 (bCond (.tmp 7) (bSeq (bReg (f142_r2 c))
 (bEx .ret)) (bEx .nrm)))
 (bSeq (bSeq (bReg (f142_r3 c))
 (bBlock 0 (bLoop [0, 3] (f142_l4 c k) k)))
 (bSeq (bReg (f142_r11 c))
 (bEx .ret)))))
theorem f142_eq (c : CallF) (k : Nat) : exec cx c 58 f142_an k (Tryd.f142.body.getD .skip) = f142 c k := by kernel_rfl
/-! ### f143: loop.example/g01263/spec.l01Grain -/
def f143_an : Ann := ⟨[(0, r0 [1]), (1, r0 [1, 3]), (2, r0 [1, 3, 5]), (3, r0 [1, 3]), (4, r0 [1, 3, 17]), (5, r0 [2]), (6, r0 [2])], [(2, [1, 3])]⟩
noncomputable def f143_r0 (c : CallF) : RF := rg [1] <| aX 1 (pBox 16 0) <|
 aX 2 (pM (cn (.bool false))) <|
 aXZ
noncomputable def f143_r1 (c : CallF) : RF := rg [1, 3] <| aX 3 (pM (cn (.int .i64 0))) <|
 aXZ
noncomputable def f143_r2 (c : CallF) : RF := rg [1, 3, 5] <| aX 4 (pM 3) <|
 aX 5 (pB .lss 3 4 (cn (.int .i64 16))) <|
 aXZ
noncomputable def f143_r3 (c : CallF) : RF := rg [1, 3] <| aX 6 (pM 3) <|
 aX 7 (pB .add 3 6 (cn (.int .i64 1))) <|
 aX 3 (pM 7) <|
 aXZ
noncomputable def f143_r4 (c : CallF) : RF := rg [1, 3, 17] <| aX 8 (pM 3) <|
 aX 9 (fun n e M => keep (aIndexP 16 1 (eget e 1) (eget e 8) M)) <|
 aX 10 (pL false 1 9) <|
 aX 11 (pB .lss 45 10 (cn (.int .i8 (-3)))) <|
 aX 12 (pM 11) <|
 aX 13 (pG 12 false (pM 3)) <|
 aX 14 (pG 12 false (fun n e M => keep (aIndexP 16 1 (eget e 1) (eget e 13) M))) <|
 aX 15 (pG 12 false (pL false 1 14)) <|
 aX 16 (pG 12 false (pB .gtr 45 15 (cn (.int .i8 3)))) <|
 aX 17 (pP 12 (cn (.bool true)) 16) <|
 aXZ
noncomputable def f143_r5 (c : CallF) : RF := rg [2] <| aX 2 (pM (cn (.bool false))) <|
 aXZ
noncomputable def f143_r6 (c : CallF) : RF := rg [2] <| aX 2 (pM (cn (.bool true))) <|
 aXZ
noncomputable def f143_l2 (c : CallF) (k : Nat) : St :=
 (bSeq (bSeq (bReg (f143_r2 c))
 (bCond (.tmp 5) (bEx .nrm) (bEx (.ext 0))))
 (bSeq (bBlock 1 (bSeq (bReg (f143_r4 c))
 (bCond (.tmp 17) (bSeq (bReg (f143_r5 c))
 (bEx .ret)) (bEx .nrm))))
 (bReg (f143_r3 c))))
noncomputable def f143 (c : CallF) (k : Nat) : St :=
 (bSeq (bReg (f143_r0 c))
 (bSeq (bSeq (bReg (f143_r1 c))
 (bBlock 0 (bLoop [1, 3] (f143_l2 c k) k)))
 (bSeq (bReg (f143_r6 c))
 (bEx .ret))))
theorem f143_eq (c : CallF) (k : Nat) : exec cx c 18 f143_an k (Tryd.f143.body.getD .skip) = f143 c k := by kernel_rfl
/-! ### f144: loop.example/g01263/spec.l01Letters -/
def f144_an : Ann := ⟨[(0, r0 []), (1, r0 [0])], []⟩
noncomputable def f144_r0 (c : CallF) : RF := rg [] <| aX 0 (pM (cn (.str []))) <|
 aXZ
noncomputable def f144_r1 (c : CallF) : RF := rg [0] <| aX 0 (pM (cn (.str [100, 115, 108, 118, 99, 109]))) <|
 aXZ
noncomputable def f144 (c : CallF) (k : Nat) : St :=
 (bSeq (bReg (f144_r0 c))
 (bSeq (bReg (f144_r1 c))
 (bEx .ret)))
theorem f144_eq (c : CallF) (k : Nat) : exec cx c 1 f144_an k (Tryd.f144.body.getD .skip) = f144 c k := by kernel_rfl
/-! ### f146: loop.example/g01263/impl.ValidGrain -/
def f146_an : Ann := ⟨[(0, r0 [1]), (1, r0 [5, 6]), (2, r0 [5, 6, 7]), (3, r0 [4, 5, 6]), (4, r0 [5, 6, 14]), (5, r0 [2]), (6, r0 [5, 6]), (7, r0 [2])], [(2, [5, 6])]⟩
noncomputable def f146_r0 (c : CallF) : RF := rg [1] <| aX 1 (pBox 16 0) <|
 aX 2 (pM (cn (.bool false))) <|
 aXZ
noncomputable def f146_r1 (c : CallF) : RF := rg [5, 6] <| aX 5 (pL true 16 1) <|
 aX 6 (pM (cn (.int .i64 0))) <|
 aXZ
noncomputable def f146_r2 (c : CallF) : RF := rg [5, 6, 7] <| aX 7 (pB .lss 3 6 (cn (.int .i64 16))) <|
 aXZ
noncomputable def f146_r3 (c : CallF) : RF := rg [4, 5, 6] <| aX 8 (fun n e M => keep (aIndexA false 16 1 (eget e 5) (eget e 6))) <|
 aX 4 (pM 8) <|
 aXZ
noncomputable def f146_r4 (c : CallF) : RF := rg [5, 6, 14] <| aX 9 (pM 4) <|
 aX 10 (pB .lss 45 9 (cn (.int .i8 (-3)))) <|
 aX 11 (pM 10) <|
 aX 12 (pG 11 false (pM 4)) <|
 aX 13 (pG 11 false (pB .gtr 45 12 (cn (.int .i8 3)))) <|
 aX 14 (pP 11 (cn (.bool true)) 13) <|
 aXZ
noncomputable def f146_r5 (c : CallF) : RF := rg [2] <| aX 2 (pM (cn (.bool false))) <|
 aXZ
noncomputable def f146_r6 (c : CallF) : RF := rg [5, 6] <| aX 15 (pB .add 3 6 (cn (.int .i64 1))) <|
 aX 6 (pM 15) <|
 aXZ
noncomputable def f146_r7 (c : CallF) : RF := rg [2] <| aX 2 (pM (cn (.bool true))) <|
 aXZ
noncomputable def f146_l2 (c : CallF) (k : Nat) : St :=
 (bSeq (bReg (f146_r2 c))
 (bSeq (bCond (.tmp 7) (bEx .nrm) (bEx (.ext 0)))
 (bSeq (bBlock 1 (bSeq (bReg (f146_r3 c))
 (bSeq (bReg (f146_r4 c))
 (bCond (.tmp 14) (bSeq (bReg (f146_r5 c))
 (bEx .ret)) (bEx .nrm)))))
 (bReg (f146_r6 c)))))
noncomputable def f146 (c : CallF) (k : Nat) : St :=
 (bSeq (bReg (f146_r0 c))
 (bSeq (bSeq (bReg (f146_r1 c))
 (bBlock 0 (bLoop [5, 6] (f146_l2 c k) k)))
 (bSeq (bReg (f146_r7 c))
 (bEx .ret))))
theorem f146_eq (c : CallF) (k : Nat) : exec cx c 16 f146_an k (Tryd.f146.body.getD .skip) = f146 c k := by kernel_rfl
/-! ### f147: loop.example/g01263/impl.isKind -/
def f147_an : Ann := ⟨[(0, r0 [0]), (1, r0 [2])], []⟩
noncomputable def f147_r0 (c : CallF) : RF := rg [0] <| aX 2 (pM (cn (.bool false))) <|
 aXZ
noncomputable def f147_r1 (c : CallF) : RF := rg [2] <| aX 3 (pM 0) <|
 aX 4 (pB .geq 2 3 (cn (.int .i64 0))) <|
 aX 5 (pM 4) <|
 aX 6 (pG 5 true (pM 0)) <|
 aX 7 (pG 5 true (pB .leq 2 6 (cn (.int .i64 5)))) <|
 aX 8 (pP 5 7 (cn (.bool false))) <|
 aX 2 (pM 8) <|
 aXZ
noncomputable def f147 (c : CallF) (k : Nat) : St :=
 (bSeq (bReg (f147_r0 c))
 (bSeq (bReg (f147_r1 c))
 (bEx .ret)))
theorem f147_eq (c : CallF) (k : Nat) : exec cx c 9 f147_an k (Tryd.f147.body.getD .skip) = f147 c k := by kernel_rfl
/-! ### f148: (loop.example/g01263/impl.Notch).end -/
def f148_an : Ann := ⟨[(0, r0 [1]), (1, r0 [2])], []⟩
noncomputable def f148_r0 (c : CallF) : RF := rg [1] <| aX 1 (pBox 2 0) <|
 aX 2 (pM (cn (.int .i64 0))) <|
 aXZ
noncomputable def f148_r1 (c : CallF) : RF := rgD [2] (aY 3 (pF 1 1 1) <|
 aY 4 (pL false 1 3) <|
 aY 5 (fun n e M => keep (aConvI .i64 (eget e 4))) <|
 aY 6 (pF 0 1 1) <|
 aY 7 (pL false 1 6) <|
 aY 8 (fun n e M => keep (aConvI .i64 (eget e 7))) <|
 aY 9 (pK c false 170 [8]) <|
 aY 10 (pB .add 2 5 9) <|
 aY 2 (pM 10) <|
 aYZ)
 (aXZ)
noncomputable def f148 (c : CallF) (k : Nat) : St :=
 (bSeq (bReg (f148_r0 c))
 (bSeq (bReg (f148_r1 c))
 (bEx .ret)))
theorem f148_eq (c : CallF) (k : Nat) : exec cx c 11 f148_an k (Tryd.f148.body.getD .skip) = f148 c k := by kernel_rfl
/-! ### f149: loop.example/g01263/laws.eqNotch -/
def f149_an : Ann := ⟨[(0, r0 [2, 3]), (1, r0 [2, 3, 9]), (2, r0 [4]), (3, r0 [14]), (4, r0 [4]), (5, r0 [4])], []⟩
noncomputable def f149_r0 (c : CallF) : RF := rg [2, 3] <| aX 2 (pBox 2 0) <|
 aX 3 (pBox 2 1) <|
 aX 4 (pM (cn (.bool false))) <|
 aXZ
noncomputable def f149_r1 (c : CallF) : RF := rg [2, 3, 9] <| aX 5 (pF 0 1 2) <|
 aX 6 (pL false 1 5) <|
 aX 7 (pF 0 1 3) <|
 aX 8 (pL false 1 7) <|
 aX 9 (pB .neq 45 6 8) <|
 aXZ
noncomputable def f149_r2 (c : CallF) : RF := rg [4] <| aX 4 (pM (cn (.bool false))) <|
 aXZ
noncomputable def f149_r3 (c : CallF) : RF := rg [14] <| aX 10 (pF 1 1 2) <|
 aX 11 (pL false 1 10) <|
 aX 12 (pF 1 1 3) <|
 aX 13 (pL false 1 12) <|
 aX 14 (pB .neq 154 11 13) <|
 aXZ
noncomputable def f149_r4 (c : CallF) : RF := rg [4] <| aX 4 (pM (cn (.bool false))) <|
 aXZ
noncomputable def f149_r5 (c : CallF) : RF := rg [4] <| aX 4 (pM (cn (.bool true))) <|
 aXZ
noncomputable def f149 (c : CallF) (k : Nat) : St :=
 (bSeq (bReg (f149_r0 c))
 (bSeq (bSeq (bReg (f149_r1 c))
 (bCond (.tmp 9) (bSeq (bReg (f149_r2 c))
 (bEx .ret)) (bEx .nrm)))
 (bSeq (bSeq (bReg (f149_r3 c))
 (bCond (.tmp 14) (bSeq (bReg (f149_r4 c))
 (bEx .ret)) (bEx .nrm)))
 (bSeq (bReg (f149_r5 c))
 (bEx .ret)))))
theorem f149_eq (c : CallF) (k : Nat) : exec cx c 15 f149_an k (Tryd.f149.body.getD .skip) = f149 c k := by kernel_rfl
/-! ### f155: loop.example/g01263/spec.l01ReadNotch -/
def f155_an : Ann := ⟨[(0, r0 [0, 2]), (1, r0 [0, 2, 4]), (2, r0 [0, 2, 4, 13]), (3, r0 [0, 2, 4]), (4, r0 [0, 2, 4, 21]), (5, r0 [2, 4, 5, 6]), (6, r0 [2, 3]), (7, r0 [2, 3])], [(2, [0, 2, 4])]⟩
noncomputable def f155_r0 (c : CallF) : RF := rg [0, 2] <| aX 2 (pAl 156 2) <|
 aX 3 (pM (cn (.bool false))) <|
 aXZ
noncomputable def f155_r1 (c : CallF) : RF := rg [0, 2, 4] <| aX 4 (pM (cn (.int .i64 0))) <|
 aXZ
noncomputable def f155_r2 (c : CallF) : RF := rg [0, 2, 4, 13] <| aX 7 (pM 4) <|
 aX 8 (pB .lss 3 7 (cn (.int .i64 6))) <|
 aX 9 (pM 8) <|
 aX 10 (pG 9 true (pM 0)) <|
 aX 11 (pG 9 true (pLen 9 10)) <|
 aX 12 (pG 9 true (pB .gtr 3 11 (cn (.int .i64 1)))) <|
 aX 13 (pP 9 12 (cn (.bool false))) <|
 aXZ
noncomputable def f155_r3 (c : CallF) : RF := rg [0, 2, 4] <| aX 14 (pM 4) <|
 aX 15 (pB .add 3 14 (cn (.int .i64 1))) <|
 aX 4 (pM 15) <|
 aXZ
noncomputable def f155_r4 (c : CallF) : RF := rgD [0, 2, 4, 21] (aY 16 (pK c false 144 []) <|
 aY 17 (pM 4) <|
 aY 18 (fun n e M => keep (aIndexB (eget e 16) (eget e 17))) <|
 aY 19 (pM 0) <|
 aY 20 (fun n e M => keep (aIndexB (eget e 19) (.int .i64 0))) <|
 aY 21 (pB .eql 5 18 20) <|
 aYZ)
 (aXZ)
noncomputable def f155_r5 (c : CallF) : RF := rg [2, 4, 5, 6] <| aX 23 (pM 0) <|
 aX 24 (fun n e M => keep (aSliceS (some (.int .i64 1)) none (eget e 23))) <|
 aX 25 (pK c false 125 [24]) <|
 aX 22 (pM 25) <|
 aX 26 (pE 0 22) <|
 aX 27 (pE 1 22) <|
 aX 5 (pM 26) <|
 aX 6 (pM 27) <|
 aXZ
noncomputable def f155_r6 (c : CallF) : RF := rg [2, 3] <| aX 28 (pM 4) <|
 aX 29 (fun n e M => keep (aConvI .i8 (eget e 28))) <|
 aX 30 (pM 5) <|
 aX 31 (pK c false 174 [30, (cn (.int .i64 1000))]) <|
 aX 32 (fun n e M => keep (aConvI .i16 (eget e 31))) <|
 aX 33 (fun n e M => keep (aBuild (zeroOf cx.P 156) [(0, 1, (eget e 29)), (1, 1, (eget e 32))] M)) <|
 aX 34 (pM 6) <|
 aX0 (pS 2 2 33) <|
 aX 3 (pM 34) <|
 aXZ
noncomputable def f155_r7 (c : CallF) : RF := rg [2, 3] <| aX 35 (fun n e M => keep (aBuild (zeroOf cx.P 156) [] M)) <|
 aX0 (pS 2 2 35) <|
 aX 3 (pM (cn (.bool false))) <|
 aXZ
noncomputable def f155_l2 (c : CallF) (k : Nat) : St :=
 (bSeq (bSeq (bReg (f155_r2 c))
 (bCond (.tmp 13) (bEx .nrm) (bEx (.ext 0))))
 (bSeq (bBlock 1 (bSeq (bReg (f155_r4 c))
 (bCond (.tmp 21) (bSeq (bReg (f155_r5 c))
 (bSeq (bReg (f155_r6 c))
 (bEx .ret))) (bEx .nrm))))
 (bReg (f155_r3 c))))
noncomputable def f155 (c : CallF) (k : Nat) : St :=
 (bSeq (bReg (f155_r0 c))
 (bSeq (bSeq (bReg (f155_r1 c))
 (bBlock 0 (bLoop [0, 2, 4] (f155_l2 c k) k)))
 (bSeq (bReg (f155_r7 c))
 (bEx .ret))))
theorem f155_eq (c : CallF) (k : Nat) : exec cx c 36 f155_an k (Tryd.f155.body.getD .skip) = f155 c k := by kernel_rfl
/-! ### f168: loop.example/g01263/spec.l01Kind -/
def f168_an : Ann := ⟨[(0, r0 [0]), (1, r0 [2])], []⟩
noncomputable def f168_r0 (c : CallF) : RF := rg [0] <| aX 2 (pM (cn (.bool false))) <|
 aXZ
noncomputable def f168_r1 (c : CallF) : RF := rg [2] <| aX 3 (pM 0) <|
 aX 4 (pK c false 84 [3, (cn (.int .i64 0)), (cn (.int .i64 5))]) <|
 aX 2 (pM 4) <|
 aXZ
noncomputable def f168 (c : CallF) (k : Nat) : St :=
 (bSeq (bReg (f168_r0 c))
 (bSeq (bReg (f168_r1 c))
 (bEx .ret)))
theorem f168_eq (c : CallF) (k : Nat) : exec cx c 5 f168_an k (Tryd.f168.body.getD .skip) = f168 c k := by kernel_rfl
/-! ### f169: loop.example/g01263/spec.l01Ends -/
def f169_an : Ann := ⟨[(0, r0 [1]), (1, r0 [2])], []⟩
noncomputable def f169_r0 (c : CallF) : RF := rg [1] <| aX 1 (pBox 2 0) <|
 aX 2 (pM (cn (.int .i64 0))) <|
 aXZ
noncomputable def f169_r1 (c : CallF) : RF := rgD [2] (aY 3 (pF 1 1 1) <|
 aY 4 (pL false 1 3) <|
 aY 5 (fun n e M => keep (aConvI .i64 (eget e 4))) <|
 aY 6 (pK c false 186 []) <|
 aY 7 (pF 0 1 1) <|
 aY 8 (pL false 1 7) <|
 aY 9 (pI 1 6 8) <|
 aY 10 (pL false 1 9) <|
 aY 11 (pB .add 2 5 10) <|
 aY 2 (pM 11) <|
 aYZ)
 (aXZ)
noncomputable def f169 (c : CallF) (k : Nat) : St :=
 (bSeq (bReg (f169_r0 c))
 (bSeq (bReg (f169_r1 c))
 (bEx .ret)))
theorem f169_eq (c : CallF) (k : Nat) : exec cx c 12 f169_an k (Tryd.f169.body.getD .skip) = f169 c k := by kernel_rfl
/-! ### f170: loop.example/g01263/impl.width -/
def f170_an : Ann := ⟨[(0, r0 [0]), (1, r0 [2])], []⟩
noncomputable def f170_r0 (c : CallF) : RF := rg [0] <| aX 2 (pM (cn (.int .i64 0))) <|
 aXZ
noncomputable def f170_r1 (c : CallF) : RF := rg [2] <| aX 3 (fun n e M => keep (aLitI 2 1 [(.int .i64 1), (.int .i64 2), (.int .i64 4), (.int .i64 6), (.int .i64 9), (.int .i64 12)] M)) <|
 aX 4 (pM 0) <|
 aX 5 (pI 1 3 4) <|
 aX 6 (pL false 1 5) <|
 aX 2 (pM 6) <|
 aXZ
noncomputable def f170 (c : CallF) (k : Nat) : St :=
 (bSeq (bReg (f170_r0 c))
 (bSeq (bReg (f170_r1 c))
 (bEx .ret)))
theorem f170_eq (c : CallF) (k : Nat) : exec cx c 7 f170_an k (Tryd.f170.body.getD .skip) = f170 c k := by kernel_rfl
/-! ### f174: loop.example/g01263/spec.l00Min -/
def f174_an : Ann := ⟨[(0, r0 [0, 1]), (1, r0 [0, 1, 7]), (2, r0 [4]), (3, r0 [4])], []⟩
noncomputable def f174_r0 (c : CallF) : RF := rg [0, 1] <| aX 4 (pM (cn (.int .i64 0))) <|
 aXZ
noncomputable def f174_r1 (c : CallF) : RF := rg [0, 1, 7] <| aX 5 (pM 0) <|
 aX 6 (pM 1) <|
 aX 7 (pB .lss 2 5 6) <|
 aXZ
noncomputable def f174_r2 (c : CallF) : RF := rg [4] <| aX 8 (pM 0) <|
 aX 4 (pM 8) <|
 aXZ
noncomputable def f174_r3 (c : CallF) : RF := rg [4] <| aX 9 (pM 1) <|
 aX 4 (pM 9) <|
 aXZ
noncomputable def f174 (c : CallF) (k : Nat) : St :=
 (bSeq (bReg (f174_r0 c))
 (bSeq (bSeq (bReg (f174_r1 c))
 (bCond (.tmp 7) (bSeq (bReg (f174_r2 c))
 (bEx .ret)) (bEx .nrm)))
 (bSeq (bReg (f174_r3 c))
 (bEx .ret))))
theorem f174_eq (c : CallF) (k : Nat) : exec cx c 10 f174_an k (Tryd.f174.body.getD .skip) = f174 c k := by kernel_rfl
/-! ### f186: loop.example/g01263/spec.l01Widths -/
def f186_an : Ann := ⟨[(0, r0 []), (1, r0 [0])], []⟩
noncomputable def f186_r0 (c : CallF) : RF := rg [] <| aX 0 (pM (cn .nils)) <|
 aXZ
noncomputable def f186_r1 (c : CallF) : RF := rg [0] <| aX 1 (fun n e M => keep (aLitI 2 1 [(.int .i64 1), (.int .i64 2), (.int .i64 4), (.int .i64 6), (.int .i64 9), (.int .i64 12)] M)) <|
 aX 0 (pM 1) <|
 aXZ
noncomputable def f186 (c : CallF) (k : Nat) : St :=
 (bSeq (bReg (f186_r0 c))
 (bSeq (bReg (f186_r1 c))
 (bEx .ret)))
theorem f186_eq (c : CallF) (k : Nat) : exec cx c 2 f186_an k (Tryd.f186.body.getD .skip) = f186 c k := by kernel_rfl
def anns : List (Nat × Ann) := [(7, f7_an), (23, f23_an), (28, f28_an), (29, f29_an), (30, f30_an), (31, f31_an), (56, f56_an), (60, f60_an), (63, f63_an), (64, f64_an), (65, f65_an), (67, f67_an), (71, f71_an), (72, f72_an), (74, f74_an), (75, f75_an), (76, f76_an), (77, f77_an), (78, f78_an), (79, f79_an), (84, f84_an), (87, f87_an), (98, f98_an), (99, f99_an), (105, f105_an), (106, f106_an), (107, f107_an), (108, f108_an), (109, f109_an), (118, f118_an), (121, f121_an), (122, f122_an), (123, f123_an), (124, f124_an), (125, f125_an), (142, f142_an), (143, f143_an), (144, f144_an), (146, f146_an), (147, f147_an), (148, f148_an), (149, f149_an), (155, f155_an), (168, f168_an), (169, f169_an), (170, f170_an), (174, f174_an), (186, f186_an)]
noncomputable def CN0 : Nat → CallF := callN cx (Go.Ab.look anns) (fun _ _ _ => none) (fun _ => false)
def isP (f : Nat) : Bool := has [73, 114, 120] f
noncomputable def primF : CallF := splitNil (callN cx (Go.Ab.look anns) (fun _ _ _ => none) (fun _ => false) 3)
noncomputable def CN : Nat → CallF := callN cx (Go.Ab.look anns) (withLib libT primF) isP
end Go.Proofs.YtbhbmgmnnkcmcaaDoor

/- Printed by a program of ours (ext.py). -/
import Derived.Test.YtbhbmgmnnkcmcaaDoorAbLib
import Derived.Test.YtbhbmgmnnkcmcaaDoorProg
set_option linter.unusedVariables false
set_option linter.unusedSimpArgs false
set_option maxRecDepth 100000
set_option maxHeartbeats 2000000
namespace Go.Proofs.YtbhbmgmnnkcmcaaDoor
open Go Go.Ab
noncomputable def cx : Cx := ⟨Tryd.prog, fun f => has [35] f⟩
noncomputable abbrev pB := pB_ cx.P
noncomputable abbrev pLen := pLen_ cx.P
noncomputable abbrev pAl := pAl_ cx.P
noncomputable abbrev pK := pK_ cx
/-! ### f8: loop.example/g01263/laws.FnExactReadDeals -/
def f8_an : Ann := ⟨[(0, r0 [0]), (1, r0 [0, 13]), (2, r0 [2]), (3, r0 [0, 3, 4]), (4, ⟨[], [1], [], [], [0, 3, 4, 5, 6]⟩), (5, r0 [0, 3, 4, 5, 32]), (6, r0 [2]), (7, r0 [0, 3, 4, 5, 7]), (8, r0 [0, 3, 4, 5, 7]), (9, r0 [0, 3, 4, 5, 7, 8]), (10, r0 [0, 3, 4, 5, 7, 8]), (11, r0 [0, 3, 4, 5, 7, 8, 40]), (12, r0 [2]), (13, r0 [0, 3, 4, 5, 7, 43]), (14, r0 [2]), (15, r0 [3, 4, 5, 7, 9, 10]), (16, r0 [5, 7, 57]), (17, r0 [2]), (18, r0 [5, 7, 8]), (19, r0 [7, 8]), (20, r0 [7, 8, 62]), (21, r0 [2]), (22, r0 [65]), (23, r0 [2]), (24, r0 [2])], []⟩
noncomputable def f8_r0 (c : CallF) : RF := rg [0] <| aX 2 (pM (cn (.bool false))) <|
 aXZ
noncomputable def f8_r1 (c : CallF) : RF := rg [0, 13] <| aX 11 (pM 0) <|
 aX 12 (pLen 9 11) <|
 aX 13 (pB .gtr 3 12 (cn (.int .i64 1048576))) <|
 aXZ
noncomputable def f8_r2 (c : CallF) : RF := rg [2] <| aX 2 (pM (cn (.bool true))) <|
 aXZ
noncomputable def f8_r3 (c : CallF) : RF := rg [0, 3, 4] <| aX 15 (pM 0) <|
 aX 16 (pK c false 32 [15]) <|
 aX 14 (pM 16) <|
 aX 17 (pE 0 14) <|
 aX 18 (pE 1 14) <|
 aX 3 (pM 17) <|
 aX 4 (pM 18) <|
 aXZ
noncomputable def f8_r4 (c : CallF) : RF := rg [0, 3, 4, 5, 6] <| aX 20 (pM 0) <|
 aX 21 (pK c true 33 [20]) <|
 aX 19 (pM 21) <|
 aX 22 (pE 0 19) <|
 aX 23 (pE 1 19) <|
 aX 5 (pM 22) <|
 aX 6 (pM 23) <|
 aXZ
noncomputable def f8_r5 (c : CallF) : RF := rg [0, 3, 4, 5, 32] <| aX 24 (pM 5) <|
 aX 25 (pM 3) <|
 aX 26 (pK c false 34 [24, 25]) <|
 aX 27 (pU .not 26) <|
 aX 28 (pM 27) <|
 aX 29 (pG 28 false (pM 6)) <|
 aX 30 (pG 28 false (pM 4)) <|
 aX 31 (pG 28 false (pB .neq 2 29 30)) <|
 aX 32 (pP 28 (cn (.bool true)) 31) <|
 aXZ
noncomputable def f8_r6 (c : CallF) : RF := rg [2] <| aX 2 (pM (cn (.bool false))) <|
 aXZ
noncomputable def f8_r7 (c : CallF) : RF := rg [0, 3, 4, 5, 7] <| aX 7 (pM (cn (.int .i64 1))) <|
 aXZ
noncomputable def f8_r8 (c : CallF) : RF := rg [0, 3, 4, 5, 7] <| aX 33 (pM 5) <|
 aX 34 (pM 7) <|
 aX 35 (pK c false 35 [33, 34]) <|
 aX 7 (pM 35) <|
 aXZ
noncomputable def f8_r9 (c : CallF) : RF := rg [0, 3, 4, 5, 7, 8] <| aX 8 (pM (cn (.int .i64 1))) <|
 aXZ
noncomputable def f8_r10 (c : CallF) : RF := rg [0, 3, 4, 5, 7, 8] <| aX 36 (pM 5) <|
 aX 37 (pM 8) <|
 aX 38 (pK c false 36 [36, 37]) <|
 aX 8 (pM 38) <|
 aXZ
noncomputable def f8_r11 (c : CallF) : RF := rg [0, 3, 4, 5, 7, 8, 40] <| aX 39 (pM 8) <|
 aX 40 (pB .lss 3 39 (cn (.int .i64 0))) <|
 aXZ
noncomputable def f8_r12 (c : CallF) : RF := rg [2] <| aX 2 (pM (cn (.bool false))) <|
 aXZ
noncomputable def f8_r13 (c : CallF) : RF := rg [0, 3, 4, 5, 7, 43] <| aX 41 (pM 8) <|
 aX 42 (pM 7) <|
 aX 43 (pB .neq 3 41 42) <|
 aXZ
noncomputable def f8_r14 (c : CallF) : RF := rg [2] <| aX 2 (pM (cn (.bool false))) <|
 aXZ
noncomputable def f8_r15 (c : CallF) : RF := rg [3, 4, 5, 7, 9, 10] <| aX 45 (pM 0) <|
 aX 46 (pK c false 33 [45]) <|
 aX 44 (pM 46) <|
 aX 47 (pE 0 44) <|
 aX 48 (pE 1 44) <|
 aX 9 (pM 47) <|
 aX 10 (pM 48) <|
 aXZ
noncomputable def f8_r16 (c : CallF) : RF := rg [5, 7, 57] <| aX 49 (pM 9) <|
 aX 50 (pM 3) <|
 aX 51 (pK c false 34 [49, 50]) <|
 aX 52 (pU .not 51) <|
 aX 53 (pM 52) <|
 aX 54 (pG 53 false (pM 10)) <|
 aX 55 (pG 53 false (pM 4)) <|
 aX 56 (pG 53 false (pB .neq 2 54 55)) <|
 aX 57 (pP 53 (cn (.bool true)) 56) <|
 aXZ
noncomputable def f8_r17 (c : CallF) : RF := rg [2] <| aX 2 (pM (cn (.bool false))) <|
 aXZ
noncomputable def f8_r18 (c : CallF) : RF := rg [5, 7, 8] <| aX 8 (pM (cn (.int .i64 1))) <|
 aXZ
noncomputable def f8_r19 (c : CallF) : RF := rg [7, 8] <| aX 58 (pM 5) <|
 aX 59 (pM 8) <|
 aX 60 (pK c false 36 [58, 59]) <|
 aX 8 (pM 60) <|
 aXZ
noncomputable def f8_r20 (c : CallF) : RF := rg [7, 8, 62] <| aX 61 (pM 8) <|
 aX 62 (pB .lss 3 61 (cn (.int .i64 0))) <|
 aXZ
noncomputable def f8_r21 (c : CallF) : RF := rg [2] <| aX 2 (pM (cn (.bool false))) <|
 aXZ
noncomputable def f8_r22 (c : CallF) : RF := rg [65] <| aX 63 (pM 8) <|
 aX 64 (pM 7) <|
 aX 65 (pB .neq 3 63 64) <|
 aXZ
noncomputable def f8_r23 (c : CallF) : RF := rg [2] <| aX 2 (pM (cn (.bool false))) <|
 aXZ
noncomputable def f8_r24 (c : CallF) : RF := rg [2] <| aX 2 (pM (cn (.bool true))) <|
 aXZ
noncomputable def f8 (c : CallF) (k : Nat) : St :=
 (bSeq (bReg (f8_r0 c))
 (bSeq (bSeq (bReg (f8_r1 c))
 (bCond (.tmp 13) (bSeq (bReg (f8_r2 c))
 (bEx .ret)) (bEx .nrm)))
 (bSeq (bReg (f8_r3 c))
 (bSeq (bReg (f8_r4 c))
 (bSeq (bSeq (bReg (f8_r5 c))
 (bCond (.tmp 32) (bSeq (bReg (f8_r6 c))
 (bEx .ret)) (bEx .nrm)))
 (bSeq (bReg (f8_r7 c))
 (bSeq (bReg (f8_r8 c))
 (bSeq (bReg (f8_r9 c))
 (bSeq (bReg (f8_r10 c))
 (bSeq (bSeq (bReg (f8_r11 c))
 (bCond (.tmp 40) (bSeq (bReg (f8_r12 c))
 (bEx .ret)) (bEx .nrm)))
 (bSeq (bSeq (bReg (f8_r13 c))
 (bCond (.tmp 43) (bSeq (bReg (f8_r14 c))
 (bEx .ret)) (bEx .nrm)))
 (bSeq (bReg (f8_r15 c))
 (bSeq (bSeq (bReg (f8_r16 c))
 (bCond (.tmp 57) (bSeq (bReg (f8_r17 c))
 (bEx .ret)) (bEx .nrm)))
 (bSeq (bReg (f8_r18 c))
 (bSeq (bReg (f8_r19 c))
 (bSeq (bSeq (bReg (f8_r20 c))
 (bCond (.tmp 62) (bSeq (bReg (f8_r21 c))
 (bEx .ret)) (bEx .nrm)))
 (bSeq (bSeq (bReg (f8_r22 c))
 (bCond (.tmp 65) (bSeq (bReg (f8_r23 c))
 (bEx .ret)) (bEx .nrm)))
 (bSeq (bReg (f8_r24 c))
 (bEx .ret)))))))))))))))))))
theorem f8_eq (c : CallF) (k : Nat) : exec cx c 66 f8_an k (Tryd.f8.body.getD .skip) = f8 c k := by kernel_rfl
/-! ### f32: loop.example/g01263/spec.ReadDeals -/
def f32_an : Ann := ⟨[(0, r0 [0]), (1, r0 [4]), (2, ⟨[0], [], [], [], [4, 5]⟩), (3, r0 [4, 5, 6]), (4, r0 [4, 5, 6, 7]), (5, r0 [4, 5, 6, 7, 33]), (6, r0 [4, 5, 6, 7]), (7, r0 [4, 5, 7, 8, 9]), (8, r0 [4, 5, 6, 7, 8]), (9, ⟨[3], [], [], [], [4, 5, 6, 7]⟩), (10, r0 [5, 50]), (11, r0 [2, 3]), (12, r0 [2, 3])], [(5, [4, 5, 6, 7])]⟩
noncomputable def f32_r0 (c : CallF) : RF := rg [0] <| aX 2 (pM (cn .nils)) <|
 aX 3 (pM (cn (.int .i64 0))) <|
 aXZ
noncomputable def f32_r1 (c : CallF) : RF := rg [4] <| aX 10 (pM 0) <|
 aX 11 (pK c false 65 [10, (cn (.int .u8 10))]) <|
 aX 4 (pM 11) <|
 aXZ
noncomputable def f32_r2 (c : CallF) : RF := rg [4, 5] <| aX 12 (fun n e M => aLitO false n 126 6 [] M) <|
 aX 5 (pM 12) <|
 aXZ
noncomputable def f32_r3 (c : CallF) : RF := rg [4, 5, 6] <| aX 13 (pM 4) <|
 aX 14 (pM 4) <|
 aX 15 (pLen 86 14) <|
 aX 16 (pB .sub 3 15 (cn (.int .i64 1))) <|
 aX 17 (pI 1 13 16) <|
 aX 18 (pL false 1 17) <|
 aX 19 (pB .eql 9 18 (cn (.str []))) <|
 aX 20 (pM 19) <|
 aX 21 (pG 20 true (pM 4)) <|
 aX 22 (pG 20 true (pLen 86 21)) <|
 aX 23 (pG 20 true (pB .sub 3 22 (cn (.int .i64 1)))) <|
 aX 24 (pG 20 true (pB .leq 3 23 (cn (.int .i64 80)))) <|
 aX 25 (pP 20 24 (cn (.bool false))) <|
 aX 6 (pM 25) <|
 aXZ
noncomputable def f32_r4 (c : CallF) : RF := rg [4, 5, 6, 7] <| aX 7 (pM (cn (.int .i64 0))) <|
 aXZ
noncomputable def f32_r5 (c : CallF) : RF := rg [4, 5, 6, 7, 33] <| aX 26 (pM 7) <|
 aX 27 (pB .add 3 26 (cn (.int .i64 1))) <|
 aX 28 (pM 4) <|
 aX 29 (pLen 86 28) <|
 aX 30 (pB .lss 3 27 29) <|
 aX 31 (pM 30) <|
 aX 32 (pG 31 true (pM 6)) <|
 aX 33 (pP 31 32 (cn (.bool false))) <|
 aXZ
noncomputable def f32_r6 (c : CallF) : RF := rg [4, 5, 6, 7] <| aX 34 (pM 7) <|
 aX 35 (pB .add 3 34 (cn (.int .i64 1))) <|
 aX 7 (pM 35) <|
 aXZ
noncomputable def f32_r7 (c : CallF) : RF := rg [4, 5, 7, 8, 9] <| aX 37 (pM 4) <|
 aX 38 (pM 7) <|
 aX 39 (pI 1 37 38) <|
 aX 40 (pL false 1 39) <|
 aX 41 (pK c false 80 [40]) <|
 aX 36 (pM 41) <|
 aX 42 (pE 0 36) <|
 aX 43 (pE 1 36) <|
 aX 8 (pAl 126 6) <|
 aX0 (pS 6 8 42) <|
 aX 9 (pM 43) <|
 aXZ
noncomputable def f32_r8 (c : CallF) : RF := rg [4, 5, 6, 7, 8] <| aX 44 (pM 9) <|
 aX 6 (pM 44) <|
 aXZ
noncomputable def f32_r9 (c : CallF) : RF := rg [4, 5, 6, 7] <| aX 45 (pM 5) <|
 aX 46 (pL true 6 8) <|
 aX 47 (fun n e M => keep (aLitI 126 6 [(eget e 46)] M)) <|
 aX 48 (fun n e M => aAppO n 126 6 48 (eget e 45) (eget e 47) M) <|
 aX 5 (pM 48) <|
 aXZ
noncomputable def f32_r10 (c : CallF) : RF := rg [5, 50] <| aX 49 (pM 6) <|
 aX 50 (pU .not 49) <|
 aXZ
noncomputable def f32_r11 (c : CallF) : RF := rg [2, 3] <| aX 51 (fun n e M => keep (aLitI 126 6 [] M)) <|
 aX 2 (pM 51) <|
 aX 3 (pM (cn (.int .i64 5))) <|
 aXZ
noncomputable def f32_r12 (c : CallF) : RF := rg [2, 3] <| aX 52 (pM 5) <|
 aX 2 (pM 52) <|
 aX 3 (pM (cn (.int .i64 0))) <|
 aXZ
noncomputable def f32_l5 (c : CallF) (k : Nat) : St :=
 (bSeq (bSeq (bReg (f32_r5 c))
 (bCond (.tmp 33) (bEx .nrm) (bEx (.ext 0))))
 (bSeq (bBlock 1 (bSeq (bReg (f32_r7 c))
 (bSeq (bReg (f32_r8 c))
 (bReg (f32_r9 c)))))
 (bReg (f32_r6 c))))
noncomputable def f32 (c : CallF) (k : Nat) : St :=
 (bSeq (bReg (f32_r0 c))
 (bSeq (bReg (f32_r1 c))
 (bSeq (bReg (f32_r2 c))
 (bSeq (bReg (f32_r3 c))
 (bSeq (bSeq (bReg (f32_r4 c))
 (bBlock 0 (bLoop [4, 5, 6, 7] (f32_l5 c k) k)))
 (bSeq (bSeq (bReg (f32_r10 c))
 (bCond (.tmp 50) (bSeq (bReg (f32_r11 c))
 (bEx .ret)) (bEx .nrm)))
 (bSeq (bReg (f32_r12 c))
 (bEx .ret))))))))
theorem f32_eq (c : CallF) (k : Nat) : exec cx c 53 f32_an k (Tryd.f32.body.getD .skip) = f32 c k := by kernel_rfl
/-! ### f33: loop.example/g01263/impl.ReadDeals -/
def f33_an : Ann := ⟨[(0, r0 [0]), (1, r0 [4, 5]), (2, r0 [4, 22]), (3, r0 [2, 3]), (4, ⟨[0], [], [], [], [4, 6]⟩), (5, r0 [6, 24, 25, 26]), (6, r0 [6, 24, 25, 26, 27]), (7, r0 [6, 8, 24, 25, 26]), (8, r0 [6, 9, 10, 24, 25, 26]), (9, r0 [6, 9, 24, 25, 26, 36]), (10, r0 [2, 3]), (11, ⟨[3], [], [], [], [6, 24, 25, 26]⟩), (12, r0 [6, 24, 25, 26]), (13, r0 [2, 3])], [(6, [6, 24, 25, 26])]⟩
noncomputable def f33_r0 (c : CallF) : RF := rg [0] <| aX 2 (pM (cn .nils)) <|
 aX 3 (pM (cn (.int .i64 0))) <|
 aXZ
noncomputable def f33_r1 (c : CallF) : RF := rg [4, 5] <| aX 12 (pM 0) <|
 aX 13 (pK c false 67 [12]) <|
 aX 11 (pM 13) <|
 aX 14 (pE 0 11) <|
 aX 15 (pE 1 11) <|
 aX 4 (pM 14) <|
 aX 5 (pM 15) <|
 aXZ
noncomputable def f33_r2 (c : CallF) : RF := rg [4, 22] <| aX 16 (pM 5) <|
 aX 17 (pU .not 16) <|
 aX 18 (pM 17) <|
 aX 19 (pG 18 false (pM 4)) <|
 aX 20 (pG 18 false (pLen 86 19)) <|
 aX 21 (pG 18 false (pB .gtr 3 20 (cn (.int .i64 80)))) <|
 aX 22 (pP 18 (cn (.bool true)) 21) <|
 aXZ
noncomputable def f33_r3 (c : CallF) : RF := rg [2, 3] <| aX 2 (pM (cn .nils)) <|
 aX 3 (pM (cn (.int .i64 5))) <|
 aXZ
noncomputable def f33_r4 (c : CallF) : RF := rg [4, 6] <| aX 23 (fun n e M => aLitO false n 126 6 [] M) <|
 aX 6 (pM 23) <|
 aXZ
noncomputable def f33_r5 (c : CallF) : RF := rg [6, 24, 25, 26] <| aX 24 (pM 4) <|
 aX 25 (pLen 86 24) <|
 aX 26 (pM (cn (.int .i64 0))) <|
 aXZ
noncomputable def f33_r6 (c : CallF) : RF := rg [6, 24, 25, 26, 27] <| aX 27 (pB .lss 3 26 25) <|
 aXZ
noncomputable def f33_r7 (c : CallF) : RF := rg [6, 8, 24, 25, 26] <| aX 28 (pI 1 24 26) <|
 aX 29 (pL false 1 28) <|
 aX 8 (pM 29) <|
 aXZ
noncomputable def f33_r8 (c : CallF) : RF := rg [6, 9, 10, 24, 25, 26] <| aX 31 (pM 8) <|
 aX 32 (pK c false 81 [31]) <|
 aX 30 (pM 32) <|
 aX 33 (pE 0 30) <|
 aX 34 (pE 1 30) <|
 aX 9 (pAl 126 6) <|
 aX0 (pS 6 9 33) <|
 aX 10 (pM 34) <|
 aXZ
noncomputable def f33_r9 (c : CallF) : RF := rg [6, 9, 24, 25, 26, 36] <| aX 35 (pM 10) <|
 aX 36 (pU .not 35) <|
 aXZ
noncomputable def f33_r10 (c : CallF) : RF := rg [2, 3] <| aX 2 (pM (cn .nils)) <|
 aX 3 (pM (cn (.int .i64 5))) <|
 aXZ
noncomputable def f33_r11 (c : CallF) : RF := rg [6, 24, 25, 26] <| aX 37 (pM 6) <|
 aX 38 (pL true 6 9) <|
 aX 39 (fun n e M => keep (aLitI 126 6 [(eget e 38)] M)) <|
 aX 40 (fun n e M => aAppO n 126 6 48 (eget e 37) (eget e 39) M) <|
 aX 6 (pM 40) <|
 aXZ
noncomputable def f33_r12 (c : CallF) : RF := rg [6, 24, 25, 26] <| aX 41 (pB .add 3 26 (cn (.int .i64 1))) <|
 aX 26 (pM 41) <|
 aXZ
noncomputable def f33_r13 (c : CallF) : RF := rg [2, 3] <| aX 42 (pM 6) <|
 aX 2 (pM 42) <|
 aX 3 (pM (cn (.int .i64 0))) <|
 aXZ
noncomputable def f33_l6 (c : CallF) (k : Nat) : St :=
 (bSeq (bReg (f33_r6 c))
 (bSeq (bCond (.tmp 27) (bEx .nrm) (bEx (.ext 0)))
 (bSeq (bBlock 1 (bSeq (bReg (f33_r7 c))
 (bSeq (bReg (f33_r8 c))
 (bSeq (bSeq (bReg (f33_r9 c))
 (bCond (.tmp 36) (bSeq (bReg (f33_r10 c))
 (bEx .ret)) (bEx .nrm)))
 (bReg (f33_r11 c))))))
 (bReg (f33_r12 c)))))
noncomputable def f33 (c : CallF) (k : Nat) : St :=
 (bSeq (bReg (f33_r0 c))
 (bSeq (bReg (f33_r1 c))
 (bSeq (bSeq (bReg (f33_r2 c))
 (bCond (.tmp 22) (bSeq (bReg (f33_r3 c))
 (bEx .ret)) (bEx .nrm)))
 (bSeq (bReg (f33_r4 c))
 (bSeq (bSeq (bReg (f33_r5 c))
 (bBlock 0 (bLoop [6, 24, 25, 26] (f33_l6 c k) k)))
 (bSeq (bReg (f33_r13 c))
 (bEx .ret)))))))
theorem f33_eq (c : CallF) (k : Nat) : exec cx c 43 f33_an k (Tryd.f33.body.getD .skip) = f33 c k := by kernel_rfl
/-! ### f34: loop.example/g01263/laws.eqDealS -/
def f34_an : Ann := ⟨[(0, r0 [0, 1]), (1, r0 [0, 1, 10]), (2, r0 [4]), (3, r0 [0, 1, 5]), (4, r0 [0, 1, 5, 14]), (5, r0 [0, 1, 5]), (6, r0 [0, 1, 5, 26]), (7, r0 [4]), (8, r0 [4])], [(4, [0, 1, 5])]⟩
noncomputable def f34_r0 (c : CallF) : RF := rg [0, 1] <| aX 4 (pM (cn (.bool false))) <|
 aXZ
noncomputable def f34_r1 (c : CallF) : RF := rg [0, 1, 10] <| aX 6 (pM 0) <|
 aX 7 (pLen 71 6) <|
 aX 8 (pM 1) <|
 aX 9 (pLen 71 8) <|
 aX 10 (pB .neq 3 7 9) <|
 aXZ
noncomputable def f34_r2 (c : CallF) : RF := rg [4] <| aX 4 (pM (cn (.bool false))) <|
 aXZ
noncomputable def f34_r3 (c : CallF) : RF := rg [0, 1, 5] <| aX 5 (pM (cn (.int .i64 0))) <|
 aXZ
noncomputable def f34_r4 (c : CallF) : RF := rg [0, 1, 5, 14] <| aX 11 (pM 5) <|
 aX 12 (pM 0) <|
 aX 13 (pLen 71 12) <|
 aX 14 (pB .lss 3 11 13) <|
 aXZ
noncomputable def f34_r5 (c : CallF) : RF := rg [0, 1, 5] <| aX 15 (pM 5) <|
 aX 16 (pB .add 3 15 (cn (.int .i64 1))) <|
 aX 5 (pM 16) <|
 aXZ
noncomputable def f34_r6 (c : CallF) : RF := rgD [0, 1, 5, 26] (aY 17 (pM 0) <|
 aY 18 (pM 5) <|
 aY 19 (pI 6 17 18) <|
 aY 20 (pL true 6 19) <|
 aY 21 (pM 1) <|
 aY 22 (pM 5) <|
 aY 23 (pI 6 21 22) <|
 aY 24 (pL true 6 23) <|
 aY 25 (pK c false 82 [20, 24]) <|
 aY 26 (pU .not 25) <|
 aYZ)
 (aXZ)
noncomputable def f34_r7 (c : CallF) : RF := rg [4] <| aX 4 (pM (cn (.bool false))) <|
 aXZ
noncomputable def f34_r8 (c : CallF) : RF := rg [4] <| aX 4 (pM (cn (.bool true))) <|
 aXZ
noncomputable def f34_l4 (c : CallF) (k : Nat) : St :=
 (bSeq (bSeq (bReg (f34_r4 c))
 (bCond (.tmp 14) (bEx .nrm) (bEx (.ext 0))))
 (bSeq (bBlock 1 (bSeq (bReg (f34_r6 c))
 (bCond (.tmp 26) (bSeq (bReg (f34_r7 c))
 (bEx .ret)) (bEx .nrm))))
 (bReg (f34_r5 c))))
noncomputable def f34 (c : CallF) (k : Nat) : St :=
 (bSeq (bReg (f34_r0 c))
 (bSeq (bSeq (bReg (f34_r1 c))
 (bCond (.tmp 10) (bSeq (bReg (f34_r2 c))
 (bEx .ret)) (bEx .nrm)))
 (bSeq (bSeq (bReg (f34_r3 c))
 (bBlock 0 (bLoop [0, 1, 5] (f34_l4 c k) k)))
 (bSeq (bReg (f34_r8 c))
 (bEx .ret)))))
theorem f34_eq (c : CallF) (k : Nat) : exec cx c 27 f34_an k (Tryd.f34.body.getD .skip) = f34 c k := by kernel_rfl
/-! ### f35: loop.example/g01263/laws.markDealS -/
def f35_an : Ann := ⟨[(0, r0 [0, 1]), (1, r0 [0, 1, 5]), (2, r0 [0, 1, 5, 9]), (3, r0 [0, 1, 5]), (4, r0 [0, 1, 5]), (5, r0 [0, 1, 5]), (6, r0 [0, 1, 5]), (7, r0 [0, 1, 5]), (8, r0 [0, 1, 5]), (9, r0 [0, 1, 5]), (10, r0 [0, 1, 5]), (11, r0 [0, 1, 5]), (12, r0 [0, 1, 5]), (13, r0 [0, 1, 5]), (14, r0 [0, 1, 5]), (15, r0 [0, 1, 5]), (16, r0 [4])], [(2, [0, 1, 5])]⟩
noncomputable def f35_r0 (c : CallF) : RF := rg [0, 1] <| aX 4 (pM (cn (.int .i64 0))) <|
 aXZ
noncomputable def f35_r1 (c : CallF) : RF := rg [0, 1, 5] <| aX 5 (pM (cn (.int .i64 0))) <|
 aXZ
noncomputable def f35_r2 (c : CallF) : RF := rg [0, 1, 5, 9] <| aX 6 (pM 5) <|
 aX 7 (pM 0) <|
 aX 8 (pLen 71 7) <|
 aX 9 (pB .lss 3 6 8) <|
 aXZ
noncomputable def f35_r3 (c : CallF) : RF := rg [0, 1, 5] <| aX 10 (pM 5) <|
 aX 11 (pB .add 3 10 (cn (.int .i64 1))) <|
 aX 5 (pM 11) <|
 aXZ
noncomputable def f35_r4 (c : CallF) : RF := rg [0, 1, 5] <| aX 12 (pM 0) <|
 aX 13 (pM 5) <|
 aX 14 (pM 1) <|
 aX 15 (pI 6 12 13) <|
 aX 16 (pF 0 1 15) <|
 aX0 (pS 1 16 14) <|
 aXZ
noncomputable def f35_r5 (c : CallF) : RF := rg [0, 1, 5] <| aX 17 (pM 1) <|
 aX 18 (pB .add 3 17 (cn (.int .i64 1))) <|
 aX 1 (pM 18) <|
 aXZ
noncomputable def f35_r6 (c : CallF) : RF := rg [0, 1, 5] <| aX 19 (pM 0) <|
 aX 20 (pM 5) <|
 aX 21 (pM 1) <|
 aX 22 (fun n e M => keep (aConvI .i8 (eget e 21))) <|
 aX 23 (pI 6 19 20) <|
 aX 24 (pF 1 1 23) <|
 aX0 (pS 1 24 22) <|
 aXZ
noncomputable def f35_r7 (c : CallF) : RF := rg [0, 1, 5] <| aX 25 (pM 1) <|
 aX 26 (pB .add 3 25 (cn (.int .i64 1))) <|
 aX 1 (pM 26) <|
 aXZ
noncomputable def f35_r8 (c : CallF) : RF := rg [0, 1, 5] <| aX 27 (pM 0) <|
 aX 28 (pM 5) <|
 aX 29 (pM 1) <|
 aX 30 (pI 6 27 28) <|
 aX 31 (pF 2 1 30) <|
 aX0 (pS 1 31 29) <|
 aXZ
noncomputable def f35_r9 (c : CallF) : RF := rg [0, 1, 5] <| aX 32 (pM 1) <|
 aX 33 (pB .add 3 32 (cn (.int .i64 1))) <|
 aX 1 (pM 33) <|
 aXZ
noncomputable def f35_r10 (c : CallF) : RF := rg [0, 1, 5] <| aX 34 (pM 0) <|
 aX 35 (pM 5) <|
 aX 36 (pM 1) <|
 aX 37 (pI 6 34 35) <|
 aX 38 (pF 3 1 37) <|
 aX0 (pS 1 38 36) <|
 aXZ
noncomputable def f35_r11 (c : CallF) : RF := rg [0, 1, 5] <| aX 39 (pM 1) <|
 aX 40 (pB .add 3 39 (cn (.int .i64 1))) <|
 aX 1 (pM 40) <|
 aXZ
noncomputable def f35_r12 (c : CallF) : RF := rg [0, 1, 5] <| aX 41 (pM 0) <|
 aX 42 (pM 5) <|
 aX 43 (pM 1) <|
 aX 44 (pI 6 41 42) <|
 aX 45 (pF 4 1 44) <|
 aX0 (pS 1 45 43) <|
 aXZ
noncomputable def f35_r13 (c : CallF) : RF := rg [0, 1, 5] <| aX 46 (pM 1) <|
 aX 47 (pB .add 3 46 (cn (.int .i64 1))) <|
 aX 1 (pM 47) <|
 aXZ
noncomputable def f35_r14 (c : CallF) : RF := rg [0, 1, 5] <| aX 48 (pM 0) <|
 aX 49 (pM 5) <|
 aX 50 (pM 1) <|
 aX 51 (pI 6 48 49) <|
 aX 52 (pF 5 1 51) <|
 aX0 (pS 1 52 50) <|
 aXZ
noncomputable def f35_r15 (c : CallF) : RF := rg [0, 1, 5] <| aX 53 (pM 1) <|
 aX 54 (pB .add 3 53 (cn (.int .i64 1))) <|
 aX 1 (pM 54) <|
 aXZ
noncomputable def f35_r16 (c : CallF) : RF := rg [4] <| aX 55 (pM 1) <|
 aX 4 (pM 55) <|
 aXZ
noncomputable def f35_l2 (c : CallF) (k : Nat) : St :=
 (bSeq (bSeq (bReg (f35_r2 c))
 (bCond (.tmp 9) (bEx .nrm) (bEx (.ext 0))))
 (bSeq (bBlock 1 (bSeq (bReg (f35_r4 c))
 (bSeq (bReg (f35_r5 c))
 (bSeq (bReg (f35_r6 c))
 (bSeq (bReg (f35_r7 c))
 (bSeq (bReg (f35_r8 c))
 (bSeq (bReg (f35_r9 c))
 (bSeq (bReg (f35_r10 c))
 (bSeq (bReg (f35_r11 c))
 (bSeq (bReg (f35_r12 c))
 (bSeq (bReg (f35_r13 c))
 (bSeq (bReg (f35_r14 c))
 (bReg (f35_r15 c))))))))))))))
 (bReg (f35_r3 c))))
noncomputable def f35 (c : CallF) (k : Nat) : St :=
 (bSeq (bReg (f35_r0 c))
 (bSeq (bSeq (bReg (f35_r1 c))
 (bBlock 0 (bLoop [0, 1, 5] (f35_l2 c k) k)))
 (bSeq (bReg (f35_r16 c))
 (bEx .ret))))
theorem f35_eq (c : CallF) (k : Nat) : exec cx c 56 f35_an k (Tryd.f35.body.getD .skip) = f35 c k := by kernel_rfl
/-! ### f36: loop.example/g01263/laws.heldDealS -/
def f36_an : Ann := ⟨[(0, r0 [0, 1]), (1, r0 [0, 1, 5]), (2, r0 [0, 1, 5, 9]), (3, r0 [0, 1, 5]), (4, r0 [0, 1, 5, 18]), (5, r0 [4]), (6, r0 [0, 1, 5]), (7, r0 [0, 1, 5, 28]), (8, r0 [4]), (9, r0 [0, 1, 5]), (10, r0 [0, 1, 5, 37]), (11, r0 [4]), (12, r0 [0, 1, 5]), (13, r0 [0, 1, 5, 46]), (14, r0 [4]), (15, r0 [0, 1, 5]), (16, r0 [0, 1, 5, 55]), (17, r0 [4]), (18, r0 [0, 1, 5]), (19, r0 [0, 1, 5, 64]), (20, r0 [4]), (21, r0 [0, 1, 5]), (22, r0 [4])], [(2, [0, 1, 5])]⟩
noncomputable def f36_r0 (c : CallF) : RF := rg [0, 1] <| aX 4 (pM (cn (.int .i64 0))) <|
 aXZ
noncomputable def f36_r1 (c : CallF) : RF := rg [0, 1, 5] <| aX 5 (pM (cn (.int .i64 0))) <|
 aXZ
noncomputable def f36_r2 (c : CallF) : RF := rg [0, 1, 5, 9] <| aX 6 (pM 5) <|
 aX 7 (pM 0) <|
 aX 8 (pLen 71 7) <|
 aX 9 (pB .lss 3 6 8) <|
 aXZ
noncomputable def f36_r3 (c : CallF) : RF := rg [0, 1, 5] <| aX 10 (pM 5) <|
 aX 11 (pB .add 3 10 (cn (.int .i64 1))) <|
 aX 5 (pM 11) <|
 aXZ
noncomputable def f36_r4 (c : CallF) : RF := rg [0, 1, 5, 18] <| aX 12 (pM 0) <|
 aX 13 (pM 5) <|
 aX 14 (pI 6 12 13) <|
 aX 15 (pF 0 1 14) <|
 aX 16 (pL false 1 15) <|
 aX 17 (pM 1) <|
 aX 18 (pB .neq 2 16 17) <|
 aXZ
noncomputable def f36_r5 (c : CallF) : RF := rg [4] <| aX 4 (pM (cn (.int .i64 (-1)))) <|
 aXZ
noncomputable def f36_r6 (c : CallF) : RF := rg [0, 1, 5] <| aX 19 (pM 1) <|
 aX 20 (pB .add 3 19 (cn (.int .i64 1))) <|
 aX 1 (pM 20) <|
 aXZ
noncomputable def f36_r7 (c : CallF) : RF := rg [0, 1, 5, 28] <| aX 21 (pM 0) <|
 aX 22 (pM 5) <|
 aX 23 (pI 6 21 22) <|
 aX 24 (pF 1 1 23) <|
 aX 25 (pL false 1 24) <|
 aX 26 (pM 1) <|
 aX 27 (fun n e M => keep (aConvI .i8 (eget e 26))) <|
 aX 28 (pB .neq 45 25 27) <|
 aXZ
noncomputable def f36_r8 (c : CallF) : RF := rg [4] <| aX 4 (pM (cn (.int .i64 (-1)))) <|
 aXZ
noncomputable def f36_r9 (c : CallF) : RF := rg [0, 1, 5] <| aX 29 (pM 1) <|
 aX 30 (pB .add 3 29 (cn (.int .i64 1))) <|
 aX 1 (pM 30) <|
 aXZ
noncomputable def f36_r10 (c : CallF) : RF := rg [0, 1, 5, 37] <| aX 31 (pM 0) <|
 aX 32 (pM 5) <|
 aX 33 (pI 6 31 32) <|
 aX 34 (pF 2 1 33) <|
 aX 35 (pL false 1 34) <|
 aX 36 (pM 1) <|
 aX 37 (pB .neq 2 35 36) <|
 aXZ
noncomputable def f36_r11 (c : CallF) : RF := rg [4] <| aX 4 (pM (cn (.int .i64 (-1)))) <|
 aXZ
noncomputable def f36_r12 (c : CallF) : RF := rg [0, 1, 5] <| aX 38 (pM 1) <|
 aX 39 (pB .add 3 38 (cn (.int .i64 1))) <|
 aX 1 (pM 39) <|
 aXZ
noncomputable def f36_r13 (c : CallF) : RF := rg [0, 1, 5, 46] <| aX 40 (pM 0) <|
 aX 41 (pM 5) <|
 aX 42 (pI 6 40 41) <|
 aX 43 (pF 3 1 42) <|
 aX 44 (pL false 1 43) <|
 aX 45 (pM 1) <|
 aX 46 (pB .neq 2 44 45) <|
 aXZ
noncomputable def f36_r14 (c : CallF) : RF := rg [4] <| aX 4 (pM (cn (.int .i64 (-1)))) <|
 aXZ
noncomputable def f36_r15 (c : CallF) : RF := rg [0, 1, 5] <| aX 47 (pM 1) <|
 aX 48 (pB .add 3 47 (cn (.int .i64 1))) <|
 aX 1 (pM 48) <|
 aXZ
noncomputable def f36_r16 (c : CallF) : RF := rg [0, 1, 5, 55] <| aX 49 (pM 0) <|
 aX 50 (pM 5) <|
 aX 51 (pI 6 49 50) <|
 aX 52 (pF 4 1 51) <|
 aX 53 (pL false 1 52) <|
 aX 54 (pM 1) <|
 aX 55 (pB .neq 2 53 54) <|
 aXZ
noncomputable def f36_r17 (c : CallF) : RF := rg [4] <| aX 4 (pM (cn (.int .i64 (-1)))) <|
 aXZ
noncomputable def f36_r18 (c : CallF) : RF := rg [0, 1, 5] <| aX 56 (pM 1) <|
 aX 57 (pB .add 3 56 (cn (.int .i64 1))) <|
 aX 1 (pM 57) <|
 aXZ
noncomputable def f36_r19 (c : CallF) : RF := rg [0, 1, 5, 64] <| aX 58 (pM 0) <|
 aX 59 (pM 5) <|
 aX 60 (pI 6 58 59) <|
 aX 61 (pF 5 1 60) <|
 aX 62 (pL false 1 61) <|
 aX 63 (pM 1) <|
 aX 64 (pB .neq 2 62 63) <|
 aXZ
noncomputable def f36_r20 (c : CallF) : RF := rg [4] <| aX 4 (pM (cn (.int .i64 (-1)))) <|
 aXZ
noncomputable def f36_r21 (c : CallF) : RF := rg [0, 1, 5] <| aX 65 (pM 1) <|
 aX 66 (pB .add 3 65 (cn (.int .i64 1))) <|
 aX 1 (pM 66) <|
 aXZ
noncomputable def f36_r22 (c : CallF) : RF := rg [4] <| aX 67 (pM 1) <|
 aX 4 (pM 67) <|
 aXZ
noncomputable def f36_l2 (c : CallF) (k : Nat) : St :=
 (bSeq (bSeq (bReg (f36_r2 c))
 (bCond (.tmp 9) (bEx .nrm) (bEx (.ext 0))))
 (bSeq (bBlock 1 (bSeq (bSeq (bReg (f36_r4 c))
 (bCond (.tmp 18) (bSeq (bReg (f36_r5 c))
 (bEx .ret)) (bEx .nrm)))
 (bSeq (bReg (f36_r6 c))
 (bSeq (bSeq (bReg (f36_r7 c))
 (bCond (.tmp 28) (bSeq (bReg (f36_r8 c))
 (bEx .ret)) (bEx .nrm)))
 (bSeq (bReg (f36_r9 c))
 (bSeq (bSeq (bReg (f36_r10 c))
 (bCond (.tmp 37) (bSeq (bReg (f36_r11 c))
 (bEx .ret)) (bEx .nrm)))
 (bSeq (bReg (f36_r12 c))
 (bSeq (bSeq (bReg (f36_r13 c))
 (bCond (.tmp 46) (bSeq (bReg (f36_r14 c))
 (bEx .ret)) (bEx .nrm)))
 (bSeq (bReg (f36_r15 c))
 (bSeq (bSeq (bReg (f36_r16 c))
 (bCond (.tmp 55) (bSeq (bReg (f36_r17 c))
 (bEx .ret)) (bEx .nrm)))
 (bSeq (bReg (f36_r18 c))
 (bSeq (bSeq (bReg (f36_r19 c))
 (bCond (.tmp 64) (bSeq (bReg (f36_r20 c))
 (bEx .ret)) (bEx .nrm)))
 (bReg (f36_r21 c))))))))))))))
 (bReg (f36_r3 c))))
noncomputable def f36 (c : CallF) (k : Nat) : St :=
 (bSeq (bReg (f36_r0 c))
 (bSeq (bSeq (bReg (f36_r1 c))
 (bBlock 0 (bLoop [0, 1, 5] (f36_l2 c k) k)))
 (bSeq (bReg (f36_r22 c))
 (bEx .ret))))
theorem f36_eq (c : CallF) (k : Nat) : exec cx c 68 f36_an k (Tryd.f36.body.getD .skip) = f36 c k := by kernel_rfl
/-! ### f42: loop.example/g01263/impl.isAmount -/
def f42_an : Ann := ⟨[(0, r0 [0]), (1, r0 [2])], []⟩
noncomputable def f42_r0 (c : CallF) : RF := rg [0] <| aX 2 (pM (cn (.bool false))) <|
 aXZ
noncomputable def f42_r1 (c : CallF) : RF := rg [2] <| aX 3 (pM 0) <|
 aX 4 (pB .geq 2 3 (cn (.int .i64 0))) <|
 aX 5 (pM 4) <|
 aX 6 (pG 5 true (pM 0)) <|
 aX 7 (pG 5 true (pB .leq 2 6 (cn (.int .i64 100000000)))) <|
 aX 8 (pP 5 7 (cn (.bool false))) <|
 aX 2 (pM 8) <|
 aXZ
noncomputable def f42 (c : CallF) (k : Nat) : St :=
 (bSeq (bReg (f42_r0 c))
 (bSeq (bReg (f42_r1 c))
 (bEx .ret)))
theorem f42_eq (c : CallF) (k : Nat) : exec cx c 9 f42_an k (Tryd.f42.body.getD .skip) = f42 c k := by kernel_rfl
/-! ### f45: loop.example/g01263/impl.AmountText -/
def f45_an : Ann := ⟨[(0, r0 [0]), (1, r0 [0, 8]), (2, r0 [2]), (3, r0 [0, 10]), (4, r0 [2]), (5, ⟨[0], [], [], [], [0, 3]⟩), (6, r0 [3, 19, 20, 21]), (7, r0 [3, 19, 20, 21, 22]), (8, r0 [3, 4, 5, 19, 20, 21]), (9, r0 [3, 4, 5, 19, 20, 21, 27]), (10, ⟨[9], [], [], [9, 10], [3, 19, 20, 21]⟩), (11, r0 [3, 19, 20, 21]), (12, r0 [2])], [(7, [3, 19, 20, 21])]⟩
noncomputable def f45_r0 (c : CallF) : RF := rg [0] <| aX 2 (pM (cn (.str []))) <|
 aXZ
noncomputable def f45_r1 (c : CallF) : RF := rg [0, 8] <| aX 6 (pM 0) <|
 aX 7 (pK c false 42 [6]) <|
 aX 8 (pU .not 7) <|
 aXZ
noncomputable def f45_r2 (c : CallF) : RF := rg [2] <| aX 2 (pM (cn (.str []))) <|
 aXZ
noncomputable def f45_r3 (c : CallF) : RF := rg [0, 10] <| aX 9 (pM 0) <|
 aX 10 (pB .eql 2 9 (cn (.int .i64 0))) <|
 aXZ
noncomputable def f45_r4 (c : CallF) : RF := rg [2] <| aX 2 (pM (cn (.str [48, 100]))) <|
 aXZ
noncomputable def f45_r5 (c : CallF) : RF := rg [0, 3] <| aX 11 (fun n e M => aLitO false n 9 1 [] M) <|
 aX 3 (pM 11) <|
 aXZ
noncomputable def f45_r6 (c : CallF) : RF := rg [3, 19, 20, 21] <| aX 12 (pM 0) <|
 aX 13 (pB .quo 2 12 (cn (.int .i64 240))) <|
 aX 14 (pM 0) <|
 aX 15 (pB .quo 2 14 (cn (.int .i64 12))) <|
 aX 16 (pB .rem 2 15 (cn (.int .i64 20))) <|
 aX 17 (pM 0) <|
 aX 18 (pB .rem 2 17 (cn (.int .i64 12))) <|
 aX 19 (fun n e M => keep (aLitI 2 1 [(eget e 13), (eget e 16), (eget e 18)] M)) <|
 aX 20 (pLen 136 19) <|
 aX 21 (pM (cn (.int .i64 0))) <|
 aXZ
noncomputable def f45_r7 (c : CallF) : RF := rg [3, 19, 20, 21, 22] <| aX 22 (pB .lss 3 21 20) <|
 aXZ
noncomputable def f45_r8 (c : CallF) : RF := rg [3, 4, 5, 19, 20, 21] <| aX 23 (pM 21) <|
 aX 24 (pI 1 19 21) <|
 aX 25 (pL false 1 24) <|
 aX 4 (pM 23) <|
 aX 5 (pM 25) <|
 aXZ
noncomputable def f45_r9 (c : CallF) : RF := rg [3, 4, 5, 19, 20, 21, 27] <| aX 26 (pM 5) <|
 aX 27 (pB .gtr 2 26 (cn (.int .i64 0))) <|
 aXZ
noncomputable def f45_r10 (c : CallF) : RF := rgD [3, 19, 20, 21] (aY 28 (pM 3) <|
 aY 29 (pM 5) <|
 aY 30 (pK c false 90 [29]) <|
 aY 31 (pM 4) <|
 aY 32 (pM 4) <|
 aY 33 (pB .add 3 32 (cn (.int .i64 1))) <|
 aY 34 (fun n e M => keep (aSliceS (some (eget e 31)) (some (eget e 33)) (.str [108, 115, 100]))) <|
 aY 35 (pB .add 9 30 34) <|
 aY 36 (fun n e M => keep (aLitI 9 1 [(eget e 35)] M)) <|
 aYZ)
 (aX 37 (fun n e M => aAppO n 9 1 16 (eget e 28) (eget e 36) M) <|
 aX 3 (pM 37) <|
 aXZ)
noncomputable def f45_r11 (c : CallF) : RF := rg [3, 19, 20, 21] <| aX 38 (pB .add 3 21 (cn (.int .i64 1))) <|
 aX 21 (pM 38) <|
 aXZ
noncomputable def f45_r12 (c : CallF) : RF := rg [2] <| aX 39 (pM 3) <|
 aX 40 (pK c false 91 [39, (cn (.str [32]))]) <|
 aX 2 (pM 40) <|
 aXZ
noncomputable def f45_l7 (c : CallF) (k : Nat) : St :=
 (bSeq (bReg (f45_r7 c))
 (bSeq (bCond (.tmp 22) (bEx .nrm) (bEx (.ext 0)))
 (bSeq (bBlock 1 (bSeq (bReg (f45_r8 c))
 (bSeq (bReg (f45_r9 c))
 (bCond (.tmp 27) (bReg (f45_r10 c)) (bEx .nrm)))))
 (bReg (f45_r11 c)))))
noncomputable def f45 (c : CallF) (k : Nat) : St :=
 (bSeq (bReg (f45_r0 c))
 (bSeq (bSeq (bReg (f45_r1 c))
 (bCond (.tmp 8) (bSeq (bReg (f45_r2 c))
 (bEx .ret)) (bEx .nrm)))
 (bSeq (bSeq (bReg (f45_r3 c))
 (bCond (.tmp 10) (bSeq (bReg (f45_r4 c))
 (bEx .ret)) (bEx .nrm)))
 (bSeq (bReg (f45_r5 c))
 (bSeq (bSeq (bReg (f45_r6 c))
 (bBlock 0 (bLoop [3, 19, 20, 21] (f45_l7 c k) k)))
 (bSeq (bReg (f45_r12 c))
 (bEx .ret)))))))
theorem f45_eq (c : CallF) (k : Nat) : exec cx c 41 f45_an k (Tryd.f45.body.getD .skip) = f45 c k := by kernel_rfl
/-! ### f49: loop.example/g01263/spec.l01Amount -/
def f49_an : Ann := ⟨[(0, r0 [0]), (1, r0 [2])], []⟩
noncomputable def f49_r0 (c : CallF) : RF := rg [0] <| aX 2 (pM (cn (.bool false))) <|
 aXZ
noncomputable def f49_r1 (c : CallF) : RF := rg [2] <| aX 3 (pM 0) <|
 aX 4 (pK c false 84 [3, (cn (.int .i64 0)), (cn (.int .i64 100000000))]) <|
 aX 2 (pM 4) <|
 aXZ
noncomputable def f49 (c : CallF) (k : Nat) : St :=
 (bSeq (bReg (f49_r0 c))
 (bSeq (bReg (f49_r1 c))
 (bEx .ret)))
theorem f49_eq (c : CallF) (k : Nat) : exec cx c 5 f49_an k (Tryd.f49.body.getD .skip) = f49 c k := by kernel_rfl
/-! ### f50: loop.example/g01263/spec.l01AmountText -/
def f50_an : Ann := ⟨[(0, r0 [0]), (1, r0 [0, 5]), (2, r0 [2]), (3, r0 [0, 3]), (4, r0 [0, 3]), (5, r0 [2])], []⟩
noncomputable def f50_r0 (c : CallF) : RF := rg [0] <| aX 2 (pM (cn (.str []))) <|
 aXZ
noncomputable def f50_r1 (c : CallF) : RF := rg [0, 5] <| aX 4 (pM 0) <|
 aX 5 (pB .eql 2 4 (cn (.int .i64 0))) <|
 aXZ
noncomputable def f50_r2 (c : CallF) : RF := rg [2] <| aX 2 (pM (cn (.str [48, 100]))) <|
 aXZ
noncomputable def f50_r3 (c : CallF) : RF := rg [0, 3] <| aX 6 (pM 0) <|
 aX 7 (pB .quo 2 6 (cn (.int .i64 240))) <|
 aX 8 (pK c false 94 [(cn (.str [])), 7, (cn (.str [108]))]) <|
 aX 3 (pM 8) <|
 aXZ
noncomputable def f50_r4 (c : CallF) : RF := rg [0, 3] <| aX 9 (pM 3) <|
 aX 10 (pM 0) <|
 aX 11 (pB .quo 2 10 (cn (.int .i64 12))) <|
 aX 12 (pB .rem 2 11 (cn (.int .i64 20))) <|
 aX 13 (pK c false 94 [9, 12, (cn (.str [115]))]) <|
 aX 3 (pM 13) <|
 aXZ
noncomputable def f50_r5 (c : CallF) : RF := rg [2] <| aX 14 (pM 3) <|
 aX 15 (pM 0) <|
 aX 16 (pB .rem 2 15 (cn (.int .i64 12))) <|
 aX 17 (pK c false 94 [14, 16, (cn (.str [100]))]) <|
 aX 2 (pM 17) <|
 aXZ
noncomputable def f50 (c : CallF) (k : Nat) : St :=
 (bSeq (bReg (f50_r0 c))
 (bSeq (bSeq (bReg (f50_r1 c))
 (bCond (.tmp 5) (bSeq (bReg (f50_r2 c))
 (bEx .ret)) (bEx .nrm)))
 (bSeq (bReg (f50_r3 c))
 (bSeq (bReg (f50_r4 c))
 (bSeq (bReg (f50_r5 c))
 (bEx .ret))))))
theorem f50_eq (c : CallF) (k : Nat) : exec cx c 18 f50_an k (Tryd.f50.body.getD .skip) = f50 c k := by kernel_rfl
/-! ### f65: loop.example/g01263/spec.l01Split -/
def f65_an : Ann := ⟨[(0, r0 [0, 1]), (1, ⟨[0], [], [], [], [0, 1, 5]⟩), (2, r0 [0, 1, 5, 6]), (3, r0 [0, 1, 5, 6, 7]), (4, r0 [0, 1, 5, 6, 7, 12]), (5, r0 [0, 1, 5, 6, 7]), (6, r0 [0, 1, 5, 6, 7, 19]), (7, ⟨[6], [], [], [], [0, 1, 5, 7]⟩), (8, r0 [0, 1, 5, 6, 7]), (9, ⟨[5], [], [], [], [4]⟩)], [(4, [0, 1, 5, 6, 7])]⟩
noncomputable def f65_r0 (c : CallF) : RF := rg [0, 1] <| aX 4 (pM (cn .nils)) <|
 aXZ
noncomputable def f65_r1 (c : CallF) : RF := rg [0, 1, 5] <| aX 8 (fun n e M => aLitO false n 9 1 [] M) <|
 aX 5 (pM 8) <|
 aXZ
noncomputable def f65_r2 (c : CallF) : RF := rg [0, 1, 5, 6] <| aX 6 (pM (cn (.int .i64 0))) <|
 aXZ
noncomputable def f65_r3 (c : CallF) : RF := rg [0, 1, 5, 6, 7] <| aX 7 (pM (cn (.int .i64 0))) <|
 aXZ
noncomputable def f65_r4 (c : CallF) : RF := rg [0, 1, 5, 6, 7, 12] <| aX 9 (pM 7) <|
 aX 10 (pM 0) <|
 aX 11 (pLen 9 10) <|
 aX 12 (pB .lss 3 9 11) <|
 aXZ
noncomputable def f65_r5 (c : CallF) : RF := rg [0, 1, 5, 6, 7] <| aX 13 (pM 7) <|
 aX 14 (pB .add 3 13 (cn (.int .i64 1))) <|
 aX 7 (pM 14) <|
 aXZ
noncomputable def f65_r6 (c : CallF) : RF := rg [0, 1, 5, 6, 7, 19] <| aX 15 (pM 0) <|
 aX 16 (pM 7) <|
 aX 17 (fun n e M => keep (aIndexB (eget e 15) (eget e 16))) <|
 aX 18 (pM 1) <|
 aX 19 (pB .eql 5 17 18) <|
 aXZ
noncomputable def f65_r7 (c : CallF) : RF := rg [0, 1, 5, 7] <| aX 20 (pM 5) <|
 aX 21 (pM 0) <|
 aX 22 (pM 6) <|
 aX 23 (pM 7) <|
 aX 24 (fun n e M => keep (aSliceS (some (eget e 22)) (some (eget e 23)) (eget e 21))) <|
 aX 25 (fun n e M => keep (aLitI 9 1 [(eget e 24)] M)) <|
 aX 26 (fun n e M => aAppO n 9 1 16 (eget e 20) (eget e 25) M) <|
 aX 5 (pM 26) <|
 aXZ
noncomputable def f65_r8 (c : CallF) : RF := rg [0, 1, 5, 6, 7] <| aX 27 (pM 7) <|
 aX 28 (pB .add 3 27 (cn (.int .i64 1))) <|
 aX 6 (pM 28) <|
 aXZ
noncomputable def f65_r9 (c : CallF) : RF := rg [4] <| aX 29 (pM 5) <|
 aX 30 (pM 0) <|
 aX 31 (pM 6) <|
 aX 32 (fun n e M => keep (aSliceS (some (eget e 31)) none (eget e 30))) <|
 aX 33 (fun n e M => keep (aLitI 9 1 [(eget e 32)] M)) <|
 aX 34 (fun n e M => aAppO n 9 1 16 (eget e 29) (eget e 33) M) <|
 aX 4 (pM 34) <|
 aXZ
noncomputable def f65_l4 (c : CallF) (k : Nat) : St :=
 (bSeq (bSeq (bReg (f65_r4 c))
 (bCond (.tmp 12) (bEx .nrm) (bEx (.ext 0))))
 (bSeq (bBlock 1 (bSeq (bReg (f65_r6 c))
 (bCond (.tmp 19) (bSeq (bReg (f65_r7 c))
 (bReg (f65_r8 c))) (bEx .nrm))))
 (bReg (f65_r5 c))))
noncomputable def f65 (c : CallF) (k : Nat) : St :=
 (bSeq (bReg (f65_r0 c))
 (bSeq (bReg (f65_r1 c))
 (bSeq (bReg (f65_r2 c))
 (bSeq (bSeq (bReg (f65_r3 c))
 (bBlock 0 (bLoop [0, 1, 5, 6, 7] (f65_l4 c k) k)))
 (bSeq (bReg (f65_r9 c))
 (bEx .ret))))))
theorem f65_eq (c : CallF) (k : Nat) : exec cx c 35 f65_an k (Tryd.f65.body.getD .skip) = f65 c k := by kernel_rfl
/-! ### f67: loop.example/g01263/impl.linesOf -/
def f67_an : Ann := ⟨[(0, r0 [0]), (1, r0 [0, 7]), (2, r0 [2, 3]), (3, r0 [4]), (4, r0 [4, 5]), (5, r0 [2, 3])], []⟩
noncomputable def f67_r0 (c : CallF) : RF := rg [0] <| aX 2 (pM (cn .nils)) <|
 aX 3 (pM (cn (.bool false))) <|
 aXZ
noncomputable def f67_r1 (c : CallF) : RF := rg [0, 7] <| aX 6 (pM 0) <|
 aX 7 (pB .eql 9 6 (cn (.str []))) <|
 aXZ
noncomputable def f67_r2 (c : CallF) : RF := rg [2, 3] <| aX 2 (pM (cn .nils)) <|
 aX 3 (pM (cn (.bool true))) <|
 aXZ
noncomputable def f67_r3 (c : CallF) : RF := rg [4] <| aX 8 (pM 0) <|
 aX 9 (pK c false 114 [8, (cn (.str [10]))]) <|
 aX 4 (pM 9) <|
 aXZ
noncomputable def f67_r4 (c : CallF) : RF := rg [4, 5] <| aX 10 (pM 4) <|
 aX 11 (pLen 86 10) <|
 aX 12 (pB .sub 3 11 (cn (.int .i64 1))) <|
 aX 5 (pM 12) <|
 aXZ
noncomputable def f67_r5 (c : CallF) : RF := rgD [2, 3] (aY 13 (pM 4) <|
 aY 14 (pM 5) <|
 aY 15 (fun n e M => keep (aSlice 1 none (some (eget e 14)) (eget e 13) M)) <|
 aY 16 (pM 4) <|
 aY 17 (pM 5) <|
 aY 18 (pI 1 16 17) <|
 aY 19 (pL false 1 18) <|
 aY 20 (pB .eql 9 19 (cn (.str []))) <|
 aY 2 (pM 15) <|
 aY 3 (pM 20) <|
 aYZ)
 (aXZ)
noncomputable def f67 (c : CallF) (k : Nat) : St :=
 (bSeq (bReg (f67_r0 c))
 (bSeq (bSeq (bReg (f67_r1 c))
 (bCond (.tmp 7) (bSeq (bReg (f67_r2 c))
 (bEx .ret)) (bEx .nrm)))
 (bSeq (bReg (f67_r3 c))
 (bSeq (bReg (f67_r4 c))
 (bSeq (bReg (f67_r5 c))
 (bEx .ret))))))
theorem f67_eq (c : CallF) (k : Nat) : exec cx c 21 f67_an k (Tryd.f67.body.getD .skip) = f67 c k := by kernel_rfl
/-! ### f80: loop.example/g01263/spec.l07Read -/
def f80_an : Ann := ⟨[(0, r0 [0, 2]), (1, r0 [2, 4]), (2, r0 [2, 4, 22]), (3, r0 [2, 3]), (4, r0 [2, 4, 5, 6]), (5, r0 [2, 4, 6, 7]), (6, r0 [2, 4, 6, 7, 8, 9]), (7, r0 [2, 4, 6, 7, 8, 9, 10, 11]), (8, r0 [2, 4, 6, 7, 8, 9, 10, 11, 49]), (9, r0 [2, 3]), (10, r0 [2, 4, 6, 7, 8, 9, 10, 11, 49, 51]), (11, r0 [2, 4, 6, 7, 8, 9, 10, 11]), (12, r0 [2, 4, 6, 7, 9, 10, 11]), (13, r0 [2, 4, 6, 7, 9, 11]), (14, r0 [2, 6, 7, 9, 11, 12, 13]), (15, r0 [2, 6, 7, 9, 11, 13]), (16, r0 [2, 6, 7]), (17, r0 [2, 4, 6, 7, 8, 9, 10, 11, 49, 77]), (18, r0 [2, 4, 6, 7, 8, 9, 10, 11]), (19, r0 [2, 4, 6, 7, 9, 10, 11]), (20, r0 [2, 4, 6, 7, 9, 11]), (21, r0 [2, 4, 6, 7, 9, 11, 86]), (22, r0 [2, 3]), (23, r0 [2, 6, 7, 9, 11, 14, 15]), (24, r0 [2, 6, 7, 9, 11, 15]), (25, r0 [2, 6, 7]), (26, r0 [2, 4, 6, 7, 8, 9, 10, 11, 49, 107]), (27, r0 [2, 4, 6, 7, 8, 9]), (28, r0 [2, 4, 6, 7, 9]), (29, r0 [2, 6, 7, 9, 16, 17]), (30, r0 [2, 6, 7, 9, 17]), (31, r0 [2, 6, 7]), (32, r0 [2, 4, 6, 7, 8, 9, 10, 11, 128]), (33, r0 [2, 4, 6, 7, 8, 9, 10, 11]), (34, r0 [2, 4, 6, 7, 9, 10, 11]), (35, r0 [2, 4, 6, 7, 9, 11]), (36, r0 [2, 6, 7]), (37, ⟨[], [], [4], [5, 6], [2, 3]⟩)], []⟩
noncomputable def f80_r0 (c : CallF) : RF := rg [0, 2] <| aX 2 (pAl 126 6) <|
 aX 3 (pM (cn (.bool false))) <|
 aXZ
noncomputable def f80_r1 (c : CallF) : RF := rg [2, 4] <| aX 18 (pM 0) <|
 aX 19 (pK c false 65 [18, (cn (.int .u8 32))]) <|
 aX 4 (pM 19) <|
 aXZ
noncomputable def f80_r2 (c : CallF) : RF := rg [2, 4, 22] <| aX 20 (pM 4) <|
 aX 21 (pLen 86 20) <|
 aX 22 (pB .lss 3 21 (cn (.int .i64 4))) <|
 aXZ
noncomputable def f80_r3 (c : CallF) : RF := rg [2, 3] <| aX 23 (fun n e M => keep (aBuild (zeroOf cx.P 126) [] M)) <|
 aX0 (pS 6 2 23) <|
 aX 3 (pM (cn (.bool false))) <|
 aXZ
noncomputable def f80_r4 (c : CallF) : RF := rg [2, 4, 5, 6] <| aX 25 (pM 4) <|
 aX 26 (pI 1 25 (cn (.int .i64 0))) <|
 aX 27 (pL false 1 26) <|
 aX 28 (pK c false 125 [27]) <|
 aX 24 (pM 28) <|
 aX 29 (pE 0 24) <|
 aX 30 (pE 1 24) <|
 aX 5 (pM 29) <|
 aX 6 (pM 30) <|
 aXZ
noncomputable def f80_r5 (c : CallF) : RF := rg [2, 4, 6, 7] <| aX 31 (pM 5) <|
 aX 32 (fun n e M => keep (aBuild (zeroOf cx.P 126) [(0, 1, (eget e 31))] M)) <|
 aX 7 (pAl 126 6) <|
 aX0 (pS 6 7 32) <|
 aXZ
noncomputable def f80_r6 (c : CallF) : RF := rg [2, 4, 6, 7, 8, 9] <| aX 34 (pM 4) <|
 aX 35 (pI 1 34 (cn (.int .i64 2))) <|
 aX 36 (pL false 1 35) <|
 aX 37 (pK c false 125 [36]) <|
 aX 33 (pM 37) <|
 aX 38 (pE 0 33) <|
 aX 39 (pE 1 33) <|
 aX 8 (pM 38) <|
 aX 9 (pM 39) <|
 aXZ
noncomputable def f80_r7 (c : CallF) : RF := rg [2, 4, 6, 7, 8, 9, 10, 11] <| aX 41 (pM 4) <|
 aX 42 (pI 1 41 (cn (.int .i64 3))) <|
 aX 43 (pL false 1 42) <|
 aX 44 (pK c false 125 [43]) <|
 aX 40 (pM 44) <|
 aX 45 (pE 0 40) <|
 aX 46 (pE 1 40) <|
 aX 10 (pM 45) <|
 aX 11 (pM 46) <|
 aXZ
noncomputable def f80_r8 (c : CallF) : RF := rg [2, 4, 6, 7, 8, 9, 10, 11, 49] <| aX 47 (pM 4) <|
 aX 48 (pI 1 47 (cn (.int .i64 1))) <|
 aX 49 (pL false 1 48) <|
 aXZ
noncomputable def f80_r9 (c : CallF) : RF := rg [2, 3] <| aX 50 (pL true 6 7) <|
 aX0 (pS 6 2 50) <|
 aX 3 (pM (cn (.bool false))) <|
 aXZ
noncomputable def f80_r10 (c : CallF) : RF := rg [2, 4, 6, 7, 8, 9, 10, 11, 49, 51] <| aX 52 (pB .eql 9 49 (cn (.str [99, 117, 116]))) <|
 aX 51 (pM 52) <|
 aXZ
noncomputable def f80_r11 (c : CallF) : RF := rg [2, 4, 6, 7, 8, 9, 10, 11] <| aX 53 (pF 1 1 7) <|
 aX0 (pS 1 53 (cn (.int .i8 1))) <|
 aXZ
noncomputable def f80_r12 (c : CallF) : RF := rg [2, 4, 6, 7, 9, 10, 11] <| aX 54 (pM 8) <|
 aX 55 (pF 3 1 7) <|
 aX0 (pS 1 55 54) <|
 aXZ
noncomputable def f80_r13 (c : CallF) : RF := rg [2, 4, 6, 7, 9, 11] <| aX 56 (pM 10) <|
 aX 57 (pF 4 1 7) <|
 aX0 (pS 1 57 56) <|
 aXZ
noncomputable def f80_r14 (c : CallF) : RF := rg [2, 6, 7, 9, 11, 12, 13] <| aX 59 (pM 4) <|
 aX 60 (fun n e M => keep (aSlice 1 (some (.int .i64 4)) none (eget e 59) M)) <|
 aX 61 (pK c false 127 [60]) <|
 aX 62 (pK c false 126 [61]) <|
 aX 58 (pM 62) <|
 aX 63 (pE 0 58) <|
 aX 64 (pE 1 58) <|
 aX 12 (pM 63) <|
 aX 13 (pM 64) <|
 aXZ
noncomputable def f80_r15 (c : CallF) : RF := rg [2, 6, 7, 9, 11, 13] <| aX 65 (pM 12) <|
 aX 66 (pF 5 1 7) <|
 aX0 (pS 1 66 65) <|
 aXZ
noncomputable def f80_r16 (c : CallF) : RF := rg [2, 6, 7] <| aX 67 (pM 6) <|
 aX 68 (pM 67) <|
 aX 69 (pG 68 true (pM 9)) <|
 aX 70 (pP 68 69 (cn (.bool false))) <|
 aX 71 (pM 70) <|
 aX 72 (pG 71 true (pM 11)) <|
 aX 73 (pP 71 72 (cn (.bool false))) <|
 aX 74 (pM 73) <|
 aX 75 (pG 74 true (pM 13)) <|
 aX 76 (pP 74 75 (cn (.bool false))) <|
 aX 6 (pM 76) <|
 aXZ
noncomputable def f80_r17 (c : CallF) : RF := rg [2, 4, 6, 7, 8, 9, 10, 11, 49, 77] <| aX 78 (pB .eql 9 49 (cn (.str [112, 97, 115, 115]))) <|
 aX 77 (pM 78) <|
 aXZ
noncomputable def f80_r18 (c : CallF) : RF := rg [2, 4, 6, 7, 8, 9, 10, 11] <| aX 79 (pF 1 1 7) <|
 aX0 (pS 1 79 (cn (.int .i8 2))) <|
 aXZ
noncomputable def f80_r19 (c : CallF) : RF := rg [2, 4, 6, 7, 9, 10, 11] <| aX 80 (pM 8) <|
 aX 81 (pF 2 1 7) <|
 aX0 (pS 1 81 80) <|
 aXZ
noncomputable def f80_r20 (c : CallF) : RF := rg [2, 4, 6, 7, 9, 11] <| aX 82 (pM 10) <|
 aX 83 (pF 3 1 7) <|
 aX0 (pS 1 83 82) <|
 aXZ
noncomputable def f80_r21 (c : CallF) : RF := rg [2, 4, 6, 7, 9, 11, 86] <| aX 84 (pM 4) <|
 aX 85 (pLen 86 84) <|
 aX 86 (pB .neq 3 85 (cn (.int .i64 5))) <|
 aXZ
noncomputable def f80_r22 (c : CallF) : RF := rg [2, 3] <| aX 87 (pL true 6 7) <|
 aX0 (pS 6 2 87) <|
 aX 3 (pM (cn (.bool false))) <|
 aXZ
noncomputable def f80_r23 (c : CallF) : RF := rg [2, 6, 7, 9, 11, 14, 15] <| aX 89 (pM 4) <|
 aX 90 (pI 1 89 (cn (.int .i64 4))) <|
 aX 91 (pL false 1 90) <|
 aX 92 (pK c false 125 [91]) <|
 aX 88 (pM 92) <|
 aX 93 (pE 0 88) <|
 aX 94 (pE 1 88) <|
 aX 14 (pM 93) <|
 aX 15 (pM 94) <|
 aXZ
noncomputable def f80_r24 (c : CallF) : RF := rg [2, 6, 7, 9, 11, 15] <| aX 95 (pM 14) <|
 aX 96 (pF 4 1 7) <|
 aX0 (pS 1 96 95) <|
 aXZ
noncomputable def f80_r25 (c : CallF) : RF := rg [2, 6, 7] <| aX 97 (pM 6) <|
 aX 98 (pM 97) <|
 aX 99 (pG 98 true (pM 9)) <|
 aX 100 (pP 98 99 (cn (.bool false))) <|
 aX 101 (pM 100) <|
 aX 102 (pG 101 true (pM 11)) <|
 aX 103 (pP 101 102 (cn (.bool false))) <|
 aX 104 (pM 103) <|
 aX 105 (pG 104 true (pM 15)) <|
 aX 106 (pP 104 105 (cn (.bool false))) <|
 aX 6 (pM 106) <|
 aXZ
noncomputable def f80_r26 (c : CallF) : RF := rg [2, 4, 6, 7, 8, 9, 10, 11, 49, 107] <| aX 108 (pB .eql 9 49 (cn (.str [112, 97, 121]))) <|
 aX 107 (pM 108) <|
 aXZ
noncomputable def f80_r27 (c : CallF) : RF := rg [2, 4, 6, 7, 8, 9] <| aX 109 (pF 1 1 7) <|
 aX0 (pS 1 109 (cn (.int .i8 3))) <|
 aXZ
noncomputable def f80_r28 (c : CallF) : RF := rg [2, 4, 6, 7, 9] <| aX 110 (pM 8) <|
 aX 111 (pF 2 1 7) <|
 aX0 (pS 1 111 110) <|
 aXZ
noncomputable def f80_r29 (c : CallF) : RF := rg [2, 6, 7, 9, 16, 17] <| aX 113 (pM 4) <|
 aX 114 (fun n e M => keep (aSlice 1 (some (.int .i64 3)) none (eget e 113) M)) <|
 aX 115 (pK c false 127 [114]) <|
 aX 116 (pK c false 126 [115]) <|
 aX 112 (pM 116) <|
 aX 117 (pE 0 112) <|
 aX 118 (pE 1 112) <|
 aX 16 (pM 117) <|
 aX 17 (pM 118) <|
 aXZ
noncomputable def f80_r30 (c : CallF) : RF := rg [2, 6, 7, 9, 17] <| aX 119 (pM 16) <|
 aX 120 (pF 5 1 7) <|
 aX0 (pS 1 120 119) <|
 aXZ
noncomputable def f80_r31 (c : CallF) : RF := rg [2, 6, 7] <| aX 121 (pM 6) <|
 aX 122 (pM 121) <|
 aX 123 (pG 122 true (pM 9)) <|
 aX 124 (pP 122 123 (cn (.bool false))) <|
 aX 125 (pM 124) <|
 aX 126 (pG 125 true (pM 17)) <|
 aX 127 (pP 125 126 (cn (.bool false))) <|
 aX 6 (pM 127) <|
 aXZ
noncomputable def f80_r32 (c : CallF) : RF := rg [2, 4, 6, 7, 8, 9, 10, 11, 128] <| aX 129 (pB .eql 9 49 (cn (.str [101, 110, 100]))) <|
 aX 128 (pM 129) <|
 aXZ
noncomputable def f80_r33 (c : CallF) : RF := rg [2, 4, 6, 7, 8, 9, 10, 11] <| aX 130 (pF 1 1 7) <|
 aX0 (pS 1 130 (cn (.int .i8 4))) <|
 aXZ
noncomputable def f80_r34 (c : CallF) : RF := rg [2, 4, 6, 7, 9, 10, 11] <| aX 131 (pM 8) <|
 aX 132 (pF 2 1 7) <|
 aX0 (pS 1 132 131) <|
 aXZ
noncomputable def f80_r35 (c : CallF) : RF := rg [2, 4, 6, 7, 9, 11] <| aX 133 (pM 10) <|
 aX 134 (pF 3 1 7) <|
 aX0 (pS 1 134 133) <|
 aXZ
noncomputable def f80_r36 (c : CallF) : RF := rg [2, 6, 7] <| aX 135 (pM 6) <|
 aX 136 (pM 135) <|
 aX 137 (pG 136 true (pM 9)) <|
 aX 138 (pP 136 137 (cn (.bool false))) <|
 aX 139 (pM 138) <|
 aX 140 (pG 139 true (pM 11)) <|
 aX 141 (pP 139 140 (cn (.bool false))) <|
 aX 142 (pM 141) <|
 aX 143 (pG 142 true (pM 4)) <|
 aX 144 (pG 142 true (pLen 86 143)) <|
 aX 145 (pG 142 true (pB .eql 3 144 (cn (.int .i64 4)))) <|
 aX 146 (pP 142 145 (cn (.bool false))) <|
 aX 6 (pM 146) <|
 aXZ
noncomputable def f80_r37 (c : CallF) : RF := rgD [2, 3] (aY 147 (pL true 6 7) <|
 aY 148 (pM 6) <|
 aY 149 (pM 148) <|
 aY 150 (pG 149 true (pK c false 128 [7])) <|
 aYc 151 (pP 149 150 (cn (.bool false))) <|
 aYZ)
 (aX0 (pS 6 2 147) <|
 aX 3 (pM 151) <|
 aXZ)
noncomputable def f80 (c : CallF) (k : Nat) : St :=
 (bSeq (bReg (f80_r0 c))
 (bSeq (bReg (f80_r1 c))
 (bSeq (bSeq (bReg (f80_r2 c))
 (bCond (.tmp 22) (bSeq (bReg (f80_r3 c))
 (bEx .ret)) (bEx .nrm)))
 (bSeq (bReg (f80_r4 c))
 (bSeq (bReg (f80_r5 c))
 (bSeq (bReg (f80_r6 c))
 (bSeq (bReg (f80_r7 c))
 (bSeq (bSeq (bReg (f80_r8 c))
 (bBlock 0 (bSeq (bReg (f80_r10 c))
 (bCond (.tmp 51) (bSeq (bReg (f80_r11 c))
 (bSeq (bReg (f80_r12 c))
 (bSeq (bReg (f80_r13 c))
 (bSeq (bReg (f80_r14 c))
 (bSeq (bReg (f80_r15 c))
 (bReg (f80_r16 c))))))) (bSeq (bReg (f80_r17 c))
 (bCond (.tmp 77) (bSeq (bReg (f80_r18 c))
 (bSeq (bReg (f80_r19 c))
 (bSeq (bReg (f80_r20 c))
 (bSeq (bSeq (bReg (f80_r21 c))
 (bCond (.tmp 86) (bSeq (bReg (f80_r22 c))
 (bEx .ret)) (bEx .nrm)))
 (bSeq (bReg (f80_r23 c))
 (bSeq (bReg (f80_r24 c))
 (bReg (f80_r25 c)))))))) (bSeq (bReg (f80_r26 c))
 (bCond (.tmp 107) (bSeq (bReg (f80_r27 c))
 (bSeq (bReg (f80_r28 c))
 (bSeq (bReg (f80_r29 c))
 (bSeq (bReg (f80_r30 c))
 (bReg (f80_r31 c)))))) (bSeq (bReg (f80_r32 c))
 (bCond (.tmp 128) (bSeq (bReg (f80_r33 c))
 (bSeq (bReg (f80_r34 c))
 (bSeq (bReg (f80_r35 c))
 (bReg (f80_r36 c))))) (bSeq (bReg (f80_r9 c))
 (bEx .ret))))))))))))
 (bSeq (bReg (f80_r37 c))
 (bEx .ret))))))))))
theorem f80_eq (c : CallF) (k : Nat) : exec cx c 152 f80_an k (Tryd.f80.body.getD .skip) = f80 c k := by kernel_rfl
/-! ### f81: loop.example/g01263/impl.readDeal -/
def f81_an : Ann := ⟨[(0, r0 [0, 2]), (1, r0 [0, 2, 4]), (2, r0 [0, 2, 4, 25]), (3, r0 [2, 3]), (4, r0 [0, 2, 4, 5]), (5, ⟨[0], [], [], [], [0, 2, 4, 5, 6]⟩), (6, r0 [0, 2, 4, 5, 6, 36]), (7, r0 [0, 2, 4, 5, 6, 36, 37]), (8, ⟨[2], [], [], [], [0, 2, 4, 5, 6]⟩), (9, r0 [0, 2, 4, 5, 6, 36, 42]), (10, ⟨[3], [], [], [], [0, 2, 4, 5, 6]⟩), (11, r0 [0, 2, 4, 5, 6, 36, 48]), (12, ⟨[1], [], [], [], [0, 2, 4, 5, 6]⟩), (13, r0 [0, 2, 4, 5, 6, 52]), (14, ⟨[2], [], [], [], [0, 2, 4, 5, 6]⟩), (15, r0 [0, 2, 4, 5, 6, 7, 8]), (16, r0 [0, 2, 4, 5, 6, 8]), (17, r0 [0, 2, 5, 6, 8, 9]), (18, r0 [0, 2, 5, 6, 9, 81]), (19, r0 [2, 3]), (20, r0 [0, 2, 5, 6, 9, 83, 84, 85]), (21, r0 [0, 2, 5, 6, 9, 83, 84, 85, 86]), (22, r0 [0, 2, 5, 6, 9, 10, 11, 83, 84, 85]), (23, r0 [0, 2, 5, 6, 9, 11, 12, 13, 83, 84, 85]), (24, r0 [0, 2, 5, 6, 9, 11, 12, 83, 84, 85, 99]), (25, r0 [2, 3]), (26, r0 [0, 2, 5, 6, 9, 83, 84, 85]), (27, r0 [0, 2, 5, 6, 9, 83, 84, 85]), (28, r0 [0, 2, 5, 6, 9, 112]), (29, r0 [0, 2, 5, 14, 15]), (30, r0 [0, 2, 5, 14, 123]), (31, r0 [2, 3]), (32, r0 [0, 2, 5]), (33, ⟨[], [], [6, 7, 8], [9, 10], [2, 3]⟩)], [(21, [0, 2, 5, 6, 9, 83, 84, 85])]⟩
noncomputable def f81_r0 (c : CallF) : RF := rg [0, 2] <| aX 2 (pAl 126 6) <|
 aX 3 (pM (cn (.bool false))) <|
 aXZ
noncomputable def f81_r1 (c : CallF) : RF := rg [0, 2, 4] <| aX 16 (pM 0) <|
 aX 17 (pK c false 114 [16, (cn (.str [32]))]) <|
 aX 4 (pM 17) <|
 aXZ
noncomputable def f81_r2 (c : CallF) : RF := rg [0, 2, 4, 25] <| aX 18 (pM 4) <|
 aX 19 (pLen 86 18) <|
 aX 20 (pB .lss 3 19 (cn (.int .i64 4))) <|
 aX 21 (pM 20) <|
 aX 22 (pG 21 false (pM 4)) <|
 aX 23 (pG 21 false (pLen 86 22)) <|
 aX 24 (pG 21 false (pB .gtr 3 23 (cn (.int .i64 8)))) <|
 aX 25 (pP 21 (cn (.bool true)) 24) <|
 aXZ
noncomputable def f81_r3 (c : CallF) : RF := rg [2, 3] <| aX 26 (fun n e M => keep (aBuild (zeroOf cx.P 126) [] M)) <|
 aX0 (pS 6 2 26) <|
 aX 3 (pM (cn (.bool false))) <|
 aXZ
noncomputable def f81_r4 (c : CallF) : RF := rg [0, 2, 4, 5] <| aX 27 (fun n e M => keep (aLitI 9 1 [(.str []), (.str [99, 117, 116]), (.str [112, 97, 115, 115]), (.str [112, 97, 121]), (.str [101, 110, 100])] M)) <|
 aX 28 (pM 4) <|
 aX 29 (pI 1 28 (cn (.int .i64 1))) <|
 aX 30 (pL false 1 29) <|
 aX 31 (pK c false 115 [27, 30]) <|
 aX 32 (fun n e M => keep (aConvI .i8 (eget e 31))) <|
 aX 33 (fun n e M => keep (aBuild (zeroOf cx.P 126) [(1, 1, (eget e 32))] M)) <|
 aX 5 (pAl 126 6) <|
 aX0 (pS 6 5 33) <|
 aXZ
noncomputable def f81_r5 (c : CallF) : RF := rg [0, 2, 4, 5, 6] <| aX 34 (fun n e M => aLitO false n 179 1 [] M) <|
 aX 6 (pM 34) <|
 aXZ
noncomputable def f81_r6 (c : CallF) : RF := rg [0, 2, 4, 5, 6, 36] <| aX 35 (pF 1 1 5) <|
 aX 36 (pL false 1 35) <|
 aXZ
noncomputable def f81_r7 (c : CallF) : RF := rg [0, 2, 4, 5, 6, 36, 37] <| aX 38 (pB .eql 45 36 (cn (.int .i8 1))) <|
 aX 37 (pM 38) <|
 aXZ
noncomputable def f81_r8 (c : CallF) : RF := rg [0, 2, 4, 5, 6] <| aX 39 (pF 3 1 5) <|
 aX 40 (pF 4 1 5) <|
 aX 41 (fun n e M => aLitO false n 179 1 [(eget e 39), (eget e 40)] M) <|
 aX 6 (pM 41) <|
 aXZ
noncomputable def f81_r9 (c : CallF) : RF := rg [0, 2, 4, 5, 6, 36, 42] <| aX 43 (pB .eql 45 36 (cn (.int .i8 2))) <|
 aX 42 (pM 43) <|
 aXZ
noncomputable def f81_r10 (c : CallF) : RF := rg [0, 2, 4, 5, 6] <| aX 44 (pF 2 1 5) <|
 aX 45 (pF 3 1 5) <|
 aX 46 (pF 4 1 5) <|
 aX 47 (fun n e M => aLitO false n 179 1 [(eget e 44), (eget e 45), (eget e 46)] M) <|
 aX 6 (pM 47) <|
 aXZ
noncomputable def f81_r11 (c : CallF) : RF := rg [0, 2, 4, 5, 6, 36, 48] <| aX 49 (pB .eql 45 36 (cn (.int .i8 3))) <|
 aX 48 (pM 49) <|
 aXZ
noncomputable def f81_r12 (c : CallF) : RF := rg [0, 2, 4, 5, 6] <| aX 50 (pF 2 1 5) <|
 aX 51 (fun n e M => aLitO false n 179 1 [(eget e 50)] M) <|
 aX 6 (pM 51) <|
 aXZ
noncomputable def f81_r13 (c : CallF) : RF := rg [0, 2, 4, 5, 6, 52] <| aX 53 (pB .eql 45 36 (cn (.int .i8 4))) <|
 aX 52 (pM 53) <|
 aXZ
noncomputable def f81_r14 (c : CallF) : RF := rg [0, 2, 4, 5, 6] <| aX 54 (pF 2 1 5) <|
 aX 55 (pF 3 1 5) <|
 aX 56 (fun n e M => aLitO false n 179 1 [(eget e 54), (eget e 55)] M) <|
 aX 6 (pM 56) <|
 aXZ
noncomputable def f81_r15 (c : CallF) : RF := rg [0, 2, 4, 5, 6, 7, 8] <| aX 58 (pM 4) <|
 aX 59 (pI 1 58 (cn (.int .i64 0))) <|
 aX 60 (pL false 1 59) <|
 aX 61 (pK c false 121 [60]) <|
 aX 57 (pM 61) <|
 aX 62 (pE 0 57) <|
 aX 63 (pE 1 57) <|
 aX 7 (pM 62) <|
 aX 8 (pM 63) <|
 aXZ
noncomputable def f81_r16 (c : CallF) : RF := rg [0, 2, 4, 5, 6, 8] <| aX 64 (pM 7) <|
 aX 65 (pF 0 1 5) <|
 aX0 (pS 1 65 64) <|
 aXZ
noncomputable def f81_r17 (c : CallF) : RF := rg [0, 2, 5, 6, 8, 9] <| aX 66 (pM 4) <|
 aX 67 (fun n e M => keep (aSlice 1 (some (.int .i64 2)) none (eget e 66) M)) <|
 aX 9 (pM 67) <|
 aXZ
noncomputable def f81_r18 (c : CallF) : RF := rg [0, 2, 5, 6, 9, 81] <| aX 68 (pM 8) <|
 aX 69 (pU .not 68) <|
 aX 70 (pM 69) <|
 aX 71 (pG 70 false (pM 6)) <|
 aX 72 (pG 70 false (pLen 178 71)) <|
 aX 73 (pG 70 false (pB .eql 3 72 (cn (.int .i64 0)))) <|
 aX 74 (pP 70 (cn (.bool true)) 73) <|
 aX 75 (pM 74) <|
 aX 76 (pG 75 false (pM 9)) <|
 aX 77 (pG 75 false (pLen 86 76)) <|
 aX 78 (pG 75 false (pM 6)) <|
 aX 79 (pG 75 false (pLen 178 78)) <|
 aX 80 (pG 75 false (pB .lss 3 77 79)) <|
 aX 81 (pP 75 (cn (.bool true)) 80) <|
 aXZ
noncomputable def f81_r19 (c : CallF) : RF := rg [2, 3] <| aX 82 (fun n e M => keep (aBuild (zeroOf cx.P 126) [] M)) <|
 aX0 (pS 6 2 82) <|
 aX 3 (pM (cn (.bool false))) <|
 aXZ
noncomputable def f81_r20 (c : CallF) : RF := rg [0, 2, 5, 6, 9, 83, 84, 85] <| aX 83 (pM 6) <|
 aX 84 (pLen 178 83) <|
 aX 85 (pM (cn (.int .i64 0))) <|
 aXZ
noncomputable def f81_r21 (c : CallF) : RF := rg [0, 2, 5, 6, 9, 83, 84, 85, 86] <| aX 86 (pB .lss 3 85 84) <|
 aXZ
noncomputable def f81_r22 (c : CallF) : RF := rg [0, 2, 5, 6, 9, 10, 11, 83, 84, 85] <| aX 87 (pM 85) <|
 aX 88 (pI 1 83 85) <|
 aX 89 (pL false 1 88) <|
 aX 10 (pM 87) <|
 aX 11 (pM 89) <|
 aXZ
noncomputable def f81_r23 (c : CallF) : RF := rg [0, 2, 5, 6, 9, 11, 12, 13, 83, 84, 85] <| aX 91 (pM 9) <|
 aX 92 (pM 10) <|
 aX 93 (pI 1 91 92) <|
 aX 94 (pL false 1 93) <|
 aX 95 (pK c false 121 [94]) <|
 aX 90 (pM 95) <|
 aX 96 (pE 0 90) <|
 aX 97 (pE 1 90) <|
 aX 12 (pM 96) <|
 aX 13 (pM 97) <|
 aXZ
noncomputable def f81_r24 (c : CallF) : RF := rg [0, 2, 5, 6, 9, 11, 12, 83, 84, 85, 99] <| aX 98 (pM 13) <|
 aX 99 (pU .not 98) <|
 aXZ
noncomputable def f81_r25 (c : CallF) : RF := rg [2, 3] <| aX 100 (fun n e M => keep (aBuild (zeroOf cx.P 126) [] M)) <|
 aX0 (pS 6 2 100) <|
 aX 3 (pM (cn (.bool false))) <|
 aXZ
noncomputable def f81_r26 (c : CallF) : RF := rg [0, 2, 5, 6, 9, 83, 84, 85] <| aX 101 (pM 11) <|
 aX 102 (pM 12) <|
 aX 103 (pN 101) <|
 aX0 (pS 1 103 102) <|
 aXZ
noncomputable def f81_r27 (c : CallF) : RF := rg [0, 2, 5, 6, 9, 83, 84, 85] <| aX 104 (pB .add 3 85 (cn (.int .i64 1))) <|
 aX 85 (pM 104) <|
 aXZ
noncomputable def f81_r28 (c : CallF) : RF := rg [0, 2, 5, 6, 9, 112] <| aX 105 (pF 1 1 5) <|
 aX 106 (pL false 1 105) <|
 aX 107 (pB .eql 45 106 (cn (.int .i8 1))) <|
 aX 108 (pM 107) <|
 aX 109 (pG 108 false (pF 1 1 5)) <|
 aX 110 (pG 108 false (pL false 1 109)) <|
 aX 111 (pG 108 false (pB .eql 45 110 (cn (.int .i8 3)))) <|
 aX 112 (pP 108 (cn (.bool true)) 111) <|
 aXZ
noncomputable def f81_r29 (c : CallF) : RF := rg [0, 2, 5, 14, 15] <| aX 114 (pM 9) <|
 aX 115 (pM 6) <|
 aX 116 (pLen 178 115) <|
 aX 117 (fun n e M => keep (aSlice 1 (some (eget e 116)) none (eget e 114) M)) <|
 aX 118 (pK c false 91 [117, (cn (.str [32]))]) <|
 aX 119 (pK c false 116 [118]) <|
 aX 113 (pM 119) <|
 aX 120 (pE 0 113) <|
 aX 121 (pE 1 113) <|
 aX 14 (pM 120) <|
 aX 15 (pM 121) <|
 aXZ
noncomputable def f81_r30 (c : CallF) : RF := rg [0, 2, 5, 14, 123] <| aX 122 (pM 15) <|
 aX 123 (pB .neq 2 122 (cn (.int .i64 0))) <|
 aXZ
noncomputable def f81_r31 (c : CallF) : RF := rg [2, 3] <| aX 124 (fun n e M => keep (aBuild (zeroOf cx.P 126) [] M)) <|
 aX0 (pS 6 2 124) <|
 aX 3 (pM (cn (.bool false))) <|
 aXZ
noncomputable def f81_r32 (c : CallF) : RF := rg [0, 2, 5] <| aX 125 (pM 14) <|
 aX 126 (pF 5 1 5) <|
 aX0 (pS 1 126 125) <|
 aXZ
noncomputable def f81_r33 (c : CallF) : RF := rgD [2, 3] (aY 127 (pL true 6 5) <|
 aY 128 (pL true 6 5) <|
 aY 129 (pK c false 129 [128]) <|
 aY 130 (pM 129) <|
 aY 131 (pG 130 true (pL true 6 5)) <|
 aY 132 (pG 130 true (pK c false 130 [131])) <|
 aYc 133 (pG 130 true (pM 0)) <|
 aYc 134 (pG 130 true (pB .eql 9 132 133)) <|
 aYc 135 (pP 130 134 (cn (.bool false))) <|
 aYZ)
 (aX0 (pS 6 2 127) <|
 aX 3 (pM 135) <|
 aXZ)
noncomputable def f81_l21 (c : CallF) (k : Nat) : St :=
 (bSeq (bReg (f81_r21 c))
 (bSeq (bCond (.tmp 86) (bEx .nrm) (bEx (.ext 1)))
 (bSeq (bBlock 2 (bSeq (bReg (f81_r22 c))
 (bSeq (bReg (f81_r23 c))
 (bSeq (bSeq (bReg (f81_r24 c))
 (bCond (.tmp 99) (bSeq (bReg (f81_r25 c))
 (bEx .ret)) (bEx .nrm)))
 (bReg (f81_r26 c))))))
 (bReg (f81_r27 c)))))
noncomputable def f81 (c : CallF) (k : Nat) : St :=
 (bSeq (bReg (f81_r0 c))
 (bSeq (bReg (f81_r1 c))
 (bSeq (bSeq (bReg (f81_r2 c))
 (bCond (.tmp 25) (bSeq (bReg (f81_r3 c))
 (bEx .ret)) (bEx .nrm)))
 (bSeq (bReg (f81_r4 c))
 (bSeq (bReg (f81_r5 c))
 (bSeq (bSeq (bReg (f81_r6 c))
 (bBlock 0 (bSeq (bReg (f81_r7 c))
 (bCond (.tmp 37) (bReg (f81_r8 c)) (bSeq (bReg (f81_r9 c))
 (bCond (.tmp 42) (bReg (f81_r10 c)) (bSeq (bReg (f81_r11 c))
 (bCond (.tmp 48) (bReg (f81_r12 c)) (bSeq (bReg (f81_r13 c))
 (bCond (.tmp 52) (bReg (f81_r14 c)) (bEx .nrm)))))))))))
 (bSeq (bReg (f81_r15 c))
 (bSeq (bReg (f81_r16 c))
 (bSeq (bReg (f81_r17 c))
 (bSeq (bSeq (bReg (f81_r18 c))
 (bCond (.tmp 81) (bSeq (bReg (f81_r19 c))
 (bEx .ret)) (bEx .nrm)))
 (bSeq (bSeq (bReg (f81_r20 c))
 (bBlock 1 (bLoop [0, 2, 5, 6, 9, 83, 84, 85] (f81_l21 c k) k)))
 (bSeq (bSeq (bReg (f81_r28 c))
 (bCond (.tmp 112) (bSeq (bReg (f81_r29 c))
 (bSeq (bSeq (bReg (f81_r30 c))
 (bCond (.tmp 123) (bSeq (bReg (f81_r31 c))
 (bEx .ret)) (bEx .nrm)))
 (bReg (f81_r32 c)))) (bEx .nrm)))
 (bSeq (bReg (f81_r33 c))
 (bEx .ret))))))))))))))
theorem f81_eq (c : CallF) (k : Nat) : exec cx c 136 f81_an k (Tryd.f81.body.getD .skip) = f81 c k := by kernel_rfl
/-! ### f82: loop.example/g01263/laws.eqDeal -/
def f82_an : Ann := ⟨[(0, r0 [2, 3]), (1, r0 [2, 3, 9]), (2, r0 [4]), (3, r0 [2, 3, 14]), (4, r0 [4]), (5, r0 [2, 3, 19]), (6, r0 [4]), (7, r0 [2, 3, 24]), (8, r0 [4]), (9, r0 [2, 3, 29]), (10, r0 [4]), (11, r0 [34]), (12, r0 [4]), (13, r0 [4])], []⟩
noncomputable def f82_r0 (c : CallF) : RF := rg [2, 3] <| aX 2 (pBox 6 0) <|
 aX 3 (pBox 6 1) <|
 aX 4 (pM (cn (.bool false))) <|
 aXZ
noncomputable def f82_r1 (c : CallF) : RF := rg [2, 3, 9] <| aX 5 (pF 0 1 2) <|
 aX 6 (pL false 1 5) <|
 aX 7 (pF 0 1 3) <|
 aX 8 (pL false 1 7) <|
 aX 9 (pB .neq 2 6 8) <|
 aXZ
noncomputable def f82_r2 (c : CallF) : RF := rg [4] <| aX 4 (pM (cn (.bool false))) <|
 aXZ
noncomputable def f82_r3 (c : CallF) : RF := rg [2, 3, 14] <| aX 10 (pF 1 1 2) <|
 aX 11 (pL false 1 10) <|
 aX 12 (pF 1 1 3) <|
 aX 13 (pL false 1 12) <|
 aX 14 (pB .neq 45 11 13) <|
 aXZ
noncomputable def f82_r4 (c : CallF) : RF := rg [4] <| aX 4 (pM (cn (.bool false))) <|
 aXZ
noncomputable def f82_r5 (c : CallF) : RF := rg [2, 3, 19] <| aX 15 (pF 2 1 2) <|
 aX 16 (pL false 1 15) <|
 aX 17 (pF 2 1 3) <|
 aX 18 (pL false 1 17) <|
 aX 19 (pB .neq 2 16 18) <|
 aXZ
noncomputable def f82_r6 (c : CallF) : RF := rg [4] <| aX 4 (pM (cn (.bool false))) <|
 aXZ
noncomputable def f82_r7 (c : CallF) : RF := rg [2, 3, 24] <| aX 20 (pF 3 1 2) <|
 aX 21 (pL false 1 20) <|
 aX 22 (pF 3 1 3) <|
 aX 23 (pL false 1 22) <|
 aX 24 (pB .neq 2 21 23) <|
 aXZ
noncomputable def f82_r8 (c : CallF) : RF := rg [4] <| aX 4 (pM (cn (.bool false))) <|
 aXZ
noncomputable def f82_r9 (c : CallF) : RF := rg [2, 3, 29] <| aX 25 (pF 4 1 2) <|
 aX 26 (pL false 1 25) <|
 aX 27 (pF 4 1 3) <|
 aX 28 (pL false 1 27) <|
 aX 29 (pB .neq 2 26 28) <|
 aXZ
noncomputable def f82_r10 (c : CallF) : RF := rg [4] <| aX 4 (pM (cn (.bool false))) <|
 aXZ
noncomputable def f82_r11 (c : CallF) : RF := rg [34] <| aX 30 (pF 5 1 2) <|
 aX 31 (pL false 1 30) <|
 aX 32 (pF 5 1 3) <|
 aX 33 (pL false 1 32) <|
 aX 34 (pB .neq 2 31 33) <|
 aXZ
noncomputable def f82_r12 (c : CallF) : RF := rg [4] <| aX 4 (pM (cn (.bool false))) <|
 aXZ
noncomputable def f82_r13 (c : CallF) : RF := rg [4] <| aX 4 (pM (cn (.bool true))) <|
 aXZ
noncomputable def f82 (c : CallF) (k : Nat) : St :=
 (bSeq (bReg (f82_r0 c))
 (bSeq (bSeq (bReg (f82_r1 c))
 (bCond (.tmp 9) (bSeq (bReg (f82_r2 c))
 (bEx .ret)) (bEx .nrm)))
 (bSeq (bSeq (bReg (f82_r3 c))
 (bCond (.tmp 14) (bSeq (bReg (f82_r4 c))
 (bEx .ret)) (bEx .nrm)))
 (bSeq (bSeq (bReg (f82_r5 c))
 (bCond (.tmp 19) (bSeq (bReg (f82_r6 c))
 (bEx .ret)) (bEx .nrm)))
 (bSeq (bSeq (bReg (f82_r7 c))
 (bCond (.tmp 24) (bSeq (bReg (f82_r8 c))
 (bEx .ret)) (bEx .nrm)))
 (bSeq (bSeq (bReg (f82_r9 c))
 (bCond (.tmp 29) (bSeq (bReg (f82_r10 c))
 (bEx .ret)) (bEx .nrm)))
 (bSeq (bSeq (bReg (f82_r11 c))
 (bCond (.tmp 34) (bSeq (bReg (f82_r12 c))
 (bEx .ret)) (bEx .nrm)))
 (bSeq (bReg (f82_r13 c))
 (bEx .ret)))))))))
theorem f82_eq (c : CallF) (k : Nat) : exec cx c 35 f82_an k (Tryd.f82.body.getD .skip) = f82 c k := by kernel_rfl
/-! ### f84: loop.example/g01263/spec.l00In -/
def f84_an : Ann := ⟨[(0, r0 [0, 1, 2]), (1, r0 [6])], []⟩
noncomputable def f84_r0 (c : CallF) : RF := rg [0, 1, 2] <| aX 6 (pM (cn (.bool false))) <|
 aXZ
noncomputable def f84_r1 (c : CallF) : RF := rg [6] <| aX 7 (pM 0) <|
 aX 8 (pM 1) <|
 aX 9 (pB .geq 2 7 8) <|
 aX 10 (pM 9) <|
 aX 11 (pG 10 true (pM 0)) <|
 aX 12 (pG 10 true (pM 2)) <|
 aX 13 (pG 10 true (pB .leq 2 11 12)) <|
 aX 14 (pP 10 13 (cn (.bool false))) <|
 aX 6 (pM 14) <|
 aXZ
noncomputable def f84 (c : CallF) (k : Nat) : St :=
 (bSeq (bReg (f84_r0 c))
 (bSeq (bReg (f84_r1 c))
 (bEx .ret)))
theorem f84_eq (c : CallF) (k : Nat) : exec cx c 15 f84_an k (Tryd.f84.body.getD .skip) = f84 c k := by kernel_rfl
/-! ### f90: loop.example/g01263/impl.decimal -/
def f90_an : Ann := ⟨[(0, r0 [0]), (1, r0 [2])], []⟩
noncomputable def f90_r0 (c : CallF) : RF := rg [0] <| aX 2 (pM (cn (.str []))) <|
 aXZ
noncomputable def f90_r1 (c : CallF) : RF := rg [2] <| aX 3 (pM 0) <|
 aX 4 (pK c false 133 [3, (cn (.int .i64 10))]) <|
 aX 2 (pM 4) <|
 aXZ
noncomputable def f90 (c : CallF) (k : Nat) : St :=
 (bSeq (bReg (f90_r0 c))
 (bSeq (bReg (f90_r1 c))
 (bEx .ret)))
theorem f90_eq (c : CallF) (k : Nat) : exec cx c 5 f90_an k (Tryd.f90.body.getD .skip) = f90 c k := by kernel_rfl
/-! ### f94: loop.example/g01263/spec.l01Part -/
def f94_an : Ann := ⟨[(0, r0 [0, 1, 2]), (1, r0 [0, 1, 2, 8]), (2, r0 [6]), (3, r0 [0, 1, 2, 11]), (4, r0 [0, 1, 2]), (5, r0 [6])], []⟩
noncomputable def f94_r0 (c : CallF) : RF := rg [0, 1, 2] <| aX 6 (pM (cn (.str []))) <|
 aXZ
noncomputable def f94_r1 (c : CallF) : RF := rg [0, 1, 2, 8] <| aX 7 (pM 1) <|
 aX 8 (pB .eql 2 7 (cn (.int .i64 0))) <|
 aXZ
noncomputable def f94_r2 (c : CallF) : RF := rg [6] <| aX 9 (pM 0) <|
 aX 6 (pM 9) <|
 aXZ
noncomputable def f94_r3 (c : CallF) : RF := rg [0, 1, 2, 11] <| aX 10 (pM 0) <|
 aX 11 (pB .neq 9 10 (cn (.str []))) <|
 aXZ
noncomputable def f94_r4 (c : CallF) : RF := rg [0, 1, 2] <| aX 12 (pM 0) <|
 aX 13 (pB .add 9 12 (cn (.str [32]))) <|
 aX 0 (pM 13) <|
 aXZ
noncomputable def f94_r5 (c : CallF) : RF := rg [6] <| aX 14 (pM 0) <|
 aX 15 (pM 1) <|
 aX 16 (pK c false 139 [15]) <|
 aX 17 (pB .add 9 14 16) <|
 aX 18 (pM 2) <|
 aX 19 (pB .add 9 17 18) <|
 aX 6 (pM 19) <|
 aXZ
noncomputable def f94 (c : CallF) (k : Nat) : St :=
 (bSeq (bReg (f94_r0 c))
 (bSeq (bSeq (bReg (f94_r1 c))
 (bCond (.tmp 8) (bSeq (bReg (f94_r2 c))
 (bEx .ret)) (bEx .nrm)))
 (bSeq (bSeq (bReg (f94_r3 c))
 (bCond (.tmp 11) (bReg (f94_r4 c)) (bEx .nrm)))
 (bSeq (bReg (f94_r5 c))
 (bEx .ret)))))
theorem f94_eq (c : CallF) (k : Nat) : exec cx c 20 f94_an k (Tryd.f94.body.getD .skip) = f94 c k := by kernel_rfl
/-! ### f115: slices.Index[[]string,string] -/
def f115_an : Ann := ⟨[(0, r0 [0, 1]), (1, r0 [0, 1, 7, 8]), (2, r0 [0, 1, 7, 8, 9]), (3, r0 [0, 1, 5, 7, 8]), (4, r0 [0, 1, 5, 7, 8, 16]), (5, r0 [4]), (6, r0 [0, 1, 7, 8]), (7, r0 [4])], [(2, [0, 1, 7, 8])]⟩
noncomputable def f115_r0 (c : CallF) : RF := rg [0, 1] <| aX 4 (pM (cn (.int .i64 0))) <|
 aXZ
noncomputable def f115_r1 (c : CallF) : RF := rg [0, 1, 7, 8] <| aX 6 (pM 0) <|
 aX 7 (pLen 86 6) <|
 aX 8 (pM (cn (.int .i64 0))) <|
 aXZ
noncomputable def f115_r2 (c : CallF) : RF := rg [0, 1, 7, 8, 9] <| aX 9 (pB .lss 3 8 7) <|
 aXZ
noncomputable def f115_r3 (c : CallF) : RF := rg [0, 1, 5, 7, 8] <| aX 10 (pM 8) <|
 aX 5 (pM 10) <|
 aXZ
noncomputable def f115_r4 (c : CallF) : RF := rg [0, 1, 5, 7, 8, 16] <| aX 11 (pM 1) <|
 aX 12 (pM 0) <|
 aX 13 (pM 5) <|
 aX 14 (pI 1 12 13) <|
 aX 15 (pL false 1 14) <|
 aX 16 (pB .eql 9 11 15) <|
 aXZ
noncomputable def f115_r5 (c : CallF) : RF := rg [4] <| aX 17 (pM 5) <|
 aX 4 (pM 17) <|
 aXZ
noncomputable def f115_r6 (c : CallF) : RF := rg [0, 1, 7, 8] <| aX 18 (pB .add 3 8 (cn (.int .i64 1))) <|
 aX 8 (pM 18) <|
 aXZ
noncomputable def f115_r7 (c : CallF) : RF := rg [4] <| aX 4 (pM (cn (.int .i64 (-1)))) <|
 aXZ
noncomputable def f115_l2 (c : CallF) (k : Nat) : St :=
 (bSeq (bReg (f115_r2 c))
 (bSeq (bCond (.tmp 9) (bEx .nrm) (bEx (.ext 0)))
 (bSeq (bBlock 1 (bSeq (bReg (f115_r3 c))
 (bSeq (bReg (f115_r4 c))
 (bCond (.tmp 16) (bSeq (bReg (f115_r5 c))
 (bEx .ret)) (bEx .nrm)))))
 (bReg (f115_r6 c)))))
noncomputable def f115 (c : CallF) (k : Nat) : St :=
 (bSeq (bReg (f115_r0 c))
 (bSeq (bSeq (bReg (f115_r1 c))
 (bBlock 0 (bLoop [0, 1, 7, 8] (f115_l2 c k) k)))
 (bSeq (bReg (f115_r7 c))
 (bEx .ret))))
theorem f115_eq (c : CallF) (k : Nat) : exec cx c 19 f115_an k (Tryd.f115.body.getD .skip) = f115 c k := by kernel_rfl
/-! ### f116: loop.example/g01263/impl.ReadAmount -/
def f116_an : Ann := ⟨[(0, r0 [0]), (1, r0 [0, 12]), (2, r0 [2, 3]), (3, r0 [0, 4]), (4, r0 [0, 4, 14, 15, 16]), (5, r0 [0, 4, 14, 15, 16, 17]), (6, r0 [0, 4, 6, 14, 15, 16]), (7, r0 [0, 4, 6, 14, 15, 16, 21]), (8, r0 [2, 3]), (9, r0 [0, 4, 6, 7, 8, 14, 15, 16]), (10, r0 [0, 4, 7, 8, 9, 14, 15, 16]), (11, r0 [0, 4, 7, 9, 14, 15, 16, 42]), (12, r0 [2, 3]), (13, r0 [0, 4, 14, 15, 16]), (14, r0 [0, 4, 14, 15, 16]), (15, r0 [4, 53]), (16, r0 [2, 3]), (17, r0 [2, 3])], [(5, [0, 4, 14, 15, 16])]⟩
noncomputable def f116_r0 (c : CallF) : RF := rg [0] <| aX 2 (pM (cn (.int .i64 0))) <|
 aX 3 (pM (cn (.int .i64 0))) <|
 aXZ
noncomputable def f116_r1 (c : CallF) : RF := rg [0, 12] <| aX 10 (pM 0) <|
 aX 11 (pLen 9 10) <|
 aX 12 (pB .gtr 3 11 (cn (.int .i64 30))) <|
 aXZ
noncomputable def f116_r2 (c : CallF) : RF := rg [2, 3] <| aX 2 (pM (cn (.int .i64 0))) <|
 aX 3 (pM (cn (.int .i64 5))) <|
 aXZ
noncomputable def f116_r3 (c : CallF) : RF := rg [0, 4] <| aX 4 (pM (cn (.int .i64 0))) <|
 aXZ
noncomputable def f116_r4 (c : CallF) : RF := rg [0, 4, 14, 15, 16] <| aX 13 (pM 0) <|
 aX 14 (pK c false 114 [13, (cn (.str [32]))]) <|
 aX 15 (pLen 86 14) <|
 aX 16 (pM (cn (.int .i64 0))) <|
 aXZ
noncomputable def f116_r5 (c : CallF) : RF := rg [0, 4, 14, 15, 16, 17] <| aX 17 (pB .lss 3 16 15) <|
 aXZ
noncomputable def f116_r6 (c : CallF) : RF := rg [0, 4, 6, 14, 15, 16] <| aX 18 (pI 1 14 16) <|
 aX 19 (pL false 1 18) <|
 aX 6 (pM 19) <|
 aXZ
noncomputable def f116_r7 (c : CallF) : RF := rg [0, 4, 6, 14, 15, 16, 21] <| aX 20 (pM 6) <|
 aX 21 (pB .eql 9 20 (cn (.str []))) <|
 aXZ
noncomputable def f116_r8 (c : CallF) : RF := rg [2, 3] <| aX 2 (pM (cn (.int .i64 0))) <|
 aX 3 (pM (cn (.int .i64 5))) <|
 aXZ
noncomputable def f116_r9 (c : CallF) : RF := rg [0, 4, 6, 7, 8, 14, 15, 16] <| aX 23 (pM 6) <|
 aX 24 (pM 6) <|
 aX 25 (pLen 9 24) <|
 aX 26 (pB .sub 3 25 (cn (.int .i64 1))) <|
 aX 27 (fun n e M => keep (aSliceS none (some (eget e 26)) (eget e 23))) <|
 aX 28 (pK c false 121 [27]) <|
 aX 22 (pM 28) <|
 aX 29 (pE 0 22) <|
 aX 30 (pE 1 22) <|
 aX 7 (pM 29) <|
 aX 8 (pM 30) <|
 aXZ
noncomputable def f116_r10 (c : CallF) : RF := rg [0, 4, 7, 8, 9, 14, 15, 16] <| aX 31 (pM 6) <|
 aX 32 (pM 6) <|
 aX 33 (pLen 9 32) <|
 aX 34 (pB .sub 3 33 (cn (.int .i64 1))) <|
 aX 35 (fun n e M => keep (aIndexB (eget e 31) (eget e 34))) <|
 aX 36 (pK c false 120 [(cn (.str [100, 115, 108])), 35]) <|
 aX 9 (pM 36) <|
 aXZ
noncomputable def f116_r11 (c : CallF) : RF := rg [0, 4, 7, 9, 14, 15, 16, 42] <| aX 37 (pM 8) <|
 aX 38 (pU .not 37) <|
 aX 39 (pM 38) <|
 aX 40 (pG 39 false (pM 9)) <|
 aX 41 (pG 39 false (pB .lss 3 40 (cn (.int .i64 0)))) <|
 aX 42 (pP 39 (cn (.bool true)) 41) <|
 aXZ
noncomputable def f116_r12 (c : CallF) : RF := rg [2, 3] <| aX 2 (pM (cn (.int .i64 0))) <|
 aX 3 (pM (cn (.int .i64 5))) <|
 aXZ
noncomputable def f116_r13 (c : CallF) : RF := rg [0, 4, 14, 15, 16] <| aX 43 (pM 4) <|
 aX 44 (pM 7) <|
 aX 45 (pM 9) <|
 aX 46 (pK c false 153 [45]) <|
 aX 47 (pB .mul 2 44 46) <|
 aX 48 (pB .add 2 43 47) <|
 aX 4 (pM 48) <|
 aXZ
noncomputable def f116_r14 (c : CallF) : RF := rg [0, 4, 14, 15, 16] <| aX 49 (pB .add 3 16 (cn (.int .i64 1))) <|
 aX 16 (pM 49) <|
 aXZ
noncomputable def f116_r15 (c : CallF) : RF := rg [4, 53] <| aX 50 (pM 4) <|
 aX 51 (pK c false 45 [50]) <|
 aX 52 (pM 0) <|
 aX 53 (pB .neq 9 51 52) <|
 aXZ
noncomputable def f116_r16 (c : CallF) : RF := rg [2, 3] <| aX 2 (pM (cn (.int .i64 0))) <|
 aX 3 (pM (cn (.int .i64 5))) <|
 aXZ
noncomputable def f116_r17 (c : CallF) : RF := rg [2, 3] <| aX 54 (pM 4) <|
 aX 2 (pM 54) <|
 aX 3 (pM (cn (.int .i64 0))) <|
 aXZ
noncomputable def f116_l5 (c : CallF) (k : Nat) : St :=
 (bSeq (bReg (f116_r5 c))
 (bSeq (bCond (.tmp 17) (bEx .nrm) (bEx (.ext 0)))
 (bSeq (bBlock 1 (bSeq (bReg (f116_r6 c))
 (bSeq (bSeq (bReg (f116_r7 c))
 (bCond (.tmp 21) (bSeq (bReg (f116_r8 c))
 (bEx .ret)) (bEx .nrm)))
 (bSeq (bReg (f116_r9 c))
 (bSeq (bReg (f116_r10 c))
 (bSeq (bSeq (bReg (f116_r11 c))
 (bCond (.tmp 42) (bSeq (bReg (f116_r12 c))
 (bEx .ret)) (bEx .nrm)))
 (bReg (f116_r13 c))))))))
 (bReg (f116_r14 c)))))
noncomputable def f116 (c : CallF) (k : Nat) : St :=
 (bSeq (bReg (f116_r0 c))
 (bSeq (bSeq (bReg (f116_r1 c))
 (bCond (.tmp 12) (bSeq (bReg (f116_r2 c))
 (bEx .ret)) (bEx .nrm)))
 (bSeq (bReg (f116_r3 c))
 (bSeq (bSeq (bReg (f116_r4 c))
 (bBlock 0 (bLoop [0, 4, 14, 15, 16] (f116_l5 c k) k)))
 (bSeq (bSeq (bReg (f116_r15 c))
 (bCond (.tmp 53) (bSeq (bReg (f116_r16 c))
 (bEx .ret)) (bEx .nrm)))
 (bSeq (bReg (f116_r17 c))
 (bEx .ret)))))))
theorem f116_eq (c : CallF) (k : Nat) : exec cx c 55 f116_an k (Tryd.f116.body.getD .skip) = f116 c k := by kernel_rfl
/-! ### f121: loop.example/g01263/impl.number -/
def f121_an : Ann := ⟨[(0, r0 [0]), (1, r0 [0, 22]), (2, r0 [2, 3]), (3, r0 [0, 4]), (4, r0 [0, 4, 24, 25]), (5, r0 [0, 4, 24, 25, 26]), (6, r0 [0, 4, 5, 24, 25]), (7, r0 [0, 4, 5, 24, 25, 37]), (8, r0 [2, 3]), (9, r0 [0, 4, 24, 25]), (10, r0 [0, 4, 24, 25]), (11, r0 [2, 3])], [(5, [0, 4, 24, 25])]⟩
noncomputable def f121_r0 (c : CallF) : RF := rg [0] <| aX 2 (pM (cn (.int .i64 0))) <|
 aX 3 (pM (cn (.bool false))) <|
 aXZ
noncomputable def f121_r1 (c : CallF) : RF := rg [0, 22] <| aX 6 (pM 0) <|
 aX 7 (pB .eql 9 6 (cn (.str []))) <|
 aX 8 (pM 7) <|
 aX 9 (pG 8 false (pM 0)) <|
 aX 10 (pG 8 false (pLen 9 9)) <|
 aX 11 (pG 8 false (pB .gtr 3 10 (cn (.int .i64 9)))) <|
 aX 12 (pP 8 (cn (.bool true)) 11) <|
 aX 13 (pM 12) <|
 aX 14 (pG 13 false (pM 0)) <|
 aX 15 (pG 13 false (fun n e M => keep (aIndexB (eget e 14) (.int .i64 0)))) <|
 aX 16 (pG 13 false (pB .eql 5 15 (cn (.int .u8 48)))) <|
 aX 17 (pG 13 false (pM 16)) <|
 aX 18 (pG 17 true (pM 0)) <|
 aX 19 (pG 17 true (pLen 9 18)) <|
 aX 20 (pG 17 true (pB .gtr 3 19 (cn (.int .i64 1)))) <|
 aX 21 (pG 13 false (pP 17 20 (cn (.bool false)))) <|
 aX 22 (pP 13 (cn (.bool true)) 21) <|
 aXZ
noncomputable def f121_r2 (c : CallF) : RF := rg [2, 3] <| aX 2 (pM (cn (.int .i64 0))) <|
 aX 3 (pM (cn (.bool false))) <|
 aXZ
noncomputable def f121_r3 (c : CallF) : RF := rg [0, 4] <| aX 4 (pM (cn (.int .i64 0))) <|
 aXZ
noncomputable def f121_r4 (c : CallF) : RF := rg [0, 4, 24, 25] <| aX 23 (pM 0) <|
 aX 24 (pLen 9 23) <|
 aX 25 (pM (cn (.int .i64 0))) <|
 aXZ
noncomputable def f121_r5 (c : CallF) : RF := rg [0, 4, 24, 25, 26] <| aX 26 (pB .lss 3 25 24) <|
 aXZ
noncomputable def f121_r6 (c : CallF) : RF := rg [0, 4, 5, 24, 25] <| aX 27 (pM 25) <|
 aX 5 (pM 27) <|
 aXZ
noncomputable def f121_r7 (c : CallF) : RF := rg [0, 4, 5, 24, 25, 37] <| aX 28 (pM 0) <|
 aX 29 (pM 5) <|
 aX 30 (fun n e M => keep (aIndexB (eget e 28) (eget e 29))) <|
 aX 31 (pB .lss 5 30 (cn (.int .u8 48))) <|
 aX 32 (pM 31) <|
 aX 33 (pG 32 false (pM 0)) <|
 aX 34 (pG 32 false (pM 5)) <|
 aX 35 (pG 32 false (fun n e M => keep (aIndexB (eget e 33) (eget e 34)))) <|
 aX 36 (pG 32 false (pB .gtr 5 35 (cn (.int .u8 57)))) <|
 aX 37 (pP 32 (cn (.bool true)) 36) <|
 aXZ
noncomputable def f121_r8 (c : CallF) : RF := rg [2, 3] <| aX 2 (pM (cn (.int .i64 0))) <|
 aX 3 (pM (cn (.bool false))) <|
 aXZ
noncomputable def f121_r9 (c : CallF) : RF := rg [0, 4, 24, 25] <| aX 38 (pM 4) <|
 aX 39 (pB .mul 2 38 (cn (.int .i64 10))) <|
 aX 40 (pM 0) <|
 aX 41 (pM 5) <|
 aX 42 (fun n e M => keep (aIndexB (eget e 40) (eget e 41))) <|
 aX 43 (pB .sub 5 42 (cn (.int .u8 48))) <|
 aX 44 (fun n e M => keep (aConvI .i64 (eget e 43))) <|
 aX 45 (pB .add 2 39 44) <|
 aX 4 (pM 45) <|
 aXZ
noncomputable def f121_r10 (c : CallF) : RF := rg [0, 4, 24, 25] <| aX 46 (pB .add 3 25 (cn (.int .i64 1))) <|
 aX 25 (pM 46) <|
 aXZ
noncomputable def f121_r11 (c : CallF) : RF := rg [2, 3] <| aX 47 (pM 4) <|
 aX 2 (pM 47) <|
 aX 3 (pM (cn (.bool true))) <|
 aXZ
noncomputable def f121_l5 (c : CallF) (k : Nat) : St :=
 (bSeq (bReg (f121_r5 c))
 (bSeq (bCond (.tmp 26) (bEx .nrm) (bEx (.ext 0)))
 (bSeq (bBlock 1 (bSeq (bReg (f121_r6 c))
 (bSeq (bSeq (bReg (f121_r7 c))
 (bCond (.tmp 37) (bSeq (bReg (f121_r8 c))
 (bEx .ret)) (bEx .nrm)))
 (bReg (f121_r9 c)))))
 (bReg (f121_r10 c)))))
noncomputable def f121 (c : CallF) (k : Nat) : St :=
 (bSeq (bReg (f121_r0 c))
 (bSeq (bSeq (bReg (f121_r1 c))
 (bCond (.tmp 22) (bSeq (bReg (f121_r2 c))
 (bEx .ret)) (bEx .nrm)))
 (bSeq (bReg (f121_r3 c))
 (bSeq (bSeq (bReg (f121_r4 c))
 (bBlock 0 (bLoop [0, 4, 24, 25] (f121_l5 c k) k)))
 (bSeq (bReg (f121_r11 c))
 (bEx .ret))))))
theorem f121_eq (c : CallF) (k : Nat) : exec cx c 48 f121_an k (Tryd.f121.body.getD .skip) = f121 c k := by kernel_rfl
/-! ### f125: loop.example/g01263/spec.l01Number -/
def f125_an : Ann := ⟨[(0, r0 [0]), (1, r0 [0, 22]), (2, r0 [2, 3]), (3, r0 [0, 4]), (4, r0 [0, 4, 5]), (5, r0 [0, 4, 5, 26]), (6, r0 [0, 4, 5]), (7, r0 [0, 4, 5, 38]), (8, r0 [2, 3]), (9, r0 [0, 4, 5]), (10, r0 [2, 3])], [(5, [0, 4, 5])]⟩
noncomputable def f125_r0 (c : CallF) : RF := rg [0] <| aX 2 (pM (cn (.int .i64 0))) <|
 aX 3 (pM (cn (.bool false))) <|
 aXZ
noncomputable def f125_r1 (c : CallF) : RF := rg [0, 22] <| aX 6 (pM 0) <|
 aX 7 (pB .eql 9 6 (cn (.str []))) <|
 aX 8 (pM 7) <|
 aX 9 (pG 8 false (pM 0)) <|
 aX 10 (pG 8 false (pLen 9 9)) <|
 aX 11 (pG 8 false (pB .gtr 3 10 (cn (.int .i64 10)))) <|
 aX 12 (pP 8 (cn (.bool true)) 11) <|
 aX 13 (pM 12) <|
 aX 14 (pG 13 false (pM 0)) <|
 aX 15 (pG 13 false (fun n e M => keep (aIndexB (eget e 14) (.int .i64 0)))) <|
 aX 16 (pG 13 false (pB .eql 5 15 (cn (.int .u8 48)))) <|
 aX 17 (pG 13 false (pM 16)) <|
 aX 18 (pG 17 true (pM 0)) <|
 aX 19 (pG 17 true (pLen 9 18)) <|
 aX 20 (pG 17 true (pB .gtr 3 19 (cn (.int .i64 1)))) <|
 aX 21 (pG 13 false (pP 17 20 (cn (.bool false)))) <|
 aX 22 (pP 13 (cn (.bool true)) 21) <|
 aXZ
noncomputable def f125_r2 (c : CallF) : RF := rg [2, 3] <| aX 2 (pM (cn (.int .i64 0))) <|
 aX 3 (pM (cn (.bool false))) <|
 aXZ
noncomputable def f125_r3 (c : CallF) : RF := rg [0, 4] <| aX 4 (pM (cn (.int .i64 0))) <|
 aXZ
noncomputable def f125_r4 (c : CallF) : RF := rg [0, 4, 5] <| aX 5 (pM (cn (.int .i64 0))) <|
 aXZ
noncomputable def f125_r5 (c : CallF) : RF := rg [0, 4, 5, 26] <| aX 23 (pM 5) <|
 aX 24 (pM 0) <|
 aX 25 (pLen 9 24) <|
 aX 26 (pB .lss 3 23 25) <|
 aXZ
noncomputable def f125_r6 (c : CallF) : RF := rg [0, 4, 5] <| aX 27 (pM 5) <|
 aX 28 (pB .add 3 27 (cn (.int .i64 1))) <|
 aX 5 (pM 28) <|
 aXZ
noncomputable def f125_r7 (c : CallF) : RF := rg [0, 4, 5, 38] <| aX 29 (pM 0) <|
 aX 30 (pM 5) <|
 aX 31 (fun n e M => keep (aIndexB (eget e 29) (eget e 30))) <|
 aX 32 (pB .lss 5 31 (cn (.int .u8 48))) <|
 aX 33 (pM 32) <|
 aX 34 (pG 33 false (pM 0)) <|
 aX 35 (pG 33 false (pM 5)) <|
 aX 36 (pG 33 false (fun n e M => keep (aIndexB (eget e 34) (eget e 35)))) <|
 aX 37 (pG 33 false (pB .gtr 5 36 (cn (.int .u8 57)))) <|
 aX 38 (pP 33 (cn (.bool true)) 37) <|
 aXZ
noncomputable def f125_r8 (c : CallF) : RF := rg [2, 3] <| aX 2 (pM (cn (.int .i64 0))) <|
 aX 3 (pM (cn (.bool false))) <|
 aXZ
noncomputable def f125_r9 (c : CallF) : RF := rg [0, 4, 5] <| aX 39 (pM 4) <|
 aX 40 (pB .mul 2 (cn (.int .i64 10)) 39) <|
 aX 41 (pM 0) <|
 aX 42 (pM 5) <|
 aX 43 (fun n e M => keep (aIndexB (eget e 41) (eget e 42))) <|
 aX 44 (pB .sub 5 43 (cn (.int .u8 48))) <|
 aX 45 (fun n e M => keep (aConvI .i64 (eget e 44))) <|
 aX 46 (pB .add 2 40 45) <|
 aX 4 (pM 46) <|
 aXZ
noncomputable def f125_r10 (c : CallF) : RF := rg [2, 3] <| aX 47 (pM 4) <|
 aX 2 (pM 47) <|
 aX 3 (pM (cn (.bool true))) <|
 aXZ
noncomputable def f125_l5 (c : CallF) (k : Nat) : St :=
 (bSeq (bSeq (bReg (f125_r5 c))
 (bCond (.tmp 26) (bEx .nrm) (bEx (.ext 0))))
 (bSeq (bBlock 1 (bSeq (bSeq (bReg (f125_r7 c))
 (bCond (.tmp 38) (bSeq (bReg (f125_r8 c))
 (bEx .ret)) (bEx .nrm)))
 (bReg (f125_r9 c))))
 (bReg (f125_r6 c))))
noncomputable def f125 (c : CallF) (k : Nat) : St :=
 (bSeq (bReg (f125_r0 c))
 (bSeq (bSeq (bReg (f125_r1 c))
 (bCond (.tmp 22) (bSeq (bReg (f125_r2 c))
 (bEx .ret)) (bEx .nrm)))
 (bSeq (bReg (f125_r3 c))
 (bSeq (bSeq (bReg (f125_r4 c))
 (bBlock 0 (bLoop [0, 4, 5] (f125_l5 c k) k)))
 (bSeq (bReg (f125_r10 c))
 (bEx .ret))))))
theorem f125_eq (c : CallF) (k : Nat) : exec cx c 48 f125_an k (Tryd.f125.body.getD .skip) = f125 c k := by kernel_rfl
/-! ### f126: loop.example/g01263/spec.l01ReadAmount -/
def f126_an : Ann := ⟨[(0, r0 [0]), (1, r0 [0, 4]), (2, r0 [0, 4, 5]), (3, r0 [0, 4, 5, 6]), (4, r0 [0, 4, 5, 6, 15]), (5, r0 [0, 4, 5, 6]), (6, r0 [0, 4, 5, 6, 7]), (7, r0 [0, 4, 5, 6, 7, 24]), (8, r0 [2, 3]), (9, r0 [0, 4, 5, 6, 7, 8, 9]), (10, r0 [0, 4, 5, 6, 7, 8, 41]), (11, r0 [2, 3]), (12, r0 [0, 4, 5, 6, 8, 48]), (13, r0 [2, 3]), (14, r0 [0, 4, 5, 6, 8, 48, 49]), (15, r0 [0, 4, 5, 6]), (16, r0 [0, 4, 5, 6, 8, 48, 55]), (17, r0 [0, 4, 5, 6]), (18, r0 [0, 4, 5, 6, 8, 61]), (19, r0 [0, 4, 5, 6]), (20, r0 [2, 3])], [(4, [0, 4, 5, 6])]⟩
noncomputable def f126_r0 (c : CallF) : RF := rg [0] <| aX 2 (pM (cn (.int .i64 0))) <|
 aX 3 (pM (cn (.bool false))) <|
 aXZ
noncomputable def f126_r1 (c : CallF) : RF := rg [0, 4] <| aX 10 (pM 0) <|
 aX 11 (pK c false 65 [10, (cn (.int .u8 32))]) <|
 aX 4 (pM 11) <|
 aXZ
noncomputable def f126_r2 (c : CallF) : RF := rg [0, 4, 5] <| aX 5 (pM (cn (.int .i64 0))) <|
 aXZ
noncomputable def f126_r3 (c : CallF) : RF := rg [0, 4, 5, 6] <| aX 6 (pM (cn (.int .i64 0))) <|
 aXZ
noncomputable def f126_r4 (c : CallF) : RF := rg [0, 4, 5, 6, 15] <| aX 12 (pM 6) <|
 aX 13 (pM 4) <|
 aX 14 (pLen 86 13) <|
 aX 15 (pB .lss 3 12 14) <|
 aXZ
noncomputable def f126_r5 (c : CallF) : RF := rg [0, 4, 5, 6] <| aX 16 (pM 6) <|
 aX 17 (pB .add 3 16 (cn (.int .i64 1))) <|
 aX 6 (pM 17) <|
 aXZ
noncomputable def f126_r6 (c : CallF) : RF := rg [0, 4, 5, 6, 7] <| aX 18 (pM 4) <|
 aX 19 (pM 6) <|
 aX 20 (pI 1 18 19) <|
 aX 21 (pL false 1 20) <|
 aX 22 (pLen 9 21) <|
 aX 7 (pM 22) <|
 aXZ
noncomputable def f126_r7 (c : CallF) : RF := rg [0, 4, 5, 6, 7, 24] <| aX 23 (pM 7) <|
 aX 24 (pB .lss 3 23 (cn (.int .i64 2))) <|
 aXZ
noncomputable def f126_r8 (c : CallF) : RF := rg [2, 3] <| aX 2 (pM (cn (.int .i64 0))) <|
 aX 3 (pM (cn (.bool false))) <|
 aXZ
noncomputable def f126_r9 (c : CallF) : RF := rg [0, 4, 5, 6, 7, 8, 9] <| aX 26 (pM 4) <|
 aX 27 (pM 6) <|
 aX 28 (pI 1 26 27) <|
 aX 29 (pL false 1 28) <|
 aX 30 (pM 7) <|
 aX 31 (pB .sub 3 30 (cn (.int .i64 1))) <|
 aX 32 (fun n e M => keep (aSliceS none (some (eget e 31)) (eget e 29))) <|
 aX 33 (pK c false 125 [32]) <|
 aX 25 (pM 33) <|
 aX 34 (pE 0 25) <|
 aX 35 (pE 1 25) <|
 aX 8 (pM 34) <|
 aX 9 (pM 35) <|
 aXZ
noncomputable def f126_r10 (c : CallF) : RF := rg [0, 4, 5, 6, 7, 8, 41] <| aX 36 (pM 9) <|
 aX 37 (pU .not 36) <|
 aX 38 (pM 37) <|
 aX 39 (pG 38 false (pM 8)) <|
 aX 40 (pG 38 false (pB .gtr 2 39 (cn (.int .i64 100000000)))) <|
 aX 41 (pP 38 (cn (.bool true)) 40) <|
 aXZ
noncomputable def f126_r11 (c : CallF) : RF := rg [2, 3] <| aX 2 (pM (cn (.int .i64 0))) <|
 aX 3 (pM (cn (.bool false))) <|
 aXZ
noncomputable def f126_r12 (c : CallF) : RF := rg [0, 4, 5, 6, 8, 48] <| aX 42 (pM 4) <|
 aX 43 (pM 6) <|
 aX 44 (pI 1 42 43) <|
 aX 45 (pL false 1 44) <|
 aX 46 (pM 7) <|
 aX 47 (pB .sub 3 46 (cn (.int .i64 1))) <|
 aX 48 (fun n e M => keep (aIndexB (eget e 45) (eget e 47))) <|
 aXZ
noncomputable def f126_r13 (c : CallF) : RF := rg [2, 3] <| aX 2 (pM (cn (.int .i64 0))) <|
 aX 3 (pM (cn (.bool false))) <|
 aXZ
noncomputable def f126_r14 (c : CallF) : RF := rg [0, 4, 5, 6, 8, 48, 49] <| aX 50 (pB .eql 5 48 (cn (.int .u8 108))) <|
 aX 49 (pM 50) <|
 aXZ
noncomputable def f126_r15 (c : CallF) : RF := rg [0, 4, 5, 6] <| aX 51 (pM 5) <|
 aX 52 (pM 8) <|
 aX 53 (pB .mul 2 (cn (.int .i64 240)) 52) <|
 aX 54 (pB .add 2 51 53) <|
 aX 5 (pM 54) <|
 aXZ
noncomputable def f126_r16 (c : CallF) : RF := rg [0, 4, 5, 6, 8, 48, 55] <| aX 56 (pB .eql 5 48 (cn (.int .u8 115))) <|
 aX 55 (pM 56) <|
 aXZ
noncomputable def f126_r17 (c : CallF) : RF := rg [0, 4, 5, 6] <| aX 57 (pM 5) <|
 aX 58 (pM 8) <|
 aX 59 (pB .mul 2 (cn (.int .i64 12)) 58) <|
 aX 60 (pB .add 2 57 59) <|
 aX 5 (pM 60) <|
 aXZ
noncomputable def f126_r18 (c : CallF) : RF := rg [0, 4, 5, 6, 8, 61] <| aX 62 (pB .eql 5 48 (cn (.int .u8 100))) <|
 aX 61 (pM 62) <|
 aXZ
noncomputable def f126_r19 (c : CallF) : RF := rg [0, 4, 5, 6] <| aX 63 (pM 5) <|
 aX 64 (pM 8) <|
 aX 65 (pB .add 2 63 64) <|
 aX 5 (pM 65) <|
 aXZ
noncomputable def f126_r20 (c : CallF) : RF := rg [2, 3] <| aX 66 (pM 5) <|
 aX 67 (pM 5) <|
 aX 68 (pK c false 49 [67]) <|
 aX 69 (pM 68) <|
 aX 70 (pG 69 true (pM 5)) <|
 aX 71 (pG 69 true (pK c false 50 [70])) <|
 aX 72 (pG 69 true (pM 0)) <|
 aX 73 (pG 69 true (pB .eql 9 71 72)) <|
 aX 74 (pP 69 73 (cn (.bool false))) <|
 aX 2 (pM 66) <|
 aX 3 (pM 74) <|
 aXZ
noncomputable def f126_l4 (c : CallF) (k : Nat) : St :=
 (bSeq (bSeq (bReg (f126_r4 c))
 (bCond (.tmp 15) (bEx .nrm) (bEx (.ext 0))))
 (bSeq (bBlock 1 (bSeq (bReg (f126_r6 c))
 (bSeq (bSeq (bReg (f126_r7 c))
 (bCond (.tmp 24) (bSeq (bReg (f126_r8 c))
 (bEx .ret)) (bEx .nrm)))
 (bSeq (bReg (f126_r9 c))
 (bSeq (bSeq (bReg (f126_r10 c))
 (bCond (.tmp 41) (bSeq (bReg (f126_r11 c))
 (bEx .ret)) (bEx .nrm)))
 (bSeq (bReg (f126_r12 c))
 (bBlock 2 (bSeq (bReg (f126_r14 c))
 (bCond (.tmp 49) (bReg (f126_r15 c)) (bSeq (bReg (f126_r16 c))
 (bCond (.tmp 55) (bReg (f126_r17 c)) (bSeq (bReg (f126_r18 c))
 (bCond (.tmp 61) (bReg (f126_r19 c)) (bSeq (bReg (f126_r13 c))
 (bEx .ret)))))))))))))))
 (bReg (f126_r5 c))))
noncomputable def f126 (c : CallF) (k : Nat) : St :=
 (bSeq (bReg (f126_r0 c))
 (bSeq (bReg (f126_r1 c))
 (bSeq (bReg (f126_r2 c))
 (bSeq (bSeq (bReg (f126_r3 c))
 (bBlock 0 (bLoop [0, 4, 5, 6] (f126_l4 c k) k)))
 (bSeq (bReg (f126_r20 c))
 (bEx .ret))))))
theorem f126_eq (c : CallF) (k : Nat) : exec cx c 75 f126_an k (Tryd.f126.body.getD .skip) = f126 c k := by kernel_rfl
/-! ### f127: loop.example/g01263/spec.l07Join -/
def f127_an : Ann := ⟨[(0, r0 [0]), (1, r0 [0, 3]), (2, r0 [0, 3, 4]), (3, r0 [0, 3, 4, 8]), (4, r0 [0, 3, 4]), (5, r0 [0, 3, 4, 12]), (6, r0 [0, 3, 4]), (7, r0 [0, 3, 4]), (8, r0 [2])], [(3, [0, 3, 4])]⟩
noncomputable def f127_r0 (c : CallF) : RF := rg [0] <| aX 2 (pM (cn (.str []))) <|
 aXZ
noncomputable def f127_r1 (c : CallF) : RF := rg [0, 3] <| aX 3 (pM (cn (.str []))) <|
 aXZ
noncomputable def f127_r2 (c : CallF) : RF := rg [0, 3, 4] <| aX 4 (pM (cn (.int .i64 0))) <|
 aXZ
noncomputable def f127_r3 (c : CallF) : RF := rg [0, 3, 4, 8] <| aX 5 (pM 4) <|
 aX 6 (pM 0) <|
 aX 7 (pLen 86 6) <|
 aX 8 (pB .lss 3 5 7) <|
 aXZ
noncomputable def f127_r4 (c : CallF) : RF := rg [0, 3, 4] <| aX 9 (pM 4) <|
 aX 10 (pB .add 3 9 (cn (.int .i64 1))) <|
 aX 4 (pM 10) <|
 aXZ
noncomputable def f127_r5 (c : CallF) : RF := rg [0, 3, 4, 12] <| aX 11 (pM 4) <|
 aX 12 (pB .gtr 3 11 (cn (.int .i64 0))) <|
 aXZ
noncomputable def f127_r6 (c : CallF) : RF := rg [0, 3, 4] <| aX 13 (pM 3) <|
 aX 14 (pB .add 9 13 (cn (.str [32]))) <|
 aX 3 (pM 14) <|
 aXZ
noncomputable def f127_r7 (c : CallF) : RF := rg [0, 3, 4] <| aX 15 (pM 3) <|
 aX 16 (pM 0) <|
 aX 17 (pM 4) <|
 aX 18 (pI 1 16 17) <|
 aX 19 (pL false 1 18) <|
 aX 20 (pB .add 9 15 19) <|
 aX 3 (pM 20) <|
 aXZ
noncomputable def f127_r8 (c : CallF) : RF := rg [2] <| aX 21 (pM 3) <|
 aX 2 (pM 21) <|
 aXZ
noncomputable def f127_l3 (c : CallF) (k : Nat) : St :=
 (bSeq (bSeq (bReg (f127_r3 c))
 (bCond (.tmp 8) (bEx .nrm) (bEx (.ext 0))))
 (bSeq (bBlock 1 (bSeq (bSeq (bReg (f127_r5 c))
 (bCond (.tmp 12) (bReg (f127_r6 c)) (bEx .nrm)))
 (bReg (f127_r7 c))))
 (bReg (f127_r4 c))))
noncomputable def f127 (c : CallF) (k : Nat) : St :=
 (bSeq (bReg (f127_r0 c))
 (bSeq (bReg (f127_r1 c))
 (bSeq (bSeq (bReg (f127_r2 c))
 (bBlock 0 (bLoop [0, 3, 4] (f127_l3 c k) k)))
 (bSeq (bReg (f127_r8 c))
 (bEx .ret)))))
theorem f127_eq (c : CallF) (k : Nat) : exec cx c 22 f127_an k (Tryd.f127.body.getD .skip) = f127 c k := by kernel_rfl
/-! ### f128: loop.example/g01263/spec.l07Deal -/
def f128_an : Ann := ⟨[(0, r0 [0]), (1, r0 [0, 3]), (2, r0 [0, 3, 4]), (3, r0 [0, 3, 4, 5]), (4, r0 [0, 3, 4, 5, 6]), (5, r0 [0, 3, 4, 5, 6, 32]), (6, r0 [2]), (7, r0 [0, 3, 4, 5, 6, 36]), (8, r0 [0, 3, 4, 5, 6, 36, 37]), (9, r0 [2]), (10, r0 [0, 3, 4, 5, 6, 36, 53]), (11, r0 [2]), (12, r0 [0, 3, 4, 6, 36, 69]), (13, r0 [2]), (14, r0 [0, 3, 4, 89]), (15, r0 [2]), (16, r0 [2])], []⟩
noncomputable def f128_r0 (c : CallF) : RF := rg [0] <| aX 2 (pM (cn (.bool false))) <|
 aXZ
noncomputable def f128_r1 (c : CallF) : RF := rg [0, 3] <| aX 7 (pM 0) <|
 aX 8 (pN 7) <|
 aX 9 (pF 2 1 8) <|
 aX 10 (pL false 1 9) <|
 aX 11 (pK c false 84 [10, (cn (.int .i64 0)), (cn (.int .i64 39))]) <|
 aX 3 (pM 11) <|
 aXZ
noncomputable def f128_r2 (c : CallF) : RF := rg [0, 3, 4] <| aX 12 (pM 0) <|
 aX 13 (pN 12) <|
 aX 14 (pF 3 1 13) <|
 aX 15 (pL false 1 14) <|
 aX 16 (pK c false 84 [15, (cn (.int .i64 0)), (cn (.int .i64 15))]) <|
 aX 4 (pM 16) <|
 aXZ
noncomputable def f128_r3 (c : CallF) : RF := rg [0, 3, 4, 5] <| aX 17 (pM 0) <|
 aX 18 (pN 17) <|
 aX 19 (pF 4 1 18) <|
 aX 20 (pL false 1 19) <|
 aX 21 (pK c false 84 [20, (cn (.int .i64 0)), (cn (.int .i64 15))]) <|
 aX 5 (pM 21) <|
 aXZ
noncomputable def f128_r4 (c : CallF) : RF := rg [0, 3, 4, 5, 6] <| aX 22 (pM 0) <|
 aX 23 (pN 22) <|
 aX 24 (pF 5 1 23) <|
 aX 25 (pL false 1 24) <|
 aX 26 (pK c false 84 [25, (cn (.int .i64 1)), (cn (.int .i64 100000000))]) <|
 aX 6 (pM 26) <|
 aXZ
noncomputable def f128_r5 (c : CallF) : RF := rg [0, 3, 4, 5, 6, 32] <| aX 27 (pM 0) <|
 aX 28 (pN 27) <|
 aX 29 (pF 0 1 28) <|
 aX 30 (pL false 1 29) <|
 aX 31 (pK c false 158 [30]) <|
 aX 32 (pU .not 31) <|
 aXZ
noncomputable def f128_r6 (c : CallF) : RF := rg [2] <| aX 2 (pM (cn (.bool false))) <|
 aXZ
noncomputable def f128_r7 (c : CallF) : RF := rg [0, 3, 4, 5, 6, 36] <| aX 33 (pM 0) <|
 aX 34 (pN 33) <|
 aX 35 (pF 1 1 34) <|
 aX 36 (pL false 1 35) <|
 aXZ
noncomputable def f128_r8 (c : CallF) : RF := rg [0, 3, 4, 5, 6, 36, 37] <| aX 38 (pB .eql 45 36 (cn (.int .i8 1))) <|
 aX 37 (pM 38) <|
 aXZ
noncomputable def f128_r9 (c : CallF) : RF := rg [2] <| aX 39 (pM 0) <|
 aX 40 (pN 39) <|
 aX 41 (pF 2 1 40) <|
 aX 42 (pL false 1 41) <|
 aX 43 (pB .eql 2 42 (cn (.int .i64 0))) <|
 aX 44 (pM 43) <|
 aX 45 (pG 44 true (pM 4)) <|
 aX 46 (pP 44 45 (cn (.bool false))) <|
 aX 47 (pM 46) <|
 aX 48 (pG 47 true (pM 5)) <|
 aX 49 (pP 47 48 (cn (.bool false))) <|
 aX 50 (pM 49) <|
 aX 51 (pG 50 true (pM 6)) <|
 aX 52 (pP 50 51 (cn (.bool false))) <|
 aX 2 (pM 52) <|
 aXZ
noncomputable def f128_r10 (c : CallF) : RF := rg [0, 3, 4, 5, 6, 36, 53] <| aX 54 (pB .eql 45 36 (cn (.int .i8 2))) <|
 aX 53 (pM 54) <|
 aXZ
noncomputable def f128_r11 (c : CallF) : RF := rg [2] <| aX 55 (pM 3) <|
 aX 56 (pM 55) <|
 aX 57 (pG 56 true (pM 4)) <|
 aX 58 (pP 56 57 (cn (.bool false))) <|
 aX 59 (pM 58) <|
 aX 60 (pG 59 true (pM 5)) <|
 aX 61 (pP 59 60 (cn (.bool false))) <|
 aX 62 (pM 61) <|
 aX 63 (pG 62 true (pM 0)) <|
 aX 64 (pG 62 true (pN 63)) <|
 aX 65 (pG 62 true (pF 5 1 64)) <|
 aX 66 (pG 62 true (pL false 1 65)) <|
 aX 67 (pG 62 true (pB .eql 2 66 (cn (.int .i64 0)))) <|
 aX 68 (pP 62 67 (cn (.bool false))) <|
 aX 2 (pM 68) <|
 aXZ
noncomputable def f128_r12 (c : CallF) : RF := rg [0, 3, 4, 6, 36, 69] <| aX 70 (pB .eql 45 36 (cn (.int .i8 3))) <|
 aX 69 (pM 70) <|
 aXZ
noncomputable def f128_r13 (c : CallF) : RF := rg [2] <| aX 71 (pM 3) <|
 aX 72 (pM 71) <|
 aX 73 (pG 72 true (pM 0)) <|
 aX 74 (pG 72 true (pN 73)) <|
 aX 75 (pG 72 true (pF 3 1 74)) <|
 aX 76 (pG 72 true (pL false 1 75)) <|
 aX 77 (pG 72 true (pB .eql 2 76 (cn (.int .i64 0)))) <|
 aX 78 (pP 72 77 (cn (.bool false))) <|
 aX 79 (pM 78) <|
 aX 80 (pG 79 true (pM 0)) <|
 aX 81 (pG 79 true (pN 80)) <|
 aX 82 (pG 79 true (pF 4 1 81)) <|
 aX 83 (pG 79 true (pL false 1 82)) <|
 aX 84 (pG 79 true (pB .eql 2 83 (cn (.int .i64 0)))) <|
 aX 85 (pP 79 84 (cn (.bool false))) <|
 aX 86 (pM 85) <|
 aX 87 (pG 86 true (pM 6)) <|
 aX 88 (pP 86 87 (cn (.bool false))) <|
 aX 2 (pM 88) <|
 aXZ
noncomputable def f128_r14 (c : CallF) : RF := rg [0, 3, 4, 89] <| aX 90 (pB .eql 45 36 (cn (.int .i8 4))) <|
 aX 89 (pM 90) <|
 aXZ
noncomputable def f128_r15 (c : CallF) : RF := rg [2] <| aX 91 (pM 3) <|
 aX 92 (pM 91) <|
 aX 93 (pG 92 true (pM 4)) <|
 aX 94 (pP 92 93 (cn (.bool false))) <|
 aX 95 (pM 94) <|
 aX 96 (pG 95 true (pM 0)) <|
 aX 97 (pG 95 true (pN 96)) <|
 aX 98 (pG 95 true (pF 4 1 97)) <|
 aX 99 (pG 95 true (pL false 1 98)) <|
 aX 100 (pG 95 true (pB .eql 2 99 (cn (.int .i64 0)))) <|
 aX 101 (pP 95 100 (cn (.bool false))) <|
 aX 102 (pM 101) <|
 aX 103 (pG 102 true (pM 0)) <|
 aX 104 (pG 102 true (pN 103)) <|
 aX 105 (pG 102 true (pF 5 1 104)) <|
 aX 106 (pG 102 true (pL false 1 105)) <|
 aX 107 (pG 102 true (pB .eql 2 106 (cn (.int .i64 0)))) <|
 aX 108 (pP 102 107 (cn (.bool false))) <|
 aX 2 (pM 108) <|
 aXZ
noncomputable def f128_r16 (c : CallF) : RF := rg [2] <| aX 2 (pM (cn (.bool false))) <|
 aXZ
noncomputable def f128 (c : CallF) (k : Nat) : St :=
 (bSeq (bReg (f128_r0 c))
 (bSeq (bReg (f128_r1 c))
 (bSeq (bReg (f128_r2 c))
 (bSeq (bReg (f128_r3 c))
 (bSeq (bReg (f128_r4 c))
 (bSeq (bSeq (bReg (f128_r5 c))
 (bCond (.tmp 32) (bSeq (bReg (f128_r6 c))
 (bEx .ret)) (bEx .nrm)))
 (bSeq (bSeq (bReg (f128_r7 c))
 (bBlock 0 (bSeq (bReg (f128_r8 c))
 (bCond (.tmp 37) (bSeq (bReg (f128_r9 c))
 (bEx .ret)) (bSeq (bReg (f128_r10 c))
 (bCond (.tmp 53) (bSeq (bReg (f128_r11 c))
 (bEx .ret)) (bSeq (bReg (f128_r12 c))
 (bCond (.tmp 69) (bSeq (bReg (f128_r13 c))
 (bEx .ret)) (bSeq (bReg (f128_r14 c))
 (bCond (.tmp 89) (bSeq (bReg (f128_r15 c))
 (bEx .ret)) (bEx .nrm)))))))))))
 (bSeq (bReg (f128_r16 c))
 (bEx .ret)))))))))
theorem f128_eq (c : CallF) (k : Nat) : exec cx c 109 f128_an k (Tryd.f128.body.getD .skip) = f128 c k := by kernel_rfl
/-! ### f129: loop.example/g01263/impl.ValidDeal -/
def f129_an : Ann := ⟨[(0, r0 [1]), (1, r0 [1, 21]), (2, r0 [2]), (3, r0 [1, 3]), (4, r0 [1, 3, 4, 5, 6, 7]), (5, r0 [2])], []⟩
noncomputable def f129_r0 (c : CallF) : RF := rg [1] <| aX 1 (pBox 6 0) <|
 aX 2 (pM (cn (.bool false))) <|
 aXZ
noncomputable def f129_r1 (c : CallF) : RF := rg [1, 21] <| aX 8 (pF 1 1 1) <|
 aX 9 (pL false 1 8) <|
 aX 10 (pB .lss 45 9 (cn (.int .i8 1))) <|
 aX 11 (pM 10) <|
 aX 12 (pG 11 false (pF 1 1 1)) <|
 aX 13 (pG 11 false (pL false 1 12)) <|
 aX 14 (pG 11 false (pB .gtr 45 13 (cn (.int .i8 4)))) <|
 aX 15 (pP 11 (cn (.bool true)) 14) <|
 aX 16 (pM 15) <|
 aX 17 (pG 16 false (pF 0 1 1)) <|
 aX 18 (pG 16 false (pL false 1 17)) <|
 aX 19 (pG 16 false (pK c false 159 [18])) <|
 aX 20 (pG 16 false (pU .not 19)) <|
 aX 21 (pP 16 (cn (.bool true)) 20) <|
 aXZ
noncomputable def f129_r2 (c : CallF) : RF := rg [2] <| aX 2 (pM (cn (.bool false))) <|
 aXZ
noncomputable def f129_r3 (c : CallF) : RF := rg [1, 3] <| aX 3 (pM (cn (.fn 160 []))) <|
 aXZ
noncomputable def f129_r4 (c : CallF) : RF := rg [1, 3, 4, 5, 6, 7] <| aX 23 (pF 1 1 1) <|
 aX 24 (pL false 1 23) <|
 aX 25 (pK c false 161 [24]) <|
 aX 22 (pM 25) <|
 aX 26 (pE 0 22) <|
 aX 27 (pE 1 22) <|
 aX 28 (pE 2 22) <|
 aX 29 (pE 3 22) <|
 aX 4 (pM 26) <|
 aX 5 (pM 27) <|
 aX 6 (pM 28) <|
 aX 7 (pM 29) <|
 aXZ
noncomputable def f129_r5 (c : CallF) : RF := rg [2] <| aX 30 (pM 3) <|
 aX 31 (pM 4) <|
 aX 32 (pF 2 1 1) <|
 aX 33 (pL false 1 32) <|
 aX 34 (fun n e M => oCall cx c false n (eget e 30) [(eget e 31), (eget e 33), (.int .i64 0), (.int .i64 39)] M) <|
 aX 35 (pM 34) <|
 aX 36 (pG 35 true (pM 3)) <|
 aX 37 (pG 35 true (pM 5)) <|
 aX 38 (pG 35 true (pF 3 1 1)) <|
 aX 39 (pG 35 true (pL false 1 38)) <|
 aX 40 (pG 35 true (fun n e M => oCall cx c false n (eget e 36) [(eget e 37), (eget e 39), (.int .i64 0), (.int .i64 15)] M)) <|
 aX 41 (pP 35 40 (cn (.bool false))) <|
 aX 42 (pM 41) <|
 aX 43 (pG 42 true (pM 3)) <|
 aX 44 (pG 42 true (pM 6)) <|
 aX 45 (pG 42 true (pF 4 1 1)) <|
 aX 46 (pG 42 true (pL false 1 45)) <|
 aX 47 (pG 42 true (fun n e M => oCall cx c false n (eget e 43) [(eget e 44), (eget e 46), (.int .i64 0), (.int .i64 15)] M)) <|
 aX 48 (pP 42 47 (cn (.bool false))) <|
 aX 49 (pM 48) <|
 aX 50 (pG 49 true (pM 3)) <|
 aX 51 (pG 49 true (pM 7)) <|
 aX 52 (pG 49 true (pF 5 1 1)) <|
 aX 53 (pG 49 true (pL false 1 52)) <|
 aX 54 (pG 49 true (fun n e M => oCall cx c false n (eget e 50) [(eget e 51), (eget e 53), (.int .i64 1), (.int .i64 100000000)] M)) <|
 aX 55 (pP 49 54 (cn (.bool false))) <|
 aX 2 (pM 55) <|
 aXZ
noncomputable def f129 (c : CallF) (k : Nat) : St :=
 (bSeq (bReg (f129_r0 c))
 (bSeq (bSeq (bReg (f129_r1 c))
 (bCond (.tmp 21) (bSeq (bReg (f129_r2 c))
 (bEx .ret)) (bEx .nrm)))
 (bSeq (bReg (f129_r3 c))
 (bSeq (bReg (f129_r4 c))
 (bSeq (bReg (f129_r5 c))
 (bEx .ret))))))
theorem f129_eq (c : CallF) (k : Nat) : exec cx c 56 f129_an k (Tryd.f129.body.getD .skip) = f129 c k := by kernel_rfl
/-! ### f130: loop.example/g01263/impl.dealText -/
def f130_an : Ann := ⟨[(0, r0 [1]), (1, r0 [1, 4]), (2, r0 [1, 4, 5]), (3, r0 [2]), (4, r0 [1, 4, 25]), (5, r0 [2]), (6, r0 [1, 45]), (7, r0 [2]), (8, r0 [2])], []⟩
noncomputable def f130_r0 (c : CallF) : RF := rg [1] <| aX 1 (pBox 6 0) <|
 aX 2 (pM (cn (.str []))) <|
 aXZ
noncomputable def f130_r1 (c : CallF) : RF := rg [1, 4] <| aX 3 (pF 1 1 1) <|
 aX 4 (pL false 1 3) <|
 aXZ
noncomputable def f130_r2 (c : CallF) : RF := rg [1, 4, 5] <| aX 6 (pB .eql 45 4 (cn (.int .i8 1))) <|
 aX 5 (pM 6) <|
 aXZ
noncomputable def f130_r3 (c : CallF) : RF := rgD [2] (aY 7 (pF 0 1 1) <|
 aY 8 (pL false 1 7) <|
 aY 9 (pK c false 90 [8]) <|
 aY 10 (pB .add 9 9 (cn (.str [32, 99, 117, 116, 32]))) <|
 aY 11 (pF 3 1 1) <|
 aY 12 (pL false 1 11) <|
 aY 13 (pK c false 90 [12]) <|
 aY 14 (pB .add 9 10 13) <|
 aY 15 (pB .add 9 14 (cn (.str [32]))) <|
 aY 16 (pF 4 1 1) <|
 aY 17 (pL false 1 16) <|
 aY 18 (pK c false 90 [17]) <|
 aY 19 (pB .add 9 15 18) <|
 aY 20 (pB .add 9 19 (cn (.str [32]))) <|
 aY 21 (pF 5 1 1) <|
 aY 22 (pL false 1 21) <|
 aY 23 (pK c false 45 [22]) <|
 aY 24 (pB .add 9 20 23) <|
 aY 2 (pM 24) <|
 aYZ)
 (aXZ)
noncomputable def f130_r4 (c : CallF) : RF := rg [1, 4, 25] <| aX 26 (pB .eql 45 4 (cn (.int .i8 2))) <|
 aX 25 (pM 26) <|
 aXZ
noncomputable def f130_r5 (c : CallF) : RF := rgD [2] (aY 27 (pF 0 1 1) <|
 aY 28 (pL false 1 27) <|
 aY 29 (pK c false 90 [28]) <|
 aY 30 (pB .add 9 29 (cn (.str [32, 112, 97, 115, 115, 32]))) <|
 aY 31 (pF 2 1 1) <|
 aY 32 (pL false 1 31) <|
 aY 33 (pK c false 90 [32]) <|
 aY 34 (pB .add 9 30 33) <|
 aY 35 (pB .add 9 34 (cn (.str [32]))) <|
 aY 36 (pF 3 1 1) <|
 aY 37 (pL false 1 36) <|
 aY 38 (pK c false 90 [37]) <|
 aY 39 (pB .add 9 35 38) <|
 aY 40 (pB .add 9 39 (cn (.str [32]))) <|
 aY 41 (pF 4 1 1) <|
 aY 42 (pL false 1 41) <|
 aY 43 (pK c false 90 [42]) <|
 aY 44 (pB .add 9 40 43) <|
 aY 2 (pM 44) <|
 aYZ)
 (aXZ)
noncomputable def f130_r6 (c : CallF) : RF := rg [1, 45] <| aX 46 (pB .eql 45 4 (cn (.int .i8 3))) <|
 aX 45 (pM 46) <|
 aXZ
noncomputable def f130_r7 (c : CallF) : RF := rgD [2] (aY 47 (pF 0 1 1) <|
 aY 48 (pL false 1 47) <|
 aY 49 (pK c false 90 [48]) <|
 aY 50 (pB .add 9 49 (cn (.str [32, 112, 97, 121, 32]))) <|
 aY 51 (pF 2 1 1) <|
 aY 52 (pL false 1 51) <|
 aY 53 (pK c false 90 [52]) <|
 aY 54 (pB .add 9 50 53) <|
 aY 55 (pB .add 9 54 (cn (.str [32]))) <|
 aY 56 (pF 5 1 1) <|
 aY 57 (pL false 1 56) <|
 aY 58 (pK c false 45 [57]) <|
 aY 59 (pB .add 9 55 58) <|
 aY 2 (pM 59) <|
 aYZ)
 (aXZ)
noncomputable def f130_r8 (c : CallF) : RF := rgD [2] (aY 60 (pF 0 1 1) <|
 aY 61 (pL false 1 60) <|
 aY 62 (pK c false 90 [61]) <|
 aY 63 (pB .add 9 62 (cn (.str [32, 101, 110, 100, 32]))) <|
 aY 64 (pF 2 1 1) <|
 aY 65 (pL false 1 64) <|
 aY 66 (pK c false 90 [65]) <|
 aY 67 (pB .add 9 63 66) <|
 aY 68 (pB .add 9 67 (cn (.str [32]))) <|
 aY 69 (pF 3 1 1) <|
 aY 70 (pL false 1 69) <|
 aY 71 (pK c false 90 [70]) <|
 aY 72 (pB .add 9 68 71) <|
 aY 2 (pM 72) <|
 aYZ)
 (aXZ)
noncomputable def f130 (c : CallF) (k : Nat) : St :=
 (bSeq (bReg (f130_r0 c))
 (bSeq (bSeq (bReg (f130_r1 c))
 (bBlock 0 (bSeq (bReg (f130_r2 c))
 (bCond (.tmp 5) (bSeq (bReg (f130_r3 c))
 (bEx .ret)) (bSeq (bReg (f130_r4 c))
 (bCond (.tmp 25) (bSeq (bReg (f130_r5 c))
 (bEx .ret)) (bSeq (bReg (f130_r6 c))
 (bCond (.tmp 45) (bSeq (bReg (f130_r7 c))
 (bEx .ret)) (bEx .nrm)))))))))
 (bSeq (bReg (f130_r8 c))
 (bEx .ret))))
theorem f130_eq (c : CallF) (k : Nat) : exec cx c 73 f130_an k (Tryd.f130.body.getD .skip) = f130 c k := by kernel_rfl
/-! ### f139: loop.example/g01263/spec.Decimal -/
def f139_an : Ann := ⟨[(0, r0 [0]), (1, r0 [0, 4]), (2, r0 [2]), (3, r0 [2])], []⟩
noncomputable def f139_r0 (c : CallF) : RF := rg [0] <| aX 2 (pM (cn (.str []))) <|
 aXZ
noncomputable def f139_r1 (c : CallF) : RF := rg [0, 4] <| aX 3 (pM 0) <|
 aX 4 (pB .lss 2 3 (cn (.int .i64 10))) <|
 aXZ
noncomputable def f139_r2 (c : CallF) : RF := rg [2] <| aX 5 (pM 0) <|
 aX 6 (pB .rem 2 5 (cn (.int .i64 10))) <|
 aX 7 (pB .add 2 (cn (.int .i64 48)) 6) <|
 aX 8 (fun n e M => keep (aConvI .u8 (eget e 7))) <|
 aX 9 (fun n e M => keep (aLitI 5 1 [(eget e 8)] M)) <|
 aX 10 (fun n e M => keep (aConvB (eget e 9) M)) <|
 aX 2 (pM 10) <|
 aXZ
noncomputable def f139_r3 (c : CallF) : RF := rgD [2] (aY 11 (pM 0) <|
 aY 12 (pB .quo 2 11 (cn (.int .i64 10))) <|
 aY 13 (pK c false 139 [12]) <|
 aY 14 (pM 0) <|
 aY 15 (pB .rem 2 14 (cn (.int .i64 10))) <|
 aY 16 (pB .add 2 (cn (.int .i64 48)) 15) <|
 aY 17 (fun n e M => keep (aConvI .u8 (eget e 16))) <|
 aY 18 (fun n e M => keep (aLitI 5 1 [(eget e 17)] M)) <|
 aY 19 (fun n e M => keep (aConvB (eget e 18) M)) <|
 aY 20 (pB .add 9 13 19) <|
 aY 2 (pM 20) <|
 aYZ)
 (aXZ)
noncomputable def f139 (c : CallF) (k : Nat) : St :=
 (bSeq (bReg (f139_r0 c))
 (bSeq (bSeq (bReg (f139_r1 c))
 (bCond (.tmp 4) (bSeq (bReg (f139_r2 c))
 (bEx .ret)) (bEx .nrm)))
 (bSeq (bReg (f139_r3 c))
 (bEx .ret))))
theorem f139_eq (c : CallF) (k : Nat) : exec cx c 21 f139_an k (Tryd.f139.body.getD .skip) = f139 c k := by kernel_rfl
/-! ### f153: loop.example/g01263/impl.worth -/
def f153_an : Ann := ⟨[(0, r0 [0]), (1, r0 [2])], []⟩
noncomputable def f153_r0 (c : CallF) : RF := rg [0] <| aX 2 (pM (cn (.int .i64 0))) <|
 aXZ
noncomputable def f153_r1 (c : CallF) : RF := rg [2] <| aX 3 (fun n e M => keep (aLitI 2 1 [(.int .i64 1), (.int .i64 12), (.int .i64 240), (.int .i64 4800), (.int .i64 24000), (.int .i64 240000)] M)) <|
 aX 4 (pM 0) <|
 aX 5 (pI 1 3 4) <|
 aX 6 (pL false 1 5) <|
 aX 2 (pM 6) <|
 aXZ
noncomputable def f153 (c : CallF) (k : Nat) : St :=
 (bSeq (bReg (f153_r0 c))
 (bSeq (bReg (f153_r1 c))
 (bEx .ret)))
theorem f153_eq (c : CallF) (k : Nat) : exec cx c 7 f153_an k (Tryd.f153.body.getD .skip) = f153 c k := by kernel_rfl
/-! ### f158: loop.example/g01263/spec.l07Day -/
def f158_an : Ann := ⟨[(0, r0 [0]), (1, r0 [2])], []⟩
noncomputable def f158_r0 (c : CallF) : RF := rg [0] <| aX 2 (pM (cn (.bool false))) <|
 aXZ
noncomputable def f158_r1 (c : CallF) : RF := rg [2] <| aX 3 (pM 0) <|
 aX 4 (pK c false 84 [3, (cn (.int .i64 0)), (cn (.int .i64 100000))]) <|
 aX 2 (pM 4) <|
 aXZ
noncomputable def f158 (c : CallF) (k : Nat) : St :=
 (bSeq (bReg (f158_r0 c))
 (bSeq (bReg (f158_r1 c))
 (bEx .ret)))
theorem f158_eq (c : CallF) (k : Nat) : exec cx c 5 f158_an k (Tryd.f158.body.getD .skip) = f158 c k := by kernel_rfl
/-! ### f159: loop.example/g01263/impl.isBookDay -/
def f159_an : Ann := ⟨[(0, r0 [0]), (1, r0 [2])], []⟩
noncomputable def f159_r0 (c : CallF) : RF := rg [0] <| aX 2 (pM (cn (.bool false))) <|
 aXZ
noncomputable def f159_r1 (c : CallF) : RF := rg [2] <| aX 3 (pM 0) <|
 aX 4 (pB .geq 2 3 (cn (.int .i64 0))) <|
 aX 5 (pM 4) <|
 aX 6 (pG 5 true (pM 0)) <|
 aX 7 (pG 5 true (pB .leq 2 6 (cn (.int .i64 100000)))) <|
 aX 8 (pP 5 7 (cn (.bool false))) <|
 aX 2 (pM 8) <|
 aXZ
noncomputable def f159 (c : CallF) (k : Nat) : St :=
 (bSeq (bReg (f159_r0 c))
 (bSeq (bReg (f159_r1 c))
 (bEx .ret)))
theorem f159_eq (c : CallF) (k : Nat) : exec cx c 9 f159_an k (Tryd.f159.body.getD .skip) = f159 c k := by kernel_rfl
/-! ### f160: loop.example/g01263/impl.ValidDeal$1 -/
def f160_an : Ann := ⟨[(0, r0 [0, 1, 2, 3]), (1, r0 [8])], []⟩
noncomputable def f160_r0 (c : CallF) : RF := rg [0, 1, 2, 3] <| aX 8 (pM (cn (.bool false))) <|
 aXZ
noncomputable def f160_r1 (c : CallF) : RF := rg [8] <| aX 9 (pM 0) <|
 aX 10 (pM 9) <|
 aX 11 (pG 10 true (pM 1)) <|
 aX 12 (pG 10 true (pM 2)) <|
 aX 13 (pG 10 true (pB .geq 2 11 12)) <|
 aX 14 (pP 10 13 (cn (.bool false))) <|
 aX 15 (pM 14) <|
 aX 16 (pG 15 true (pM 1)) <|
 aX 17 (pG 15 true (pM 3)) <|
 aX 18 (pG 15 true (pB .leq 2 16 17)) <|
 aX 19 (pP 15 18 (cn (.bool false))) <|
 aX 20 (pM 19) <|
 aX 21 (pG 20 false (pM 0)) <|
 aX 22 (pG 20 false (pU .not 21)) <|
 aX 23 (pG 20 false (pM 22)) <|
 aX 24 (pG 23 true (pM 1)) <|
 aX 25 (pG 23 true (pB .eql 2 24 (cn (.int .i64 0)))) <|
 aX 26 (pG 20 false (pP 23 25 (cn (.bool false)))) <|
 aX 27 (pP 20 (cn (.bool true)) 26) <|
 aX 8 (pM 27) <|
 aXZ
noncomputable def f160 (c : CallF) (k : Nat) : St :=
 (bSeq (bReg (f160_r0 c))
 (bSeq (bReg (f160_r1 c))
 (bEx .ret)))
theorem f160_eq (c : CallF) (k : Nat) : exec cx c 28 f160_an k (Tryd.f160.body.getD .skip) = f160 c k := by kernel_rfl
/-! ### f161: loop.example/g01263/impl.uses -/
def f161_an : Ann := ⟨[(0, r0 [0]), (1, r0 [6]), (2, r0 [6, 7]), (3, r0 [2, 3, 4, 5]), (4, r0 [6, 9]), (5, r0 [2, 3, 4, 5]), (6, r0 [11]), (7, r0 [2, 3, 4, 5]), (8, r0 [2, 3, 4, 5])], []⟩
noncomputable def f161_r0 (c : CallF) : RF := rg [0] <| aX 2 (pM (cn (.bool false))) <|
 aX 3 (pM (cn (.bool false))) <|
 aX 4 (pM (cn (.bool false))) <|
 aX 5 (pM (cn (.bool false))) <|
 aXZ
noncomputable def f161_r1 (c : CallF) : RF := rg [6] <| aX 6 (pM 0) <|
 aXZ
noncomputable def f161_r2 (c : CallF) : RF := rg [6, 7] <| aX 8 (pB .eql 45 6 (cn (.int .i8 1))) <|
 aX 7 (pM 8) <|
 aXZ
noncomputable def f161_r3 (c : CallF) : RF := rg [2, 3, 4, 5] <| aX 2 (pM (cn (.bool false))) <|
 aX 3 (pM (cn (.bool true))) <|
 aX 4 (pM (cn (.bool true))) <|
 aX 5 (pM (cn (.bool true))) <|
 aXZ
noncomputable def f161_r4 (c : CallF) : RF := rg [6, 9] <| aX 10 (pB .eql 45 6 (cn (.int .i8 2))) <|
 aX 9 (pM 10) <|
 aXZ
noncomputable def f161_r5 (c : CallF) : RF := rg [2, 3, 4, 5] <| aX 2 (pM (cn (.bool true))) <|
 aX 3 (pM (cn (.bool true))) <|
 aX 4 (pM (cn (.bool true))) <|
 aX 5 (pM (cn (.bool false))) <|
 aXZ
noncomputable def f161_r6 (c : CallF) : RF := rg [11] <| aX 12 (pB .eql 45 6 (cn (.int .i8 3))) <|
 aX 11 (pM 12) <|
 aXZ
noncomputable def f161_r7 (c : CallF) : RF := rg [2, 3, 4, 5] <| aX 2 (pM (cn (.bool true))) <|
 aX 3 (pM (cn (.bool false))) <|
 aX 4 (pM (cn (.bool false))) <|
 aX 5 (pM (cn (.bool true))) <|
 aXZ
noncomputable def f161_r8 (c : CallF) : RF := rg [2, 3, 4, 5] <| aX 2 (pM (cn (.bool true))) <|
 aX 3 (pM (cn (.bool true))) <|
 aX 4 (pM (cn (.bool false))) <|
 aX 5 (pM (cn (.bool false))) <|
 aXZ
noncomputable def f161 (c : CallF) (k : Nat) : St :=
 (bSeq (bReg (f161_r0 c))
 (bSeq (bSeq (bReg (f161_r1 c))
 (bBlock 0 (bSeq (bReg (f161_r2 c))
 (bCond (.tmp 7) (bSeq (bReg (f161_r3 c))
 (bEx .ret)) (bSeq (bReg (f161_r4 c))
 (bCond (.tmp 9) (bSeq (bReg (f161_r5 c))
 (bEx .ret)) (bSeq (bReg (f161_r6 c))
 (bCond (.tmp 11) (bSeq (bReg (f161_r7 c))
 (bEx .ret)) (bEx .nrm)))))))))
 (bSeq (bReg (f161_r8 c))
 (bEx .ret))))
theorem f161_eq (c : CallF) (k : Nat) : exec cx c 13 f161_an k (Tryd.f161.body.getD .skip) = f161 c k := by kernel_rfl
def anns : List (Nat × Ann) := [(8, f8_an), (32, f32_an), (33, f33_an), (34, f34_an), (35, f35_an), (36, f36_an), (42, f42_an), (45, f45_an), (49, f49_an), (50, f50_an), (65, f65_an), (67, f67_an), (80, f80_an), (81, f81_an), (82, f82_an), (84, f84_an), (90, f90_an), (94, f94_an), (115, f115_an), (116, f116_an), (121, f121_an), (125, f125_an), (126, f126_an), (127, f127_an), (128, f128_an), (129, f129_an), (130, f130_an), (139, f139_an), (153, f153_an), (158, f158_an), (159, f159_an), (160, f160_an), (161, f161_an)]
noncomputable def CN0 : Nat → CallF := callN cx (Go.Ab.look anns) (fun _ _ _ => none) (fun _ => false)
def isP (f : Nat) : Bool := has [91, 114, 120, 133] f
noncomputable def primF : CallF := splitNil (callN cx (Go.Ab.look anns) (fun _ _ _ => none) (fun _ => false) 3)
noncomputable def CN : Nat → CallF := callN cx (Go.Ab.look anns) (withLib libT primF) isP
end Go.Proofs.YtbhbmgmnnkcmcaaDoor

/- Printed by a program of ours (ext.py). -/
import Derived.Test.YtfabokkhdalbeabAbFold
import Derived.Test.YtfabokkhdalbeabProg
set_option linter.unusedVariables false
set_option maxRecDepth 100000
set_option maxHeartbeats 2000000
namespace Go.Proofs.Ytfabokkhdalbeab
open Go Go.Ab
noncomputable def cx : Cx := ⟨Try.prog, fun f => has [14, 15, 38] f⟩
/-! ### f3: loop.example/g01263/laws.FnExactHoldsNow -/
def f3_an : Ann := ⟨[(0, ⟨[], [], [], [], [1, 2]⟩), (1, ⟨[], [], [], [], [1, 2, 5]⟩), (2, ⟨[], [], [], [], [1, 2, 5]⟩), (3, ⟨[], [], [], [], [1, 2, 20]⟩), (4, ⟨[], [], [], [], [4]⟩), (5, ⟨[], [], [], [], [1, 2, 6, 7]⟩), (6, ⟨[], [1], [], [], [1, 2, 6, 7, 8]⟩), (7, ⟨[], [2], [], [], [1, 2, 6, 7, 8, 9, 10]⟩), (8, ⟨[], [], [], [], [1, 2, 6, 7, 8, 9, 10, 44]⟩), (9, ⟨[], [], [], [], [4]⟩), (10, ⟨[], [], [], [], [1, 2, 6, 7, 8, 9, 10, 49]⟩), (11, ⟨[], [], [], [], [4]⟩), (12, ⟨[], [], [], [], [1, 2, 6, 7, 8, 9, 10, 11]⟩), (13, ⟨[], [], [], [], [1, 2, 6, 7, 9, 10, 11]⟩), (14, ⟨[], [], [], [], [1, 2, 6, 7, 9, 65]⟩), (15, ⟨[], [], [], [], [4]⟩), (16, ⟨[], [], [], [], [1, 2, 6, 7, 9, 12]⟩), (17, ⟨[], [], [], [], [1, 2, 6, 7, 9, 12]⟩), (18, ⟨[], [], [], [], [1, 2, 6, 7, 9, 12, 13]⟩), (19, ⟨[], [], [], [], [1, 2, 6, 7, 9, 12, 13]⟩), (20, ⟨[], [], [], [], [1, 2, 6, 7, 9, 12, 13, 73]⟩), (21, ⟨[], [], [], [], [4]⟩), (22, ⟨[], [], [], [], [1, 2, 6, 7, 9, 12, 76]⟩), (23, ⟨[], [], [], [], [4]⟩), (24, ⟨[], [], [], [], [6, 7, 9, 12, 14, 15]⟩), (25, ⟨[], [], [], [], [9, 12, 92]⟩), (26, ⟨[], [], [], [], [4]⟩), (27, ⟨[], [], [], [], [9, 12, 13]⟩), (28, ⟨[], [], [], [], [12, 13]⟩), (29, ⟨[], [], [], [], [12, 13, 97]⟩), (30, ⟨[], [], [], [], [4]⟩), (31, ⟨[], [], [], [], [100]⟩), (32, ⟨[], [], [], [], [4]⟩), (33, ⟨[], [], [], [], [4]⟩)], []⟩
noncomputable def f3_r0 (call : CallF) : Env → Mem → Option (Env × Mem) := fun e M =>
    (nx (keep (aBox 3 (eget e 0) M)) (some 2) e M fun e M =>
    nx (oMv (.bool false)) (some 4) e M fun e M =>
    some (e, M)).map fun q => (prune [1, 2] q.1, q.2)
noncomputable def f3_r1 (call : CallF) : Env → Mem → Option (Env × Mem) := fun e M =>
    (nx (oMv (.int .i64 1048576)) (some 5) e M fun e M =>
    some (e, M)).map fun q => (prune [1, 2, 5] q.1, q.2)
noncomputable def f3_r2 (call : CallF) : Env → Mem → Option (Env × Mem) := fun e M =>
    (nx (keep (aLoad true 3 (eget e 2) M)) (some 16) e M fun e M =>
    nx (oMv (eget e 5)) (some 17) e M fun e M =>
    nx (aCall cx.P.cellsOf cx.rw call false M.length 8 [(eget e 16), (eget e 17)] M) (some 18) e M fun e M =>
    nx (oMv (eget e 18)) (some 5) e M fun e M =>
    some (e, M)).map fun q => (prune [1, 2, 5] q.1, q.2)
noncomputable def f3_r3 (call : CallF) : Env → Mem → Option (Env × Mem) := fun e M =>
    (nx (oMv (eget e 5)) (some 19) e M fun e M =>
    nx (oBin cx.P .lss 3 (eget e 19) (.int .i64 0) M) (some 20) e M fun e M =>
    some (e, M)).map fun q => (prune [1, 2, 20] q.1, q.2)
noncomputable def f3_r4 (call : CallF) : Env → Mem → Option (Env × Mem) := fun e M =>
    (nx (oMv (.bool true)) (some 4) e M fun e M =>
    some (e, M)).map fun q => (prune [4] q.1, q.2)
noncomputable def f3_r5 (call : CallF) : Env → Mem → Option (Env × Mem) := fun e M =>
    (nx (keep (aLoad true 3 (eget e 2) M)) (some 22) e M fun e M =>
    nx (aCall cx.P.cellsOf cx.rw call false M.length 10 [(eget e 22)] M) (some 23) e M fun e M =>
    nx (oMv (eget e 1)) (some 24) e M fun e M =>
    nx (aCall cx.P.cellsOf cx.rw call false M.length 9 [(eget e 23), (eget e 24)] M) (some 25) e M fun e M =>
    nx (oMv (eget e 25)) (some 21) e M fun e M =>
    nx (keep (aExtract 0 (eget e 21))) (some 26) e M fun e M =>
    nx (keep (aExtract 1 (eget e 21))) (some 27) e M fun e M =>
    nx (oMv (eget e 26)) (some 6) e M fun e M =>
    nx (oMv (eget e 27)) (some 7) e M fun e M =>
    some (e, M)).map fun q => (prune [1, 2, 6, 7] q.1, q.2)
noncomputable def f3_r6 (call : CallF) : Env → Mem → Option (Env × Mem) := fun e M =>
    (nx (keep (aLoad true 3 (eget e 2) M)) (some 28) e M fun e M =>
    nx (aCall cx.P.cellsOf cx.rw call true M.length 10 [(eget e 28)] M) (some 29) e M fun e M =>
    nx (oAlloc cx.P M.length 31 3) (some 8) e M fun e M =>
    nx (oStore 3 (eget e 8) (eget e 29) M) none e M fun e M =>
    some (e, M)).map fun q => (prune [1, 2, 6, 7, 8] q.1, q.2)
noncomputable def f3_r7 (call : CallF) : Env → Mem → Option (Env × Mem) := fun e M =>
    (nx (keep (aLoad true 3 (eget e 8) M)) (some 31) e M fun e M =>
    nx (oMv (eget e 1)) (some 32) e M fun e M =>
    nx (aCall cx.P.cellsOf cx.rw call true M.length 11 [(eget e 31), (eget e 32)] M) (some 33) e M fun e M =>
    nx (oMv (eget e 33)) (some 30) e M fun e M =>
    nx (keep (aExtract 0 (eget e 30))) (some 34) e M fun e M =>
    nx (keep (aExtract 1 (eget e 30))) (some 35) e M fun e M =>
    nx (oMv (eget e 34)) (some 9) e M fun e M =>
    nx (oMv (eget e 35)) (some 10) e M fun e M =>
    some (e, M)).map fun q => (prune [1, 2, 6, 7, 8, 9, 10] q.1, q.2)
noncomputable def f3_r8 (call : CallF) : Env → Mem → Option (Env × Mem) := fun e M =>
    (nx (oMv (eget e 9)) (some 36) e M fun e M =>
    nx (oMv (eget e 6)) (some 37) e M fun e M =>
    nx (aCall cx.P.cellsOf cx.rw call false M.length 12 [(eget e 36), (eget e 37)] M) (some 38) e M fun e M =>
    nx (keep (aUn .not (eget e 38))) (some 39) e M fun e M =>
    nx (oMv (eget e 39)) (some 40) e M fun e M =>
    nx (aGuard (some ((eget e 40), false)) (oMv (eget e 10))) (some 41) e M fun e M =>
    nx (aGuard (some ((eget e 40), false)) (oMv (eget e 7))) (some 42) e M fun e M =>
    nx (aGuard (some ((eget e 40), false)) (oBin cx.P .neq 2 (eget e 41) (eget e 42) M)) (some 43) e M fun e M =>
    nx (keep (aPick (eget e 40) (.bool true) (eget e 43))) (some 44) e M fun e M =>
    some (e, M)).map fun q => (prune [1, 2, 6, 7, 8, 9, 10, 44] q.1, q.2)
noncomputable def f3_r9 (call : CallF) : Env → Mem → Option (Env × Mem) := fun e M =>
    (nx (oMv (.bool false)) (some 4) e M fun e M =>
    some (e, M)).map fun q => (prune [4] q.1, q.2)
noncomputable def f3_r10 (call : CallF) : Env → Mem → Option (Env × Mem) := fun e M =>
    rD [1, 2, 6, 7, 8, 9, 10, 49] (fun (C : List Ob) =>
    nf (keep (aLoad true 3 (eget e 8) M)) (some 45) false e C fun e C =>
    nf (keep (aLoad true 3 (eget e 2) M)) (some 46) false e C fun e C =>
    nf (aCall cx.P.cellsOf cx.rw call false (M.length + C.length) 10 [(eget e 46)] M) (some 47) false e C fun e C =>
    nf (aCall cx.P.cellsOf cx.rw call false (M.length + C.length) 13 [(eget e 45), (eget e 47)] M) (some 48) false e C fun e C =>
    nf (keep (aUn .not (eget e 48))) (some 49) false e C fun e C =>
    some (e, C)) (fun (e : Env) (M : Mem) =>
    some (e, M)) M
noncomputable def f3_r11 (call : CallF) : Env → Mem → Option (Env × Mem) := fun e M =>
    (nx (oMv (.bool false)) (some 4) e M fun e M =>
    some (e, M)).map fun q => (prune [4] q.1, q.2)
noncomputable def f3_r12 (call : CallF) : Env → Mem → Option (Env × Mem) := fun e M =>
    (nx (oMv (.int .i64 1)) (some 11) e M fun e M =>
    some (e, M)).map fun q => (prune [1, 2, 6, 7, 8, 9, 10, 11] q.1, q.2)
noncomputable def f3_r13 (call : CallF) : Env → Mem → Option (Env × Mem) := fun e M =>
    (nx (keep (aLoad true 3 (eget e 8) M)) (some 50) e M fun e M =>
    nx (oMv (eget e 11)) (some 51) e M fun e M =>
    nx (aCall cx.P.cellsOf cx.rw call false M.length 14 [(eget e 50), (eget e 51)] M) (some 52) e M fun e M =>
    nx (oMv (eget e 52)) (some 11) e M fun e M =>
    some (e, M)).map fun q => (prune [1, 2, 6, 7, 9, 10, 11] q.1, q.2)
noncomputable def f3_r14 (call : CallF) : Env → Mem → Option (Env × Mem) := fun e M =>
    (nx (oMv (eget e 11)) (some 53) e M fun e M =>
    nx (oBin cx.P .lss 3 (eget e 53) (.int .i64 0) M) (some 54) e M fun e M =>
    nx (oMv (eget e 54)) (some 55) e M fun e M =>
    nx (aGuard (some ((eget e 55), false)) (oMv (eget e 9))) (some 56) e M fun e M =>
    nx (aGuard (some ((eget e 55), false)) (oMv (eget e 6))) (some 57) e M fun e M =>
    nx (aGuard (some ((eget e 55), false)) (aCall cx.P.cellsOf cx.rw call false M.length 12 [(eget e 56), (eget e 57)] M)) (some 58) e M fun e M =>
    nx (aGuard (some ((eget e 55), false)) (keep (aUn .not (eget e 58)))) (some 59) e M fun e M =>
    nx (keep (aPick (eget e 55) (.bool true) (eget e 59))) (some 60) e M fun e M =>
    nx (oMv (eget e 60)) (some 61) e M fun e M =>
    nx (aGuard (some ((eget e 61), false)) (oMv (eget e 10))) (some 62) e M fun e M =>
    nx (aGuard (some ((eget e 61), false)) (oMv (eget e 7))) (some 63) e M fun e M =>
    nx (aGuard (some ((eget e 61), false)) (oBin cx.P .neq 2 (eget e 62) (eget e 63) M)) (some 64) e M fun e M =>
    nx (keep (aPick (eget e 61) (.bool true) (eget e 64))) (some 65) e M fun e M =>
    some (e, M)).map fun q => (prune [1, 2, 6, 7, 9, 65] q.1, q.2)
noncomputable def f3_r15 (call : CallF) : Env → Mem → Option (Env × Mem) := fun e M =>
    (nx (oMv (.bool false)) (some 4) e M fun e M =>
    some (e, M)).map fun q => (prune [4] q.1, q.2)
noncomputable def f3_r16 (call : CallF) : Env → Mem → Option (Env × Mem) := fun e M =>
    (nx (oMv (.int .i64 1)) (some 12) e M fun e M =>
    some (e, M)).map fun q => (prune [1, 2, 6, 7, 9, 12] q.1, q.2)
noncomputable def f3_r17 (call : CallF) : Env → Mem → Option (Env × Mem) := fun e M =>
    (nx (oMv (eget e 9)) (some 66) e M fun e M =>
    nx (oMv (eget e 12)) (some 67) e M fun e M =>
    nx (aCall cx.P.cellsOf cx.rw call false M.length 15 [(eget e 66), (eget e 67)] M) (some 68) e M fun e M =>
    nx (oMv (eget e 68)) (some 12) e M fun e M =>
    some (e, M)).map fun q => (prune [1, 2, 6, 7, 9, 12] q.1, q.2)
noncomputable def f3_r18 (call : CallF) : Env → Mem → Option (Env × Mem) := fun e M =>
    (nx (oMv (.int .i64 1)) (some 13) e M fun e M =>
    some (e, M)).map fun q => (prune [1, 2, 6, 7, 9, 12, 13] q.1, q.2)
noncomputable def f3_r19 (call : CallF) : Env → Mem → Option (Env × Mem) := fun e M =>
    (nx (oMv (eget e 9)) (some 69) e M fun e M =>
    nx (oMv (eget e 13)) (some 70) e M fun e M =>
    nx (aCall cx.P.cellsOf cx.rw call false M.length 16 [(eget e 69), (eget e 70)] M) (some 71) e M fun e M =>
    nx (oMv (eget e 71)) (some 13) e M fun e M =>
    some (e, M)).map fun q => (prune [1, 2, 6, 7, 9, 12, 13] q.1, q.2)
noncomputable def f3_r20 (call : CallF) : Env → Mem → Option (Env × Mem) := fun e M =>
    (nx (oMv (eget e 13)) (some 72) e M fun e M =>
    nx (oBin cx.P .lss 3 (eget e 72) (.int .i64 0) M) (some 73) e M fun e M =>
    some (e, M)).map fun q => (prune [1, 2, 6, 7, 9, 12, 13, 73] q.1, q.2)
noncomputable def f3_r21 (call : CallF) : Env → Mem → Option (Env × Mem) := fun e M =>
    (nx (oMv (.bool false)) (some 4) e M fun e M =>
    some (e, M)).map fun q => (prune [4] q.1, q.2)
noncomputable def f3_r22 (call : CallF) : Env → Mem → Option (Env × Mem) := fun e M =>
    (nx (oMv (eget e 13)) (some 74) e M fun e M =>
    nx (oMv (eget e 12)) (some 75) e M fun e M =>
    nx (oBin cx.P .neq 3 (eget e 74) (eget e 75) M) (some 76) e M fun e M =>
    some (e, M)).map fun q => (prune [1, 2, 6, 7, 9, 12, 76] q.1, q.2)
noncomputable def f3_r23 (call : CallF) : Env → Mem → Option (Env × Mem) := fun e M =>
    (nx (oMv (.bool false)) (some 4) e M fun e M =>
    some (e, M)).map fun q => (prune [4] q.1, q.2)
noncomputable def f3_r24 (call : CallF) : Env → Mem → Option (Env × Mem) := fun e M =>
    (nx (keep (aLoad true 3 (eget e 2) M)) (some 78) e M fun e M =>
    nx (aCall cx.P.cellsOf cx.rw call false M.length 10 [(eget e 78)] M) (some 79) e M fun e M =>
    nx (oMv (eget e 1)) (some 80) e M fun e M =>
    nx (aCall cx.P.cellsOf cx.rw call false M.length 11 [(eget e 79), (eget e 80)] M) (some 81) e M fun e M =>
    nx (oMv (eget e 81)) (some 77) e M fun e M =>
    nx (keep (aExtract 0 (eget e 77))) (some 82) e M fun e M =>
    nx (keep (aExtract 1 (eget e 77))) (some 83) e M fun e M =>
    nx (oMv (eget e 82)) (some 14) e M fun e M =>
    nx (oMv (eget e 83)) (some 15) e M fun e M =>
    some (e, M)).map fun q => (prune [6, 7, 9, 12, 14, 15] q.1, q.2)
noncomputable def f3_r25 (call : CallF) : Env → Mem → Option (Env × Mem) := fun e M =>
    (nx (oMv (eget e 14)) (some 84) e M fun e M =>
    nx (oMv (eget e 6)) (some 85) e M fun e M =>
    nx (aCall cx.P.cellsOf cx.rw call false M.length 12 [(eget e 84), (eget e 85)] M) (some 86) e M fun e M =>
    nx (keep (aUn .not (eget e 86))) (some 87) e M fun e M =>
    nx (oMv (eget e 87)) (some 88) e M fun e M =>
    nx (aGuard (some ((eget e 88), false)) (oMv (eget e 15))) (some 89) e M fun e M =>
    nx (aGuard (some ((eget e 88), false)) (oMv (eget e 7))) (some 90) e M fun e M =>
    nx (aGuard (some ((eget e 88), false)) (oBin cx.P .neq 2 (eget e 89) (eget e 90) M)) (some 91) e M fun e M =>
    nx (keep (aPick (eget e 88) (.bool true) (eget e 91))) (some 92) e M fun e M =>
    some (e, M)).map fun q => (prune [9, 12, 92] q.1, q.2)
noncomputable def f3_r26 (call : CallF) : Env → Mem → Option (Env × Mem) := fun e M =>
    (nx (oMv (.bool false)) (some 4) e M fun e M =>
    some (e, M)).map fun q => (prune [4] q.1, q.2)
noncomputable def f3_r27 (call : CallF) : Env → Mem → Option (Env × Mem) := fun e M =>
    (nx (oMv (.int .i64 1)) (some 13) e M fun e M =>
    some (e, M)).map fun q => (prune [9, 12, 13] q.1, q.2)
noncomputable def f3_r28 (call : CallF) : Env → Mem → Option (Env × Mem) := fun e M =>
    (nx (oMv (eget e 9)) (some 93) e M fun e M =>
    nx (oMv (eget e 13)) (some 94) e M fun e M =>
    nx (aCall cx.P.cellsOf cx.rw call false M.length 16 [(eget e 93), (eget e 94)] M) (some 95) e M fun e M =>
    nx (oMv (eget e 95)) (some 13) e M fun e M =>
    some (e, M)).map fun q => (prune [12, 13] q.1, q.2)
noncomputable def f3_r29 (call : CallF) : Env → Mem → Option (Env × Mem) := fun e M =>
    (nx (oMv (eget e 13)) (some 96) e M fun e M =>
    nx (oBin cx.P .lss 3 (eget e 96) (.int .i64 0) M) (some 97) e M fun e M =>
    some (e, M)).map fun q => (prune [12, 13, 97] q.1, q.2)
noncomputable def f3_r30 (call : CallF) : Env → Mem → Option (Env × Mem) := fun e M =>
    (nx (oMv (.bool false)) (some 4) e M fun e M =>
    some (e, M)).map fun q => (prune [4] q.1, q.2)
noncomputable def f3_r31 (call : CallF) : Env → Mem → Option (Env × Mem) := fun e M =>
    (nx (oMv (eget e 13)) (some 98) e M fun e M =>
    nx (oMv (eget e 12)) (some 99) e M fun e M =>
    nx (oBin cx.P .neq 3 (eget e 98) (eget e 99) M) (some 100) e M fun e M =>
    some (e, M)).map fun q => (prune [100] q.1, q.2)
noncomputable def f3_r32 (call : CallF) : Env → Mem → Option (Env × Mem) := fun e M =>
    (nx (oMv (.bool false)) (some 4) e M fun e M =>
    some (e, M)).map fun q => (prune [4] q.1, q.2)
noncomputable def f3_r33 (call : CallF) : Env → Mem → Option (Env × Mem) := fun e M =>
    (nx (oMv (.bool true)) (some 4) e M fun e M =>
    some (e, M)).map fun q => (prune [4] q.1, q.2)
noncomputable def f3 (call : CallF) (k : Nat) : St :=
  (bSeq (bReg (f3_r0 call))
  (bSeq (bReg (f3_r1 call))
  (bSeq (bReg (f3_r2 call))
  (bSeq (bSeq (bReg (f3_r3 call))
  (bCond (.tmp 20)
   (bSeq (bReg (f3_r4 call))
   (bEx .ret))
   (bEx .nrm)))
  (bSeq (bReg (f3_r5 call))
  (bSeq (bReg (f3_r6 call))
  (bSeq (bReg (f3_r7 call))
  (bSeq (bSeq (bReg (f3_r8 call))
  (bCond (.tmp 44)
   (bSeq (bReg (f3_r9 call))
   (bEx .ret))
   (bEx .nrm)))
  (bSeq (bSeq (bReg (f3_r10 call))
  (bCond (.tmp 49)
   (bSeq (bReg (f3_r11 call))
   (bEx .ret))
   (bEx .nrm)))
  (bSeq (bReg (f3_r12 call))
  (bSeq (bReg (f3_r13 call))
  (bSeq (bSeq (bReg (f3_r14 call))
  (bCond (.tmp 65)
   (bSeq (bReg (f3_r15 call))
   (bEx .ret))
   (bEx .nrm)))
  (bSeq (bReg (f3_r16 call))
  (bSeq (bReg (f3_r17 call))
  (bSeq (bReg (f3_r18 call))
  (bSeq (bReg (f3_r19 call))
  (bSeq (bSeq (bReg (f3_r20 call))
  (bCond (.tmp 73)
   (bSeq (bReg (f3_r21 call))
   (bEx .ret))
   (bEx .nrm)))
  (bSeq (bSeq (bReg (f3_r22 call))
  (bCond (.tmp 76)
   (bSeq (bReg (f3_r23 call))
   (bEx .ret))
   (bEx .nrm)))
  (bSeq (bReg (f3_r24 call))
  (bSeq (bSeq (bReg (f3_r25 call))
  (bCond (.tmp 92)
   (bSeq (bReg (f3_r26 call))
   (bEx .ret))
   (bEx .nrm)))
  (bSeq (bReg (f3_r27 call))
  (bSeq (bReg (f3_r28 call))
  (bSeq (bSeq (bReg (f3_r29 call))
  (bCond (.tmp 97)
   (bSeq (bReg (f3_r30 call))
   (bEx .ret))
   (bEx .nrm)))
  (bSeq (bSeq (bReg (f3_r31 call))
  (bCond (.tmp 100)
   (bSeq (bReg (f3_r32 call))
   (bEx .ret))
   (bEx .nrm)))
  (bSeq (bReg (f3_r33 call))
  (bEx .ret))))))))))))))))))))))))))
theorem f3_eq (call : CallF) (k : Nat) : exec cx call 101 f3_an k (Try.f3.body.getD .skip) = f3 call k := by kernel_rfl
/-! ### f8: loop.example/g01263/laws.szBook -/
def f8_an : Ann := ⟨[(0, ⟨[], [], [], [], [1, 2]⟩), (1, ⟨[], [], [], [], [1, 2]⟩), (2, ⟨[], [], [], [], [1, 2, 10]⟩), (3, ⟨[], [], [], [], [4]⟩), (4, ⟨[], [], [], [], [1]⟩), (5, ⟨[], [], [], [], [1, 16]⟩), (6, ⟨[], [], [], [], [4]⟩), (7, ⟨[], [], [], [], [4]⟩)], []⟩
noncomputable def f8_r0 (call : CallF) : Env → Mem → Option (Env × Mem) := fun e M =>
    (nx (keep (aBox 3 (eget e 0) M)) (some 2) e M fun e M =>
    nx (oMv (.int .i64 0)) (some 4) e M fun e M =>
    some (e, M)).map fun q => (prune [1, 2] q.1, q.2)
noncomputable def f8_r1 (call : CallF) : Env → Mem → Option (Env × Mem) := fun e M =>
    (nx (keep (aFieldAddr 1 1 (eget e 2) M)) (some 5) e M fun e M =>
    nx (keep (aLoad false 1 (eget e 5) M)) (some 6) e M fun e M =>
    nx (oMv (eget e 1)) (some 7) e M fun e M =>
    nx (aCall cx.P.cellsOf cx.rw call false M.length 31 [(eget e 6), (eget e 7)] M) (some 8) e M fun e M =>
    nx (oMv (eget e 8)) (some 1) e M fun e M =>
    some (e, M)).map fun q => (prune [1, 2] q.1, q.2)
noncomputable def f8_r2 (call : CallF) : Env → Mem → Option (Env × Mem) := fun e M =>
    (nx (oMv (eget e 1)) (some 9) e M fun e M =>
    nx (oBin cx.P .lss 3 (eget e 9) (.int .i64 0) M) (some 10) e M fun e M =>
    some (e, M)).map fun q => (prune [1, 2, 10] q.1, q.2)
noncomputable def f8_r3 (call : CallF) : Env → Mem → Option (Env × Mem) := fun e M =>
    (nx (oMv (.int .i64 (-1))) (some 4) e M fun e M =>
    some (e, M)).map fun q => (prune [4] q.1, q.2)
noncomputable def f8_r4 (call : CallF) : Env → Mem → Option (Env × Mem) := fun e M =>
    (nx (keep (aFieldAddr 2 1 (eget e 2) M)) (some 11) e M fun e M =>
    nx (keep (aLoad false 1 (eget e 11) M)) (some 12) e M fun e M =>
    nx (oMv (eget e 1)) (some 13) e M fun e M =>
    nx (aCall cx.P.cellsOf cx.rw call false M.length 32 [(eget e 12), (eget e 13)] M) (some 14) e M fun e M =>
    nx (oMv (eget e 14)) (some 1) e M fun e M =>
    some (e, M)).map fun q => (prune [1] q.1, q.2)
noncomputable def f8_r5 (call : CallF) : Env → Mem → Option (Env × Mem) := fun e M =>
    (nx (oMv (eget e 1)) (some 15) e M fun e M =>
    nx (oBin cx.P .lss 3 (eget e 15) (.int .i64 0) M) (some 16) e M fun e M =>
    some (e, M)).map fun q => (prune [1, 16] q.1, q.2)
noncomputable def f8_r6 (call : CallF) : Env → Mem → Option (Env × Mem) := fun e M =>
    (nx (oMv (.int .i64 (-1))) (some 4) e M fun e M =>
    some (e, M)).map fun q => (prune [4] q.1, q.2)
noncomputable def f8_r7 (call : CallF) : Env → Mem → Option (Env × Mem) := fun e M =>
    (nx (oMv (eget e 1)) (some 17) e M fun e M =>
    nx (oMv (eget e 17)) (some 4) e M fun e M =>
    some (e, M)).map fun q => (prune [4] q.1, q.2)
noncomputable def f8 (call : CallF) (k : Nat) : St :=
  (bSeq (bReg (f8_r0 call))
  (bSeq (bReg (f8_r1 call))
  (bSeq (bSeq (bReg (f8_r2 call))
  (bCond (.tmp 10)
   (bSeq (bReg (f8_r3 call))
   (bEx .ret))
   (bEx .nrm)))
  (bSeq (bReg (f8_r4 call))
  (bSeq (bSeq (bReg (f8_r5 call))
  (bCond (.tmp 16)
   (bSeq (bReg (f8_r6 call))
   (bEx .ret))
   (bEx .nrm)))
  (bSeq (bReg (f8_r7 call))
  (bEx .ret)))))))
theorem f8_eq (call : CallF) (k : Nat) : exec cx call 18 f8_an k (Try.f8.body.getD .skip) = f8 call k := by kernel_rfl
/-! ### f9: loop.example/g01263/spec.HoldsNow -/
def f9_an : Ann := ⟨[(0, ⟨[], [], [], [], [1, 2]⟩), (1, ⟨[], [], [], [], [1, 2, 6]⟩), (2, ⟨[], [], [], [], [1, 2, 6, 12]⟩), (3, ⟨[0], [], [], [], [4, 5]⟩), (4, ⟨[0], [], [], [], [1, 2, 7]⟩), (5, ⟨[], [], [], [], [1, 2, 7, 8]⟩), (6, ⟨[], [], [], [], [1, 2, 7, 8, 20]⟩), (7, ⟨[], [], [], [], [1, 2, 7, 8]⟩), (8, ⟨[], [], [], [], [1, 2, 7, 8, 39]⟩), (9, ⟨[3], [], [], [], [1, 2, 7, 8]⟩), (10, ⟨[], [], [], [], [4, 5]⟩)], [(6, [1, 2, 7, 8])]⟩
noncomputable def f9_r0 (call : CallF) : Env → Mem → Option (Env × Mem) := fun e M =>
    (nx (keep (aBox 3 (eget e 0) M)) (some 2) e M fun e M =>
    nx (oMv .nils) (some 4) e M fun e M =>
    nx (oMv (.int .i64 0)) (some 5) e M fun e M =>
    some (e, M)).map fun q => (prune [1, 2] q.1, q.2)
noncomputable def f9_r1 (call : CallF) : Env → Mem → Option (Env × Mem) := fun e M =>
    (nx (oMv (eget e 1)) (some 9) e M fun e M =>
    nx (aCall cx.P.cellsOf cx.rw call false M.length 33 [(eget e 2), (eget e 9)] M) (some 10) e M fun e M =>
    nx (oMv (eget e 10)) (some 6) e M fun e M =>
    some (e, M)).map fun q => (prune [1, 2, 6] q.1, q.2)
noncomputable def f9_r2 (call : CallF) : Env → Mem → Option (Env × Mem) := fun e M =>
    (nx (oMv (eget e 6)) (some 11) e M fun e M =>
    nx (oBin cx.P .neq 2 (eget e 11) (.int .i64 0) M) (some 12) e M fun e M =>
    some (e, M)).map fun q => (prune [1, 2, 6, 12] q.1, q.2)
noncomputable def f9_r3 (call : CallF) : Env → Mem → Option (Env × Mem) := fun e M =>
    (nx (aLitO M.length 2 1 [] M) (some 13) e M fun e M =>
    nx (oMv (eget e 6)) (some 14) e M fun e M =>
    nx (oMv (eget e 13)) (some 4) e M fun e M =>
    nx (oMv (eget e 14)) (some 5) e M fun e M =>
    some (e, M)).map fun q => (prune [4, 5] q.1, q.2)
noncomputable def f9_r4 (call : CallF) : Env → Mem → Option (Env × Mem) := fun e M =>
    (nx (aLitO M.length 2 1 [] M) (some 15) e M fun e M =>
    nx (oMv (eget e 15)) (some 7) e M fun e M =>
    some (e, M)).map fun q => (prune [1, 2, 7] q.1, q.2)
noncomputable def f9_r5 (call : CallF) : Env → Mem → Option (Env × Mem) := fun e M =>
    (nx (oMv (.int .i64 0)) (some 8) e M fun e M =>
    some (e, M)).map fun q => (prune [1, 2, 7, 8] q.1, q.2)
noncomputable def f9_r6 (call : CallF) : Env → Mem → Option (Env × Mem) := fun e M =>
    (nx (oMv (eget e 8)) (some 16) e M fun e M =>
    nx (keep (aFieldAddr 2 1 (eget e 2) M)) (some 17) e M fun e M =>
    nx (keep (aLoad false 1 (eget e 17) M)) (some 18) e M fun e M =>
    nx (oLen cx.P 29 (eget e 18) M) (some 19) e M fun e M =>
    nx (oBin cx.P .lss 3 (eget e 16) (eget e 19) M) (some 20) e M fun e M =>
    some (e, M)).map fun q => (prune [1, 2, 7, 8, 20] q.1, q.2)
noncomputable def f9_r7 (call : CallF) : Env → Mem → Option (Env × Mem) := fun e M =>
    (nx (oMv (eget e 8)) (some 21) e M fun e M =>
    nx (oBin cx.P .add 3 (eget e 21) (.int .i64 1) M) (some 22) e M fun e M =>
    nx (oMv (eget e 22)) (some 8) e M fun e M =>
    some (e, M)).map fun q => (prune [1, 2, 7, 8] q.1, q.2)
noncomputable def f9_r8 (call : CallF) : Env → Mem → Option (Env × Mem) := fun e M =>
    (nx (keep (aFieldAddr 2 1 (eget e 2) M)) (some 23) e M fun e M =>
    nx (keep (aLoad false 1 (eget e 23) M)) (some 24) e M fun e M =>
    nx (oMv (eget e 8)) (some 25) e M fun e M =>
    nx (keep (aIndexS 5 (eget e 24) (eget e 25) M)) (some 26) e M fun e M =>
    nx (keep (aFieldAddr 1 1 (eget e 26) M)) (some 27) e M fun e M =>
    nx (keep (aLoad false 1 (eget e 27) M)) (some 28) e M fun e M =>
    nx (oMv (eget e 1)) (some 29) e M fun e M =>
    nx (oBin cx.P .eql 2 (eget e 28) (eget e 29) M) (some 30) e M fun e M =>
    nx (oMv (eget e 30)) (some 31) e M fun e M =>
    nx (aGuard (some ((eget e 31), true)) (keep (aFieldAddr 2 1 (eget e 2) M))) (some 32) e M fun e M =>
    nx (aGuard (some ((eget e 31), true)) (keep (aLoad false 1 (eget e 32) M))) (some 33) e M fun e M =>
    nx (aGuard (some ((eget e 31), true)) (oMv (eget e 8))) (some 34) e M fun e M =>
    nx (aGuard (some ((eget e 31), true)) (keep (aIndexS 5 (eget e 33) (eget e 34) M))) (some 35) e M fun e M =>
    nx (aGuard (some ((eget e 31), true)) (keep (aFieldAddr 4 1 (eget e 35) M))) (some 36) e M fun e M =>
    nx (aGuard (some ((eget e 31), true)) (keep (aLoad false 1 (eget e 36) M))) (some 37) e M fun e M =>
    nx (aGuard (some ((eget e 31), true)) (oBin cx.P .gtr 2 (eget e 37) (.int .i64 0) M)) (some 38) e M fun e M =>
    nx (keep (aPick (eget e 31) (eget e 38) (.bool false))) (some 39) e M fun e M =>
    some (e, M)).map fun q => (prune [1, 2, 7, 8, 39] q.1, q.2)
noncomputable def f9_r9 (call : CallF) : Env → Mem → Option (Env × Mem) := fun e M =>
    (nx (oMv (eget e 7)) (some 40) e M fun e M =>
    nx (oMv (eget e 8)) (some 41) e M fun e M =>
    nx (keep (aLitI 2 1 [(eget e 41)] M)) (some 42) e M fun e M =>
    nx (aAppO M.length 2 1 8 (eget e 40) (eget e 42) M) (some 43) e M fun e M =>
    nx (oMv (eget e 43)) (some 7) e M fun e M =>
    some (e, M)).map fun q => (prune [1, 2, 7, 8] q.1, q.2)
noncomputable def f9_r10 (call : CallF) : Env → Mem → Option (Env × Mem) := fun e M =>
    (nx (oMv (eget e 7)) (some 44) e M fun e M =>
    nx (oMv (eget e 44)) (some 4) e M fun e M =>
    nx (oMv (.int .i64 0)) (some 5) e M fun e M =>
    some (e, M)).map fun q => (prune [4, 5] q.1, q.2)
noncomputable def f9_l6 (call : CallF) (k : Nat) : St :=
  (bSeq (bSeq (bReg (f9_r6 call))
  (bCond (.tmp 20)
   (bEx .nrm)
   (bEx (.ext 0))))
  (bSeq (bBlock 1 (bSeq (bReg (f9_r8 call))
   (bCond (.tmp 39)
    (bReg (f9_r9 call))
    (bEx .nrm))))
  (bReg (f9_r7 call))))
noncomputable def f9 (call : CallF) (k : Nat) : St :=
  (bSeq (bReg (f9_r0 call))
  (bSeq (bSeq (bReg (f9_r1 call))
  (bSeq (bReg (f9_r2 call))
  (bCond (.tmp 12)
   (bSeq (bReg (f9_r3 call))
   (bEx .ret))
   (bEx .nrm))))
  (bSeq (bReg (f9_r4 call))
  (bSeq (bSeq (bReg (f9_r5 call))
  (bBlock 0 (bLoop [1, 2, 7, 8] (f9_l6 call k) k)))
  (bSeq (bReg (f9_r10 call))
  (bEx .ret))))))
theorem f9_eq (call : CallF) (k : Nat) : exec cx call 45 f9_an k (Try.f9.body.getD .skip) = f9 call k := by kernel_rfl
/-! ### f10: loop.example/g01263/laws.toBook -/
def f10_an : Ann := ⟨[(0, ⟨[], [], [], [], [1, 2]⟩), (1, ⟨[], [], [], [], [1, 2, 3]⟩), (2, ⟨[], [], [], [], [1, 2, 3]⟩), (3, ⟨[], [2], [], [], [1, 2, 3]⟩), (4, ⟨[], [2], [], [], [2, 3]⟩), (5, ⟨[], [], [], [], [2]⟩)], []⟩
noncomputable def f10_r0 (call : CallF) : Env → Mem → Option (Env × Mem) := fun e M =>
    (nx (keep (aBox 3 (eget e 0) M)) (some 1) e M fun e M =>
    nx (oAlloc cx.P M.length 31 3) (some 2) e M fun e M =>
    some (e, M)).map fun q => (prune [1, 2] q.1, q.2)
noncomputable def f10_r1 (call : CallF) : Env → Mem → Option (Env × Mem) := fun e M =>
    (nx (oAlloc cx.P M.length 31 3) (some 3) e M fun e M =>
    some (e, M)).map fun q => (prune [1, 2, 3] q.1, q.2)
noncomputable def f10_r2 (call : CallF) : Env → Mem → Option (Env × Mem) := fun e M =>
    (nx (keep (aFieldAddr 0 1 (eget e 1) M)) (some 4) e M fun e M =>
    nx (keep (aLoad false 1 (eget e 4) M)) (some 5) e M fun e M =>
    nx (keep (aFieldAddr 0 1 (eget e 3) M)) (some 6) e M fun e M =>
    nx (oStore 1 (eget e 6) (eget e 5) M) none e M fun e M =>
    some (e, M)).map fun q => (prune [1, 2, 3] q.1, q.2)
noncomputable def f10_r3 (call : CallF) : Env → Mem → Option (Env × Mem) := fun e M =>
    (nx (keep (aFieldAddr 1 1 (eget e 1) M)) (some 7) e M fun e M =>
    nx (keep (aLoad false 1 (eget e 7) M)) (some 8) e M fun e M =>
    nx (aCall cx.P.cellsOf cx.rw call true M.length 34 [(eget e 8)] M) (some 9) e M fun e M =>
    nx (keep (aFieldAddr 1 1 (eget e 3) M)) (some 10) e M fun e M =>
    nx (oStore 1 (eget e 10) (eget e 9) M) none e M fun e M =>
    some (e, M)).map fun q => (prune [1, 2, 3] q.1, q.2)
noncomputable def f10_r4 (call : CallF) : Env → Mem → Option (Env × Mem) := fun e M =>
    (nx (keep (aFieldAddr 2 1 (eget e 1) M)) (some 11) e M fun e M =>
    nx (keep (aLoad false 1 (eget e 11) M)) (some 12) e M fun e M =>
    nx (aCall cx.P.cellsOf cx.rw call true M.length 35 [(eget e 12)] M) (some 13) e M fun e M =>
    nx (keep (aFieldAddr 2 1 (eget e 3) M)) (some 14) e M fun e M =>
    nx (oStore 1 (eget e 14) (eget e 13) M) none e M fun e M =>
    some (e, M)).map fun q => (prune [2, 3] q.1, q.2)
noncomputable def f10_r5 (call : CallF) : Env → Mem → Option (Env × Mem) := fun e M =>
    (nx (keep (aLoad true 3 (eget e 3) M)) (some 15) e M fun e M =>
    nx (oStore 3 (eget e 2) (eget e 15) M) none e M fun e M =>
    some (e, M)).map fun q => (prune [2] q.1, q.2)
noncomputable def f10 (call : CallF) (k : Nat) : St :=
  (bSeq (bReg (f10_r0 call))
  (bSeq (bReg (f10_r1 call))
  (bSeq (bReg (f10_r2 call))
  (bSeq (bReg (f10_r3 call))
  (bSeq (bReg (f10_r4 call))
  (bSeq (bReg (f10_r5 call))
  (bEx .ret)))))))
theorem f10_eq (call : CallF) (k : Nat) : exec cx call 16 f10_an k (Try.f10.body.getD .skip) = f10 call k := by kernel_rfl
/-! ### f11: loop.example/g01263/impl.HoldsNow -/
def f11_an : Ann := ⟨[(0, ⟨[], [], [], [], [1, 2]⟩), (1, ⟨[], [], [], [], [1, 2, 6]⟩), (2, ⟨[], [], [], [], [1, 2, 6, 14]⟩), (3, ⟨[], [], [], [], [4, 5]⟩), (4, ⟨[0], [], [], [], [1, 2, 7]⟩), (5, ⟨[], [], [], [], [1, 7, 18, 19, 20]⟩), (6, ⟨[], [], [], [], [1, 7, 18, 19, 20, 21]⟩), (7, ⟨[], [], [], [], [1, 7, 8, 9, 18, 19, 20]⟩), (8, ⟨[], [], [], [], [1, 7, 8, 18, 19, 20, 33]⟩), (9, ⟨[3], [], [], [], [1, 7, 18, 19, 20]⟩), (10, ⟨[], [], [], [], [1, 7, 18, 19, 20]⟩), (11, ⟨[], [], [], [], [4, 5]⟩)], [(6, [1, 7, 18, 19, 20])]⟩
noncomputable def f11_r0 (call : CallF) : Env → Mem → Option (Env × Mem) := fun e M =>
    (nx (keep (aBox 3 (eget e 0) M)) (some 2) e M fun e M =>
    nx (oMv .nils) (some 4) e M fun e M =>
    nx (oMv (.int .i64 0)) (some 5) e M fun e M =>
    some (e, M)).map fun q => (prune [1, 2] q.1, q.2)
noncomputable def f11_r1 (call : CallF) : Env → Mem → Option (Env × Mem) := fun e M =>
    (nx (keep (aLoad true 3 (eget e 2) M)) (some 10) e M fun e M =>
    nx (oMv (eget e 1)) (some 11) e M fun e M =>
    nx (aCall cx.P.cellsOf cx.rw call false M.length 36 [(eget e 10), (eget e 11)] M) (some 12) e M fun e M =>
    nx (oMv (eget e 12)) (some 6) e M fun e M =>
    some (e, M)).map fun q => (prune [1, 2, 6] q.1, q.2)
noncomputable def f11_r2 (call : CallF) : Env → Mem → Option (Env × Mem) := fun e M =>
    (nx (oMv (eget e 6)) (some 13) e M fun e M =>
    nx (oBin cx.P .neq 2 (eget e 13) (.int .i64 0) M) (some 14) e M fun e M =>
    some (e, M)).map fun q => (prune [1, 2, 6, 14] q.1, q.2)
noncomputable def f11_r3 (call : CallF) : Env → Mem → Option (Env × Mem) := fun e M =>
    (nx (oMv (eget e 6)) (some 15) e M fun e M =>
    nx (oMv .nils) (some 4) e M fun e M =>
    nx (oMv (eget e 15)) (some 5) e M fun e M =>
    some (e, M)).map fun q => (prune [4, 5] q.1, q.2)
noncomputable def f11_r4 (call : CallF) : Env → Mem → Option (Env × Mem) := fun e M =>
    (nx (aLitO M.length 2 1 [] M) (some 16) e M fun e M =>
    nx (oMv (eget e 16)) (some 7) e M fun e M =>
    some (e, M)).map fun q => (prune [1, 2, 7] q.1, q.2)
noncomputable def f11_r5 (call : CallF) : Env → Mem → Option (Env × Mem) := fun e M =>
    (nx (keep (aFieldAddr 2 1 (eget e 2) M)) (some 17) e M fun e M =>
    nx (keep (aLoad false 1 (eget e 17) M)) (some 18) e M fun e M =>
    nx (oLen cx.P 29 (eget e 18) M) (some 19) e M fun e M =>
    nx (oMv (.int .i64 0)) (some 20) e M fun e M =>
    some (e, M)).map fun q => (prune [1, 7, 18, 19, 20] q.1, q.2)
noncomputable def f11_r6 (call : CallF) : Env → Mem → Option (Env × Mem) := fun e M =>
    (nx (oBin cx.P .lss 3 (eget e 20) (eget e 19) M) (some 21) e M fun e M =>
    some (e, M)).map fun q => (prune [1, 7, 18, 19, 20, 21] q.1, q.2)
noncomputable def f11_r7 (call : CallF) : Env → Mem → Option (Env × Mem) := fun e M =>
    (nx (oMv (eget e 20)) (some 22) e M fun e M =>
    nx (keep (aIndexS 5 (eget e 18) (eget e 20) M)) (some 23) e M fun e M =>
    nx (keep (aLoad true 5 (eget e 23) M)) (some 24) e M fun e M =>
    nx (oAlloc cx.P M.length 78 5) (some 9) e M fun e M =>
    nx (oMv (eget e 22)) (some 8) e M fun e M =>
    nx (oStore 5 (eget e 9) (eget e 24) M) none e M fun e M =>
    some (e, M)).map fun q => (prune [1, 7, 8, 9, 18, 19, 20] q.1, q.2)
noncomputable def f11_r8 (call : CallF) : Env → Mem → Option (Env × Mem) := fun e M =>
    (nx (keep (aFieldAddr 1 1 (eget e 9) M)) (some 25) e M fun e M =>
    nx (keep (aLoad false 1 (eget e 25) M)) (some 26) e M fun e M =>
    nx (oMv (eget e 1)) (some 27) e M fun e M =>
    nx (oBin cx.P .eql 2 (eget e 26) (eget e 27) M) (some 28) e M fun e M =>
    nx (oMv (eget e 28)) (some 29) e M fun e M =>
    nx (aGuard (some ((eget e 29), true)) (keep (aFieldAddr 4 1 (eget e 9) M))) (some 30) e M fun e M =>
    nx (aGuard (some ((eget e 29), true)) (keep (aLoad false 1 (eget e 30) M))) (some 31) e M fun e M =>
    nx (aGuard (some ((eget e 29), true)) (oBin cx.P .gtr 2 (eget e 31) (.int .i64 0) M)) (some 32) e M fun e M =>
    nx (keep (aPick (eget e 29) (eget e 32) (.bool false))) (some 33) e M fun e M =>
    some (e, M)).map fun q => (prune [1, 7, 8, 18, 19, 20, 33] q.1, q.2)
noncomputable def f11_r9 (call : CallF) : Env → Mem → Option (Env × Mem) := fun e M =>
    (nx (oMv (eget e 7)) (some 34) e M fun e M =>
    nx (oMv (eget e 8)) (some 35) e M fun e M =>
    nx (keep (aLitI 2 1 [(eget e 35)] M)) (some 36) e M fun e M =>
    nx (aAppO M.length 2 1 8 (eget e 34) (eget e 36) M) (some 37) e M fun e M =>
    nx (oMv (eget e 37)) (some 7) e M fun e M =>
    some (e, M)).map fun q => (prune [1, 7, 18, 19, 20] q.1, q.2)
noncomputable def f11_r10 (call : CallF) : Env → Mem → Option (Env × Mem) := fun e M =>
    (nx (oBin cx.P .add 3 (eget e 20) (.int .i64 1) M) (some 38) e M fun e M =>
    nx (oMv (eget e 38)) (some 20) e M fun e M =>
    some (e, M)).map fun q => (prune [1, 7, 18, 19, 20] q.1, q.2)
noncomputable def f11_r11 (call : CallF) : Env → Mem → Option (Env × Mem) := fun e M =>
    (nx (oMv (eget e 7)) (some 39) e M fun e M =>
    nx (oMv (eget e 39)) (some 4) e M fun e M =>
    nx (oMv (.int .i64 0)) (some 5) e M fun e M =>
    some (e, M)).map fun q => (prune [4, 5] q.1, q.2)
noncomputable def f11_l6 (call : CallF) (k : Nat) : St :=
  (bSeq (bReg (f11_r6 call))
  (bSeq (bCond (.tmp 21)
   (bEx .nrm)
   (bEx (.ext 0)))
  (bSeq (bBlock 1 (bSeq (bReg (f11_r7 call))
   (bSeq (bReg (f11_r8 call))
   (bCond (.tmp 33)
    (bReg (f11_r9 call))
    (bEx .nrm)))))
  (bReg (f11_r10 call)))))
noncomputable def f11 (call : CallF) (k : Nat) : St :=
  (bSeq (bReg (f11_r0 call))
  (bSeq (bSeq (bReg (f11_r1 call))
  (bSeq (bReg (f11_r2 call))
  (bCond (.tmp 14)
   (bSeq (bReg (f11_r3 call))
   (bEx .ret))
   (bEx .nrm))))
  (bSeq (bReg (f11_r4 call))
  (bSeq (bSeq (bReg (f11_r5 call))
  (bBlock 0 (bLoop [1, 7, 18, 19, 20] (f11_l6 call k) k)))
  (bSeq (bReg (f11_r11 call))
  (bEx .ret))))))
theorem f11_eq (call : CallF) (k : Nat) : exec cx call 40 f11_an k (Try.f11.body.getD .skip) = f11 call k := by kernel_rfl
/-! ### f12: loop.example/g01263/laws.eqInt64S -/
def f12_an : Ann := ⟨[(0, ⟨[], [], [], [], [0, 1]⟩), (1, ⟨[], [], [], [], [0, 1, 10]⟩), (2, ⟨[], [], [], [], [4]⟩), (3, ⟨[], [], [], [], [0, 1, 5]⟩), (4, ⟨[], [], [], [], [0, 1, 5, 14]⟩), (5, ⟨[], [], [], [], [0, 1, 5]⟩), (6, ⟨[], [], [], [], [0, 1, 5, 25]⟩), (7, ⟨[], [], [], [], [4]⟩), (8, ⟨[], [], [], [], [4]⟩)], [(4, [0, 1, 5])]⟩
noncomputable def f12_r0 (call : CallF) : Env → Mem → Option (Env × Mem) := fun e M =>
    (nx (oMv (.bool false)) (some 4) e M fun e M =>
    some (e, M)).map fun q => (prune [0, 1] q.1, q.2)
noncomputable def f12_r1 (call : CallF) : Env → Mem → Option (Env × Mem) := fun e M =>
    (nx (oMv (eget e 0)) (some 6) e M fun e M =>
    nx (oLen cx.P 22 (eget e 6) M) (some 7) e M fun e M =>
    nx (oMv (eget e 1)) (some 8) e M fun e M =>
    nx (oLen cx.P 22 (eget e 8) M) (some 9) e M fun e M =>
    nx (oBin cx.P .neq 3 (eget e 7) (eget e 9) M) (some 10) e M fun e M =>
    some (e, M)).map fun q => (prune [0, 1, 10] q.1, q.2)
noncomputable def f12_r2 (call : CallF) : Env → Mem → Option (Env × Mem) := fun e M =>
    (nx (oMv (.bool false)) (some 4) e M fun e M =>
    some (e, M)).map fun q => (prune [4] q.1, q.2)
noncomputable def f12_r3 (call : CallF) : Env → Mem → Option (Env × Mem) := fun e M =>
    (nx (oMv (.int .i64 0)) (some 5) e M fun e M =>
    some (e, M)).map fun q => (prune [0, 1, 5] q.1, q.2)
noncomputable def f12_r4 (call : CallF) : Env → Mem → Option (Env × Mem) := fun e M =>
    (nx (oMv (eget e 5)) (some 11) e M fun e M =>
    nx (oMv (eget e 0)) (some 12) e M fun e M =>
    nx (oLen cx.P 22 (eget e 12) M) (some 13) e M fun e M =>
    nx (oBin cx.P .lss 3 (eget e 11) (eget e 13) M) (some 14) e M fun e M =>
    some (e, M)).map fun q => (prune [0, 1, 5, 14] q.1, q.2)
noncomputable def f12_r5 (call : CallF) : Env → Mem → Option (Env × Mem) := fun e M =>
    (nx (oMv (eget e 5)) (some 15) e M fun e M =>
    nx (oBin cx.P .add 3 (eget e 15) (.int .i64 1) M) (some 16) e M fun e M =>
    nx (oMv (eget e 16)) (some 5) e M fun e M =>
    some (e, M)).map fun q => (prune [0, 1, 5] q.1, q.2)
noncomputable def f12_r6 (call : CallF) : Env → Mem → Option (Env × Mem) := fun e M =>
    rD [0, 1, 5, 25] (fun (C : List Ob) =>
    nf (oMv (eget e 0)) (some 17) false e C fun e C =>
    nf (oMv (eget e 5)) (some 18) false e C fun e C =>
    nf (keep (aIndexS 1 (eget e 17) (eget e 18) M)) (some 19) false e C fun e C =>
    nf (keep (aLoad false 1 (eget e 19) M)) (some 20) false e C fun e C =>
    nf (oMv (eget e 1)) (some 21) false e C fun e C =>
    nf (oMv (eget e 5)) (some 22) false e C fun e C =>
    nf (keep (aIndexS 1 (eget e 21) (eget e 22) M)) (some 23) false e C fun e C =>
    nf (keep (aLoad false 1 (eget e 23) M)) (some 24) false e C fun e C =>
    nf (oBin cx.P .neq 2 (eget e 20) (eget e 24) M) (some 25) false e C fun e C =>
    some (e, C)) (fun (e : Env) (M : Mem) =>
    some (e, M)) M
noncomputable def f12_r7 (call : CallF) : Env → Mem → Option (Env × Mem) := fun e M =>
    (nx (oMv (.bool false)) (some 4) e M fun e M =>
    some (e, M)).map fun q => (prune [4] q.1, q.2)
noncomputable def f12_r8 (call : CallF) : Env → Mem → Option (Env × Mem) := fun e M =>
    (nx (oMv (.bool true)) (some 4) e M fun e M =>
    some (e, M)).map fun q => (prune [4] q.1, q.2)
noncomputable def f12_l4 (call : CallF) (k : Nat) : St :=
  (bSeq (bSeq (bReg (f12_r4 call))
  (bCond (.tmp 14)
   (bEx .nrm)
   (bEx (.ext 0))))
  (bSeq (bBlock 1 (bSeq (bReg (f12_r6 call))
   (bCond (.tmp 25)
    (bSeq (bReg (f12_r7 call))
    (bEx .ret))
    (bEx .nrm))))
  (bReg (f12_r5 call))))
noncomputable def f12 (call : CallF) (k : Nat) : St :=
  (bSeq (bReg (f12_r0 call))
  (bSeq (bSeq (bReg (f12_r1 call))
  (bCond (.tmp 10)
   (bSeq (bReg (f12_r2 call))
   (bEx .ret))
   (bEx .nrm)))
  (bSeq (bSeq (bReg (f12_r3 call))
  (bBlock 0 (bLoop [0, 1, 5] (f12_l4 call k) k)))
  (bSeq (bReg (f12_r8 call))
  (bEx .ret)))))
theorem f12_eq (call : CallF) (k : Nat) : exec cx call 26 f12_an k (Try.f12.body.getD .skip) = f12 call k := by kernel_rfl
/-! ### f13: loop.example/g01263/laws.eqBook -/
def f13_an : Ann := ⟨[(0, ⟨[], [], [], [], [2, 3]⟩), (1, ⟨[], [], [], [], [2, 3, 9]⟩), (2, ⟨[], [], [], [], [4]⟩), (3, ⟨[], [], [], [], [2, 3, 15]⟩), (4, ⟨[], [], [], [], [4]⟩), (5, ⟨[], [], [], [], [21]⟩), (6, ⟨[], [], [], [], [4]⟩), (7, ⟨[], [], [], [], [4]⟩)], []⟩
noncomputable def f13_r0 (call : CallF) : Env → Mem → Option (Env × Mem) := fun e M =>
    (nx (keep (aBox 3 (eget e 0) M)) (some 2) e M fun e M =>
    nx (keep (aBox 3 (eget e 1) M)) (some 3) e M fun e M =>
    nx (oMv (.bool false)) (some 4) e M fun e M =>
    some (e, M)).map fun q => (prune [2, 3] q.1, q.2)
noncomputable def f13_r1 (call : CallF) : Env → Mem → Option (Env × Mem) := fun e M =>
    (nx (keep (aFieldAddr 0 1 (eget e 2) M)) (some 5) e M fun e M =>
    nx (keep (aLoad false 1 (eget e 5) M)) (some 6) e M fun e M =>
    nx (keep (aFieldAddr 0 1 (eget e 3) M)) (some 7) e M fun e M =>
    nx (keep (aLoad false 1 (eget e 7) M)) (some 8) e M fun e M =>
    nx (oBin cx.P .neq 2 (eget e 6) (eget e 8) M) (some 9) e M fun e M =>
    some (e, M)).map fun q => (prune [2, 3, 9] q.1, q.2)
noncomputable def f13_r2 (call : CallF) : Env → Mem → Option (Env × Mem) := fun e M =>
    (nx (oMv (.bool false)) (some 4) e M fun e M =>
    some (e, M)).map fun q => (prune [4] q.1, q.2)
noncomputable def f13_r3 (call : CallF) : Env → Mem → Option (Env × Mem) := fun e M =>
    (nx (keep (aFieldAddr 1 1 (eget e 2) M)) (some 10) e M fun e M =>
    nx (keep (aLoad false 1 (eget e 10) M)) (some 11) e M fun e M =>
    nx (keep (aFieldAddr 1 1 (eget e 3) M)) (some 12) e M fun e M =>
    nx (keep (aLoad false 1 (eget e 12) M)) (some 13) e M fun e M =>
    nx (aCall cx.P.cellsOf cx.rw call false M.length 12 [(eget e 11), (eget e 13)] M) (some 14) e M fun e M =>
    nx (keep (aUn .not (eget e 14))) (some 15) e M fun e M =>
    some (e, M)).map fun q => (prune [2, 3, 15] q.1, q.2)
noncomputable def f13_r4 (call : CallF) : Env → Mem → Option (Env × Mem) := fun e M =>
    (nx (oMv (.bool false)) (some 4) e M fun e M =>
    some (e, M)).map fun q => (prune [4] q.1, q.2)
noncomputable def f13_r5 (call : CallF) : Env → Mem → Option (Env × Mem) := fun e M =>
    (nx (keep (aFieldAddr 2 1 (eget e 2) M)) (some 16) e M fun e M =>
    nx (keep (aLoad false 1 (eget e 16) M)) (some 17) e M fun e M =>
    nx (keep (aFieldAddr 2 1 (eget e 3) M)) (some 18) e M fun e M =>
    nx (keep (aLoad false 1 (eget e 18) M)) (some 19) e M fun e M =>
    nx (aCall cx.P.cellsOf cx.rw call false M.length 37 [(eget e 17), (eget e 19)] M) (some 20) e M fun e M =>
    nx (keep (aUn .not (eget e 20))) (some 21) e M fun e M =>
    some (e, M)).map fun q => (prune [21] q.1, q.2)
noncomputable def f13_r6 (call : CallF) : Env → Mem → Option (Env × Mem) := fun e M =>
    (nx (oMv (.bool false)) (some 4) e M fun e M =>
    some (e, M)).map fun q => (prune [4] q.1, q.2)
noncomputable def f13_r7 (call : CallF) : Env → Mem → Option (Env × Mem) := fun e M =>
    (nx (oMv (.bool true)) (some 4) e M fun e M =>
    some (e, M)).map fun q => (prune [4] q.1, q.2)
noncomputable def f13 (call : CallF) (k : Nat) : St :=
  (bSeq (bReg (f13_r0 call))
  (bSeq (bSeq (bReg (f13_r1 call))
  (bCond (.tmp 9)
   (bSeq (bReg (f13_r2 call))
   (bEx .ret))
   (bEx .nrm)))
  (bSeq (bSeq (bReg (f13_r3 call))
  (bCond (.tmp 15)
   (bSeq (bReg (f13_r4 call))
   (bEx .ret))
   (bEx .nrm)))
  (bSeq (bSeq (bReg (f13_r5 call))
  (bCond (.tmp 21)
   (bSeq (bReg (f13_r6 call))
   (bEx .ret))
   (bEx .nrm)))
  (bSeq (bReg (f13_r7 call))
  (bEx .ret))))))
theorem f13_eq (call : CallF) (k : Nat) : exec cx call 22 f13_an k (Try.f13.body.getD .skip) = f13 call k := by kernel_rfl
/-! ### f14: loop.example/g01263/laws.markBook -/
def f14_an : Ann := ⟨[(0, ⟨[0], [], [], [], [1, 2]⟩), (1, ⟨[], [], [], [], [1, 2]⟩), (2, ⟨[], [], [], [], [1]⟩), (3, ⟨[], [], [], [], [4]⟩)], []⟩
noncomputable def f14_r0 (call : CallF) : Env → Mem → Option (Env × Mem) := fun e M =>
    (nx (aBoxO M.length 31 3 (eget e 0) M) (some 2) e M fun e M =>
    nx (oMv (.int .i64 0)) (some 4) e M fun e M =>
    some (e, M)).map fun q => (prune [1, 2] q.1, q.2)
noncomputable def f14_r1 (call : CallF) : Env → Mem → Option (Env × Mem) := fun e M =>
    (nx (keep (aFieldAddr 1 1 (eget e 2) M)) (some 5) e M fun e M =>
    nx (keep (aLoad false 1 (eget e 5) M)) (some 6) e M fun e M =>
    nx (oMv (eget e 1)) (some 7) e M fun e M =>
    nx (aCall cx.P.cellsOf cx.rw call false M.length 15 [(eget e 6), (eget e 7)] M) (some 8) e M fun e M =>
    nx (oMv (eget e 8)) (some 1) e M fun e M =>
    some (e, M)).map fun q => (prune [1, 2] q.1, q.2)
noncomputable def f14_r2 (call : CallF) : Env → Mem → Option (Env × Mem) := fun e M =>
    (nx (keep (aFieldAddr 2 1 (eget e 2) M)) (some 9) e M fun e M =>
    nx (keep (aLoad false 1 (eget e 9) M)) (some 10) e M fun e M =>
    nx (oMv (eget e 1)) (some 11) e M fun e M =>
    nx (aCall cx.P.cellsOf cx.rw call false M.length 38 [(eget e 10), (eget e 11)] M) (some 12) e M fun e M =>
    nx (oMv (eget e 12)) (some 1) e M fun e M =>
    some (e, M)).map fun q => (prune [1] q.1, q.2)
noncomputable def f14_r3 (call : CallF) : Env → Mem → Option (Env × Mem) := fun e M =>
    (nx (oMv (eget e 1)) (some 13) e M fun e M =>
    nx (oMv (eget e 13)) (some 4) e M fun e M =>
    some (e, M)).map fun q => (prune [4] q.1, q.2)
noncomputable def f14 (call : CallF) (k : Nat) : St :=
  (bSeq (bReg (f14_r0 call))
  (bSeq (bReg (f14_r1 call))
  (bSeq (bReg (f14_r2 call))
  (bSeq (bReg (f14_r3 call))
  (bEx .ret)))))
theorem f14_eq (call : CallF) (k : Nat) : exec cx call 14 f14_an k (Try.f14.body.getD .skip) = f14 call k := by kernel_rfl
/-! ### f15: loop.example/g01263/laws.markInt64S -/
def f15_an : Ann := ⟨[(0, ⟨[], [], [], [], [0, 1]⟩), (1, ⟨[], [], [], [], [0, 1, 5]⟩), (2, ⟨[], [], [], [], [0, 1, 5, 9]⟩), (3, ⟨[], [], [], [], [0, 1, 5]⟩), (4, ⟨[], [], [], [], [0, 1, 5]⟩), (5, ⟨[], [], [], [], [0, 1, 5]⟩), (6, ⟨[], [], [], [], [4]⟩)], [(2, [0, 1, 5])]⟩
noncomputable def f15_r0 (call : CallF) : Env → Mem → Option (Env × Mem) := fun e M =>
    (nx (oMv (.int .i64 0)) (some 4) e M fun e M =>
    some (e, M)).map fun q => (prune [0, 1] q.1, q.2)
noncomputable def f15_r1 (call : CallF) : Env → Mem → Option (Env × Mem) := fun e M =>
    (nx (oMv (.int .i64 0)) (some 5) e M fun e M =>
    some (e, M)).map fun q => (prune [0, 1, 5] q.1, q.2)
noncomputable def f15_r2 (call : CallF) : Env → Mem → Option (Env × Mem) := fun e M =>
    (nx (oMv (eget e 5)) (some 6) e M fun e M =>
    nx (oMv (eget e 0)) (some 7) e M fun e M =>
    nx (oLen cx.P 22 (eget e 7) M) (some 8) e M fun e M =>
    nx (oBin cx.P .lss 3 (eget e 6) (eget e 8) M) (some 9) e M fun e M =>
    some (e, M)).map fun q => (prune [0, 1, 5, 9] q.1, q.2)
noncomputable def f15_r3 (call : CallF) : Env → Mem → Option (Env × Mem) := fun e M =>
    (nx (oMv (eget e 5)) (some 10) e M fun e M =>
    nx (oBin cx.P .add 3 (eget e 10) (.int .i64 1) M) (some 11) e M fun e M =>
    nx (oMv (eget e 11)) (some 5) e M fun e M =>
    some (e, M)).map fun q => (prune [0, 1, 5] q.1, q.2)
noncomputable def f15_r4 (call : CallF) : Env → Mem → Option (Env × Mem) := fun e M =>
    (nx (oMv (eget e 0)) (some 12) e M fun e M =>
    nx (oMv (eget e 5)) (some 13) e M fun e M =>
    nx (oMv (eget e 1)) (some 14) e M fun e M =>
    nx (keep (aIndexS 1 (eget e 12) (eget e 13) M)) (some 15) e M fun e M =>
    nx (oStore 1 (eget e 15) (eget e 14) M) none e M fun e M =>
    some (e, M)).map fun q => (prune [0, 1, 5] q.1, q.2)
noncomputable def f15_r5 (call : CallF) : Env → Mem → Option (Env × Mem) := fun e M =>
    (nx (oMv (eget e 1)) (some 16) e M fun e M =>
    nx (oBin cx.P .add 3 (eget e 16) (.int .i64 1) M) (some 17) e M fun e M =>
    nx (oMv (eget e 17)) (some 1) e M fun e M =>
    some (e, M)).map fun q => (prune [0, 1, 5] q.1, q.2)
noncomputable def f15_r6 (call : CallF) : Env → Mem → Option (Env × Mem) := fun e M =>
    (nx (oMv (eget e 1)) (some 18) e M fun e M =>
    nx (oMv (eget e 18)) (some 4) e M fun e M =>
    some (e, M)).map fun q => (prune [4] q.1, q.2)
noncomputable def f15_l2 (call : CallF) (k : Nat) : St :=
  (bSeq (bSeq (bReg (f15_r2 call))
  (bCond (.tmp 9)
   (bEx .nrm)
   (bEx (.ext 0))))
  (bSeq (bBlock 1 (bSeq (bReg (f15_r4 call))
   (bReg (f15_r5 call))))
  (bReg (f15_r3 call))))
noncomputable def f15 (call : CallF) (k : Nat) : St :=
  (bSeq (bReg (f15_r0 call))
  (bSeq (bSeq (bReg (f15_r1 call))
  (bBlock 0 (bLoop [0, 1, 5] (f15_l2 call k) k)))
  (bSeq (bReg (f15_r6 call))
  (bEx .ret))))
theorem f15_eq (call : CallF) (k : Nat) : exec cx call 19 f15_an k (Try.f15.body.getD .skip) = f15 call k := by kernel_rfl
/-! ### f16: loop.example/g01263/laws.heldInt64S -/
def f16_an : Ann := ⟨[(0, ⟨[], [], [], [], [0, 1]⟩), (1, ⟨[], [], [], [], [0, 1, 5]⟩), (2, ⟨[], [], [], [], [0, 1, 5, 9]⟩), (3, ⟨[], [], [], [], [0, 1, 5]⟩), (4, ⟨[], [], [], [], [0, 1, 5, 17]⟩), (5, ⟨[], [], [], [], [4]⟩), (6, ⟨[], [], [], [], [0, 1, 5]⟩), (7, ⟨[], [], [], [], [4]⟩)], [(2, [0, 1, 5])]⟩
noncomputable def f16_r0 (call : CallF) : Env → Mem → Option (Env × Mem) := fun e M =>
    (nx (oMv (.int .i64 0)) (some 4) e M fun e M =>
    some (e, M)).map fun q => (prune [0, 1] q.1, q.2)
noncomputable def f16_r1 (call : CallF) : Env → Mem → Option (Env × Mem) := fun e M =>
    (nx (oMv (.int .i64 0)) (some 5) e M fun e M =>
    some (e, M)).map fun q => (prune [0, 1, 5] q.1, q.2)
noncomputable def f16_r2 (call : CallF) : Env → Mem → Option (Env × Mem) := fun e M =>
    (nx (oMv (eget e 5)) (some 6) e M fun e M =>
    nx (oMv (eget e 0)) (some 7) e M fun e M =>
    nx (oLen cx.P 22 (eget e 7) M) (some 8) e M fun e M =>
    nx (oBin cx.P .lss 3 (eget e 6) (eget e 8) M) (some 9) e M fun e M =>
    some (e, M)).map fun q => (prune [0, 1, 5, 9] q.1, q.2)
noncomputable def f16_r3 (call : CallF) : Env → Mem → Option (Env × Mem) := fun e M =>
    (nx (oMv (eget e 5)) (some 10) e M fun e M =>
    nx (oBin cx.P .add 3 (eget e 10) (.int .i64 1) M) (some 11) e M fun e M =>
    nx (oMv (eget e 11)) (some 5) e M fun e M =>
    some (e, M)).map fun q => (prune [0, 1, 5] q.1, q.2)
noncomputable def f16_r4 (call : CallF) : Env → Mem → Option (Env × Mem) := fun e M =>
    (nx (oMv (eget e 0)) (some 12) e M fun e M =>
    nx (oMv (eget e 5)) (some 13) e M fun e M =>
    nx (keep (aIndexS 1 (eget e 12) (eget e 13) M)) (some 14) e M fun e M =>
    nx (keep (aLoad false 1 (eget e 14) M)) (some 15) e M fun e M =>
    nx (oMv (eget e 1)) (some 16) e M fun e M =>
    nx (oBin cx.P .neq 2 (eget e 15) (eget e 16) M) (some 17) e M fun e M =>
    some (e, M)).map fun q => (prune [0, 1, 5, 17] q.1, q.2)
noncomputable def f16_r5 (call : CallF) : Env → Mem → Option (Env × Mem) := fun e M =>
    (nx (oMv (.int .i64 (-1))) (some 4) e M fun e M =>
    some (e, M)).map fun q => (prune [4] q.1, q.2)
noncomputable def f16_r6 (call : CallF) : Env → Mem → Option (Env × Mem) := fun e M =>
    (nx (oMv (eget e 1)) (some 18) e M fun e M =>
    nx (oBin cx.P .add 3 (eget e 18) (.int .i64 1) M) (some 19) e M fun e M =>
    nx (oMv (eget e 19)) (some 1) e M fun e M =>
    some (e, M)).map fun q => (prune [0, 1, 5] q.1, q.2)
noncomputable def f16_r7 (call : CallF) : Env → Mem → Option (Env × Mem) := fun e M =>
    (nx (oMv (eget e 1)) (some 20) e M fun e M =>
    nx (oMv (eget e 20)) (some 4) e M fun e M =>
    some (e, M)).map fun q => (prune [4] q.1, q.2)
noncomputable def f16_l2 (call : CallF) (k : Nat) : St :=
  (bSeq (bSeq (bReg (f16_r2 call))
  (bCond (.tmp 9)
   (bEx .nrm)
   (bEx (.ext 0))))
  (bSeq (bBlock 1 (bSeq (bSeq (bReg (f16_r4 call))
   (bCond (.tmp 17)
    (bSeq (bReg (f16_r5 call))
    (bEx .ret))
    (bEx .nrm)))
   (bReg (f16_r6 call))))
  (bReg (f16_r3 call))))
noncomputable def f16 (call : CallF) (k : Nat) : St :=
  (bSeq (bReg (f16_r0 call))
  (bSeq (bSeq (bReg (f16_r1 call))
  (bBlock 0 (bLoop [0, 1, 5] (f16_l2 call k) k)))
  (bSeq (bReg (f16_r7 call))
  (bEx .ret))))
theorem f16_eq (call : CallF) (k : Nat) : exec cx call 21 f16_an k (Try.f16.body.getD .skip) = f16 call k := by kernel_rfl
/-! ### f31: loop.example/g01263/laws.szInt64S -/
def f31_an : Ann := ⟨[(0, ⟨[], [], [], [], [0, 1]⟩), (1, ⟨[], [], [], [], [1]⟩), (2, ⟨[], [], [], [], [1, 10]⟩), (3, ⟨[], [], [], [], [4]⟩), (4, ⟨[], [], [], [], [4]⟩)], []⟩
noncomputable def f31_r0 (call : CallF) : Env → Mem → Option (Env × Mem) := fun e M =>
    (nx (oMv (.int .i64 0)) (some 4) e M fun e M =>
    some (e, M)).map fun q => (prune [0, 1] q.1, q.2)
noncomputable def f31_r1 (call : CallF) : Env → Mem → Option (Env × Mem) := fun e M =>
    (nx (oMv (eget e 1)) (some 5) e M fun e M =>
    nx (oMv (eget e 0)) (some 6) e M fun e M =>
    nx (oLen cx.P 22 (eget e 6) M) (some 7) e M fun e M =>
    nx (oBin cx.P .sub 3 (eget e 5) (eget e 7) M) (some 8) e M fun e M =>
    nx (oMv (eget e 8)) (some 1) e M fun e M =>
    some (e, M)).map fun q => (prune [1] q.1, q.2)
noncomputable def f31_r2 (call : CallF) : Env → Mem → Option (Env × Mem) := fun e M =>
    (nx (oMv (eget e 1)) (some 9) e M fun e M =>
    nx (oBin cx.P .lss 3 (eget e 9) (.int .i64 0) M) (some 10) e M fun e M =>
    some (e, M)).map fun q => (prune [1, 10] q.1, q.2)
noncomputable def f31_r3 (call : CallF) : Env → Mem → Option (Env × Mem) := fun e M =>
    (nx (oMv (.int .i64 (-1))) (some 4) e M fun e M =>
    some (e, M)).map fun q => (prune [4] q.1, q.2)
noncomputable def f31_r4 (call : CallF) : Env → Mem → Option (Env × Mem) := fun e M =>
    (nx (oMv (eget e 1)) (some 11) e M fun e M =>
    nx (oMv (eget e 11)) (some 4) e M fun e M =>
    some (e, M)).map fun q => (prune [4] q.1, q.2)
noncomputable def f31 (call : CallF) (k : Nat) : St :=
  (bSeq (bReg (f31_r0 call))
  (bSeq (bReg (f31_r1 call))
  (bSeq (bSeq (bReg (f31_r2 call))
  (bCond (.tmp 10)
   (bSeq (bReg (f31_r3 call))
   (bEx .ret))
   (bEx .nrm)))
  (bSeq (bReg (f31_r4 call))
  (bEx .ret)))))
theorem f31_eq (call : CallF) (k : Nat) : exec cx call 12 f31_an k (Try.f31.body.getD .skip) = f31 call k := by kernel_rfl
/-! ### f32: loop.example/g01263/laws.szTallyS -/
def f32_an : Ann := ⟨[(0, ⟨[], [], [], [], [0, 1]⟩), (1, ⟨[], [], [], [], [1]⟩), (2, ⟨[], [], [], [], [1, 10]⟩), (3, ⟨[], [], [], [], [4]⟩), (4, ⟨[], [], [], [], [4]⟩)], []⟩
noncomputable def f32_r0 (call : CallF) : Env → Mem → Option (Env × Mem) := fun e M =>
    (nx (oMv (.int .i64 0)) (some 4) e M fun e M =>
    some (e, M)).map fun q => (prune [0, 1] q.1, q.2)
noncomputable def f32_r1 (call : CallF) : Env → Mem → Option (Env × Mem) := fun e M =>
    (nx (oMv (eget e 1)) (some 5) e M fun e M =>
    nx (oMv (eget e 0)) (some 6) e M fun e M =>
    nx (oLen cx.P 23 (eget e 6) M) (some 7) e M fun e M =>
    nx (oBin cx.P .sub 3 (eget e 5) (eget e 7) M) (some 8) e M fun e M =>
    nx (oMv (eget e 8)) (some 1) e M fun e M =>
    some (e, M)).map fun q => (prune [1] q.1, q.2)
noncomputable def f32_r2 (call : CallF) : Env → Mem → Option (Env × Mem) := fun e M =>
    (nx (oMv (eget e 1)) (some 9) e M fun e M =>
    nx (oBin cx.P .lss 3 (eget e 9) (.int .i64 0) M) (some 10) e M fun e M =>
    some (e, M)).map fun q => (prune [1, 10] q.1, q.2)
noncomputable def f32_r3 (call : CallF) : Env → Mem → Option (Env × Mem) := fun e M =>
    (nx (oMv (.int .i64 (-1))) (some 4) e M fun e M =>
    some (e, M)).map fun q => (prune [4] q.1, q.2)
noncomputable def f32_r4 (call : CallF) : Env → Mem → Option (Env × Mem) := fun e M =>
    (nx (oMv (eget e 1)) (some 11) e M fun e M =>
    nx (oMv (eget e 11)) (some 4) e M fun e M =>
    some (e, M)).map fun q => (prune [4] q.1, q.2)
noncomputable def f32 (call : CallF) (k : Nat) : St :=
  (bSeq (bReg (f32_r0 call))
  (bSeq (bReg (f32_r1 call))
  (bSeq (bSeq (bReg (f32_r2 call))
  (bCond (.tmp 10)
   (bSeq (bReg (f32_r3 call))
   (bEx .ret))
   (bEx .nrm)))
  (bSeq (bReg (f32_r4 call))
  (bEx .ret)))))
theorem f32_eq (call : CallF) (k : Nat) : exec cx call 12 f32_an k (Try.f32.body.getD .skip) = f32 call k := by kernel_rfl
/-! ### f33: loop.example/g01263/spec.l07One -/
def f33_an : Ann := ⟨[(0, ⟨[], [], [], [], [0, 1]⟩), (1, ⟨[], [], [], [], [0, 1, 7]⟩), (2, ⟨[], [], [], [], [4]⟩), (3, ⟨[], [], [], [], [15]⟩), (4, ⟨[], [], [], [], [4]⟩), (5, ⟨[], [], [], [], [4]⟩)], []⟩
noncomputable def f33_r0 (call : CallF) : Env → Mem → Option (Env × Mem) := fun e M =>
    (nx (oMv (.int .i64 0)) (some 4) e M fun e M =>
    some (e, M)).map fun q => (prune [0, 1] q.1, q.2)
noncomputable def f33_r1 (call : CallF) : Env → Mem → Option (Env × Mem) := fun e M =>
    (nx (oMv (eget e 0)) (some 5) e M fun e M =>
    nx (aCall cx.P.cellsOf cx.rw call false M.length 55 [(eget e 5)] M) (some 6) e M fun e M =>
    nx (keep (aUn .not (eget e 6))) (some 7) e M fun e M =>
    some (e, M)).map fun q => (prune [0, 1, 7] q.1, q.2)
noncomputable def f33_r2 (call : CallF) : Env → Mem → Option (Env × Mem) := fun e M =>
    (nx (oMv (.int .i64 1)) (some 4) e M fun e M =>
    some (e, M)).map fun q => (prune [4] q.1, q.2)
noncomputable def f33_r3 (call : CallF) : Env → Mem → Option (Env × Mem) := fun e M =>
    (nx (oMv (eget e 0)) (some 8) e M fun e M =>
    nx (keep (aNilCheck (eget e 8) M)) (some 9) e M fun e M =>
    nx (keep (aFieldAddr 1 1 (eget e 9) M)) (some 10) e M fun e M =>
    nx (keep (aLoad false 1 (eget e 10) M)) (some 11) e M fun e M =>
    nx (oLen cx.P 22 (eget e 11) M) (some 12) e M fun e M =>
    nx (oMv (eget e 1)) (some 13) e M fun e M =>
    nx (aCall cx.P.cellsOf cx.rw call false M.length 56 [(eget e 12), (eget e 13)] M) (some 14) e M fun e M =>
    nx (keep (aUn .not (eget e 14))) (some 15) e M fun e M =>
    some (e, M)).map fun q => (prune [15] q.1, q.2)
noncomputable def f33_r4 (call : CallF) : Env → Mem → Option (Env × Mem) := fun e M =>
    (nx (oMv (.int .i64 2)) (some 4) e M fun e M =>
    some (e, M)).map fun q => (prune [4] q.1, q.2)
noncomputable def f33_r5 (call : CallF) : Env → Mem → Option (Env × Mem) := fun e M =>
    (nx (oMv (.int .i64 0)) (some 4) e M fun e M =>
    some (e, M)).map fun q => (prune [4] q.1, q.2)
noncomputable def f33 (call : CallF) (k : Nat) : St :=
  (bSeq (bReg (f33_r0 call))
  (bSeq (bSeq (bReg (f33_r1 call))
  (bCond (.tmp 7)
   (bSeq (bReg (f33_r2 call))
   (bEx .ret))
   (bEx .nrm)))
  (bSeq (bSeq (bReg (f33_r3 call))
  (bCond (.tmp 15)
   (bSeq (bReg (f33_r4 call))
   (bEx .ret))
   (bEx .nrm)))
  (bSeq (bReg (f33_r5 call))
  (bEx .ret)))))
theorem f33_eq (call : CallF) (k : Nat) : exec cx call 16 f33_an k (Try.f33.body.getD .skip) = f33 call k := by kernel_rfl
/-! ### f34: loop.example/g01263/laws.toInt64S -/
def f34_an : Ann := ⟨[(0, ⟨[], [], [], [], [0]⟩), (1, ⟨[], [], [], [], [0, 3]⟩), (2, ⟨[], [], [], [], [0, 3, 4]⟩), (3, ⟨[], [], [], [], [0, 3, 4, 11]⟩), (4, ⟨[], [], [], [], [0, 3, 4]⟩), (5, ⟨[], [], [], [], [0, 3, 4]⟩), (6, ⟨[], [], [], [], [2]⟩)], [(3, [0, 3, 4])]⟩
noncomputable def f34_r0 (call : CallF) : Env → Mem → Option (Env × Mem) := fun e M =>
    (nx (oMv .nils) (some 2) e M fun e M =>
    some (e, M)).map fun q => (prune [0] q.1, q.2)
noncomputable def f34_r1 (call : CallF) : Env → Mem → Option (Env × Mem) := fun e M =>
    (nx (oMv (eget e 0)) (some 5) e M fun e M =>
    nx (oLen cx.P 22 (eget e 5) M) (some 6) e M fun e M =>
    nx (aMakeO M.length 2 1 8 (zeroOf cx.P 2) (eget e 6) (eget e 6)) (some 7) e M fun e M =>
    nx (oMv (eget e 7)) (some 3) e M fun e M =>
    some (e, M)).map fun q => (prune [0, 3] q.1, q.2)
noncomputable def f34_r2 (call : CallF) : Env → Mem → Option (Env × Mem) := fun e M =>
    (nx (oMv (.int .i64 0)) (some 4) e M fun e M =>
    some (e, M)).map fun q => (prune [0, 3, 4] q.1, q.2)
noncomputable def f34_r3 (call : CallF) : Env → Mem → Option (Env × Mem) := fun e M =>
    (nx (oMv (eget e 4)) (some 8) e M fun e M =>
    nx (oMv (eget e 0)) (some 9) e M fun e M =>
    nx (oLen cx.P 22 (eget e 9) M) (some 10) e M fun e M =>
    nx (oBin cx.P .lss 3 (eget e 8) (eget e 10) M) (some 11) e M fun e M =>
    some (e, M)).map fun q => (prune [0, 3, 4, 11] q.1, q.2)
noncomputable def f34_r4 (call : CallF) : Env → Mem → Option (Env × Mem) := fun e M =>
    (nx (oMv (eget e 4)) (some 12) e M fun e M =>
    nx (oBin cx.P .add 3 (eget e 12) (.int .i64 1) M) (some 13) e M fun e M =>
    nx (oMv (eget e 13)) (some 4) e M fun e M =>
    some (e, M)).map fun q => (prune [0, 3, 4] q.1, q.2)
noncomputable def f34_r5 (call : CallF) : Env → Mem → Option (Env × Mem) := fun e M =>
    (nx (oMv (eget e 3)) (some 14) e M fun e M =>
    nx (oMv (eget e 4)) (some 15) e M fun e M =>
    nx (oMv (eget e 0)) (some 16) e M fun e M =>
    nx (oMv (eget e 4)) (some 17) e M fun e M =>
    nx (keep (aIndexS 1 (eget e 16) (eget e 17) M)) (some 18) e M fun e M =>
    nx (keep (aLoad false 1 (eget e 18) M)) (some 19) e M fun e M =>
    nx (keep (aIndexS 1 (eget e 14) (eget e 15) M)) (some 20) e M fun e M =>
    nx (oStore 1 (eget e 20) (eget e 19) M) none e M fun e M =>
    some (e, M)).map fun q => (prune [0, 3, 4] q.1, q.2)
noncomputable def f34_r6 (call : CallF) : Env → Mem → Option (Env × Mem) := fun e M =>
    (nx (oMv (eget e 3)) (some 21) e M fun e M =>
    nx (oMv (eget e 21)) (some 2) e M fun e M =>
    some (e, M)).map fun q => (prune [2] q.1, q.2)
noncomputable def f34_l3 (call : CallF) (k : Nat) : St :=
  (bSeq (bSeq (bReg (f34_r3 call))
  (bCond (.tmp 11)
   (bEx .nrm)
   (bEx (.ext 0))))
  (bSeq (bBlock 1 (bReg (f34_r5 call)))
  (bReg (f34_r4 call))))
noncomputable def f34 (call : CallF) (k : Nat) : St :=
  (bSeq (bReg (f34_r0 call))
  (bSeq (bReg (f34_r1 call))
  (bSeq (bSeq (bReg (f34_r2 call))
  (bBlock 0 (bLoop [0, 3, 4] (f34_l3 call k) k)))
  (bSeq (bReg (f34_r6 call))
  (bEx .ret)))))
theorem f34_eq (call : CallF) (k : Nat) : exec cx call 22 f34_an k (Try.f34.body.getD .skip) = f34 call k := by kernel_rfl
/-! ### f35: loop.example/g01263/laws.toTallyS -/
def f35_an : Ann := ⟨[(0, ⟨[], [], [], [], [0]⟩), (1, ⟨[], [], [], [], [0, 3]⟩), (2, ⟨[], [], [], [], [0, 3, 4]⟩), (3, ⟨[], [], [], [], [0, 3, 4, 11]⟩), (4, ⟨[], [], [], [], [0, 3, 4]⟩), (5, ⟨[], [], [], [], [0, 3, 4]⟩), (6, ⟨[], [], [], [], [2]⟩)], [(3, [0, 3, 4])]⟩
noncomputable def f35_r0 (call : CallF) : Env → Mem → Option (Env × Mem) := fun e M =>
    (nx (oMv .nils) (some 2) e M fun e M =>
    some (e, M)).map fun q => (prune [0] q.1, q.2)
noncomputable def f35_r1 (call : CallF) : Env → Mem → Option (Env × Mem) := fun e M =>
    (nx (oMv (eget e 0)) (some 5) e M fun e M =>
    nx (oLen cx.P 23 (eget e 5) M) (some 6) e M fun e M =>
    nx (aMakeO M.length 78 5 40 (zeroOf cx.P 78) (eget e 6) (eget e 6)) (some 7) e M fun e M =>
    nx (oMv (eget e 7)) (some 3) e M fun e M =>
    some (e, M)).map fun q => (prune [0, 3] q.1, q.2)
noncomputable def f35_r2 (call : CallF) : Env → Mem → Option (Env × Mem) := fun e M =>
    (nx (oMv (.int .i64 0)) (some 4) e M fun e M =>
    some (e, M)).map fun q => (prune [0, 3, 4] q.1, q.2)
noncomputable def f35_r3 (call : CallF) : Env → Mem → Option (Env × Mem) := fun e M =>
    (nx (oMv (eget e 4)) (some 8) e M fun e M =>
    nx (oMv (eget e 0)) (some 9) e M fun e M =>
    nx (oLen cx.P 23 (eget e 9) M) (some 10) e M fun e M =>
    nx (oBin cx.P .lss 3 (eget e 8) (eget e 10) M) (some 11) e M fun e M =>
    some (e, M)).map fun q => (prune [0, 3, 4, 11] q.1, q.2)
noncomputable def f35_r4 (call : CallF) : Env → Mem → Option (Env × Mem) := fun e M =>
    (nx (oMv (eget e 4)) (some 12) e M fun e M =>
    nx (oBin cx.P .add 3 (eget e 12) (.int .i64 1) M) (some 13) e M fun e M =>
    nx (oMv (eget e 13)) (some 4) e M fun e M =>
    some (e, M)).map fun q => (prune [0, 3, 4] q.1, q.2)
noncomputable def f35_r5 (call : CallF) : Env → Mem → Option (Env × Mem) := fun e M =>
    (nx (oMv (eget e 3)) (some 14) e M fun e M =>
    nx (oMv (eget e 4)) (some 15) e M fun e M =>
    nx (oMv (eget e 0)) (some 16) e M fun e M =>
    nx (oMv (eget e 4)) (some 17) e M fun e M =>
    nx (keep (aIndexS 5 (eget e 16) (eget e 17) M)) (some 18) e M fun e M =>
    nx (keep (aLoad true 5 (eget e 18) M)) (some 19) e M fun e M =>
    nx (aCall cx.P.cellsOf cx.rw call false M.length 57 [(eget e 19)] M) (some 20) e M fun e M =>
    nx (keep (aIndexS 5 (eget e 14) (eget e 15) M)) (some 21) e M fun e M =>
    nx (oStore 5 (eget e 21) (eget e 20) M) none e M fun e M =>
    some (e, M)).map fun q => (prune [0, 3, 4] q.1, q.2)
noncomputable def f35_r6 (call : CallF) : Env → Mem → Option (Env × Mem) := fun e M =>
    (nx (oMv (eget e 3)) (some 22) e M fun e M =>
    nx (oMv (eget e 22)) (some 2) e M fun e M =>
    some (e, M)).map fun q => (prune [2] q.1, q.2)
noncomputable def f35_l3 (call : CallF) (k : Nat) : St :=
  (bSeq (bSeq (bReg (f35_r3 call))
  (bCond (.tmp 11)
   (bEx .nrm)
   (bEx (.ext 0))))
  (bSeq (bBlock 1 (bReg (f35_r5 call)))
  (bReg (f35_r4 call))))
noncomputable def f35 (call : CallF) (k : Nat) : St :=
  (bSeq (bReg (f35_r0 call))
  (bSeq (bReg (f35_r1 call))
  (bSeq (bSeq (bReg (f35_r2 call))
  (bBlock 0 (bLoop [0, 3, 4] (f35_l3 call k) k)))
  (bSeq (bReg (f35_r6 call))
  (bEx .ret)))))
theorem f35_eq (call : CallF) (k : Nat) : exec cx call 23 f35_an k (Try.f35.body.getD .skip) = f35 call k := by kernel_rfl
/-! ### f36: loop.example/g01263/impl.personCode -/
def f36_an : Ann := ⟨[(0, ⟨[], [], [], [], [1, 2]⟩), (1, ⟨[], [], [], [], [1, 2, 5]⟩), (2, ⟨[], [], [], [], [4]⟩), (3, ⟨[], [], [], [], [9]⟩), (4, ⟨[], [], [], [], [4]⟩), (5, ⟨[], [], [], [], [4]⟩)], []⟩
noncomputable def f36_r0 (call : CallF) : Env → Mem → Option (Env × Mem) := fun e M =>
    (nx (keep (aBox 3 (eget e 0) M)) (some 2) e M fun e M =>
    nx (oMv (.int .i64 0)) (some 4) e M fun e M =>
    some (e, M)).map fun q => (prune [1, 2] q.1, q.2)
noncomputable def f36_r1 (call : CallF) : Env → Mem → Option (Env × Mem) := fun e M =>
    (nx (keep (aLoad true 3 (eget e 2) M)) (some 6) e M fun e M =>
    nx (aCall cx.P.cellsOf cx.rw call false M.length 58 [(eget e 6)] M) (some 7) e M fun e M =>
    nx (keep (aUn .not (eget e 7))) (some 8) e M fun e M =>
    nx (oMv (eget e 8)) (some 5) e M fun e M =>
    some (e, M)).map fun q => (prune [1, 2, 5] q.1, q.2)
noncomputable def f36_r2 (call : CallF) : Env → Mem → Option (Env × Mem) := fun e M =>
    (nx (oMv (.int .i64 1)) (some 4) e M fun e M =>
    some (e, M)).map fun q => (prune [4] q.1, q.2)
noncomputable def f36_r3 (call : CallF) : Env → Mem → Option (Env × Mem) := fun e M =>
    (nx (keep (aFieldAddr 1 1 (eget e 2) M)) (some 10) e M fun e M =>
    nx (keep (aLoad false 1 (eget e 10) M)) (some 11) e M fun e M =>
    nx (oLen cx.P 22 (eget e 11) M) (some 12) e M fun e M =>
    nx (oMv (eget e 1)) (some 13) e M fun e M =>
    nx (keep (aLitI 2 1 [(eget e 13)] M)) (some 14) e M fun e M =>
    nx (aCall cx.P.cellsOf cx.rw call false M.length 59 [(eget e 12), (eget e 14)] M) (some 15) e M fun e M =>
    nx (keep (aUn .not (eget e 15))) (some 16) e M fun e M =>
    nx (oMv (eget e 16)) (some 9) e M fun e M =>
    some (e, M)).map fun q => (prune [9] q.1, q.2)
noncomputable def f36_r4 (call : CallF) : Env → Mem → Option (Env × Mem) := fun e M =>
    (nx (oMv (.int .i64 2)) (some 4) e M fun e M =>
    some (e, M)).map fun q => (prune [4] q.1, q.2)
noncomputable def f36_r5 (call : CallF) : Env → Mem → Option (Env × Mem) := fun e M =>
    (nx (oMv (.int .i64 0)) (some 4) e M fun e M =>
    some (e, M)).map fun q => (prune [4] q.1, q.2)
noncomputable def f36 (call : CallF) (k : Nat) : St :=
  (bSeq (bReg (f36_r0 call))
  (bSeq (bBlock 0 (bSeq (bReg (f36_r1 call))
   (bCond (.tmp 5)
    (bSeq (bReg (f36_r2 call))
    (bEx .ret))
    (bSeq (bReg (f36_r3 call))
    (bCond (.tmp 9)
     (bSeq (bReg (f36_r4 call))
     (bEx .ret))
     (bEx .nrm))))))
  (bSeq (bReg (f36_r5 call))
  (bEx .ret))))
theorem f36_eq (call : CallF) (k : Nat) : exec cx call 17 f36_an k (Try.f36.body.getD .skip) = f36 call k := by kernel_rfl
/-! ### f37: loop.example/g01263/laws.eqTallyS -/
def f37_an : Ann := ⟨[(0, ⟨[], [], [], [], [0, 1]⟩), (1, ⟨[], [], [], [], [0, 1, 10]⟩), (2, ⟨[], [], [], [], [4]⟩), (3, ⟨[], [], [], [], [0, 1, 5]⟩), (4, ⟨[], [], [], [], [0, 1, 5, 14]⟩), (5, ⟨[], [], [], [], [0, 1, 5]⟩), (6, ⟨[], [], [], [], [0, 1, 5, 26]⟩), (7, ⟨[], [], [], [], [4]⟩), (8, ⟨[], [], [], [], [4]⟩)], [(4, [0, 1, 5])]⟩
noncomputable def f37_r0 (call : CallF) : Env → Mem → Option (Env × Mem) := fun e M =>
    (nx (oMv (.bool false)) (some 4) e M fun e M =>
    some (e, M)).map fun q => (prune [0, 1] q.1, q.2)
noncomputable def f37_r1 (call : CallF) : Env → Mem → Option (Env × Mem) := fun e M =>
    (nx (oMv (eget e 0)) (some 6) e M fun e M =>
    nx (oLen cx.P 29 (eget e 6) M) (some 7) e M fun e M =>
    nx (oMv (eget e 1)) (some 8) e M fun e M =>
    nx (oLen cx.P 29 (eget e 8) M) (some 9) e M fun e M =>
    nx (oBin cx.P .neq 3 (eget e 7) (eget e 9) M) (some 10) e M fun e M =>
    some (e, M)).map fun q => (prune [0, 1, 10] q.1, q.2)
noncomputable def f37_r2 (call : CallF) : Env → Mem → Option (Env × Mem) := fun e M =>
    (nx (oMv (.bool false)) (some 4) e M fun e M =>
    some (e, M)).map fun q => (prune [4] q.1, q.2)
noncomputable def f37_r3 (call : CallF) : Env → Mem → Option (Env × Mem) := fun e M =>
    (nx (oMv (.int .i64 0)) (some 5) e M fun e M =>
    some (e, M)).map fun q => (prune [0, 1, 5] q.1, q.2)
noncomputable def f37_r4 (call : CallF) : Env → Mem → Option (Env × Mem) := fun e M =>
    (nx (oMv (eget e 5)) (some 11) e M fun e M =>
    nx (oMv (eget e 0)) (some 12) e M fun e M =>
    nx (oLen cx.P 29 (eget e 12) M) (some 13) e M fun e M =>
    nx (oBin cx.P .lss 3 (eget e 11) (eget e 13) M) (some 14) e M fun e M =>
    some (e, M)).map fun q => (prune [0, 1, 5, 14] q.1, q.2)
noncomputable def f37_r5 (call : CallF) : Env → Mem → Option (Env × Mem) := fun e M =>
    (nx (oMv (eget e 5)) (some 15) e M fun e M =>
    nx (oBin cx.P .add 3 (eget e 15) (.int .i64 1) M) (some 16) e M fun e M =>
    nx (oMv (eget e 16)) (some 5) e M fun e M =>
    some (e, M)).map fun q => (prune [0, 1, 5] q.1, q.2)
noncomputable def f37_r6 (call : CallF) : Env → Mem → Option (Env × Mem) := fun e M =>
    rD [0, 1, 5, 26] (fun (C : List Ob) =>
    nf (oMv (eget e 0)) (some 17) false e C fun e C =>
    nf (oMv (eget e 5)) (some 18) false e C fun e C =>
    nf (keep (aIndexS 5 (eget e 17) (eget e 18) M)) (some 19) false e C fun e C =>
    nf (keep (aLoad true 5 (eget e 19) M)) (some 20) false e C fun e C =>
    nf (oMv (eget e 1)) (some 21) false e C fun e C =>
    nf (oMv (eget e 5)) (some 22) false e C fun e C =>
    nf (keep (aIndexS 5 (eget e 21) (eget e 22) M)) (some 23) false e C fun e C =>
    nf (keep (aLoad true 5 (eget e 23) M)) (some 24) false e C fun e C =>
    nf (aCall cx.P.cellsOf cx.rw call false (M.length + C.length) 60 [(eget e 20), (eget e 24)] M) (some 25) false e C fun e C =>
    nf (keep (aUn .not (eget e 25))) (some 26) false e C fun e C =>
    some (e, C)) (fun (e : Env) (M : Mem) =>
    some (e, M)) M
noncomputable def f37_r7 (call : CallF) : Env → Mem → Option (Env × Mem) := fun e M =>
    (nx (oMv (.bool false)) (some 4) e M fun e M =>
    some (e, M)).map fun q => (prune [4] q.1, q.2)
noncomputable def f37_r8 (call : CallF) : Env → Mem → Option (Env × Mem) := fun e M =>
    (nx (oMv (.bool true)) (some 4) e M fun e M =>
    some (e, M)).map fun q => (prune [4] q.1, q.2)
noncomputable def f37_l4 (call : CallF) (k : Nat) : St :=
  (bSeq (bSeq (bReg (f37_r4 call))
  (bCond (.tmp 14)
   (bEx .nrm)
   (bEx (.ext 0))))
  (bSeq (bBlock 1 (bSeq (bReg (f37_r6 call))
   (bCond (.tmp 26)
    (bSeq (bReg (f37_r7 call))
    (bEx .ret))
    (bEx .nrm))))
  (bReg (f37_r5 call))))
noncomputable def f37 (call : CallF) (k : Nat) : St :=
  (bSeq (bReg (f37_r0 call))
  (bSeq (bSeq (bReg (f37_r1 call))
  (bCond (.tmp 10)
   (bSeq (bReg (f37_r2 call))
   (bEx .ret))
   (bEx .nrm)))
  (bSeq (bSeq (bReg (f37_r3 call))
  (bBlock 0 (bLoop [0, 1, 5] (f37_l4 call k) k)))
  (bSeq (bReg (f37_r8 call))
  (bEx .ret)))))
theorem f37_eq (call : CallF) (k : Nat) : exec cx call 27 f37_an k (Try.f37.body.getD .skip) = f37 call k := by kernel_rfl
/-! ### f38: loop.example/g01263/laws.markTallyS -/
def f38_an : Ann := ⟨[(0, ⟨[], [], [], [], [0, 1]⟩), (1, ⟨[], [], [], [], [0, 1, 5]⟩), (2, ⟨[], [], [], [], [0, 1, 5, 9]⟩), (3, ⟨[], [], [], [], [0, 1, 5]⟩), (4, ⟨[], [], [], [], [0, 1, 5]⟩), (5, ⟨[], [], [], [], [0, 1, 5]⟩), (6, ⟨[], [], [], [], [0, 1, 5]⟩), (7, ⟨[], [], [], [], [0, 1, 5]⟩), (8, ⟨[], [], [], [], [0, 1, 5]⟩), (9, ⟨[], [], [], [], [0, 1, 5]⟩), (10, ⟨[], [], [], [], [0, 1, 5]⟩), (11, ⟨[], [], [], [], [0, 1, 5]⟩), (12, ⟨[], [], [], [], [0, 1, 5]⟩), (13, ⟨[], [], [], [], [0, 1, 5]⟩), (14, ⟨[], [], [], [], [4]⟩)], [(2, [0, 1, 5])]⟩
noncomputable def f38_r0 (call : CallF) : Env → Mem → Option (Env × Mem) := fun e M =>
    (nx (oMv (.int .i64 0)) (some 4) e M fun e M =>
    some (e, M)).map fun q => (prune [0, 1] q.1, q.2)
noncomputable def f38_r1 (call : CallF) : Env → Mem → Option (Env × Mem) := fun e M =>
    (nx (oMv (.int .i64 0)) (some 5) e M fun e M =>
    some (e, M)).map fun q => (prune [0, 1, 5] q.1, q.2)
noncomputable def f38_r2 (call : CallF) : Env → Mem → Option (Env × Mem) := fun e M =>
    (nx (oMv (eget e 5)) (some 6) e M fun e M =>
    nx (oMv (eget e 0)) (some 7) e M fun e M =>
    nx (oLen cx.P 29 (eget e 7) M) (some 8) e M fun e M =>
    nx (oBin cx.P .lss 3 (eget e 6) (eget e 8) M) (some 9) e M fun e M =>
    some (e, M)).map fun q => (prune [0, 1, 5, 9] q.1, q.2)
noncomputable def f38_r3 (call : CallF) : Env → Mem → Option (Env × Mem) := fun e M =>
    (nx (oMv (eget e 5)) (some 10) e M fun e M =>
    nx (oBin cx.P .add 3 (eget e 10) (.int .i64 1) M) (some 11) e M fun e M =>
    nx (oMv (eget e 11)) (some 5) e M fun e M =>
    some (e, M)).map fun q => (prune [0, 1, 5] q.1, q.2)
noncomputable def f38_r4 (call : CallF) : Env → Mem → Option (Env × Mem) := fun e M =>
    (nx (oMv (eget e 0)) (some 12) e M fun e M =>
    nx (oMv (eget e 5)) (some 13) e M fun e M =>
    nx (oMv (eget e 1)) (some 14) e M fun e M =>
    nx (keep (aIndexS 5 (eget e 12) (eget e 13) M)) (some 15) e M fun e M =>
    nx (keep (aFieldAddr 0 1 (eget e 15) M)) (some 16) e M fun e M =>
    nx (oStore 1 (eget e 16) (eget e 14) M) none e M fun e M =>
    some (e, M)).map fun q => (prune [0, 1, 5] q.1, q.2)
noncomputable def f38_r5 (call : CallF) : Env → Mem → Option (Env × Mem) := fun e M =>
    (nx (oMv (eget e 1)) (some 17) e M fun e M =>
    nx (oBin cx.P .add 3 (eget e 17) (.int .i64 1) M) (some 18) e M fun e M =>
    nx (oMv (eget e 18)) (some 1) e M fun e M =>
    some (e, M)).map fun q => (prune [0, 1, 5] q.1, q.2)
noncomputable def f38_r6 (call : CallF) : Env → Mem → Option (Env × Mem) := fun e M =>
    (nx (oMv (eget e 0)) (some 19) e M fun e M =>
    nx (oMv (eget e 5)) (some 20) e M fun e M =>
    nx (oMv (eget e 1)) (some 21) e M fun e M =>
    nx (keep (aIndexS 5 (eget e 19) (eget e 20) M)) (some 22) e M fun e M =>
    nx (keep (aFieldAddr 1 1 (eget e 22) M)) (some 23) e M fun e M =>
    nx (oStore 1 (eget e 23) (eget e 21) M) none e M fun e M =>
    some (e, M)).map fun q => (prune [0, 1, 5] q.1, q.2)
noncomputable def f38_r7 (call : CallF) : Env → Mem → Option (Env × Mem) := fun e M =>
    (nx (oMv (eget e 1)) (some 24) e M fun e M =>
    nx (oBin cx.P .add 3 (eget e 24) (.int .i64 1) M) (some 25) e M fun e M =>
    nx (oMv (eget e 25)) (some 1) e M fun e M =>
    some (e, M)).map fun q => (prune [0, 1, 5] q.1, q.2)
noncomputable def f38_r8 (call : CallF) : Env → Mem → Option (Env × Mem) := fun e M =>
    (nx (oMv (eget e 0)) (some 26) e M fun e M =>
    nx (oMv (eget e 5)) (some 27) e M fun e M =>
    nx (oMv (eget e 1)) (some 28) e M fun e M =>
    nx (keep (aIndexS 5 (eget e 26) (eget e 27) M)) (some 29) e M fun e M =>
    nx (keep (aFieldAddr 2 1 (eget e 29) M)) (some 30) e M fun e M =>
    nx (oStore 1 (eget e 30) (eget e 28) M) none e M fun e M =>
    some (e, M)).map fun q => (prune [0, 1, 5] q.1, q.2)
noncomputable def f38_r9 (call : CallF) : Env → Mem → Option (Env × Mem) := fun e M =>
    (nx (oMv (eget e 1)) (some 31) e M fun e M =>
    nx (oBin cx.P .add 3 (eget e 31) (.int .i64 1) M) (some 32) e M fun e M =>
    nx (oMv (eget e 32)) (some 1) e M fun e M =>
    some (e, M)).map fun q => (prune [0, 1, 5] q.1, q.2)
noncomputable def f38_r10 (call : CallF) : Env → Mem → Option (Env × Mem) := fun e M =>
    (nx (oMv (eget e 0)) (some 33) e M fun e M =>
    nx (oMv (eget e 5)) (some 34) e M fun e M =>
    nx (oMv (eget e 1)) (some 35) e M fun e M =>
    nx (keep (aIndexS 5 (eget e 33) (eget e 34) M)) (some 36) e M fun e M =>
    nx (keep (aFieldAddr 3 1 (eget e 36) M)) (some 37) e M fun e M =>
    nx (oStore 1 (eget e 37) (eget e 35) M) none e M fun e M =>
    some (e, M)).map fun q => (prune [0, 1, 5] q.1, q.2)
noncomputable def f38_r11 (call : CallF) : Env → Mem → Option (Env × Mem) := fun e M =>
    (nx (oMv (eget e 1)) (some 38) e M fun e M =>
    nx (oBin cx.P .add 3 (eget e 38) (.int .i64 1) M) (some 39) e M fun e M =>
    nx (oMv (eget e 39)) (some 1) e M fun e M =>
    some (e, M)).map fun q => (prune [0, 1, 5] q.1, q.2)
noncomputable def f38_r12 (call : CallF) : Env → Mem → Option (Env × Mem) := fun e M =>
    (nx (oMv (eget e 0)) (some 40) e M fun e M =>
    nx (oMv (eget e 5)) (some 41) e M fun e M =>
    nx (oMv (eget e 1)) (some 42) e M fun e M =>
    nx (keep (aIndexS 5 (eget e 40) (eget e 41) M)) (some 43) e M fun e M =>
    nx (keep (aFieldAddr 4 1 (eget e 43) M)) (some 44) e M fun e M =>
    nx (oStore 1 (eget e 44) (eget e 42) M) none e M fun e M =>
    some (e, M)).map fun q => (prune [0, 1, 5] q.1, q.2)
noncomputable def f38_r13 (call : CallF) : Env → Mem → Option (Env × Mem) := fun e M =>
    (nx (oMv (eget e 1)) (some 45) e M fun e M =>
    nx (oBin cx.P .add 3 (eget e 45) (.int .i64 1) M) (some 46) e M fun e M =>
    nx (oMv (eget e 46)) (some 1) e M fun e M =>
    some (e, M)).map fun q => (prune [0, 1, 5] q.1, q.2)
noncomputable def f38_r14 (call : CallF) : Env → Mem → Option (Env × Mem) := fun e M =>
    (nx (oMv (eget e 1)) (some 47) e M fun e M =>
    nx (oMv (eget e 47)) (some 4) e M fun e M =>
    some (e, M)).map fun q => (prune [4] q.1, q.2)
noncomputable def f38_l2 (call : CallF) (k : Nat) : St :=
  (bSeq (bSeq (bReg (f38_r2 call))
  (bCond (.tmp 9)
   (bEx .nrm)
   (bEx (.ext 0))))
  (bSeq (bBlock 1 (bSeq (bReg (f38_r4 call))
   (bSeq (bReg (f38_r5 call))
   (bSeq (bReg (f38_r6 call))
   (bSeq (bReg (f38_r7 call))
   (bSeq (bReg (f38_r8 call))
   (bSeq (bReg (f38_r9 call))
   (bSeq (bReg (f38_r10 call))
   (bSeq (bReg (f38_r11 call))
   (bSeq (bReg (f38_r12 call))
   (bReg (f38_r13 call))))))))))))
  (bReg (f38_r3 call))))
noncomputable def f38 (call : CallF) (k : Nat) : St :=
  (bSeq (bReg (f38_r0 call))
  (bSeq (bSeq (bReg (f38_r1 call))
  (bBlock 0 (bLoop [0, 1, 5] (f38_l2 call k) k)))
  (bSeq (bReg (f38_r14 call))
  (bEx .ret))))
theorem f38_eq (call : CallF) (k : Nat) : exec cx call 48 f38_an k (Try.f38.body.getD .skip) = f38 call k := by kernel_rfl
/-! ### f55: loop.example/g01263/spec.l07Ok -/
def f55_an : Ann := ⟨[(0, ⟨[], [], [], [], [0]⟩), (1, ⟨[], [], [], [], [0, 27]⟩), (2, ⟨[], [], [], [], [2]⟩), (3, ⟨[], [], [], [], [0, 3]⟩), (4, ⟨[], [], [], [], [0, 3, 4]⟩), (5, ⟨[], [], [], [], [0, 3, 4, 39]⟩), (6, ⟨[], [], [], [], [0, 3, 4]⟩), (7, ⟨[], [], [], [], [0, 3, 4, 5]⟩), (8, ⟨[], [], [], [], [0, 3, 4, 5, 95]⟩), (9, ⟨[], [], [], [], [2]⟩), (10, ⟨[], [], [], [], [0, 3, 4, 131]⟩), (11, ⟨[], [], [], [], [2]⟩), (12, ⟨[], [], [], [], [2]⟩)], [(5, [0, 3, 4])]⟩
noncomputable def f55_r0 (call : CallF) : Env → Mem → Option (Env × Mem) := fun e M =>
    (nx (oMv (.bool false)) (some 2) e M fun e M =>
    some (e, M)).map fun q => (prune [0] q.1, q.2)
noncomputable def f55_r1 (call : CallF) : Env → Mem → Option (Env × Mem) := fun e M =>
    (nx (oMv (eget e 0)) (some 6) e M fun e M =>
    nx (keep (aNilCheck (eget e 6) M)) (some 7) e M fun e M =>
    nx (keep (aFieldAddr 0 1 (eget e 7) M)) (some 8) e M fun e M =>
    nx (keep (aLoad false 1 (eget e 8) M)) (some 9) e M fun e M =>
    nx (aCall cx.P.cellsOf cx.rw call false M.length 81 [(eget e 9)] M) (some 10) e M fun e M =>
    nx (keep (aUn .not (eget e 10))) (some 11) e M fun e M =>
    nx (oMv (eget e 11)) (some 12) e M fun e M =>
    nx (aGuard (some ((eget e 12), false)) (oMv (eget e 0))) (some 13) e M fun e M =>
    nx (aGuard (some ((eget e 12), false)) (keep (aNilCheck (eget e 13) M))) (some 14) e M fun e M =>
    nx (aGuard (some ((eget e 12), false)) (keep (aFieldAddr 1 1 (eget e 14) M))) (some 15) e M fun e M =>
    nx (aGuard (some ((eget e 12), false)) (keep (aLoad false 1 (eget e 15) M))) (some 16) e M fun e M =>
    nx (aGuard (some ((eget e 12), false)) (aCall cx.P.cellsOf cx.rw call false M.length 82 [(eget e 16)] M)) (some 17) e M fun e M =>
    nx (aGuard (some ((eget e 12), false)) (keep (aUn .not (eget e 17)))) (some 18) e M fun e M =>
    nx (keep (aPick (eget e 12) (.bool true) (eget e 18))) (some 19) e M fun e M =>
    nx (oMv (eget e 19)) (some 20) e M fun e M =>
    nx (aGuard (some ((eget e 20), false)) (oMv (eget e 0))) (some 21) e M fun e M =>
    nx (aGuard (some ((eget e 20), false)) (keep (aNilCheck (eget e 21) M))) (some 22) e M fun e M =>
    nx (aGuard (some ((eget e 20), false)) (keep (aFieldAddr 2 1 (eget e 22) M))) (some 23) e M fun e M =>
    nx (aGuard (some ((eget e 20), false)) (keep (aLoad false 1 (eget e 23) M))) (some 24) e M fun e M =>
    nx (aGuard (some ((eget e 20), false)) (oLen cx.P 29 (eget e 24) M)) (some 25) e M fun e M =>
    nx (aGuard (some ((eget e 20), false)) (oBin cx.P .gtr 3 (eget e 25) (.int .i64 40) M)) (some 26) e M fun e M =>
    nx (keep (aPick (eget e 20) (.bool true) (eget e 26))) (some 27) e M fun e M =>
    some (e, M)).map fun q => (prune [0, 27] q.1, q.2)
noncomputable def f55_r2 (call : CallF) : Env → Mem → Option (Env × Mem) := fun e M =>
    (nx (oMv (.bool false)) (some 2) e M fun e M =>
    some (e, M)).map fun q => (prune [2] q.1, q.2)
noncomputable def f55_r3 (call : CallF) : Env → Mem → Option (Env × Mem) := fun e M =>
    (nx (oMv (eget e 0)) (some 28) e M fun e M =>
    nx (keep (aNilCheck (eget e 28) M)) (some 29) e M fun e M =>
    nx (keep (aFieldAddr 1 1 (eget e 29) M)) (some 30) e M fun e M =>
    nx (keep (aLoad false 1 (eget e 30) M)) (some 31) e M fun e M =>
    nx (oLen cx.P 22 (eget e 31) M) (some 32) e M fun e M =>
    nx (oMv (eget e 32)) (some 3) e M fun e M =>
    some (e, M)).map fun q => (prune [0, 3] q.1, q.2)
noncomputable def f55_r4 (call : CallF) : Env → Mem → Option (Env × Mem) := fun e M =>
    (nx (oMv (.int .i64 0)) (some 4) e M fun e M =>
    some (e, M)).map fun q => (prune [0, 3, 4] q.1, q.2)
noncomputable def f55_r5 (call : CallF) : Env → Mem → Option (Env × Mem) := fun e M =>
    (nx (oMv (eget e 4)) (some 33) e M fun e M =>
    nx (oMv (eget e 0)) (some 34) e M fun e M =>
    nx (keep (aNilCheck (eget e 34) M)) (some 35) e M fun e M =>
    nx (keep (aFieldAddr 2 1 (eget e 35) M)) (some 36) e M fun e M =>
    nx (keep (aLoad false 1 (eget e 36) M)) (some 37) e M fun e M =>
    nx (oLen cx.P 29 (eget e 37) M) (some 38) e M fun e M =>
    nx (oBin cx.P .lss 3 (eget e 33) (eget e 38) M) (some 39) e M fun e M =>
    some (e, M)).map fun q => (prune [0, 3, 4, 39] q.1, q.2)
noncomputable def f55_r6 (call : CallF) : Env → Mem → Option (Env × Mem) := fun e M =>
    (nx (oMv (eget e 4)) (some 40) e M fun e M =>
    nx (oBin cx.P .add 3 (eget e 40) (.int .i64 1) M) (some 41) e M fun e M =>
    nx (oMv (eget e 41)) (some 4) e M fun e M =>
    some (e, M)).map fun q => (prune [0, 3, 4] q.1, q.2)
noncomputable def f55_r7 (call : CallF) : Env → Mem → Option (Env × Mem) := fun e M =>
    (nx (oMv (eget e 0)) (some 42) e M fun e M =>
    nx (keep (aNilCheck (eget e 42) M)) (some 43) e M fun e M =>
    nx (keep (aFieldAddr 2 1 (eget e 43) M)) (some 44) e M fun e M =>
    nx (keep (aLoad false 1 (eget e 44) M)) (some 45) e M fun e M =>
    nx (oMv (eget e 4)) (some 46) e M fun e M =>
    nx (keep (aIndexS 5 (eget e 45) (eget e 46) M)) (some 47) e M fun e M =>
    nx (oMv (eget e 47)) (some 5) e M fun e M =>
    some (e, M)).map fun q => (prune [0, 3, 4, 5] q.1, q.2)
noncomputable def f55_r8 (call : CallF) : Env → Mem → Option (Env × Mem) := fun e M =>
    rD [0, 3, 4, 5, 95] (fun (C : List Ob) =>
    nf (oMv (eget e 3)) (some 48) false e C fun e C =>
    nf (oMv (eget e 5)) (some 49) false e C fun e C =>
    nf (keep (aNilCheck (eget e 49) M)) (some 50) false e C fun e C =>
    nf (keep (aFieldAddr 0 1 (eget e 50) M)) (some 51) false e C fun e C =>
    nf (keep (aLoad false 1 (eget e 51) M)) (some 52) false e C fun e C =>
    nf (aCall cx.P.cellsOf cx.rw call false (M.length + C.length) 56 [(eget e 48), (eget e 52)] M) (some 53) false e C fun e C =>
    nf (keep (aUn .not (eget e 53))) (some 54) false e C fun e C =>
    nf (oMv (eget e 54)) (some 55) false e C fun e C =>
    nf (aGuard (some ((eget e 55), false)) (oMv (eget e 3))) (some 56) false e C fun e C =>
    nf (aGuard (some ((eget e 55), false)) (oMv (eget e 5))) (some 57) false e C fun e C =>
    nf (aGuard (some ((eget e 55), false)) (keep (aNilCheck (eget e 57) M))) (some 58) false e C fun e C =>
    nf (aGuard (some ((eget e 55), false)) (keep (aFieldAddr 1 1 (eget e 58) M))) (some 59) false e C fun e C =>
    nf (aGuard (some ((eget e 55), false)) (keep (aLoad false 1 (eget e 59) M))) (some 60) false e C fun e C =>
    nf (aGuard (some ((eget e 55), false)) (aCall cx.P.cellsOf cx.rw call false (M.length + C.length) 56 [(eget e 56), (eget e 60)] M)) (some 61) false e C fun e C =>
    nf (aGuard (some ((eget e 55), false)) (keep (aUn .not (eget e 61)))) (some 62) false e C fun e C =>
    nf (keep (aPick (eget e 55) (.bool true) (eget e 62))) (some 63) false e C fun e C =>
    nf (oMv (eget e 63)) (some 64) false e C fun e C =>
    nf (aGuard (some ((eget e 64), false)) (oMv (eget e 5))) (some 65) false e C fun e C =>
    nf (aGuard (some ((eget e 64), false)) (keep (aNilCheck (eget e 65) M))) (some 66) false e C fun e C =>
    nf (aGuard (some ((eget e 64), false)) (keep (aFieldAddr 2 1 (eget e 66) M))) (some 67) false e C fun e C =>
    nf (aGuard (some ((eget e 64), false)) (keep (aLoad false 1 (eget e 67) M))) (some 68) false e C fun e C =>
    nf (aGuard (some ((eget e 64), false)) (oMv (eget e 0))) (some 69) false e C fun e C =>
    nf (aGuard (some ((eget e 64), false)) (keep (aNilCheck (eget e 69) M))) (some 70) false e C fun e C =>
    nf (aGuard (some ((eget e 64), false)) (keep (aFieldAddr 0 1 (eget e 70) M))) (some 71) false e C fun e C =>
    nf (aGuard (some ((eget e 64), false)) (keep (aLoad false 1 (eget e 71) M))) (some 72) false e C fun e C =>
    nf (aGuard (some ((eget e 64), false)) (aCall cx.P.cellsOf cx.rw call false (M.length + C.length) 65 [(eget e 68), (.int .i64 0), (eget e 72)] M)) (some 73) false e C fun e C =>
    nf (aGuard (some ((eget e 64), false)) (keep (aUn .not (eget e 73)))) (some 74) false e C fun e C =>
    nf (keep (aPick (eget e 64) (.bool true) (eget e 74))) (some 75) false e C fun e C =>
    nf (oMv (eget e 75)) (some 76) false e C fun e C =>
    nf (aGuard (some ((eget e 76), false)) (oMv (eget e 5))) (some 77) false e C fun e C =>
    nf (aGuard (some ((eget e 76), false)) (keep (aNilCheck (eget e 77) M))) (some 78) false e C fun e C =>
    nf (aGuard (some ((eget e 76), false)) (keep (aFieldAddr 3 1 (eget e 78) M))) (some 79) false e C fun e C =>
    nf (aGuard (some ((eget e 76), false)) (keep (aLoad false 1 (eget e 79) M))) (some 80) false e C fun e C =>
    nf (aGuard (some ((eget e 76), false)) (aCall cx.P.cellsOf cx.rw call false (M.length + C.length) 65 [(eget e 80), (.int .i64 1), (.int .i64 100000000)] M)) (some 81) false e C fun e C =>
    nf (aGuard (some ((eget e 76), false)) (keep (aUn .not (eget e 81)))) (some 82) false e C fun e C =>
    nf (keep (aPick (eget e 76) (.bool true) (eget e 82))) (some 83) false e C fun e C =>
    nf (oMv (eget e 83)) (some 84) false e C fun e C =>
    nf (aGuard (some ((eget e 84), false)) (oMv (eget e 5))) (some 85) false e C fun e C =>
    nf (aGuard (some ((eget e 84), false)) (keep (aNilCheck (eget e 85) M))) (some 86) false e C fun e C =>
    nf (aGuard (some ((eget e 84), false)) (keep (aFieldAddr 4 1 (eget e 86) M))) (some 87) false e C fun e C =>
    nf (aGuard (some ((eget e 84), false)) (keep (aLoad false 1 (eget e 87) M))) (some 88) false e C fun e C =>
    nf (aGuard (some ((eget e 84), false)) (oMv (eget e 5))) (some 89) false e C fun e C =>
    nf (aGuard (some ((eget e 84), false)) (keep (aNilCheck (eget e 89) M))) (some 90) false e C fun e C =>
    nf (aGuard (some ((eget e 84), false)) (keep (aFieldAddr 3 1 (eget e 90) M))) (some 91) false e C fun e C =>
    nf (aGuard (some ((eget e 84), false)) (keep (aLoad false 1 (eget e 91) M))) (some 92) false e C fun e C =>
    nf (aGuard (some ((eget e 84), false)) (aCall cx.P.cellsOf cx.rw call false (M.length + C.length) 65 [(eget e 88), (.int .i64 0), (eget e 92)] M)) (some 93) false e C fun e C =>
    nf (aGuard (some ((eget e 84), false)) (keep (aUn .not (eget e 93)))) (some 94) false e C fun e C =>
    nf (keep (aPick (eget e 84) (.bool true) (eget e 94))) (some 95) false e C fun e C =>
    some (e, C)) (fun (e : Env) (M : Mem) =>
    some (e, M)) M
noncomputable def f55_r9 (call : CallF) : Env → Mem → Option (Env × Mem) := fun e M =>
    (nx (oMv (.bool false)) (some 2) e M fun e M =>
    some (e, M)).map fun q => (prune [2] q.1, q.2)
noncomputable def f55_r10 (call : CallF) : Env → Mem → Option (Env × Mem) := fun e M =>
    rD [0, 3, 4, 131] (fun (C : List Ob) =>
    nf (oMv (eget e 5)) (some 96) false e C fun e C =>
    nf (keep (aNilCheck (eget e 96) M)) (some 97) false e C fun e C =>
    nf (keep (aFieldAddr 0 1 (eget e 97) M)) (some 98) false e C fun e C =>
    nf (keep (aLoad false 1 (eget e 98) M)) (some 99) false e C fun e C =>
    nf (oMv (eget e 5)) (some 100) false e C fun e C =>
    nf (keep (aNilCheck (eget e 100) M)) (some 101) false e C fun e C =>
    nf (keep (aFieldAddr 1 1 (eget e 101) M)) (some 102) false e C fun e C =>
    nf (keep (aLoad false 1 (eget e 102) M)) (some 103) false e C fun e C =>
    nf (oBin cx.P .eql 2 (eget e 99) (eget e 103) M) (some 104) false e C fun e C =>
    nf (oMv (eget e 104)) (some 105) false e C fun e C =>
    nf (aGuard (some ((eget e 105), true)) (oMv (eget e 5))) (some 106) false e C fun e C =>
    nf (aGuard (some ((eget e 105), true)) (keep (aNilCheck (eget e 106) M))) (some 107) false e C fun e C =>
    nf (aGuard (some ((eget e 105), true)) (keep (aFieldAddr 4 1 (eget e 107) M))) (some 108) false e C fun e C =>
    nf (aGuard (some ((eget e 105), true)) (keep (aLoad false 1 (eget e 108) M))) (some 109) false e C fun e C =>
    nf (aGuard (some ((eget e 105), true)) (oBin cx.P .neq 2 (eget e 109) (.int .i64 0) M)) (some 110) false e C fun e C =>
    nf (keep (aPick (eget e 105) (eget e 110) (.bool false))) (some 111) false e C fun e C =>
    nf (oMv (eget e 111)) (some 112) false e C fun e C =>
    nf (aGuard (some ((eget e 112), false)) (oMv (eget e 4))) (some 113) false e C fun e C =>
    nf (aGuard (some ((eget e 112), false)) (oBin cx.P .gtr 3 (eget e 113) (.int .i64 0) M)) (some 114) false e C fun e C =>
    nf (aGuard (some ((eget e 112), false)) (oMv (eget e 114))) (some 115) false e C fun e C =>
    nf (aGuard (some ((eget e 115), true)) (oMv (eget e 5))) (some 116) false e C fun e C =>
    nf (aGuard (some ((eget e 115), true)) (keep (aNilCheck (eget e 116) M))) (some 117) false e C fun e C =>
    nf (aGuard (some ((eget e 115), true)) (keep (aFieldAddr 2 1 (eget e 117) M))) (some 118) false e C fun e C =>
    nf (aGuard (some ((eget e 115), true)) (keep (aLoad false 1 (eget e 118) M))) (some 119) false e C fun e C =>
    nf (aGuard (some ((eget e 115), true)) (oMv (eget e 0))) (some 120) false e C fun e C =>
    nf (aGuard (some ((eget e 115), true)) (keep (aNilCheck (eget e 120) M))) (some 121) false e C fun e C =>
    nf (aGuard (some ((eget e 115), true)) (keep (aFieldAddr 2 1 (eget e 121) M))) (some 122) false e C fun e C =>
    nf (aGuard (some ((eget e 115), true)) (keep (aLoad false 1 (eget e 122) M))) (some 123) false e C fun e C =>
    nf (aGuard (some ((eget e 115), true)) (oMv (eget e 4))) (some 124) false e C fun e C =>
    nf (aGuard (some ((eget e 115), true)) (oBin cx.P .sub 3 (eget e 124) (.int .i64 1) M)) (some 125) false e C fun e C =>
    nf (aGuard (some ((eget e 115), true)) (keep (aIndexS 5 (eget e 123) (eget e 125) M))) (some 126) false e C fun e C =>
    nf (aGuard (some ((eget e 115), true)) (keep (aFieldAddr 2 1 (eget e 126) M))) (some 127) false e C fun e C =>
    nf (aGuard (some ((eget e 115), true)) (keep (aLoad false 1 (eget e 127) M))) (some 128) false e C fun e C =>
    nf (aGuard (some ((eget e 115), true)) (oBin cx.P .lss 2 (eget e 119) (eget e 128) M)) (some 129) false e C fun e C =>
    nf (aGuard (some ((eget e 112), false)) (keep (aPick (eget e 115) (eget e 129) (.bool false)))) (some 130) false e C fun e C =>
    nf (keep (aPick (eget e 112) (.bool true) (eget e 130))) (some 131) false e C fun e C =>
    some (e, C)) (fun (e : Env) (M : Mem) =>
    some (e, M)) M
noncomputable def f55_r11 (call : CallF) : Env → Mem → Option (Env × Mem) := fun e M =>
    (nx (oMv (.bool false)) (some 2) e M fun e M =>
    some (e, M)).map fun q => (prune [2] q.1, q.2)
noncomputable def f55_r12 (call : CallF) : Env → Mem → Option (Env × Mem) := fun e M =>
    (nx (oMv (.bool true)) (some 2) e M fun e M =>
    some (e, M)).map fun q => (prune [2] q.1, q.2)
noncomputable def f55_l5 (call : CallF) (k : Nat) : St :=
  (bSeq (bSeq (bReg (f55_r5 call))
  (bCond (.tmp 39)
   (bEx .nrm)
   (bEx (.ext 0))))
  (bSeq (bBlock 1 (bSeq (bReg (f55_r7 call))
   (bSeq (bSeq (bReg (f55_r8 call))
   (bCond (.tmp 95)
    (bSeq (bReg (f55_r9 call))
    (bEx .ret))
    (bEx .nrm)))
   (bSeq (bReg (f55_r10 call))
   (bCond (.tmp 131)
    (bSeq (bReg (f55_r11 call))
    (bEx .ret))
    (bEx .nrm))))))
  (bReg (f55_r6 call))))
noncomputable def f55 (call : CallF) (k : Nat) : St :=
  (bSeq (bReg (f55_r0 call))
  (bSeq (bSeq (bReg (f55_r1 call))
  (bCond (.tmp 27)
   (bSeq (bReg (f55_r2 call))
   (bEx .ret))
   (bEx .nrm)))
  (bSeq (bReg (f55_r3 call))
  (bSeq (bSeq (bReg (f55_r4 call))
  (bBlock 0 (bLoop [0, 3, 4] (f55_l5 call k) k)))
  (bSeq (bReg (f55_r12 call))
  (bEx .ret))))))
theorem f55_eq (call : CallF) (k : Nat) : exec cx call 132 f55_an k (Try.f55.body.getD .skip) = f55 call k := by kernel_rfl
/-! ### f56: loop.example/g01263/spec.l02Person -/
def f56_an : Ann := ⟨[(0, ⟨[], [], [], [], [0, 1]⟩), (1, ⟨[], [], [], [], [4]⟩)], []⟩
noncomputable def f56_r0 (call : CallF) : Env → Mem → Option (Env × Mem) := fun e M =>
    (nx (oMv (.bool false)) (some 4) e M fun e M =>
    some (e, M)).map fun q => (prune [0, 1] q.1, q.2)
noncomputable def f56_r1 (call : CallF) : Env → Mem → Option (Env × Mem) := fun e M =>
    (nx (oMv (eget e 1)) (some 5) e M fun e M =>
    nx (oMv (eget e 0)) (some 6) e M fun e M =>
    nx (oBin cx.P .sub 2 (eget e 6) (.int .i64 1) M) (some 7) e M fun e M =>
    nx (aCall cx.P.cellsOf cx.rw call false M.length 65 [(eget e 5), (.int .i64 0), (eget e 7)] M) (some 8) e M fun e M =>
    nx (oMv (eget e 8)) (some 4) e M fun e M =>
    some (e, M)).map fun q => (prune [4] q.1, q.2)
noncomputable def f56 (call : CallF) (k : Nat) : St :=
  (bSeq (bReg (f56_r0 call))
  (bSeq (bReg (f56_r1 call))
  (bEx .ret)))
theorem f56_eq (call : CallF) (k : Nat) : exec cx call 9 f56_an k (Try.f56.body.getD .skip) = f56 call k := by kernel_rfl
/-! ### f57: loop.example/g01263/laws.toTally -/
def f57_an : Ann := ⟨[(0, ⟨[], [], [], [], [1, 2]⟩), (1, ⟨[], [], [], [], [1, 2, 3]⟩), (2, ⟨[], [], [], [], [1, 2, 3]⟩), (3, ⟨[], [], [], [], [1, 2, 3]⟩), (4, ⟨[], [], [], [], [1, 2, 3]⟩), (5, ⟨[], [], [], [], [1, 2, 3]⟩), (6, ⟨[], [], [], [], [2, 3]⟩), (7, ⟨[], [], [], [], [2]⟩)], []⟩
noncomputable def f57_r0 (call : CallF) : Env → Mem → Option (Env × Mem) := fun e M =>
    (nx (keep (aBox 5 (eget e 0) M)) (some 1) e M fun e M =>
    nx (oAlloc cx.P M.length 78 5) (some 2) e M fun e M =>
    some (e, M)).map fun q => (prune [1, 2] q.1, q.2)
noncomputable def f57_r1 (call : CallF) : Env → Mem → Option (Env × Mem) := fun e M =>
    (nx (oAlloc cx.P M.length 78 5) (some 3) e M fun e M =>
    some (e, M)).map fun q => (prune [1, 2, 3] q.1, q.2)
noncomputable def f57_r2 (call : CallF) : Env → Mem → Option (Env × Mem) := fun e M =>
    (nx (keep (aFieldAddr 0 1 (eget e 1) M)) (some 4) e M fun e M =>
    nx (keep (aLoad false 1 (eget e 4) M)) (some 5) e M fun e M =>
    nx (keep (aFieldAddr 0 1 (eget e 3) M)) (some 6) e M fun e M =>
    nx (oStore 1 (eget e 6) (eget e 5) M) none e M fun e M =>
    some (e, M)).map fun q => (prune [1, 2, 3] q.1, q.2)
noncomputable def f57_r3 (call : CallF) : Env → Mem → Option (Env × Mem) := fun e M =>
    (nx (keep (aFieldAddr 1 1 (eget e 1) M)) (some 7) e M fun e M =>
    nx (keep (aLoad false 1 (eget e 7) M)) (some 8) e M fun e M =>
    nx (keep (aFieldAddr 1 1 (eget e 3) M)) (some 9) e M fun e M =>
    nx (oStore 1 (eget e 9) (eget e 8) M) none e M fun e M =>
    some (e, M)).map fun q => (prune [1, 2, 3] q.1, q.2)
noncomputable def f57_r4 (call : CallF) : Env → Mem → Option (Env × Mem) := fun e M =>
    (nx (keep (aFieldAddr 2 1 (eget e 1) M)) (some 10) e M fun e M =>
    nx (keep (aLoad false 1 (eget e 10) M)) (some 11) e M fun e M =>
    nx (keep (aFieldAddr 2 1 (eget e 3) M)) (some 12) e M fun e M =>
    nx (oStore 1 (eget e 12) (eget e 11) M) none e M fun e M =>
    some (e, M)).map fun q => (prune [1, 2, 3] q.1, q.2)
noncomputable def f57_r5 (call : CallF) : Env → Mem → Option (Env × Mem) := fun e M =>
    (nx (keep (aFieldAddr 3 1 (eget e 1) M)) (some 13) e M fun e M =>
    nx (keep (aLoad false 1 (eget e 13) M)) (some 14) e M fun e M =>
    nx (keep (aFieldAddr 3 1 (eget e 3) M)) (some 15) e M fun e M =>
    nx (oStore 1 (eget e 15) (eget e 14) M) none e M fun e M =>
    some (e, M)).map fun q => (prune [1, 2, 3] q.1, q.2)
noncomputable def f57_r6 (call : CallF) : Env → Mem → Option (Env × Mem) := fun e M =>
    (nx (keep (aFieldAddr 4 1 (eget e 1) M)) (some 16) e M fun e M =>
    nx (keep (aLoad false 1 (eget e 16) M)) (some 17) e M fun e M =>
    nx (keep (aFieldAddr 4 1 (eget e 3) M)) (some 18) e M fun e M =>
    nx (oStore 1 (eget e 18) (eget e 17) M) none e M fun e M =>
    some (e, M)).map fun q => (prune [2, 3] q.1, q.2)
noncomputable def f57_r7 (call : CallF) : Env → Mem → Option (Env × Mem) := fun e M =>
    (nx (keep (aLoad true 5 (eget e 3) M)) (some 19) e M fun e M =>
    nx (oStore 5 (eget e 2) (eget e 19) M) none e M fun e M =>
    some (e, M)).map fun q => (prune [2] q.1, q.2)
noncomputable def f57 (call : CallF) (k : Nat) : St :=
  (bSeq (bReg (f57_r0 call))
  (bSeq (bReg (f57_r1 call))
  (bSeq (bReg (f57_r2 call))
  (bSeq (bReg (f57_r3 call))
  (bSeq (bReg (f57_r4 call))
  (bSeq (bReg (f57_r5 call))
  (bSeq (bReg (f57_r6 call))
  (bSeq (bReg (f57_r7 call))
  (bEx .ret)))))))))
theorem f57_eq (call : CallF) (k : Nat) : exec cx call 20 f57_an k (Try.f57.body.getD .skip) = f57 call k := by kernel_rfl
/-! ### f58: loop.example/g01263/impl.ValidBook -/
def f58_an : Ann := ⟨[(0, ⟨[], [], [], [], [1]⟩), (1, ⟨[], [], [], [], [1, 3]⟩), (2, ⟨[], [], [], [], [1, 3, 29]⟩), (3, ⟨[], [], [], [], [2]⟩), (4, ⟨[], [], [], [], [1, 3, 31, 32, 33]⟩), (5, ⟨[], [], [], [], [1, 3, 31, 32, 33, 34]⟩), (6, ⟨[], [], [], [], [1, 3, 5, 31, 32, 33]⟩), (7, ⟨[], [], [], [], [1, 3, 31, 32, 33, 39]⟩), (8, ⟨[], [], [], [], [2]⟩), (9, ⟨[], [], [], [], [1, 3, 31, 32, 33]⟩), (10, ⟨[], [], [], [], [1, 3, 6]⟩), (11, ⟨[], [], [], [], [1, 3, 6, 42, 43, 44]⟩), (12, ⟨[], [], [], [], [1, 3, 6, 42, 43, 44, 45]⟩), (13, ⟨[], [], [], [], [1, 3, 6, 8, 42, 43, 44]⟩), (14, ⟨[], [], [], [], [1, 3, 8, 42, 43, 44, 102]⟩), (15, ⟨[], [], [], [], [2]⟩), (16, ⟨[], [], [], [], [1, 3, 6, 42, 43, 44]⟩), (17, ⟨[], [], [], [], [1, 3, 6, 42, 43, 44]⟩), (18, ⟨[], [], [], [], [2]⟩)], [(5, [1, 3, 31, 32, 33]), (12, [1, 3, 6, 42, 43, 44])]⟩
noncomputable def f58_r0 (call : CallF) : Env → Mem → Option (Env × Mem) := fun e M =>
    (nx (keep (aBox 3 (eget e 0) M)) (some 1) e M fun e M =>
    nx (oMv (.bool false)) (some 2) e M fun e M =>
    some (e, M)).map fun q => (prune [1] q.1, q.2)
noncomputable def f58_r1 (call : CallF) : Env → Mem → Option (Env × Mem) := fun e M =>
    (nx (keep (aFieldAddr 1 1 (eget e 1) M)) (some 9) e M fun e M =>
    nx (keep (aLoad false 1 (eget e 9) M)) (some 10) e M fun e M =>
    nx (oLen cx.P 22 (eget e 10) M) (some 11) e M fun e M =>
    nx (oMv (eget e 11)) (some 3) e M fun e M =>
    some (e, M)).map fun q => (prune [1, 3] q.1, q.2)
noncomputable def f58_r2 (call : CallF) : Env → Mem → Option (Env × Mem) := fun e M =>
    (nx (keep (aFieldAddr 0 1 (eget e 1) M)) (some 12) e M fun e M =>
    nx (keep (aLoad false 1 (eget e 12) M)) (some 13) e M fun e M =>
    nx (aCall cx.P.cellsOf cx.rw call false M.length 83 [(eget e 13)] M) (some 14) e M fun e M =>
    nx (keep (aUn .not (eget e 14))) (some 15) e M fun e M =>
    nx (oMv (eget e 15)) (some 16) e M fun e M =>
    nx (aGuard (some ((eget e 16), false)) (oMv (eget e 3))) (some 17) e M fun e M =>
    nx (aGuard (some ((eget e 16), false)) (oBin cx.P .lss 2 (eget e 17) (.int .i64 1) M)) (some 18) e M fun e M =>
    nx (keep (aPick (eget e 16) (.bool true) (eget e 18))) (some 19) e M fun e M =>
    nx (oMv (eget e 19)) (some 20) e M fun e M =>
    nx (aGuard (some ((eget e 20), false)) (oMv (eget e 3))) (some 21) e M fun e M =>
    nx (aGuard (some ((eget e 20), false)) (oBin cx.P .gtr 2 (eget e 21) (.int .i64 16) M)) (some 22) e M fun e M =>
    nx (keep (aPick (eget e 20) (.bool true) (eget e 22))) (some 23) e M fun e M =>
    nx (oMv (eget e 23)) (some 24) e M fun e M =>
    nx (aGuard (some ((eget e 24), false)) (keep (aFieldAddr 2 1 (eget e 1) M))) (some 25) e M fun e M =>
    nx (aGuard (some ((eget e 24), false)) (keep (aLoad false 1 (eget e 25) M))) (some 26) e M fun e M =>
    nx (aGuard (some ((eget e 24), false)) (oLen cx.P 29 (eget e 26) M)) (some 27) e M fun e M =>
    nx (aGuard (some ((eget e 24), false)) (oBin cx.P .gtr 3 (eget e 27) (.int .i64 40) M)) (some 28) e M fun e M =>
    nx (keep (aPick (eget e 24) (.bool true) (eget e 28))) (some 29) e M fun e M =>
    some (e, M)).map fun q => (prune [1, 3, 29] q.1, q.2)
noncomputable def f58_r3 (call : CallF) : Env → Mem → Option (Env × Mem) := fun e M =>
    (nx (oMv (.bool false)) (some 2) e M fun e M =>
    some (e, M)).map fun q => (prune [2] q.1, q.2)
noncomputable def f58_r4 (call : CallF) : Env → Mem → Option (Env × Mem) := fun e M =>
    (nx (keep (aFieldAddr 1 1 (eget e 1) M)) (some 30) e M fun e M =>
    nx (keep (aLoad false 1 (eget e 30) M)) (some 31) e M fun e M =>
    nx (oLen cx.P 22 (eget e 31) M) (some 32) e M fun e M =>
    nx (oMv (.int .i64 0)) (some 33) e M fun e M =>
    some (e, M)).map fun q => (prune [1, 3, 31, 32, 33] q.1, q.2)
noncomputable def f58_r5 (call : CallF) : Env → Mem → Option (Env × Mem) := fun e M =>
    (nx (oBin cx.P .lss 3 (eget e 33) (eget e 32) M) (some 34) e M fun e M =>
    some (e, M)).map fun q => (prune [1, 3, 31, 32, 33, 34] q.1, q.2)
noncomputable def f58_r6 (call : CallF) : Env → Mem → Option (Env × Mem) := fun e M =>
    (nx (keep (aIndexS 1 (eget e 31) (eget e 33) M)) (some 35) e M fun e M =>
    nx (keep (aLoad false 1 (eget e 35) M)) (some 36) e M fun e M =>
    nx (oMv (eget e 36)) (some 5) e M fun e M =>
    some (e, M)).map fun q => (prune [1, 3, 5, 31, 32, 33] q.1, q.2)
noncomputable def f58_r7 (call : CallF) : Env → Mem → Option (Env × Mem) := fun e M =>
    (nx (oMv (eget e 5)) (some 37) e M fun e M =>
    nx (aCall cx.P.cellsOf cx.rw call false M.length 84 [(eget e 37)] M) (some 38) e M fun e M =>
    nx (keep (aUn .not (eget e 38))) (some 39) e M fun e M =>
    some (e, M)).map fun q => (prune [1, 3, 31, 32, 33, 39] q.1, q.2)
noncomputable def f58_r8 (call : CallF) : Env → Mem → Option (Env × Mem) := fun e M =>
    (nx (oMv (.bool false)) (some 2) e M fun e M =>
    some (e, M)).map fun q => (prune [2] q.1, q.2)
noncomputable def f58_r9 (call : CallF) : Env → Mem → Option (Env × Mem) := fun e M =>
    (nx (oBin cx.P .add 3 (eget e 33) (.int .i64 1) M) (some 40) e M fun e M =>
    nx (oMv (eget e 40)) (some 33) e M fun e M =>
    some (e, M)).map fun q => (prune [1, 3, 31, 32, 33] q.1, q.2)
noncomputable def f58_r10 (call : CallF) : Env → Mem → Option (Env × Mem) := fun e M =>
    (nx (oMv (.int .i64 0)) (some 6) e M fun e M =>
    some (e, M)).map fun q => (prune [1, 3, 6] q.1, q.2)
noncomputable def f58_r11 (call : CallF) : Env → Mem → Option (Env × Mem) := fun e M =>
    (nx (keep (aFieldAddr 2 1 (eget e 1) M)) (some 41) e M fun e M =>
    nx (keep (aLoad false 1 (eget e 41) M)) (some 42) e M fun e M =>
    nx (oLen cx.P 29 (eget e 42) M) (some 43) e M fun e M =>
    nx (oMv (.int .i64 0)) (some 44) e M fun e M =>
    some (e, M)).map fun q => (prune [1, 3, 6, 42, 43, 44] q.1, q.2)
noncomputable def f58_r12 (call : CallF) : Env → Mem → Option (Env × Mem) := fun e M =>
    (nx (oBin cx.P .lss 3 (eget e 44) (eget e 43) M) (some 45) e M fun e M =>
    some (e, M)).map fun q => (prune [1, 3, 6, 42, 43, 44, 45] q.1, q.2)
noncomputable def f58_r13 (call : CallF) : Env → Mem → Option (Env × Mem) := fun e M =>
    (nx (keep (aIndexS 5 (eget e 42) (eget e 44) M)) (some 46) e M fun e M =>
    nx (keep (aLoad true 5 (eget e 46) M)) (some 47) e M fun e M =>
    nx (oAlloc cx.P M.length 78 5) (some 8) e M fun e M =>
    nx (oStore 5 (eget e 8) (eget e 47) M) none e M fun e M =>
    some (e, M)).map fun q => (prune [1, 3, 6, 8, 42, 43, 44] q.1, q.2)
noncomputable def f58_r14 (call : CallF) : Env → Mem → Option (Env × Mem) := fun e M =>
    (nx (oMv (eget e 3)) (some 48) e M fun e M =>
    nx (keep (aFieldAddr 0 1 (eget e 8) M)) (some 49) e M fun e M =>
    nx (keep (aLoad false 1 (eget e 49) M)) (some 50) e M fun e M =>
    nx (keep (aFieldAddr 1 1 (eget e 8) M)) (some 51) e M fun e M =>
    nx (keep (aLoad false 1 (eget e 51) M)) (some 52) e M fun e M =>
    nx (keep (aLitI 2 1 [(eget e 50), (eget e 52)] M)) (some 53) e M fun e M =>
    nx (aCall cx.P.cellsOf cx.rw call false M.length 59 [(eget e 48), (eget e 53)] M) (some 54) e M fun e M =>
    nx (keep (aUn .not (eget e 54))) (some 55) e M fun e M =>
    nx (oMv (eget e 55)) (some 56) e M fun e M =>
    nx (aGuard (some ((eget e 56), false)) (keep (aFieldAddr 2 1 (eget e 8) M))) (some 57) e M fun e M =>
    nx (aGuard (some ((eget e 56), false)) (keep (aLoad false 1 (eget e 57) M))) (some 58) e M fun e M =>
    nx (aGuard (some ((eget e 56), false)) (oMv (eget e 6))) (some 59) e M fun e M =>
    nx (aGuard (some ((eget e 56), false)) (oBin cx.P .lss 2 (eget e 58) (eget e 59) M)) (some 60) e M fun e M =>
    nx (keep (aPick (eget e 56) (.bool true) (eget e 60))) (some 61) e M fun e M =>
    nx (oMv (eget e 61)) (some 62) e M fun e M =>
    nx (aGuard (some ((eget e 62), false)) (keep (aFieldAddr 2 1 (eget e 8) M))) (some 63) e M fun e M =>
    nx (aGuard (some ((eget e 62), false)) (keep (aLoad false 1 (eget e 63) M))) (some 64) e M fun e M =>
    nx (aGuard (some ((eget e 62), false)) (keep (aFieldAddr 0 1 (eget e 1) M))) (some 65) e M fun e M =>
    nx (aGuard (some ((eget e 62), false)) (keep (aLoad false 1 (eget e 65) M))) (some 66) e M fun e M =>
    nx (aGuard (some ((eget e 62), false)) (oBin cx.P .gtr 2 (eget e 64) (eget e 66) M)) (some 67) e M fun e M =>
    nx (keep (aPick (eget e 62) (.bool true) (eget e 67))) (some 68) e M fun e M =>
    nx (oMv (eget e 68)) (some 69) e M fun e M =>
    nx (aGuard (some ((eget e 69), false)) (keep (aFieldAddr 3 1 (eget e 8) M))) (some 70) e M fun e M =>
    nx (aGuard (some ((eget e 69), false)) (keep (aLoad false 1 (eget e 70) M))) (some 71) e M fun e M =>
    nx (aGuard (some ((eget e 69), false)) (oBin cx.P .lss 2 (eget e 71) (.int .i64 1) M)) (some 72) e M fun e M =>
    nx (keep (aPick (eget e 69) (.bool true) (eget e 72))) (some 73) e M fun e M =>
    nx (oMv (eget e 73)) (some 74) e M fun e M =>
    nx (aGuard (some ((eget e 74), false)) (keep (aFieldAddr 3 1 (eget e 8) M))) (some 75) e M fun e M =>
    nx (aGuard (some ((eget e 74), false)) (keep (aLoad false 1 (eget e 75) M))) (some 76) e M fun e M =>
    nx (aGuard (some ((eget e 74), false)) (oBin cx.P .gtr 2 (eget e 76) (.int .i64 100000000) M)) (some 77) e M fun e M =>
    nx (keep (aPick (eget e 74) (.bool true) (eget e 77))) (some 78) e M fun e M =>
    nx (oMv (eget e 78)) (some 79) e M fun e M =>
    nx (aGuard (some ((eget e 79), false)) (keep (aFieldAddr 4 1 (eget e 8) M))) (some 80) e M fun e M =>
    nx (aGuard (some ((eget e 79), false)) (keep (aLoad false 1 (eget e 80) M))) (some 81) e M fun e M =>
    nx (aGuard (some ((eget e 79), false)) (oBin cx.P .lss 2 (eget e 81) (.int .i64 0) M)) (some 82) e M fun e M =>
    nx (keep (aPick (eget e 79) (.bool true) (eget e 82))) (some 83) e M fun e M =>
    nx (oMv (eget e 83)) (some 84) e M fun e M =>
    nx (aGuard (some ((eget e 84), false)) (keep (aFieldAddr 4 1 (eget e 8) M))) (some 85) e M fun e M =>
    nx (aGuard (some ((eget e 84), false)) (keep (aLoad false 1 (eget e 85) M))) (some 86) e M fun e M =>
    nx (aGuard (some ((eget e 84), false)) (keep (aFieldAddr 3 1 (eget e 8) M))) (some 87) e M fun e M =>
    nx (aGuard (some ((eget e 84), false)) (keep (aLoad false 1 (eget e 87) M))) (some 88) e M fun e M =>
    nx (aGuard (some ((eget e 84), false)) (oBin cx.P .gtr 2 (eget e 86) (eget e 88) M)) (some 89) e M fun e M =>
    nx (keep (aPick (eget e 84) (.bool true) (eget e 89))) (some 90) e M fun e M =>
    nx (oMv (eget e 90)) (some 91) e M fun e M =>
    nx (aGuard (some ((eget e 91), false)) (keep (aFieldAddr 0 1 (eget e 8) M))) (some 92) e M fun e M =>
    nx (aGuard (some ((eget e 91), false)) (keep (aLoad false 1 (eget e 92) M))) (some 93) e M fun e M =>
    nx (aGuard (some ((eget e 91), false)) (keep (aFieldAddr 1 1 (eget e 8) M))) (some 94) e M fun e M =>
    nx (aGuard (some ((eget e 91), false)) (keep (aLoad false 1 (eget e 94) M))) (some 95) e M fun e M =>
    nx (aGuard (some ((eget e 91), false)) (oBin cx.P .eql 2 (eget e 93) (eget e 95) M)) (some 96) e M fun e M =>
    nx (aGuard (some ((eget e 91), false)) (oMv (eget e 96))) (some 97) e M fun e M =>
    nx (aGuard (some ((eget e 97), true)) (keep (aFieldAddr 4 1 (eget e 8) M))) (some 98) e M fun e M =>
    nx (aGuard (some ((eget e 97), true)) (keep (aLoad false 1 (eget e 98) M))) (some 99) e M fun e M =>
    nx (aGuard (some ((eget e 97), true)) (oBin cx.P .neq 2 (eget e 99) (.int .i64 0) M)) (some 100) e M fun e M =>
    nx (aGuard (some ((eget e 91), false)) (keep (aPick (eget e 97) (eget e 100) (.bool false)))) (some 101) e M fun e M =>
    nx (keep (aPick (eget e 91) (.bool true) (eget e 101))) (some 102) e M fun e M =>
    some (e, M)).map fun q => (prune [1, 3, 8, 42, 43, 44, 102] q.1, q.2)
noncomputable def f58_r15 (call : CallF) : Env → Mem → Option (Env × Mem) := fun e M =>
    (nx (oMv (.bool false)) (some 2) e M fun e M =>
    some (e, M)).map fun q => (prune [2] q.1, q.2)
noncomputable def f58_r16 (call : CallF) : Env → Mem → Option (Env × Mem) := fun e M =>
    (nx (keep (aFieldAddr 2 1 (eget e 8) M)) (some 103) e M fun e M =>
    nx (keep (aLoad false 1 (eget e 103) M)) (some 104) e M fun e M =>
    nx (oMv (eget e 104)) (some 6) e M fun e M =>
    some (e, M)).map fun q => (prune [1, 3, 6, 42, 43, 44] q.1, q.2)
noncomputable def f58_r17 (call : CallF) : Env → Mem → Option (Env × Mem) := fun e M =>
    (nx (oBin cx.P .add 3 (eget e 44) (.int .i64 1) M) (some 105) e M fun e M =>
    nx (oMv (eget e 105)) (some 44) e M fun e M =>
    some (e, M)).map fun q => (prune [1, 3, 6, 42, 43, 44] q.1, q.2)
noncomputable def f58_r18 (call : CallF) : Env → Mem → Option (Env × Mem) := fun e M =>
    (nx (oMv (.bool true)) (some 2) e M fun e M =>
    some (e, M)).map fun q => (prune [2] q.1, q.2)
noncomputable def f58_l5 (call : CallF) (k : Nat) : St :=
  (bSeq (bReg (f58_r5 call))
  (bSeq (bCond (.tmp 34)
   (bEx .nrm)
   (bEx (.ext 0)))
  (bSeq (bBlock 1 (bSeq (bReg (f58_r6 call))
   (bSeq (bReg (f58_r7 call))
   (bCond (.tmp 39)
    (bSeq (bReg (f58_r8 call))
    (bEx .ret))
    (bEx .nrm)))))
  (bReg (f58_r9 call)))))
noncomputable def f58_l12 (call : CallF) (k : Nat) : St :=
  (bSeq (bReg (f58_r12 call))
  (bSeq (bCond (.tmp 45)
   (bEx .nrm)
   (bEx (.ext 2)))
  (bSeq (bBlock 3 (bSeq (bReg (f58_r13 call))
   (bSeq (bSeq (bReg (f58_r14 call))
   (bCond (.tmp 102)
    (bSeq (bReg (f58_r15 call))
    (bEx .ret))
    (bEx .nrm)))
   (bReg (f58_r16 call)))))
  (bReg (f58_r17 call)))))
noncomputable def f58 (call : CallF) (k : Nat) : St :=
  (bSeq (bReg (f58_r0 call))
  (bSeq (bReg (f58_r1 call))
  (bSeq (bSeq (bReg (f58_r2 call))
  (bCond (.tmp 29)
   (bSeq (bReg (f58_r3 call))
   (bEx .ret))
   (bEx .nrm)))
  (bSeq (bSeq (bReg (f58_r4 call))
  (bBlock 0 (bLoop [1, 3, 31, 32, 33] (f58_l5 call k) k)))
  (bSeq (bReg (f58_r10 call))
  (bSeq (bSeq (bReg (f58_r11 call))
  (bBlock 2 (bLoop [1, 3, 6, 42, 43, 44] (f58_l12 call k) k)))
  (bSeq (bReg (f58_r18 call))
  (bEx .ret))))))))
theorem f58_eq (call : CallF) (k : Nat) : exec cx call 106 f58_an k (Try.f58.body.getD .skip) = f58 call k := by kernel_rfl
/-! ### f59: loop.example/g01263/impl.arePeople -/
def f59_an : Ann := ⟨[(0, ⟨[], [], [], [], [0, 1]⟩), (1, ⟨[], [], [], [], [0, 7, 8, 9]⟩), (2, ⟨[], [], [], [], [0, 7, 8, 9, 10]⟩), (3, ⟨[], [], [], [], [0, 6, 7, 8, 9]⟩), (4, ⟨[], [], [], [], [0, 7, 8, 9, 19]⟩), (5, ⟨[], [], [], [], [4]⟩), (6, ⟨[], [], [], [], [0, 7, 8, 9]⟩), (7, ⟨[], [], [], [], [4]⟩)], [(2, [0, 7, 8, 9])]⟩
noncomputable def f59_r0 (call : CallF) : Env → Mem → Option (Env × Mem) := fun e M =>
    (nx (oMv (.bool false)) (some 4) e M fun e M =>
    some (e, M)).map fun q => (prune [0, 1] q.1, q.2)
noncomputable def f59_r1 (call : CallF) : Env → Mem → Option (Env × Mem) := fun e M =>
    (nx (oMv (eget e 1)) (some 7) e M fun e M =>
    nx (oLen cx.P 22 (eget e 7) M) (some 8) e M fun e M =>
    nx (oMv (.int .i64 0)) (some 9) e M fun e M =>
    some (e, M)).map fun q => (prune [0, 7, 8, 9] q.1, q.2)
noncomputable def f59_r2 (call : CallF) : Env → Mem → Option (Env × Mem) := fun e M =>
    (nx (oBin cx.P .lss 3 (eget e 9) (eget e 8) M) (some 10) e M fun e M =>
    some (e, M)).map fun q => (prune [0, 7, 8, 9, 10] q.1, q.2)
noncomputable def f59_r3 (call : CallF) : Env → Mem → Option (Env × Mem) := fun e M =>
    (nx (keep (aIndexS 1 (eget e 7) (eget e 9) M)) (some 11) e M fun e M =>
    nx (keep (aLoad false 1 (eget e 11) M)) (some 12) e M fun e M =>
    nx (oMv (eget e 12)) (some 6) e M fun e M =>
    some (e, M)).map fun q => (prune [0, 6, 7, 8, 9] q.1, q.2)
noncomputable def f59_r4 (call : CallF) : Env → Mem → Option (Env × Mem) := fun e M =>
    (nx (oMv (eget e 6)) (some 13) e M fun e M =>
    nx (oBin cx.P .lss 2 (eget e 13) (.int .i64 0) M) (some 14) e M fun e M =>
    nx (oMv (eget e 14)) (some 15) e M fun e M =>
    nx (aGuard (some ((eget e 15), false)) (oMv (eget e 6))) (some 16) e M fun e M =>
    nx (aGuard (some ((eget e 15), false)) (oMv (eget e 0))) (some 17) e M fun e M =>
    nx (aGuard (some ((eget e 15), false)) (oBin cx.P .geq 2 (eget e 16) (eget e 17) M)) (some 18) e M fun e M =>
    nx (keep (aPick (eget e 15) (.bool true) (eget e 18))) (some 19) e M fun e M =>
    some (e, M)).map fun q => (prune [0, 7, 8, 9, 19] q.1, q.2)
noncomputable def f59_r5 (call : CallF) : Env → Mem → Option (Env × Mem) := fun e M =>
    (nx (oMv (.bool false)) (some 4) e M fun e M =>
    some (e, M)).map fun q => (prune [4] q.1, q.2)
noncomputable def f59_r6 (call : CallF) : Env → Mem → Option (Env × Mem) := fun e M =>
    (nx (oBin cx.P .add 3 (eget e 9) (.int .i64 1) M) (some 20) e M fun e M =>
    nx (oMv (eget e 20)) (some 9) e M fun e M =>
    some (e, M)).map fun q => (prune [0, 7, 8, 9] q.1, q.2)
noncomputable def f59_r7 (call : CallF) : Env → Mem → Option (Env × Mem) := fun e M =>
    (nx (oMv (.bool true)) (some 4) e M fun e M =>
    some (e, M)).map fun q => (prune [4] q.1, q.2)
noncomputable def f59_l2 (call : CallF) (k : Nat) : St :=
  (bSeq (bReg (f59_r2 call))
  (bSeq (bCond (.tmp 10)
   (bEx .nrm)
   (bEx (.ext 0)))
  (bSeq (bBlock 1 (bSeq (bReg (f59_r3 call))
   (bSeq (bReg (f59_r4 call))
   (bCond (.tmp 19)
    (bSeq (bReg (f59_r5 call))
    (bEx .ret))
    (bEx .nrm)))))
  (bReg (f59_r6 call)))))
noncomputable def f59 (call : CallF) (k : Nat) : St :=
  (bSeq (bReg (f59_r0 call))
  (bSeq (bSeq (bReg (f59_r1 call))
  (bBlock 0 (bLoop [0, 7, 8, 9] (f59_l2 call k) k)))
  (bSeq (bReg (f59_r7 call))
  (bEx .ret))))
theorem f59_eq (call : CallF) (k : Nat) : exec cx call 21 f59_an k (Try.f59.body.getD .skip) = f59 call k := by kernel_rfl
/-! ### f60: loop.example/g01263/laws.eqTally -/
def f60_an : Ann := ⟨[(0, ⟨[], [], [], [], [2, 3]⟩), (1, ⟨[], [], [], [], [2, 3, 9]⟩), (2, ⟨[], [], [], [], [4]⟩), (3, ⟨[], [], [], [], [2, 3, 14]⟩), (4, ⟨[], [], [], [], [4]⟩), (5, ⟨[], [], [], [], [2, 3, 19]⟩), (6, ⟨[], [], [], [], [4]⟩), (7, ⟨[], [], [], [], [2, 3, 24]⟩), (8, ⟨[], [], [], [], [4]⟩), (9, ⟨[], [], [], [], [29]⟩), (10, ⟨[], [], [], [], [4]⟩), (11, ⟨[], [], [], [], [4]⟩)], []⟩
noncomputable def f60_r0 (call : CallF) : Env → Mem → Option (Env × Mem) := fun e M =>
    (nx (keep (aBox 5 (eget e 0) M)) (some 2) e M fun e M =>
    nx (keep (aBox 5 (eget e 1) M)) (some 3) e M fun e M =>
    nx (oMv (.bool false)) (some 4) e M fun e M =>
    some (e, M)).map fun q => (prune [2, 3] q.1, q.2)
noncomputable def f60_r1 (call : CallF) : Env → Mem → Option (Env × Mem) := fun e M =>
    (nx (keep (aFieldAddr 0 1 (eget e 2) M)) (some 5) e M fun e M =>
    nx (keep (aLoad false 1 (eget e 5) M)) (some 6) e M fun e M =>
    nx (keep (aFieldAddr 0 1 (eget e 3) M)) (some 7) e M fun e M =>
    nx (keep (aLoad false 1 (eget e 7) M)) (some 8) e M fun e M =>
    nx (oBin cx.P .neq 2 (eget e 6) (eget e 8) M) (some 9) e M fun e M =>
    some (e, M)).map fun q => (prune [2, 3, 9] q.1, q.2)
noncomputable def f60_r2 (call : CallF) : Env → Mem → Option (Env × Mem) := fun e M =>
    (nx (oMv (.bool false)) (some 4) e M fun e M =>
    some (e, M)).map fun q => (prune [4] q.1, q.2)
noncomputable def f60_r3 (call : CallF) : Env → Mem → Option (Env × Mem) := fun e M =>
    (nx (keep (aFieldAddr 1 1 (eget e 2) M)) (some 10) e M fun e M =>
    nx (keep (aLoad false 1 (eget e 10) M)) (some 11) e M fun e M =>
    nx (keep (aFieldAddr 1 1 (eget e 3) M)) (some 12) e M fun e M =>
    nx (keep (aLoad false 1 (eget e 12) M)) (some 13) e M fun e M =>
    nx (oBin cx.P .neq 2 (eget e 11) (eget e 13) M) (some 14) e M fun e M =>
    some (e, M)).map fun q => (prune [2, 3, 14] q.1, q.2)
noncomputable def f60_r4 (call : CallF) : Env → Mem → Option (Env × Mem) := fun e M =>
    (nx (oMv (.bool false)) (some 4) e M fun e M =>
    some (e, M)).map fun q => (prune [4] q.1, q.2)
noncomputable def f60_r5 (call : CallF) : Env → Mem → Option (Env × Mem) := fun e M =>
    (nx (keep (aFieldAddr 2 1 (eget e 2) M)) (some 15) e M fun e M =>
    nx (keep (aLoad false 1 (eget e 15) M)) (some 16) e M fun e M =>
    nx (keep (aFieldAddr 2 1 (eget e 3) M)) (some 17) e M fun e M =>
    nx (keep (aLoad false 1 (eget e 17) M)) (some 18) e M fun e M =>
    nx (oBin cx.P .neq 2 (eget e 16) (eget e 18) M) (some 19) e M fun e M =>
    some (e, M)).map fun q => (prune [2, 3, 19] q.1, q.2)
noncomputable def f60_r6 (call : CallF) : Env → Mem → Option (Env × Mem) := fun e M =>
    (nx (oMv (.bool false)) (some 4) e M fun e M =>
    some (e, M)).map fun q => (prune [4] q.1, q.2)
noncomputable def f60_r7 (call : CallF) : Env → Mem → Option (Env × Mem) := fun e M =>
    (nx (keep (aFieldAddr 3 1 (eget e 2) M)) (some 20) e M fun e M =>
    nx (keep (aLoad false 1 (eget e 20) M)) (some 21) e M fun e M =>
    nx (keep (aFieldAddr 3 1 (eget e 3) M)) (some 22) e M fun e M =>
    nx (keep (aLoad false 1 (eget e 22) M)) (some 23) e M fun e M =>
    nx (oBin cx.P .neq 2 (eget e 21) (eget e 23) M) (some 24) e M fun e M =>
    some (e, M)).map fun q => (prune [2, 3, 24] q.1, q.2)
noncomputable def f60_r8 (call : CallF) : Env → Mem → Option (Env × Mem) := fun e M =>
    (nx (oMv (.bool false)) (some 4) e M fun e M =>
    some (e, M)).map fun q => (prune [4] q.1, q.2)
noncomputable def f60_r9 (call : CallF) : Env → Mem → Option (Env × Mem) := fun e M =>
    (nx (keep (aFieldAddr 4 1 (eget e 2) M)) (some 25) e M fun e M =>
    nx (keep (aLoad false 1 (eget e 25) M)) (some 26) e M fun e M =>
    nx (keep (aFieldAddr 4 1 (eget e 3) M)) (some 27) e M fun e M =>
    nx (keep (aLoad false 1 (eget e 27) M)) (some 28) e M fun e M =>
    nx (oBin cx.P .neq 2 (eget e 26) (eget e 28) M) (some 29) e M fun e M =>
    some (e, M)).map fun q => (prune [29] q.1, q.2)
noncomputable def f60_r10 (call : CallF) : Env → Mem → Option (Env × Mem) := fun e M =>
    (nx (oMv (.bool false)) (some 4) e M fun e M =>
    some (e, M)).map fun q => (prune [4] q.1, q.2)
noncomputable def f60_r11 (call : CallF) : Env → Mem → Option (Env × Mem) := fun e M =>
    (nx (oMv (.bool true)) (some 4) e M fun e M =>
    some (e, M)).map fun q => (prune [4] q.1, q.2)
noncomputable def f60 (call : CallF) (k : Nat) : St :=
  (bSeq (bReg (f60_r0 call))
  (bSeq (bSeq (bReg (f60_r1 call))
  (bCond (.tmp 9)
   (bSeq (bReg (f60_r2 call))
   (bEx .ret))
   (bEx .nrm)))
  (bSeq (bSeq (bReg (f60_r3 call))
  (bCond (.tmp 14)
   (bSeq (bReg (f60_r4 call))
   (bEx .ret))
   (bEx .nrm)))
  (bSeq (bSeq (bReg (f60_r5 call))
  (bCond (.tmp 19)
   (bSeq (bReg (f60_r6 call))
   (bEx .ret))
   (bEx .nrm)))
  (bSeq (bSeq (bReg (f60_r7 call))
  (bCond (.tmp 24)
   (bSeq (bReg (f60_r8 call))
   (bEx .ret))
   (bEx .nrm)))
  (bSeq (bSeq (bReg (f60_r9 call))
  (bCond (.tmp 29)
   (bSeq (bReg (f60_r10 call))
   (bEx .ret))
   (bEx .nrm)))
  (bSeq (bReg (f60_r11 call))
  (bEx .ret))))))))
theorem f60_eq (call : CallF) (k : Nat) : exec cx call 30 f60_an k (Try.f60.body.getD .skip) = f60 call k := by kernel_rfl
/-! ### f65: loop.example/g01263/spec.l00In -/
def f65_an : Ann := ⟨[(0, ⟨[], [], [], [], [0, 1, 2]⟩), (1, ⟨[], [], [], [], [6]⟩)], []⟩
noncomputable def f65_r0 (call : CallF) : Env → Mem → Option (Env × Mem) := fun e M =>
    (nx (oMv (.bool false)) (some 6) e M fun e M =>
    some (e, M)).map fun q => (prune [0, 1, 2] q.1, q.2)
noncomputable def f65_r1 (call : CallF) : Env → Mem → Option (Env × Mem) := fun e M =>
    (nx (oMv (eget e 0)) (some 7) e M fun e M =>
    nx (oMv (eget e 1)) (some 8) e M fun e M =>
    nx (oBin cx.P .geq 2 (eget e 7) (eget e 8) M) (some 9) e M fun e M =>
    nx (oMv (eget e 9)) (some 10) e M fun e M =>
    nx (aGuard (some ((eget e 10), true)) (oMv (eget e 0))) (some 11) e M fun e M =>
    nx (aGuard (some ((eget e 10), true)) (oMv (eget e 2))) (some 12) e M fun e M =>
    nx (aGuard (some ((eget e 10), true)) (oBin cx.P .leq 2 (eget e 11) (eget e 12) M)) (some 13) e M fun e M =>
    nx (keep (aPick (eget e 10) (eget e 13) (.bool false))) (some 14) e M fun e M =>
    nx (oMv (eget e 14)) (some 6) e M fun e M =>
    some (e, M)).map fun q => (prune [6] q.1, q.2)
noncomputable def f65 (call : CallF) (k : Nat) : St :=
  (bSeq (bReg (f65_r0 call))
  (bSeq (bReg (f65_r1 call))
  (bEx .ret)))
theorem f65_eq (call : CallF) (k : Nat) : exec cx call 15 f65_an k (Try.f65.body.getD .skip) = f65 call k := by kernel_rfl
/-! ### f81: loop.example/g01263/spec.l07Day -/
def f81_an : Ann := ⟨[(0, ⟨[], [], [], [], [0]⟩), (1, ⟨[], [], [], [], [2]⟩)], []⟩
noncomputable def f81_r0 (call : CallF) : Env → Mem → Option (Env × Mem) := fun e M =>
    (nx (oMv (.bool false)) (some 2) e M fun e M =>
    some (e, M)).map fun q => (prune [0] q.1, q.2)
noncomputable def f81_r1 (call : CallF) : Env → Mem → Option (Env × Mem) := fun e M =>
    (nx (oMv (eget e 0)) (some 3) e M fun e M =>
    nx (aCall cx.P.cellsOf cx.rw call false M.length 65 [(eget e 3), (.int .i64 0), (.int .i64 100000)] M) (some 4) e M fun e M =>
    nx (oMv (eget e 4)) (some 2) e M fun e M =>
    some (e, M)).map fun q => (prune [2] q.1, q.2)
noncomputable def f81 (call : CallF) (k : Nat) : St :=
  (bSeq (bReg (f81_r0 call))
  (bSeq (bReg (f81_r1 call))
  (bEx .ret)))
theorem f81_eq (call : CallF) (k : Nat) : exec cx call 5 f81_an k (Try.f81.body.getD .skip) = f81 call k := by kernel_rfl
/-! ### f82: loop.example/g01263/spec.l07Cash -/
def f82_an : Ann := ⟨[(0, ⟨[], [], [], [], [0]⟩), (1, ⟨[], [], [], [], [0, 3]⟩), (2, ⟨[], [], [], [], [0, 3, 7]⟩), (3, ⟨[], [], [], [], [0, 3]⟩), (4, ⟨[], [], [], [], [0, 3, 15]⟩), (5, ⟨[], [], [], [], [2]⟩), (6, ⟨[], [], [], [], [2]⟩)], [(2, [0, 3])]⟩
noncomputable def f82_r0 (call : CallF) : Env → Mem → Option (Env × Mem) := fun e M =>
    (nx (oMv (.bool false)) (some 2) e M fun e M =>
    some (e, M)).map fun q => (prune [0] q.1, q.2)
noncomputable def f82_r1 (call : CallF) : Env → Mem → Option (Env × Mem) := fun e M =>
    (nx (oMv (.int .i64 0)) (some 3) e M fun e M =>
    some (e, M)).map fun q => (prune [0, 3] q.1, q.2)
noncomputable def f82_r2 (call : CallF) : Env → Mem → Option (Env × Mem) := fun e M =>
    (nx (oMv (eget e 3)) (some 4) e M fun e M =>
    nx (oMv (eget e 0)) (some 5) e M fun e M =>
    nx (oLen cx.P 22 (eget e 5) M) (some 6) e M fun e M =>
    nx (oBin cx.P .lss 3 (eget e 4) (eget e 6) M) (some 7) e M fun e M =>
    some (e, M)).map fun q => (prune [0, 3, 7] q.1, q.2)
noncomputable def f82_r3 (call : CallF) : Env → Mem → Option (Env × Mem) := fun e M =>
    (nx (oMv (eget e 3)) (some 8) e M fun e M =>
    nx (oBin cx.P .add 3 (eget e 8) (.int .i64 1) M) (some 9) e M fun e M =>
    nx (oMv (eget e 9)) (some 3) e M fun e M =>
    some (e, M)).map fun q => (prune [0, 3] q.1, q.2)
noncomputable def f82_r4 (call : CallF) : Env → Mem → Option (Env × Mem) := fun e M =>
    (nx (oMv (eget e 0)) (some 10) e M fun e M =>
    nx (oMv (eget e 3)) (some 11) e M fun e M =>
    nx (keep (aIndexS 1 (eget e 10) (eget e 11) M)) (some 12) e M fun e M =>
    nx (keep (aLoad false 1 (eget e 12) M)) (some 13) e M fun e M =>
    nx (aCall cx.P.cellsOf cx.rw call false M.length 99 [(eget e 13)] M) (some 14) e M fun e M =>
    nx (keep (aUn .not (eget e 14))) (some 15) e M fun e M =>
    some (e, M)).map fun q => (prune [0, 3, 15] q.1, q.2)
noncomputable def f82_r5 (call : CallF) : Env → Mem → Option (Env × Mem) := fun e M =>
    (nx (oMv (.bool false)) (some 2) e M fun e M =>
    some (e, M)).map fun q => (prune [2] q.1, q.2)
noncomputable def f82_r6 (call : CallF) : Env → Mem → Option (Env × Mem) := fun e M =>
    (nx (oMv (eget e 0)) (some 16) e M fun e M =>
    nx (oLen cx.P 22 (eget e 16) M) (some 17) e M fun e M =>
    nx (aCall cx.P.cellsOf cx.rw call false M.length 65 [(eget e 17), (.int .i64 1), (.int .i64 16)] M) (some 18) e M fun e M =>
    nx (oMv (eget e 18)) (some 2) e M fun e M =>
    some (e, M)).map fun q => (prune [2] q.1, q.2)
noncomputable def f82_l2 (call : CallF) (k : Nat) : St :=
  (bSeq (bSeq (bReg (f82_r2 call))
  (bCond (.tmp 7)
   (bEx .nrm)
   (bEx (.ext 0))))
  (bSeq (bBlock 1 (bSeq (bReg (f82_r4 call))
   (bCond (.tmp 15)
    (bSeq (bReg (f82_r5 call))
    (bEx .ret))
    (bEx .nrm))))
  (bReg (f82_r3 call))))
noncomputable def f82 (call : CallF) (k : Nat) : St :=
  (bSeq (bReg (f82_r0 call))
  (bSeq (bSeq (bReg (f82_r1 call))
  (bBlock 0 (bLoop [0, 3] (f82_l2 call k) k)))
  (bSeq (bReg (f82_r6 call))
  (bEx .ret))))
theorem f82_eq (call : CallF) (k : Nat) : exec cx call 19 f82_an k (Try.f82.body.getD .skip) = f82 call k := by kernel_rfl
/-! ### f83: loop.example/g01263/impl.isBookDay -/
def f83_an : Ann := ⟨[(0, ⟨[], [], [], [], [0]⟩), (1, ⟨[], [], [], [], [2]⟩)], []⟩
noncomputable def f83_r0 (call : CallF) : Env → Mem → Option (Env × Mem) := fun e M =>
    (nx (oMv (.bool false)) (some 2) e M fun e M =>
    some (e, M)).map fun q => (prune [0] q.1, q.2)
noncomputable def f83_r1 (call : CallF) : Env → Mem → Option (Env × Mem) := fun e M =>
    (nx (oMv (eget e 0)) (some 3) e M fun e M =>
    nx (oBin cx.P .geq 2 (eget e 3) (.int .i64 0) M) (some 4) e M fun e M =>
    nx (oMv (eget e 4)) (some 5) e M fun e M =>
    nx (aGuard (some ((eget e 5), true)) (oMv (eget e 0))) (some 6) e M fun e M =>
    nx (aGuard (some ((eget e 5), true)) (oBin cx.P .leq 2 (eget e 6) (.int .i64 100000) M)) (some 7) e M fun e M =>
    nx (keep (aPick (eget e 5) (eget e 7) (.bool false))) (some 8) e M fun e M =>
    nx (oMv (eget e 8)) (some 2) e M fun e M =>
    some (e, M)).map fun q => (prune [2] q.1, q.2)
noncomputable def f83 (call : CallF) (k : Nat) : St :=
  (bSeq (bReg (f83_r0 call))
  (bSeq (bReg (f83_r1 call))
  (bEx .ret)))
theorem f83_eq (call : CallF) (k : Nat) : exec cx call 9 f83_an k (Try.f83.body.getD .skip) = f83 call k := by kernel_rfl
/-! ### f84: loop.example/g01263/impl.isAmount -/
def f84_an : Ann := ⟨[(0, ⟨[], [], [], [], [0]⟩), (1, ⟨[], [], [], [], [2]⟩)], []⟩
noncomputable def f84_r0 (call : CallF) : Env → Mem → Option (Env × Mem) := fun e M =>
    (nx (oMv (.bool false)) (some 2) e M fun e M =>
    some (e, M)).map fun q => (prune [0] q.1, q.2)
noncomputable def f84_r1 (call : CallF) : Env → Mem → Option (Env × Mem) := fun e M =>
    (nx (oMv (eget e 0)) (some 3) e M fun e M =>
    nx (oBin cx.P .geq 2 (eget e 3) (.int .i64 0) M) (some 4) e M fun e M =>
    nx (oMv (eget e 4)) (some 5) e M fun e M =>
    nx (aGuard (some ((eget e 5), true)) (oMv (eget e 0))) (some 6) e M fun e M =>
    nx (aGuard (some ((eget e 5), true)) (oBin cx.P .leq 2 (eget e 6) (.int .i64 100000000) M)) (some 7) e M fun e M =>
    nx (keep (aPick (eget e 5) (eget e 7) (.bool false))) (some 8) e M fun e M =>
    nx (oMv (eget e 8)) (some 2) e M fun e M =>
    some (e, M)).map fun q => (prune [2] q.1, q.2)
noncomputable def f84 (call : CallF) (k : Nat) : St :=
  (bSeq (bReg (f84_r0 call))
  (bSeq (bReg (f84_r1 call))
  (bEx .ret)))
theorem f84_eq (call : CallF) (k : Nat) : exec cx call 9 f84_an k (Try.f84.body.getD .skip) = f84 call k := by kernel_rfl
/-! ### f99: loop.example/g01263/spec.l01Amount -/
def f99_an : Ann := ⟨[(0, ⟨[], [], [], [], [0]⟩), (1, ⟨[], [], [], [], [2]⟩)], []⟩
noncomputable def f99_r0 (call : CallF) : Env → Mem → Option (Env × Mem) := fun e M =>
    (nx (oMv (.bool false)) (some 2) e M fun e M =>
    some (e, M)).map fun q => (prune [0] q.1, q.2)
noncomputable def f99_r1 (call : CallF) : Env → Mem → Option (Env × Mem) := fun e M =>
    (nx (oMv (eget e 0)) (some 3) e M fun e M =>
    nx (aCall cx.P.cellsOf cx.rw call false M.length 65 [(eget e 3), (.int .i64 0), (.int .i64 100000000)] M) (some 4) e M fun e M =>
    nx (oMv (eget e 4)) (some 2) e M fun e M =>
    some (e, M)).map fun q => (prune [2] q.1, q.2)
noncomputable def f99 (call : CallF) (k : Nat) : St :=
  (bSeq (bReg (f99_r0 call))
  (bSeq (bReg (f99_r1 call))
  (bEx .ret)))
theorem f99_eq (call : CallF) (k : Nat) : exec cx call 5 f99_an k (Try.f99.body.getD .skip) = f99 call k := by kernel_rfl
def anns : List (Nat × Ann) := [(3, f3_an), (8, f8_an), (9, f9_an), (10, f10_an), (11, f11_an), (12, f12_an), (13, f13_an), (14, f14_an), (15, f15_an), (16, f16_an), (31, f31_an), (32, f32_an), (33, f33_an), (34, f34_an), (35, f35_an), (36, f36_an), (37, f37_an), (38, f38_an), (55, f55_an), (56, f56_an), (57, f57_an), (58, f58_an), (59, f59_an), (60, f60_an), (65, f65_an), (81, f81_an), (82, f82_an), (83, f83_an), (84, f84_an), (99, f99_an)]
noncomputable def CN0 : Nat → CallF := callN cx (Go.Ab.look anns) (fun _ _ _ => none) (fun _ => false)
def isP (f : Nat) : Bool := has [] f
noncomputable def primF : CallF := splitNil (callN cx (Go.Ab.look anns) (fun _ _ _ => none) (fun _ => false) 3)
noncomputable def CN : Nat → CallF := callN cx (Go.Ab.look anns) primF isP
end Go.Proofs.Ytfabokkhdalbeab

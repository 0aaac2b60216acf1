/- Printed by a program of ours (ext.py). -/
import Derived.Test.YtfabokkhdalbeadAbFold
import Derived.Test.YtfabokkhdalbeadProg
set_option linter.unusedVariables false
set_option maxRecDepth 100000
set_option maxHeartbeats 2000000
namespace Go.Proofs.Ytfabokkhdalbead
open Go Go.Ab
noncomputable def cx : Cx := ⟨Try.prog, fun f => has [23, 32, 70] f⟩
/-! ### f4: loop.example/g01263/laws.FnExactDoDeal -/
def f4_an : Ann := ⟨[(0, ⟨[], [], [], [], [2, 3]⟩), (1, ⟨[], [], [], [], [2, 3, 5]⟩), (2, ⟨[], [], [], [], [2, 3, 5]⟩), (3, ⟨[], [], [], [], [2, 3, 20]⟩), (4, ⟨[], [], [], [], [4]⟩), (5, ⟨[], [], [7], [9, 10], [2, 3, 6, 7]⟩), (6, ⟨[], [1], [], [], [2, 3, 6, 7, 8]⟩), (7, ⟨[], [3], [6], [8, 9], [2, 3, 6, 7, 8, 9, 10]⟩), (8, ⟨[], [], [], [], [2, 3, 6, 7, 8, 9, 10, 46]⟩), (9, ⟨[], [], [], [], [4]⟩), (10, ⟨[], [], [], [], [2, 3, 6, 7, 8, 9, 10, 51]⟩), (11, ⟨[], [], [], [], [4]⟩), (12, ⟨[], [], [], [], [2, 3, 6, 7, 8, 9, 10, 11]⟩), (13, ⟨[], [], [], [], [2, 3, 6, 7, 9, 10, 11]⟩), (14, ⟨[], [], [], [], [2, 3, 6, 7, 9, 67]⟩), (15, ⟨[], [], [], [], [4]⟩), (16, ⟨[], [], [], [], [2, 3, 6, 7, 9, 12]⟩), (17, ⟨[], [], [], [], [2, 3, 6, 7, 9, 12]⟩), (18, ⟨[], [], [], [], [2, 3, 6, 7, 9, 12, 13]⟩), (19, ⟨[], [], [], [], [2, 3, 6, 7, 9, 12, 13]⟩), (20, ⟨[], [], [], [], [2, 3, 6, 7, 9, 12, 13, 75]⟩), (21, ⟨[], [], [], [], [4]⟩), (22, ⟨[], [], [], [], [2, 3, 6, 7, 9, 12, 78]⟩), (23, ⟨[], [], [], [], [4]⟩), (24, ⟨[], [], [7], [9, 10], [6, 7, 9, 12, 14, 15]⟩), (25, ⟨[], [], [], [], [9, 12, 95]⟩), (26, ⟨[], [], [], [], [4]⟩), (27, ⟨[], [], [], [], [9, 12, 13]⟩), (28, ⟨[], [], [], [], [12, 13]⟩), (29, ⟨[], [], [], [], [12, 13, 100]⟩), (30, ⟨[], [], [], [], [4]⟩), (31, ⟨[], [], [], [], [103]⟩), (32, ⟨[], [], [], [], [4]⟩), (33, ⟨[], [], [], [], [4]⟩)], []⟩
noncomputable def f4_r0 (call : CallF) : Env → Mem → Option (Env × Mem) := fun e M =>
    (nx (keep (aBox 3 (eget e 0) M)) (some 2) e M fun e M =>
    nx (keep (aBox 6 (eget e 1) M)) (some 3) e M fun e M =>
    nx (oMv (.bool false)) (some 4) e M fun e M =>
    some (e, M)).map fun q => (prune [2, 3] q.1, q.2)
noncomputable def f4_r1 (call : CallF) : Env → Mem → Option (Env × Mem) := fun e M =>
    (nx (oMv (.int .i64 1048576)) (some 5) e M fun e M =>
    some (e, M)).map fun q => (prune [2, 3, 5] q.1, q.2)
noncomputable def f4_r2 (call : CallF) : Env → Mem → Option (Env × Mem) := fun e M =>
    (nx (keep (aLoad true 3 (eget e 2) M)) (some 16) e M fun e M =>
    nx (oMv (eget e 5)) (some 17) e M fun e M =>
    nx (aCall cx.P.cellsOf cx.rw call false M.length 17 [(eget e 16), (eget e 17)] M) (some 18) e M fun e M =>
    nx (oMv (eget e 18)) (some 5) e M fun e M =>
    some (e, M)).map fun q => (prune [2, 3, 5] q.1, q.2)
noncomputable def f4_r3 (call : CallF) : Env → Mem → Option (Env × Mem) := fun e M =>
    (nx (oMv (eget e 5)) (some 19) e M fun e M =>
    nx (oBin cx.P .lss 3 (eget e 19) (.int .i64 0) M) (some 20) e M fun e M =>
    some (e, M)).map fun q => (prune [2, 3, 20] q.1, q.2)
noncomputable def f4_r4 (call : CallF) : Env → Mem → Option (Env × Mem) := fun e M =>
    (nx (oMv (.bool true)) (some 4) e M fun e M =>
    some (e, M)).map fun q => (prune [4] q.1, q.2)
noncomputable def f4_r5 (call : CallF) : Env → Mem → Option (Env × Mem) := fun e M =>
    rD [2, 3, 6, 7] (fun (C : List Ob) =>
    nf (keep (aLoad true 3 (eget e 2) M)) (some 22) false e C fun e C =>
    nf (aCall cx.P.cellsOf cx.rw call false (M.length + C.length) 19 [(eget e 22)] M) (some 23) false e C fun e C =>
    nf (keep (aLoad true 6 (eget e 3) M)) (some 24) false e C fun e C =>
    nf (aCall cx.P.cellsOf cx.rw call false (M.length + C.length) 20 [(eget e 24)] M) (some 25) false e C fun e C =>
    nf (aCall cx.P.cellsOf cx.rw call false (M.length + C.length) 18 [(eget e 23), (eget e 25)] M) (some 26) false e C fun e C =>
    nf (oMv (eget e 26)) (some 21) false e C fun e C =>
    nf (keep (aExtract 0 (eget e 21))) (some 27) false e C fun e C =>
    nf (keep (aExtract 1 (eget e 21))) (some 28) true e C fun e C =>
    nf (oAlloc cx.P (M.length + C.length) 56 3) (some 6) false e C fun e C =>
    some (e, C)) (fun (e : Env) (M : Mem) =>
    nx (oStore 3 (eget e 6) (eget e 27) M) none e M fun e M =>
    nx (oMv (eget e 28)) (some 7) e M fun e M =>
    some (e, M)) M
noncomputable def f4_r6 (call : CallF) : Env → Mem → Option (Env × Mem) := fun e M =>
    (nx (keep (aLoad true 3 (eget e 2) M)) (some 29) e M fun e M =>
    nx (aCall cx.P.cellsOf cx.rw call true M.length 19 [(eget e 29)] M) (some 30) e M fun e M =>
    nx (oAlloc cx.P M.length 56 3) (some 8) e M fun e M =>
    nx (oStore 3 (eget e 8) (eget e 30) M) none e M fun e M =>
    some (e, M)).map fun q => (prune [2, 3, 6, 7, 8] q.1, q.2)
noncomputable def f4_r7 (call : CallF) : Env → Mem → Option (Env × Mem) := fun e M =>
    rD [2, 3, 6, 7, 8, 9, 10] (fun (C : List Ob) =>
    nf (keep (aLoad true 3 (eget e 8) M)) (some 32) false e C fun e C =>
    nf (keep (aLoad true 6 (eget e 3) M)) (some 33) false e C fun e C =>
    nf (aCall cx.P.cellsOf cx.rw call false (M.length + C.length) 20 [(eget e 33)] M) (some 34) false e C fun e C =>
    nf (aCall cx.P.cellsOf cx.rw call true (M.length + C.length) 21 [(eget e 32), (eget e 34)] M) (some 35) false e C fun e C =>
    nf (oMv (eget e 35)) (some 31) false e C fun e C =>
    nf (keep (aExtract 0 (eget e 31))) (some 36) false e C fun e C =>
    nf (keep (aExtract 1 (eget e 31))) (some 37) true e C fun e C =>
    nf (oAlloc cx.P (M.length + C.length) 56 3) (some 9) false e C fun e C =>
    some (e, C)) (fun (e : Env) (M : Mem) =>
    nx (oStore 3 (eget e 9) (eget e 36) M) none e M fun e M =>
    nx (oMv (eget e 37)) (some 10) e M fun e M =>
    some (e, M)) M
noncomputable def f4_r8 (call : CallF) : Env → Mem → Option (Env × Mem) := fun e M =>
    (nx (keep (aLoad true 3 (eget e 9) M)) (some 38) e M fun e M =>
    nx (keep (aLoad true 3 (eget e 6) M)) (some 39) e M fun e M =>
    nx (aCall cx.P.cellsOf cx.rw call false M.length 22 [(eget e 38), (eget e 39)] M) (some 40) e M fun e M =>
    nx (keep (aUn .not (eget e 40))) (some 41) e M fun e M =>
    nx (oMv (eget e 41)) (some 42) e M fun e M =>
    nx (aGuard (some ((eget e 42), false)) (oMv (eget e 10))) (some 43) e M fun e M =>
    nx (aGuard (some ((eget e 42), false)) (oMv (eget e 7))) (some 44) e M fun e M =>
    nx (aGuard (some ((eget e 42), false)) (oBin cx.P .neq 2 (eget e 43) (eget e 44) M)) (some 45) e M fun e M =>
    nx (keep (aPick (eget e 42) (.bool true) (eget e 45))) (some 46) e M fun e M =>
    some (e, M)).map fun q => (prune [2, 3, 6, 7, 8, 9, 10, 46] q.1, q.2)
noncomputable def f4_r9 (call : CallF) : Env → Mem → Option (Env × Mem) := fun e M =>
    (nx (oMv (.bool false)) (some 4) e M fun e M =>
    some (e, M)).map fun q => (prune [4] q.1, q.2)
noncomputable def f4_r10 (call : CallF) : Env → Mem → Option (Env × Mem) := fun e M =>
    rD [2, 3, 6, 7, 8, 9, 10, 51] (fun (C : List Ob) =>
    nf (keep (aLoad true 3 (eget e 8) M)) (some 47) false e C fun e C =>
    nf (keep (aLoad true 3 (eget e 2) M)) (some 48) false e C fun e C =>
    nf (aCall cx.P.cellsOf cx.rw call false (M.length + C.length) 19 [(eget e 48)] M) (some 49) false e C fun e C =>
    nf (aCall cx.P.cellsOf cx.rw call false (M.length + C.length) 22 [(eget e 47), (eget e 49)] M) (some 50) false e C fun e C =>
    nf (keep (aUn .not (eget e 50))) (some 51) false e C fun e C =>
    some (e, C)) (fun (e : Env) (M : Mem) =>
    some (e, M)) M
noncomputable def f4_r11 (call : CallF) : Env → Mem → Option (Env × Mem) := fun e M =>
    (nx (oMv (.bool false)) (some 4) e M fun e M =>
    some (e, M)).map fun q => (prune [4] q.1, q.2)
noncomputable def f4_r12 (call : CallF) : Env → Mem → Option (Env × Mem) := fun e M =>
    (nx (oMv (.int .i64 1)) (some 11) e M fun e M =>
    some (e, M)).map fun q => (prune [2, 3, 6, 7, 8, 9, 10, 11] q.1, q.2)
noncomputable def f4_r13 (call : CallF) : Env → Mem → Option (Env × Mem) := fun e M =>
    (nx (keep (aLoad true 3 (eget e 8) M)) (some 52) e M fun e M =>
    nx (oMv (eget e 11)) (some 53) e M fun e M =>
    nx (aCall cx.P.cellsOf cx.rw call false M.length 23 [(eget e 52), (eget e 53)] M) (some 54) e M fun e M =>
    nx (oMv (eget e 54)) (some 11) e M fun e M =>
    some (e, M)).map fun q => (prune [2, 3, 6, 7, 9, 10, 11] q.1, q.2)
noncomputable def f4_r14 (call : CallF) : Env → Mem → Option (Env × Mem) := fun e M =>
    (nx (oMv (eget e 11)) (some 55) e M fun e M =>
    nx (oBin cx.P .lss 3 (eget e 55) (.int .i64 0) M) (some 56) e M fun e M =>
    nx (oMv (eget e 56)) (some 57) e M fun e M =>
    nx (aGuard (some ((eget e 57), false)) (keep (aLoad true 3 (eget e 9) M))) (some 58) e M fun e M =>
    nx (aGuard (some ((eget e 57), false)) (keep (aLoad true 3 (eget e 6) M))) (some 59) e M fun e M =>
    nx (aGuard (some ((eget e 57), false)) (aCall cx.P.cellsOf cx.rw call false M.length 22 [(eget e 58), (eget e 59)] M)) (some 60) e M fun e M =>
    nx (aGuard (some ((eget e 57), false)) (keep (aUn .not (eget e 60)))) (some 61) e M fun e M =>
    nx (keep (aPick (eget e 57) (.bool true) (eget e 61))) (some 62) e M fun e M =>
    nx (oMv (eget e 62)) (some 63) e M fun e M =>
    nx (aGuard (some ((eget e 63), false)) (oMv (eget e 10))) (some 64) e M fun e M =>
    nx (aGuard (some ((eget e 63), false)) (oMv (eget e 7))) (some 65) e M fun e M =>
    nx (aGuard (some ((eget e 63), false)) (oBin cx.P .neq 2 (eget e 64) (eget e 65) M)) (some 66) e M fun e M =>
    nx (keep (aPick (eget e 63) (.bool true) (eget e 66))) (some 67) e M fun e M =>
    some (e, M)).map fun q => (prune [2, 3, 6, 7, 9, 67] q.1, q.2)
noncomputable def f4_r15 (call : CallF) : Env → Mem → Option (Env × Mem) := fun e M =>
    (nx (oMv (.bool false)) (some 4) e M fun e M =>
    some (e, M)).map fun q => (prune [4] q.1, q.2)
noncomputable def f4_r16 (call : CallF) : Env → Mem → Option (Env × Mem) := fun e M =>
    (nx (oMv (.int .i64 1)) (some 12) e M fun e M =>
    some (e, M)).map fun q => (prune [2, 3, 6, 7, 9, 12] q.1, q.2)
noncomputable def f4_r17 (call : CallF) : Env → Mem → Option (Env × Mem) := fun e M =>
    (nx (keep (aLoad true 3 (eget e 9) M)) (some 68) e M fun e M =>
    nx (oMv (eget e 12)) (some 69) e M fun e M =>
    nx (aCall cx.P.cellsOf cx.rw call false M.length 23 [(eget e 68), (eget e 69)] M) (some 70) e M fun e M =>
    nx (oMv (eget e 70)) (some 12) e M fun e M =>
    some (e, M)).map fun q => (prune [2, 3, 6, 7, 9, 12] q.1, q.2)
noncomputable def f4_r18 (call : CallF) : Env → Mem → Option (Env × Mem) := fun e M =>
    (nx (oMv (.int .i64 1)) (some 13) e M fun e M =>
    some (e, M)).map fun q => (prune [2, 3, 6, 7, 9, 12, 13] q.1, q.2)
noncomputable def f4_r19 (call : CallF) : Env → Mem → Option (Env × Mem) := fun e M =>
    (nx (keep (aLoad true 3 (eget e 9) M)) (some 71) e M fun e M =>
    nx (oMv (eget e 13)) (some 72) e M fun e M =>
    nx (aCall cx.P.cellsOf cx.rw call false M.length 24 [(eget e 71), (eget e 72)] M) (some 73) e M fun e M =>
    nx (oMv (eget e 73)) (some 13) e M fun e M =>
    some (e, M)).map fun q => (prune [2, 3, 6, 7, 9, 12, 13] q.1, q.2)
noncomputable def f4_r20 (call : CallF) : Env → Mem → Option (Env × Mem) := fun e M =>
    (nx (oMv (eget e 13)) (some 74) e M fun e M =>
    nx (oBin cx.P .lss 3 (eget e 74) (.int .i64 0) M) (some 75) e M fun e M =>
    some (e, M)).map fun q => (prune [2, 3, 6, 7, 9, 12, 13, 75] q.1, q.2)
noncomputable def f4_r21 (call : CallF) : Env → Mem → Option (Env × Mem) := fun e M =>
    (nx (oMv (.bool false)) (some 4) e M fun e M =>
    some (e, M)).map fun q => (prune [4] q.1, q.2)
noncomputable def f4_r22 (call : CallF) : Env → Mem → Option (Env × Mem) := fun e M =>
    (nx (oMv (eget e 13)) (some 76) e M fun e M =>
    nx (oMv (eget e 12)) (some 77) e M fun e M =>
    nx (oBin cx.P .neq 3 (eget e 76) (eget e 77) M) (some 78) e M fun e M =>
    some (e, M)).map fun q => (prune [2, 3, 6, 7, 9, 12, 78] q.1, q.2)
noncomputable def f4_r23 (call : CallF) : Env → Mem → Option (Env × Mem) := fun e M =>
    (nx (oMv (.bool false)) (some 4) e M fun e M =>
    some (e, M)).map fun q => (prune [4] q.1, q.2)
noncomputable def f4_r24 (call : CallF) : Env → Mem → Option (Env × Mem) := fun e M =>
    rD [6, 7, 9, 12, 14, 15] (fun (C : List Ob) =>
    nf (keep (aLoad true 3 (eget e 2) M)) (some 80) false e C fun e C =>
    nf (aCall cx.P.cellsOf cx.rw call false (M.length + C.length) 19 [(eget e 80)] M) (some 81) false e C fun e C =>
    nf (keep (aLoad true 6 (eget e 3) M)) (some 82) false e C fun e C =>
    nf (aCall cx.P.cellsOf cx.rw call false (M.length + C.length) 20 [(eget e 82)] M) (some 83) false e C fun e C =>
    nf (aCall cx.P.cellsOf cx.rw call false (M.length + C.length) 21 [(eget e 81), (eget e 83)] M) (some 84) false e C fun e C =>
    nf (oMv (eget e 84)) (some 79) false e C fun e C =>
    nf (keep (aExtract 0 (eget e 79))) (some 85) false e C fun e C =>
    nf (keep (aExtract 1 (eget e 79))) (some 86) true e C fun e C =>
    nf (oAlloc cx.P (M.length + C.length) 56 3) (some 14) false e C fun e C =>
    some (e, C)) (fun (e : Env) (M : Mem) =>
    nx (oStore 3 (eget e 14) (eget e 85) M) none e M fun e M =>
    nx (oMv (eget e 86)) (some 15) e M fun e M =>
    some (e, M)) M
noncomputable def f4_r25 (call : CallF) : Env → Mem → Option (Env × Mem) := fun e M =>
    (nx (keep (aLoad true 3 (eget e 14) M)) (some 87) e M fun e M =>
    nx (keep (aLoad true 3 (eget e 6) M)) (some 88) e M fun e M =>
    nx (aCall cx.P.cellsOf cx.rw call false M.length 22 [(eget e 87), (eget e 88)] M) (some 89) e M fun e M =>
    nx (keep (aUn .not (eget e 89))) (some 90) e M fun e M =>
    nx (oMv (eget e 90)) (some 91) e M fun e M =>
    nx (aGuard (some ((eget e 91), false)) (oMv (eget e 15))) (some 92) e M fun e M =>
    nx (aGuard (some ((eget e 91), false)) (oMv (eget e 7))) (some 93) e M fun e M =>
    nx (aGuard (some ((eget e 91), false)) (oBin cx.P .neq 2 (eget e 92) (eget e 93) M)) (some 94) e M fun e M =>
    nx (keep (aPick (eget e 91) (.bool true) (eget e 94))) (some 95) e M fun e M =>
    some (e, M)).map fun q => (prune [9, 12, 95] q.1, q.2)
noncomputable def f4_r26 (call : CallF) : Env → Mem → Option (Env × Mem) := fun e M =>
    (nx (oMv (.bool false)) (some 4) e M fun e M =>
    some (e, M)).map fun q => (prune [4] q.1, q.2)
noncomputable def f4_r27 (call : CallF) : Env → Mem → Option (Env × Mem) := fun e M =>
    (nx (oMv (.int .i64 1)) (some 13) e M fun e M =>
    some (e, M)).map fun q => (prune [9, 12, 13] q.1, q.2)
noncomputable def f4_r28 (call : CallF) : Env → Mem → Option (Env × Mem) := fun e M =>
    (nx (keep (aLoad true 3 (eget e 9) M)) (some 96) e M fun e M =>
    nx (oMv (eget e 13)) (some 97) e M fun e M =>
    nx (aCall cx.P.cellsOf cx.rw call false M.length 24 [(eget e 96), (eget e 97)] M) (some 98) e M fun e M =>
    nx (oMv (eget e 98)) (some 13) e M fun e M =>
    some (e, M)).map fun q => (prune [12, 13] q.1, q.2)
noncomputable def f4_r29 (call : CallF) : Env → Mem → Option (Env × Mem) := fun e M =>
    (nx (oMv (eget e 13)) (some 99) e M fun e M =>
    nx (oBin cx.P .lss 3 (eget e 99) (.int .i64 0) M) (some 100) e M fun e M =>
    some (e, M)).map fun q => (prune [12, 13, 100] q.1, q.2)
noncomputable def f4_r30 (call : CallF) : Env → Mem → Option (Env × Mem) := fun e M =>
    (nx (oMv (.bool false)) (some 4) e M fun e M =>
    some (e, M)).map fun q => (prune [4] q.1, q.2)
noncomputable def f4_r31 (call : CallF) : Env → Mem → Option (Env × Mem) := fun e M =>
    (nx (oMv (eget e 13)) (some 101) e M fun e M =>
    nx (oMv (eget e 12)) (some 102) e M fun e M =>
    nx (oBin cx.P .neq 3 (eget e 101) (eget e 102) M) (some 103) e M fun e M =>
    some (e, M)).map fun q => (prune [103] q.1, q.2)
noncomputable def f4_r32 (call : CallF) : Env → Mem → Option (Env × Mem) := fun e M =>
    (nx (oMv (.bool false)) (some 4) e M fun e M =>
    some (e, M)).map fun q => (prune [4] q.1, q.2)
noncomputable def f4_r33 (call : CallF) : Env → Mem → Option (Env × Mem) := fun e M =>
    (nx (oMv (.bool true)) (some 4) e M fun e M =>
    some (e, M)).map fun q => (prune [4] q.1, q.2)
noncomputable def f4 (call : CallF) (k : Nat) : St :=
  (bSeq (bReg (f4_r0 call))
  (bSeq (bReg (f4_r1 call))
  (bSeq (bReg (f4_r2 call))
  (bSeq (bSeq (bReg (f4_r3 call))
  (bCond (.tmp 20)
   (bSeq (bReg (f4_r4 call))
   (bEx .ret))
   (bEx .nrm)))
  (bSeq (bReg (f4_r5 call))
  (bSeq (bReg (f4_r6 call))
  (bSeq (bReg (f4_r7 call))
  (bSeq (bSeq (bReg (f4_r8 call))
  (bCond (.tmp 46)
   (bSeq (bReg (f4_r9 call))
   (bEx .ret))
   (bEx .nrm)))
  (bSeq (bSeq (bReg (f4_r10 call))
  (bCond (.tmp 51)
   (bSeq (bReg (f4_r11 call))
   (bEx .ret))
   (bEx .nrm)))
  (bSeq (bReg (f4_r12 call))
  (bSeq (bReg (f4_r13 call))
  (bSeq (bSeq (bReg (f4_r14 call))
  (bCond (.tmp 67)
   (bSeq (bReg (f4_r15 call))
   (bEx .ret))
   (bEx .nrm)))
  (bSeq (bReg (f4_r16 call))
  (bSeq (bReg (f4_r17 call))
  (bSeq (bReg (f4_r18 call))
  (bSeq (bReg (f4_r19 call))
  (bSeq (bSeq (bReg (f4_r20 call))
  (bCond (.tmp 75)
   (bSeq (bReg (f4_r21 call))
   (bEx .ret))
   (bEx .nrm)))
  (bSeq (bSeq (bReg (f4_r22 call))
  (bCond (.tmp 78)
   (bSeq (bReg (f4_r23 call))
   (bEx .ret))
   (bEx .nrm)))
  (bSeq (bReg (f4_r24 call))
  (bSeq (bSeq (bReg (f4_r25 call))
  (bCond (.tmp 95)
   (bSeq (bReg (f4_r26 call))
   (bEx .ret))
   (bEx .nrm)))
  (bSeq (bReg (f4_r27 call))
  (bSeq (bReg (f4_r28 call))
  (bSeq (bSeq (bReg (f4_r29 call))
  (bCond (.tmp 100)
   (bSeq (bReg (f4_r30 call))
   (bEx .ret))
   (bEx .nrm)))
  (bSeq (bSeq (bReg (f4_r31 call))
  (bCond (.tmp 103)
   (bSeq (bReg (f4_r32 call))
   (bEx .ret))
   (bEx .nrm)))
  (bSeq (bReg (f4_r33 call))
  (bEx .ret))))))))))))))))))))))))))
theorem f4_eq (call : CallF) (k : Nat) : exec cx call 104 f4_an k (Try.f4.body.getD .skip) = f4 call k := by kernel_rfl
/-! ### f17: loop.example/g01263/laws.szBook -/
def f17_an : Ann := ⟨[(0, ⟨[], [], [], [], [1, 2]⟩), (1, ⟨[], [], [], [], [1, 2]⟩), (2, ⟨[], [], [], [], [1, 2, 10]⟩), (3, ⟨[], [], [], [], [4]⟩), (4, ⟨[], [], [], [], [1]⟩), (5, ⟨[], [], [], [], [1, 16]⟩), (6, ⟨[], [], [], [], [4]⟩), (7, ⟨[], [], [], [], [4]⟩)], []⟩
noncomputable def f17_r0 (call : CallF) : Env → Mem → Option (Env × Mem) := fun e M =>
    (nx (keep (aBox 3 (eget e 0) M)) (some 2) e M fun e M =>
    nx (oMv (.int .i64 0)) (some 4) e M fun e M =>
    some (e, M)).map fun q => (prune [1, 2] q.1, q.2)
noncomputable def f17_r1 (call : CallF) : Env → Mem → Option (Env × Mem) := fun e M =>
    (nx (keep (aFieldAddr 1 1 (eget e 2) M)) (some 5) e M fun e M =>
    nx (keep (aLoad false 1 (eget e 5) M)) (some 6) e M fun e M =>
    nx (oMv (eget e 1)) (some 7) e M fun e M =>
    nx (aCall cx.P.cellsOf cx.rw call false M.length 59 [(eget e 6), (eget e 7)] M) (some 8) e M fun e M =>
    nx (oMv (eget e 8)) (some 1) e M fun e M =>
    some (e, M)).map fun q => (prune [1, 2] q.1, q.2)
noncomputable def f17_r2 (call : CallF) : Env → Mem → Option (Env × Mem) := fun e M =>
    (nx (oMv (eget e 1)) (some 9) e M fun e M =>
    nx (oBin cx.P .lss 3 (eget e 9) (.int .i64 0) M) (some 10) e M fun e M =>
    some (e, M)).map fun q => (prune [1, 2, 10] q.1, q.2)
noncomputable def f17_r3 (call : CallF) : Env → Mem → Option (Env × Mem) := fun e M =>
    (nx (oMv (.int .i64 (-1))) (some 4) e M fun e M =>
    some (e, M)).map fun q => (prune [4] q.1, q.2)
noncomputable def f17_r4 (call : CallF) : Env → Mem → Option (Env × Mem) := fun e M =>
    (nx (keep (aFieldAddr 2 1 (eget e 2) M)) (some 11) e M fun e M =>
    nx (keep (aLoad false 1 (eget e 11) M)) (some 12) e M fun e M =>
    nx (oMv (eget e 1)) (some 13) e M fun e M =>
    nx (aCall cx.P.cellsOf cx.rw call false M.length 60 [(eget e 12), (eget e 13)] M) (some 14) e M fun e M =>
    nx (oMv (eget e 14)) (some 1) e M fun e M =>
    some (e, M)).map fun q => (prune [1] q.1, q.2)
noncomputable def f17_r5 (call : CallF) : Env → Mem → Option (Env × Mem) := fun e M =>
    (nx (oMv (eget e 1)) (some 15) e M fun e M =>
    nx (oBin cx.P .lss 3 (eget e 15) (.int .i64 0) M) (some 16) e M fun e M =>
    some (e, M)).map fun q => (prune [1, 16] q.1, q.2)
noncomputable def f17_r6 (call : CallF) : Env → Mem → Option (Env × Mem) := fun e M =>
    (nx (oMv (.int .i64 (-1))) (some 4) e M fun e M =>
    some (e, M)).map fun q => (prune [4] q.1, q.2)
noncomputable def f17_r7 (call : CallF) : Env → Mem → Option (Env × Mem) := fun e M =>
    (nx (oMv (eget e 1)) (some 17) e M fun e M =>
    nx (oMv (eget e 17)) (some 4) e M fun e M =>
    some (e, M)).map fun q => (prune [4] q.1, q.2)
noncomputable def f17 (call : CallF) (k : Nat) : St :=
  (bSeq (bReg (f17_r0 call))
  (bSeq (bReg (f17_r1 call))
  (bSeq (bSeq (bReg (f17_r2 call))
  (bCond (.tmp 10)
   (bSeq (bReg (f17_r3 call))
   (bEx .ret))
   (bEx .nrm)))
  (bSeq (bReg (f17_r4 call))
  (bSeq (bSeq (bReg (f17_r5 call))
  (bCond (.tmp 16)
   (bSeq (bReg (f17_r6 call))
   (bEx .ret))
   (bEx .nrm)))
  (bSeq (bReg (f17_r7 call))
  (bEx .ret)))))))
theorem f17_eq (call : CallF) (k : Nat) : exec cx call 18 f17_an k (Try.f17.body.getD .skip) = f17 call k := by kernel_rfl
/-! ### f18: loop.example/g01263/spec.DoDeal -/
def f18_an : Ann := ⟨[(0, ⟨[], [], [], [], [2, 3, 4]⟩), (1, ⟨[], [], [], [], [2, 3, 4, 11]⟩), (2, ⟨[], [], [], [], [4, 5]⟩), (3, ⟨[], [], [], [], [4, 5]⟩)], []⟩
noncomputable def f18_r0 (call : CallF) : Env → Mem → Option (Env × Mem) := fun e M =>
    (nx (keep (aBox 3 (eget e 0) M)) (some 2) e M fun e M =>
    nx (keep (aBox 6 (eget e 1) M)) (some 3) e M fun e M =>
    nx (oAlloc cx.P M.length 56 3) (some 4) e M fun e M =>
    nx (oMv (.int .i64 0)) (some 5) e M fun e M =>
    some (e, M)).map fun q => (prune [2, 3, 4] q.1, q.2)
noncomputable def f18_r1 (call : CallF) : Env → Mem → Option (Env × Mem) := fun e M =>
    (nx (aCall cx.P.cellsOf cx.rw call false M.length 61 [(eget e 2)] M) (some 6) e M fun e M =>
    nx (keep (aUn .not (eget e 6))) (some 7) e M fun e M =>
    nx (oMv (eget e 7)) (some 8) e M fun e M =>
    nx (aGuard (some ((eget e 8), false)) (aCall cx.P.cellsOf cx.rw call false M.length 62 [(eget e 3)] M)) (some 9) e M fun e M =>
    nx (aGuard (some ((eget e 8), false)) (keep (aUn .not (eget e 9)))) (some 10) e M fun e M =>
    nx (keep (aPick (eget e 8) (.bool true) (eget e 10))) (some 11) e M fun e M =>
    some (e, M)).map fun q => (prune [2, 3, 4, 11] q.1, q.2)
noncomputable def f18_r2 (call : CallF) : Env → Mem → Option (Env × Mem) := fun e M =>
    (nx (keep (aBuild (zeroOf cx.P 56) [] M)) (some 12) e M fun e M =>
    nx (oStore 3 (eget e 4) (eget e 12) M) none e M fun e M =>
    nx (oMv (.int .i64 1)) (some 5) e M fun e M =>
    some (e, M)).map fun q => (prune [4, 5] q.1, q.2)
noncomputable def f18_r3 (call : CallF) : Env → Mem → Option (Env × Mem) := fun e M =>
    (nx (aCall cx.P.cellsOf cx.rw call false M.length 63 [(eget e 2), (eget e 3)] M) (some 13) e M fun e M =>
    nx (keep (aExtract 0 (eget e 13))) (some 14) e M fun e M =>
    nx (keep (aExtract 1 (eget e 13))) (some 15) e M fun e M =>
    nx (oStore 3 (eget e 4) (eget e 14) M) none e M fun e M =>
    nx (oMv (eget e 15)) (some 5) e M fun e M =>
    some (e, M)).map fun q => (prune [4, 5] q.1, q.2)
noncomputable def f18 (call : CallF) (k : Nat) : St :=
  (bSeq (bReg (f18_r0 call))
  (bSeq (bSeq (bReg (f18_r1 call))
  (bCond (.tmp 11)
   (bSeq (bReg (f18_r2 call))
   (bEx .ret))
   (bEx .nrm)))
  (bSeq (bReg (f18_r3 call))
  (bEx .ret))))
theorem f18_eq (call : CallF) (k : Nat) : exec cx call 16 f18_an k (Try.f18.body.getD .skip) = f18 call k := by kernel_rfl
/-! ### f19: loop.example/g01263/laws.toBook -/
def f19_an : Ann := ⟨[(0, ⟨[], [], [], [], [1, 2]⟩), (1, ⟨[], [], [], [], [1, 2, 3]⟩), (2, ⟨[], [], [], [], [1, 2, 3]⟩), (3, ⟨[4], [], [], [], [1, 2, 3]⟩), (4, ⟨[4], [], [], [], [2, 3]⟩), (5, ⟨[1], [], [], [], [2]⟩)], []⟩
noncomputable def f19_r0 (call : CallF) : Env → Mem → Option (Env × Mem) := fun e M =>
    (nx (keep (aBox 3 (eget e 0) M)) (some 1) e M fun e M =>
    nx (oAlloc cx.P M.length 56 3) (some 2) e M fun e M =>
    some (e, M)).map fun q => (prune [1, 2] q.1, q.2)
noncomputable def f19_r1 (call : CallF) : Env → Mem → Option (Env × Mem) := fun e M =>
    (nx (oAlloc cx.P M.length 56 3) (some 3) e M fun e M =>
    some (e, M)).map fun q => (prune [1, 2, 3] q.1, q.2)
noncomputable def f19_r2 (call : CallF) : Env → Mem → Option (Env × Mem) := fun e M =>
    (nx (keep (aFieldAddr 0 1 (eget e 1) M)) (some 4) e M fun e M =>
    nx (keep (aLoad false 1 (eget e 4) M)) (some 5) e M fun e M =>
    nx (keep (aFieldAddr 0 1 (eget e 3) M)) (some 6) e M fun e M =>
    nx (oStore 1 (eget e 6) (eget e 5) M) none e M fun e M =>
    some (e, M)).map fun q => (prune [1, 2, 3] q.1, q.2)
noncomputable def f19_r3 (call : CallF) : Env → Mem → Option (Env × Mem) := fun e M =>
    (nx (keep (aFieldAddr 1 1 (eget e 1) M)) (some 7) e M fun e M =>
    nx (keep (aLoad false 1 (eget e 7) M)) (some 8) e M fun e M =>
    nx (aCall cx.P.cellsOf cx.rw call false M.length 64 [(eget e 8)] M) (some 9) e M fun e M =>
    nx (keep (aFieldAddr 1 1 (eget e 3) M)) (some 10) e M fun e M =>
    nx (oStoreK 1 (eget e 10) (eget e 9) M) none e M fun e M =>
    some (e, M)).map fun q => (prune [1, 2, 3] q.1, q.2)
noncomputable def f19_r4 (call : CallF) : Env → Mem → Option (Env × Mem) := fun e M =>
    (nx (keep (aFieldAddr 2 1 (eget e 1) M)) (some 11) e M fun e M =>
    nx (keep (aLoad false 1 (eget e 11) M)) (some 12) e M fun e M =>
    nx (aCall cx.P.cellsOf cx.rw call false M.length 65 [(eget e 12)] M) (some 13) e M fun e M =>
    nx (keep (aFieldAddr 2 1 (eget e 3) M)) (some 14) e M fun e M =>
    nx (oStoreK 1 (eget e 14) (eget e 13) M) none e M fun e M =>
    some (e, M)).map fun q => (prune [2, 3] q.1, q.2)
noncomputable def f19_r5 (call : CallF) : Env → Mem → Option (Env × Mem) := fun e M =>
    (nx (keep (aLoad true 3 (eget e 3) M)) (some 15) e M fun e M =>
    nx (oStoreK 3 (eget e 2) (eget e 15) M) none e M fun e M =>
    some (e, M)).map fun q => (prune [2] q.1, q.2)
noncomputable def f19 (call : CallF) (k : Nat) : St :=
  (bSeq (bReg (f19_r0 call))
  (bSeq (bReg (f19_r1 call))
  (bSeq (bReg (f19_r2 call))
  (bSeq (bReg (f19_r3 call))
  (bSeq (bReg (f19_r4 call))
  (bSeq (bReg (f19_r5 call))
  (bEx .ret)))))))
theorem f19_eq (call : CallF) (k : Nat) : exec cx call 16 f19_an k (Try.f19.body.getD .skip) = f19 call k := by kernel_rfl
/-! ### f20: loop.example/g01263/laws.toDeal -/
def f20_an : Ann := ⟨[(0, ⟨[], [], [], [], [1, 2]⟩), (1, ⟨[], [], [], [], [1, 2, 3]⟩), (2, ⟨[], [], [], [], [1, 2, 3]⟩), (3, ⟨[], [], [], [], [1, 2, 3]⟩), (4, ⟨[], [], [], [], [1, 2, 3]⟩), (5, ⟨[], [], [], [], [1, 2, 3]⟩), (6, ⟨[], [], [], [], [1, 2, 3]⟩), (7, ⟨[], [], [], [], [2, 3]⟩), (8, ⟨[], [], [], [], [2]⟩)], []⟩
noncomputable def f20_r0 (call : CallF) : Env → Mem → Option (Env × Mem) := fun e M =>
    (nx (keep (aBox 6 (eget e 0) M)) (some 1) e M fun e M =>
    nx (oAlloc cx.P M.length 60 6) (some 2) e M fun e M =>
    some (e, M)).map fun q => (prune [1, 2] q.1, q.2)
noncomputable def f20_r1 (call : CallF) : Env → Mem → Option (Env × Mem) := fun e M =>
    (nx (oAlloc cx.P M.length 60 6) (some 3) e M fun e M =>
    some (e, M)).map fun q => (prune [1, 2, 3] q.1, q.2)
noncomputable def f20_r2 (call : CallF) : Env → Mem → Option (Env × Mem) := fun e M =>
    (nx (keep (aFieldAddr 0 1 (eget e 1) M)) (some 4) e M fun e M =>
    nx (keep (aLoad false 1 (eget e 4) M)) (some 5) e M fun e M =>
    nx (keep (aFieldAddr 0 1 (eget e 3) M)) (some 6) e M fun e M =>
    nx (oStore 1 (eget e 6) (eget e 5) M) none e M fun e M =>
    some (e, M)).map fun q => (prune [1, 2, 3] q.1, q.2)
noncomputable def f20_r3 (call : CallF) : Env → Mem → Option (Env × Mem) := fun e M =>
    (nx (keep (aFieldAddr 1 1 (eget e 1) M)) (some 7) e M fun e M =>
    nx (keep (aLoad false 1 (eget e 7) M)) (some 8) e M fun e M =>
    nx (keep (aFieldAddr 1 1 (eget e 3) M)) (some 9) e M fun e M =>
    nx (oStore 1 (eget e 9) (eget e 8) M) none e M fun e M =>
    some (e, M)).map fun q => (prune [1, 2, 3] q.1, q.2)
noncomputable def f20_r4 (call : CallF) : Env → Mem → Option (Env × Mem) := fun e M =>
    (nx (keep (aFieldAddr 2 1 (eget e 1) M)) (some 10) e M fun e M =>
    nx (keep (aLoad false 1 (eget e 10) M)) (some 11) e M fun e M =>
    nx (keep (aFieldAddr 2 1 (eget e 3) M)) (some 12) e M fun e M =>
    nx (oStore 1 (eget e 12) (eget e 11) M) none e M fun e M =>
    some (e, M)).map fun q => (prune [1, 2, 3] q.1, q.2)
noncomputable def f20_r5 (call : CallF) : Env → Mem → Option (Env × Mem) := fun e M =>
    (nx (keep (aFieldAddr 3 1 (eget e 1) M)) (some 13) e M fun e M =>
    nx (keep (aLoad false 1 (eget e 13) M)) (some 14) e M fun e M =>
    nx (keep (aFieldAddr 3 1 (eget e 3) M)) (some 15) e M fun e M =>
    nx (oStore 1 (eget e 15) (eget e 14) M) none e M fun e M =>
    some (e, M)).map fun q => (prune [1, 2, 3] q.1, q.2)
noncomputable def f20_r6 (call : CallF) : Env → Mem → Option (Env × Mem) := fun e M =>
    (nx (keep (aFieldAddr 4 1 (eget e 1) M)) (some 16) e M fun e M =>
    nx (keep (aLoad false 1 (eget e 16) M)) (some 17) e M fun e M =>
    nx (keep (aFieldAddr 4 1 (eget e 3) M)) (some 18) e M fun e M =>
    nx (oStore 1 (eget e 18) (eget e 17) M) none e M fun e M =>
    some (e, M)).map fun q => (prune [1, 2, 3] q.1, q.2)
noncomputable def f20_r7 (call : CallF) : Env → Mem → Option (Env × Mem) := fun e M =>
    (nx (keep (aFieldAddr 5 1 (eget e 1) M)) (some 19) e M fun e M =>
    nx (keep (aLoad false 1 (eget e 19) M)) (some 20) e M fun e M =>
    nx (keep (aFieldAddr 5 1 (eget e 3) M)) (some 21) e M fun e M =>
    nx (oStore 1 (eget e 21) (eget e 20) M) none e M fun e M =>
    some (e, M)).map fun q => (prune [2, 3] q.1, q.2)
noncomputable def f20_r8 (call : CallF) : Env → Mem → Option (Env × Mem) := fun e M =>
    (nx (keep (aLoad true 6 (eget e 3) M)) (some 22) e M fun e M =>
    nx (oStore 6 (eget e 2) (eget e 22) M) none e M fun e M =>
    some (e, M)).map fun q => (prune [2] q.1, q.2)
noncomputable def f20 (call : CallF) (k : Nat) : St :=
  (bSeq (bReg (f20_r0 call))
  (bSeq (bReg (f20_r1 call))
  (bSeq (bReg (f20_r2 call))
  (bSeq (bReg (f20_r3 call))
  (bSeq (bReg (f20_r4 call))
  (bSeq (bReg (f20_r5 call))
  (bSeq (bReg (f20_r6 call))
  (bSeq (bReg (f20_r7 call))
  (bSeq (bReg (f20_r8 call))
  (bEx .ret))))))))))
theorem f20_eq (call : CallF) (k : Nat) : exec cx call 23 f20_an k (Try.f20.body.getD .skip) = f20 call k := by kernel_rfl
/-! ### f21: loop.example/g01263/impl.DoDeal -/
def f21_an : Ann := ⟨[(0, ⟨[], [], [], [], [2, 3, 4]⟩), (1, ⟨[], [], [], [], [2, 3, 4, 13]⟩), (2, ⟨[1], [], [], [], [4, 5]⟩), (3, ⟨[5], [], [], [], [4, 5]⟩)], []⟩
noncomputable def f21_r0 (call : CallF) : Env → Mem → Option (Env × Mem) := fun e M =>
    (nx (keep (aBox 3 (eget e 0) M)) (some 2) e M fun e M =>
    nx (keep (aBox 6 (eget e 1) M)) (some 3) e M fun e M =>
    nx (oAlloc cx.P M.length 56 3) (some 4) e M fun e M =>
    nx (oMv (.int .i64 0)) (some 5) e M fun e M =>
    some (e, M)).map fun q => (prune [2, 3, 4] q.1, q.2)
noncomputable def f21_r1 (call : CallF) : Env → Mem → Option (Env × Mem) := fun e M =>
    (nx (keep (aLoad true 3 (eget e 2) M)) (some 6) e M fun e M =>
    nx (aCall cx.P.cellsOf cx.rw call false M.length 66 [(eget e 6)] M) (some 7) e M fun e M =>
    nx (keep (aUn .not (eget e 7))) (some 8) e M fun e M =>
    nx (oMv (eget e 8)) (some 9) e M fun e M =>
    nx (aGuard (some ((eget e 9), false)) (keep (aLoad true 6 (eget e 3) M))) (some 10) e M fun e M =>
    nx (aGuard (some ((eget e 9), false)) (aCall cx.P.cellsOf cx.rw call false M.length 67 [(eget e 10)] M)) (some 11) e M fun e M =>
    nx (aGuard (some ((eget e 9), false)) (keep (aUn .not (eget e 11)))) (some 12) e M fun e M =>
    nx (keep (aPick (eget e 9) (.bool true) (eget e 12))) (some 13) e M fun e M =>
    some (e, M)).map fun q => (prune [2, 3, 4, 13] q.1, q.2)
noncomputable def f21_r2 (call : CallF) : Env → Mem → Option (Env × Mem) := fun e M =>
    (nx (keep (aBuild (zeroOf cx.P 56) [] M)) (some 14) e M fun e M =>
    nx (oStoreK 3 (eget e 4) (eget e 14) M) none e M fun e M =>
    nx (oMv (.int .i64 1)) (some 5) e M fun e M =>
    some (e, M)).map fun q => (prune [4, 5] q.1, q.2)
noncomputable def f21_r3 (call : CallF) : Env → Mem → Option (Env × Mem) := fun e M =>
    (nx (keep (aLoad true 3 (eget e 2) M)) (some 15) e M fun e M =>
    nx (keep (aLoad true 6 (eget e 3) M)) (some 16) e M fun e M =>
    nx (aCall cx.P.cellsOf cx.rw call false M.length 68 [(eget e 15), (eget e 16)] M) (some 17) e M fun e M =>
    nx (keep (aExtract 0 (eget e 17))) (some 18) e M fun e M =>
    nx (keep (aExtract 1 (eget e 17))) (some 19) e M fun e M =>
    nx (oStoreK 3 (eget e 4) (eget e 18) M) none e M fun e M =>
    nx (oMv (eget e 19)) (some 5) e M fun e M =>
    some (e, M)).map fun q => (prune [4, 5] q.1, q.2)
noncomputable def f21 (call : CallF) (k : Nat) : St :=
  (bSeq (bReg (f21_r0 call))
  (bSeq (bSeq (bReg (f21_r1 call))
  (bCond (.tmp 13)
   (bSeq (bReg (f21_r2 call))
   (bEx .ret))
   (bEx .nrm)))
  (bSeq (bReg (f21_r3 call))
  (bEx .ret))))
theorem f21_eq (call : CallF) (k : Nat) : exec cx call 20 f21_an k (Try.f21.body.getD .skip) = f21 call k := by kernel_rfl
/-! ### f22: loop.example/g01263/laws.eqBook -/
def f22_an : Ann := ⟨[(0, ⟨[], [], [], [], [2, 3]⟩), (1, ⟨[], [], [], [], [2, 3, 9]⟩), (2, ⟨[], [], [], [], [4]⟩), (3, ⟨[], [], [], [], [2, 3, 15]⟩), (4, ⟨[], [], [], [], [4]⟩), (5, ⟨[], [], [], [], [21]⟩), (6, ⟨[], [], [], [], [4]⟩), (7, ⟨[], [], [], [], [4]⟩)], []⟩
noncomputable def f22_r0 (call : CallF) : Env → Mem → Option (Env × Mem) := fun e M =>
    (nx (keep (aBox 3 (eget e 0) M)) (some 2) e M fun e M =>
    nx (keep (aBox 3 (eget e 1) M)) (some 3) e M fun e M =>
    nx (oMv (.bool false)) (some 4) e M fun e M =>
    some (e, M)).map fun q => (prune [2, 3] q.1, q.2)
noncomputable def f22_r1 (call : CallF) : Env → Mem → Option (Env × Mem) := fun e M =>
    (nx (keep (aFieldAddr 0 1 (eget e 2) M)) (some 5) e M fun e M =>
    nx (keep (aLoad false 1 (eget e 5) M)) (some 6) e M fun e M =>
    nx (keep (aFieldAddr 0 1 (eget e 3) M)) (some 7) e M fun e M =>
    nx (keep (aLoad false 1 (eget e 7) M)) (some 8) e M fun e M =>
    nx (oBin cx.P .neq 2 (eget e 6) (eget e 8) M) (some 9) e M fun e M =>
    some (e, M)).map fun q => (prune [2, 3, 9] q.1, q.2)
noncomputable def f22_r2 (call : CallF) : Env → Mem → Option (Env × Mem) := fun e M =>
    (nx (oMv (.bool false)) (some 4) e M fun e M =>
    some (e, M)).map fun q => (prune [4] q.1, q.2)
noncomputable def f22_r3 (call : CallF) : Env → Mem → Option (Env × Mem) := fun e M =>
    (nx (keep (aFieldAddr 1 1 (eget e 2) M)) (some 10) e M fun e M =>
    nx (keep (aLoad false 1 (eget e 10) M)) (some 11) e M fun e M =>
    nx (keep (aFieldAddr 1 1 (eget e 3) M)) (some 12) e M fun e M =>
    nx (keep (aLoad false 1 (eget e 12) M)) (some 13) e M fun e M =>
    nx (aCall cx.P.cellsOf cx.rw call false M.length 29 [(eget e 11), (eget e 13)] M) (some 14) e M fun e M =>
    nx (keep (aUn .not (eget e 14))) (some 15) e M fun e M =>
    some (e, M)).map fun q => (prune [2, 3, 15] q.1, q.2)
noncomputable def f22_r4 (call : CallF) : Env → Mem → Option (Env × Mem) := fun e M =>
    (nx (oMv (.bool false)) (some 4) e M fun e M =>
    some (e, M)).map fun q => (prune [4] q.1, q.2)
noncomputable def f22_r5 (call : CallF) : Env → Mem → Option (Env × Mem) := fun e M =>
    (nx (keep (aFieldAddr 2 1 (eget e 2) M)) (some 16) e M fun e M =>
    nx (keep (aLoad false 1 (eget e 16) M)) (some 17) e M fun e M =>
    nx (keep (aFieldAddr 2 1 (eget e 3) M)) (some 18) e M fun e M =>
    nx (keep (aLoad false 1 (eget e 18) M)) (some 19) e M fun e M =>
    nx (aCall cx.P.cellsOf cx.rw call false M.length 69 [(eget e 17), (eget e 19)] M) (some 20) e M fun e M =>
    nx (keep (aUn .not (eget e 20))) (some 21) e M fun e M =>
    some (e, M)).map fun q => (prune [21] q.1, q.2)
noncomputable def f22_r6 (call : CallF) : Env → Mem → Option (Env × Mem) := fun e M =>
    (nx (oMv (.bool false)) (some 4) e M fun e M =>
    some (e, M)).map fun q => (prune [4] q.1, q.2)
noncomputable def f22_r7 (call : CallF) : Env → Mem → Option (Env × Mem) := fun e M =>
    (nx (oMv (.bool true)) (some 4) e M fun e M =>
    some (e, M)).map fun q => (prune [4] q.1, q.2)
noncomputable def f22 (call : CallF) (k : Nat) : St :=
  (bSeq (bReg (f22_r0 call))
  (bSeq (bSeq (bReg (f22_r1 call))
  (bCond (.tmp 9)
   (bSeq (bReg (f22_r2 call))
   (bEx .ret))
   (bEx .nrm)))
  (bSeq (bSeq (bReg (f22_r3 call))
  (bCond (.tmp 15)
   (bSeq (bReg (f22_r4 call))
   (bEx .ret))
   (bEx .nrm)))
  (bSeq (bSeq (bReg (f22_r5 call))
  (bCond (.tmp 21)
   (bSeq (bReg (f22_r6 call))
   (bEx .ret))
   (bEx .nrm)))
  (bSeq (bReg (f22_r7 call))
  (bEx .ret))))))
theorem f22_eq (call : CallF) (k : Nat) : exec cx call 22 f22_an k (Try.f22.body.getD .skip) = f22 call k := by kernel_rfl
/-! ### f23: loop.example/g01263/laws.markBook -/
def f23_an : Ann := ⟨[(0, ⟨[0], [], [], [], [1, 2]⟩), (1, ⟨[], [], [], [], [1, 2]⟩), (2, ⟨[], [], [], [], [1]⟩), (3, ⟨[], [], [], [], [4]⟩)], []⟩
noncomputable def f23_r0 (call : CallF) : Env → Mem → Option (Env × Mem) := fun e M =>
    (nx (aBoxO M.length 56 3 (eget e 0) M) (some 2) e M fun e M =>
    nx (oMv (.int .i64 0)) (some 4) e M fun e M =>
    some (e, M)).map fun q => (prune [1, 2] q.1, q.2)
noncomputable def f23_r1 (call : CallF) : Env → Mem → Option (Env × Mem) := fun e M =>
    (nx (keep (aFieldAddr 1 1 (eget e 2) M)) (some 5) e M fun e M =>
    nx (keep (aLoad false 1 (eget e 5) M)) (some 6) e M fun e M =>
    nx (oMv (eget e 1)) (some 7) e M fun e M =>
    nx (aCall cx.P.cellsOf cx.rw call false M.length 32 [(eget e 6), (eget e 7)] M) (some 8) e M fun e M =>
    nx (oMv (eget e 8)) (some 1) e M fun e M =>
    some (e, M)).map fun q => (prune [1, 2] q.1, q.2)
noncomputable def f23_r2 (call : CallF) : Env → Mem → Option (Env × Mem) := fun e M =>
    (nx (keep (aFieldAddr 2 1 (eget e 2) M)) (some 9) e M fun e M =>
    nx (keep (aLoad false 1 (eget e 9) M)) (some 10) e M fun e M =>
    nx (oMv (eget e 1)) (some 11) e M fun e M =>
    nx (aCall cx.P.cellsOf cx.rw call false M.length 70 [(eget e 10), (eget e 11)] M) (some 12) e M fun e M =>
    nx (oMv (eget e 12)) (some 1) e M fun e M =>
    some (e, M)).map fun q => (prune [1] q.1, q.2)
noncomputable def f23_r3 (call : CallF) : Env → Mem → Option (Env × Mem) := fun e M =>
    (nx (oMv (eget e 1)) (some 13) e M fun e M =>
    nx (oMv (eget e 13)) (some 4) e M fun e M =>
    some (e, M)).map fun q => (prune [4] q.1, q.2)
noncomputable def f23 (call : CallF) (k : Nat) : St :=
  (bSeq (bReg (f23_r0 call))
  (bSeq (bReg (f23_r1 call))
  (bSeq (bReg (f23_r2 call))
  (bSeq (bReg (f23_r3 call))
  (bEx .ret)))))
theorem f23_eq (call : CallF) (k : Nat) : exec cx call 14 f23_an k (Try.f23.body.getD .skip) = f23 call k := by kernel_rfl
/-! ### f24: loop.example/g01263/laws.heldBook -/
def f24_an : Ann := ⟨[(0, ⟨[], [], [], [], [1, 2]⟩), (1, ⟨[], [], [], [], [1, 2]⟩), (2, ⟨[], [], [], [], [1, 2, 10]⟩), (3, ⟨[], [], [], [], [4]⟩), (4, ⟨[], [], [], [], [1]⟩), (5, ⟨[], [], [], [], [1, 16]⟩), (6, ⟨[], [], [], [], [4]⟩), (7, ⟨[], [], [], [], [4]⟩)], []⟩
noncomputable def f24_r0 (call : CallF) : Env → Mem → Option (Env × Mem) := fun e M =>
    (nx (keep (aBox 3 (eget e 0) M)) (some 2) e M fun e M =>
    nx (oMv (.int .i64 0)) (some 4) e M fun e M =>
    some (e, M)).map fun q => (prune [1, 2] q.1, q.2)
noncomputable def f24_r1 (call : CallF) : Env → Mem → Option (Env × Mem) := fun e M =>
    (nx (keep (aFieldAddr 1 1 (eget e 2) M)) (some 5) e M fun e M =>
    nx (keep (aLoad false 1 (eget e 5) M)) (some 6) e M fun e M =>
    nx (oMv (eget e 1)) (some 7) e M fun e M =>
    nx (aCall cx.P.cellsOf cx.rw call false M.length 33 [(eget e 6), (eget e 7)] M) (some 8) e M fun e M =>
    nx (oMv (eget e 8)) (some 1) e M fun e M =>
    some (e, M)).map fun q => (prune [1, 2] q.1, q.2)
noncomputable def f24_r2 (call : CallF) : Env → Mem → Option (Env × Mem) := fun e M =>
    (nx (oMv (eget e 1)) (some 9) e M fun e M =>
    nx (oBin cx.P .lss 3 (eget e 9) (.int .i64 0) M) (some 10) e M fun e M =>
    some (e, M)).map fun q => (prune [1, 2, 10] q.1, q.2)
noncomputable def f24_r3 (call : CallF) : Env → Mem → Option (Env × Mem) := fun e M =>
    (nx (oMv (.int .i64 (-1))) (some 4) e M fun e M =>
    some (e, M)).map fun q => (prune [4] q.1, q.2)
noncomputable def f24_r4 (call : CallF) : Env → Mem → Option (Env × Mem) := fun e M =>
    (nx (keep (aFieldAddr 2 1 (eget e 2) M)) (some 11) e M fun e M =>
    nx (keep (aLoad false 1 (eget e 11) M)) (some 12) e M fun e M =>
    nx (oMv (eget e 1)) (some 13) e M fun e M =>
    nx (aCall cx.P.cellsOf cx.rw call false M.length 71 [(eget e 12), (eget e 13)] M) (some 14) e M fun e M =>
    nx (oMv (eget e 14)) (some 1) e M fun e M =>
    some (e, M)).map fun q => (prune [1] q.1, q.2)
noncomputable def f24_r5 (call : CallF) : Env → Mem → Option (Env × Mem) := fun e M =>
    (nx (oMv (eget e 1)) (some 15) e M fun e M =>
    nx (oBin cx.P .lss 3 (eget e 15) (.int .i64 0) M) (some 16) e M fun e M =>
    some (e, M)).map fun q => (prune [1, 16] q.1, q.2)
noncomputable def f24_r6 (call : CallF) : Env → Mem → Option (Env × Mem) := fun e M =>
    (nx (oMv (.int .i64 (-1))) (some 4) e M fun e M =>
    some (e, M)).map fun q => (prune [4] q.1, q.2)
noncomputable def f24_r7 (call : CallF) : Env → Mem → Option (Env × Mem) := fun e M =>
    (nx (oMv (eget e 1)) (some 17) e M fun e M =>
    nx (oMv (eget e 17)) (some 4) e M fun e M =>
    some (e, M)).map fun q => (prune [4] q.1, q.2)
noncomputable def f24 (call : CallF) (k : Nat) : St :=
  (bSeq (bReg (f24_r0 call))
  (bSeq (bReg (f24_r1 call))
  (bSeq (bSeq (bReg (f24_r2 call))
  (bCond (.tmp 10)
   (bSeq (bReg (f24_r3 call))
   (bEx .ret))
   (bEx .nrm)))
  (bSeq (bReg (f24_r4 call))
  (bSeq (bSeq (bReg (f24_r5 call))
  (bCond (.tmp 16)
   (bSeq (bReg (f24_r6 call))
   (bEx .ret))
   (bEx .nrm)))
  (bSeq (bReg (f24_r7 call))
  (bEx .ret)))))))
theorem f24_eq (call : CallF) (k : Nat) : exec cx call 18 f24_an k (Try.f24.body.getD .skip) = f24 call k := by kernel_rfl
/-! ### f29: loop.example/g01263/laws.eqInt64S -/
def f29_an : Ann := ⟨[(0, ⟨[], [], [], [], [0, 1]⟩), (1, ⟨[], [], [], [], [0, 1, 10]⟩), (2, ⟨[], [], [], [], [4]⟩), (3, ⟨[], [], [], [], [0, 1, 5]⟩), (4, ⟨[], [], [], [], [0, 1, 5, 14]⟩), (5, ⟨[], [], [], [], [0, 1, 5]⟩), (6, ⟨[], [], [], [], [0, 1, 5, 25]⟩), (7, ⟨[], [], [], [], [4]⟩), (8, ⟨[], [], [], [], [4]⟩)], [(4, [0, 1, 5])]⟩
noncomputable def f29_r0 (call : CallF) : Env → Mem → Option (Env × Mem) := fun e M =>
    (nx (oMv (.bool false)) (some 4) e M fun e M =>
    some (e, M)).map fun q => (prune [0, 1] q.1, q.2)
noncomputable def f29_r1 (call : CallF) : Env → Mem → Option (Env × Mem) := fun e M =>
    (nx (oMv (eget e 0)) (some 6) e M fun e M =>
    nx (oLen cx.P 47 (eget e 6) M) (some 7) e M fun e M =>
    nx (oMv (eget e 1)) (some 8) e M fun e M =>
    nx (oLen cx.P 47 (eget e 8) M) (some 9) e M fun e M =>
    nx (oBin cx.P .neq 3 (eget e 7) (eget e 9) M) (some 10) e M fun e M =>
    some (e, M)).map fun q => (prune [0, 1, 10] q.1, q.2)
noncomputable def f29_r2 (call : CallF) : Env → Mem → Option (Env × Mem) := fun e M =>
    (nx (oMv (.bool false)) (some 4) e M fun e M =>
    some (e, M)).map fun q => (prune [4] q.1, q.2)
noncomputable def f29_r3 (call : CallF) : Env → Mem → Option (Env × Mem) := fun e M =>
    (nx (oMv (.int .i64 0)) (some 5) e M fun e M =>
    some (e, M)).map fun q => (prune [0, 1, 5] q.1, q.2)
noncomputable def f29_r4 (call : CallF) : Env → Mem → Option (Env × Mem) := fun e M =>
    (nx (oMv (eget e 5)) (some 11) e M fun e M =>
    nx (oMv (eget e 0)) (some 12) e M fun e M =>
    nx (oLen cx.P 47 (eget e 12) M) (some 13) e M fun e M =>
    nx (oBin cx.P .lss 3 (eget e 11) (eget e 13) M) (some 14) e M fun e M =>
    some (e, M)).map fun q => (prune [0, 1, 5, 14] q.1, q.2)
noncomputable def f29_r5 (call : CallF) : Env → Mem → Option (Env × Mem) := fun e M =>
    (nx (oMv (eget e 5)) (some 15) e M fun e M =>
    nx (oBin cx.P .add 3 (eget e 15) (.int .i64 1) M) (some 16) e M fun e M =>
    nx (oMv (eget e 16)) (some 5) e M fun e M =>
    some (e, M)).map fun q => (prune [0, 1, 5] q.1, q.2)
noncomputable def f29_r6 (call : CallF) : Env → Mem → Option (Env × Mem) := fun e M =>
    rD [0, 1, 5, 25] (fun (C : List Ob) =>
    nf (oMv (eget e 0)) (some 17) false e C fun e C =>
    nf (oMv (eget e 5)) (some 18) false e C fun e C =>
    nf (keep (aIndexS 1 (eget e 17) (eget e 18) M)) (some 19) false e C fun e C =>
    nf (keep (aLoad false 1 (eget e 19) M)) (some 20) false e C fun e C =>
    nf (oMv (eget e 1)) (some 21) false e C fun e C =>
    nf (oMv (eget e 5)) (some 22) false e C fun e C =>
    nf (keep (aIndexS 1 (eget e 21) (eget e 22) M)) (some 23) false e C fun e C =>
    nf (keep (aLoad false 1 (eget e 23) M)) (some 24) false e C fun e C =>
    nf (oBin cx.P .neq 2 (eget e 20) (eget e 24) M) (some 25) false e C fun e C =>
    some (e, C)) (fun (e : Env) (M : Mem) =>
    some (e, M)) M
noncomputable def f29_r7 (call : CallF) : Env → Mem → Option (Env × Mem) := fun e M =>
    (nx (oMv (.bool false)) (some 4) e M fun e M =>
    some (e, M)).map fun q => (prune [4] q.1, q.2)
noncomputable def f29_r8 (call : CallF) : Env → Mem → Option (Env × Mem) := fun e M =>
    (nx (oMv (.bool true)) (some 4) e M fun e M =>
    some (e, M)).map fun q => (prune [4] q.1, q.2)
noncomputable def f29_l4 (call : CallF) (k : Nat) : St :=
  (bSeq (bSeq (bReg (f29_r4 call))
  (bCond (.tmp 14)
   (bEx .nrm)
   (bEx (.ext 0))))
  (bSeq (bBlock 1 (bSeq (bReg (f29_r6 call))
   (bCond (.tmp 25)
    (bSeq (bReg (f29_r7 call))
    (bEx .ret))
    (bEx .nrm))))
  (bReg (f29_r5 call))))
noncomputable def f29 (call : CallF) (k : Nat) : St :=
  (bSeq (bReg (f29_r0 call))
  (bSeq (bSeq (bReg (f29_r1 call))
  (bCond (.tmp 10)
   (bSeq (bReg (f29_r2 call))
   (bEx .ret))
   (bEx .nrm)))
  (bSeq (bSeq (bReg (f29_r3 call))
  (bBlock 0 (bLoop [0, 1, 5] (f29_l4 call k) k)))
  (bSeq (bReg (f29_r8 call))
  (bEx .ret)))))
theorem f29_eq (call : CallF) (k : Nat) : exec cx call 26 f29_an k (Try.f29.body.getD .skip) = f29 call k := by kernel_rfl
/-! ### f32: loop.example/g01263/laws.markInt64S -/
def f32_an : Ann := ⟨[(0, ⟨[], [], [], [], [0, 1]⟩), (1, ⟨[], [], [], [], [0, 1, 5]⟩), (2, ⟨[], [], [], [], [0, 1, 5, 9]⟩), (3, ⟨[], [], [], [], [0, 1, 5]⟩), (4, ⟨[], [], [], [], [0, 1, 5]⟩), (5, ⟨[], [], [], [], [0, 1, 5]⟩), (6, ⟨[], [], [], [], [4]⟩)], [(2, [0, 1, 5])]⟩
noncomputable def f32_r0 (call : CallF) : Env → Mem → Option (Env × Mem) := fun e M =>
    (nx (oMv (.int .i64 0)) (some 4) e M fun e M =>
    some (e, M)).map fun q => (prune [0, 1] q.1, q.2)
noncomputable def f32_r1 (call : CallF) : Env → Mem → Option (Env × Mem) := fun e M =>
    (nx (oMv (.int .i64 0)) (some 5) e M fun e M =>
    some (e, M)).map fun q => (prune [0, 1, 5] q.1, q.2)
noncomputable def f32_r2 (call : CallF) : Env → Mem → Option (Env × Mem) := fun e M =>
    (nx (oMv (eget e 5)) (some 6) e M fun e M =>
    nx (oMv (eget e 0)) (some 7) e M fun e M =>
    nx (oLen cx.P 47 (eget e 7) M) (some 8) e M fun e M =>
    nx (oBin cx.P .lss 3 (eget e 6) (eget e 8) M) (some 9) e M fun e M =>
    some (e, M)).map fun q => (prune [0, 1, 5, 9] q.1, q.2)
noncomputable def f32_r3 (call : CallF) : Env → Mem → Option (Env × Mem) := fun e M =>
    (nx (oMv (eget e 5)) (some 10) e M fun e M =>
    nx (oBin cx.P .add 3 (eget e 10) (.int .i64 1) M) (some 11) e M fun e M =>
    nx (oMv (eget e 11)) (some 5) e M fun e M =>
    some (e, M)).map fun q => (prune [0, 1, 5] q.1, q.2)
noncomputable def f32_r4 (call : CallF) : Env → Mem → Option (Env × Mem) := fun e M =>
    (nx (oMv (eget e 0)) (some 12) e M fun e M =>
    nx (oMv (eget e 5)) (some 13) e M fun e M =>
    nx (oMv (eget e 1)) (some 14) e M fun e M =>
    nx (keep (aIndexS 1 (eget e 12) (eget e 13) M)) (some 15) e M fun e M =>
    nx (oStore 1 (eget e 15) (eget e 14) M) none e M fun e M =>
    some (e, M)).map fun q => (prune [0, 1, 5] q.1, q.2)
noncomputable def f32_r5 (call : CallF) : Env → Mem → Option (Env × Mem) := fun e M =>
    (nx (oMv (eget e 1)) (some 16) e M fun e M =>
    nx (oBin cx.P .add 3 (eget e 16) (.int .i64 1) M) (some 17) e M fun e M =>
    nx (oMv (eget e 17)) (some 1) e M fun e M =>
    some (e, M)).map fun q => (prune [0, 1, 5] q.1, q.2)
noncomputable def f32_r6 (call : CallF) : Env → Mem → Option (Env × Mem) := fun e M =>
    (nx (oMv (eget e 1)) (some 18) e M fun e M =>
    nx (oMv (eget e 18)) (some 4) e M fun e M =>
    some (e, M)).map fun q => (prune [4] q.1, q.2)
noncomputable def f32_l2 (call : CallF) (k : Nat) : St :=
  (bSeq (bSeq (bReg (f32_r2 call))
  (bCond (.tmp 9)
   (bEx .nrm)
   (bEx (.ext 0))))
  (bSeq (bBlock 1 (bSeq (bReg (f32_r4 call))
   (bReg (f32_r5 call))))
  (bReg (f32_r3 call))))
noncomputable def f32 (call : CallF) (k : Nat) : St :=
  (bSeq (bReg (f32_r0 call))
  (bSeq (bSeq (bReg (f32_r1 call))
  (bBlock 0 (bLoop [0, 1, 5] (f32_l2 call k) k)))
  (bSeq (bReg (f32_r6 call))
  (bEx .ret))))
theorem f32_eq (call : CallF) (k : Nat) : exec cx call 19 f32_an k (Try.f32.body.getD .skip) = f32 call k := by kernel_rfl
/-! ### f33: loop.example/g01263/laws.heldInt64S -/
def f33_an : Ann := ⟨[(0, ⟨[], [], [], [], [0, 1]⟩), (1, ⟨[], [], [], [], [0, 1, 5]⟩), (2, ⟨[], [], [], [], [0, 1, 5, 9]⟩), (3, ⟨[], [], [], [], [0, 1, 5]⟩), (4, ⟨[], [], [], [], [0, 1, 5, 17]⟩), (5, ⟨[], [], [], [], [4]⟩), (6, ⟨[], [], [], [], [0, 1, 5]⟩), (7, ⟨[], [], [], [], [4]⟩)], [(2, [0, 1, 5])]⟩
noncomputable def f33_r0 (call : CallF) : Env → Mem → Option (Env × Mem) := fun e M =>
    (nx (oMv (.int .i64 0)) (some 4) e M fun e M =>
    some (e, M)).map fun q => (prune [0, 1] q.1, q.2)
noncomputable def f33_r1 (call : CallF) : Env → Mem → Option (Env × Mem) := fun e M =>
    (nx (oMv (.int .i64 0)) (some 5) e M fun e M =>
    some (e, M)).map fun q => (prune [0, 1, 5] q.1, q.2)
noncomputable def f33_r2 (call : CallF) : Env → Mem → Option (Env × Mem) := fun e M =>
    (nx (oMv (eget e 5)) (some 6) e M fun e M =>
    nx (oMv (eget e 0)) (some 7) e M fun e M =>
    nx (oLen cx.P 47 (eget e 7) M) (some 8) e M fun e M =>
    nx (oBin cx.P .lss 3 (eget e 6) (eget e 8) M) (some 9) e M fun e M =>
    some (e, M)).map fun q => (prune [0, 1, 5, 9] q.1, q.2)
noncomputable def f33_r3 (call : CallF) : Env → Mem → Option (Env × Mem) := fun e M =>
    (nx (oMv (eget e 5)) (some 10) e M fun e M =>
    nx (oBin cx.P .add 3 (eget e 10) (.int .i64 1) M) (some 11) e M fun e M =>
    nx (oMv (eget e 11)) (some 5) e M fun e M =>
    some (e, M)).map fun q => (prune [0, 1, 5] q.1, q.2)
noncomputable def f33_r4 (call : CallF) : Env → Mem → Option (Env × Mem) := fun e M =>
    (nx (oMv (eget e 0)) (some 12) e M fun e M =>
    nx (oMv (eget e 5)) (some 13) e M fun e M =>
    nx (keep (aIndexS 1 (eget e 12) (eget e 13) M)) (some 14) e M fun e M =>
    nx (keep (aLoad false 1 (eget e 14) M)) (some 15) e M fun e M =>
    nx (oMv (eget e 1)) (some 16) e M fun e M =>
    nx (oBin cx.P .neq 2 (eget e 15) (eget e 16) M) (some 17) e M fun e M =>
    some (e, M)).map fun q => (prune [0, 1, 5, 17] q.1, q.2)
noncomputable def f33_r5 (call : CallF) : Env → Mem → Option (Env × Mem) := fun e M =>
    (nx (oMv (.int .i64 (-1))) (some 4) e M fun e M =>
    some (e, M)).map fun q => (prune [4] q.1, q.2)
noncomputable def f33_r6 (call : CallF) : Env → Mem → Option (Env × Mem) := fun e M =>
    (nx (oMv (eget e 1)) (some 18) e M fun e M =>
    nx (oBin cx.P .add 3 (eget e 18) (.int .i64 1) M) (some 19) e M fun e M =>
    nx (oMv (eget e 19)) (some 1) e M fun e M =>
    some (e, M)).map fun q => (prune [0, 1, 5] q.1, q.2)
noncomputable def f33_r7 (call : CallF) : Env → Mem → Option (Env × Mem) := fun e M =>
    (nx (oMv (eget e 1)) (some 20) e M fun e M =>
    nx (oMv (eget e 20)) (some 4) e M fun e M =>
    some (e, M)).map fun q => (prune [4] q.1, q.2)
noncomputable def f33_l2 (call : CallF) (k : Nat) : St :=
  (bSeq (bSeq (bReg (f33_r2 call))
  (bCond (.tmp 9)
   (bEx .nrm)
   (bEx (.ext 0))))
  (bSeq (bBlock 1 (bSeq (bSeq (bReg (f33_r4 call))
   (bCond (.tmp 17)
    (bSeq (bReg (f33_r5 call))
    (bEx .ret))
    (bEx .nrm)))
   (bReg (f33_r6 call))))
  (bReg (f33_r3 call))))
noncomputable def f33 (call : CallF) (k : Nat) : St :=
  (bSeq (bReg (f33_r0 call))
  (bSeq (bSeq (bReg (f33_r1 call))
  (bBlock 0 (bLoop [0, 1, 5] (f33_l2 call k) k)))
  (bSeq (bReg (f33_r7 call))
  (bEx .ret))))
theorem f33_eq (call : CallF) (k : Nat) : exec cx call 21 f33_an k (Try.f33.body.getD .skip) = f33 call k := by kernel_rfl
/-! ### f59: loop.example/g01263/laws.szInt64S -/
def f59_an : Ann := ⟨[(0, ⟨[], [], [], [], [0, 1]⟩), (1, ⟨[], [], [], [], [1]⟩), (2, ⟨[], [], [], [], [1, 10]⟩), (3, ⟨[], [], [], [], [4]⟩), (4, ⟨[], [], [], [], [4]⟩)], []⟩
noncomputable def f59_r0 (call : CallF) : Env → Mem → Option (Env × Mem) := fun e M =>
    (nx (oMv (.int .i64 0)) (some 4) e M fun e M =>
    some (e, M)).map fun q => (prune [0, 1] q.1, q.2)
noncomputable def f59_r1 (call : CallF) : Env → Mem → Option (Env × Mem) := fun e M =>
    (nx (oMv (eget e 1)) (some 5) e M fun e M =>
    nx (oMv (eget e 0)) (some 6) e M fun e M =>
    nx (oLen cx.P 47 (eget e 6) M) (some 7) e M fun e M =>
    nx (oBin cx.P .sub 3 (eget e 5) (eget e 7) M) (some 8) e M fun e M =>
    nx (oMv (eget e 8)) (some 1) e M fun e M =>
    some (e, M)).map fun q => (prune [1] q.1, q.2)
noncomputable def f59_r2 (call : CallF) : Env → Mem → Option (Env × Mem) := fun e M =>
    (nx (oMv (eget e 1)) (some 9) e M fun e M =>
    nx (oBin cx.P .lss 3 (eget e 9) (.int .i64 0) M) (some 10) e M fun e M =>
    some (e, M)).map fun q => (prune [1, 10] q.1, q.2)
noncomputable def f59_r3 (call : CallF) : Env → Mem → Option (Env × Mem) := fun e M =>
    (nx (oMv (.int .i64 (-1))) (some 4) e M fun e M =>
    some (e, M)).map fun q => (prune [4] q.1, q.2)
noncomputable def f59_r4 (call : CallF) : Env → Mem → Option (Env × Mem) := fun e M =>
    (nx (oMv (eget e 1)) (some 11) e M fun e M =>
    nx (oMv (eget e 11)) (some 4) e M fun e M =>
    some (e, M)).map fun q => (prune [4] q.1, q.2)
noncomputable def f59 (call : CallF) (k : Nat) : St :=
  (bSeq (bReg (f59_r0 call))
  (bSeq (bReg (f59_r1 call))
  (bSeq (bSeq (bReg (f59_r2 call))
  (bCond (.tmp 10)
   (bSeq (bReg (f59_r3 call))
   (bEx .ret))
   (bEx .nrm)))
  (bSeq (bReg (f59_r4 call))
  (bEx .ret)))))
theorem f59_eq (call : CallF) (k : Nat) : exec cx call 12 f59_an k (Try.f59.body.getD .skip) = f59 call k := by kernel_rfl
/-! ### f60: loop.example/g01263/laws.szTallyS -/
def f60_an : Ann := ⟨[(0, ⟨[], [], [], [], [0, 1]⟩), (1, ⟨[], [], [], [], [1]⟩), (2, ⟨[], [], [], [], [1, 10]⟩), (3, ⟨[], [], [], [], [4]⟩), (4, ⟨[], [], [], [], [4]⟩)], []⟩
noncomputable def f60_r0 (call : CallF) : Env → Mem → Option (Env × Mem) := fun e M =>
    (nx (oMv (.int .i64 0)) (some 4) e M fun e M =>
    some (e, M)).map fun q => (prune [0, 1] q.1, q.2)
noncomputable def f60_r1 (call : CallF) : Env → Mem → Option (Env × Mem) := fun e M =>
    (nx (oMv (eget e 1)) (some 5) e M fun e M =>
    nx (oMv (eget e 0)) (some 6) e M fun e M =>
    nx (oLen cx.P 48 (eget e 6) M) (some 7) e M fun e M =>
    nx (oBin cx.P .sub 3 (eget e 5) (eget e 7) M) (some 8) e M fun e M =>
    nx (oMv (eget e 8)) (some 1) e M fun e M =>
    some (e, M)).map fun q => (prune [1] q.1, q.2)
noncomputable def f60_r2 (call : CallF) : Env → Mem → Option (Env × Mem) := fun e M =>
    (nx (oMv (eget e 1)) (some 9) e M fun e M =>
    nx (oBin cx.P .lss 3 (eget e 9) (.int .i64 0) M) (some 10) e M fun e M =>
    some (e, M)).map fun q => (prune [1, 10] q.1, q.2)
noncomputable def f60_r3 (call : CallF) : Env → Mem → Option (Env × Mem) := fun e M =>
    (nx (oMv (.int .i64 (-1))) (some 4) e M fun e M =>
    some (e, M)).map fun q => (prune [4] q.1, q.2)
noncomputable def f60_r4 (call : CallF) : Env → Mem → Option (Env × Mem) := fun e M =>
    (nx (oMv (eget e 1)) (some 11) e M fun e M =>
    nx (oMv (eget e 11)) (some 4) e M fun e M =>
    some (e, M)).map fun q => (prune [4] q.1, q.2)
noncomputable def f60 (call : CallF) (k : Nat) : St :=
  (bSeq (bReg (f60_r0 call))
  (bSeq (bReg (f60_r1 call))
  (bSeq (bSeq (bReg (f60_r2 call))
  (bCond (.tmp 10)
   (bSeq (bReg (f60_r3 call))
   (bEx .ret))
   (bEx .nrm)))
  (bSeq (bReg (f60_r4 call))
  (bEx .ret)))))
theorem f60_eq (call : CallF) (k : Nat) : exec cx call 12 f60_an k (Try.f60.body.getD .skip) = f60 call k := by kernel_rfl
/-! ### f61: loop.example/g01263/spec.l07Ok -/
def f61_an : Ann := ⟨[(0, ⟨[], [], [], [], [0]⟩), (1, ⟨[], [], [], [], [0, 27]⟩), (2, ⟨[], [], [], [], [2]⟩), (3, ⟨[], [], [], [], [0, 3]⟩), (4, ⟨[], [], [], [], [0, 3, 4]⟩), (5, ⟨[], [], [], [], [0, 3, 4, 39]⟩), (6, ⟨[], [], [], [], [0, 3, 4]⟩), (7, ⟨[], [], [], [], [0, 3, 4, 5]⟩), (8, ⟨[], [], [], [], [0, 3, 4, 5, 95]⟩), (9, ⟨[], [], [], [], [2]⟩), (10, ⟨[], [], [], [], [0, 3, 4, 131]⟩), (11, ⟨[], [], [], [], [2]⟩), (12, ⟨[], [], [], [], [2]⟩)], [(5, [0, 3, 4])]⟩
noncomputable def f61_r0 (call : CallF) : Env → Mem → Option (Env × Mem) := fun e M =>
    (nx (oMv (.bool false)) (some 2) e M fun e M =>
    some (e, M)).map fun q => (prune [0] q.1, q.2)
noncomputable def f61_r1 (call : CallF) : Env → Mem → Option (Env × Mem) := fun e M =>
    (nx (oMv (eget e 0)) (some 6) e M fun e M =>
    nx (keep (aNilCheck (eget e 6) M)) (some 7) e M fun e M =>
    nx (keep (aFieldAddr 0 1 (eget e 7) M)) (some 8) e M fun e M =>
    nx (keep (aLoad false 1 (eget e 8) M)) (some 9) e M fun e M =>
    nx (aCall cx.P.cellsOf cx.rw call false M.length 98 [(eget e 9)] M) (some 10) e M fun e M =>
    nx (keep (aUn .not (eget e 10))) (some 11) e M fun e M =>
    nx (oMv (eget e 11)) (some 12) e M fun e M =>
    nx (aGuard (some ((eget e 12), false)) (oMv (eget e 0))) (some 13) e M fun e M =>
    nx (aGuard (some ((eget e 12), false)) (keep (aNilCheck (eget e 13) M))) (some 14) e M fun e M =>
    nx (aGuard (some ((eget e 12), false)) (keep (aFieldAddr 1 1 (eget e 14) M))) (some 15) e M fun e M =>
    nx (aGuard (some ((eget e 12), false)) (keep (aLoad false 1 (eget e 15) M))) (some 16) e M fun e M =>
    nx (aGuard (some ((eget e 12), false)) (aCall cx.P.cellsOf cx.rw call false M.length 99 [(eget e 16)] M)) (some 17) e M fun e M =>
    nx (aGuard (some ((eget e 12), false)) (keep (aUn .not (eget e 17)))) (some 18) e M fun e M =>
    nx (keep (aPick (eget e 12) (.bool true) (eget e 18))) (some 19) e M fun e M =>
    nx (oMv (eget e 19)) (some 20) e M fun e M =>
    nx (aGuard (some ((eget e 20), false)) (oMv (eget e 0))) (some 21) e M fun e M =>
    nx (aGuard (some ((eget e 20), false)) (keep (aNilCheck (eget e 21) M))) (some 22) e M fun e M =>
    nx (aGuard (some ((eget e 20), false)) (keep (aFieldAddr 2 1 (eget e 22) M))) (some 23) e M fun e M =>
    nx (aGuard (some ((eget e 20), false)) (keep (aLoad false 1 (eget e 23) M))) (some 24) e M fun e M =>
    nx (aGuard (some ((eget e 20), false)) (oLen cx.P 54 (eget e 24) M)) (some 25) e M fun e M =>
    nx (aGuard (some ((eget e 20), false)) (oBin cx.P .gtr 3 (eget e 25) (.int .i64 40) M)) (some 26) e M fun e M =>
    nx (keep (aPick (eget e 20) (.bool true) (eget e 26))) (some 27) e M fun e M =>
    some (e, M)).map fun q => (prune [0, 27] q.1, q.2)
noncomputable def f61_r2 (call : CallF) : Env → Mem → Option (Env × Mem) := fun e M =>
    (nx (oMv (.bool false)) (some 2) e M fun e M =>
    some (e, M)).map fun q => (prune [2] q.1, q.2)
noncomputable def f61_r3 (call : CallF) : Env → Mem → Option (Env × Mem) := fun e M =>
    (nx (oMv (eget e 0)) (some 28) e M fun e M =>
    nx (keep (aNilCheck (eget e 28) M)) (some 29) e M fun e M =>
    nx (keep (aFieldAddr 1 1 (eget e 29) M)) (some 30) e M fun e M =>
    nx (keep (aLoad false 1 (eget e 30) M)) (some 31) e M fun e M =>
    nx (oLen cx.P 47 (eget e 31) M) (some 32) e M fun e M =>
    nx (oMv (eget e 32)) (some 3) e M fun e M =>
    some (e, M)).map fun q => (prune [0, 3] q.1, q.2)
noncomputable def f61_r4 (call : CallF) : Env → Mem → Option (Env × Mem) := fun e M =>
    (nx (oMv (.int .i64 0)) (some 4) e M fun e M =>
    some (e, M)).map fun q => (prune [0, 3, 4] q.1, q.2)
noncomputable def f61_r5 (call : CallF) : Env → Mem → Option (Env × Mem) := fun e M =>
    (nx (oMv (eget e 4)) (some 33) e M fun e M =>
    nx (oMv (eget e 0)) (some 34) e M fun e M =>
    nx (keep (aNilCheck (eget e 34) M)) (some 35) e M fun e M =>
    nx (keep (aFieldAddr 2 1 (eget e 35) M)) (some 36) e M fun e M =>
    nx (keep (aLoad false 1 (eget e 36) M)) (some 37) e M fun e M =>
    nx (oLen cx.P 54 (eget e 37) M) (some 38) e M fun e M =>
    nx (oBin cx.P .lss 3 (eget e 33) (eget e 38) M) (some 39) e M fun e M =>
    some (e, M)).map fun q => (prune [0, 3, 4, 39] q.1, q.2)
noncomputable def f61_r6 (call : CallF) : Env → Mem → Option (Env × Mem) := fun e M =>
    (nx (oMv (eget e 4)) (some 40) e M fun e M =>
    nx (oBin cx.P .add 3 (eget e 40) (.int .i64 1) M) (some 41) e M fun e M =>
    nx (oMv (eget e 41)) (some 4) e M fun e M =>
    some (e, M)).map fun q => (prune [0, 3, 4] q.1, q.2)
noncomputable def f61_r7 (call : CallF) : Env → Mem → Option (Env × Mem) := fun e M =>
    (nx (oMv (eget e 0)) (some 42) e M fun e M =>
    nx (keep (aNilCheck (eget e 42) M)) (some 43) e M fun e M =>
    nx (keep (aFieldAddr 2 1 (eget e 43) M)) (some 44) e M fun e M =>
    nx (keep (aLoad false 1 (eget e 44) M)) (some 45) e M fun e M =>
    nx (oMv (eget e 4)) (some 46) e M fun e M =>
    nx (keep (aIndexS 5 (eget e 45) (eget e 46) M)) (some 47) e M fun e M =>
    nx (oMv (eget e 47)) (some 5) e M fun e M =>
    some (e, M)).map fun q => (prune [0, 3, 4, 5] q.1, q.2)
noncomputable def f61_r8 (call : CallF) : Env → Mem → Option (Env × Mem) := fun e M =>
    rD [0, 3, 4, 5, 95] (fun (C : List Ob) =>
    nf (oMv (eget e 3)) (some 48) false e C fun e C =>
    nf (oMv (eget e 5)) (some 49) false e C fun e C =>
    nf (keep (aNilCheck (eget e 49) M)) (some 50) false e C fun e C =>
    nf (keep (aFieldAddr 0 1 (eget e 50) M)) (some 51) false e C fun e C =>
    nf (keep (aLoad false 1 (eget e 51) M)) (some 52) false e C fun e C =>
    nf (aCall cx.P.cellsOf cx.rw call false (M.length + C.length) 100 [(eget e 48), (eget e 52)] M) (some 53) false e C fun e C =>
    nf (keep (aUn .not (eget e 53))) (some 54) false e C fun e C =>
    nf (oMv (eget e 54)) (some 55) false e C fun e C =>
    nf (aGuard (some ((eget e 55), false)) (oMv (eget e 3))) (some 56) false e C fun e C =>
    nf (aGuard (some ((eget e 55), false)) (oMv (eget e 5))) (some 57) false e C fun e C =>
    nf (aGuard (some ((eget e 55), false)) (keep (aNilCheck (eget e 57) M))) (some 58) false e C fun e C =>
    nf (aGuard (some ((eget e 55), false)) (keep (aFieldAddr 1 1 (eget e 58) M))) (some 59) false e C fun e C =>
    nf (aGuard (some ((eget e 55), false)) (keep (aLoad false 1 (eget e 59) M))) (some 60) false e C fun e C =>
    nf (aGuard (some ((eget e 55), false)) (aCall cx.P.cellsOf cx.rw call false (M.length + C.length) 100 [(eget e 56), (eget e 60)] M)) (some 61) false e C fun e C =>
    nf (aGuard (some ((eget e 55), false)) (keep (aUn .not (eget e 61)))) (some 62) false e C fun e C =>
    nf (keep (aPick (eget e 55) (.bool true) (eget e 62))) (some 63) false e C fun e C =>
    nf (oMv (eget e 63)) (some 64) false e C fun e C =>
    nf (aGuard (some ((eget e 64), false)) (oMv (eget e 5))) (some 65) false e C fun e C =>
    nf (aGuard (some ((eget e 64), false)) (keep (aNilCheck (eget e 65) M))) (some 66) false e C fun e C =>
    nf (aGuard (some ((eget e 64), false)) (keep (aFieldAddr 2 1 (eget e 66) M))) (some 67) false e C fun e C =>
    nf (aGuard (some ((eget e 64), false)) (keep (aLoad false 1 (eget e 67) M))) (some 68) false e C fun e C =>
    nf (aGuard (some ((eget e 64), false)) (oMv (eget e 0))) (some 69) false e C fun e C =>
    nf (aGuard (some ((eget e 64), false)) (keep (aNilCheck (eget e 69) M))) (some 70) false e C fun e C =>
    nf (aGuard (some ((eget e 64), false)) (keep (aFieldAddr 0 1 (eget e 70) M))) (some 71) false e C fun e C =>
    nf (aGuard (some ((eget e 64), false)) (keep (aLoad false 1 (eget e 71) M))) (some 72) false e C fun e C =>
    nf (aGuard (some ((eget e 64), false)) (aCall cx.P.cellsOf cx.rw call false (M.length + C.length) 88 [(eget e 68), (.int .i64 0), (eget e 72)] M)) (some 73) false e C fun e C =>
    nf (aGuard (some ((eget e 64), false)) (keep (aUn .not (eget e 73)))) (some 74) false e C fun e C =>
    nf (keep (aPick (eget e 64) (.bool true) (eget e 74))) (some 75) false e C fun e C =>
    nf (oMv (eget e 75)) (some 76) false e C fun e C =>
    nf (aGuard (some ((eget e 76), false)) (oMv (eget e 5))) (some 77) false e C fun e C =>
    nf (aGuard (some ((eget e 76), false)) (keep (aNilCheck (eget e 77) M))) (some 78) false e C fun e C =>
    nf (aGuard (some ((eget e 76), false)) (keep (aFieldAddr 3 1 (eget e 78) M))) (some 79) false e C fun e C =>
    nf (aGuard (some ((eget e 76), false)) (keep (aLoad false 1 (eget e 79) M))) (some 80) false e C fun e C =>
    nf (aGuard (some ((eget e 76), false)) (aCall cx.P.cellsOf cx.rw call false (M.length + C.length) 88 [(eget e 80), (.int .i64 1), (.int .i64 100000000)] M)) (some 81) false e C fun e C =>
    nf (aGuard (some ((eget e 76), false)) (keep (aUn .not (eget e 81)))) (some 82) false e C fun e C =>
    nf (keep (aPick (eget e 76) (.bool true) (eget e 82))) (some 83) false e C fun e C =>
    nf (oMv (eget e 83)) (some 84) false e C fun e C =>
    nf (aGuard (some ((eget e 84), false)) (oMv (eget e 5))) (some 85) false e C fun e C =>
    nf (aGuard (some ((eget e 84), false)) (keep (aNilCheck (eget e 85) M))) (some 86) false e C fun e C =>
    nf (aGuard (some ((eget e 84), false)) (keep (aFieldAddr 4 1 (eget e 86) M))) (some 87) false e C fun e C =>
    nf (aGuard (some ((eget e 84), false)) (keep (aLoad false 1 (eget e 87) M))) (some 88) false e C fun e C =>
    nf (aGuard (some ((eget e 84), false)) (oMv (eget e 5))) (some 89) false e C fun e C =>
    nf (aGuard (some ((eget e 84), false)) (keep (aNilCheck (eget e 89) M))) (some 90) false e C fun e C =>
    nf (aGuard (some ((eget e 84), false)) (keep (aFieldAddr 3 1 (eget e 90) M))) (some 91) false e C fun e C =>
    nf (aGuard (some ((eget e 84), false)) (keep (aLoad false 1 (eget e 91) M))) (some 92) false e C fun e C =>
    nf (aGuard (some ((eget e 84), false)) (aCall cx.P.cellsOf cx.rw call false (M.length + C.length) 88 [(eget e 88), (.int .i64 0), (eget e 92)] M)) (some 93) false e C fun e C =>
    nf (aGuard (some ((eget e 84), false)) (keep (aUn .not (eget e 93)))) (some 94) false e C fun e C =>
    nf (keep (aPick (eget e 84) (.bool true) (eget e 94))) (some 95) false e C fun e C =>
    some (e, C)) (fun (e : Env) (M : Mem) =>
    some (e, M)) M
noncomputable def f61_r9 (call : CallF) : Env → Mem → Option (Env × Mem) := fun e M =>
    (nx (oMv (.bool false)) (some 2) e M fun e M =>
    some (e, M)).map fun q => (prune [2] q.1, q.2)
noncomputable def f61_r10 (call : CallF) : Env → Mem → Option (Env × Mem) := fun e M =>
    rD [0, 3, 4, 131] (fun (C : List Ob) =>
    nf (oMv (eget e 5)) (some 96) false e C fun e C =>
    nf (keep (aNilCheck (eget e 96) M)) (some 97) false e C fun e C =>
    nf (keep (aFieldAddr 0 1 (eget e 97) M)) (some 98) false e C fun e C =>
    nf (keep (aLoad false 1 (eget e 98) M)) (some 99) false e C fun e C =>
    nf (oMv (eget e 5)) (some 100) false e C fun e C =>
    nf (keep (aNilCheck (eget e 100) M)) (some 101) false e C fun e C =>
    nf (keep (aFieldAddr 1 1 (eget e 101) M)) (some 102) false e C fun e C =>
    nf (keep (aLoad false 1 (eget e 102) M)) (some 103) false e C fun e C =>
    nf (oBin cx.P .eql 2 (eget e 99) (eget e 103) M) (some 104) false e C fun e C =>
    nf (oMv (eget e 104)) (some 105) false e C fun e C =>
    nf (aGuard (some ((eget e 105), true)) (oMv (eget e 5))) (some 106) false e C fun e C =>
    nf (aGuard (some ((eget e 105), true)) (keep (aNilCheck (eget e 106) M))) (some 107) false e C fun e C =>
    nf (aGuard (some ((eget e 105), true)) (keep (aFieldAddr 4 1 (eget e 107) M))) (some 108) false e C fun e C =>
    nf (aGuard (some ((eget e 105), true)) (keep (aLoad false 1 (eget e 108) M))) (some 109) false e C fun e C =>
    nf (aGuard (some ((eget e 105), true)) (oBin cx.P .neq 2 (eget e 109) (.int .i64 0) M)) (some 110) false e C fun e C =>
    nf (keep (aPick (eget e 105) (eget e 110) (.bool false))) (some 111) false e C fun e C =>
    nf (oMv (eget e 111)) (some 112) false e C fun e C =>
    nf (aGuard (some ((eget e 112), false)) (oMv (eget e 4))) (some 113) false e C fun e C =>
    nf (aGuard (some ((eget e 112), false)) (oBin cx.P .gtr 3 (eget e 113) (.int .i64 0) M)) (some 114) false e C fun e C =>
    nf (aGuard (some ((eget e 112), false)) (oMv (eget e 114))) (some 115) false e C fun e C =>
    nf (aGuard (some ((eget e 115), true)) (oMv (eget e 5))) (some 116) false e C fun e C =>
    nf (aGuard (some ((eget e 115), true)) (keep (aNilCheck (eget e 116) M))) (some 117) false e C fun e C =>
    nf (aGuard (some ((eget e 115), true)) (keep (aFieldAddr 2 1 (eget e 117) M))) (some 118) false e C fun e C =>
    nf (aGuard (some ((eget e 115), true)) (keep (aLoad false 1 (eget e 118) M))) (some 119) false e C fun e C =>
    nf (aGuard (some ((eget e 115), true)) (oMv (eget e 0))) (some 120) false e C fun e C =>
    nf (aGuard (some ((eget e 115), true)) (keep (aNilCheck (eget e 120) M))) (some 121) false e C fun e C =>
    nf (aGuard (some ((eget e 115), true)) (keep (aFieldAddr 2 1 (eget e 121) M))) (some 122) false e C fun e C =>
    nf (aGuard (some ((eget e 115), true)) (keep (aLoad false 1 (eget e 122) M))) (some 123) false e C fun e C =>
    nf (aGuard (some ((eget e 115), true)) (oMv (eget e 4))) (some 124) false e C fun e C =>
    nf (aGuard (some ((eget e 115), true)) (oBin cx.P .sub 3 (eget e 124) (.int .i64 1) M)) (some 125) false e C fun e C =>
    nf (aGuard (some ((eget e 115), true)) (keep (aIndexS 5 (eget e 123) (eget e 125) M))) (some 126) false e C fun e C =>
    nf (aGuard (some ((eget e 115), true)) (keep (aFieldAddr 2 1 (eget e 126) M))) (some 127) false e C fun e C =>
    nf (aGuard (some ((eget e 115), true)) (keep (aLoad false 1 (eget e 127) M))) (some 128) false e C fun e C =>
    nf (aGuard (some ((eget e 115), true)) (oBin cx.P .lss 2 (eget e 119) (eget e 128) M)) (some 129) false e C fun e C =>
    nf (aGuard (some ((eget e 112), false)) (keep (aPick (eget e 115) (eget e 129) (.bool false)))) (some 130) false e C fun e C =>
    nf (keep (aPick (eget e 112) (.bool true) (eget e 130))) (some 131) false e C fun e C =>
    some (e, C)) (fun (e : Env) (M : Mem) =>
    some (e, M)) M
noncomputable def f61_r11 (call : CallF) : Env → Mem → Option (Env × Mem) := fun e M =>
    (nx (oMv (.bool false)) (some 2) e M fun e M =>
    some (e, M)).map fun q => (prune [2] q.1, q.2)
noncomputable def f61_r12 (call : CallF) : Env → Mem → Option (Env × Mem) := fun e M =>
    (nx (oMv (.bool true)) (some 2) e M fun e M =>
    some (e, M)).map fun q => (prune [2] q.1, q.2)
noncomputable def f61_l5 (call : CallF) (k : Nat) : St :=
  (bSeq (bSeq (bReg (f61_r5 call))
  (bCond (.tmp 39)
   (bEx .nrm)
   (bEx (.ext 0))))
  (bSeq (bBlock 1 (bSeq (bReg (f61_r7 call))
   (bSeq (bSeq (bReg (f61_r8 call))
   (bCond (.tmp 95)
    (bSeq (bReg (f61_r9 call))
    (bEx .ret))
    (bEx .nrm)))
   (bSeq (bReg (f61_r10 call))
   (bCond (.tmp 131)
    (bSeq (bReg (f61_r11 call))
    (bEx .ret))
    (bEx .nrm))))))
  (bReg (f61_r6 call))))
noncomputable def f61 (call : CallF) (k : Nat) : St :=
  (bSeq (bReg (f61_r0 call))
  (bSeq (bSeq (bReg (f61_r1 call))
  (bCond (.tmp 27)
   (bSeq (bReg (f61_r2 call))
   (bEx .ret))
   (bEx .nrm)))
  (bSeq (bReg (f61_r3 call))
  (bSeq (bSeq (bReg (f61_r4 call))
  (bBlock 0 (bLoop [0, 3, 4] (f61_l5 call k) k)))
  (bSeq (bReg (f61_r12 call))
  (bEx .ret))))))
theorem f61_eq (call : CallF) (k : Nat) : exec cx call 132 f61_an k (Try.f61.body.getD .skip) = f61 call k := by kernel_rfl
/-! ### f62: loop.example/g01263/spec.l07Deal -/
def f62_an : Ann := ⟨[(0, ⟨[], [], [], [], [0]⟩), (1, ⟨[], [], [], [], [0, 3]⟩), (2, ⟨[], [], [], [], [0, 3, 4]⟩), (3, ⟨[], [], [], [], [0, 3, 4, 5]⟩), (4, ⟨[], [], [], [], [0, 3, 4, 5, 6]⟩), (5, ⟨[], [], [], [], [0, 3, 4, 5, 6, 32]⟩), (6, ⟨[], [], [], [], [2]⟩), (7, ⟨[], [], [], [], [0, 3, 4, 5, 6, 36]⟩), (8, ⟨[], [], [], [], [0, 3, 4, 5, 6, 36, 37]⟩), (9, ⟨[], [], [], [], [2]⟩), (10, ⟨[], [], [], [], [0, 3, 4, 5, 6, 36, 53]⟩), (11, ⟨[], [], [], [], [2]⟩), (12, ⟨[], [], [], [], [0, 3, 4, 6, 36, 69]⟩), (13, ⟨[], [], [], [], [2]⟩), (14, ⟨[], [], [], [], [0, 3, 4, 89]⟩), (15, ⟨[], [], [], [], [2]⟩), (16, ⟨[], [], [], [], [2]⟩)], []⟩
noncomputable def f62_r0 (call : CallF) : Env → Mem → Option (Env × Mem) := fun e M =>
    (nx (oMv (.bool false)) (some 2) e M fun e M =>
    some (e, M)).map fun q => (prune [0] q.1, q.2)
noncomputable def f62_r1 (call : CallF) : Env → Mem → Option (Env × Mem) := fun e M =>
    (nx (oMv (eget e 0)) (some 7) e M fun e M =>
    nx (keep (aNilCheck (eget e 7) M)) (some 8) e M fun e M =>
    nx (keep (aFieldAddr 2 1 (eget e 8) M)) (some 9) e M fun e M =>
    nx (keep (aLoad false 1 (eget e 9) M)) (some 10) e M fun e M =>
    nx (aCall cx.P.cellsOf cx.rw call false M.length 88 [(eget e 10), (.int .i64 0), (.int .i64 39)] M) (some 11) e M fun e M =>
    nx (oMv (eget e 11)) (some 3) e M fun e M =>
    some (e, M)).map fun q => (prune [0, 3] q.1, q.2)
noncomputable def f62_r2 (call : CallF) : Env → Mem → Option (Env × Mem) := fun e M =>
    (nx (oMv (eget e 0)) (some 12) e M fun e M =>
    nx (keep (aNilCheck (eget e 12) M)) (some 13) e M fun e M =>
    nx (keep (aFieldAddr 3 1 (eget e 13) M)) (some 14) e M fun e M =>
    nx (keep (aLoad false 1 (eget e 14) M)) (some 15) e M fun e M =>
    nx (aCall cx.P.cellsOf cx.rw call false M.length 88 [(eget e 15), (.int .i64 0), (.int .i64 15)] M) (some 16) e M fun e M =>
    nx (oMv (eget e 16)) (some 4) e M fun e M =>
    some (e, M)).map fun q => (prune [0, 3, 4] q.1, q.2)
noncomputable def f62_r3 (call : CallF) : Env → Mem → Option (Env × Mem) := fun e M =>
    (nx (oMv (eget e 0)) (some 17) e M fun e M =>
    nx (keep (aNilCheck (eget e 17) M)) (some 18) e M fun e M =>
    nx (keep (aFieldAddr 4 1 (eget e 18) M)) (some 19) e M fun e M =>
    nx (keep (aLoad false 1 (eget e 19) M)) (some 20) e M fun e M =>
    nx (aCall cx.P.cellsOf cx.rw call false M.length 88 [(eget e 20), (.int .i64 0), (.int .i64 15)] M) (some 21) e M fun e M =>
    nx (oMv (eget e 21)) (some 5) e M fun e M =>
    some (e, M)).map fun q => (prune [0, 3, 4, 5] q.1, q.2)
noncomputable def f62_r4 (call : CallF) : Env → Mem → Option (Env × Mem) := fun e M =>
    (nx (oMv (eget e 0)) (some 22) e M fun e M =>
    nx (keep (aNilCheck (eget e 22) M)) (some 23) e M fun e M =>
    nx (keep (aFieldAddr 5 1 (eget e 23) M)) (some 24) e M fun e M =>
    nx (keep (aLoad false 1 (eget e 24) M)) (some 25) e M fun e M =>
    nx (aCall cx.P.cellsOf cx.rw call false M.length 88 [(eget e 25), (.int .i64 1), (.int .i64 100000000)] M) (some 26) e M fun e M =>
    nx (oMv (eget e 26)) (some 6) e M fun e M =>
    some (e, M)).map fun q => (prune [0, 3, 4, 5, 6] q.1, q.2)
noncomputable def f62_r5 (call : CallF) : Env → Mem → Option (Env × Mem) := fun e M =>
    (nx (oMv (eget e 0)) (some 27) e M fun e M =>
    nx (keep (aNilCheck (eget e 27) M)) (some 28) e M fun e M =>
    nx (keep (aFieldAddr 0 1 (eget e 28) M)) (some 29) e M fun e M =>
    nx (keep (aLoad false 1 (eget e 29) M)) (some 30) e M fun e M =>
    nx (aCall cx.P.cellsOf cx.rw call false M.length 98 [(eget e 30)] M) (some 31) e M fun e M =>
    nx (keep (aUn .not (eget e 31))) (some 32) e M fun e M =>
    some (e, M)).map fun q => (prune [0, 3, 4, 5, 6, 32] q.1, q.2)
noncomputable def f62_r6 (call : CallF) : Env → Mem → Option (Env × Mem) := fun e M =>
    (nx (oMv (.bool false)) (some 2) e M fun e M =>
    some (e, M)).map fun q => (prune [2] q.1, q.2)
noncomputable def f62_r7 (call : CallF) : Env → Mem → Option (Env × Mem) := fun e M =>
    (nx (oMv (eget e 0)) (some 33) e M fun e M =>
    nx (keep (aNilCheck (eget e 33) M)) (some 34) e M fun e M =>
    nx (keep (aFieldAddr 1 1 (eget e 34) M)) (some 35) e M fun e M =>
    nx (keep (aLoad false 1 (eget e 35) M)) (some 36) e M fun e M =>
    some (e, M)).map fun q => (prune [0, 3, 4, 5, 6, 36] q.1, q.2)
noncomputable def f62_r8 (call : CallF) : Env → Mem → Option (Env × Mem) := fun e M =>
    (nx (oBin cx.P .eql 23 (eget e 36) (.int .i8 1) M) (some 38) e M fun e M =>
    nx (oMv (eget e 38)) (some 37) e M fun e M =>
    some (e, M)).map fun q => (prune [0, 3, 4, 5, 6, 36, 37] q.1, q.2)
noncomputable def f62_r9 (call : CallF) : Env → Mem → Option (Env × Mem) := fun e M =>
    (nx (oMv (eget e 0)) (some 39) e M fun e M =>
    nx (keep (aNilCheck (eget e 39) M)) (some 40) e M fun e M =>
    nx (keep (aFieldAddr 2 1 (eget e 40) M)) (some 41) e M fun e M =>
    nx (keep (aLoad false 1 (eget e 41) M)) (some 42) e M fun e M =>
    nx (oBin cx.P .eql 2 (eget e 42) (.int .i64 0) M) (some 43) e M fun e M =>
    nx (oMv (eget e 43)) (some 44) e M fun e M =>
    nx (aGuard (some ((eget e 44), true)) (oMv (eget e 4))) (some 45) e M fun e M =>
    nx (keep (aPick (eget e 44) (eget e 45) (.bool false))) (some 46) e M fun e M =>
    nx (oMv (eget e 46)) (some 47) e M fun e M =>
    nx (aGuard (some ((eget e 47), true)) (oMv (eget e 5))) (some 48) e M fun e M =>
    nx (keep (aPick (eget e 47) (eget e 48) (.bool false))) (some 49) e M fun e M =>
    nx (oMv (eget e 49)) (some 50) e M fun e M =>
    nx (aGuard (some ((eget e 50), true)) (oMv (eget e 6))) (some 51) e M fun e M =>
    nx (keep (aPick (eget e 50) (eget e 51) (.bool false))) (some 52) e M fun e M =>
    nx (oMv (eget e 52)) (some 2) e M fun e M =>
    some (e, M)).map fun q => (prune [2] q.1, q.2)
noncomputable def f62_r10 (call : CallF) : Env → Mem → Option (Env × Mem) := fun e M =>
    (nx (oBin cx.P .eql 23 (eget e 36) (.int .i8 2) M) (some 54) e M fun e M =>
    nx (oMv (eget e 54)) (some 53) e M fun e M =>
    some (e, M)).map fun q => (prune [0, 3, 4, 5, 6, 36, 53] q.1, q.2)
noncomputable def f62_r11 (call : CallF) : Env → Mem → Option (Env × Mem) := fun e M =>
    (nx (oMv (eget e 3)) (some 55) e M fun e M =>
    nx (oMv (eget e 55)) (some 56) e M fun e M =>
    nx (aGuard (some ((eget e 56), true)) (oMv (eget e 4))) (some 57) e M fun e M =>
    nx (keep (aPick (eget e 56) (eget e 57) (.bool false))) (some 58) e M fun e M =>
    nx (oMv (eget e 58)) (some 59) e M fun e M =>
    nx (aGuard (some ((eget e 59), true)) (oMv (eget e 5))) (some 60) e M fun e M =>
    nx (keep (aPick (eget e 59) (eget e 60) (.bool false))) (some 61) e M fun e M =>
    nx (oMv (eget e 61)) (some 62) e M fun e M =>
    nx (aGuard (some ((eget e 62), true)) (oMv (eget e 0))) (some 63) e M fun e M =>
    nx (aGuard (some ((eget e 62), true)) (keep (aNilCheck (eget e 63) M))) (some 64) e M fun e M =>
    nx (aGuard (some ((eget e 62), true)) (keep (aFieldAddr 5 1 (eget e 64) M))) (some 65) e M fun e M =>
    nx (aGuard (some ((eget e 62), true)) (keep (aLoad false 1 (eget e 65) M))) (some 66) e M fun e M =>
    nx (aGuard (some ((eget e 62), true)) (oBin cx.P .eql 2 (eget e 66) (.int .i64 0) M)) (some 67) e M fun e M =>
    nx (keep (aPick (eget e 62) (eget e 67) (.bool false))) (some 68) e M fun e M =>
    nx (oMv (eget e 68)) (some 2) e M fun e M =>
    some (e, M)).map fun q => (prune [2] q.1, q.2)
noncomputable def f62_r12 (call : CallF) : Env → Mem → Option (Env × Mem) := fun e M =>
    (nx (oBin cx.P .eql 23 (eget e 36) (.int .i8 3) M) (some 70) e M fun e M =>
    nx (oMv (eget e 70)) (some 69) e M fun e M =>
    some (e, M)).map fun q => (prune [0, 3, 4, 6, 36, 69] q.1, q.2)
noncomputable def f62_r13 (call : CallF) : Env → Mem → Option (Env × Mem) := fun e M =>
    (nx (oMv (eget e 3)) (some 71) e M fun e M =>
    nx (oMv (eget e 71)) (some 72) e M fun e M =>
    nx (aGuard (some ((eget e 72), true)) (oMv (eget e 0))) (some 73) e M fun e M =>
    nx (aGuard (some ((eget e 72), true)) (keep (aNilCheck (eget e 73) M))) (some 74) e M fun e M =>
    nx (aGuard (some ((eget e 72), true)) (keep (aFieldAddr 3 1 (eget e 74) M))) (some 75) e M fun e M =>
    nx (aGuard (some ((eget e 72), true)) (keep (aLoad false 1 (eget e 75) M))) (some 76) e M fun e M =>
    nx (aGuard (some ((eget e 72), true)) (oBin cx.P .eql 2 (eget e 76) (.int .i64 0) M)) (some 77) e M fun e M =>
    nx (keep (aPick (eget e 72) (eget e 77) (.bool false))) (some 78) e M fun e M =>
    nx (oMv (eget e 78)) (some 79) e M fun e M =>
    nx (aGuard (some ((eget e 79), true)) (oMv (eget e 0))) (some 80) e M fun e M =>
    nx (aGuard (some ((eget e 79), true)) (keep (aNilCheck (eget e 80) M))) (some 81) e M fun e M =>
    nx (aGuard (some ((eget e 79), true)) (keep (aFieldAddr 4 1 (eget e 81) M))) (some 82) e M fun e M =>
    nx (aGuard (some ((eget e 79), true)) (keep (aLoad false 1 (eget e 82) M))) (some 83) e M fun e M =>
    nx (aGuard (some ((eget e 79), true)) (oBin cx.P .eql 2 (eget e 83) (.int .i64 0) M)) (some 84) e M fun e M =>
    nx (keep (aPick (eget e 79) (eget e 84) (.bool false))) (some 85) e M fun e M =>
    nx (oMv (eget e 85)) (some 86) e M fun e M =>
    nx (aGuard (some ((eget e 86), true)) (oMv (eget e 6))) (some 87) e M fun e M =>
    nx (keep (aPick (eget e 86) (eget e 87) (.bool false))) (some 88) e M fun e M =>
    nx (oMv (eget e 88)) (some 2) e M fun e M =>
    some (e, M)).map fun q => (prune [2] q.1, q.2)
noncomputable def f62_r14 (call : CallF) : Env → Mem → Option (Env × Mem) := fun e M =>
    (nx (oBin cx.P .eql 23 (eget e 36) (.int .i8 4) M) (some 90) e M fun e M =>
    nx (oMv (eget e 90)) (some 89) e M fun e M =>
    some (e, M)).map fun q => (prune [0, 3, 4, 89] q.1, q.2)
noncomputable def f62_r15 (call : CallF) : Env → Mem → Option (Env × Mem) := fun e M =>
    (nx (oMv (eget e 3)) (some 91) e M fun e M =>
    nx (oMv (eget e 91)) (some 92) e M fun e M =>
    nx (aGuard (some ((eget e 92), true)) (oMv (eget e 4))) (some 93) e M fun e M =>
    nx (keep (aPick (eget e 92) (eget e 93) (.bool false))) (some 94) e M fun e M =>
    nx (oMv (eget e 94)) (some 95) e M fun e M =>
    nx (aGuard (some ((eget e 95), true)) (oMv (eget e 0))) (some 96) e M fun e M =>
    nx (aGuard (some ((eget e 95), true)) (keep (aNilCheck (eget e 96) M))) (some 97) e M fun e M =>
    nx (aGuard (some ((eget e 95), true)) (keep (aFieldAddr 4 1 (eget e 97) M))) (some 98) e M fun e M =>
    nx (aGuard (some ((eget e 95), true)) (keep (aLoad false 1 (eget e 98) M))) (some 99) e M fun e M =>
    nx (aGuard (some ((eget e 95), true)) (oBin cx.P .eql 2 (eget e 99) (.int .i64 0) M)) (some 100) e M fun e M =>
    nx (keep (aPick (eget e 95) (eget e 100) (.bool false))) (some 101) e M fun e M =>
    nx (oMv (eget e 101)) (some 102) e M fun e M =>
    nx (aGuard (some ((eget e 102), true)) (oMv (eget e 0))) (some 103) e M fun e M =>
    nx (aGuard (some ((eget e 102), true)) (keep (aNilCheck (eget e 103) M))) (some 104) e M fun e M =>
    nx (aGuard (some ((eget e 102), true)) (keep (aFieldAddr 5 1 (eget e 104) M))) (some 105) e M fun e M =>
    nx (aGuard (some ((eget e 102), true)) (keep (aLoad false 1 (eget e 105) M))) (some 106) e M fun e M =>
    nx (aGuard (some ((eget e 102), true)) (oBin cx.P .eql 2 (eget e 106) (.int .i64 0) M)) (some 107) e M fun e M =>
    nx (keep (aPick (eget e 102) (eget e 107) (.bool false))) (some 108) e M fun e M =>
    nx (oMv (eget e 108)) (some 2) e M fun e M =>
    some (e, M)).map fun q => (prune [2] q.1, q.2)
noncomputable def f62_r16 (call : CallF) : Env → Mem → Option (Env × Mem) := fun e M =>
    (nx (oMv (.bool false)) (some 2) e M fun e M =>
    some (e, M)).map fun q => (prune [2] q.1, q.2)
noncomputable def f62 (call : CallF) (k : Nat) : St :=
  (bSeq (bReg (f62_r0 call))
  (bSeq (bReg (f62_r1 call))
  (bSeq (bReg (f62_r2 call))
  (bSeq (bReg (f62_r3 call))
  (bSeq (bReg (f62_r4 call))
  (bSeq (bSeq (bReg (f62_r5 call))
  (bCond (.tmp 32)
   (bSeq (bReg (f62_r6 call))
   (bEx .ret))
   (bEx .nrm)))
  (bSeq (bSeq (bReg (f62_r7 call))
  (bBlock 0 (bSeq (bReg (f62_r8 call))
   (bCond (.tmp 37)
    (bSeq (bReg (f62_r9 call))
    (bEx .ret))
    (bSeq (bReg (f62_r10 call))
    (bCond (.tmp 53)
     (bSeq (bReg (f62_r11 call))
     (bEx .ret))
     (bSeq (bReg (f62_r12 call))
     (bCond (.tmp 69)
      (bSeq (bReg (f62_r13 call))
      (bEx .ret))
      (bSeq (bReg (f62_r14 call))
      (bCond (.tmp 89)
       (bSeq (bReg (f62_r15 call))
       (bEx .ret))
       (bEx .nrm)))))))))))
  (bSeq (bReg (f62_r16 call))
  (bEx .ret)))))))))
theorem f62_eq (call : CallF) (k : Nat) : exec cx call 109 f62_an k (Try.f62.body.getD .skip) = f62 call k := by kernel_rfl
/-! ### f63: loop.example/g01263/spec.l07Do -/
def f63_an : Ann := ⟨[(0, ⟨[], [], [], [], [0, 1, 4]⟩), (1, ⟨[], [], [], [], [0, 1, 4, 6]⟩), (2, ⟨[], [], [], [], [0, 1, 4, 6, 13]⟩), (3, ⟨[], [], [], [], [4, 5]⟩), (4, ⟨[], [1], [], [], [1, 4, 7]⟩), (5, ⟨[], [], [], [], [1, 4, 7]⟩), (6, ⟨[], [], [], [], [1, 4, 7, 27]⟩), (7, ⟨[24], [], [], [24, 25, 26], [4, 7]⟩), (8, ⟨[], [], [], [], [4, 5]⟩), (9, ⟨[], [], [], [], [1, 4, 7, 8]⟩), (10, ⟨[], [], [], [], [1, 4, 7, 8, 65]⟩), (11, ⟨[], [], [], [], [1, 4, 7, 8, 65, 66]⟩), (12, ⟨[], [], [], [], [4, 7, 8]⟩), (13, ⟨[], [], [], [], [4, 7, 8, 83]⟩), (14, ⟨[], [], [], [], [4, 7]⟩), (15, ⟨[], [], [], [], [1, 4, 7, 8, 65, 87]⟩), (16, ⟨[], [], [], [14], [1, 4, 7, 8]⟩), (17, ⟨[], [], [], [14], [1, 4, 7, 8]⟩), (18, ⟨[], [], [], [11], [4, 7]⟩), (19, ⟨[], [], [], [], [4, 7, 8, 128]⟩), (20, ⟨[], [], [], [], [4, 7]⟩), (21, ⟨[], [], [], [], [4, 5]⟩)], []⟩
noncomputable def f63_r0 (call : CallF) : Env → Mem → Option (Env × Mem) := fun e M =>
    (nx (oAlloc cx.P M.length 56 3) (some 4) e M fun e M =>
    nx (oMv (.int .i64 0)) (some 5) e M fun e M =>
    some (e, M)).map fun q => (prune [0, 1, 4] q.1, q.2)
noncomputable def f63_r1 (call : CallF) : Env → Mem → Option (Env × Mem) := fun e M =>
    (nx (oMv (eget e 0)) (some 9) e M fun e M =>
    nx (oMv (eget e 1)) (some 10) e M fun e M =>
    nx (aCall cx.P.cellsOf cx.rw call false M.length 101 [(eget e 9), (eget e 10)] M) (some 11) e M fun e M =>
    nx (oMv (eget e 11)) (some 6) e M fun e M =>
    some (e, M)).map fun q => (prune [0, 1, 4, 6] q.1, q.2)
noncomputable def f63_r2 (call : CallF) : Env → Mem → Option (Env × Mem) := fun e M =>
    (nx (oMv (eget e 6)) (some 12) e M fun e M =>
    nx (oBin cx.P .neq 2 (eget e 12) (.int .i64 0) M) (some 13) e M fun e M =>
    some (e, M)).map fun q => (prune [0, 1, 4, 6, 13] q.1, q.2)
noncomputable def f63_r3 (call : CallF) : Env → Mem → Option (Env × Mem) := fun e M =>
    (nx (keep (aBuild (zeroOf cx.P 56) [] M)) (some 14) e M fun e M =>
    nx (oMv (eget e 6)) (some 15) e M fun e M =>
    nx (oStore 3 (eget e 4) (eget e 14) M) none e M fun e M =>
    nx (oMv (eget e 15)) (some 5) e M fun e M =>
    some (e, M)).map fun q => (prune [4, 5] q.1, q.2)
noncomputable def f63_r4 (call : CallF) : Env → Mem → Option (Env × Mem) := fun e M =>
    (nx (oMv (eget e 0)) (some 16) e M fun e M =>
    nx (aCall cx.P.cellsOf cx.rw call true M.length 102 [(eget e 16)] M) (some 17) e M fun e M =>
    nx (oAlloc cx.P M.length 56 3) (some 7) e M fun e M =>
    nx (oStore 3 (eget e 7) (eget e 17) M) none e M fun e M =>
    some (e, M)).map fun q => (prune [1, 4, 7] q.1, q.2)
noncomputable def f63_r5 (call : CallF) : Env → Mem → Option (Env × Mem) := fun e M =>
    (nx (oMv (eget e 1)) (some 18) e M fun e M =>
    nx (keep (aNilCheck (eget e 18) M)) (some 19) e M fun e M =>
    nx (keep (aFieldAddr 0 1 (eget e 19) M)) (some 20) e M fun e M =>
    nx (keep (aLoad false 1 (eget e 20) M)) (some 21) e M fun e M =>
    nx (keep (aFieldAddr 0 1 (eget e 7) M)) (some 22) e M fun e M =>
    nx (oStore 1 (eget e 22) (eget e 21) M) none e M fun e M =>
    some (e, M)).map fun q => (prune [1, 4, 7] q.1, q.2)
noncomputable def f63_r6 (call : CallF) : Env → Mem → Option (Env × Mem) := fun e M =>
    (nx (oMv (eget e 1)) (some 23) e M fun e M =>
    nx (keep (aNilCheck (eget e 23) M)) (some 24) e M fun e M =>
    nx (keep (aFieldAddr 1 1 (eget e 24) M)) (some 25) e M fun e M =>
    nx (keep (aLoad false 1 (eget e 25) M)) (some 26) e M fun e M =>
    nx (oBin cx.P .eql 23 (eget e 26) (.int .i8 1) M) (some 27) e M fun e M =>
    some (e, M)).map fun q => (prune [1, 4, 7, 27] q.1, q.2)
noncomputable def f63_r7 (call : CallF) : Env → Mem → Option (Env × Mem) := fun e M =>
    rD [4, 7] (fun (C : List Ob) =>
    nf (keep (aFieldAddr 2 1 (eget e 7) M)) (some 28) false e C fun e C =>
    nf (keep (aLoad false 1 (eget e 28) M)) (some 29) false e C fun e C =>
    nf (oMv (eget e 1)) (some 30) false e C fun e C =>
    nf (keep (aNilCheck (eget e 30) M)) (some 31) false e C fun e C =>
    nf (keep (aFieldAddr 3 1 (eget e 31) M)) (some 32) false e C fun e C =>
    nf (keep (aLoad false 1 (eget e 32) M)) (some 33) false e C fun e C =>
    nf (oMv (eget e 1)) (some 34) false e C fun e C =>
    nf (keep (aNilCheck (eget e 34) M)) (some 35) false e C fun e C =>
    nf (keep (aFieldAddr 4 1 (eget e 35) M)) (some 36) false e C fun e C =>
    nf (keep (aLoad false 1 (eget e 36) M)) (some 37) false e C fun e C =>
    nf (oMv (eget e 1)) (some 38) false e C fun e C =>
    nf (keep (aNilCheck (eget e 38) M)) (some 39) false e C fun e C =>
    nf (keep (aFieldAddr 0 1 (eget e 39) M)) (some 40) false e C fun e C =>
    nf (keep (aLoad false 1 (eget e 40) M)) (some 41) false e C fun e C =>
    nf (oMv (eget e 1)) (some 42) false e C fun e C =>
    nf (keep (aNilCheck (eget e 42) M)) (some 43) false e C fun e C =>
    nf (keep (aFieldAddr 5 1 (eget e 43) M)) (some 44) false e C fun e C =>
    nf (keep (aLoad false 1 (eget e 44) M)) (some 45) false e C fun e C =>
    nf (oMv (eget e 1)) (some 46) false e C fun e C =>
    nf (keep (aNilCheck (eget e 46) M)) (some 47) false e C fun e C =>
    nf (keep (aFieldAddr 5 1 (eget e 47) M)) (some 48) false e C fun e C =>
    nf (keep (aLoad false 1 (eget e 48) M)) (some 49) false e C fun e C =>
    nf (keep (aBuild (zeroOf cx.P 156) [(0, 1, (eget e 33)), (1, 1, (eget e 37)), (2, 1, (eget e 41)), (3, 1, (eget e 45)), (4, 1, (eget e 49))] M)) (some 50) false e C fun e C =>
    nf (keep (aLitI 156 5 [(eget e 50)] M)) (some 51) false e C fun e C =>
    some (e, C)) (fun (e : Env) (M : Mem) =>
    nx (aAppO M.length 156 5 40 (eget e 29) (eget e 51) M) (some 52) e M fun e M =>
    nx (keep (aFieldAddr 2 1 (eget e 7) M)) (some 53) e M fun e M =>
    nx (oStore 1 (eget e 53) (eget e 52) M) none e M fun e M =>
    some (e, M)) M
noncomputable def f63_r8 (call : CallF) : Env → Mem → Option (Env × Mem) := fun e M =>
    (nx (keep (aLoad true 3 (eget e 7) M)) (some 54) e M fun e M =>
    nx (oStore 3 (eget e 4) (eget e 54) M) none e M fun e M =>
    nx (oMv (.int .i64 0)) (some 5) e M fun e M =>
    some (e, M)).map fun q => (prune [4, 5] q.1, q.2)
noncomputable def f63_r9 (call : CallF) : Env → Mem → Option (Env × Mem) := fun e M =>
    rD [1, 4, 7, 8] (fun (C : List Ob) =>
    nf (keep (aFieldAddr 2 1 (eget e 7) M)) (some 55) false e C fun e C =>
    nf (keep (aLoad false 1 (eget e 55) M)) (some 56) false e C fun e C =>
    nf (oMv (eget e 1)) (some 57) false e C fun e C =>
    nf (keep (aNilCheck (eget e 57) M)) (some 58) false e C fun e C =>
    nf (keep (aFieldAddr 2 1 (eget e 58) M)) (some 59) false e C fun e C =>
    nf (keep (aLoad false 1 (eget e 59) M)) (some 60) false e C fun e C =>
    nf (keep (aIndexS 5 (eget e 56) (eget e 60) M)) (some 61) false e C fun e C =>
    nf (oMv (eget e 61)) (some 8) false e C fun e C =>
    some (e, C)) (fun (e : Env) (M : Mem) =>
    some (e, M)) M
noncomputable def f63_r10 (call : CallF) : Env → Mem → Option (Env × Mem) := fun e M =>
    (nx (oMv (eget e 1)) (some 62) e M fun e M =>
    nx (keep (aNilCheck (eget e 62) M)) (some 63) e M fun e M =>
    nx (keep (aFieldAddr 1 1 (eget e 63) M)) (some 64) e M fun e M =>
    nx (keep (aLoad false 1 (eget e 64) M)) (some 65) e M fun e M =>
    some (e, M)).map fun q => (prune [1, 4, 7, 8, 65] q.1, q.2)
noncomputable def f63_r11 (call : CallF) : Env → Mem → Option (Env × Mem) := fun e M =>
    (nx (oBin cx.P .eql 23 (eget e 65) (.int .i8 2) M) (some 67) e M fun e M =>
    nx (oMv (eget e 67)) (some 66) e M fun e M =>
    some (e, M)).map fun q => (prune [1, 4, 7, 8, 65, 66] q.1, q.2)
noncomputable def f63_r12 (call : CallF) : Env → Mem → Option (Env × Mem) := fun e M =>
    (nx (oMv (eget e 8)) (some 68) e M fun e M =>
    nx (oMv (eget e 1)) (some 69) e M fun e M =>
    nx (keep (aNilCheck (eget e 69) M)) (some 70) e M fun e M =>
    nx (keep (aFieldAddr 4 1 (eget e 70) M)) (some 71) e M fun e M =>
    nx (keep (aLoad false 1 (eget e 71) M)) (some 72) e M fun e M =>
    nx (keep (aNilCheck (eget e 68) M)) (some 73) e M fun e M =>
    nx (keep (aFieldAddr 1 1 (eget e 73) M)) (some 74) e M fun e M =>
    nx (oStore 1 (eget e 74) (eget e 72) M) none e M fun e M =>
    some (e, M)).map fun q => (prune [4, 7, 8] q.1, q.2)
noncomputable def f63_r13 (call : CallF) : Env → Mem → Option (Env × Mem) := fun e M =>
    rD [4, 7, 8, 83] (fun (C : List Ob) =>
    nf (oMv (eget e 8)) (some 75) false e C fun e C =>
    nf (keep (aNilCheck (eget e 75) M)) (some 76) false e C fun e C =>
    nf (keep (aFieldAddr 1 1 (eget e 76) M)) (some 77) false e C fun e C =>
    nf (keep (aLoad false 1 (eget e 77) M)) (some 78) false e C fun e C =>
    nf (oMv (eget e 8)) (some 79) false e C fun e C =>
    nf (keep (aNilCheck (eget e 79) M)) (some 80) false e C fun e C =>
    nf (keep (aFieldAddr 0 1 (eget e 80) M)) (some 81) false e C fun e C =>
    nf (keep (aLoad false 1 (eget e 81) M)) (some 82) false e C fun e C =>
    nf (oBin cx.P .eql 2 (eget e 78) (eget e 82) M) (some 83) false e C fun e C =>
    some (e, C)) (fun (e : Env) (M : Mem) =>
    some (e, M)) M
noncomputable def f63_r14 (call : CallF) : Env → Mem → Option (Env × Mem) := fun e M =>
    (nx (oMv (eget e 8)) (some 84) e M fun e M =>
    nx (keep (aNilCheck (eget e 84) M)) (some 85) e M fun e M =>
    nx (keep (aFieldAddr 4 1 (eget e 85) M)) (some 86) e M fun e M =>
    nx (oStore 1 (eget e 86) (.int .i64 0) M) none e M fun e M =>
    some (e, M)).map fun q => (prune [4, 7] q.1, q.2)
noncomputable def f63_r15 (call : CallF) : Env → Mem → Option (Env × Mem) := fun e M =>
    (nx (oBin cx.P .eql 23 (eget e 65) (.int .i8 3) M) (some 88) e M fun e M =>
    nx (oMv (eget e 88)) (some 87) e M fun e M =>
    some (e, M)).map fun q => (prune [1, 4, 7, 8, 65, 87] q.1, q.2)
noncomputable def f63_r16 (call : CallF) : Env → Mem → Option (Env × Mem) := fun e M =>
    rD [1, 4, 7, 8] (fun (C : List Ob) =>
    nf (keep (aFieldAddr 1 1 (eget e 7) M)) (some 89) false e C fun e C =>
    nf (keep (aLoad false 1 (eget e 89) M)) (some 90) false e C fun e C =>
    nf (oMv (eget e 8)) (some 91) false e C fun e C =>
    nf (keep (aNilCheck (eget e 91) M)) (some 92) false e C fun e C =>
    nf (keep (aFieldAddr 0 1 (eget e 92) M)) (some 93) false e C fun e C =>
    nf (keep (aLoad false 1 (eget e 93) M)) (some 94) false e C fun e C =>
    nf (keep (aIndexS 1 (eget e 90) (eget e 94) M)) (some 95) false e C fun e C =>
    nf (keep (aLoad false 1 (eget e 95) M)) (some 96) false e C fun e C =>
    nf (oMv (eget e 1)) (some 97) false e C fun e C =>
    nf (keep (aNilCheck (eget e 97) M)) (some 98) false e C fun e C =>
    nf (keep (aFieldAddr 5 1 (eget e 98) M)) (some 99) false e C fun e C =>
    nf (keep (aLoad false 1 (eget e 99) M)) (some 100) false e C fun e C =>
    nf (oBin cx.P .sub 2 (eget e 96) (eget e 100) M) (some 101) false e C fun e C =>
    nf (keep (aIndexS 1 (eget e 90) (eget e 94) M)) (some 102) false e C fun e C =>
    some (e, C)) (fun (e : Env) (M : Mem) =>
    nx (oStore 1 (eget e 102) (eget e 101) M) none e M fun e M =>
    some (e, M)) M
noncomputable def f63_r17 (call : CallF) : Env → Mem → Option (Env × Mem) := fun e M =>
    rD [1, 4, 7, 8] (fun (C : List Ob) =>
    nf (keep (aFieldAddr 1 1 (eget e 7) M)) (some 103) false e C fun e C =>
    nf (keep (aLoad false 1 (eget e 103) M)) (some 104) false e C fun e C =>
    nf (oMv (eget e 8)) (some 105) false e C fun e C =>
    nf (keep (aNilCheck (eget e 105) M)) (some 106) false e C fun e C =>
    nf (keep (aFieldAddr 1 1 (eget e 106) M)) (some 107) false e C fun e C =>
    nf (keep (aLoad false 1 (eget e 107) M)) (some 108) false e C fun e C =>
    nf (keep (aIndexS 1 (eget e 104) (eget e 108) M)) (some 109) false e C fun e C =>
    nf (keep (aLoad false 1 (eget e 109) M)) (some 110) false e C fun e C =>
    nf (oMv (eget e 1)) (some 111) false e C fun e C =>
    nf (keep (aNilCheck (eget e 111) M)) (some 112) false e C fun e C =>
    nf (keep (aFieldAddr 5 1 (eget e 112) M)) (some 113) false e C fun e C =>
    nf (keep (aLoad false 1 (eget e 113) M)) (some 114) false e C fun e C =>
    nf (oBin cx.P .add 2 (eget e 110) (eget e 114) M) (some 115) false e C fun e C =>
    nf (keep (aIndexS 1 (eget e 104) (eget e 108) M)) (some 116) false e C fun e C =>
    some (e, C)) (fun (e : Env) (M : Mem) =>
    nx (oStore 1 (eget e 116) (eget e 115) M) none e M fun e M =>
    some (e, M)) M
noncomputable def f63_r18 (call : CallF) : Env → Mem → Option (Env × Mem) := fun e M =>
    rD [4, 7] (fun (C : List Ob) =>
    nf (oMv (eget e 8)) (some 117) false e C fun e C =>
    nf (keep (aNilCheck (eget e 117) M)) (some 118) false e C fun e C =>
    nf (keep (aFieldAddr 4 1 (eget e 118) M)) (some 119) false e C fun e C =>
    nf (keep (aLoad false 1 (eget e 119) M)) (some 120) false e C fun e C =>
    nf (oMv (eget e 1)) (some 121) false e C fun e C =>
    nf (keep (aNilCheck (eget e 121) M)) (some 122) false e C fun e C =>
    nf (keep (aFieldAddr 5 1 (eget e 122) M)) (some 123) false e C fun e C =>
    nf (keep (aLoad false 1 (eget e 123) M)) (some 124) false e C fun e C =>
    nf (oBin cx.P .sub 2 (eget e 120) (eget e 124) M) (some 125) false e C fun e C =>
    nf (keep (aNilCheck (eget e 117) M)) (some 126) false e C fun e C =>
    nf (keep (aFieldAddr 4 1 (eget e 126) M)) (some 127) false e C fun e C =>
    some (e, C)) (fun (e : Env) (M : Mem) =>
    nx (oStore 1 (eget e 127) (eget e 125) M) none e M fun e M =>
    some (e, M)) M
noncomputable def f63_r19 (call : CallF) : Env → Mem → Option (Env × Mem) := fun e M =>
    (nx (oBin cx.P .eql 23 (eget e 65) (.int .i8 4) M) (some 129) e M fun e M =>
    nx (oMv (eget e 129)) (some 128) e M fun e M =>
    some (e, M)).map fun q => (prune [4, 7, 8, 128] q.1, q.2)
noncomputable def f63_r20 (call : CallF) : Env → Mem → Option (Env × Mem) := fun e M =>
    (nx (oMv (eget e 8)) (some 130) e M fun e M =>
    nx (keep (aNilCheck (eget e 130) M)) (some 131) e M fun e M =>
    nx (keep (aFieldAddr 4 1 (eget e 131) M)) (some 132) e M fun e M =>
    nx (oStore 1 (eget e 132) (.int .i64 0) M) none e M fun e M =>
    some (e, M)).map fun q => (prune [4, 7] q.1, q.2)
noncomputable def f63_r21 (call : CallF) : Env → Mem → Option (Env × Mem) := fun e M =>
    (nx (keep (aLoad true 3 (eget e 7) M)) (some 133) e M fun e M =>
    nx (oStore 3 (eget e 4) (eget e 133) M) none e M fun e M =>
    nx (oMv (.int .i64 0)) (some 5) e M fun e M =>
    some (e, M)).map fun q => (prune [4, 5] q.1, q.2)
noncomputable def f63 (call : CallF) (k : Nat) : St :=
  (bSeq (bReg (f63_r0 call))
  (bSeq (bSeq (bReg (f63_r1 call))
  (bSeq (bReg (f63_r2 call))
  (bCond (.tmp 13)
   (bSeq (bReg (f63_r3 call))
   (bEx .ret))
   (bEx .nrm))))
  (bSeq (bReg (f63_r4 call))
  (bSeq (bReg (f63_r5 call))
  (bSeq (bSeq (bReg (f63_r6 call))
  (bCond (.tmp 27)
   (bSeq (bReg (f63_r7 call))
   (bSeq (bReg (f63_r8 call))
   (bEx .ret)))
   (bEx .nrm)))
  (bSeq (bReg (f63_r9 call))
  (bSeq (bSeq (bReg (f63_r10 call))
  (bBlock 0 (bSeq (bReg (f63_r11 call))
   (bCond (.tmp 66)
    (bSeq (bReg (f63_r12 call))
    (bSeq (bReg (f63_r13 call))
    (bCond (.tmp 83)
     (bReg (f63_r14 call))
     (bEx .nrm))))
    (bSeq (bReg (f63_r15 call))
    (bCond (.tmp 87)
     (bSeq (bReg (f63_r16 call))
     (bSeq (bReg (f63_r17 call))
     (bReg (f63_r18 call))))
     (bSeq (bReg (f63_r19 call))
     (bCond (.tmp 128)
      (bReg (f63_r20 call))
      (bEx .nrm)))))))))
  (bSeq (bReg (f63_r21 call))
  (bEx .ret)))))))))
theorem f63_eq (call : CallF) (k : Nat) : exec cx call 134 f63_an k (Try.f63.body.getD .skip) = f63 call k := by kernel_rfl
/-! ### f64: loop.example/g01263/laws.toInt64S -/
def f64_an : Ann := ⟨[(0, ⟨[], [], [], [], [0]⟩), (1, ⟨[], [], [], [], [0, 3]⟩), (2, ⟨[], [], [], [], [0, 3, 4]⟩), (3, ⟨[], [], [], [], [0, 3, 4, 11]⟩), (4, ⟨[], [], [], [], [0, 3, 4]⟩), (5, ⟨[], [], [], [], [0, 3, 4]⟩), (6, ⟨[], [], [], [], [2]⟩)], [(3, [0, 3, 4])]⟩
noncomputable def f64_r0 (call : CallF) : Env → Mem → Option (Env × Mem) := fun e M =>
    (nx (oMv .nils) (some 2) e M fun e M =>
    some (e, M)).map fun q => (prune [0] q.1, q.2)
noncomputable def f64_r1 (call : CallF) : Env → Mem → Option (Env × Mem) := fun e M =>
    (nx (oMv (eget e 0)) (some 5) e M fun e M =>
    nx (oLen cx.P 47 (eget e 5) M) (some 6) e M fun e M =>
    nx (aMakeO M.length 2 1 8 (zeroOf cx.P 2) (eget e 6) (eget e 6)) (some 7) e M fun e M =>
    nx (oMv (eget e 7)) (some 3) e M fun e M =>
    some (e, M)).map fun q => (prune [0, 3] q.1, q.2)
noncomputable def f64_r2 (call : CallF) : Env → Mem → Option (Env × Mem) := fun e M =>
    (nx (oMv (.int .i64 0)) (some 4) e M fun e M =>
    some (e, M)).map fun q => (prune [0, 3, 4] q.1, q.2)
noncomputable def f64_r3 (call : CallF) : Env → Mem → Option (Env × Mem) := fun e M =>
    (nx (oMv (eget e 4)) (some 8) e M fun e M =>
    nx (oMv (eget e 0)) (some 9) e M fun e M =>
    nx (oLen cx.P 47 (eget e 9) M) (some 10) e M fun e M =>
    nx (oBin cx.P .lss 3 (eget e 8) (eget e 10) M) (some 11) e M fun e M =>
    some (e, M)).map fun q => (prune [0, 3, 4, 11] q.1, q.2)
noncomputable def f64_r4 (call : CallF) : Env → Mem → Option (Env × Mem) := fun e M =>
    (nx (oMv (eget e 4)) (some 12) e M fun e M =>
    nx (oBin cx.P .add 3 (eget e 12) (.int .i64 1) M) (some 13) e M fun e M =>
    nx (oMv (eget e 13)) (some 4) e M fun e M =>
    some (e, M)).map fun q => (prune [0, 3, 4] q.1, q.2)
noncomputable def f64_r5 (call : CallF) : Env → Mem → Option (Env × Mem) := fun e M =>
    (nx (oMv (eget e 3)) (some 14) e M fun e M =>
    nx (oMv (eget e 4)) (some 15) e M fun e M =>
    nx (oMv (eget e 0)) (some 16) e M fun e M =>
    nx (oMv (eget e 4)) (some 17) e M fun e M =>
    nx (keep (aIndexS 1 (eget e 16) (eget e 17) M)) (some 18) e M fun e M =>
    nx (keep (aLoad false 1 (eget e 18) M)) (some 19) e M fun e M =>
    nx (keep (aIndexS 1 (eget e 14) (eget e 15) M)) (some 20) e M fun e M =>
    nx (oStore 1 (eget e 20) (eget e 19) M) none e M fun e M =>
    some (e, M)).map fun q => (prune [0, 3, 4] q.1, q.2)
noncomputable def f64_r6 (call : CallF) : Env → Mem → Option (Env × Mem) := fun e M =>
    (nx (oMv (eget e 3)) (some 21) e M fun e M =>
    nx (oMv (eget e 21)) (some 2) e M fun e M =>
    some (e, M)).map fun q => (prune [2] q.1, q.2)
noncomputable def f64_l3 (call : CallF) (k : Nat) : St :=
  (bSeq (bSeq (bReg (f64_r3 call))
  (bCond (.tmp 11)
   (bEx .nrm)
   (bEx (.ext 0))))
  (bSeq (bBlock 1 (bReg (f64_r5 call)))
  (bReg (f64_r4 call))))
noncomputable def f64 (call : CallF) (k : Nat) : St :=
  (bSeq (bReg (f64_r0 call))
  (bSeq (bReg (f64_r1 call))
  (bSeq (bSeq (bReg (f64_r2 call))
  (bBlock 0 (bLoop [0, 3, 4] (f64_l3 call k) k)))
  (bSeq (bReg (f64_r6 call))
  (bEx .ret)))))
theorem f64_eq (call : CallF) (k : Nat) : exec cx call 22 f64_an k (Try.f64.body.getD .skip) = f64 call k := by kernel_rfl
/-! ### f65: loop.example/g01263/laws.toTallyS -/
def f65_an : Ann := ⟨[(0, ⟨[], [], [], [], [0]⟩), (1, ⟨[], [], [], [], [0, 3]⟩), (2, ⟨[], [], [], [], [0, 3, 4]⟩), (3, ⟨[], [], [], [], [0, 3, 4, 11]⟩), (4, ⟨[], [], [], [], [0, 3, 4]⟩), (5, ⟨[], [], [], [], [0, 3, 4]⟩), (6, ⟨[], [], [], [], [2]⟩)], [(3, [0, 3, 4])]⟩
noncomputable def f65_r0 (call : CallF) : Env → Mem → Option (Env × Mem) := fun e M =>
    (nx (oMv .nils) (some 2) e M fun e M =>
    some (e, M)).map fun q => (prune [0] q.1, q.2)
noncomputable def f65_r1 (call : CallF) : Env → Mem → Option (Env × Mem) := fun e M =>
    (nx (oMv (eget e 0)) (some 5) e M fun e M =>
    nx (oLen cx.P 48 (eget e 5) M) (some 6) e M fun e M =>
    nx (aMakeO M.length 156 5 40 (zeroOf cx.P 156) (eget e 6) (eget e 6)) (some 7) e M fun e M =>
    nx (oMv (eget e 7)) (some 3) e M fun e M =>
    some (e, M)).map fun q => (prune [0, 3] q.1, q.2)
noncomputable def f65_r2 (call : CallF) : Env → Mem → Option (Env × Mem) := fun e M =>
    (nx (oMv (.int .i64 0)) (some 4) e M fun e M =>
    some (e, M)).map fun q => (prune [0, 3, 4] q.1, q.2)
noncomputable def f65_r3 (call : CallF) : Env → Mem → Option (Env × Mem) := fun e M =>
    (nx (oMv (eget e 4)) (some 8) e M fun e M =>
    nx (oMv (eget e 0)) (some 9) e M fun e M =>
    nx (oLen cx.P 48 (eget e 9) M) (some 10) e M fun e M =>
    nx (oBin cx.P .lss 3 (eget e 8) (eget e 10) M) (some 11) e M fun e M =>
    some (e, M)).map fun q => (prune [0, 3, 4, 11] q.1, q.2)
noncomputable def f65_r4 (call : CallF) : Env → Mem → Option (Env × Mem) := fun e M =>
    (nx (oMv (eget e 4)) (some 12) e M fun e M =>
    nx (oBin cx.P .add 3 (eget e 12) (.int .i64 1) M) (some 13) e M fun e M =>
    nx (oMv (eget e 13)) (some 4) e M fun e M =>
    some (e, M)).map fun q => (prune [0, 3, 4] q.1, q.2)
noncomputable def f65_r5 (call : CallF) : Env → Mem → Option (Env × Mem) := fun e M =>
    (nx (oMv (eget e 3)) (some 14) e M fun e M =>
    nx (oMv (eget e 4)) (some 15) e M fun e M =>
    nx (oMv (eget e 0)) (some 16) e M fun e M =>
    nx (oMv (eget e 4)) (some 17) e M fun e M =>
    nx (keep (aIndexS 5 (eget e 16) (eget e 17) M)) (some 18) e M fun e M =>
    nx (keep (aLoad true 5 (eget e 18) M)) (some 19) e M fun e M =>
    nx (aCall cx.P.cellsOf cx.rw call false M.length 103 [(eget e 19)] M) (some 20) e M fun e M =>
    nx (keep (aIndexS 5 (eget e 14) (eget e 15) M)) (some 21) e M fun e M =>
    nx (oStore 5 (eget e 21) (eget e 20) M) none e M fun e M =>
    some (e, M)).map fun q => (prune [0, 3, 4] q.1, q.2)
noncomputable def f65_r6 (call : CallF) : Env → Mem → Option (Env × Mem) := fun e M =>
    (nx (oMv (eget e 3)) (some 22) e M fun e M =>
    nx (oMv (eget e 22)) (some 2) e M fun e M =>
    some (e, M)).map fun q => (prune [2] q.1, q.2)
noncomputable def f65_l3 (call : CallF) (k : Nat) : St :=
  (bSeq (bSeq (bReg (f65_r3 call))
  (bCond (.tmp 11)
   (bEx .nrm)
   (bEx (.ext 0))))
  (bSeq (bBlock 1 (bReg (f65_r5 call)))
  (bReg (f65_r4 call))))
noncomputable def f65 (call : CallF) (k : Nat) : St :=
  (bSeq (bReg (f65_r0 call))
  (bSeq (bReg (f65_r1 call))
  (bSeq (bSeq (bReg (f65_r2 call))
  (bBlock 0 (bLoop [0, 3, 4] (f65_l3 call k) k)))
  (bSeq (bReg (f65_r6 call))
  (bEx .ret)))))
theorem f65_eq (call : CallF) (k : Nat) : exec cx call 23 f65_an k (Try.f65.body.getD .skip) = f65 call k := by kernel_rfl
/-! ### f66: loop.example/g01263/impl.ValidBook -/
def f66_an : Ann := ⟨[(0, ⟨[], [], [], [], [1]⟩), (1, ⟨[], [], [], [], [1, 3]⟩), (2, ⟨[], [], [], [], [1, 3, 29]⟩), (3, ⟨[], [], [], [], [2]⟩), (4, ⟨[], [], [], [], [1, 3, 31, 32, 33]⟩), (5, ⟨[], [], [], [], [1, 3, 31, 32, 33, 34]⟩), (6, ⟨[], [], [], [], [1, 3, 5, 31, 32, 33]⟩), (7, ⟨[], [], [], [], [1, 3, 31, 32, 33, 39]⟩), (8, ⟨[], [], [], [], [2]⟩), (9, ⟨[], [], [], [], [1, 3, 31, 32, 33]⟩), (10, ⟨[], [], [], [], [1, 3, 6]⟩), (11, ⟨[], [], [], [], [1, 3, 6, 42, 43, 44]⟩), (12, ⟨[], [], [], [], [1, 3, 6, 42, 43, 44, 45]⟩), (13, ⟨[], [], [], [], [1, 3, 6, 8, 42, 43, 44]⟩), (14, ⟨[], [], [], [], [1, 3, 8, 42, 43, 44, 102]⟩), (15, ⟨[], [], [], [], [2]⟩), (16, ⟨[], [], [], [], [1, 3, 6, 42, 43, 44]⟩), (17, ⟨[], [], [], [], [1, 3, 6, 42, 43, 44]⟩), (18, ⟨[], [], [], [], [2]⟩)], [(5, [1, 3, 31, 32, 33]), (12, [1, 3, 6, 42, 43, 44])]⟩
noncomputable def f66_r0 (call : CallF) : Env → Mem → Option (Env × Mem) := fun e M =>
    (nx (keep (aBox 3 (eget e 0) M)) (some 1) e M fun e M =>
    nx (oMv (.bool false)) (some 2) e M fun e M =>
    some (e, M)).map fun q => (prune [1] q.1, q.2)
noncomputable def f66_r1 (call : CallF) : Env → Mem → Option (Env × Mem) := fun e M =>
    (nx (keep (aFieldAddr 1 1 (eget e 1) M)) (some 9) e M fun e M =>
    nx (keep (aLoad false 1 (eget e 9) M)) (some 10) e M fun e M =>
    nx (oLen cx.P 47 (eget e 10) M) (some 11) e M fun e M =>
    nx (oMv (eget e 11)) (some 3) e M fun e M =>
    some (e, M)).map fun q => (prune [1, 3] q.1, q.2)
noncomputable def f66_r2 (call : CallF) : Env → Mem → Option (Env × Mem) := fun e M =>
    (nx (keep (aFieldAddr 0 1 (eget e 1) M)) (some 12) e M fun e M =>
    nx (keep (aLoad false 1 (eget e 12) M)) (some 13) e M fun e M =>
    nx (aCall cx.P.cellsOf cx.rw call false M.length 104 [(eget e 13)] M) (some 14) e M fun e M =>
    nx (keep (aUn .not (eget e 14))) (some 15) e M fun e M =>
    nx (oMv (eget e 15)) (some 16) e M fun e M =>
    nx (aGuard (some ((eget e 16), false)) (oMv (eget e 3))) (some 17) e M fun e M =>
    nx (aGuard (some ((eget e 16), false)) (oBin cx.P .lss 2 (eget e 17) (.int .i64 1) M)) (some 18) e M fun e M =>
    nx (keep (aPick (eget e 16) (.bool true) (eget e 18))) (some 19) e M fun e M =>
    nx (oMv (eget e 19)) (some 20) e M fun e M =>
    nx (aGuard (some ((eget e 20), false)) (oMv (eget e 3))) (some 21) e M fun e M =>
    nx (aGuard (some ((eget e 20), false)) (oBin cx.P .gtr 2 (eget e 21) (.int .i64 16) M)) (some 22) e M fun e M =>
    nx (keep (aPick (eget e 20) (.bool true) (eget e 22))) (some 23) e M fun e M =>
    nx (oMv (eget e 23)) (some 24) e M fun e M =>
    nx (aGuard (some ((eget e 24), false)) (keep (aFieldAddr 2 1 (eget e 1) M))) (some 25) e M fun e M =>
    nx (aGuard (some ((eget e 24), false)) (keep (aLoad false 1 (eget e 25) M))) (some 26) e M fun e M =>
    nx (aGuard (some ((eget e 24), false)) (oLen cx.P 54 (eget e 26) M)) (some 27) e M fun e M =>
    nx (aGuard (some ((eget e 24), false)) (oBin cx.P .gtr 3 (eget e 27) (.int .i64 40) M)) (some 28) e M fun e M =>
    nx (keep (aPick (eget e 24) (.bool true) (eget e 28))) (some 29) e M fun e M =>
    some (e, M)).map fun q => (prune [1, 3, 29] q.1, q.2)
noncomputable def f66_r3 (call : CallF) : Env → Mem → Option (Env × Mem) := fun e M =>
    (nx (oMv (.bool false)) (some 2) e M fun e M =>
    some (e, M)).map fun q => (prune [2] q.1, q.2)
noncomputable def f66_r4 (call : CallF) : Env → Mem → Option (Env × Mem) := fun e M =>
    (nx (keep (aFieldAddr 1 1 (eget e 1) M)) (some 30) e M fun e M =>
    nx (keep (aLoad false 1 (eget e 30) M)) (some 31) e M fun e M =>
    nx (oLen cx.P 47 (eget e 31) M) (some 32) e M fun e M =>
    nx (oMv (.int .i64 0)) (some 33) e M fun e M =>
    some (e, M)).map fun q => (prune [1, 3, 31, 32, 33] q.1, q.2)
noncomputable def f66_r5 (call : CallF) : Env → Mem → Option (Env × Mem) := fun e M =>
    (nx (oBin cx.P .lss 3 (eget e 33) (eget e 32) M) (some 34) e M fun e M =>
    some (e, M)).map fun q => (prune [1, 3, 31, 32, 33, 34] q.1, q.2)
noncomputable def f66_r6 (call : CallF) : Env → Mem → Option (Env × Mem) := fun e M =>
    (nx (keep (aIndexS 1 (eget e 31) (eget e 33) M)) (some 35) e M fun e M =>
    nx (keep (aLoad false 1 (eget e 35) M)) (some 36) e M fun e M =>
    nx (oMv (eget e 36)) (some 5) e M fun e M =>
    some (e, M)).map fun q => (prune [1, 3, 5, 31, 32, 33] q.1, q.2)
noncomputable def f66_r7 (call : CallF) : Env → Mem → Option (Env × Mem) := fun e M =>
    (nx (oMv (eget e 5)) (some 37) e M fun e M =>
    nx (aCall cx.P.cellsOf cx.rw call false M.length 105 [(eget e 37)] M) (some 38) e M fun e M =>
    nx (keep (aUn .not (eget e 38))) (some 39) e M fun e M =>
    some (e, M)).map fun q => (prune [1, 3, 31, 32, 33, 39] q.1, q.2)
noncomputable def f66_r8 (call : CallF) : Env → Mem → Option (Env × Mem) := fun e M =>
    (nx (oMv (.bool false)) (some 2) e M fun e M =>
    some (e, M)).map fun q => (prune [2] q.1, q.2)
noncomputable def f66_r9 (call : CallF) : Env → Mem → Option (Env × Mem) := fun e M =>
    (nx (oBin cx.P .add 3 (eget e 33) (.int .i64 1) M) (some 40) e M fun e M =>
    nx (oMv (eget e 40)) (some 33) e M fun e M =>
    some (e, M)).map fun q => (prune [1, 3, 31, 32, 33] q.1, q.2)
noncomputable def f66_r10 (call : CallF) : Env → Mem → Option (Env × Mem) := fun e M =>
    (nx (oMv (.int .i64 0)) (some 6) e M fun e M =>
    some (e, M)).map fun q => (prune [1, 3, 6] q.1, q.2)
noncomputable def f66_r11 (call : CallF) : Env → Mem → Option (Env × Mem) := fun e M =>
    (nx (keep (aFieldAddr 2 1 (eget e 1) M)) (some 41) e M fun e M =>
    nx (keep (aLoad false 1 (eget e 41) M)) (some 42) e M fun e M =>
    nx (oLen cx.P 54 (eget e 42) M) (some 43) e M fun e M =>
    nx (oMv (.int .i64 0)) (some 44) e M fun e M =>
    some (e, M)).map fun q => (prune [1, 3, 6, 42, 43, 44] q.1, q.2)
noncomputable def f66_r12 (call : CallF) : Env → Mem → Option (Env × Mem) := fun e M =>
    (nx (oBin cx.P .lss 3 (eget e 44) (eget e 43) M) (some 45) e M fun e M =>
    some (e, M)).map fun q => (prune [1, 3, 6, 42, 43, 44, 45] q.1, q.2)
noncomputable def f66_r13 (call : CallF) : Env → Mem → Option (Env × Mem) := fun e M =>
    (nx (keep (aIndexS 5 (eget e 42) (eget e 44) M)) (some 46) e M fun e M =>
    nx (keep (aLoad true 5 (eget e 46) M)) (some 47) e M fun e M =>
    nx (oAlloc cx.P M.length 156 5) (some 8) e M fun e M =>
    nx (oStore 5 (eget e 8) (eget e 47) M) none e M fun e M =>
    some (e, M)).map fun q => (prune [1, 3, 6, 8, 42, 43, 44] q.1, q.2)
noncomputable def f66_r14 (call : CallF) : Env → Mem → Option (Env × Mem) := fun e M =>
    (nx (oMv (eget e 3)) (some 48) e M fun e M =>
    nx (keep (aFieldAddr 0 1 (eget e 8) M)) (some 49) e M fun e M =>
    nx (keep (aLoad false 1 (eget e 49) M)) (some 50) e M fun e M =>
    nx (keep (aFieldAddr 1 1 (eget e 8) M)) (some 51) e M fun e M =>
    nx (keep (aLoad false 1 (eget e 51) M)) (some 52) e M fun e M =>
    nx (keep (aLitI 2 1 [(eget e 50), (eget e 52)] M)) (some 53) e M fun e M =>
    nx (aCall cx.P.cellsOf cx.rw call false M.length 106 [(eget e 48), (eget e 53)] M) (some 54) e M fun e M =>
    nx (keep (aUn .not (eget e 54))) (some 55) e M fun e M =>
    nx (oMv (eget e 55)) (some 56) e M fun e M =>
    nx (aGuard (some ((eget e 56), false)) (keep (aFieldAddr 2 1 (eget e 8) M))) (some 57) e M fun e M =>
    nx (aGuard (some ((eget e 56), false)) (keep (aLoad false 1 (eget e 57) M))) (some 58) e M fun e M =>
    nx (aGuard (some ((eget e 56), false)) (oMv (eget e 6))) (some 59) e M fun e M =>
    nx (aGuard (some ((eget e 56), false)) (oBin cx.P .lss 2 (eget e 58) (eget e 59) M)) (some 60) e M fun e M =>
    nx (keep (aPick (eget e 56) (.bool true) (eget e 60))) (some 61) e M fun e M =>
    nx (oMv (eget e 61)) (some 62) e M fun e M =>
    nx (aGuard (some ((eget e 62), false)) (keep (aFieldAddr 2 1 (eget e 8) M))) (some 63) e M fun e M =>
    nx (aGuard (some ((eget e 62), false)) (keep (aLoad false 1 (eget e 63) M))) (some 64) e M fun e M =>
    nx (aGuard (some ((eget e 62), false)) (keep (aFieldAddr 0 1 (eget e 1) M))) (some 65) e M fun e M =>
    nx (aGuard (some ((eget e 62), false)) (keep (aLoad false 1 (eget e 65) M))) (some 66) e M fun e M =>
    nx (aGuard (some ((eget e 62), false)) (oBin cx.P .gtr 2 (eget e 64) (eget e 66) M)) (some 67) e M fun e M =>
    nx (keep (aPick (eget e 62) (.bool true) (eget e 67))) (some 68) e M fun e M =>
    nx (oMv (eget e 68)) (some 69) e M fun e M =>
    nx (aGuard (some ((eget e 69), false)) (keep (aFieldAddr 3 1 (eget e 8) M))) (some 70) e M fun e M =>
    nx (aGuard (some ((eget e 69), false)) (keep (aLoad false 1 (eget e 70) M))) (some 71) e M fun e M =>
    nx (aGuard (some ((eget e 69), false)) (oBin cx.P .lss 2 (eget e 71) (.int .i64 1) M)) (some 72) e M fun e M =>
    nx (keep (aPick (eget e 69) (.bool true) (eget e 72))) (some 73) e M fun e M =>
    nx (oMv (eget e 73)) (some 74) e M fun e M =>
    nx (aGuard (some ((eget e 74), false)) (keep (aFieldAddr 3 1 (eget e 8) M))) (some 75) e M fun e M =>
    nx (aGuard (some ((eget e 74), false)) (keep (aLoad false 1 (eget e 75) M))) (some 76) e M fun e M =>
    nx (aGuard (some ((eget e 74), false)) (oBin cx.P .gtr 2 (eget e 76) (.int .i64 100000000) M)) (some 77) e M fun e M =>
    nx (keep (aPick (eget e 74) (.bool true) (eget e 77))) (some 78) e M fun e M =>
    nx (oMv (eget e 78)) (some 79) e M fun e M =>
    nx (aGuard (some ((eget e 79), false)) (keep (aFieldAddr 4 1 (eget e 8) M))) (some 80) e M fun e M =>
    nx (aGuard (some ((eget e 79), false)) (keep (aLoad false 1 (eget e 80) M))) (some 81) e M fun e M =>
    nx (aGuard (some ((eget e 79), false)) (oBin cx.P .lss 2 (eget e 81) (.int .i64 0) M)) (some 82) e M fun e M =>
    nx (keep (aPick (eget e 79) (.bool true) (eget e 82))) (some 83) e M fun e M =>
    nx (oMv (eget e 83)) (some 84) e M fun e M =>
    nx (aGuard (some ((eget e 84), false)) (keep (aFieldAddr 4 1 (eget e 8) M))) (some 85) e M fun e M =>
    nx (aGuard (some ((eget e 84), false)) (keep (aLoad false 1 (eget e 85) M))) (some 86) e M fun e M =>
    nx (aGuard (some ((eget e 84), false)) (keep (aFieldAddr 3 1 (eget e 8) M))) (some 87) e M fun e M =>
    nx (aGuard (some ((eget e 84), false)) (keep (aLoad false 1 (eget e 87) M))) (some 88) e M fun e M =>
    nx (aGuard (some ((eget e 84), false)) (oBin cx.P .gtr 2 (eget e 86) (eget e 88) M)) (some 89) e M fun e M =>
    nx (keep (aPick (eget e 84) (.bool true) (eget e 89))) (some 90) e M fun e M =>
    nx (oMv (eget e 90)) (some 91) e M fun e M =>
    nx (aGuard (some ((eget e 91), false)) (keep (aFieldAddr 0 1 (eget e 8) M))) (some 92) e M fun e M =>
    nx (aGuard (some ((eget e 91), false)) (keep (aLoad false 1 (eget e 92) M))) (some 93) e M fun e M =>
    nx (aGuard (some ((eget e 91), false)) (keep (aFieldAddr 1 1 (eget e 8) M))) (some 94) e M fun e M =>
    nx (aGuard (some ((eget e 91), false)) (keep (aLoad false 1 (eget e 94) M))) (some 95) e M fun e M =>
    nx (aGuard (some ((eget e 91), false)) (oBin cx.P .eql 2 (eget e 93) (eget e 95) M)) (some 96) e M fun e M =>
    nx (aGuard (some ((eget e 91), false)) (oMv (eget e 96))) (some 97) e M fun e M =>
    nx (aGuard (some ((eget e 97), true)) (keep (aFieldAddr 4 1 (eget e 8) M))) (some 98) e M fun e M =>
    nx (aGuard (some ((eget e 97), true)) (keep (aLoad false 1 (eget e 98) M))) (some 99) e M fun e M =>
    nx (aGuard (some ((eget e 97), true)) (oBin cx.P .neq 2 (eget e 99) (.int .i64 0) M)) (some 100) e M fun e M =>
    nx (aGuard (some ((eget e 91), false)) (keep (aPick (eget e 97) (eget e 100) (.bool false)))) (some 101) e M fun e M =>
    nx (keep (aPick (eget e 91) (.bool true) (eget e 101))) (some 102) e M fun e M =>
    some (e, M)).map fun q => (prune [1, 3, 8, 42, 43, 44, 102] q.1, q.2)
noncomputable def f66_r15 (call : CallF) : Env → Mem → Option (Env × Mem) := fun e M =>
    (nx (oMv (.bool false)) (some 2) e M fun e M =>
    some (e, M)).map fun q => (prune [2] q.1, q.2)
noncomputable def f66_r16 (call : CallF) : Env → Mem → Option (Env × Mem) := fun e M =>
    (nx (keep (aFieldAddr 2 1 (eget e 8) M)) (some 103) e M fun e M =>
    nx (keep (aLoad false 1 (eget e 103) M)) (some 104) e M fun e M =>
    nx (oMv (eget e 104)) (some 6) e M fun e M =>
    some (e, M)).map fun q => (prune [1, 3, 6, 42, 43, 44] q.1, q.2)
noncomputable def f66_r17 (call : CallF) : Env → Mem → Option (Env × Mem) := fun e M =>
    (nx (oBin cx.P .add 3 (eget e 44) (.int .i64 1) M) (some 105) e M fun e M =>
    nx (oMv (eget e 105)) (some 44) e M fun e M =>
    some (e, M)).map fun q => (prune [1, 3, 6, 42, 43, 44] q.1, q.2)
noncomputable def f66_r18 (call : CallF) : Env → Mem → Option (Env × Mem) := fun e M =>
    (nx (oMv (.bool true)) (some 2) e M fun e M =>
    some (e, M)).map fun q => (prune [2] q.1, q.2)
noncomputable def f66_l5 (call : CallF) (k : Nat) : St :=
  (bSeq (bReg (f66_r5 call))
  (bSeq (bCond (.tmp 34)
   (bEx .nrm)
   (bEx (.ext 0)))
  (bSeq (bBlock 1 (bSeq (bReg (f66_r6 call))
   (bSeq (bReg (f66_r7 call))
   (bCond (.tmp 39)
    (bSeq (bReg (f66_r8 call))
    (bEx .ret))
    (bEx .nrm)))))
  (bReg (f66_r9 call)))))
noncomputable def f66_l12 (call : CallF) (k : Nat) : St :=
  (bSeq (bReg (f66_r12 call))
  (bSeq (bCond (.tmp 45)
   (bEx .nrm)
   (bEx (.ext 2)))
  (bSeq (bBlock 3 (bSeq (bReg (f66_r13 call))
   (bSeq (bSeq (bReg (f66_r14 call))
   (bCond (.tmp 102)
    (bSeq (bReg (f66_r15 call))
    (bEx .ret))
    (bEx .nrm)))
   (bReg (f66_r16 call)))))
  (bReg (f66_r17 call)))))
noncomputable def f66 (call : CallF) (k : Nat) : St :=
  (bSeq (bReg (f66_r0 call))
  (bSeq (bReg (f66_r1 call))
  (bSeq (bSeq (bReg (f66_r2 call))
  (bCond (.tmp 29)
   (bSeq (bReg (f66_r3 call))
   (bEx .ret))
   (bEx .nrm)))
  (bSeq (bSeq (bReg (f66_r4 call))
  (bBlock 0 (bLoop [1, 3, 31, 32, 33] (f66_l5 call k) k)))
  (bSeq (bReg (f66_r10 call))
  (bSeq (bSeq (bReg (f66_r11 call))
  (bBlock 2 (bLoop [1, 3, 6, 42, 43, 44] (f66_l12 call k) k)))
  (bSeq (bReg (f66_r18 call))
  (bEx .ret))))))))
theorem f66_eq (call : CallF) (k : Nat) : exec cx call 106 f66_an k (Try.f66.body.getD .skip) = f66 call k := by kernel_rfl
/-! ### f67: loop.example/g01263/impl.ValidDeal -/
def f67_an : Ann := ⟨[(0, ⟨[], [], [], [], [1]⟩), (1, ⟨[], [], [], [], [1, 21]⟩), (2, ⟨[], [], [], [], [2]⟩), (3, ⟨[], [], [], [], [1, 3]⟩), (4, ⟨[], [], [], [], [1, 3, 4, 5, 6, 7]⟩), (5, ⟨[], [], [], [], [2]⟩)], []⟩
noncomputable def f67_r0 (call : CallF) : Env → Mem → Option (Env × Mem) := fun e M =>
    (nx (keep (aBox 6 (eget e 0) M)) (some 1) e M fun e M =>
    nx (oMv (.bool false)) (some 2) e M fun e M =>
    some (e, M)).map fun q => (prune [1] q.1, q.2)
noncomputable def f67_r1 (call : CallF) : Env → Mem → Option (Env × Mem) := fun e M =>
    (nx (keep (aFieldAddr 1 1 (eget e 1) M)) (some 8) e M fun e M =>
    nx (keep (aLoad false 1 (eget e 8) M)) (some 9) e M fun e M =>
    nx (oBin cx.P .lss 23 (eget e 9) (.int .i8 1) M) (some 10) e M fun e M =>
    nx (oMv (eget e 10)) (some 11) e M fun e M =>
    nx (aGuard (some ((eget e 11), false)) (keep (aFieldAddr 1 1 (eget e 1) M))) (some 12) e M fun e M =>
    nx (aGuard (some ((eget e 11), false)) (keep (aLoad false 1 (eget e 12) M))) (some 13) e M fun e M =>
    nx (aGuard (some ((eget e 11), false)) (oBin cx.P .gtr 23 (eget e 13) (.int .i8 4) M)) (some 14) e M fun e M =>
    nx (keep (aPick (eget e 11) (.bool true) (eget e 14))) (some 15) e M fun e M =>
    nx (oMv (eget e 15)) (some 16) e M fun e M =>
    nx (aGuard (some ((eget e 16), false)) (keep (aFieldAddr 0 1 (eget e 1) M))) (some 17) e M fun e M =>
    nx (aGuard (some ((eget e 16), false)) (keep (aLoad false 1 (eget e 17) M))) (some 18) e M fun e M =>
    nx (aGuard (some ((eget e 16), false)) (aCall cx.P.cellsOf cx.rw call false M.length 104 [(eget e 18)] M)) (some 19) e M fun e M =>
    nx (aGuard (some ((eget e 16), false)) (keep (aUn .not (eget e 19)))) (some 20) e M fun e M =>
    nx (keep (aPick (eget e 16) (.bool true) (eget e 20))) (some 21) e M fun e M =>
    some (e, M)).map fun q => (prune [1, 21] q.1, q.2)
noncomputable def f67_r2 (call : CallF) : Env → Mem → Option (Env × Mem) := fun e M =>
    (nx (oMv (.bool false)) (some 2) e M fun e M =>
    some (e, M)).map fun q => (prune [2] q.1, q.2)
noncomputable def f67_r3 (call : CallF) : Env → Mem → Option (Env × Mem) := fun e M =>
    (nx (oMv (.fn 107 [])) (some 3) e M fun e M =>
    some (e, M)).map fun q => (prune [1, 3] q.1, q.2)
noncomputable def f67_r4 (call : CallF) : Env → Mem → Option (Env × Mem) := fun e M =>
    (nx (keep (aFieldAddr 1 1 (eget e 1) M)) (some 23) e M fun e M =>
    nx (keep (aLoad false 1 (eget e 23) M)) (some 24) e M fun e M =>
    nx (aCall cx.P.cellsOf cx.rw call false M.length 108 [(eget e 24)] M) (some 25) e M fun e M =>
    nx (oMv (eget e 25)) (some 22) e M fun e M =>
    nx (keep (aExtract 0 (eget e 22))) (some 26) e M fun e M =>
    nx (keep (aExtract 1 (eget e 22))) (some 27) e M fun e M =>
    nx (keep (aExtract 2 (eget e 22))) (some 28) e M fun e M =>
    nx (keep (aExtract 3 (eget e 22))) (some 29) e M fun e M =>
    nx (oMv (eget e 26)) (some 4) e M fun e M =>
    nx (oMv (eget e 27)) (some 5) e M fun e M =>
    nx (oMv (eget e 28)) (some 6) e M fun e M =>
    nx (oMv (eget e 29)) (some 7) e M fun e M =>
    some (e, M)).map fun q => (prune [1, 3, 4, 5, 6, 7] q.1, q.2)
noncomputable def f67_r5 (call : CallF) : Env → Mem → Option (Env × Mem) := fun e M =>
    (nx (oMv (eget e 3)) (some 30) e M fun e M =>
    nx (oMv (eget e 4)) (some 31) e M fun e M =>
    nx (keep (aFieldAddr 2 1 (eget e 1) M)) (some 32) e M fun e M =>
    nx (keep (aLoad false 1 (eget e 32) M)) (some 33) e M fun e M =>
    nx (oCall cx call false M.length (eget e 30) [(eget e 31), (eget e 33), (.int .i64 0), (.int .i64 39)] M) (some 34) e M fun e M =>
    nx (oMv (eget e 34)) (some 35) e M fun e M =>
    nx (aGuard (some ((eget e 35), true)) (oMv (eget e 3))) (some 36) e M fun e M =>
    nx (aGuard (some ((eget e 35), true)) (oMv (eget e 5))) (some 37) e M fun e M =>
    nx (aGuard (some ((eget e 35), true)) (keep (aFieldAddr 3 1 (eget e 1) M))) (some 38) e M fun e M =>
    nx (aGuard (some ((eget e 35), true)) (keep (aLoad false 1 (eget e 38) M))) (some 39) e M fun e M =>
    nx (aGuard (some ((eget e 35), true)) (oCall cx call false M.length (eget e 36) [(eget e 37), (eget e 39), (.int .i64 0), (.int .i64 15)] M)) (some 40) e M fun e M =>
    nx (keep (aPick (eget e 35) (eget e 40) (.bool false))) (some 41) e M fun e M =>
    nx (oMv (eget e 41)) (some 42) e M fun e M =>
    nx (aGuard (some ((eget e 42), true)) (oMv (eget e 3))) (some 43) e M fun e M =>
    nx (aGuard (some ((eget e 42), true)) (oMv (eget e 6))) (some 44) e M fun e M =>
    nx (aGuard (some ((eget e 42), true)) (keep (aFieldAddr 4 1 (eget e 1) M))) (some 45) e M fun e M =>
    nx (aGuard (some ((eget e 42), true)) (keep (aLoad false 1 (eget e 45) M))) (some 46) e M fun e M =>
    nx (aGuard (some ((eget e 42), true)) (oCall cx call false M.length (eget e 43) [(eget e 44), (eget e 46), (.int .i64 0), (.int .i64 15)] M)) (some 47) e M fun e M =>
    nx (keep (aPick (eget e 42) (eget e 47) (.bool false))) (some 48) e M fun e M =>
    nx (oMv (eget e 48)) (some 49) e M fun e M =>
    nx (aGuard (some ((eget e 49), true)) (oMv (eget e 3))) (some 50) e M fun e M =>
    nx (aGuard (some ((eget e 49), true)) (oMv (eget e 7))) (some 51) e M fun e M =>
    nx (aGuard (some ((eget e 49), true)) (keep (aFieldAddr 5 1 (eget e 1) M))) (some 52) e M fun e M =>
    nx (aGuard (some ((eget e 49), true)) (keep (aLoad false 1 (eget e 52) M))) (some 53) e M fun e M =>
    nx (aGuard (some ((eget e 49), true)) (oCall cx call false M.length (eget e 50) [(eget e 51), (eget e 53), (.int .i64 1), (.int .i64 100000000)] M)) (some 54) e M fun e M =>
    nx (keep (aPick (eget e 49) (eget e 54) (.bool false))) (some 55) e M fun e M =>
    nx (oMv (eget e 55)) (some 2) e M fun e M =>
    some (e, M)).map fun q => (prune [2] q.1, q.2)
noncomputable def f67 (call : CallF) (k : Nat) : St :=
  (bSeq (bReg (f67_r0 call))
  (bSeq (bSeq (bReg (f67_r1 call))
  (bCond (.tmp 21)
   (bSeq (bReg (f67_r2 call))
   (bEx .ret))
   (bEx .nrm)))
  (bSeq (bReg (f67_r3 call))
  (bSeq (bReg (f67_r4 call))
  (bSeq (bReg (f67_r5 call))
  (bEx .ret))))))
theorem f67_eq (call : CallF) (k : Nat) : exec cx call 56 f67_an k (Try.f67.body.getD .skip) = f67 call k := by kernel_rfl
/-! ### f68: loop.example/g01263/impl.do -/
def f68_an : Ann := ⟨[(0, ⟨[0], [], [], [], [2, 3, 4]⟩), (1, ⟨[], [], [], [], [2, 3, 4, 16]⟩), (2, ⟨[1], [], [], [], [4, 5]⟩), (3, ⟨[], [], [], [], [2, 3, 4, 6, 7, 8]⟩), (4, ⟨[], [], [], [], [2, 3, 4, 6, 7, 8, 10]⟩), (5, ⟨[], [], [], [], [2, 3, 4, 7, 8, 55]⟩), (6, ⟨[1], [], [], [], [4, 5]⟩), (7, ⟨[], [], [], [], [2, 3, 4, 7, 67]⟩), (8, ⟨[1], [], [], [], [4, 5]⟩), (9, ⟨[2], [1], [], [], [2, 3, 4, 7]⟩), (10, ⟨[], [], [], [], [2, 3, 4, 7]⟩), (11, ⟨[], [], [], [], [2, 3, 4, 7, 76]⟩), (12, ⟨[], [], [], [], [2, 3, 4, 80]⟩), (13, ⟨[1], [], [], [], [4, 5]⟩), (14, ⟨[14, 16], [], [], [], [2, 4]⟩), (15, ⟨[1], [], [], [], [4, 5]⟩), (16, ⟨[], [], [], [], [2, 3, 4, 7, 11]⟩), (17, ⟨[], [], [], [], [2, 3, 4, 11, 134]⟩), (18, ⟨[1], [], [], [], [4, 5]⟩), (19, ⟨[], [], [], [], [2, 3, 4, 11, 137]⟩), (20, ⟨[], [], [], [], [2, 3, 4, 11, 137, 138]⟩), (21, ⟨[], [], [], [], [2, 3, 4, 11]⟩), (22, ⟨[], [], [], [], [2, 4, 11, 151]⟩), (23, ⟨[], [], [], [], [2, 4]⟩), (24, ⟨[], [], [], [], [2, 3, 4, 11, 137, 155]⟩), (25, ⟨[], [], [], [], [2, 3, 4, 11, 167]⟩), (26, ⟨[1], [], [], [], [4, 5]⟩), (27, ⟨[], [], [], [12], [2, 3, 4, 11]⟩), (28, ⟨[], [], [], [12], [2, 3, 4, 11]⟩), (29, ⟨[], [], [], [9], [2, 4, 11]⟩), (30, ⟨[], [], [], [], [2, 4, 210]⟩), (31, ⟨[1], [], [], [], [4, 5]⟩), (32, ⟨[], [], [], [], [2, 4, 11, 212]⟩), (33, ⟨[], [], [], [], [2, 4]⟩), (34, ⟨[1], [], [], [], [4, 5]⟩)], []⟩
noncomputable def f68_r0 (call : CallF) : Env → Mem → Option (Env × Mem) := fun e M =>
    (nx (aBoxO M.length 56 3 (eget e 0) M) (some 2) e M fun e M =>
    nx (keep (aBox 6 (eget e 1) M)) (some 3) e M fun e M =>
    nx (oAlloc cx.P M.length 56 3) (some 4) e M fun e M =>
    nx (oMv (.int .i64 0)) (some 5) e M fun e M =>
    some (e, M)).map fun q => (prune [2, 3, 4] q.1, q.2)
noncomputable def f68_r1 (call : CallF) : Env → Mem → Option (Env × Mem) := fun e M =>
    (nx (keep (aFieldAddr 0 1 (eget e 3) M)) (some 12) e M fun e M =>
    nx (keep (aLoad false 1 (eget e 12) M)) (some 13) e M fun e M =>
    nx (keep (aFieldAddr 0 1 (eget e 2) M)) (some 14) e M fun e M =>
    nx (keep (aLoad false 1 (eget e 14) M)) (some 15) e M fun e M =>
    nx (oBin cx.P .lss 2 (eget e 13) (eget e 15) M) (some 16) e M fun e M =>
    some (e, M)).map fun q => (prune [2, 3, 4, 16] q.1, q.2)
noncomputable def f68_r2 (call : CallF) : Env → Mem → Option (Env × Mem) := fun e M =>
    (nx (keep (aBuild (zeroOf cx.P 56) [] M)) (some 17) e M fun e M =>
    nx (oStoreK 3 (eget e 4) (eget e 17) M) none e M fun e M =>
    nx (oMv (.int .i64 4)) (some 5) e M fun e M =>
    some (e, M)).map fun q => (prune [4, 5] q.1, q.2)
noncomputable def f68_r3 (call : CallF) : Env → Mem → Option (Env × Mem) := fun e M =>
    (nx (keep (aFieldAddr 1 1 (eget e 3) M)) (some 19) e M fun e M =>
    nx (keep (aLoad false 1 (eget e 19) M)) (some 20) e M fun e M =>
    nx (aCall cx.P.cellsOf cx.rw call false M.length 108 [(eget e 20)] M) (some 21) e M fun e M =>
    nx (oMv (eget e 21)) (some 18) e M fun e M =>
    nx (keep (aExtract 0 (eget e 18))) (some 22) e M fun e M =>
    nx (keep (aExtract 1 (eget e 18))) (some 23) e M fun e M =>
    nx (keep (aExtract 2 (eget e 18))) (some 24) e M fun e M =>
    nx (keep (aExtract 3 (eget e 18))) (some 25) e M fun e M =>
    nx (oMv (eget e 22)) (some 6) e M fun e M =>
    nx (oMv (eget e 23)) (some 7) e M fun e M =>
    nx (oMv (eget e 24)) (some 8) e M fun e M =>
    nx (oMv (eget e 25)) (some 9) e M fun e M =>
    some (e, M)).map fun q => (prune [2, 3, 4, 6, 7, 8] q.1, q.2)
noncomputable def f68_r4 (call : CallF) : Env → Mem → Option (Env × Mem) := fun e M =>
    (nx (keep (aFieldAddr 1 1 (eget e 2) M)) (some 26) e M fun e M =>
    nx (keep (aLoad false 1 (eget e 26) M)) (some 27) e M fun e M =>
    nx (oLen cx.P 47 (eget e 27) M) (some 28) e M fun e M =>
    nx (oMv (eget e 28)) (some 10) e M fun e M =>
    some (e, M)).map fun q => (prune [2, 3, 4, 6, 7, 8, 10] q.1, q.2)
noncomputable def f68_r5 (call : CallF) : Env → Mem → Option (Env × Mem) := fun e M =>
    (nx (oMv (eget e 7)) (some 29) e M fun e M =>
    nx (oMv (eget e 29)) (some 30) e M fun e M =>
    nx (aGuard (some ((eget e 30), true)) (keep (aFieldAddr 3 1 (eget e 3) M))) (some 31) e M fun e M =>
    nx (aGuard (some ((eget e 30), true)) (keep (aLoad false 1 (eget e 31) M))) (some 32) e M fun e M =>
    nx (aGuard (some ((eget e 30), true)) (oMv (eget e 10))) (some 33) e M fun e M =>
    nx (aGuard (some ((eget e 30), true)) (oBin cx.P .geq 2 (eget e 32) (eget e 33) M)) (some 34) e M fun e M =>
    nx (keep (aPick (eget e 30) (eget e 34) (.bool false))) (some 35) e M fun e M =>
    nx (oMv (eget e 35)) (some 36) e M fun e M =>
    nx (aGuard (some ((eget e 36), false)) (oMv (eget e 8))) (some 37) e M fun e M =>
    nx (aGuard (some ((eget e 36), false)) (oMv (eget e 37))) (some 38) e M fun e M =>
    nx (aGuard (some ((eget e 38), true)) (keep (aFieldAddr 4 1 (eget e 3) M))) (some 39) e M fun e M =>
    nx (aGuard (some ((eget e 38), true)) (keep (aLoad false 1 (eget e 39) M))) (some 40) e M fun e M =>
    nx (aGuard (some ((eget e 38), true)) (oMv (eget e 10))) (some 41) e M fun e M =>
    nx (aGuard (some ((eget e 38), true)) (oBin cx.P .geq 2 (eget e 40) (eget e 41) M)) (some 42) e M fun e M =>
    nx (aGuard (some ((eget e 36), false)) (keep (aPick (eget e 38) (eget e 42) (.bool false)))) (some 43) e M fun e M =>
    nx (keep (aPick (eget e 36) (.bool true) (eget e 43))) (some 44) e M fun e M =>
    nx (oMv (eget e 44)) (some 45) e M fun e M =>
    nx (aGuard (some ((eget e 45), false)) (oMv (eget e 6))) (some 46) e M fun e M =>
    nx (aGuard (some ((eget e 45), false)) (oMv (eget e 46))) (some 47) e M fun e M =>
    nx (aGuard (some ((eget e 47), true)) (keep (aFieldAddr 2 1 (eget e 3) M))) (some 48) e M fun e M =>
    nx (aGuard (some ((eget e 47), true)) (keep (aLoad false 1 (eget e 48) M))) (some 49) e M fun e M =>
    nx (aGuard (some ((eget e 47), true)) (keep (aFieldAddr 2 1 (eget e 2) M))) (some 50) e M fun e M =>
    nx (aGuard (some ((eget e 47), true)) (keep (aLoad false 1 (eget e 50) M))) (some 51) e M fun e M =>
    nx (aGuard (some ((eget e 47), true)) (oLen cx.P 54 (eget e 51) M)) (some 52) e M fun e M =>
    nx (aGuard (some ((eget e 47), true)) (oBin cx.P .geq 2 (eget e 49) (eget e 52) M)) (some 53) e M fun e M =>
    nx (aGuard (some ((eget e 45), false)) (keep (aPick (eget e 47) (eget e 53) (.bool false)))) (some 54) e M fun e M =>
    nx (keep (aPick (eget e 45) (.bool true) (eget e 54))) (some 55) e M fun e M =>
    some (e, M)).map fun q => (prune [2, 3, 4, 7, 8, 55] q.1, q.2)
noncomputable def f68_r6 (call : CallF) : Env → Mem → Option (Env × Mem) := fun e M =>
    (nx (keep (aBuild (zeroOf cx.P 56) [] M)) (some 56) e M fun e M =>
    nx (oStoreK 3 (eget e 4) (eget e 56) M) none e M fun e M =>
    nx (oMv (.int .i64 2)) (some 5) e M fun e M =>
    some (e, M)).map fun q => (prune [4, 5] q.1, q.2)
noncomputable def f68_r7 (call : CallF) : Env → Mem → Option (Env × Mem) := fun e M =>
    (nx (oMv (eget e 7)) (some 57) e M fun e M =>
    nx (oMv (eget e 57)) (some 58) e M fun e M =>
    nx (aGuard (some ((eget e 58), true)) (oMv (eget e 8))) (some 59) e M fun e M =>
    nx (keep (aPick (eget e 58) (eget e 59) (.bool false))) (some 60) e M fun e M =>
    nx (oMv (eget e 60)) (some 61) e M fun e M =>
    nx (aGuard (some ((eget e 61), true)) (keep (aFieldAddr 3 1 (eget e 3) M))) (some 62) e M fun e M =>
    nx (aGuard (some ((eget e 61), true)) (keep (aLoad false 1 (eget e 62) M))) (some 63) e M fun e M =>
    nx (aGuard (some ((eget e 61), true)) (keep (aFieldAddr 4 1 (eget e 3) M))) (some 64) e M fun e M =>
    nx (aGuard (some ((eget e 61), true)) (keep (aLoad false 1 (eget e 64) M))) (some 65) e M fun e M =>
    nx (aGuard (some ((eget e 61), true)) (oBin cx.P .eql 2 (eget e 63) (eget e 65) M)) (some 66) e M fun e M =>
    nx (keep (aPick (eget e 61) (eget e 66) (.bool false))) (some 67) e M fun e M =>
    some (e, M)).map fun q => (prune [2, 3, 4, 7, 67] q.1, q.2)
noncomputable def f68_r8 (call : CallF) : Env → Mem → Option (Env × Mem) := fun e M =>
    (nx (keep (aBuild (zeroOf cx.P 56) [] M)) (some 68) e M fun e M =>
    nx (oStoreK 3 (eget e 4) (eget e 68) M) none e M fun e M =>
    nx (oMv (.int .i64 4)) (some 5) e M fun e M =>
    some (e, M)).map fun q => (prune [4, 5] q.1, q.2)
noncomputable def f68_r9 (call : CallF) : Env → Mem → Option (Env × Mem) := fun e M =>
    (nx (keep (aLoad true 3 (eget e 2) M)) (some 69) e M fun e M =>
    nx (aCall cx.P.cellsOf cx.rw call true M.length 109 [(eget e 69)] M) (some 70) e M fun e M =>
    nx (oStoreK 3 (eget e 2) (eget e 70) M) none e M fun e M =>
    some (e, M)).map fun q => (prune [2, 3, 4, 7] q.1, q.2)
noncomputable def f68_r10 (call : CallF) : Env → Mem → Option (Env × Mem) := fun e M =>
    (nx (keep (aFieldAddr 0 1 (eget e 3) M)) (some 71) e M fun e M =>
    nx (keep (aLoad false 1 (eget e 71) M)) (some 72) e M fun e M =>
    nx (keep (aFieldAddr 0 1 (eget e 2) M)) (some 73) e M fun e M =>
    nx (oStore 1 (eget e 73) (eget e 72) M) none e M fun e M =>
    some (e, M)).map fun q => (prune [2, 3, 4, 7] q.1, q.2)
noncomputable def f68_r11 (call : CallF) : Env → Mem → Option (Env × Mem) := fun e M =>
    (nx (keep (aFieldAddr 1 1 (eget e 3) M)) (some 74) e M fun e M =>
    nx (keep (aLoad false 1 (eget e 74) M)) (some 75) e M fun e M =>
    nx (oBin cx.P .eql 23 (eget e 75) (.int .i8 1) M) (some 76) e M fun e M =>
    some (e, M)).map fun q => (prune [2, 3, 4, 7, 76] q.1, q.2)
noncomputable def f68_r12 (call : CallF) : Env → Mem → Option (Env × Mem) := fun e M =>
    (nx (keep (aFieldAddr 2 1 (eget e 2) M)) (some 77) e M fun e M =>
    nx (keep (aLoad false 1 (eget e 77) M)) (some 78) e M fun e M =>
    nx (oLen cx.P 54 (eget e 78) M) (some 79) e M fun e M =>
    nx (oBin cx.P .eql 3 (eget e 79) (.int .i64 40) M) (some 80) e M fun e M =>
    some (e, M)).map fun q => (prune [2, 3, 4, 80] q.1, q.2)
noncomputable def f68_r13 (call : CallF) : Env → Mem → Option (Env × Mem) := fun e M =>
    (nx (keep (aBuild (zeroOf cx.P 56) [] M)) (some 81) e M fun e M =>
    nx (oStoreK 3 (eget e 4) (eget e 81) M) none e M fun e M =>
    nx (oMv (.int .i64 3)) (some 5) e M fun e M =>
    some (e, M)).map fun q => (prune [4, 5] q.1, q.2)
noncomputable def f68_r14 (call : CallF) : Env → Mem → Option (Env × Mem) := fun e M =>
    (nx (keep (aFieldAddr 2 1 (eget e 2) M)) (some 82) e M fun e M =>
    nx (keep (aLoad false 1 (eget e 82) M)) (some 83) e M fun e M =>
    nx (keep (aFieldAddr 3 1 (eget e 3) M)) (some 84) e M fun e M =>
    nx (keep (aLoad false 1 (eget e 84) M)) (some 85) e M fun e M =>
    nx (keep (aFieldAddr 4 1 (eget e 3) M)) (some 86) e M fun e M =>
    nx (keep (aLoad false 1 (eget e 86) M)) (some 87) e M fun e M =>
    nx (keep (aFieldAddr 0 1 (eget e 3) M)) (some 88) e M fun e M =>
    nx (keep (aLoad false 1 (eget e 88) M)) (some 89) e M fun e M =>
    nx (keep (aFieldAddr 5 1 (eget e 3) M)) (some 90) e M fun e M =>
    nx (keep (aLoad false 1 (eget e 90) M)) (some 91) e M fun e M =>
    nx (keep (aFieldAddr 5 1 (eget e 3) M)) (some 92) e M fun e M =>
    nx (keep (aLoad false 1 (eget e 92) M)) (some 93) e M fun e M =>
    nx (keep (aBuild (zeroOf cx.P 156) [(0, 1, (eget e 85)), (1, 1, (eget e 87)), (2, 1, (eget e 89)), (3, 1, (eget e 91)), (4, 1, (eget e 93))] M)) (some 94) e M fun e M =>
    nx (keep (aLitI 156 5 [(eget e 94)] M)) (some 95) e M fun e M =>
    nx (aAppO M.length 156 5 40 (eget e 83) (eget e 95) M) (some 96) e M fun e M =>
    nx (keep (aFieldAddr 2 1 (eget e 2) M)) (some 97) e M fun e M =>
    nx (oStoreK 1 (eget e 97) (eget e 96) M) none e M fun e M =>
    some (e, M)).map fun q => (prune [2, 4] q.1, q.2)
noncomputable def f68_r15 (call : CallF) : Env → Mem → Option (Env × Mem) := fun e M =>
    (nx (keep (aLoad true 3 (eget e 2) M)) (some 98) e M fun e M =>
    nx (oStoreK 3 (eget e 4) (eget e 98) M) none e M fun e M =>
    nx (oMv (.int .i64 0)) (some 5) e M fun e M =>
    some (e, M)).map fun q => (prune [4, 5] q.1, q.2)
noncomputable def f68_r16 (call : CallF) : Env → Mem → Option (Env × Mem) := fun e M =>
    (nx (keep (aFieldAddr 2 1 (eget e 2) M)) (some 99) e M fun e M =>
    nx (keep (aLoad false 1 (eget e 99) M)) (some 100) e M fun e M =>
    nx (keep (aFieldAddr 2 1 (eget e 3) M)) (some 101) e M fun e M =>
    nx (keep (aLoad false 1 (eget e 101) M)) (some 102) e M fun e M =>
    nx (keep (aIndexS 5 (eget e 100) (eget e 102) M)) (some 103) e M fun e M =>
    nx (oMv (eget e 103)) (some 11) e M fun e M =>
    some (e, M)).map fun q => (prune [2, 3, 4, 7, 11] q.1, q.2)
noncomputable def f68_r17 (call : CallF) : Env → Mem → Option (Env × Mem) := fun e M =>
    rD [2, 3, 4, 11, 134] (fun (C : List Ob) =>
    nf (oMv (eget e 7)) (some 104) false e C fun e C =>
    nf (oMv (eget e 104)) (some 105) false e C fun e C =>
    nf (aGuard (some ((eget e 105), true)) (keep (aFieldAddr 3 1 (eget e 3) M))) (some 106) false e C fun e C =>
    nf (aGuard (some ((eget e 105), true)) (keep (aLoad false 1 (eget e 106) M))) (some 107) false e C fun e C =>
    nf (aGuard (some ((eget e 105), true)) (oMv (eget e 11))) (some 108) false e C fun e C =>
    nf (aGuard (some ((eget e 105), true)) (keep (aNilCheck (eget e 108) M))) (some 109) false e C fun e C =>
    nf (aGuard (some ((eget e 105), true)) (keep (aFieldAddr 1 1 (eget e 109) M))) (some 110) false e C fun e C =>
    nf (aGuard (some ((eget e 105), true)) (keep (aLoad false 1 (eget e 110) M))) (some 111) false e C fun e C =>
    nf (aGuard (some ((eget e 105), true)) (oBin cx.P .neq 2 (eget e 107) (eget e 111) M)) (some 112) false e C fun e C =>
    nf (keep (aPick (eget e 105) (eget e 112) (.bool false))) (some 113) false e C fun e C =>
    nf (oMv (eget e 113)) (some 114) false e C fun e C =>
    nf (aGuard (some ((eget e 114), false)) (oMv (eget e 11))) (some 115) false e C fun e C =>
    nf (aGuard (some ((eget e 114), false)) (keep (aNilCheck (eget e 115) M))) (some 116) false e C fun e C =>
    nf (aGuard (some ((eget e 114), false)) (keep (aFieldAddr 4 1 (eget e 116) M))) (some 117) false e C fun e C =>
    nf (aGuard (some ((eget e 114), false)) (keep (aLoad false 1 (eget e 117) M))) (some 118) false e C fun e C =>
    nf (aGuard (some ((eget e 114), false)) (oBin cx.P .eql 2 (eget e 118) (.int .i64 0) M)) (some 119) false e C fun e C =>
    nf (keep (aPick (eget e 114) (.bool true) (eget e 119))) (some 120) false e C fun e C =>
    nf (oMv (eget e 120)) (some 121) false e C fun e C =>
    nf (aGuard (some ((eget e 121), false)) (keep (aFieldAddr 1 1 (eget e 3) M))) (some 122) false e C fun e C =>
    nf (aGuard (some ((eget e 121), false)) (keep (aLoad false 1 (eget e 122) M))) (some 123) false e C fun e C =>
    nf (aGuard (some ((eget e 121), false)) (oBin cx.P .eql 23 (eget e 123) (.int .i8 3) M)) (some 124) false e C fun e C =>
    nf (aGuard (some ((eget e 121), false)) (oMv (eget e 124))) (some 125) false e C fun e C =>
    nf (aGuard (some ((eget e 125), true)) (keep (aFieldAddr 5 1 (eget e 3) M))) (some 126) false e C fun e C =>
    nf (aGuard (some ((eget e 125), true)) (keep (aLoad false 1 (eget e 126) M))) (some 127) false e C fun e C =>
    nf (aGuard (some ((eget e 125), true)) (oMv (eget e 11))) (some 128) false e C fun e C =>
    nf (aGuard (some ((eget e 125), true)) (keep (aNilCheck (eget e 128) M))) (some 129) false e C fun e C =>
    nf (aGuard (some ((eget e 125), true)) (keep (aFieldAddr 4 1 (eget e 129) M))) (some 130) false e C fun e C =>
    nf (aGuard (some ((eget e 125), true)) (keep (aLoad false 1 (eget e 130) M))) (some 131) false e C fun e C =>
    nf (aGuard (some ((eget e 125), true)) (oBin cx.P .gtr 2 (eget e 127) (eget e 131) M)) (some 132) false e C fun e C =>
    nf (aGuard (some ((eget e 121), false)) (keep (aPick (eget e 125) (eget e 132) (.bool false)))) (some 133) false e C fun e C =>
    nf (keep (aPick (eget e 121) (.bool true) (eget e 133))) (some 134) false e C fun e C =>
    some (e, C)) (fun (e : Env) (M : Mem) =>
    some (e, M)) M
noncomputable def f68_r18 (call : CallF) : Env → Mem → Option (Env × Mem) := fun e M =>
    (nx (keep (aBuild (zeroOf cx.P 56) [] M)) (some 135) e M fun e M =>
    nx (oStoreK 3 (eget e 4) (eget e 135) M) none e M fun e M =>
    nx (oMv (.int .i64 4)) (some 5) e M fun e M =>
    some (e, M)).map fun q => (prune [4, 5] q.1, q.2)
noncomputable def f68_r19 (call : CallF) : Env → Mem → Option (Env × Mem) := fun e M =>
    (nx (keep (aFieldAddr 1 1 (eget e 3) M)) (some 136) e M fun e M =>
    nx (keep (aLoad false 1 (eget e 136) M)) (some 137) e M fun e M =>
    some (e, M)).map fun q => (prune [2, 3, 4, 11, 137] q.1, q.2)
noncomputable def f68_r20 (call : CallF) : Env → Mem → Option (Env × Mem) := fun e M =>
    (nx (oBin cx.P .eql 23 (eget e 137) (.int .i8 2) M) (some 139) e M fun e M =>
    nx (oMv (eget e 139)) (some 138) e M fun e M =>
    some (e, M)).map fun q => (prune [2, 3, 4, 11, 137, 138] q.1, q.2)
noncomputable def f68_r21 (call : CallF) : Env → Mem → Option (Env × Mem) := fun e M =>
    (nx (oMv (eget e 11)) (some 140) e M fun e M =>
    nx (keep (aFieldAddr 4 1 (eget e 3) M)) (some 141) e M fun e M =>
    nx (keep (aLoad false 1 (eget e 141) M)) (some 142) e M fun e M =>
    nx (keep (aNilCheck (eget e 140) M)) (some 143) e M fun e M =>
    nx (keep (aFieldAddr 1 1 (eget e 143) M)) (some 144) e M fun e M =>
    nx (oStore 1 (eget e 144) (eget e 142) M) none e M fun e M =>
    some (e, M)).map fun q => (prune [2, 3, 4, 11] q.1, q.2)
noncomputable def f68_r22 (call : CallF) : Env → Mem → Option (Env × Mem) := fun e M =>
    rD [2, 4, 11, 151] (fun (C : List Ob) =>
    nf (keep (aFieldAddr 4 1 (eget e 3) M)) (some 145) false e C fun e C =>
    nf (keep (aLoad false 1 (eget e 145) M)) (some 146) false e C fun e C =>
    nf (oMv (eget e 11)) (some 147) false e C fun e C =>
    nf (keep (aNilCheck (eget e 147) M)) (some 148) false e C fun e C =>
    nf (keep (aFieldAddr 0 1 (eget e 148) M)) (some 149) false e C fun e C =>
    nf (keep (aLoad false 1 (eget e 149) M)) (some 150) false e C fun e C =>
    nf (oBin cx.P .eql 2 (eget e 146) (eget e 150) M) (some 151) false e C fun e C =>
    some (e, C)) (fun (e : Env) (M : Mem) =>
    some (e, M)) M
noncomputable def f68_r23 (call : CallF) : Env → Mem → Option (Env × Mem) := fun e M =>
    (nx (oMv (eget e 11)) (some 152) e M fun e M =>
    nx (keep (aNilCheck (eget e 152) M)) (some 153) e M fun e M =>
    nx (keep (aFieldAddr 4 1 (eget e 153) M)) (some 154) e M fun e M =>
    nx (oStore 1 (eget e 154) (.int .i64 0) M) none e M fun e M =>
    some (e, M)).map fun q => (prune [2, 4] q.1, q.2)
noncomputable def f68_r24 (call : CallF) : Env → Mem → Option (Env × Mem) := fun e M =>
    (nx (oBin cx.P .eql 23 (eget e 137) (.int .i8 3) M) (some 156) e M fun e M =>
    nx (oMv (eget e 156)) (some 155) e M fun e M =>
    some (e, M)).map fun q => (prune [2, 3, 4, 11, 137, 155] q.1, q.2)
noncomputable def f68_r25 (call : CallF) : Env → Mem → Option (Env × Mem) := fun e M =>
    rD [2, 3, 4, 11, 167] (fun (C : List Ob) =>
    nf (keep (aFieldAddr 1 1 (eget e 2) M)) (some 157) false e C fun e C =>
    nf (keep (aLoad false 1 (eget e 157) M)) (some 158) false e C fun e C =>
    nf (oMv (eget e 11)) (some 159) false e C fun e C =>
    nf (keep (aNilCheck (eget e 159) M)) (some 160) false e C fun e C =>
    nf (keep (aFieldAddr 0 1 (eget e 160) M)) (some 161) false e C fun e C =>
    nf (keep (aLoad false 1 (eget e 161) M)) (some 162) false e C fun e C =>
    nf (keep (aIndexS 1 (eget e 158) (eget e 162) M)) (some 163) false e C fun e C =>
    nf (keep (aLoad false 1 (eget e 163) M)) (some 164) false e C fun e C =>
    nf (keep (aFieldAddr 5 1 (eget e 3) M)) (some 165) false e C fun e C =>
    nf (keep (aLoad false 1 (eget e 165) M)) (some 166) false e C fun e C =>
    nf (oBin cx.P .lss 2 (eget e 164) (eget e 166) M) (some 167) false e C fun e C =>
    some (e, C)) (fun (e : Env) (M : Mem) =>
    some (e, M)) M
noncomputable def f68_r26 (call : CallF) : Env → Mem → Option (Env × Mem) := fun e M =>
    (nx (keep (aBuild (zeroOf cx.P 56) [] M)) (some 168) e M fun e M =>
    nx (oStoreK 3 (eget e 4) (eget e 168) M) none e M fun e M =>
    nx (oMv (.int .i64 8)) (some 5) e M fun e M =>
    some (e, M)).map fun q => (prune [4, 5] q.1, q.2)
noncomputable def f68_r27 (call : CallF) : Env → Mem → Option (Env × Mem) := fun e M =>
    rD [2, 3, 4, 11] (fun (C : List Ob) =>
    nf (keep (aFieldAddr 1 1 (eget e 2) M)) (some 169) false e C fun e C =>
    nf (keep (aLoad false 1 (eget e 169) M)) (some 170) false e C fun e C =>
    nf (oMv (eget e 11)) (some 171) false e C fun e C =>
    nf (keep (aNilCheck (eget e 171) M)) (some 172) false e C fun e C =>
    nf (keep (aFieldAddr 0 1 (eget e 172) M)) (some 173) false e C fun e C =>
    nf (keep (aLoad false 1 (eget e 173) M)) (some 174) false e C fun e C =>
    nf (keep (aIndexS 1 (eget e 170) (eget e 174) M)) (some 175) false e C fun e C =>
    nf (keep (aLoad false 1 (eget e 175) M)) (some 176) false e C fun e C =>
    nf (keep (aFieldAddr 5 1 (eget e 3) M)) (some 177) false e C fun e C =>
    nf (keep (aLoad false 1 (eget e 177) M)) (some 178) false e C fun e C =>
    nf (oBin cx.P .sub 2 (eget e 176) (eget e 178) M) (some 179) false e C fun e C =>
    nf (keep (aIndexS 1 (eget e 170) (eget e 174) M)) (some 180) false e C fun e C =>
    some (e, C)) (fun (e : Env) (M : Mem) =>
    nx (oStore 1 (eget e 180) (eget e 179) M) none e M fun e M =>
    some (e, M)) M
noncomputable def f68_r28 (call : CallF) : Env → Mem → Option (Env × Mem) := fun e M =>
    rD [2, 3, 4, 11] (fun (C : List Ob) =>
    nf (keep (aFieldAddr 1 1 (eget e 2) M)) (some 181) false e C fun e C =>
    nf (keep (aLoad false 1 (eget e 181) M)) (some 182) false e C fun e C =>
    nf (oMv (eget e 11)) (some 183) false e C fun e C =>
    nf (keep (aNilCheck (eget e 183) M)) (some 184) false e C fun e C =>
    nf (keep (aFieldAddr 1 1 (eget e 184) M)) (some 185) false e C fun e C =>
    nf (keep (aLoad false 1 (eget e 185) M)) (some 186) false e C fun e C =>
    nf (keep (aIndexS 1 (eget e 182) (eget e 186) M)) (some 187) false e C fun e C =>
    nf (keep (aLoad false 1 (eget e 187) M)) (some 188) false e C fun e C =>
    nf (keep (aFieldAddr 5 1 (eget e 3) M)) (some 189) false e C fun e C =>
    nf (keep (aLoad false 1 (eget e 189) M)) (some 190) false e C fun e C =>
    nf (oBin cx.P .add 2 (eget e 188) (eget e 190) M) (some 191) false e C fun e C =>
    nf (keep (aIndexS 1 (eget e 182) (eget e 186) M)) (some 192) false e C fun e C =>
    some (e, C)) (fun (e : Env) (M : Mem) =>
    nx (oStore 1 (eget e 192) (eget e 191) M) none e M fun e M =>
    some (e, M)) M
noncomputable def f68_r29 (call : CallF) : Env → Mem → Option (Env × Mem) := fun e M =>
    rD [2, 4, 11] (fun (C : List Ob) =>
    nf (oMv (eget e 11)) (some 193) false e C fun e C =>
    nf (keep (aNilCheck (eget e 193) M)) (some 194) false e C fun e C =>
    nf (keep (aFieldAddr 4 1 (eget e 194) M)) (some 195) false e C fun e C =>
    nf (keep (aLoad false 1 (eget e 195) M)) (some 196) false e C fun e C =>
    nf (keep (aFieldAddr 5 1 (eget e 3) M)) (some 197) false e C fun e C =>
    nf (keep (aLoad false 1 (eget e 197) M)) (some 198) false e C fun e C =>
    nf (oBin cx.P .sub 2 (eget e 196) (eget e 198) M) (some 199) false e C fun e C =>
    nf (keep (aNilCheck (eget e 193) M)) (some 200) false e C fun e C =>
    nf (keep (aFieldAddr 4 1 (eget e 200) M)) (some 201) false e C fun e C =>
    some (e, C)) (fun (e : Env) (M : Mem) =>
    nx (oStore 1 (eget e 201) (eget e 199) M) none e M fun e M =>
    some (e, M)) M
noncomputable def f68_r30 (call : CallF) : Env → Mem → Option (Env × Mem) := fun e M =>
    rD [2, 4, 210] (fun (C : List Ob) =>
    nf (keep (aFieldAddr 1 1 (eget e 2) M)) (some 202) false e C fun e C =>
    nf (keep (aLoad false 1 (eget e 202) M)) (some 203) false e C fun e C =>
    nf (oMv (eget e 11)) (some 204) false e C fun e C =>
    nf (keep (aNilCheck (eget e 204) M)) (some 205) false e C fun e C =>
    nf (keep (aFieldAddr 1 1 (eget e 205) M)) (some 206) false e C fun e C =>
    nf (keep (aLoad false 1 (eget e 206) M)) (some 207) false e C fun e C =>
    nf (keep (aIndexS 1 (eget e 203) (eget e 207) M)) (some 208) false e C fun e C =>
    nf (keep (aLoad false 1 (eget e 208) M)) (some 209) false e C fun e C =>
    nf (oBin cx.P .gtr 2 (eget e 209) (.int .i64 100000000) M) (some 210) false e C fun e C =>
    some (e, C)) (fun (e : Env) (M : Mem) =>
    some (e, M)) M
noncomputable def f68_r31 (call : CallF) : Env → Mem → Option (Env × Mem) := fun e M =>
    (nx (keep (aBuild (zeroOf cx.P 56) [] M)) (some 211) e M fun e M =>
    nx (oStoreK 3 (eget e 4) (eget e 211) M) none e M fun e M =>
    nx (oMv (.int .i64 3)) (some 5) e M fun e M =>
    some (e, M)).map fun q => (prune [4, 5] q.1, q.2)
noncomputable def f68_r32 (call : CallF) : Env → Mem → Option (Env × Mem) := fun e M =>
    (nx (oBin cx.P .eql 23 (eget e 137) (.int .i8 4) M) (some 213) e M fun e M =>
    nx (oMv (eget e 213)) (some 212) e M fun e M =>
    some (e, M)).map fun q => (prune [2, 4, 11, 212] q.1, q.2)
noncomputable def f68_r33 (call : CallF) : Env → Mem → Option (Env × Mem) := fun e M =>
    (nx (oMv (eget e 11)) (some 214) e M fun e M =>
    nx (keep (aNilCheck (eget e 214) M)) (some 215) e M fun e M =>
    nx (keep (aFieldAddr 4 1 (eget e 215) M)) (some 216) e M fun e M =>
    nx (oStore 1 (eget e 216) (.int .i64 0) M) none e M fun e M =>
    some (e, M)).map fun q => (prune [2, 4] q.1, q.2)
noncomputable def f68_r34 (call : CallF) : Env → Mem → Option (Env × Mem) := fun e M =>
    (nx (keep (aLoad true 3 (eget e 2) M)) (some 217) e M fun e M =>
    nx (oStoreK 3 (eget e 4) (eget e 217) M) none e M fun e M =>
    nx (oMv (.int .i64 0)) (some 5) e M fun e M =>
    some (e, M)).map fun q => (prune [4, 5] q.1, q.2)
noncomputable def f68 (call : CallF) (k : Nat) : St :=
  (bSeq (bReg (f68_r0 call))
  (bSeq (bSeq (bReg (f68_r1 call))
  (bCond (.tmp 16)
   (bSeq (bReg (f68_r2 call))
   (bEx .ret))
   (bEx .nrm)))
  (bSeq (bReg (f68_r3 call))
  (bSeq (bReg (f68_r4 call))
  (bSeq (bSeq (bReg (f68_r5 call))
  (bCond (.tmp 55)
   (bSeq (bReg (f68_r6 call))
   (bEx .ret))
   (bEx .nrm)))
  (bSeq (bSeq (bReg (f68_r7 call))
  (bCond (.tmp 67)
   (bSeq (bReg (f68_r8 call))
   (bEx .ret))
   (bEx .nrm)))
  (bSeq (bReg (f68_r9 call))
  (bSeq (bReg (f68_r10 call))
  (bSeq (bSeq (bReg (f68_r11 call))
  (bCond (.tmp 76)
   (bSeq (bSeq (bReg (f68_r12 call))
   (bCond (.tmp 80)
    (bSeq (bReg (f68_r13 call))
    (bEx .ret))
    (bEx .nrm)))
   (bSeq (bReg (f68_r14 call))
   (bSeq (bReg (f68_r15 call))
   (bEx .ret))))
   (bEx .nrm)))
  (bSeq (bReg (f68_r16 call))
  (bSeq (bSeq (bReg (f68_r17 call))
  (bCond (.tmp 134)
   (bSeq (bReg (f68_r18 call))
   (bEx .ret))
   (bEx .nrm)))
  (bSeq (bSeq (bReg (f68_r19 call))
  (bBlock 0 (bSeq (bReg (f68_r20 call))
   (bCond (.tmp 138)
    (bSeq (bReg (f68_r21 call))
    (bSeq (bReg (f68_r22 call))
    (bCond (.tmp 151)
     (bReg (f68_r23 call))
     (bEx .nrm))))
    (bSeq (bReg (f68_r24 call))
    (bCond (.tmp 155)
     (bSeq (bSeq (bReg (f68_r25 call))
     (bCond (.tmp 167)
      (bSeq (bReg (f68_r26 call))
      (bEx .ret))
      (bEx .nrm)))
     (bSeq (bReg (f68_r27 call))
     (bSeq (bReg (f68_r28 call))
     (bSeq (bReg (f68_r29 call))
     (bSeq (bReg (f68_r30 call))
     (bCond (.tmp 210)
      (bSeq (bReg (f68_r31 call))
      (bEx .ret))
      (bEx .nrm)))))))
     (bSeq (bReg (f68_r32 call))
     (bCond (.tmp 212)
      (bReg (f68_r33 call))
      (bEx .nrm)))))))))
  (bSeq (bReg (f68_r34 call))
  (bEx .ret))))))))))))))
theorem f68_eq (call : CallF) (k : Nat) : exec cx call 218 f68_an k (Try.f68.body.getD .skip) = f68 call k := by kernel_rfl
/-! ### f69: loop.example/g01263/laws.eqTallyS -/
def f69_an : Ann := ⟨[(0, ⟨[], [], [], [], [0, 1]⟩), (1, ⟨[], [], [], [], [0, 1, 10]⟩), (2, ⟨[], [], [], [], [4]⟩), (3, ⟨[], [], [], [], [0, 1, 5]⟩), (4, ⟨[], [], [], [], [0, 1, 5, 14]⟩), (5, ⟨[], [], [], [], [0, 1, 5]⟩), (6, ⟨[], [], [], [], [0, 1, 5, 26]⟩), (7, ⟨[], [], [], [], [4]⟩), (8, ⟨[], [], [], [], [4]⟩)], [(4, [0, 1, 5])]⟩
noncomputable def f69_r0 (call : CallF) : Env → Mem → Option (Env × Mem) := fun e M =>
    (nx (oMv (.bool false)) (some 4) e M fun e M =>
    some (e, M)).map fun q => (prune [0, 1] q.1, q.2)
noncomputable def f69_r1 (call : CallF) : Env → Mem → Option (Env × Mem) := fun e M =>
    (nx (oMv (eget e 0)) (some 6) e M fun e M =>
    nx (oLen cx.P 54 (eget e 6) M) (some 7) e M fun e M =>
    nx (oMv (eget e 1)) (some 8) e M fun e M =>
    nx (oLen cx.P 54 (eget e 8) M) (some 9) e M fun e M =>
    nx (oBin cx.P .neq 3 (eget e 7) (eget e 9) M) (some 10) e M fun e M =>
    some (e, M)).map fun q => (prune [0, 1, 10] q.1, q.2)
noncomputable def f69_r2 (call : CallF) : Env → Mem → Option (Env × Mem) := fun e M =>
    (nx (oMv (.bool false)) (some 4) e M fun e M =>
    some (e, M)).map fun q => (prune [4] q.1, q.2)
noncomputable def f69_r3 (call : CallF) : Env → Mem → Option (Env × Mem) := fun e M =>
    (nx (oMv (.int .i64 0)) (some 5) e M fun e M =>
    some (e, M)).map fun q => (prune [0, 1, 5] q.1, q.2)
noncomputable def f69_r4 (call : CallF) : Env → Mem → Option (Env × Mem) := fun e M =>
    (nx (oMv (eget e 5)) (some 11) e M fun e M =>
    nx (oMv (eget e 0)) (some 12) e M fun e M =>
    nx (oLen cx.P 54 (eget e 12) M) (some 13) e M fun e M =>
    nx (oBin cx.P .lss 3 (eget e 11) (eget e 13) M) (some 14) e M fun e M =>
    some (e, M)).map fun q => (prune [0, 1, 5, 14] q.1, q.2)
noncomputable def f69_r5 (call : CallF) : Env → Mem → Option (Env × Mem) := fun e M =>
    (nx (oMv (eget e 5)) (some 15) e M fun e M =>
    nx (oBin cx.P .add 3 (eget e 15) (.int .i64 1) M) (some 16) e M fun e M =>
    nx (oMv (eget e 16)) (some 5) e M fun e M =>
    some (e, M)).map fun q => (prune [0, 1, 5] q.1, q.2)
noncomputable def f69_r6 (call : CallF) : Env → Mem → Option (Env × Mem) := fun e M =>
    rD [0, 1, 5, 26] (fun (C : List Ob) =>
    nf (oMv (eget e 0)) (some 17) false e C fun e C =>
    nf (oMv (eget e 5)) (some 18) false e C fun e C =>
    nf (keep (aIndexS 5 (eget e 17) (eget e 18) M)) (some 19) false e C fun e C =>
    nf (keep (aLoad true 5 (eget e 19) M)) (some 20) false e C fun e C =>
    nf (oMv (eget e 1)) (some 21) false e C fun e C =>
    nf (oMv (eget e 5)) (some 22) false e C fun e C =>
    nf (keep (aIndexS 5 (eget e 21) (eget e 22) M)) (some 23) false e C fun e C =>
    nf (keep (aLoad true 5 (eget e 23) M)) (some 24) false e C fun e C =>
    nf (aCall cx.P.cellsOf cx.rw call false (M.length + C.length) 110 [(eget e 20), (eget e 24)] M) (some 25) false e C fun e C =>
    nf (keep (aUn .not (eget e 25))) (some 26) false e C fun e C =>
    some (e, C)) (fun (e : Env) (M : Mem) =>
    some (e, M)) M
noncomputable def f69_r7 (call : CallF) : Env → Mem → Option (Env × Mem) := fun e M =>
    (nx (oMv (.bool false)) (some 4) e M fun e M =>
    some (e, M)).map fun q => (prune [4] q.1, q.2)
noncomputable def f69_r8 (call : CallF) : Env → Mem → Option (Env × Mem) := fun e M =>
    (nx (oMv (.bool true)) (some 4) e M fun e M =>
    some (e, M)).map fun q => (prune [4] q.1, q.2)
noncomputable def f69_l4 (call : CallF) (k : Nat) : St :=
  (bSeq (bSeq (bReg (f69_r4 call))
  (bCond (.tmp 14)
   (bEx .nrm)
   (bEx (.ext 0))))
  (bSeq (bBlock 1 (bSeq (bReg (f69_r6 call))
   (bCond (.tmp 26)
    (bSeq (bReg (f69_r7 call))
    (bEx .ret))
    (bEx .nrm))))
  (bReg (f69_r5 call))))
noncomputable def f69 (call : CallF) (k : Nat) : St :=
  (bSeq (bReg (f69_r0 call))
  (bSeq (bSeq (bReg (f69_r1 call))
  (bCond (.tmp 10)
   (bSeq (bReg (f69_r2 call))
   (bEx .ret))
   (bEx .nrm)))
  (bSeq (bSeq (bReg (f69_r3 call))
  (bBlock 0 (bLoop [0, 1, 5] (f69_l4 call k) k)))
  (bSeq (bReg (f69_r8 call))
  (bEx .ret)))))
theorem f69_eq (call : CallF) (k : Nat) : exec cx call 27 f69_an k (Try.f69.body.getD .skip) = f69 call k := by kernel_rfl
/-! ### f70: loop.example/g01263/laws.markTallyS -/
def f70_an : Ann := ⟨[(0, ⟨[], [], [], [], [0, 1]⟩), (1, ⟨[], [], [], [], [0, 1, 5]⟩), (2, ⟨[], [], [], [], [0, 1, 5, 9]⟩), (3, ⟨[], [], [], [], [0, 1, 5]⟩), (4, ⟨[], [], [], [], [0, 1, 5]⟩), (5, ⟨[], [], [], [], [0, 1, 5]⟩), (6, ⟨[], [], [], [], [0, 1, 5]⟩), (7, ⟨[], [], [], [], [0, 1, 5]⟩), (8, ⟨[], [], [], [], [0, 1, 5]⟩), (9, ⟨[], [], [], [], [0, 1, 5]⟩), (10, ⟨[], [], [], [], [0, 1, 5]⟩), (11, ⟨[], [], [], [], [0, 1, 5]⟩), (12, ⟨[], [], [], [], [0, 1, 5]⟩), (13, ⟨[], [], [], [], [0, 1, 5]⟩), (14, ⟨[], [], [], [], [4]⟩)], [(2, [0, 1, 5])]⟩
noncomputable def f70_r0 (call : CallF) : Env → Mem → Option (Env × Mem) := fun e M =>
    (nx (oMv (.int .i64 0)) (some 4) e M fun e M =>
    some (e, M)).map fun q => (prune [0, 1] q.1, q.2)
noncomputable def f70_r1 (call : CallF) : Env → Mem → Option (Env × Mem) := fun e M =>
    (nx (oMv (.int .i64 0)) (some 5) e M fun e M =>
    some (e, M)).map fun q => (prune [0, 1, 5] q.1, q.2)
noncomputable def f70_r2 (call : CallF) : Env → Mem → Option (Env × Mem) := fun e M =>
    (nx (oMv (eget e 5)) (some 6) e M fun e M =>
    nx (oMv (eget e 0)) (some 7) e M fun e M =>
    nx (oLen cx.P 54 (eget e 7) M) (some 8) e M fun e M =>
    nx (oBin cx.P .lss 3 (eget e 6) (eget e 8) M) (some 9) e M fun e M =>
    some (e, M)).map fun q => (prune [0, 1, 5, 9] q.1, q.2)
noncomputable def f70_r3 (call : CallF) : Env → Mem → Option (Env × Mem) := fun e M =>
    (nx (oMv (eget e 5)) (some 10) e M fun e M =>
    nx (oBin cx.P .add 3 (eget e 10) (.int .i64 1) M) (some 11) e M fun e M =>
    nx (oMv (eget e 11)) (some 5) e M fun e M =>
    some (e, M)).map fun q => (prune [0, 1, 5] q.1, q.2)
noncomputable def f70_r4 (call : CallF) : Env → Mem → Option (Env × Mem) := fun e M =>
    (nx (oMv (eget e 0)) (some 12) e M fun e M =>
    nx (oMv (eget e 5)) (some 13) e M fun e M =>
    nx (oMv (eget e 1)) (some 14) e M fun e M =>
    nx (keep (aIndexS 5 (eget e 12) (eget e 13) M)) (some 15) e M fun e M =>
    nx (keep (aFieldAddr 0 1 (eget e 15) M)) (some 16) e M fun e M =>
    nx (oStore 1 (eget e 16) (eget e 14) M) none e M fun e M =>
    some (e, M)).map fun q => (prune [0, 1, 5] q.1, q.2)
noncomputable def f70_r5 (call : CallF) : Env → Mem → Option (Env × Mem) := fun e M =>
    (nx (oMv (eget e 1)) (some 17) e M fun e M =>
    nx (oBin cx.P .add 3 (eget e 17) (.int .i64 1) M) (some 18) e M fun e M =>
    nx (oMv (eget e 18)) (some 1) e M fun e M =>
    some (e, M)).map fun q => (prune [0, 1, 5] q.1, q.2)
noncomputable def f70_r6 (call : CallF) : Env → Mem → Option (Env × Mem) := fun e M =>
    (nx (oMv (eget e 0)) (some 19) e M fun e M =>
    nx (oMv (eget e 5)) (some 20) e M fun e M =>
    nx (oMv (eget e 1)) (some 21) e M fun e M =>
    nx (keep (aIndexS 5 (eget e 19) (eget e 20) M)) (some 22) e M fun e M =>
    nx (keep (aFieldAddr 1 1 (eget e 22) M)) (some 23) e M fun e M =>
    nx (oStore 1 (eget e 23) (eget e 21) M) none e M fun e M =>
    some (e, M)).map fun q => (prune [0, 1, 5] q.1, q.2)
noncomputable def f70_r7 (call : CallF) : Env → Mem → Option (Env × Mem) := fun e M =>
    (nx (oMv (eget e 1)) (some 24) e M fun e M =>
    nx (oBin cx.P .add 3 (eget e 24) (.int .i64 1) M) (some 25) e M fun e M =>
    nx (oMv (eget e 25)) (some 1) e M fun e M =>
    some (e, M)).map fun q => (prune [0, 1, 5] q.1, q.2)
noncomputable def f70_r8 (call : CallF) : Env → Mem → Option (Env × Mem) := fun e M =>
    (nx (oMv (eget e 0)) (some 26) e M fun e M =>
    nx (oMv (eget e 5)) (some 27) e M fun e M =>
    nx (oMv (eget e 1)) (some 28) e M fun e M =>
    nx (keep (aIndexS 5 (eget e 26) (eget e 27) M)) (some 29) e M fun e M =>
    nx (keep (aFieldAddr 2 1 (eget e 29) M)) (some 30) e M fun e M =>
    nx (oStore 1 (eget e 30) (eget e 28) M) none e M fun e M =>
    some (e, M)).map fun q => (prune [0, 1, 5] q.1, q.2)
noncomputable def f70_r9 (call : CallF) : Env → Mem → Option (Env × Mem) := fun e M =>
    (nx (oMv (eget e 1)) (some 31) e M fun e M =>
    nx (oBin cx.P .add 3 (eget e 31) (.int .i64 1) M) (some 32) e M fun e M =>
    nx (oMv (eget e 32)) (some 1) e M fun e M =>
    some (e, M)).map fun q => (prune [0, 1, 5] q.1, q.2)
noncomputable def f70_r10 (call : CallF) : Env → Mem → Option (Env × Mem) := fun e M =>
    (nx (oMv (eget e 0)) (some 33) e M fun e M =>
    nx (oMv (eget e 5)) (some 34) e M fun e M =>
    nx (oMv (eget e 1)) (some 35) e M fun e M =>
    nx (keep (aIndexS 5 (eget e 33) (eget e 34) M)) (some 36) e M fun e M =>
    nx (keep (aFieldAddr 3 1 (eget e 36) M)) (some 37) e M fun e M =>
    nx (oStore 1 (eget e 37) (eget e 35) M) none e M fun e M =>
    some (e, M)).map fun q => (prune [0, 1, 5] q.1, q.2)
noncomputable def f70_r11 (call : CallF) : Env → Mem → Option (Env × Mem) := fun e M =>
    (nx (oMv (eget e 1)) (some 38) e M fun e M =>
    nx (oBin cx.P .add 3 (eget e 38) (.int .i64 1) M) (some 39) e M fun e M =>
    nx (oMv (eget e 39)) (some 1) e M fun e M =>
    some (e, M)).map fun q => (prune [0, 1, 5] q.1, q.2)
noncomputable def f70_r12 (call : CallF) : Env → Mem → Option (Env × Mem) := fun e M =>
    (nx (oMv (eget e 0)) (some 40) e M fun e M =>
    nx (oMv (eget e 5)) (some 41) e M fun e M =>
    nx (oMv (eget e 1)) (some 42) e M fun e M =>
    nx (keep (aIndexS 5 (eget e 40) (eget e 41) M)) (some 43) e M fun e M =>
    nx (keep (aFieldAddr 4 1 (eget e 43) M)) (some 44) e M fun e M =>
    nx (oStore 1 (eget e 44) (eget e 42) M) none e M fun e M =>
    some (e, M)).map fun q => (prune [0, 1, 5] q.1, q.2)
noncomputable def f70_r13 (call : CallF) : Env → Mem → Option (Env × Mem) := fun e M =>
    (nx (oMv (eget e 1)) (some 45) e M fun e M =>
    nx (oBin cx.P .add 3 (eget e 45) (.int .i64 1) M) (some 46) e M fun e M =>
    nx (oMv (eget e 46)) (some 1) e M fun e M =>
    some (e, M)).map fun q => (prune [0, 1, 5] q.1, q.2)
noncomputable def f70_r14 (call : CallF) : Env → Mem → Option (Env × Mem) := fun e M =>
    (nx (oMv (eget e 1)) (some 47) e M fun e M =>
    nx (oMv (eget e 47)) (some 4) e M fun e M =>
    some (e, M)).map fun q => (prune [4] q.1, q.2)
noncomputable def f70_l2 (call : CallF) (k : Nat) : St :=
  (bSeq (bSeq (bReg (f70_r2 call))
  (bCond (.tmp 9)
   (bEx .nrm)
   (bEx (.ext 0))))
  (bSeq (bBlock 1 (bSeq (bReg (f70_r4 call))
   (bSeq (bReg (f70_r5 call))
   (bSeq (bReg (f70_r6 call))
   (bSeq (bReg (f70_r7 call))
   (bSeq (bReg (f70_r8 call))
   (bSeq (bReg (f70_r9 call))
   (bSeq (bReg (f70_r10 call))
   (bSeq (bReg (f70_r11 call))
   (bSeq (bReg (f70_r12 call))
   (bReg (f70_r13 call))))))))))))
  (bReg (f70_r3 call))))
noncomputable def f70 (call : CallF) (k : Nat) : St :=
  (bSeq (bReg (f70_r0 call))
  (bSeq (bSeq (bReg (f70_r1 call))
  (bBlock 0 (bLoop [0, 1, 5] (f70_l2 call k) k)))
  (bSeq (bReg (f70_r14 call))
  (bEx .ret))))
theorem f70_eq (call : CallF) (k : Nat) : exec cx call 48 f70_an k (Try.f70.body.getD .skip) = f70 call k := by kernel_rfl
/-! ### f71: loop.example/g01263/laws.heldTallyS -/
def f71_an : Ann := ⟨[(0, ⟨[], [], [], [], [0, 1]⟩), (1, ⟨[], [], [], [], [0, 1, 5]⟩), (2, ⟨[], [], [], [], [0, 1, 5, 9]⟩), (3, ⟨[], [], [], [], [0, 1, 5]⟩), (4, ⟨[], [], [], [], [0, 1, 5, 18]⟩), (5, ⟨[], [], [], [], [4]⟩), (6, ⟨[], [], [], [], [0, 1, 5]⟩), (7, ⟨[], [], [], [], [0, 1, 5, 27]⟩), (8, ⟨[], [], [], [], [4]⟩), (9, ⟨[], [], [], [], [0, 1, 5]⟩), (10, ⟨[], [], [], [], [0, 1, 5, 36]⟩), (11, ⟨[], [], [], [], [4]⟩), (12, ⟨[], [], [], [], [0, 1, 5]⟩), (13, ⟨[], [], [], [], [0, 1, 5, 45]⟩), (14, ⟨[], [], [], [], [4]⟩), (15, ⟨[], [], [], [], [0, 1, 5]⟩), (16, ⟨[], [], [], [], [0, 1, 5, 54]⟩), (17, ⟨[], [], [], [], [4]⟩), (18, ⟨[], [], [], [], [0, 1, 5]⟩), (19, ⟨[], [], [], [], [4]⟩)], [(2, [0, 1, 5])]⟩
noncomputable def f71_r0 (call : CallF) : Env → Mem → Option (Env × Mem) := fun e M =>
    (nx (oMv (.int .i64 0)) (some 4) e M fun e M =>
    some (e, M)).map fun q => (prune [0, 1] q.1, q.2)
noncomputable def f71_r1 (call : CallF) : Env → Mem → Option (Env × Mem) := fun e M =>
    (nx (oMv (.int .i64 0)) (some 5) e M fun e M =>
    some (e, M)).map fun q => (prune [0, 1, 5] q.1, q.2)
noncomputable def f71_r2 (call : CallF) : Env → Mem → Option (Env × Mem) := fun e M =>
    (nx (oMv (eget e 5)) (some 6) e M fun e M =>
    nx (oMv (eget e 0)) (some 7) e M fun e M =>
    nx (oLen cx.P 54 (eget e 7) M) (some 8) e M fun e M =>
    nx (oBin cx.P .lss 3 (eget e 6) (eget e 8) M) (some 9) e M fun e M =>
    some (e, M)).map fun q => (prune [0, 1, 5, 9] q.1, q.2)
noncomputable def f71_r3 (call : CallF) : Env → Mem → Option (Env × Mem) := fun e M =>
    (nx (oMv (eget e 5)) (some 10) e M fun e M =>
    nx (oBin cx.P .add 3 (eget e 10) (.int .i64 1) M) (some 11) e M fun e M =>
    nx (oMv (eget e 11)) (some 5) e M fun e M =>
    some (e, M)).map fun q => (prune [0, 1, 5] q.1, q.2)
noncomputable def f71_r4 (call : CallF) : Env → Mem → Option (Env × Mem) := fun e M =>
    (nx (oMv (eget e 0)) (some 12) e M fun e M =>
    nx (oMv (eget e 5)) (some 13) e M fun e M =>
    nx (keep (aIndexS 5 (eget e 12) (eget e 13) M)) (some 14) e M fun e M =>
    nx (keep (aFieldAddr 0 1 (eget e 14) M)) (some 15) e M fun e M =>
    nx (keep (aLoad false 1 (eget e 15) M)) (some 16) e M fun e M =>
    nx (oMv (eget e 1)) (some 17) e M fun e M =>
    nx (oBin cx.P .neq 2 (eget e 16) (eget e 17) M) (some 18) e M fun e M =>
    some (e, M)).map fun q => (prune [0, 1, 5, 18] q.1, q.2)
noncomputable def f71_r5 (call : CallF) : Env → Mem → Option (Env × Mem) := fun e M =>
    (nx (oMv (.int .i64 (-1))) (some 4) e M fun e M =>
    some (e, M)).map fun q => (prune [4] q.1, q.2)
noncomputable def f71_r6 (call : CallF) : Env → Mem → Option (Env × Mem) := fun e M =>
    (nx (oMv (eget e 1)) (some 19) e M fun e M =>
    nx (oBin cx.P .add 3 (eget e 19) (.int .i64 1) M) (some 20) e M fun e M =>
    nx (oMv (eget e 20)) (some 1) e M fun e M =>
    some (e, M)).map fun q => (prune [0, 1, 5] q.1, q.2)
noncomputable def f71_r7 (call : CallF) : Env → Mem → Option (Env × Mem) := fun e M =>
    (nx (oMv (eget e 0)) (some 21) e M fun e M =>
    nx (oMv (eget e 5)) (some 22) e M fun e M =>
    nx (keep (aIndexS 5 (eget e 21) (eget e 22) M)) (some 23) e M fun e M =>
    nx (keep (aFieldAddr 1 1 (eget e 23) M)) (some 24) e M fun e M =>
    nx (keep (aLoad false 1 (eget e 24) M)) (some 25) e M fun e M =>
    nx (oMv (eget e 1)) (some 26) e M fun e M =>
    nx (oBin cx.P .neq 2 (eget e 25) (eget e 26) M) (some 27) e M fun e M =>
    some (e, M)).map fun q => (prune [0, 1, 5, 27] q.1, q.2)
noncomputable def f71_r8 (call : CallF) : Env → Mem → Option (Env × Mem) := fun e M =>
    (nx (oMv (.int .i64 (-1))) (some 4) e M fun e M =>
    some (e, M)).map fun q => (prune [4] q.1, q.2)
noncomputable def f71_r9 (call : CallF) : Env → Mem → Option (Env × Mem) := fun e M =>
    (nx (oMv (eget e 1)) (some 28) e M fun e M =>
    nx (oBin cx.P .add 3 (eget e 28) (.int .i64 1) M) (some 29) e M fun e M =>
    nx (oMv (eget e 29)) (some 1) e M fun e M =>
    some (e, M)).map fun q => (prune [0, 1, 5] q.1, q.2)
noncomputable def f71_r10 (call : CallF) : Env → Mem → Option (Env × Mem) := fun e M =>
    (nx (oMv (eget e 0)) (some 30) e M fun e M =>
    nx (oMv (eget e 5)) (some 31) e M fun e M =>
    nx (keep (aIndexS 5 (eget e 30) (eget e 31) M)) (some 32) e M fun e M =>
    nx (keep (aFieldAddr 2 1 (eget e 32) M)) (some 33) e M fun e M =>
    nx (keep (aLoad false 1 (eget e 33) M)) (some 34) e M fun e M =>
    nx (oMv (eget e 1)) (some 35) e M fun e M =>
    nx (oBin cx.P .neq 2 (eget e 34) (eget e 35) M) (some 36) e M fun e M =>
    some (e, M)).map fun q => (prune [0, 1, 5, 36] q.1, q.2)
noncomputable def f71_r11 (call : CallF) : Env → Mem → Option (Env × Mem) := fun e M =>
    (nx (oMv (.int .i64 (-1))) (some 4) e M fun e M =>
    some (e, M)).map fun q => (prune [4] q.1, q.2)
noncomputable def f71_r12 (call : CallF) : Env → Mem → Option (Env × Mem) := fun e M =>
    (nx (oMv (eget e 1)) (some 37) e M fun e M =>
    nx (oBin cx.P .add 3 (eget e 37) (.int .i64 1) M) (some 38) e M fun e M =>
    nx (oMv (eget e 38)) (some 1) e M fun e M =>
    some (e, M)).map fun q => (prune [0, 1, 5] q.1, q.2)
noncomputable def f71_r13 (call : CallF) : Env → Mem → Option (Env × Mem) := fun e M =>
    (nx (oMv (eget e 0)) (some 39) e M fun e M =>
    nx (oMv (eget e 5)) (some 40) e M fun e M =>
    nx (keep (aIndexS 5 (eget e 39) (eget e 40) M)) (some 41) e M fun e M =>
    nx (keep (aFieldAddr 3 1 (eget e 41) M)) (some 42) e M fun e M =>
    nx (keep (aLoad false 1 (eget e 42) M)) (some 43) e M fun e M =>
    nx (oMv (eget e 1)) (some 44) e M fun e M =>
    nx (oBin cx.P .neq 2 (eget e 43) (eget e 44) M) (some 45) e M fun e M =>
    some (e, M)).map fun q => (prune [0, 1, 5, 45] q.1, q.2)
noncomputable def f71_r14 (call : CallF) : Env → Mem → Option (Env × Mem) := fun e M =>
    (nx (oMv (.int .i64 (-1))) (some 4) e M fun e M =>
    some (e, M)).map fun q => (prune [4] q.1, q.2)
noncomputable def f71_r15 (call : CallF) : Env → Mem → Option (Env × Mem) := fun e M =>
    (nx (oMv (eget e 1)) (some 46) e M fun e M =>
    nx (oBin cx.P .add 3 (eget e 46) (.int .i64 1) M) (some 47) e M fun e M =>
    nx (oMv (eget e 47)) (some 1) e M fun e M =>
    some (e, M)).map fun q => (prune [0, 1, 5] q.1, q.2)
noncomputable def f71_r16 (call : CallF) : Env → Mem → Option (Env × Mem) := fun e M =>
    (nx (oMv (eget e 0)) (some 48) e M fun e M =>
    nx (oMv (eget e 5)) (some 49) e M fun e M =>
    nx (keep (aIndexS 5 (eget e 48) (eget e 49) M)) (some 50) e M fun e M =>
    nx (keep (aFieldAddr 4 1 (eget e 50) M)) (some 51) e M fun e M =>
    nx (keep (aLoad false 1 (eget e 51) M)) (some 52) e M fun e M =>
    nx (oMv (eget e 1)) (some 53) e M fun e M =>
    nx (oBin cx.P .neq 2 (eget e 52) (eget e 53) M) (some 54) e M fun e M =>
    some (e, M)).map fun q => (prune [0, 1, 5, 54] q.1, q.2)
noncomputable def f71_r17 (call : CallF) : Env → Mem → Option (Env × Mem) := fun e M =>
    (nx (oMv (.int .i64 (-1))) (some 4) e M fun e M =>
    some (e, M)).map fun q => (prune [4] q.1, q.2)
noncomputable def f71_r18 (call : CallF) : Env → Mem → Option (Env × Mem) := fun e M =>
    (nx (oMv (eget e 1)) (some 55) e M fun e M =>
    nx (oBin cx.P .add 3 (eget e 55) (.int .i64 1) M) (some 56) e M fun e M =>
    nx (oMv (eget e 56)) (some 1) e M fun e M =>
    some (e, M)).map fun q => (prune [0, 1, 5] q.1, q.2)
noncomputable def f71_r19 (call : CallF) : Env → Mem → Option (Env × Mem) := fun e M =>
    (nx (oMv (eget e 1)) (some 57) e M fun e M =>
    nx (oMv (eget e 57)) (some 4) e M fun e M =>
    some (e, M)).map fun q => (prune [4] q.1, q.2)
noncomputable def f71_l2 (call : CallF) (k : Nat) : St :=
  (bSeq (bSeq (bReg (f71_r2 call))
  (bCond (.tmp 9)
   (bEx .nrm)
   (bEx (.ext 0))))
  (bSeq (bBlock 1 (bSeq (bSeq (bReg (f71_r4 call))
   (bCond (.tmp 18)
    (bSeq (bReg (f71_r5 call))
    (bEx .ret))
    (bEx .nrm)))
   (bSeq (bReg (f71_r6 call))
   (bSeq (bSeq (bReg (f71_r7 call))
   (bCond (.tmp 27)
    (bSeq (bReg (f71_r8 call))
    (bEx .ret))
    (bEx .nrm)))
   (bSeq (bReg (f71_r9 call))
   (bSeq (bSeq (bReg (f71_r10 call))
   (bCond (.tmp 36)
    (bSeq (bReg (f71_r11 call))
    (bEx .ret))
    (bEx .nrm)))
   (bSeq (bReg (f71_r12 call))
   (bSeq (bSeq (bReg (f71_r13 call))
   (bCond (.tmp 45)
    (bSeq (bReg (f71_r14 call))
    (bEx .ret))
    (bEx .nrm)))
   (bSeq (bReg (f71_r15 call))
   (bSeq (bSeq (bReg (f71_r16 call))
   (bCond (.tmp 54)
    (bSeq (bReg (f71_r17 call))
    (bEx .ret))
    (bEx .nrm)))
   (bReg (f71_r18 call))))))))))))
  (bReg (f71_r3 call))))
noncomputable def f71 (call : CallF) (k : Nat) : St :=
  (bSeq (bReg (f71_r0 call))
  (bSeq (bSeq (bReg (f71_r1 call))
  (bBlock 0 (bLoop [0, 1, 5] (f71_l2 call k) k)))
  (bSeq (bReg (f71_r19 call))
  (bEx .ret))))
theorem f71_eq (call : CallF) (k : Nat) : exec cx call 58 f71_an k (Try.f71.body.getD .skip) = f71 call k := by kernel_rfl
/-! ### f88: loop.example/g01263/spec.l00In -/
def f88_an : Ann := ⟨[(0, ⟨[], [], [], [], [0, 1, 2]⟩), (1, ⟨[], [], [], [], [6]⟩)], []⟩
noncomputable def f88_r0 (call : CallF) : Env → Mem → Option (Env × Mem) := fun e M =>
    (nx (oMv (.bool false)) (some 6) e M fun e M =>
    some (e, M)).map fun q => (prune [0, 1, 2] q.1, q.2)
noncomputable def f88_r1 (call : CallF) : Env → Mem → Option (Env × Mem) := fun e M =>
    (nx (oMv (eget e 0)) (some 7) e M fun e M =>
    nx (oMv (eget e 1)) (some 8) e M fun e M =>
    nx (oBin cx.P .geq 2 (eget e 7) (eget e 8) M) (some 9) e M fun e M =>
    nx (oMv (eget e 9)) (some 10) e M fun e M =>
    nx (aGuard (some ((eget e 10), true)) (oMv (eget e 0))) (some 11) e M fun e M =>
    nx (aGuard (some ((eget e 10), true)) (oMv (eget e 2))) (some 12) e M fun e M =>
    nx (aGuard (some ((eget e 10), true)) (oBin cx.P .leq 2 (eget e 11) (eget e 12) M)) (some 13) e M fun e M =>
    nx (keep (aPick (eget e 10) (eget e 13) (.bool false))) (some 14) e M fun e M =>
    nx (oMv (eget e 14)) (some 6) e M fun e M =>
    some (e, M)).map fun q => (prune [6] q.1, q.2)
noncomputable def f88 (call : CallF) (k : Nat) : St :=
  (bSeq (bReg (f88_r0 call))
  (bSeq (bReg (f88_r1 call))
  (bEx .ret)))
theorem f88_eq (call : CallF) (k : Nat) : exec cx call 15 f88_an k (Try.f88.body.getD .skip) = f88 call k := by kernel_rfl
/-! ### f98: loop.example/g01263/spec.l07Day -/
def f98_an : Ann := ⟨[(0, ⟨[], [], [], [], [0]⟩), (1, ⟨[], [], [], [], [2]⟩)], []⟩
noncomputable def f98_r0 (call : CallF) : Env → Mem → Option (Env × Mem) := fun e M =>
    (nx (oMv (.bool false)) (some 2) e M fun e M =>
    some (e, M)).map fun q => (prune [0] q.1, q.2)
noncomputable def f98_r1 (call : CallF) : Env → Mem → Option (Env × Mem) := fun e M =>
    (nx (oMv (eget e 0)) (some 3) e M fun e M =>
    nx (aCall cx.P.cellsOf cx.rw call false M.length 88 [(eget e 3), (.int .i64 0), (.int .i64 100000)] M) (some 4) e M fun e M =>
    nx (oMv (eget e 4)) (some 2) e M fun e M =>
    some (e, M)).map fun q => (prune [2] q.1, q.2)
noncomputable def f98 (call : CallF) (k : Nat) : St :=
  (bSeq (bReg (f98_r0 call))
  (bSeq (bReg (f98_r1 call))
  (bEx .ret)))
theorem f98_eq (call : CallF) (k : Nat) : exec cx call 5 f98_an k (Try.f98.body.getD .skip) = f98 call k := by kernel_rfl
/-! ### f99: loop.example/g01263/spec.l07Cash -/
def f99_an : Ann := ⟨[(0, ⟨[], [], [], [], [0]⟩), (1, ⟨[], [], [], [], [0, 3]⟩), (2, ⟨[], [], [], [], [0, 3, 7]⟩), (3, ⟨[], [], [], [], [0, 3]⟩), (4, ⟨[], [], [], [], [0, 3, 15]⟩), (5, ⟨[], [], [], [], [2]⟩), (6, ⟨[], [], [], [], [2]⟩)], [(2, [0, 3])]⟩
noncomputable def f99_r0 (call : CallF) : Env → Mem → Option (Env × Mem) := fun e M =>
    (nx (oMv (.bool false)) (some 2) e M fun e M =>
    some (e, M)).map fun q => (prune [0] q.1, q.2)
noncomputable def f99_r1 (call : CallF) : Env → Mem → Option (Env × Mem) := fun e M =>
    (nx (oMv (.int .i64 0)) (some 3) e M fun e M =>
    some (e, M)).map fun q => (prune [0, 3] q.1, q.2)
noncomputable def f99_r2 (call : CallF) : Env → Mem → Option (Env × Mem) := fun e M =>
    (nx (oMv (eget e 3)) (some 4) e M fun e M =>
    nx (oMv (eget e 0)) (some 5) e M fun e M =>
    nx (oLen cx.P 47 (eget e 5) M) (some 6) e M fun e M =>
    nx (oBin cx.P .lss 3 (eget e 4) (eget e 6) M) (some 7) e M fun e M =>
    some (e, M)).map fun q => (prune [0, 3, 7] q.1, q.2)
noncomputable def f99_r3 (call : CallF) : Env → Mem → Option (Env × Mem) := fun e M =>
    (nx (oMv (eget e 3)) (some 8) e M fun e M =>
    nx (oBin cx.P .add 3 (eget e 8) (.int .i64 1) M) (some 9) e M fun e M =>
    nx (oMv (eget e 9)) (some 3) e M fun e M =>
    some (e, M)).map fun q => (prune [0, 3] q.1, q.2)
noncomputable def f99_r4 (call : CallF) : Env → Mem → Option (Env × Mem) := fun e M =>
    (nx (oMv (eget e 0)) (some 10) e M fun e M =>
    nx (oMv (eget e 3)) (some 11) e M fun e M =>
    nx (keep (aIndexS 1 (eget e 10) (eget e 11) M)) (some 12) e M fun e M =>
    nx (keep (aLoad false 1 (eget e 12) M)) (some 13) e M fun e M =>
    nx (aCall cx.P.cellsOf cx.rw call false M.length 123 [(eget e 13)] M) (some 14) e M fun e M =>
    nx (keep (aUn .not (eget e 14))) (some 15) e M fun e M =>
    some (e, M)).map fun q => (prune [0, 3, 15] q.1, q.2)
noncomputable def f99_r5 (call : CallF) : Env → Mem → Option (Env × Mem) := fun e M =>
    (nx (oMv (.bool false)) (some 2) e M fun e M =>
    some (e, M)).map fun q => (prune [2] q.1, q.2)
noncomputable def f99_r6 (call : CallF) : Env → Mem → Option (Env × Mem) := fun e M =>
    (nx (oMv (eget e 0)) (some 16) e M fun e M =>
    nx (oLen cx.P 47 (eget e 16) M) (some 17) e M fun e M =>
    nx (aCall cx.P.cellsOf cx.rw call false M.length 88 [(eget e 17), (.int .i64 1), (.int .i64 16)] M) (some 18) e M fun e M =>
    nx (oMv (eget e 18)) (some 2) e M fun e M =>
    some (e, M)).map fun q => (prune [2] q.1, q.2)
noncomputable def f99_l2 (call : CallF) (k : Nat) : St :=
  (bSeq (bSeq (bReg (f99_r2 call))
  (bCond (.tmp 7)
   (bEx .nrm)
   (bEx (.ext 0))))
  (bSeq (bBlock 1 (bSeq (bReg (f99_r4 call))
   (bCond (.tmp 15)
    (bSeq (bReg (f99_r5 call))
    (bEx .ret))
    (bEx .nrm))))
  (bReg (f99_r3 call))))
noncomputable def f99 (call : CallF) (k : Nat) : St :=
  (bSeq (bReg (f99_r0 call))
  (bSeq (bSeq (bReg (f99_r1 call))
  (bBlock 0 (bLoop [0, 3] (f99_l2 call k) k)))
  (bSeq (bReg (f99_r6 call))
  (bEx .ret))))
theorem f99_eq (call : CallF) (k : Nat) : exec cx call 19 f99_an k (Try.f99.body.getD .skip) = f99 call k := by kernel_rfl
/-! ### f100: loop.example/g01263/spec.l02Person -/
def f100_an : Ann := ⟨[(0, ⟨[], [], [], [], [0, 1]⟩), (1, ⟨[], [], [], [], [4]⟩)], []⟩
noncomputable def f100_r0 (call : CallF) : Env → Mem → Option (Env × Mem) := fun e M =>
    (nx (oMv (.bool false)) (some 4) e M fun e M =>
    some (e, M)).map fun q => (prune [0, 1] q.1, q.2)
noncomputable def f100_r1 (call : CallF) : Env → Mem → Option (Env × Mem) := fun e M =>
    (nx (oMv (eget e 1)) (some 5) e M fun e M =>
    nx (oMv (eget e 0)) (some 6) e M fun e M =>
    nx (oBin cx.P .sub 2 (eget e 6) (.int .i64 1) M) (some 7) e M fun e M =>
    nx (aCall cx.P.cellsOf cx.rw call false M.length 88 [(eget e 5), (.int .i64 0), (eget e 7)] M) (some 8) e M fun e M =>
    nx (oMv (eget e 8)) (some 4) e M fun e M =>
    some (e, M)).map fun q => (prune [4] q.1, q.2)
noncomputable def f100 (call : CallF) (k : Nat) : St :=
  (bSeq (bReg (f100_r0 call))
  (bSeq (bReg (f100_r1 call))
  (bEx .ret)))
theorem f100_eq (call : CallF) (k : Nat) : exec cx call 9 f100_an k (Try.f100.body.getD .skip) = f100 call k := by kernel_rfl
/-! ### f101: loop.example/g01263/spec.l07Refused -/
def f101_an : Ann := ⟨[(0, ⟨[], [], [], [], [0, 1]⟩), (1, ⟨[], [], [], [], [0, 1, 5]⟩), (2, ⟨[], [], [], [], [0, 1, 5, 20]⟩), (3, ⟨[], [], [], [], [4]⟩), (4, ⟨[], [], [], [], [0, 1, 55]⟩), (5, ⟨[], [], [], [], [4]⟩), (6, ⟨[], [], [], [], [0, 1, 60]⟩), (7, ⟨[], [], [], [], [0, 69]⟩), (8, ⟨[], [], [], [], [4]⟩), (9, ⟨[], [], [], [], [75]⟩), (10, ⟨[], [], [], [], [4]⟩), (11, ⟨[], [], [], [], [4]⟩), (12, ⟨[], [], [], [], [0, 1, 6]⟩), (13, ⟨[], [], [], [], [0, 1, 6, 136]⟩), (14, ⟨[], [], [], [], [4]⟩), (15, ⟨[], [], [], [], [0, 1, 6, 158]⟩), (16, ⟨[], [], [], [], [4]⟩), (17, ⟨[], [], [], [], [181]⟩), (18, ⟨[], [], [], [], [4]⟩), (19, ⟨[], [], [], [], [4]⟩)], []⟩
noncomputable def f101_r0 (call : CallF) : Env → Mem → Option (Env × Mem) := fun e M =>
    (nx (oMv (.int .i64 0)) (some 4) e M fun e M =>
    some (e, M)).map fun q => (prune [0, 1] q.1, q.2)
noncomputable def f101_r1 (call : CallF) : Env → Mem → Option (Env × Mem) := fun e M =>
    (nx (oMv (eget e 0)) (some 7) e M fun e M =>
    nx (keep (aNilCheck (eget e 7) M)) (some 8) e M fun e M =>
    nx (keep (aFieldAddr 1 1 (eget e 8) M)) (some 9) e M fun e M =>
    nx (keep (aLoad false 1 (eget e 9) M)) (some 10) e M fun e M =>
    nx (oLen cx.P 47 (eget e 10) M) (some 11) e M fun e M =>
    nx (oMv (eget e 11)) (some 5) e M fun e M =>
    some (e, M)).map fun q => (prune [0, 1, 5] q.1, q.2)
noncomputable def f101_r2 (call : CallF) : Env → Mem → Option (Env × Mem) := fun e M =>
    rD [0, 1, 5, 20] (fun (C : List Ob) =>
    nf (oMv (eget e 1)) (some 12) false e C fun e C =>
    nf (keep (aNilCheck (eget e 12) M)) (some 13) false e C fun e C =>
    nf (keep (aFieldAddr 0 1 (eget e 13) M)) (some 14) false e C fun e C =>
    nf (keep (aLoad false 1 (eget e 14) M)) (some 15) false e C fun e C =>
    nf (oMv (eget e 0)) (some 16) false e C fun e C =>
    nf (keep (aNilCheck (eget e 16) M)) (some 17) false e C fun e C =>
    nf (keep (aFieldAddr 0 1 (eget e 17) M)) (some 18) false e C fun e C =>
    nf (keep (aLoad false 1 (eget e 18) M)) (some 19) false e C fun e C =>
    nf (oBin cx.P .lss 2 (eget e 15) (eget e 19) M) (some 20) false e C fun e C =>
    some (e, C)) (fun (e : Env) (M : Mem) =>
    some (e, M)) M
noncomputable def f101_r3 (call : CallF) : Env → Mem → Option (Env × Mem) := fun e M =>
    (nx (oMv (.int .i64 4)) (some 4) e M fun e M =>
    some (e, M)).map fun q => (prune [4] q.1, q.2)
noncomputable def f101_r4 (call : CallF) : Env → Mem → Option (Env × Mem) := fun e M =>
    rD [0, 1, 55] (fun (C : List Ob) =>
    nf (oMv (eget e 5)) (some 21) false e C fun e C =>
    nf (oMv (eget e 1)) (some 22) false e C fun e C =>
    nf (keep (aNilCheck (eget e 22) M)) (some 23) false e C fun e C =>
    nf (keep (aFieldAddr 3 1 (eget e 23) M)) (some 24) false e C fun e C =>
    nf (keep (aLoad false 1 (eget e 24) M)) (some 25) false e C fun e C =>
    nf (aCall cx.P.cellsOf cx.rw call false (M.length + C.length) 100 [(eget e 21), (eget e 25)] M) (some 26) false e C fun e C =>
    nf (keep (aUn .not (eget e 26))) (some 27) false e C fun e C =>
    nf (oMv (eget e 27)) (some 28) false e C fun e C =>
    nf (aGuard (some ((eget e 28), false)) (oMv (eget e 5))) (some 29) false e C fun e C =>
    nf (aGuard (some ((eget e 28), false)) (oMv (eget e 1))) (some 30) false e C fun e C =>
    nf (aGuard (some ((eget e 28), false)) (keep (aNilCheck (eget e 30) M))) (some 31) false e C fun e C =>
    nf (aGuard (some ((eget e 28), false)) (keep (aFieldAddr 4 1 (eget e 31) M))) (some 32) false e C fun e C =>
    nf (aGuard (some ((eget e 28), false)) (keep (aLoad false 1 (eget e 32) M))) (some 33) false e C fun e C =>
    nf (aGuard (some ((eget e 28), false)) (aCall cx.P.cellsOf cx.rw call false (M.length + C.length) 100 [(eget e 29), (eget e 33)] M)) (some 34) false e C fun e C =>
    nf (aGuard (some ((eget e 28), false)) (keep (aUn .not (eget e 34)))) (some 35) false e C fun e C =>
    nf (keep (aPick (eget e 28) (.bool true) (eget e 35))) (some 36) false e C fun e C =>
    nf (oMv (eget e 36)) (some 37) false e C fun e C =>
    nf (aGuard (some ((eget e 37), false)) (oMv (eget e 1))) (some 38) false e C fun e C =>
    nf (aGuard (some ((eget e 37), false)) (keep (aNilCheck (eget e 38) M))) (some 39) false e C fun e C =>
    nf (aGuard (some ((eget e 37), false)) (keep (aFieldAddr 1 1 (eget e 39) M))) (some 40) false e C fun e C =>
    nf (aGuard (some ((eget e 37), false)) (keep (aLoad false 1 (eget e 40) M))) (some 41) false e C fun e C =>
    nf (aGuard (some ((eget e 37), false)) (oBin cx.P .neq 23 (eget e 41) (.int .i8 1) M)) (some 42) false e C fun e C =>
    nf (aGuard (some ((eget e 37), false)) (oMv (eget e 42))) (some 43) false e C fun e C =>
    nf (aGuard (some ((eget e 43), true)) (oMv (eget e 1))) (some 44) false e C fun e C =>
    nf (aGuard (some ((eget e 43), true)) (keep (aNilCheck (eget e 44) M))) (some 45) false e C fun e C =>
    nf (aGuard (some ((eget e 43), true)) (keep (aFieldAddr 2 1 (eget e 45) M))) (some 46) false e C fun e C =>
    nf (aGuard (some ((eget e 43), true)) (keep (aLoad false 1 (eget e 46) M))) (some 47) false e C fun e C =>
    nf (aGuard (some ((eget e 43), true)) (oMv (eget e 0))) (some 48) false e C fun e C =>
    nf (aGuard (some ((eget e 43), true)) (keep (aNilCheck (eget e 48) M))) (some 49) false e C fun e C =>
    nf (aGuard (some ((eget e 43), true)) (keep (aFieldAddr 2 1 (eget e 49) M))) (some 50) false e C fun e C =>
    nf (aGuard (some ((eget e 43), true)) (keep (aLoad false 1 (eget e 50) M))) (some 51) false e C fun e C =>
    nf (aGuard (some ((eget e 43), true)) (oLen cx.P 54 (eget e 51) M)) (some 52) false e C fun e C =>
    nf (aGuard (some ((eget e 43), true)) (oBin cx.P .geq 2 (eget e 47) (eget e 52) M)) (some 53) false e C fun e C =>
    nf (aGuard (some ((eget e 37), false)) (keep (aPick (eget e 43) (eget e 53) (.bool false)))) (some 54) false e C fun e C =>
    nf (keep (aPick (eget e 37) (.bool true) (eget e 54))) (some 55) false e C fun e C =>
    some (e, C)) (fun (e : Env) (M : Mem) =>
    some (e, M)) M
noncomputable def f101_r5 (call : CallF) : Env → Mem → Option (Env × Mem) := fun e M =>
    (nx (oMv (.int .i64 2)) (some 4) e M fun e M =>
    some (e, M)).map fun q => (prune [4] q.1, q.2)
noncomputable def f101_r6 (call : CallF) : Env → Mem → Option (Env × Mem) := fun e M =>
    (nx (oMv (eget e 1)) (some 56) e M fun e M =>
    nx (keep (aNilCheck (eget e 56) M)) (some 57) e M fun e M =>
    nx (keep (aFieldAddr 1 1 (eget e 57) M)) (some 58) e M fun e M =>
    nx (keep (aLoad false 1 (eget e 58) M)) (some 59) e M fun e M =>
    nx (oBin cx.P .eql 23 (eget e 59) (.int .i8 1) M) (some 60) e M fun e M =>
    some (e, M)).map fun q => (prune [0, 1, 60] q.1, q.2)
noncomputable def f101_r7 (call : CallF) : Env → Mem → Option (Env × Mem) := fun e M =>
    rD [0, 69] (fun (C : List Ob) =>
    nf (oMv (eget e 1)) (some 61) false e C fun e C =>
    nf (keep (aNilCheck (eget e 61) M)) (some 62) false e C fun e C =>
    nf (keep (aFieldAddr 3 1 (eget e 62) M)) (some 63) false e C fun e C =>
    nf (keep (aLoad false 1 (eget e 63) M)) (some 64) false e C fun e C =>
    nf (oMv (eget e 1)) (some 65) false e C fun e C =>
    nf (keep (aNilCheck (eget e 65) M)) (some 66) false e C fun e C =>
    nf (keep (aFieldAddr 4 1 (eget e 66) M)) (some 67) false e C fun e C =>
    nf (keep (aLoad false 1 (eget e 67) M)) (some 68) false e C fun e C =>
    nf (oBin cx.P .eql 2 (eget e 64) (eget e 68) M) (some 69) false e C fun e C =>
    some (e, C)) (fun (e : Env) (M : Mem) =>
    some (e, M)) M
noncomputable def f101_r8 (call : CallF) : Env → Mem → Option (Env × Mem) := fun e M =>
    (nx (oMv (.int .i64 4)) (some 4) e M fun e M =>
    some (e, M)).map fun q => (prune [4] q.1, q.2)
noncomputable def f101_r9 (call : CallF) : Env → Mem → Option (Env × Mem) := fun e M =>
    (nx (oMv (eget e 0)) (some 70) e M fun e M =>
    nx (keep (aNilCheck (eget e 70) M)) (some 71) e M fun e M =>
    nx (keep (aFieldAddr 2 1 (eget e 71) M)) (some 72) e M fun e M =>
    nx (keep (aLoad false 1 (eget e 72) M)) (some 73) e M fun e M =>
    nx (oLen cx.P 54 (eget e 73) M) (some 74) e M fun e M =>
    nx (oBin cx.P .eql 3 (eget e 74) (.int .i64 40) M) (some 75) e M fun e M =>
    some (e, M)).map fun q => (prune [75] q.1, q.2)
noncomputable def f101_r10 (call : CallF) : Env → Mem → Option (Env × Mem) := fun e M =>
    (nx (oMv (.int .i64 3)) (some 4) e M fun e M =>
    some (e, M)).map fun q => (prune [4] q.1, q.2)
noncomputable def f101_r11 (call : CallF) : Env → Mem → Option (Env × Mem) := fun e M =>
    (nx (oMv (.int .i64 0)) (some 4) e M fun e M =>
    some (e, M)).map fun q => (prune [4] q.1, q.2)
noncomputable def f101_r12 (call : CallF) : Env → Mem → Option (Env × Mem) := fun e M =>
    rD [0, 1, 6] (fun (C : List Ob) =>
    nf (oMv (eget e 0)) (some 76) false e C fun e C =>
    nf (keep (aNilCheck (eget e 76) M)) (some 77) false e C fun e C =>
    nf (keep (aFieldAddr 2 1 (eget e 77) M)) (some 78) false e C fun e C =>
    nf (keep (aLoad false 1 (eget e 78) M)) (some 79) false e C fun e C =>
    nf (oMv (eget e 1)) (some 80) false e C fun e C =>
    nf (keep (aNilCheck (eget e 80) M)) (some 81) false e C fun e C =>
    nf (keep (aFieldAddr 2 1 (eget e 81) M)) (some 82) false e C fun e C =>
    nf (keep (aLoad false 1 (eget e 82) M)) (some 83) false e C fun e C =>
    nf (keep (aIndexS 5 (eget e 79) (eget e 83) M)) (some 84) false e C fun e C =>
    nf (oMv (eget e 84)) (some 6) false e C fun e C =>
    some (e, C)) (fun (e : Env) (M : Mem) =>
    some (e, M)) M
noncomputable def f101_r13 (call : CallF) : Env → Mem → Option (Env × Mem) := fun e M =>
    rD [0, 1, 6, 136] (fun (C : List Ob) =>
    nf (oMv (eget e 1)) (some 85) false e C fun e C =>
    nf (keep (aNilCheck (eget e 85) M)) (some 86) false e C fun e C =>
    nf (keep (aFieldAddr 1 1 (eget e 86) M)) (some 87) false e C fun e C =>
    nf (keep (aLoad false 1 (eget e 87) M)) (some 88) false e C fun e C =>
    nf (oBin cx.P .eql 23 (eget e 88) (.int .i8 2) M) (some 89) false e C fun e C =>
    nf (oMv (eget e 89)) (some 90) false e C fun e C =>
    nf (aGuard (some ((eget e 90), true)) (oMv (eget e 1))) (some 91) false e C fun e C =>
    nf (aGuard (some ((eget e 90), true)) (keep (aNilCheck (eget e 91) M))) (some 92) false e C fun e C =>
    nf (aGuard (some ((eget e 90), true)) (keep (aFieldAddr 3 1 (eget e 92) M))) (some 93) false e C fun e C =>
    nf (aGuard (some ((eget e 90), true)) (keep (aLoad false 1 (eget e 93) M))) (some 94) false e C fun e C =>
    nf (aGuard (some ((eget e 90), true)) (oMv (eget e 1))) (some 95) false e C fun e C =>
    nf (aGuard (some ((eget e 90), true)) (keep (aNilCheck (eget e 95) M))) (some 96) false e C fun e C =>
    nf (aGuard (some ((eget e 90), true)) (keep (aFieldAddr 4 1 (eget e 96) M))) (some 97) false e C fun e C =>
    nf (aGuard (some ((eget e 90), true)) (keep (aLoad false 1 (eget e 97) M))) (some 98) false e C fun e C =>
    nf (aGuard (some ((eget e 90), true)) (oBin cx.P .eql 2 (eget e 94) (eget e 98) M)) (some 99) false e C fun e C =>
    nf (keep (aPick (eget e 90) (eget e 99) (.bool false))) (some 100) false e C fun e C =>
    nf (oMv (eget e 100)) (some 101) false e C fun e C =>
    nf (aGuard (some ((eget e 101), false)) (oMv (eget e 1))) (some 102) false e C fun e C =>
    nf (aGuard (some ((eget e 101), false)) (keep (aNilCheck (eget e 102) M))) (some 103) false e C fun e C =>
    nf (aGuard (some ((eget e 101), false)) (keep (aFieldAddr 1 1 (eget e 103) M))) (some 104) false e C fun e C =>
    nf (aGuard (some ((eget e 101), false)) (keep (aLoad false 1 (eget e 104) M))) (some 105) false e C fun e C =>
    nf (aGuard (some ((eget e 101), false)) (oBin cx.P .neq 23 (eget e 105) (.int .i8 3) M)) (some 106) false e C fun e C =>
    nf (aGuard (some ((eget e 101), false)) (oMv (eget e 106))) (some 107) false e C fun e C =>
    nf (aGuard (some ((eget e 107), true)) (oMv (eget e 1))) (some 108) false e C fun e C =>
    nf (aGuard (some ((eget e 107), true)) (keep (aNilCheck (eget e 108) M))) (some 109) false e C fun e C =>
    nf (aGuard (some ((eget e 107), true)) (keep (aFieldAddr 3 1 (eget e 109) M))) (some 110) false e C fun e C =>
    nf (aGuard (some ((eget e 107), true)) (keep (aLoad false 1 (eget e 110) M))) (some 111) false e C fun e C =>
    nf (aGuard (some ((eget e 107), true)) (oMv (eget e 6))) (some 112) false e C fun e C =>
    nf (aGuard (some ((eget e 107), true)) (keep (aNilCheck (eget e 112) M))) (some 113) false e C fun e C =>
    nf (aGuard (some ((eget e 107), true)) (keep (aFieldAddr 1 1 (eget e 113) M))) (some 114) false e C fun e C =>
    nf (aGuard (some ((eget e 107), true)) (keep (aLoad false 1 (eget e 114) M))) (some 115) false e C fun e C =>
    nf (aGuard (some ((eget e 107), true)) (oBin cx.P .neq 2 (eget e 111) (eget e 115) M)) (some 116) false e C fun e C =>
    nf (aGuard (some ((eget e 101), false)) (keep (aPick (eget e 107) (eget e 116) (.bool false)))) (some 117) false e C fun e C =>
    nf (keep (aPick (eget e 101) (.bool true) (eget e 117))) (some 118) false e C fun e C =>
    nf (oMv (eget e 118)) (some 119) false e C fun e C =>
    nf (aGuard (some ((eget e 119), false)) (oMv (eget e 6))) (some 120) false e C fun e C =>
    nf (aGuard (some ((eget e 119), false)) (keep (aNilCheck (eget e 120) M))) (some 121) false e C fun e C =>
    nf (aGuard (some ((eget e 119), false)) (keep (aFieldAddr 4 1 (eget e 121) M))) (some 122) false e C fun e C =>
    nf (aGuard (some ((eget e 119), false)) (keep (aLoad false 1 (eget e 122) M))) (some 123) false e C fun e C =>
    nf (aGuard (some ((eget e 119), false)) (oBin cx.P .eql 2 (eget e 123) (.int .i64 0) M)) (some 124) false e C fun e C =>
    nf (keep (aPick (eget e 119) (.bool true) (eget e 124))) (some 125) false e C fun e C =>
    nf (oMv (eget e 125)) (some 126) false e C fun e C =>
    nf (aGuard (some ((eget e 126), false)) (oMv (eget e 1))) (some 127) false e C fun e C =>
    nf (aGuard (some ((eget e 126), false)) (keep (aNilCheck (eget e 127) M))) (some 128) false e C fun e C =>
    nf (aGuard (some ((eget e 126), false)) (keep (aFieldAddr 5 1 (eget e 128) M))) (some 129) false e C fun e C =>
    nf (aGuard (some ((eget e 126), false)) (keep (aLoad false 1 (eget e 129) M))) (some 130) false e C fun e C =>
    nf (aGuard (some ((eget e 126), false)) (oMv (eget e 6))) (some 131) false e C fun e C =>
    nf (aGuard (some ((eget e 126), false)) (keep (aNilCheck (eget e 131) M))) (some 132) false e C fun e C =>
    nf (aGuard (some ((eget e 126), false)) (keep (aFieldAddr 4 1 (eget e 132) M))) (some 133) false e C fun e C =>
    nf (aGuard (some ((eget e 126), false)) (keep (aLoad false 1 (eget e 133) M))) (some 134) false e C fun e C =>
    nf (aGuard (some ((eget e 126), false)) (oBin cx.P .gtr 2 (eget e 130) (eget e 134) M)) (some 135) false e C fun e C =>
    nf (keep (aPick (eget e 126) (.bool true) (eget e 135))) (some 136) false e C fun e C =>
    some (e, C)) (fun (e : Env) (M : Mem) =>
    some (e, M)) M
noncomputable def f101_r14 (call : CallF) : Env → Mem → Option (Env × Mem) := fun e M =>
    (nx (oMv (.int .i64 4)) (some 4) e M fun e M =>
    some (e, M)).map fun q => (prune [4] q.1, q.2)
noncomputable def f101_r15 (call : CallF) : Env → Mem → Option (Env × Mem) := fun e M =>
    rD [0, 1, 6, 158] (fun (C : List Ob) =>
    nf (oMv (eget e 1)) (some 137) false e C fun e C =>
    nf (keep (aNilCheck (eget e 137) M)) (some 138) false e C fun e C =>
    nf (keep (aFieldAddr 1 1 (eget e 138) M)) (some 139) false e C fun e C =>
    nf (keep (aLoad false 1 (eget e 139) M)) (some 140) false e C fun e C =>
    nf (oBin cx.P .eql 23 (eget e 140) (.int .i8 3) M) (some 141) false e C fun e C =>
    nf (oMv (eget e 141)) (some 142) false e C fun e C =>
    nf (aGuard (some ((eget e 142), true)) (oMv (eget e 0))) (some 143) false e C fun e C =>
    nf (aGuard (some ((eget e 142), true)) (keep (aNilCheck (eget e 143) M))) (some 144) false e C fun e C =>
    nf (aGuard (some ((eget e 142), true)) (keep (aFieldAddr 1 1 (eget e 144) M))) (some 145) false e C fun e C =>
    nf (aGuard (some ((eget e 142), true)) (keep (aLoad false 1 (eget e 145) M))) (some 146) false e C fun e C =>
    nf (aGuard (some ((eget e 142), true)) (oMv (eget e 6))) (some 147) false e C fun e C =>
    nf (aGuard (some ((eget e 142), true)) (keep (aNilCheck (eget e 147) M))) (some 148) false e C fun e C =>
    nf (aGuard (some ((eget e 142), true)) (keep (aFieldAddr 0 1 (eget e 148) M))) (some 149) false e C fun e C =>
    nf (aGuard (some ((eget e 142), true)) (keep (aLoad false 1 (eget e 149) M))) (some 150) false e C fun e C =>
    nf (aGuard (some ((eget e 142), true)) (keep (aIndexS 1 (eget e 146) (eget e 150) M))) (some 151) false e C fun e C =>
    nf (aGuard (some ((eget e 142), true)) (keep (aLoad false 1 (eget e 151) M))) (some 152) false e C fun e C =>
    nf (aGuard (some ((eget e 142), true)) (oMv (eget e 1))) (some 153) false e C fun e C =>
    nf (aGuard (some ((eget e 142), true)) (keep (aNilCheck (eget e 153) M))) (some 154) false e C fun e C =>
    nf (aGuard (some ((eget e 142), true)) (keep (aFieldAddr 5 1 (eget e 154) M))) (some 155) false e C fun e C =>
    nf (aGuard (some ((eget e 142), true)) (keep (aLoad false 1 (eget e 155) M))) (some 156) false e C fun e C =>
    nf (aGuard (some ((eget e 142), true)) (oBin cx.P .lss 2 (eget e 152) (eget e 156) M)) (some 157) false e C fun e C =>
    nf (keep (aPick (eget e 142) (eget e 157) (.bool false))) (some 158) false e C fun e C =>
    some (e, C)) (fun (e : Env) (M : Mem) =>
    some (e, M)) M
noncomputable def f101_r16 (call : CallF) : Env → Mem → Option (Env × Mem) := fun e M =>
    (nx (oMv (.int .i64 8)) (some 4) e M fun e M =>
    some (e, M)).map fun q => (prune [4] q.1, q.2)
noncomputable def f101_r17 (call : CallF) : Env → Mem → Option (Env × Mem) := fun e M =>
    rD [181] (fun (C : List Ob) =>
    nf (oMv (eget e 1)) (some 159) false e C fun e C =>
    nf (keep (aNilCheck (eget e 159) M)) (some 160) false e C fun e C =>
    nf (keep (aFieldAddr 1 1 (eget e 160) M)) (some 161) false e C fun e C =>
    nf (keep (aLoad false 1 (eget e 161) M)) (some 162) false e C fun e C =>
    nf (oBin cx.P .eql 23 (eget e 162) (.int .i8 3) M) (some 163) false e C fun e C =>
    nf (oMv (eget e 163)) (some 164) false e C fun e C =>
    nf (aGuard (some ((eget e 164), true)) (oMv (eget e 0))) (some 165) false e C fun e C =>
    nf (aGuard (some ((eget e 164), true)) (keep (aNilCheck (eget e 165) M))) (some 166) false e C fun e C =>
    nf (aGuard (some ((eget e 164), true)) (keep (aFieldAddr 1 1 (eget e 166) M))) (some 167) false e C fun e C =>
    nf (aGuard (some ((eget e 164), true)) (keep (aLoad false 1 (eget e 167) M))) (some 168) false e C fun e C =>
    nf (aGuard (some ((eget e 164), true)) (oMv (eget e 6))) (some 169) false e C fun e C =>
    nf (aGuard (some ((eget e 164), true)) (keep (aNilCheck (eget e 169) M))) (some 170) false e C fun e C =>
    nf (aGuard (some ((eget e 164), true)) (keep (aFieldAddr 1 1 (eget e 170) M))) (some 171) false e C fun e C =>
    nf (aGuard (some ((eget e 164), true)) (keep (aLoad false 1 (eget e 171) M))) (some 172) false e C fun e C =>
    nf (aGuard (some ((eget e 164), true)) (keep (aIndexS 1 (eget e 168) (eget e 172) M))) (some 173) false e C fun e C =>
    nf (aGuard (some ((eget e 164), true)) (keep (aLoad false 1 (eget e 173) M))) (some 174) false e C fun e C =>
    nf (aGuard (some ((eget e 164), true)) (oMv (eget e 1))) (some 175) false e C fun e C =>
    nf (aGuard (some ((eget e 164), true)) (keep (aNilCheck (eget e 175) M))) (some 176) false e C fun e C =>
    nf (aGuard (some ((eget e 164), true)) (keep (aFieldAddr 5 1 (eget e 176) M))) (some 177) false e C fun e C =>
    nf (aGuard (some ((eget e 164), true)) (keep (aLoad false 1 (eget e 177) M))) (some 178) false e C fun e C =>
    nf (aGuard (some ((eget e 164), true)) (oBin cx.P .add 2 (eget e 174) (eget e 178) M)) (some 179) false e C fun e C =>
    nf (aGuard (some ((eget e 164), true)) (oBin cx.P .gtr 2 (eget e 179) (.int .i64 100000000) M)) (some 180) false e C fun e C =>
    nf (keep (aPick (eget e 164) (eget e 180) (.bool false))) (some 181) false e C fun e C =>
    some (e, C)) (fun (e : Env) (M : Mem) =>
    some (e, M)) M
noncomputable def f101_r18 (call : CallF) : Env → Mem → Option (Env × Mem) := fun e M =>
    (nx (oMv (.int .i64 3)) (some 4) e M fun e M =>
    some (e, M)).map fun q => (prune [4] q.1, q.2)
noncomputable def f101_r19 (call : CallF) : Env → Mem → Option (Env × Mem) := fun e M =>
    (nx (oMv (.int .i64 0)) (some 4) e M fun e M =>
    some (e, M)).map fun q => (prune [4] q.1, q.2)
noncomputable def f101 (call : CallF) (k : Nat) : St :=
  (bSeq (bReg (f101_r0 call))
  (bSeq (bReg (f101_r1 call))
  (bSeq (bSeq (bReg (f101_r2 call))
  (bCond (.tmp 20)
   (bSeq (bReg (f101_r3 call))
   (bEx .ret))
   (bEx .nrm)))
  (bSeq (bSeq (bReg (f101_r4 call))
  (bCond (.tmp 55)
   (bSeq (bReg (f101_r5 call))
   (bEx .ret))
   (bEx .nrm)))
  (bSeq (bSeq (bReg (f101_r6 call))
  (bCond (.tmp 60)
   (bSeq (bSeq (bReg (f101_r7 call))
   (bCond (.tmp 69)
    (bSeq (bReg (f101_r8 call))
    (bEx .ret))
    (bEx .nrm)))
   (bSeq (bSeq (bReg (f101_r9 call))
   (bCond (.tmp 75)
    (bSeq (bReg (f101_r10 call))
    (bEx .ret))
    (bEx .nrm)))
   (bSeq (bReg (f101_r11 call))
   (bEx .ret))))
   (bEx .nrm)))
  (bSeq (bReg (f101_r12 call))
  (bSeq (bSeq (bReg (f101_r13 call))
  (bCond (.tmp 136)
   (bSeq (bReg (f101_r14 call))
   (bEx .ret))
   (bEx .nrm)))
  (bSeq (bSeq (bReg (f101_r15 call))
  (bCond (.tmp 158)
   (bSeq (bReg (f101_r16 call))
   (bEx .ret))
   (bEx .nrm)))
  (bSeq (bSeq (bReg (f101_r17 call))
  (bCond (.tmp 181)
   (bSeq (bReg (f101_r18 call))
   (bEx .ret))
   (bEx .nrm)))
  (bSeq (bReg (f101_r19 call))
  (bEx .ret)))))))))))
theorem f101_eq (call : CallF) (k : Nat) : exec cx call 182 f101_an k (Try.f101.body.getD .skip) = f101 call k := by kernel_rfl
/-! ### f102: loop.example/g01263/spec.l07Copy -/
def f102_an : Ann := ⟨[(0, ⟨[], [], [], [], [0, 2]⟩), (1, ⟨[17], [], [], [17], [2]⟩)], []⟩
noncomputable def f102_r0 (call : CallF) : Env → Mem → Option (Env × Mem) := fun e M =>
    (nx (oAlloc cx.P M.length 56 3) (some 2) e M fun e M =>
    some (e, M)).map fun q => (prune [0, 2] q.1, q.2)
noncomputable def f102_r1 (call : CallF) : Env → Mem → Option (Env × Mem) := fun e M =>
    rD [2] (fun (C : List Ob) =>
    nf (oMv (eget e 0)) (some 3) false e C fun e C =>
    nf (keep (aNilCheck (eget e 3) M)) (some 4) false e C fun e C =>
    nf (keep (aFieldAddr 0 1 (eget e 4) M)) (some 5) false e C fun e C =>
    nf (keep (aLoad false 1 (eget e 5) M)) (some 6) false e C fun e C =>
    nf (keep (aLitI 2 1 [] M)) (some 7) false e C fun e C =>
    nf (oMv (eget e 0)) (some 8) false e C fun e C =>
    nf (keep (aNilCheck (eget e 8) M)) (some 9) false e C fun e C =>
    nf (keep (aFieldAddr 1 1 (eget e 9) M)) (some 10) false e C fun e C =>
    nf (keep (aLoad false 1 (eget e 10) M)) (some 11) false e C fun e C =>
    nf (aAppI 2 1 8 (eget e 7) (eget e 11) M) (some 12) false e C fun e C =>
    nf (keep (aLitI 156 5 [] M)) (some 13) false e C fun e C =>
    nf (oMv (eget e 0)) (some 14) false e C fun e C =>
    nf (keep (aNilCheck (eget e 14) M)) (some 15) false e C fun e C =>
    nf (keep (aFieldAddr 2 1 (eget e 15) M)) (some 16) false e C fun e C =>
    nf (keep (aLoad false 1 (eget e 16) M)) (some 17) false e C fun e C =>
    nf (aAppI 156 5 40 (eget e 13) (eget e 17) M) (some 18) false e C fun e C =>
    nf (keep (aBuild (zeroOf cx.P 56) [(0, 1, (eget e 6)), (1, 1, (eget e 12)), (2, 1, (eget e 18))] M)) (some 19) false e C fun e C =>
    some (e, C)) (fun (e : Env) (M : Mem) =>
    nx (oStoreK 3 (eget e 2) (eget e 19) M) none e M fun e M =>
    some (e, M)) M
noncomputable def f102 (call : CallF) (k : Nat) : St :=
  (bSeq (bReg (f102_r0 call))
  (bSeq (bReg (f102_r1 call))
  (bEx .ret)))
theorem f102_eq (call : CallF) (k : Nat) : exec cx call 20 f102_an k (Try.f102.body.getD .skip) = f102 call k := by kernel_rfl
/-! ### f103: loop.example/g01263/laws.toTally -/
def f103_an : Ann := ⟨[(0, ⟨[], [], [], [], [1, 2]⟩), (1, ⟨[], [], [], [], [1, 2, 3]⟩), (2, ⟨[], [], [], [], [1, 2, 3]⟩), (3, ⟨[], [], [], [], [1, 2, 3]⟩), (4, ⟨[], [], [], [], [1, 2, 3]⟩), (5, ⟨[], [], [], [], [1, 2, 3]⟩), (6, ⟨[], [], [], [], [2, 3]⟩), (7, ⟨[], [], [], [], [2]⟩)], []⟩
noncomputable def f103_r0 (call : CallF) : Env → Mem → Option (Env × Mem) := fun e M =>
    (nx (keep (aBox 5 (eget e 0) M)) (some 1) e M fun e M =>
    nx (oAlloc cx.P M.length 156 5) (some 2) e M fun e M =>
    some (e, M)).map fun q => (prune [1, 2] q.1, q.2)
noncomputable def f103_r1 (call : CallF) : Env → Mem → Option (Env × Mem) := fun e M =>
    (nx (oAlloc cx.P M.length 156 5) (some 3) e M fun e M =>
    some (e, M)).map fun q => (prune [1, 2, 3] q.1, q.2)
noncomputable def f103_r2 (call : CallF) : Env → Mem → Option (Env × Mem) := fun e M =>
    (nx (keep (aFieldAddr 0 1 (eget e 1) M)) (some 4) e M fun e M =>
    nx (keep (aLoad false 1 (eget e 4) M)) (some 5) e M fun e M =>
    nx (keep (aFieldAddr 0 1 (eget e 3) M)) (some 6) e M fun e M =>
    nx (oStore 1 (eget e 6) (eget e 5) M) none e M fun e M =>
    some (e, M)).map fun q => (prune [1, 2, 3] q.1, q.2)
noncomputable def f103_r3 (call : CallF) : Env → Mem → Option (Env × Mem) := fun e M =>
    (nx (keep (aFieldAddr 1 1 (eget e 1) M)) (some 7) e M fun e M =>
    nx (keep (aLoad false 1 (eget e 7) M)) (some 8) e M fun e M =>
    nx (keep (aFieldAddr 1 1 (eget e 3) M)) (some 9) e M fun e M =>
    nx (oStore 1 (eget e 9) (eget e 8) M) none e M fun e M =>
    some (e, M)).map fun q => (prune [1, 2, 3] q.1, q.2)
noncomputable def f103_r4 (call : CallF) : Env → Mem → Option (Env × Mem) := fun e M =>
    (nx (keep (aFieldAddr 2 1 (eget e 1) M)) (some 10) e M fun e M =>
    nx (keep (aLoad false 1 (eget e 10) M)) (some 11) e M fun e M =>
    nx (keep (aFieldAddr 2 1 (eget e 3) M)) (some 12) e M fun e M =>
    nx (oStore 1 (eget e 12) (eget e 11) M) none e M fun e M =>
    some (e, M)).map fun q => (prune [1, 2, 3] q.1, q.2)
noncomputable def f103_r5 (call : CallF) : Env → Mem → Option (Env × Mem) := fun e M =>
    (nx (keep (aFieldAddr 3 1 (eget e 1) M)) (some 13) e M fun e M =>
    nx (keep (aLoad false 1 (eget e 13) M)) (some 14) e M fun e M =>
    nx (keep (aFieldAddr 3 1 (eget e 3) M)) (some 15) e M fun e M =>
    nx (oStore 1 (eget e 15) (eget e 14) M) none e M fun e M =>
    some (e, M)).map fun q => (prune [1, 2, 3] q.1, q.2)
noncomputable def f103_r6 (call : CallF) : Env → Mem → Option (Env × Mem) := fun e M =>
    (nx (keep (aFieldAddr 4 1 (eget e 1) M)) (some 16) e M fun e M =>
    nx (keep (aLoad false 1 (eget e 16) M)) (some 17) e M fun e M =>
    nx (keep (aFieldAddr 4 1 (eget e 3) M)) (some 18) e M fun e M =>
    nx (oStore 1 (eget e 18) (eget e 17) M) none e M fun e M =>
    some (e, M)).map fun q => (prune [2, 3] q.1, q.2)
noncomputable def f103_r7 (call : CallF) : Env → Mem → Option (Env × Mem) := fun e M =>
    (nx (keep (aLoad true 5 (eget e 3) M)) (some 19) e M fun e M =>
    nx (oStore 5 (eget e 2) (eget e 19) M) none e M fun e M =>
    some (e, M)).map fun q => (prune [2] q.1, q.2)
noncomputable def f103 (call : CallF) (k : Nat) : St :=
  (bSeq (bReg (f103_r0 call))
  (bSeq (bReg (f103_r1 call))
  (bSeq (bReg (f103_r2 call))
  (bSeq (bReg (f103_r3 call))
  (bSeq (bReg (f103_r4 call))
  (bSeq (bReg (f103_r5 call))
  (bSeq (bReg (f103_r6 call))
  (bSeq (bReg (f103_r7 call))
  (bEx .ret)))))))))
theorem f103_eq (call : CallF) (k : Nat) : exec cx call 20 f103_an k (Try.f103.body.getD .skip) = f103 call k := by kernel_rfl
/-! ### f104: loop.example/g01263/impl.isBookDay -/
def f104_an : Ann := ⟨[(0, ⟨[], [], [], [], [0]⟩), (1, ⟨[], [], [], [], [2]⟩)], []⟩
noncomputable def f104_r0 (call : CallF) : Env → Mem → Option (Env × Mem) := fun e M =>
    (nx (oMv (.bool false)) (some 2) e M fun e M =>
    some (e, M)).map fun q => (prune [0] q.1, q.2)
noncomputable def f104_r1 (call : CallF) : Env → Mem → Option (Env × Mem) := fun e M =>
    (nx (oMv (eget e 0)) (some 3) e M fun e M =>
    nx (oBin cx.P .geq 2 (eget e 3) (.int .i64 0) M) (some 4) e M fun e M =>
    nx (oMv (eget e 4)) (some 5) e M fun e M =>
    nx (aGuard (some ((eget e 5), true)) (oMv (eget e 0))) (some 6) e M fun e M =>
    nx (aGuard (some ((eget e 5), true)) (oBin cx.P .leq 2 (eget e 6) (.int .i64 100000) M)) (some 7) e M fun e M =>
    nx (keep (aPick (eget e 5) (eget e 7) (.bool false))) (some 8) e M fun e M =>
    nx (oMv (eget e 8)) (some 2) e M fun e M =>
    some (e, M)).map fun q => (prune [2] q.1, q.2)
noncomputable def f104 (call : CallF) (k : Nat) : St :=
  (bSeq (bReg (f104_r0 call))
  (bSeq (bReg (f104_r1 call))
  (bEx .ret)))
theorem f104_eq (call : CallF) (k : Nat) : exec cx call 9 f104_an k (Try.f104.body.getD .skip) = f104 call k := by kernel_rfl
/-! ### f105: loop.example/g01263/impl.isAmount -/
def f105_an : Ann := ⟨[(0, ⟨[], [], [], [], [0]⟩), (1, ⟨[], [], [], [], [2]⟩)], []⟩
noncomputable def f105_r0 (call : CallF) : Env → Mem → Option (Env × Mem) := fun e M =>
    (nx (oMv (.bool false)) (some 2) e M fun e M =>
    some (e, M)).map fun q => (prune [0] q.1, q.2)
noncomputable def f105_r1 (call : CallF) : Env → Mem → Option (Env × Mem) := fun e M =>
    (nx (oMv (eget e 0)) (some 3) e M fun e M =>
    nx (oBin cx.P .geq 2 (eget e 3) (.int .i64 0) M) (some 4) e M fun e M =>
    nx (oMv (eget e 4)) (some 5) e M fun e M =>
    nx (aGuard (some ((eget e 5), true)) (oMv (eget e 0))) (some 6) e M fun e M =>
    nx (aGuard (some ((eget e 5), true)) (oBin cx.P .leq 2 (eget e 6) (.int .i64 100000000) M)) (some 7) e M fun e M =>
    nx (keep (aPick (eget e 5) (eget e 7) (.bool false))) (some 8) e M fun e M =>
    nx (oMv (eget e 8)) (some 2) e M fun e M =>
    some (e, M)).map fun q => (prune [2] q.1, q.2)
noncomputable def f105 (call : CallF) (k : Nat) : St :=
  (bSeq (bReg (f105_r0 call))
  (bSeq (bReg (f105_r1 call))
  (bEx .ret)))
theorem f105_eq (call : CallF) (k : Nat) : exec cx call 9 f105_an k (Try.f105.body.getD .skip) = f105 call k := by kernel_rfl
/-! ### f106: loop.example/g01263/impl.arePeople -/
def f106_an : Ann := ⟨[(0, ⟨[], [], [], [], [0, 1]⟩), (1, ⟨[], [], [], [], [0, 7, 8, 9]⟩), (2, ⟨[], [], [], [], [0, 7, 8, 9, 10]⟩), (3, ⟨[], [], [], [], [0, 6, 7, 8, 9]⟩), (4, ⟨[], [], [], [], [0, 7, 8, 9, 19]⟩), (5, ⟨[], [], [], [], [4]⟩), (6, ⟨[], [], [], [], [0, 7, 8, 9]⟩), (7, ⟨[], [], [], [], [4]⟩)], [(2, [0, 7, 8, 9])]⟩
noncomputable def f106_r0 (call : CallF) : Env → Mem → Option (Env × Mem) := fun e M =>
    (nx (oMv (.bool false)) (some 4) e M fun e M =>
    some (e, M)).map fun q => (prune [0, 1] q.1, q.2)
noncomputable def f106_r1 (call : CallF) : Env → Mem → Option (Env × Mem) := fun e M =>
    (nx (oMv (eget e 1)) (some 7) e M fun e M =>
    nx (oLen cx.P 47 (eget e 7) M) (some 8) e M fun e M =>
    nx (oMv (.int .i64 0)) (some 9) e M fun e M =>
    some (e, M)).map fun q => (prune [0, 7, 8, 9] q.1, q.2)
noncomputable def f106_r2 (call : CallF) : Env → Mem → Option (Env × Mem) := fun e M =>
    (nx (oBin cx.P .lss 3 (eget e 9) (eget e 8) M) (some 10) e M fun e M =>
    some (e, M)).map fun q => (prune [0, 7, 8, 9, 10] q.1, q.2)
noncomputable def f106_r3 (call : CallF) : Env → Mem → Option (Env × Mem) := fun e M =>
    (nx (keep (aIndexS 1 (eget e 7) (eget e 9) M)) (some 11) e M fun e M =>
    nx (keep (aLoad false 1 (eget e 11) M)) (some 12) e M fun e M =>
    nx (oMv (eget e 12)) (some 6) e M fun e M =>
    some (e, M)).map fun q => (prune [0, 6, 7, 8, 9] q.1, q.2)
noncomputable def f106_r4 (call : CallF) : Env → Mem → Option (Env × Mem) := fun e M =>
    (nx (oMv (eget e 6)) (some 13) e M fun e M =>
    nx (oBin cx.P .lss 2 (eget e 13) (.int .i64 0) M) (some 14) e M fun e M =>
    nx (oMv (eget e 14)) (some 15) e M fun e M =>
    nx (aGuard (some ((eget e 15), false)) (oMv (eget e 6))) (some 16) e M fun e M =>
    nx (aGuard (some ((eget e 15), false)) (oMv (eget e 0))) (some 17) e M fun e M =>
    nx (aGuard (some ((eget e 15), false)) (oBin cx.P .geq 2 (eget e 16) (eget e 17) M)) (some 18) e M fun e M =>
    nx (keep (aPick (eget e 15) (.bool true) (eget e 18))) (some 19) e M fun e M =>
    some (e, M)).map fun q => (prune [0, 7, 8, 9, 19] q.1, q.2)
noncomputable def f106_r5 (call : CallF) : Env → Mem → Option (Env × Mem) := fun e M =>
    (nx (oMv (.bool false)) (some 4) e M fun e M =>
    some (e, M)).map fun q => (prune [4] q.1, q.2)
noncomputable def f106_r6 (call : CallF) : Env → Mem → Option (Env × Mem) := fun e M =>
    (nx (oBin cx.P .add 3 (eget e 9) (.int .i64 1) M) (some 20) e M fun e M =>
    nx (oMv (eget e 20)) (some 9) e M fun e M =>
    some (e, M)).map fun q => (prune [0, 7, 8, 9] q.1, q.2)
noncomputable def f106_r7 (call : CallF) : Env → Mem → Option (Env × Mem) := fun e M =>
    (nx (oMv (.bool true)) (some 4) e M fun e M =>
    some (e, M)).map fun q => (prune [4] q.1, q.2)
noncomputable def f106_l2 (call : CallF) (k : Nat) : St :=
  (bSeq (bReg (f106_r2 call))
  (bSeq (bCond (.tmp 10)
   (bEx .nrm)
   (bEx (.ext 0)))
  (bSeq (bBlock 1 (bSeq (bReg (f106_r3 call))
   (bSeq (bReg (f106_r4 call))
   (bCond (.tmp 19)
    (bSeq (bReg (f106_r5 call))
    (bEx .ret))
    (bEx .nrm)))))
  (bReg (f106_r6 call)))))
noncomputable def f106 (call : CallF) (k : Nat) : St :=
  (bSeq (bReg (f106_r0 call))
  (bSeq (bSeq (bReg (f106_r1 call))
  (bBlock 0 (bLoop [0, 7, 8, 9] (f106_l2 call k) k)))
  (bSeq (bReg (f106_r7 call))
  (bEx .ret))))
theorem f106_eq (call : CallF) (k : Nat) : exec cx call 21 f106_an k (Try.f106.body.getD .skip) = f106 call k := by kernel_rfl
/-! ### f107: loop.example/g01263/impl.ValidDeal$1 -/
def f107_an : Ann := ⟨[(0, ⟨[], [], [], [], [0, 1, 2, 3]⟩), (1, ⟨[], [], [], [], [8]⟩)], []⟩
noncomputable def f107_r0 (call : CallF) : Env → Mem → Option (Env × Mem) := fun e M =>
    (nx (oMv (.bool false)) (some 8) e M fun e M =>
    some (e, M)).map fun q => (prune [0, 1, 2, 3] q.1, q.2)
noncomputable def f107_r1 (call : CallF) : Env → Mem → Option (Env × Mem) := fun e M =>
    (nx (oMv (eget e 0)) (some 9) e M fun e M =>
    nx (oMv (eget e 9)) (some 10) e M fun e M =>
    nx (aGuard (some ((eget e 10), true)) (oMv (eget e 1))) (some 11) e M fun e M =>
    nx (aGuard (some ((eget e 10), true)) (oMv (eget e 2))) (some 12) e M fun e M =>
    nx (aGuard (some ((eget e 10), true)) (oBin cx.P .geq 2 (eget e 11) (eget e 12) M)) (some 13) e M fun e M =>
    nx (keep (aPick (eget e 10) (eget e 13) (.bool false))) (some 14) e M fun e M =>
    nx (oMv (eget e 14)) (some 15) e M fun e M =>
    nx (aGuard (some ((eget e 15), true)) (oMv (eget e 1))) (some 16) e M fun e M =>
    nx (aGuard (some ((eget e 15), true)) (oMv (eget e 3))) (some 17) e M fun e M =>
    nx (aGuard (some ((eget e 15), true)) (oBin cx.P .leq 2 (eget e 16) (eget e 17) M)) (some 18) e M fun e M =>
    nx (keep (aPick (eget e 15) (eget e 18) (.bool false))) (some 19) e M fun e M =>
    nx (oMv (eget e 19)) (some 20) e M fun e M =>
    nx (aGuard (some ((eget e 20), false)) (oMv (eget e 0))) (some 21) e M fun e M =>
    nx (aGuard (some ((eget e 20), false)) (keep (aUn .not (eget e 21)))) (some 22) e M fun e M =>
    nx (aGuard (some ((eget e 20), false)) (oMv (eget e 22))) (some 23) e M fun e M =>
    nx (aGuard (some ((eget e 23), true)) (oMv (eget e 1))) (some 24) e M fun e M =>
    nx (aGuard (some ((eget e 23), true)) (oBin cx.P .eql 2 (eget e 24) (.int .i64 0) M)) (some 25) e M fun e M =>
    nx (aGuard (some ((eget e 20), false)) (keep (aPick (eget e 23) (eget e 25) (.bool false)))) (some 26) e M fun e M =>
    nx (keep (aPick (eget e 20) (.bool true) (eget e 26))) (some 27) e M fun e M =>
    nx (oMv (eget e 27)) (some 8) e M fun e M =>
    some (e, M)).map fun q => (prune [8] q.1, q.2)
noncomputable def f107 (call : CallF) (k : Nat) : St :=
  (bSeq (bReg (f107_r0 call))
  (bSeq (bReg (f107_r1 call))
  (bEx .ret)))
theorem f107_eq (call : CallF) (k : Nat) : exec cx call 28 f107_an k (Try.f107.body.getD .skip) = f107 call k := by kernel_rfl
/-! ### f108: loop.example/g01263/impl.uses -/
def f108_an : Ann := ⟨[(0, ⟨[], [], [], [], [0]⟩), (1, ⟨[], [], [], [], [6]⟩), (2, ⟨[], [], [], [], [6, 7]⟩), (3, ⟨[], [], [], [], [2, 3, 4, 5]⟩), (4, ⟨[], [], [], [], [6, 9]⟩), (5, ⟨[], [], [], [], [2, 3, 4, 5]⟩), (6, ⟨[], [], [], [], [11]⟩), (7, ⟨[], [], [], [], [2, 3, 4, 5]⟩), (8, ⟨[], [], [], [], [2, 3, 4, 5]⟩)], []⟩
noncomputable def f108_r0 (call : CallF) : Env → Mem → Option (Env × Mem) := fun e M =>
    (nx (oMv (.bool false)) (some 2) e M fun e M =>
    nx (oMv (.bool false)) (some 3) e M fun e M =>
    nx (oMv (.bool false)) (some 4) e M fun e M =>
    nx (oMv (.bool false)) (some 5) e M fun e M =>
    some (e, M)).map fun q => (prune [0] q.1, q.2)
noncomputable def f108_r1 (call : CallF) : Env → Mem → Option (Env × Mem) := fun e M =>
    (nx (oMv (eget e 0)) (some 6) e M fun e M =>
    some (e, M)).map fun q => (prune [6] q.1, q.2)
noncomputable def f108_r2 (call : CallF) : Env → Mem → Option (Env × Mem) := fun e M =>
    (nx (oBin cx.P .eql 23 (eget e 6) (.int .i8 1) M) (some 8) e M fun e M =>
    nx (oMv (eget e 8)) (some 7) e M fun e M =>
    some (e, M)).map fun q => (prune [6, 7] q.1, q.2)
noncomputable def f108_r3 (call : CallF) : Env → Mem → Option (Env × Mem) := fun e M =>
    (nx (oMv (.bool false)) (some 2) e M fun e M =>
    nx (oMv (.bool true)) (some 3) e M fun e M =>
    nx (oMv (.bool true)) (some 4) e M fun e M =>
    nx (oMv (.bool true)) (some 5) e M fun e M =>
    some (e, M)).map fun q => (prune [2, 3, 4, 5] q.1, q.2)
noncomputable def f108_r4 (call : CallF) : Env → Mem → Option (Env × Mem) := fun e M =>
    (nx (oBin cx.P .eql 23 (eget e 6) (.int .i8 2) M) (some 10) e M fun e M =>
    nx (oMv (eget e 10)) (some 9) e M fun e M =>
    some (e, M)).map fun q => (prune [6, 9] q.1, q.2)
noncomputable def f108_r5 (call : CallF) : Env → Mem → Option (Env × Mem) := fun e M =>
    (nx (oMv (.bool true)) (some 2) e M fun e M =>
    nx (oMv (.bool true)) (some 3) e M fun e M =>
    nx (oMv (.bool true)) (some 4) e M fun e M =>
    nx (oMv (.bool false)) (some 5) e M fun e M =>
    some (e, M)).map fun q => (prune [2, 3, 4, 5] q.1, q.2)
noncomputable def f108_r6 (call : CallF) : Env → Mem → Option (Env × Mem) := fun e M =>
    (nx (oBin cx.P .eql 23 (eget e 6) (.int .i8 3) M) (some 12) e M fun e M =>
    nx (oMv (eget e 12)) (some 11) e M fun e M =>
    some (e, M)).map fun q => (prune [11] q.1, q.2)
noncomputable def f108_r7 (call : CallF) : Env → Mem → Option (Env × Mem) := fun e M =>
    (nx (oMv (.bool true)) (some 2) e M fun e M =>
    nx (oMv (.bool false)) (some 3) e M fun e M =>
    nx (oMv (.bool false)) (some 4) e M fun e M =>
    nx (oMv (.bool true)) (some 5) e M fun e M =>
    some (e, M)).map fun q => (prune [2, 3, 4, 5] q.1, q.2)
noncomputable def f108_r8 (call : CallF) : Env → Mem → Option (Env × Mem) := fun e M =>
    (nx (oMv (.bool true)) (some 2) e M fun e M =>
    nx (oMv (.bool true)) (some 3) e M fun e M =>
    nx (oMv (.bool false)) (some 4) e M fun e M =>
    nx (oMv (.bool false)) (some 5) e M fun e M =>
    some (e, M)).map fun q => (prune [2, 3, 4, 5] q.1, q.2)
noncomputable def f108 (call : CallF) (k : Nat) : St :=
  (bSeq (bReg (f108_r0 call))
  (bSeq (bSeq (bReg (f108_r1 call))
  (bBlock 0 (bSeq (bReg (f108_r2 call))
   (bCond (.tmp 7)
    (bSeq (bReg (f108_r3 call))
    (bEx .ret))
    (bSeq (bReg (f108_r4 call))
    (bCond (.tmp 9)
     (bSeq (bReg (f108_r5 call))
     (bEx .ret))
     (bSeq (bReg (f108_r6 call))
     (bCond (.tmp 11)
      (bSeq (bReg (f108_r7 call))
      (bEx .ret))
      (bEx .nrm)))))))))
  (bSeq (bReg (f108_r8 call))
  (bEx .ret))))
theorem f108_eq (call : CallF) (k : Nat) : exec cx call 13 f108_an k (Try.f108.body.getD .skip) = f108 call k := by kernel_rfl
/-! ### f109: loop.example/g01263/impl.ownBook -/
def f109_an : Ann := ⟨[(0, ⟨[0], [], [], [], [1, 2]⟩), (1, ⟨[4], [], [], [], [1, 2]⟩), (2, ⟨[4], [], [], [], [1, 2]⟩), (3, ⟨[1], [], [], [], [2]⟩)], []⟩
noncomputable def f109_r0 (call : CallF) : Env → Mem → Option (Env × Mem) := fun e M =>
    (nx (aBoxO M.length 56 3 (eget e 0) M) (some 1) e M fun e M =>
    nx (oAlloc cx.P M.length 56 3) (some 2) e M fun e M =>
    some (e, M)).map fun q => (prune [1, 2] q.1, q.2)
noncomputable def f109_r1 (call : CallF) : Env → Mem → Option (Env × Mem) := fun e M =>
    (nx (keep (aFieldAddr 1 1 (eget e 1) M)) (some 3) e M fun e M =>
    nx (keep (aLoad false 1 (eget e 3) M)) (some 4) e M fun e M =>
    nx (aCall cx.P.cellsOf cx.rw call false M.length 124 [(eget e 4)] M) (some 5) e M fun e M =>
    nx (keep (aFieldAddr 1 1 (eget e 1) M)) (some 6) e M fun e M =>
    nx (oStoreK 1 (eget e 6) (eget e 5) M) none e M fun e M =>
    some (e, M)).map fun q => (prune [1, 2] q.1, q.2)
noncomputable def f109_r2 (call : CallF) : Env → Mem → Option (Env × Mem) := fun e M =>
    (nx (keep (aFieldAddr 2 1 (eget e 1) M)) (some 7) e M fun e M =>
    nx (keep (aLoad false 1 (eget e 7) M)) (some 8) e M fun e M =>
    nx (aCall cx.P.cellsOf cx.rw call false M.length 125 [(eget e 8)] M) (some 9) e M fun e M =>
    nx (keep (aFieldAddr 2 1 (eget e 1) M)) (some 10) e M fun e M =>
    nx (oStoreK 1 (eget e 10) (eget e 9) M) none e M fun e M =>
    some (e, M)).map fun q => (prune [1, 2] q.1, q.2)
noncomputable def f109_r3 (call : CallF) : Env → Mem → Option (Env × Mem) := fun e M =>
    (nx (keep (aLoad true 3 (eget e 1) M)) (some 11) e M fun e M =>
    nx (oStoreK 3 (eget e 2) (eget e 11) M) none e M fun e M =>
    some (e, M)).map fun q => (prune [2] q.1, q.2)
noncomputable def f109 (call : CallF) (k : Nat) : St :=
  (bSeq (bReg (f109_r0 call))
  (bSeq (bReg (f109_r1 call))
  (bSeq (bReg (f109_r2 call))
  (bSeq (bReg (f109_r3 call))
  (bEx .ret)))))
theorem f109_eq (call : CallF) (k : Nat) : exec cx call 12 f109_an k (Try.f109.body.getD .skip) = f109 call k := by kernel_rfl
/-! ### f110: loop.example/g01263/laws.eqTally -/
def f110_an : Ann := ⟨[(0, ⟨[], [], [], [], [2, 3]⟩), (1, ⟨[], [], [], [], [2, 3, 9]⟩), (2, ⟨[], [], [], [], [4]⟩), (3, ⟨[], [], [], [], [2, 3, 14]⟩), (4, ⟨[], [], [], [], [4]⟩), (5, ⟨[], [], [], [], [2, 3, 19]⟩), (6, ⟨[], [], [], [], [4]⟩), (7, ⟨[], [], [], [], [2, 3, 24]⟩), (8, ⟨[], [], [], [], [4]⟩), (9, ⟨[], [], [], [], [29]⟩), (10, ⟨[], [], [], [], [4]⟩), (11, ⟨[], [], [], [], [4]⟩)], []⟩
noncomputable def f110_r0 (call : CallF) : Env → Mem → Option (Env × Mem) := fun e M =>
    (nx (keep (aBox 5 (eget e 0) M)) (some 2) e M fun e M =>
    nx (keep (aBox 5 (eget e 1) M)) (some 3) e M fun e M =>
    nx (oMv (.bool false)) (some 4) e M fun e M =>
    some (e, M)).map fun q => (prune [2, 3] q.1, q.2)
noncomputable def f110_r1 (call : CallF) : Env → Mem → Option (Env × Mem) := fun e M =>
    (nx (keep (aFieldAddr 0 1 (eget e 2) M)) (some 5) e M fun e M =>
    nx (keep (aLoad false 1 (eget e 5) M)) (some 6) e M fun e M =>
    nx (keep (aFieldAddr 0 1 (eget e 3) M)) (some 7) e M fun e M =>
    nx (keep (aLoad false 1 (eget e 7) M)) (some 8) e M fun e M =>
    nx (oBin cx.P .neq 2 (eget e 6) (eget e 8) M) (some 9) e M fun e M =>
    some (e, M)).map fun q => (prune [2, 3, 9] q.1, q.2)
noncomputable def f110_r2 (call : CallF) : Env → Mem → Option (Env × Mem) := fun e M =>
    (nx (oMv (.bool false)) (some 4) e M fun e M =>
    some (e, M)).map fun q => (prune [4] q.1, q.2)
noncomputable def f110_r3 (call : CallF) : Env → Mem → Option (Env × Mem) := fun e M =>
    (nx (keep (aFieldAddr 1 1 (eget e 2) M)) (some 10) e M fun e M =>
    nx (keep (aLoad false 1 (eget e 10) M)) (some 11) e M fun e M =>
    nx (keep (aFieldAddr 1 1 (eget e 3) M)) (some 12) e M fun e M =>
    nx (keep (aLoad false 1 (eget e 12) M)) (some 13) e M fun e M =>
    nx (oBin cx.P .neq 2 (eget e 11) (eget e 13) M) (some 14) e M fun e M =>
    some (e, M)).map fun q => (prune [2, 3, 14] q.1, q.2)
noncomputable def f110_r4 (call : CallF) : Env → Mem → Option (Env × Mem) := fun e M =>
    (nx (oMv (.bool false)) (some 4) e M fun e M =>
    some (e, M)).map fun q => (prune [4] q.1, q.2)
noncomputable def f110_r5 (call : CallF) : Env → Mem → Option (Env × Mem) := fun e M =>
    (nx (keep (aFieldAddr 2 1 (eget e 2) M)) (some 15) e M fun e M =>
    nx (keep (aLoad false 1 (eget e 15) M)) (some 16) e M fun e M =>
    nx (keep (aFieldAddr 2 1 (eget e 3) M)) (some 17) e M fun e M =>
    nx (keep (aLoad false 1 (eget e 17) M)) (some 18) e M fun e M =>
    nx (oBin cx.P .neq 2 (eget e 16) (eget e 18) M) (some 19) e M fun e M =>
    some (e, M)).map fun q => (prune [2, 3, 19] q.1, q.2)
noncomputable def f110_r6 (call : CallF) : Env → Mem → Option (Env × Mem) := fun e M =>
    (nx (oMv (.bool false)) (some 4) e M fun e M =>
    some (e, M)).map fun q => (prune [4] q.1, q.2)
noncomputable def f110_r7 (call : CallF) : Env → Mem → Option (Env × Mem) := fun e M =>
    (nx (keep (aFieldAddr 3 1 (eget e 2) M)) (some 20) e M fun e M =>
    nx (keep (aLoad false 1 (eget e 20) M)) (some 21) e M fun e M =>
    nx (keep (aFieldAddr 3 1 (eget e 3) M)) (some 22) e M fun e M =>
    nx (keep (aLoad false 1 (eget e 22) M)) (some 23) e M fun e M =>
    nx (oBin cx.P .neq 2 (eget e 21) (eget e 23) M) (some 24) e M fun e M =>
    some (e, M)).map fun q => (prune [2, 3, 24] q.1, q.2)
noncomputable def f110_r8 (call : CallF) : Env → Mem → Option (Env × Mem) := fun e M =>
    (nx (oMv (.bool false)) (some 4) e M fun e M =>
    some (e, M)).map fun q => (prune [4] q.1, q.2)
noncomputable def f110_r9 (call : CallF) : Env → Mem → Option (Env × Mem) := fun e M =>
    (nx (keep (aFieldAddr 4 1 (eget e 2) M)) (some 25) e M fun e M =>
    nx (keep (aLoad false 1 (eget e 25) M)) (some 26) e M fun e M =>
    nx (keep (aFieldAddr 4 1 (eget e 3) M)) (some 27) e M fun e M =>
    nx (keep (aLoad false 1 (eget e 27) M)) (some 28) e M fun e M =>
    nx (oBin cx.P .neq 2 (eget e 26) (eget e 28) M) (some 29) e M fun e M =>
    some (e, M)).map fun q => (prune [29] q.1, q.2)
noncomputable def f110_r10 (call : CallF) : Env → Mem → Option (Env × Mem) := fun e M =>
    (nx (oMv (.bool false)) (some 4) e M fun e M =>
    some (e, M)).map fun q => (prune [4] q.1, q.2)
noncomputable def f110_r11 (call : CallF) : Env → Mem → Option (Env × Mem) := fun e M =>
    (nx (oMv (.bool true)) (some 4) e M fun e M =>
    some (e, M)).map fun q => (prune [4] q.1, q.2)
noncomputable def f110 (call : CallF) (k : Nat) : St :=
  (bSeq (bReg (f110_r0 call))
  (bSeq (bSeq (bReg (f110_r1 call))
  (bCond (.tmp 9)
   (bSeq (bReg (f110_r2 call))
   (bEx .ret))
   (bEx .nrm)))
  (bSeq (bSeq (bReg (f110_r3 call))
  (bCond (.tmp 14)
   (bSeq (bReg (f110_r4 call))
   (bEx .ret))
   (bEx .nrm)))
  (bSeq (bSeq (bReg (f110_r5 call))
  (bCond (.tmp 19)
   (bSeq (bReg (f110_r6 call))
   (bEx .ret))
   (bEx .nrm)))
  (bSeq (bSeq (bReg (f110_r7 call))
  (bCond (.tmp 24)
   (bSeq (bReg (f110_r8 call))
   (bEx .ret))
   (bEx .nrm)))
  (bSeq (bSeq (bReg (f110_r9 call))
  (bCond (.tmp 29)
   (bSeq (bReg (f110_r10 call))
   (bEx .ret))
   (bEx .nrm)))
  (bSeq (bReg (f110_r11 call))
  (bEx .ret))))))))
theorem f110_eq (call : CallF) (k : Nat) : exec cx call 30 f110_an k (Try.f110.body.getD .skip) = f110 call k := by kernel_rfl
/-! ### f123: loop.example/g01263/spec.l01Amount -/
def f123_an : Ann := ⟨[(0, ⟨[], [], [], [], [0]⟩), (1, ⟨[], [], [], [], [2]⟩)], []⟩
noncomputable def f123_r0 (call : CallF) : Env → Mem → Option (Env × Mem) := fun e M =>
    (nx (oMv (.bool false)) (some 2) e M fun e M =>
    some (e, M)).map fun q => (prune [0] q.1, q.2)
noncomputable def f123_r1 (call : CallF) : Env → Mem → Option (Env × Mem) := fun e M =>
    (nx (oMv (eget e 0)) (some 3) e M fun e M =>
    nx (aCall cx.P.cellsOf cx.rw call false M.length 88 [(eget e 3), (.int .i64 0), (.int .i64 100000000)] M) (some 4) e M fun e M =>
    nx (oMv (eget e 4)) (some 2) e M fun e M =>
    some (e, M)).map fun q => (prune [2] q.1, q.2)
noncomputable def f123 (call : CallF) (k : Nat) : St :=
  (bSeq (bReg (f123_r0 call))
  (bSeq (bReg (f123_r1 call))
  (bEx .ret)))
theorem f123_eq (call : CallF) (k : Nat) : exec cx call 5 f123_an k (Try.f123.body.getD .skip) = f123 call k := by kernel_rfl
/-! ### f124: slices.Clone[[]int64,int64] -/
def f124_an : Ann := ⟨[(0, ⟨[], [], [], [], [0]⟩), (1, ⟨[], [], [], [], [0, 4]⟩), (2, ⟨[], [], [], [], [2]⟩), (3, ⟨[], [], [], [], [2]⟩)], []⟩
noncomputable def f124_r0 (call : CallF) : Env → Mem → Option (Env × Mem) := fun e M =>
    (nx (oMv .nils) (some 2) e M fun e M =>
    some (e, M)).map fun q => (prune [0] q.1, q.2)
noncomputable def f124_r1 (call : CallF) : Env → Mem → Option (Env × Mem) := fun e M =>
    (nx (oMv (eget e 0)) (some 3) e M fun e M =>
    nx (oBin cx.P .eql 47 (eget e 3) .nils M) (some 4) e M fun e M =>
    some (e, M)).map fun q => (prune [0, 4] q.1, q.2)
noncomputable def f124_r2 (call : CallF) : Env → Mem → Option (Env × Mem) := fun e M =>
    (nx (oMv .nils) (some 2) e M fun e M =>
    some (e, M)).map fun q => (prune [2] q.1, q.2)
noncomputable def f124_r3 (call : CallF) : Env → Mem → Option (Env × Mem) := fun e M =>
    (nx (keep (aLitI 2 1 [] M)) (some 5) e M fun e M =>
    nx (oMv (eget e 0)) (some 6) e M fun e M =>
    nx (aAppI 2 1 8 (eget e 5) (eget e 6) M) (some 7) e M fun e M =>
    nx (oMv (eget e 7)) (some 2) e M fun e M =>
    some (e, M)).map fun q => (prune [2] q.1, q.2)
noncomputable def f124 (call : CallF) (k : Nat) : St :=
  (bSeq (bReg (f124_r0 call))
  (bSeq (bSeq (bReg (f124_r1 call))
  (bCond (.tmp 4)
   (bSeq (bReg (f124_r2 call))
   (bEx .ret))
   (bEx .nrm)))
  (bSeq (bReg (f124_r3 call))
  (bEx .ret))))
theorem f124_eq (call : CallF) (k : Nat) : exec cx call 8 f124_an k (Try.f124.body.getD .skip) = f124 call k := by kernel_rfl
/-! ### f125: slices.Clone[[]loop.example/g01263/impl.Tally,loop.example/g01263/impl.Tally] -/
def f125_an : Ann := ⟨[(0, ⟨[], [], [], [], [0]⟩), (1, ⟨[], [], [], [], [0, 4]⟩), (2, ⟨[], [], [], [], [2]⟩), (3, ⟨[], [], [], [], [2]⟩)], []⟩
noncomputable def f125_r0 (call : CallF) : Env → Mem → Option (Env × Mem) := fun e M =>
    (nx (oMv .nils) (some 2) e M fun e M =>
    some (e, M)).map fun q => (prune [0] q.1, q.2)
noncomputable def f125_r1 (call : CallF) : Env → Mem → Option (Env × Mem) := fun e M =>
    (nx (oMv (eget e 0)) (some 3) e M fun e M =>
    nx (oBin cx.P .eql 54 (eget e 3) .nils M) (some 4) e M fun e M =>
    some (e, M)).map fun q => (prune [0, 4] q.1, q.2)
noncomputable def f125_r2 (call : CallF) : Env → Mem → Option (Env × Mem) := fun e M =>
    (nx (oMv .nils) (some 2) e M fun e M =>
    some (e, M)).map fun q => (prune [2] q.1, q.2)
noncomputable def f125_r3 (call : CallF) : Env → Mem → Option (Env × Mem) := fun e M =>
    (nx (keep (aLitI 156 5 [] M)) (some 5) e M fun e M =>
    nx (oMv (eget e 0)) (some 6) e M fun e M =>
    nx (aAppI 156 5 40 (eget e 5) (eget e 6) M) (some 7) e M fun e M =>
    nx (oMv (eget e 7)) (some 2) e M fun e M =>
    some (e, M)).map fun q => (prune [2] q.1, q.2)
noncomputable def f125 (call : CallF) (k : Nat) : St :=
  (bSeq (bReg (f125_r0 call))
  (bSeq (bSeq (bReg (f125_r1 call))
  (bCond (.tmp 4)
   (bSeq (bReg (f125_r2 call))
   (bEx .ret))
   (bEx .nrm)))
  (bSeq (bReg (f125_r3 call))
  (bEx .ret))))
theorem f125_eq (call : CallF) (k : Nat) : exec cx call 8 f125_an k (Try.f125.body.getD .skip) = f125 call k := by kernel_rfl
def anns : List (Nat × Ann) := [(4, f4_an), (17, f17_an), (18, f18_an), (19, f19_an), (20, f20_an), (21, f21_an), (22, f22_an), (23, f23_an), (24, f24_an), (29, f29_an), (32, f32_an), (33, f33_an), (59, f59_an), (60, f60_an), (61, f61_an), (62, f62_an), (63, f63_an), (64, f64_an), (65, f65_an), (66, f66_an), (67, f67_an), (68, f68_an), (69, f69_an), (70, f70_an), (71, f71_an), (88, f88_an), (98, f98_an), (99, f99_an), (100, f100_an), (101, f101_an), (102, f102_an), (103, f103_an), (104, f104_an), (105, f105_an), (106, f106_an), (107, f107_an), (108, f108_an), (109, f109_an), (110, f110_an), (123, f123_an), (124, f124_an), (125, f125_an)]
noncomputable def CN0 : Nat → CallF := callN cx (Go.Ab.look anns) (fun _ _ _ => none) (fun _ => false)
def isP (f : Nat) : Bool := has [124, 125] f
noncomputable def primF : CallF := splitNil (callN cx (Go.Ab.look anns) (fun _ _ _ => none) (fun _ => false) 3)
noncomputable def CN : Nat → CallF := callN cx (Go.Ab.look anns) primF isP
end Go.Proofs.Ytfabokkhdalbead

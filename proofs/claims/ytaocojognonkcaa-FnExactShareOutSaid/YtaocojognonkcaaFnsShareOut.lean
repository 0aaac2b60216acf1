/- Printed by a program of ours (ext.py). -/
import Derived.Test.YtaocojognonkcaaAbWr
import Derived.Test.YtaocojognonkcaaProg
set_option linter.unusedVariables false
set_option maxRecDepth 100000
set_option maxHeartbeats 2000000
namespace Go.Proofs.Ytaocojognonkcaa
open Go Go.Ab
noncomputable def cx : Cx := ⟨Try.prog, fun f => has [16] f⟩
/-! ### f4: loop.example/g01263/laws.FnExactShareOut -/
def f4_an : Ann := ⟨[(0, ⟨[], [], [], [], [0, 1]⟩), (1, ⟨[], [], [], [], [0, 1, 17]⟩), (2, ⟨[], [], [], [], [4]⟩), (3, ⟨[], [], [], [], [0, 1, 5, 6]⟩), (4, ⟨[], [1], [], [], [0, 1, 5, 6, 7]⟩), (5, ⟨[], [2], [], [], [0, 1, 5, 6, 7, 8, 9]⟩), (6, ⟨[], [], [], [], [0, 1, 5, 6, 7, 8, 9, 41]⟩), (7, ⟨[], [], [], [], [4]⟩), (8, ⟨[], [], [], [], [0, 1, 5, 6, 7, 8, 9, 46]⟩), (9, ⟨[], [], [], [], [4]⟩), (10, ⟨[], [], [], [], [0, 1, 5, 6, 7, 8, 9, 10]⟩), (11, ⟨[], [], [], [], [0, 1, 5, 6, 8, 9, 10]⟩), (12, ⟨[], [], [], [], [0, 1, 5, 6, 8, 62]⟩), (13, ⟨[], [], [], [], [4]⟩), (14, ⟨[], [], [], [], [0, 1, 5, 6, 8, 11]⟩), (15, ⟨[], [], [], [], [0, 1, 5, 6, 8, 11]⟩), (16, ⟨[], [], [], [], [0, 1, 5, 6, 8, 11, 12]⟩), (17, ⟨[], [], [], [], [0, 1, 5, 6, 8, 11, 12]⟩), (18, ⟨[], [], [], [], [0, 1, 5, 6, 8, 11, 12, 70]⟩), (19, ⟨[], [], [], [], [4]⟩), (20, ⟨[], [], [], [], [0, 1, 5, 6, 8, 11, 73]⟩), (21, ⟨[], [], [], [], [4]⟩), (22, ⟨[], [], [], [], [5, 6, 8, 11, 13, 14]⟩), (23, ⟨[], [], [], [], [8, 11, 89]⟩), (24, ⟨[], [], [], [], [4]⟩), (25, ⟨[], [], [], [], [8, 11, 12]⟩), (26, ⟨[], [], [], [], [11, 12]⟩), (27, ⟨[], [], [], [], [11, 12, 94]⟩), (28, ⟨[], [], [], [], [4]⟩), (29, ⟨[], [], [], [], [97]⟩), (30, ⟨[], [], [], [], [4]⟩), (31, ⟨[], [], [], [], [4]⟩)], []⟩
noncomputable def f4_r0 (call : CallF) : Env → Mem → Option (Env × Mem) := fun e M =>
    (nx (oMv (.bool false)) (some 4) e M fun e M =>
    some (e, M)).map fun q => (prune [0, 1] q.1, q.2)
noncomputable def f4_r1 (call : CallF) : Env → Mem → Option (Env × Mem) := fun e M =>
    (nx (oMv (eget e 1)) (some 15) e M fun e M =>
    nx (oLen cx.P 29 (eget e 15) M) (some 16) e M fun e M =>
    nx (oBin cx.P .gtr 3 (eget e 16) (.int .i64 1048576) M) (some 17) e M fun e M =>
    some (e, M)).map fun q => (prune [0, 1, 17] q.1, q.2)
noncomputable def f4_r2 (call : CallF) : Env → Mem → Option (Env × Mem) := fun e M =>
    (nx (oMv (.bool true)) (some 4) e M fun e M =>
    some (e, M)).map fun q => (prune [4] q.1, q.2)
noncomputable def f4_r3 (call : CallF) : Env → Mem → Option (Env × Mem) := fun e M =>
    (nx (oMv (eget e 0)) (some 19) e M fun e M =>
    nx (oMv (eget e 1)) (some 20) e M fun e M =>
    nx (aCall cx.P.cellsOf cx.rw call false M.length 13 [(eget e 20)] M) (some 21) e M fun e M =>
    nx (aCall cx.P.cellsOf cx.rw call false M.length 12 [(eget e 19), (eget e 21)] M) (some 22) e M fun e M =>
    nx (oMv (eget e 22)) (some 18) e M fun e M =>
    nx (keep (aExtract 0 (eget e 18))) (some 23) e M fun e M =>
    nx (keep (aExtract 1 (eget e 18))) (some 24) e M fun e M =>
    nx (oMv (eget e 23)) (some 5) e M fun e M =>
    nx (oMv (eget e 24)) (some 6) e M fun e M =>
    some (e, M)).map fun q => (prune [0, 1, 5, 6] q.1, q.2)
noncomputable def f4_r4 (call : CallF) : Env → Mem → Option (Env × Mem) := fun e M =>
    (nx (oMv (eget e 1)) (some 25) e M fun e M =>
    nx (aCall cx.P.cellsOf cx.rw call true M.length 13 [(eget e 25)] M) (some 26) e M fun e M =>
    nx (oMv (eget e 26)) (some 7) e M fun e M =>
    some (e, M)).map fun q => (prune [0, 1, 5, 6, 7] q.1, q.2)
noncomputable def f4_r5 (call : CallF) : Env → Mem → Option (Env × Mem) := fun e M =>
    (nx (oMv (eget e 0)) (some 28) e M fun e M =>
    nx (oMv (eget e 7)) (some 29) e M fun e M =>
    nx (aCall cx.P.cellsOf cx.rw call true M.length 14 [(eget e 28), (eget e 29)] M) (some 30) e M fun e M =>
    nx (oMv (eget e 30)) (some 27) e M fun e M =>
    nx (keep (aExtract 0 (eget e 27))) (some 31) e M fun e M =>
    nx (keep (aExtract 1 (eget e 27))) (some 32) e M fun e M =>
    nx (oMv (eget e 31)) (some 8) e M fun e M =>
    nx (oMv (eget e 32)) (some 9) e M fun e M =>
    some (e, M)).map fun q => (prune [0, 1, 5, 6, 7, 8, 9] q.1, q.2)
noncomputable def f4_r6 (call : CallF) : Env → Mem → Option (Env × Mem) := fun e M =>
    (nx (oMv (eget e 8)) (some 33) e M fun e M =>
    nx (oMv (eget e 5)) (some 34) e M fun e M =>
    nx (aCall cx.P.cellsOf cx.rw call false M.length 15 [(eget e 33), (eget e 34)] M) (some 35) e M fun e M =>
    nx (keep (aUn .not (eget e 35))) (some 36) e M fun e M =>
    nx (oMv (eget e 36)) (some 37) e M fun e M =>
    nx (aGuard (some ((eget e 37), false)) (oMv (eget e 9))) (some 38) e M fun e M =>
    nx (aGuard (some ((eget e 37), false)) (oMv (eget e 6))) (some 39) e M fun e M =>
    nx (aGuard (some ((eget e 37), false)) (oBin cx.P .neq 2 (eget e 38) (eget e 39) M)) (some 40) e M fun e M =>
    nx (keep (aPick (eget e 37) (.bool true) (eget e 40))) (some 41) e M fun e M =>
    some (e, M)).map fun q => (prune [0, 1, 5, 6, 7, 8, 9, 41] q.1, q.2)
noncomputable def f4_r7 (call : CallF) : Env → Mem → Option (Env × Mem) := fun e M =>
    (nx (oMv (.bool false)) (some 4) e M fun e M =>
    some (e, M)).map fun q => (prune [4] q.1, q.2)
noncomputable def f4_r8 (call : CallF) : Env → Mem → Option (Env × Mem) := fun e M =>
    (nx (oMv (eget e 7)) (some 42) e M fun e M =>
    nx (oMv (eget e 1)) (some 43) e M fun e M =>
    nx (aCall cx.P.cellsOf cx.rw call false M.length 13 [(eget e 43)] M) (some 44) e M fun e M =>
    nx (aCall cx.P.cellsOf cx.rw call false M.length 15 [(eget e 42), (eget e 44)] M) (some 45) e M fun e M =>
    nx (keep (aUn .not (eget e 45))) (some 46) e M fun e M =>
    some (e, M)).map fun q => (prune [0, 1, 5, 6, 7, 8, 9, 46] q.1, q.2)
noncomputable def f4_r9 (call : CallF) : Env → Mem → Option (Env × Mem) := fun e M =>
    (nx (oMv (.bool false)) (some 4) e M fun e M =>
    some (e, M)).map fun q => (prune [4] q.1, q.2)
noncomputable def f4_r10 (call : CallF) : Env → Mem → Option (Env × Mem) := fun e M =>
    (nx (oMv (.int .i64 1)) (some 10) e M fun e M =>
    some (e, M)).map fun q => (prune [0, 1, 5, 6, 7, 8, 9, 10] q.1, q.2)
noncomputable def f4_r11 (call : CallF) : Env → Mem → Option (Env × Mem) := fun e M =>
    (nx (oMv (eget e 7)) (some 47) e M fun e M =>
    nx (oMv (eget e 10)) (some 48) e M fun e M =>
    nx (aCall cx.P.cellsOf cx.rw call false M.length 16 [(eget e 47), (eget e 48)] M) (some 49) e M fun e M =>
    nx (oMv (eget e 49)) (some 10) e M fun e M =>
    some (e, M)).map fun q => (prune [0, 1, 5, 6, 8, 9, 10] q.1, q.2)
noncomputable def f4_r12 (call : CallF) : Env → Mem → Option (Env × Mem) := fun e M =>
    (nx (oMv (eget e 10)) (some 50) e M fun e M =>
    nx (oBin cx.P .lss 3 (eget e 50) (.int .i64 0) M) (some 51) e M fun e M =>
    nx (oMv (eget e 51)) (some 52) e M fun e M =>
    nx (aGuard (some ((eget e 52), false)) (oMv (eget e 8))) (some 53) e M fun e M =>
    nx (aGuard (some ((eget e 52), false)) (oMv (eget e 5))) (some 54) e M fun e M =>
    nx (aGuard (some ((eget e 52), false)) (aCall cx.P.cellsOf cx.rw call false M.length 15 [(eget e 53), (eget e 54)] M)) (some 55) e M fun e M =>
    nx (aGuard (some ((eget e 52), false)) (keep (aUn .not (eget e 55)))) (some 56) e M fun e M =>
    nx (keep (aPick (eget e 52) (.bool true) (eget e 56))) (some 57) e M fun e M =>
    nx (oMv (eget e 57)) (some 58) e M fun e M =>
    nx (aGuard (some ((eget e 58), false)) (oMv (eget e 9))) (some 59) e M fun e M =>
    nx (aGuard (some ((eget e 58), false)) (oMv (eget e 6))) (some 60) e M fun e M =>
    nx (aGuard (some ((eget e 58), false)) (oBin cx.P .neq 2 (eget e 59) (eget e 60) M)) (some 61) e M fun e M =>
    nx (keep (aPick (eget e 58) (.bool true) (eget e 61))) (some 62) e M fun e M =>
    some (e, M)).map fun q => (prune [0, 1, 5, 6, 8, 62] q.1, q.2)
noncomputable def f4_r13 (call : CallF) : Env → Mem → Option (Env × Mem) := fun e M =>
    (nx (oMv (.bool false)) (some 4) e M fun e M =>
    some (e, M)).map fun q => (prune [4] q.1, q.2)
noncomputable def f4_r14 (call : CallF) : Env → Mem → Option (Env × Mem) := fun e M =>
    (nx (oMv (.int .i64 1)) (some 11) e M fun e M =>
    some (e, M)).map fun q => (prune [0, 1, 5, 6, 8, 11] q.1, q.2)
noncomputable def f4_r15 (call : CallF) : Env → Mem → Option (Env × Mem) := fun e M =>
    (nx (oMv (eget e 8)) (some 63) e M fun e M =>
    nx (oMv (eget e 11)) (some 64) e M fun e M =>
    nx (aCall cx.P.cellsOf cx.rw call false M.length 16 [(eget e 63), (eget e 64)] M) (some 65) e M fun e M =>
    nx (oMv (eget e 65)) (some 11) e M fun e M =>
    some (e, M)).map fun q => (prune [0, 1, 5, 6, 8, 11] q.1, q.2)
noncomputable def f4_r16 (call : CallF) : Env → Mem → Option (Env × Mem) := fun e M =>
    (nx (oMv (.int .i64 1)) (some 12) e M fun e M =>
    some (e, M)).map fun q => (prune [0, 1, 5, 6, 8, 11, 12] q.1, q.2)
noncomputable def f4_r17 (call : CallF) : Env → Mem → Option (Env × Mem) := fun e M =>
    (nx (oMv (eget e 8)) (some 66) e M fun e M =>
    nx (oMv (eget e 12)) (some 67) e M fun e M =>
    nx (aCall cx.P.cellsOf cx.rw call false M.length 17 [(eget e 66), (eget e 67)] M) (some 68) e M fun e M =>
    nx (oMv (eget e 68)) (some 12) e M fun e M =>
    some (e, M)).map fun q => (prune [0, 1, 5, 6, 8, 11, 12] q.1, q.2)
noncomputable def f4_r18 (call : CallF) : Env → Mem → Option (Env × Mem) := fun e M =>
    (nx (oMv (eget e 12)) (some 69) e M fun e M =>
    nx (oBin cx.P .lss 3 (eget e 69) (.int .i64 0) M) (some 70) e M fun e M =>
    some (e, M)).map fun q => (prune [0, 1, 5, 6, 8, 11, 12, 70] q.1, q.2)
noncomputable def f4_r19 (call : CallF) : Env → Mem → Option (Env × Mem) := fun e M =>
    (nx (oMv (.bool false)) (some 4) e M fun e M =>
    some (e, M)).map fun q => (prune [4] q.1, q.2)
noncomputable def f4_r20 (call : CallF) : Env → Mem → Option (Env × Mem) := fun e M =>
    (nx (oMv (eget e 12)) (some 71) e M fun e M =>
    nx (oMv (eget e 11)) (some 72) e M fun e M =>
    nx (oBin cx.P .neq 3 (eget e 71) (eget e 72) M) (some 73) e M fun e M =>
    some (e, M)).map fun q => (prune [0, 1, 5, 6, 8, 11, 73] q.1, q.2)
noncomputable def f4_r21 (call : CallF) : Env → Mem → Option (Env × Mem) := fun e M =>
    (nx (oMv (.bool false)) (some 4) e M fun e M =>
    some (e, M)).map fun q => (prune [4] q.1, q.2)
noncomputable def f4_r22 (call : CallF) : Env → Mem → Option (Env × Mem) := fun e M =>
    (nx (oMv (eget e 0)) (some 75) e M fun e M =>
    nx (oMv (eget e 1)) (some 76) e M fun e M =>
    nx (aCall cx.P.cellsOf cx.rw call false M.length 13 [(eget e 76)] M) (some 77) e M fun e M =>
    nx (aCall cx.P.cellsOf cx.rw call false M.length 14 [(eget e 75), (eget e 77)] M) (some 78) e M fun e M =>
    nx (oMv (eget e 78)) (some 74) e M fun e M =>
    nx (keep (aExtract 0 (eget e 74))) (some 79) e M fun e M =>
    nx (keep (aExtract 1 (eget e 74))) (some 80) e M fun e M =>
    nx (oMv (eget e 79)) (some 13) e M fun e M =>
    nx (oMv (eget e 80)) (some 14) e M fun e M =>
    some (e, M)).map fun q => (prune [5, 6, 8, 11, 13, 14] q.1, q.2)
noncomputable def f4_r23 (call : CallF) : Env → Mem → Option (Env × Mem) := fun e M =>
    (nx (oMv (eget e 13)) (some 81) e M fun e M =>
    nx (oMv (eget e 5)) (some 82) e M fun e M =>
    nx (aCall cx.P.cellsOf cx.rw call false M.length 15 [(eget e 81), (eget e 82)] M) (some 83) e M fun e M =>
    nx (keep (aUn .not (eget e 83))) (some 84) e M fun e M =>
    nx (oMv (eget e 84)) (some 85) e M fun e M =>
    nx (aGuard (some ((eget e 85), false)) (oMv (eget e 14))) (some 86) e M fun e M =>
    nx (aGuard (some ((eget e 85), false)) (oMv (eget e 6))) (some 87) e M fun e M =>
    nx (aGuard (some ((eget e 85), false)) (oBin cx.P .neq 2 (eget e 86) (eget e 87) M)) (some 88) e M fun e M =>
    nx (keep (aPick (eget e 85) (.bool true) (eget e 88))) (some 89) e M fun e M =>
    some (e, M)).map fun q => (prune [8, 11, 89] q.1, q.2)
noncomputable def f4_r24 (call : CallF) : Env → Mem → Option (Env × Mem) := fun e M =>
    (nx (oMv (.bool false)) (some 4) e M fun e M =>
    some (e, M)).map fun q => (prune [4] q.1, q.2)
noncomputable def f4_r25 (call : CallF) : Env → Mem → Option (Env × Mem) := fun e M =>
    (nx (oMv (.int .i64 1)) (some 12) e M fun e M =>
    some (e, M)).map fun q => (prune [8, 11, 12] q.1, q.2)
noncomputable def f4_r26 (call : CallF) : Env → Mem → Option (Env × Mem) := fun e M =>
    (nx (oMv (eget e 8)) (some 90) e M fun e M =>
    nx (oMv (eget e 12)) (some 91) e M fun e M =>
    nx (aCall cx.P.cellsOf cx.rw call false M.length 17 [(eget e 90), (eget e 91)] M) (some 92) e M fun e M =>
    nx (oMv (eget e 92)) (some 12) e M fun e M =>
    some (e, M)).map fun q => (prune [11, 12] q.1, q.2)
noncomputable def f4_r27 (call : CallF) : Env → Mem → Option (Env × Mem) := fun e M =>
    (nx (oMv (eget e 12)) (some 93) e M fun e M =>
    nx (oBin cx.P .lss 3 (eget e 93) (.int .i64 0) M) (some 94) e M fun e M =>
    some (e, M)).map fun q => (prune [11, 12, 94] q.1, q.2)
noncomputable def f4_r28 (call : CallF) : Env → Mem → Option (Env × Mem) := fun e M =>
    (nx (oMv (.bool false)) (some 4) e M fun e M =>
    some (e, M)).map fun q => (prune [4] q.1, q.2)
noncomputable def f4_r29 (call : CallF) : Env → Mem → Option (Env × Mem) := fun e M =>
    (nx (oMv (eget e 12)) (some 95) e M fun e M =>
    nx (oMv (eget e 11)) (some 96) e M fun e M =>
    nx (oBin cx.P .neq 3 (eget e 95) (eget e 96) M) (some 97) e M fun e M =>
    some (e, M)).map fun q => (prune [97] q.1, q.2)
noncomputable def f4_r30 (call : CallF) : Env → Mem → Option (Env × Mem) := fun e M =>
    (nx (oMv (.bool false)) (some 4) e M fun e M =>
    some (e, M)).map fun q => (prune [4] q.1, q.2)
noncomputable def f4_r31 (call : CallF) : Env → Mem → Option (Env × Mem) := fun e M =>
    (nx (oMv (.bool true)) (some 4) e M fun e M =>
    some (e, M)).map fun q => (prune [4] q.1, q.2)
noncomputable def f4 (call : CallF) (k : Nat) : St :=
  (bSeq (bReg (f4_r0 call))
  (bSeq (bSeq (bReg (f4_r1 call))
  (bCond (.tmp 17)
   (bSeq (bReg (f4_r2 call))
   (bEx .ret))
   (bEx .nrm)))
  (bSeq (bReg (f4_r3 call))
  (bSeq (bReg (f4_r4 call))
  (bSeq (bReg (f4_r5 call))
  (bSeq (bSeq (bReg (f4_r6 call))
  (bCond (.tmp 41)
   (bSeq (bReg (f4_r7 call))
   (bEx .ret))
   (bEx .nrm)))
  (bSeq (bSeq (bReg (f4_r8 call))
  (bCond (.tmp 46)
   (bSeq (bReg (f4_r9 call))
   (bEx .ret))
   (bEx .nrm)))
  (bSeq (bReg (f4_r10 call))
  (bSeq (bReg (f4_r11 call))
  (bSeq (bSeq (bReg (f4_r12 call))
  (bCond (.tmp 62)
   (bSeq (bReg (f4_r13 call))
   (bEx .ret))
   (bEx .nrm)))
  (bSeq (bReg (f4_r14 call))
  (bSeq (bReg (f4_r15 call))
  (bSeq (bReg (f4_r16 call))
  (bSeq (bReg (f4_r17 call))
  (bSeq (bSeq (bReg (f4_r18 call))
  (bCond (.tmp 70)
   (bSeq (bReg (f4_r19 call))
   (bEx .ret))
   (bEx .nrm)))
  (bSeq (bSeq (bReg (f4_r20 call))
  (bCond (.tmp 73)
   (bSeq (bReg (f4_r21 call))
   (bEx .ret))
   (bEx .nrm)))
  (bSeq (bReg (f4_r22 call))
  (bSeq (bSeq (bReg (f4_r23 call))
  (bCond (.tmp 89)
   (bSeq (bReg (f4_r24 call))
   (bEx .ret))
   (bEx .nrm)))
  (bSeq (bReg (f4_r25 call))
  (bSeq (bReg (f4_r26 call))
  (bSeq (bSeq (bReg (f4_r27 call))
  (bCond (.tmp 94)
   (bSeq (bReg (f4_r28 call))
   (bEx .ret))
   (bEx .nrm)))
  (bSeq (bSeq (bReg (f4_r29 call))
  (bCond (.tmp 97)
   (bSeq (bReg (f4_r30 call))
   (bEx .ret))
   (bEx .nrm)))
  (bSeq (bReg (f4_r31 call))
  (bEx .ret))))))))))))))))))))))))
theorem f4_eq (call : CallF) (k : Nat) : exec cx call 98 f4_an k (Try.f4.body.getD .skip) = f4 call k := by kernel_rfl
/-! ### f12: loop.example/g01263/spec.ShareOut -/
def f12_an : Ann := ⟨[(0, ⟨[], [], [], [], [0, 1]⟩), (1, ⟨[], [], [], [], [0, 1, 6]⟩), (2, ⟨[], [], [], [], [0, 1, 6, 7]⟩), (3, ⟨[], [], [], [], [0, 1, 6, 7, 8]⟩), (4, ⟨[], [], [], [], [0, 1, 6, 7, 8, 28]⟩), (5, ⟨[], [], [], [], [0, 1, 6, 7, 8]⟩), (6, ⟨[], [], [], [], [0, 1, 6, 7, 8]⟩), (7, ⟨[], [], [], [], [0, 1, 6, 7, 8]⟩), (8, ⟨[], [], [], [], [0, 1, 7, 47]⟩), (9, ⟨[0], [], [], [], [4, 5]⟩), (10, ⟨[0], [], [], [], [0, 1, 7, 9]⟩), (11, ⟨[0], [], [], [], [0, 1, 7, 9, 10]⟩), (12, ⟨[], [], [], [], [0, 1, 7, 9, 10, 11]⟩), (13, ⟨[], [], [], [], [0, 1, 7, 9, 10, 11, 12]⟩), (14, ⟨[], [], [], [], [0, 1, 7, 9, 10, 11, 12, 55]⟩), (15, ⟨[], [], [], [], [0, 1, 7, 9, 10, 11, 12]⟩), (16, ⟨[10], [], [], [], [0, 1, 7, 9, 10, 11, 12]⟩), (17, ⟨[10], [], [], [], [0, 1, 7, 9, 10, 11, 12]⟩), (18, ⟨[], [], [], [], [0, 1, 7, 9, 10, 11, 12]⟩), (19, ⟨[], [], [], [], [9, 10, 11, 87]⟩), (20, ⟨[], [], [], [], [9, 10, 11, 13]⟩), (21, ⟨[], [], [], [], [9, 10, 11, 13, 14]⟩), (22, ⟨[], [], [], [], [9, 10, 11, 13, 14, 91]⟩), (23, ⟨[], [], [], [], [9, 10, 11, 13, 14]⟩), (24, ⟨[], [], [], [], [9, 10, 11, 13, 14, 102]⟩), (25, ⟨[], [], [], [], [9, 10, 11, 13, 14]⟩), (26, ⟨[], [], [], [], [9, 10, 11, 13]⟩), (27, ⟨[], [], [], [], [9, 10, 11]⟩), (28, ⟨[], [], [], [], [9, 10, 11]⟩), (29, ⟨[], [], [], [], [4, 5]⟩)], [(4, [0, 1, 6, 7, 8]), (14, [0, 1, 7, 9, 10, 11, 12]), (22, [9, 10, 11, 13, 14]), (19, [9, 10, 11])]⟩
noncomputable def f12_r0 (call : CallF) : Env → Mem → Option (Env × Mem) := fun e M =>
    (nx (oMv .nils) (some 4) e M fun e M =>
    nx (oMv (.int .i64 0)) (some 5) e M fun e M =>
    some (e, M)).map fun q => (prune [0, 1] q.1, q.2)
noncomputable def f12_r1 (call : CallF) : Env → Mem → Option (Env × Mem) := fun e M =>
    (nx (oMv (eget e 0)) (some 15) e M fun e M =>
    nx (aCall cx.P.cellsOf cx.rw call false M.length 36 [(eget e 15)] M) (some 16) e M fun e M =>
    nx (oMv (eget e 16)) (some 17) e M fun e M =>
    nx (aGuard (some ((eget e 17), true)) (oMv (eget e 1))) (some 18) e M fun e M =>
    nx (aGuard (some ((eget e 17), true)) (oLen cx.P 29 (eget e 18) M)) (some 19) e M fun e M =>
    nx (aGuard (some ((eget e 17), true)) (aCall cx.P.cellsOf cx.rw call false M.length 37 [(eget e 19), (.int .i64 1), (.int .i64 20)] M)) (some 20) e M fun e M =>
    nx (keep (aPick (eget e 17) (eget e 20) (.bool false))) (some 21) e M fun e M =>
    nx (oMv (eget e 21)) (some 6) e M fun e M =>
    some (e, M)).map fun q => (prune [0, 1, 6] q.1, q.2)
noncomputable def f12_r2 (call : CallF) : Env → Mem → Option (Env × Mem) := fun e M =>
    (nx (oMv (.int .i64 0)) (some 7) e M fun e M =>
    some (e, M)).map fun q => (prune [0, 1, 6, 7] q.1, q.2)
noncomputable def f12_r3 (call : CallF) : Env → Mem → Option (Env × Mem) := fun e M =>
    (nx (oMv (.int .i64 0)) (some 8) e M fun e M =>
    some (e, M)).map fun q => (prune [0, 1, 6, 7, 8] q.1, q.2)
noncomputable def f12_r4 (call : CallF) : Env → Mem → Option (Env × Mem) := fun e M =>
    (nx (oMv (eget e 8)) (some 22) e M fun e M =>
    nx (oMv (eget e 1)) (some 23) e M fun e M =>
    nx (oLen cx.P 29 (eget e 23) M) (some 24) e M fun e M =>
    nx (oBin cx.P .lss 3 (eget e 22) (eget e 24) M) (some 25) e M fun e M =>
    nx (oMv (eget e 25)) (some 26) e M fun e M =>
    nx (aGuard (some ((eget e 26), true)) (oMv (eget e 6))) (some 27) e M fun e M =>
    nx (keep (aPick (eget e 26) (eget e 27) (.bool false))) (some 28) e M fun e M =>
    some (e, M)).map fun q => (prune [0, 1, 6, 7, 8, 28] q.1, q.2)
noncomputable def f12_r5 (call : CallF) : Env → Mem → Option (Env × Mem) := fun e M =>
    (nx (oMv (eget e 8)) (some 29) e M fun e M =>
    nx (oBin cx.P .add 3 (eget e 29) (.int .i64 1) M) (some 30) e M fun e M =>
    nx (oMv (eget e 30)) (some 8) e M fun e M =>
    some (e, M)).map fun q => (prune [0, 1, 6, 7, 8] q.1, q.2)
noncomputable def f12_r6 (call : CallF) : Env → Mem → Option (Env × Mem) := fun e M =>
    (nx (oMv (eget e 1)) (some 31) e M fun e M =>
    nx (oMv (eget e 8)) (some 32) e M fun e M =>
    nx (keep (aIndexS 1 (eget e 31) (eget e 32) M)) (some 33) e M fun e M =>
    nx (keep (aLoad false 1 (eget e 33) M)) (some 34) e M fun e M =>
    nx (aCall cx.P.cellsOf cx.rw call false M.length 37 [(eget e 34), (.int .i64 0), (.int .i64 1000000)] M) (some 35) e M fun e M =>
    nx (oMv (eget e 35)) (some 6) e M fun e M =>
    some (e, M)).map fun q => (prune [0, 1, 6, 7, 8] q.1, q.2)
noncomputable def f12_r7 (call : CallF) : Env → Mem → Option (Env × Mem) := fun e M =>
    (nx (oMv (eget e 7)) (some 36) e M fun e M =>
    nx (oMv (eget e 1)) (some 37) e M fun e M =>
    nx (oMv (eget e 8)) (some 38) e M fun e M =>
    nx (keep (aIndexS 1 (eget e 37) (eget e 38) M)) (some 39) e M fun e M =>
    nx (keep (aLoad false 1 (eget e 39) M)) (some 40) e M fun e M =>
    nx (oBin cx.P .add 2 (eget e 36) (eget e 40) M) (some 41) e M fun e M =>
    nx (oMv (eget e 41)) (some 7) e M fun e M =>
    some (e, M)).map fun q => (prune [0, 1, 6, 7, 8] q.1, q.2)
noncomputable def f12_r8 (call : CallF) : Env → Mem → Option (Env × Mem) := fun e M =>
    (nx (oMv (eget e 6)) (some 42) e M fun e M =>
    nx (keep (aUn .not (eget e 42))) (some 43) e M fun e M =>
    nx (oMv (eget e 43)) (some 44) e M fun e M =>
    nx (aGuard (some ((eget e 44), false)) (oMv (eget e 7))) (some 45) e M fun e M =>
    nx (aGuard (some ((eget e 44), false)) (oBin cx.P .eql 2 (eget e 45) (.int .i64 0) M)) (some 46) e M fun e M =>
    nx (keep (aPick (eget e 44) (.bool true) (eget e 46))) (some 47) e M fun e M =>
    some (e, M)).map fun q => (prune [0, 1, 7, 47] q.1, q.2)
noncomputable def f12_r9 (call : CallF) : Env → Mem → Option (Env × Mem) := fun e M =>
    (nx (aLitO M.length 2 1 [] M) (some 48) e M fun e M =>
    nx (oMv (eget e 48)) (some 4) e M fun e M =>
    nx (oMv (.int .i64 2)) (some 5) e M fun e M =>
    some (e, M)).map fun q => (prune [4, 5] q.1, q.2)
noncomputable def f12_r10 (call : CallF) : Env → Mem → Option (Env × Mem) := fun e M =>
    (nx (aLitO M.length 2 1 [] M) (some 49) e M fun e M =>
    nx (oMv (eget e 49)) (some 9) e M fun e M =>
    some (e, M)).map fun q => (prune [0, 1, 7, 9] q.1, q.2)
noncomputable def f12_r11 (call : CallF) : Env → Mem → Option (Env × Mem) := fun e M =>
    (nx (aLitO M.length 2 1 [] M) (some 50) e M fun e M =>
    nx (oMv (eget e 50)) (some 10) e M fun e M =>
    some (e, M)).map fun q => (prune [0, 1, 7, 9, 10] q.1, q.2)
noncomputable def f12_r12 (call : CallF) : Env → Mem → Option (Env × Mem) := fun e M =>
    (nx (oMv (eget e 0)) (some 51) e M fun e M =>
    nx (oMv (eget e 51)) (some 11) e M fun e M =>
    some (e, M)).map fun q => (prune [0, 1, 7, 9, 10, 11] q.1, q.2)
noncomputable def f12_r13 (call : CallF) : Env → Mem → Option (Env × Mem) := fun e M =>
    (nx (oMv (.int .i64 0)) (some 12) e M fun e M =>
    some (e, M)).map fun q => (prune [0, 1, 7, 9, 10, 11, 12] q.1, q.2)
noncomputable def f12_r14 (call : CallF) : Env → Mem → Option (Env × Mem) := fun e M =>
    (nx (oMv (eget e 12)) (some 52) e M fun e M =>
    nx (oMv (eget e 1)) (some 53) e M fun e M =>
    nx (oLen cx.P 29 (eget e 53) M) (some 54) e M fun e M =>
    nx (oBin cx.P .lss 3 (eget e 52) (eget e 54) M) (some 55) e M fun e M =>
    some (e, M)).map fun q => (prune [0, 1, 7, 9, 10, 11, 12, 55] q.1, q.2)
noncomputable def f12_r15 (call : CallF) : Env → Mem → Option (Env × Mem) := fun e M =>
    (nx (oMv (eget e 12)) (some 56) e M fun e M =>
    nx (oBin cx.P .add 3 (eget e 56) (.int .i64 1) M) (some 57) e M fun e M =>
    nx (oMv (eget e 57)) (some 12) e M fun e M =>
    some (e, M)).map fun q => (prune [0, 1, 7, 9, 10, 11, 12] q.1, q.2)
noncomputable def f12_r16 (call : CallF) : Env → Mem → Option (Env × Mem) := fun e M =>
    (nx (oMv (eget e 9)) (some 58) e M fun e M =>
    nx (oMv (eget e 0)) (some 59) e M fun e M =>
    nx (oMv (eget e 1)) (some 60) e M fun e M =>
    nx (oMv (eget e 12)) (some 61) e M fun e M =>
    nx (keep (aIndexS 1 (eget e 60) (eget e 61) M)) (some 62) e M fun e M =>
    nx (keep (aLoad false 1 (eget e 62) M)) (some 63) e M fun e M =>
    nx (oBin cx.P .mul 2 (eget e 59) (eget e 63) M) (some 64) e M fun e M =>
    nx (oMv (eget e 7)) (some 65) e M fun e M =>
    nx (oBin cx.P .quo 2 (eget e 64) (eget e 65) M) (some 66) e M fun e M =>
    nx (keep (aLitI 2 1 [(eget e 66)] M)) (some 67) e M fun e M =>
    nx (aAppO M.length 2 1 8 (eget e 58) (eget e 67) M) (some 68) e M fun e M =>
    nx (oMv (eget e 68)) (some 9) e M fun e M =>
    some (e, M)).map fun q => (prune [0, 1, 7, 9, 10, 11, 12] q.1, q.2)
noncomputable def f12_r17 (call : CallF) : Env → Mem → Option (Env × Mem) := fun e M =>
    (nx (oMv (eget e 10)) (some 69) e M fun e M =>
    nx (oMv (eget e 0)) (some 70) e M fun e M =>
    nx (oMv (eget e 1)) (some 71) e M fun e M =>
    nx (oMv (eget e 12)) (some 72) e M fun e M =>
    nx (keep (aIndexS 1 (eget e 71) (eget e 72) M)) (some 73) e M fun e M =>
    nx (keep (aLoad false 1 (eget e 73) M)) (some 74) e M fun e M =>
    nx (oBin cx.P .mul 2 (eget e 70) (eget e 74) M) (some 75) e M fun e M =>
    nx (oMv (eget e 7)) (some 76) e M fun e M =>
    nx (oBin cx.P .rem 2 (eget e 75) (eget e 76) M) (some 77) e M fun e M =>
    nx (keep (aLitI 2 1 [(eget e 77)] M)) (some 78) e M fun e M =>
    nx (aAppO M.length 2 1 8 (eget e 69) (eget e 78) M) (some 79) e M fun e M =>
    nx (oMv (eget e 79)) (some 10) e M fun e M =>
    some (e, M)).map fun q => (prune [0, 1, 7, 9, 10, 11, 12] q.1, q.2)
noncomputable def f12_r18 (call : CallF) : Env → Mem → Option (Env × Mem) := fun e M =>
    (nx (oMv (eget e 11)) (some 80) e M fun e M =>
    nx (oMv (eget e 9)) (some 81) e M fun e M =>
    nx (oMv (eget e 12)) (some 82) e M fun e M =>
    nx (keep (aIndexS 1 (eget e 81) (eget e 82) M)) (some 83) e M fun e M =>
    nx (keep (aLoad false 1 (eget e 83) M)) (some 84) e M fun e M =>
    nx (oBin cx.P .sub 2 (eget e 80) (eget e 84) M) (some 85) e M fun e M =>
    nx (oMv (eget e 85)) (some 11) e M fun e M =>
    some (e, M)).map fun q => (prune [0, 1, 7, 9, 10, 11, 12] q.1, q.2)
noncomputable def f12_r19 (call : CallF) : Env → Mem → Option (Env × Mem) := fun e M =>
    (nx (oMv (eget e 11)) (some 86) e M fun e M =>
    nx (oBin cx.P .gtr 2 (eget e 86) (.int .i64 0) M) (some 87) e M fun e M =>
    some (e, M)).map fun q => (prune [9, 10, 11, 87] q.1, q.2)
noncomputable def f12_r20 (call : CallF) : Env → Mem → Option (Env × Mem) := fun e M =>
    (nx (oMv (.int .i64 0)) (some 13) e M fun e M =>
    some (e, M)).map fun q => (prune [9, 10, 11, 13] q.1, q.2)
noncomputable def f12_r21 (call : CallF) : Env → Mem → Option (Env × Mem) := fun e M =>
    (nx (oMv (.int .i64 1)) (some 14) e M fun e M =>
    some (e, M)).map fun q => (prune [9, 10, 11, 13, 14] q.1, q.2)
noncomputable def f12_r22 (call : CallF) : Env → Mem → Option (Env × Mem) := fun e M =>
    (nx (oMv (eget e 14)) (some 88) e M fun e M =>
    nx (oMv (eget e 10)) (some 89) e M fun e M =>
    nx (oLen cx.P 29 (eget e 89) M) (some 90) e M fun e M =>
    nx (oBin cx.P .lss 3 (eget e 88) (eget e 90) M) (some 91) e M fun e M =>
    some (e, M)).map fun q => (prune [9, 10, 11, 13, 14, 91] q.1, q.2)
noncomputable def f12_r23 (call : CallF) : Env → Mem → Option (Env × Mem) := fun e M =>
    (nx (oMv (eget e 14)) (some 92) e M fun e M =>
    nx (oBin cx.P .add 3 (eget e 92) (.int .i64 1) M) (some 93) e M fun e M =>
    nx (oMv (eget e 93)) (some 14) e M fun e M =>
    some (e, M)).map fun q => (prune [9, 10, 11, 13, 14] q.1, q.2)
noncomputable def f12_r24 (call : CallF) : Env → Mem → Option (Env × Mem) := fun e M =>
    rD [9, 10, 11, 13, 14, 102] (fun (C : List Ob) =>
    nf (oMv (eget e 10)) (some 94) false e C fun e C =>
    nf (oMv (eget e 14)) (some 95) false e C fun e C =>
    nf (keep (aIndexS 1 (eget e 94) (eget e 95) M)) (some 96) false e C fun e C =>
    nf (keep (aLoad false 1 (eget e 96) M)) (some 97) false e C fun e C =>
    nf (oMv (eget e 10)) (some 98) false e C fun e C =>
    nf (oMv (eget e 13)) (some 99) false e C fun e C =>
    nf (keep (aIndexS 1 (eget e 98) (eget e 99) M)) (some 100) false e C fun e C =>
    nf (keep (aLoad false 1 (eget e 100) M)) (some 101) false e C fun e C =>
    nf (oBin cx.P .gtr 2 (eget e 97) (eget e 101) M) (some 102) false e C fun e C =>
    some (e, C)) (fun (e : Env) (M : Mem) =>
    some (e, M)) M
noncomputable def f12_r25 (call : CallF) : Env → Mem → Option (Env × Mem) := fun e M =>
    (nx (oMv (eget e 14)) (some 103) e M fun e M =>
    nx (oMv (eget e 103)) (some 13) e M fun e M =>
    some (e, M)).map fun q => (prune [9, 10, 11, 13, 14] q.1, q.2)
noncomputable def f12_r26 (call : CallF) : Env → Mem → Option (Env × Mem) := fun e M =>
    (nx (oMv (eget e 9)) (some 104) e M fun e M =>
    nx (oMv (eget e 13)) (some 105) e M fun e M =>
    nx (keep (aIndexS 1 (eget e 104) (eget e 105) M)) (some 106) e M fun e M =>
    nx (keep (aLoad false 1 (eget e 106) M)) (some 107) e M fun e M =>
    nx (oBin cx.P .add 2 (eget e 107) (.int .i64 1) M) (some 108) e M fun e M =>
    nx (keep (aIndexS 1 (eget e 104) (eget e 105) M)) (some 109) e M fun e M =>
    nx (oStore 1 (eget e 109) (eget e 108) M) none e M fun e M =>
    some (e, M)).map fun q => (prune [9, 10, 11, 13] q.1, q.2)
noncomputable def f12_r27 (call : CallF) : Env → Mem → Option (Env × Mem) := fun e M =>
    (nx (oMv (eget e 10)) (some 110) e M fun e M =>
    nx (oMv (eget e 13)) (some 111) e M fun e M =>
    nx (keep (aIndexS 1 (eget e 110) (eget e 111) M)) (some 112) e M fun e M =>
    nx (oStore 1 (eget e 112) (.int .i64 (-1)) M) none e M fun e M =>
    some (e, M)).map fun q => (prune [9, 10, 11] q.1, q.2)
noncomputable def f12_r28 (call : CallF) : Env → Mem → Option (Env × Mem) := fun e M =>
    (nx (oMv (eget e 11)) (some 113) e M fun e M =>
    nx (oBin cx.P .sub 2 (eget e 113) (.int .i64 1) M) (some 114) e M fun e M =>
    nx (oMv (eget e 114)) (some 11) e M fun e M =>
    some (e, M)).map fun q => (prune [9, 10, 11] q.1, q.2)
noncomputable def f12_r29 (call : CallF) : Env → Mem → Option (Env × Mem) := fun e M =>
    (nx (oMv (eget e 9)) (some 115) e M fun e M =>
    nx (oMv (eget e 115)) (some 4) e M fun e M =>
    nx (oMv (.int .i64 0)) (some 5) e M fun e M =>
    some (e, M)).map fun q => (prune [4, 5] q.1, q.2)
noncomputable def f12_l4 (call : CallF) (k : Nat) : St :=
  (bSeq (bSeq (bReg (f12_r4 call))
  (bCond (.tmp 28)
   (bEx .nrm)
   (bEx (.ext 0))))
  (bSeq (bBlock 1 (bSeq (bReg (f12_r6 call))
   (bReg (f12_r7 call))))
  (bReg (f12_r5 call))))
noncomputable def f12_l14 (call : CallF) (k : Nat) : St :=
  (bSeq (bSeq (bReg (f12_r14 call))
  (bCond (.tmp 55)
   (bEx .nrm)
   (bEx (.ext 2))))
  (bSeq (bBlock 3 (bSeq (bReg (f12_r16 call))
   (bSeq (bReg (f12_r17 call))
   (bReg (f12_r18 call)))))
  (bReg (f12_r15 call))))
noncomputable def f12_l22 (call : CallF) (k : Nat) : St :=
  (bSeq (bSeq (bReg (f12_r22 call))
  (bCond (.tmp 91)
   (bEx .nrm)
   (bEx (.ext 6))))
  (bSeq (bBlock 7 (bSeq (bReg (f12_r24 call))
   (bCond (.tmp 102)
    (bReg (f12_r25 call))
    (bEx .nrm))))
  (bReg (f12_r23 call))))
noncomputable def f12_l19 (call : CallF) (k : Nat) : St :=
  (bSeq (bSeq (bReg (f12_r19 call))
  (bCond (.tmp 87)
   (bEx .nrm)
   (bEx (.ext 4))))
  (bBlock 5 (bSeq (bReg (f12_r20 call))
   (bSeq (bSeq (bReg (f12_r21 call))
   (bBlock 6 (bLoop [9, 10, 11, 13, 14] (f12_l22 call k) k)))
   (bSeq (bReg (f12_r26 call))
   (bSeq (bReg (f12_r27 call))
   (bReg (f12_r28 call))))))))
noncomputable def f12 (call : CallF) (k : Nat) : St :=
  (bSeq (bReg (f12_r0 call))
  (bSeq (bReg (f12_r1 call))
  (bSeq (bReg (f12_r2 call))
  (bSeq (bSeq (bReg (f12_r3 call))
  (bBlock 0 (bLoop [0, 1, 6, 7, 8] (f12_l4 call k) k)))
  (bSeq (bSeq (bReg (f12_r8 call))
  (bCond (.tmp 47)
   (bSeq (bReg (f12_r9 call))
   (bEx .ret))
   (bEx .nrm)))
  (bSeq (bReg (f12_r10 call))
  (bSeq (bReg (f12_r11 call))
  (bSeq (bReg (f12_r12 call))
  (bSeq (bSeq (bReg (f12_r13 call))
  (bBlock 2 (bLoop [0, 1, 7, 9, 10, 11, 12] (f12_l14 call k) k)))
  (bSeq (bBlock 4 (bLoop [9, 10, 11] (f12_l19 call k) k))
  (bSeq (bReg (f12_r29 call))
  (bEx .ret))))))))))))
theorem f12_eq (call : CallF) (k : Nat) : exec cx call 116 f12_an k (Try.f12.body.getD .skip) = f12 call k := by kernel_rfl
/-! ### f13: loop.example/g01263/laws.toInt64S -/
def f13_an : Ann := ⟨[(0, ⟨[], [], [], [], [0]⟩), (1, ⟨[], [], [], [], [0, 3]⟩), (2, ⟨[], [], [], [], [0, 3, 4]⟩), (3, ⟨[], [], [], [], [0, 3, 4, 11]⟩), (4, ⟨[], [], [], [], [0, 3, 4]⟩), (5, ⟨[], [], [], [], [0, 3, 4]⟩), (6, ⟨[], [], [], [], [2]⟩)], [(3, [0, 3, 4])]⟩
noncomputable def f13_r0 (call : CallF) : Env → Mem → Option (Env × Mem) := fun e M =>
    (nx (oMv .nils) (some 2) e M fun e M =>
    some (e, M)).map fun q => (prune [0] q.1, q.2)
noncomputable def f13_r1 (call : CallF) : Env → Mem → Option (Env × Mem) := fun e M =>
    (nx (oMv (eget e 0)) (some 5) e M fun e M =>
    nx (oLen cx.P 29 (eget e 5) M) (some 6) e M fun e M =>
    nx (aMakeO M.length 2 1 8 (zeroOf cx.P 2) (eget e 6) (eget e 6)) (some 7) e M fun e M =>
    nx (oMv (eget e 7)) (some 3) e M fun e M =>
    some (e, M)).map fun q => (prune [0, 3] q.1, q.2)
noncomputable def f13_r2 (call : CallF) : Env → Mem → Option (Env × Mem) := fun e M =>
    (nx (oMv (.int .i64 0)) (some 4) e M fun e M =>
    some (e, M)).map fun q => (prune [0, 3, 4] q.1, q.2)
noncomputable def f13_r3 (call : CallF) : Env → Mem → Option (Env × Mem) := fun e M =>
    (nx (oMv (eget e 4)) (some 8) e M fun e M =>
    nx (oMv (eget e 0)) (some 9) e M fun e M =>
    nx (oLen cx.P 29 (eget e 9) M) (some 10) e M fun e M =>
    nx (oBin cx.P .lss 3 (eget e 8) (eget e 10) M) (some 11) e M fun e M =>
    some (e, M)).map fun q => (prune [0, 3, 4, 11] q.1, q.2)
noncomputable def f13_r4 (call : CallF) : Env → Mem → Option (Env × Mem) := fun e M =>
    (nx (oMv (eget e 4)) (some 12) e M fun e M =>
    nx (oBin cx.P .add 3 (eget e 12) (.int .i64 1) M) (some 13) e M fun e M =>
    nx (oMv (eget e 13)) (some 4) e M fun e M =>
    some (e, M)).map fun q => (prune [0, 3, 4] q.1, q.2)
noncomputable def f13_r5 (call : CallF) : Env → Mem → Option (Env × Mem) := fun e M =>
    (nx (oMv (eget e 3)) (some 14) e M fun e M =>
    nx (oMv (eget e 4)) (some 15) e M fun e M =>
    nx (oMv (eget e 0)) (some 16) e M fun e M =>
    nx (oMv (eget e 4)) (some 17) e M fun e M =>
    nx (keep (aIndexS 1 (eget e 16) (eget e 17) M)) (some 18) e M fun e M =>
    nx (keep (aLoad false 1 (eget e 18) M)) (some 19) e M fun e M =>
    nx (keep (aIndexS 1 (eget e 14) (eget e 15) M)) (some 20) e M fun e M =>
    nx (oStore 1 (eget e 20) (eget e 19) M) none e M fun e M =>
    some (e, M)).map fun q => (prune [0, 3, 4] q.1, q.2)
noncomputable def f13_r6 (call : CallF) : Env → Mem → Option (Env × Mem) := fun e M =>
    (nx (oMv (eget e 3)) (some 21) e M fun e M =>
    nx (oMv (eget e 21)) (some 2) e M fun e M =>
    some (e, M)).map fun q => (prune [2] q.1, q.2)
noncomputable def f13_l3 (call : CallF) (k : Nat) : St :=
  (bSeq (bSeq (bReg (f13_r3 call))
  (bCond (.tmp 11)
   (bEx .nrm)
   (bEx (.ext 0))))
  (bSeq (bBlock 1 (bReg (f13_r5 call)))
  (bReg (f13_r4 call))))
noncomputable def f13 (call : CallF) (k : Nat) : St :=
  (bSeq (bReg (f13_r0 call))
  (bSeq (bReg (f13_r1 call))
  (bSeq (bSeq (bReg (f13_r2 call))
  (bBlock 0 (bLoop [0, 3, 4] (f13_l3 call k) k)))
  (bSeq (bReg (f13_r6 call))
  (bEx .ret)))))
theorem f13_eq (call : CallF) (k : Nat) : exec cx call 22 f13_an k (Try.f13.body.getD .skip) = f13 call k := by kernel_rfl
/-! ### f14: loop.example/g01263/impl.ShareOut -/
def f14_an : Ann := ⟨[(0, ⟨[], [], [], [], [0, 1]⟩), (1, ⟨[], [], [], [], [0, 1, 29]⟩), (2, ⟨[], [], [], [], [4, 5]⟩), (3, ⟨[], [], [], [], [0, 1, 6]⟩), (4, ⟨[], [], [], [], [0, 1, 6, 30, 31, 32]⟩), (5, ⟨[], [], [], [], [0, 1, 6, 30, 31, 32, 33]⟩), (6, ⟨[], [], [], [], [0, 1, 6, 8, 30, 31, 32]⟩), (7, ⟨[], [], [], [], [0, 1, 6, 8, 30, 31, 32, 41]⟩), (8, ⟨[], [], [], [], [4, 5]⟩), (9, ⟨[], [], [], [], [0, 1, 6, 30, 31, 32]⟩), (10, ⟨[], [], [], [], [0, 1, 6, 30, 31, 32]⟩), (11, ⟨[], [], [], [], [0, 1, 6, 47]⟩), (12, ⟨[], [], [], [], [4, 5]⟩), (13, ⟨[0, 1], [], [], [], [0, 1, 6, 9, 10, 11]⟩), (14, ⟨[], [], [], [], [0, 6, 9, 10, 11, 51, 52, 53]⟩), (15, ⟨[], [], [], [], [0, 6, 9, 10, 11, 51, 52, 53, 54]⟩), (16, ⟨[], [], [], [], [0, 6, 9, 10, 11, 13, 51, 52, 53]⟩), (17, ⟨[7], [], [], [], [0, 6, 9, 10, 11, 13, 51, 52, 53]⟩), (18, ⟨[7], [], [], [], [0, 6, 9, 10, 11, 13, 51, 52, 53]⟩), (19, ⟨[], [], [], [], [0, 6, 9, 10, 11, 51, 52, 53]⟩), (20, ⟨[], [], [], [], [0, 6, 9, 10, 11, 51, 52, 53]⟩), (21, ⟨[], [], [], [], [9, 10, 81, 82]⟩), (22, ⟨[], [], [], [], [9, 10, 81, 82, 83]⟩), (23, ⟨[], [], [], [], [9, 10, 14, 81, 82]⟩), (24, ⟨[], [], [], [], [9, 10, 14, 81, 82, 84, 85, 86]⟩), (25, ⟨[], [], [], [], [9, 10, 14, 81, 82, 84, 85, 86, 87]⟩), (26, ⟨[], [], [], [], [9, 10, 14, 15, 16, 81, 82, 84, 85, 86]⟩), (27, ⟨[], [], [], [], [9, 10, 14, 15, 81, 82, 84, 85, 86, 96]⟩), (28, ⟨[], [], [], [], [9, 10, 14, 81, 82, 84, 85, 86]⟩), (29, ⟨[], [], [], [], [9, 10, 14, 81, 82, 84, 85, 86]⟩), (30, ⟨[], [], [], [], [9, 10, 14, 81, 82]⟩), (31, ⟨[], [], [], [], [9, 10, 81, 82]⟩), (32, ⟨[], [], [], [], [9, 10, 81, 82]⟩), (33, ⟨[], [], [], [], [4, 5]⟩)], [(5, [0, 1, 6, 30, 31, 32]), (15, [0, 6, 9, 10, 11, 51, 52, 53]), (25, [9, 10, 14, 81, 82, 84, 85, 86]), (22, [9, 10, 81, 82])]⟩
noncomputable def f14_r0 (call : CallF) : Env → Mem → Option (Env × Mem) := fun e M =>
    (nx (oMv .nils) (some 4) e M fun e M =>
    nx (oMv (.int .i64 0)) (some 5) e M fun e M =>
    some (e, M)).map fun q => (prune [0, 1] q.1, q.2)
noncomputable def f14_r1 (call : CallF) : Env → Mem → Option (Env × Mem) := fun e M =>
    (nx (oMv (eget e 0)) (some 17) e M fun e M =>
    nx (aCall cx.P.cellsOf cx.rw call false M.length 38 [(eget e 17)] M) (some 18) e M fun e M =>
    nx (keep (aUn .not (eget e 18))) (some 19) e M fun e M =>
    nx (oMv (eget e 19)) (some 20) e M fun e M =>
    nx (aGuard (some ((eget e 20), false)) (oMv (eget e 1))) (some 21) e M fun e M =>
    nx (aGuard (some ((eget e 20), false)) (oLen cx.P 29 (eget e 21) M)) (some 22) e M fun e M =>
    nx (aGuard (some ((eget e 20), false)) (oBin cx.P .lss 3 (eget e 22) (.int .i64 1) M)) (some 23) e M fun e M =>
    nx (keep (aPick (eget e 20) (.bool true) (eget e 23))) (some 24) e M fun e M =>
    nx (oMv (eget e 24)) (some 25) e M fun e M =>
    nx (aGuard (some ((eget e 25), false)) (oMv (eget e 1))) (some 26) e M fun e M =>
    nx (aGuard (some ((eget e 25), false)) (oLen cx.P 29 (eget e 26) M)) (some 27) e M fun e M =>
    nx (aGuard (some ((eget e 25), false)) (oBin cx.P .gtr 3 (eget e 27) (.int .i64 20) M)) (some 28) e M fun e M =>
    nx (keep (aPick (eget e 25) (.bool true) (eget e 28))) (some 29) e M fun e M =>
    some (e, M)).map fun q => (prune [0, 1, 29] q.1, q.2)
noncomputable def f14_r2 (call : CallF) : Env → Mem → Option (Env × Mem) := fun e M =>
    (nx (oMv .nils) (some 4) e M fun e M =>
    nx (oMv (.int .i64 2)) (some 5) e M fun e M =>
    some (e, M)).map fun q => (prune [4, 5] q.1, q.2)
noncomputable def f14_r3 (call : CallF) : Env → Mem → Option (Env × Mem) := fun e M =>
    (nx (oMv (.int .i64 0)) (some 6) e M fun e M =>
    some (e, M)).map fun q => (prune [0, 1, 6] q.1, q.2)
noncomputable def f14_r4 (call : CallF) : Env → Mem → Option (Env × Mem) := fun e M =>
    (nx (oMv (eget e 1)) (some 30) e M fun e M =>
    nx (oLen cx.P 29 (eget e 30) M) (some 31) e M fun e M =>
    nx (oMv (.int .i64 0)) (some 32) e M fun e M =>
    some (e, M)).map fun q => (prune [0, 1, 6, 30, 31, 32] q.1, q.2)
noncomputable def f14_r5 (call : CallF) : Env → Mem → Option (Env × Mem) := fun e M =>
    (nx (oBin cx.P .lss 3 (eget e 32) (eget e 31) M) (some 33) e M fun e M =>
    some (e, M)).map fun q => (prune [0, 1, 6, 30, 31, 32, 33] q.1, q.2)
noncomputable def f14_r6 (call : CallF) : Env → Mem → Option (Env × Mem) := fun e M =>
    (nx (keep (aIndexS 1 (eget e 30) (eget e 32) M)) (some 34) e M fun e M =>
    nx (keep (aLoad false 1 (eget e 34) M)) (some 35) e M fun e M =>
    nx (oMv (eget e 35)) (some 8) e M fun e M =>
    some (e, M)).map fun q => (prune [0, 1, 6, 8, 30, 31, 32] q.1, q.2)
noncomputable def f14_r7 (call : CallF) : Env → Mem → Option (Env × Mem) := fun e M =>
    (nx (oMv (eget e 8)) (some 36) e M fun e M =>
    nx (oBin cx.P .lss 2 (eget e 36) (.int .i64 0) M) (some 37) e M fun e M =>
    nx (oMv (eget e 37)) (some 38) e M fun e M =>
    nx (aGuard (some ((eget e 38), false)) (oMv (eget e 8))) (some 39) e M fun e M =>
    nx (aGuard (some ((eget e 38), false)) (oBin cx.P .gtr 2 (eget e 39) (.int .i64 1000000) M)) (some 40) e M fun e M =>
    nx (keep (aPick (eget e 38) (.bool true) (eget e 40))) (some 41) e M fun e M =>
    some (e, M)).map fun q => (prune [0, 1, 6, 8, 30, 31, 32, 41] q.1, q.2)
noncomputable def f14_r8 (call : CallF) : Env → Mem → Option (Env × Mem) := fun e M =>
    (nx (oMv .nils) (some 4) e M fun e M =>
    nx (oMv (.int .i64 2)) (some 5) e M fun e M =>
    some (e, M)).map fun q => (prune [4, 5] q.1, q.2)
noncomputable def f14_r9 (call : CallF) : Env → Mem → Option (Env × Mem) := fun e M =>
    (nx (oMv (eget e 6)) (some 42) e M fun e M =>
    nx (oMv (eget e 8)) (some 43) e M fun e M =>
    nx (oBin cx.P .add 2 (eget e 42) (eget e 43) M) (some 44) e M fun e M =>
    nx (oMv (eget e 44)) (some 6) e M fun e M =>
    some (e, M)).map fun q => (prune [0, 1, 6, 30, 31, 32] q.1, q.2)
noncomputable def f14_r10 (call : CallF) : Env → Mem → Option (Env × Mem) := fun e M =>
    (nx (oBin cx.P .add 3 (eget e 32) (.int .i64 1) M) (some 45) e M fun e M =>
    nx (oMv (eget e 45)) (some 32) e M fun e M =>
    some (e, M)).map fun q => (prune [0, 1, 6, 30, 31, 32] q.1, q.2)
noncomputable def f14_r11 (call : CallF) : Env → Mem → Option (Env × Mem) := fun e M =>
    (nx (oMv (eget e 6)) (some 46) e M fun e M =>
    nx (oBin cx.P .eql 2 (eget e 46) (.int .i64 0) M) (some 47) e M fun e M =>
    some (e, M)).map fun q => (prune [0, 1, 6, 47] q.1, q.2)
noncomputable def f14_r12 (call : CallF) : Env → Mem → Option (Env × Mem) := fun e M =>
    (nx (oMv .nils) (some 4) e M fun e M =>
    nx (oMv (.int .i64 2)) (some 5) e M fun e M =>
    some (e, M)).map fun q => (prune [4, 5] q.1, q.2)
noncomputable def f14_r13 (call : CallF) : Env → Mem → Option (Env × Mem) := fun e M =>
    (nx (aLitO M.length 2 1 [] M) (some 48) e M fun e M =>
    nx (aLitO M.length 2 1 [] M) (some 49) e M fun e M =>
    nx (oMv (eget e 0)) (some 50) e M fun e M =>
    nx (oMv (eget e 48)) (some 9) e M fun e M =>
    nx (oMv (eget e 49)) (some 10) e M fun e M =>
    nx (oMv (eget e 50)) (some 11) e M fun e M =>
    some (e, M)).map fun q => (prune [0, 1, 6, 9, 10, 11] q.1, q.2)
noncomputable def f14_r14 (call : CallF) : Env → Mem → Option (Env × Mem) := fun e M =>
    (nx (oMv (eget e 1)) (some 51) e M fun e M =>
    nx (oLen cx.P 29 (eget e 51) M) (some 52) e M fun e M =>
    nx (oMv (.int .i64 0)) (some 53) e M fun e M =>
    some (e, M)).map fun q => (prune [0, 6, 9, 10, 11, 51, 52, 53] q.1, q.2)
noncomputable def f14_r15 (call : CallF) : Env → Mem → Option (Env × Mem) := fun e M =>
    (nx (oBin cx.P .lss 3 (eget e 53) (eget e 52) M) (some 54) e M fun e M =>
    some (e, M)).map fun q => (prune [0, 6, 9, 10, 11, 51, 52, 53, 54] q.1, q.2)
noncomputable def f14_r16 (call : CallF) : Env → Mem → Option (Env × Mem) := fun e M =>
    (nx (keep (aIndexS 1 (eget e 51) (eget e 53) M)) (some 55) e M fun e M =>
    nx (keep (aLoad false 1 (eget e 55) M)) (some 56) e M fun e M =>
    nx (oMv (eget e 56)) (some 13) e M fun e M =>
    some (e, M)).map fun q => (prune [0, 6, 9, 10, 11, 13, 51, 52, 53] q.1, q.2)
noncomputable def f14_r17 (call : CallF) : Env → Mem → Option (Env × Mem) := fun e M =>
    (nx (oMv (eget e 9)) (some 57) e M fun e M =>
    nx (oMv (eget e 0)) (some 58) e M fun e M =>
    nx (oMv (eget e 13)) (some 59) e M fun e M =>
    nx (oBin cx.P .mul 2 (eget e 58) (eget e 59) M) (some 60) e M fun e M =>
    nx (oMv (eget e 6)) (some 61) e M fun e M =>
    nx (oBin cx.P .quo 2 (eget e 60) (eget e 61) M) (some 62) e M fun e M =>
    nx (keep (aLitI 2 1 [(eget e 62)] M)) (some 63) e M fun e M =>
    nx (aAppO M.length 2 1 8 (eget e 57) (eget e 63) M) (some 64) e M fun e M =>
    nx (oMv (eget e 64)) (some 9) e M fun e M =>
    some (e, M)).map fun q => (prune [0, 6, 9, 10, 11, 13, 51, 52, 53] q.1, q.2)
noncomputable def f14_r18 (call : CallF) : Env → Mem → Option (Env × Mem) := fun e M =>
    (nx (oMv (eget e 10)) (some 65) e M fun e M =>
    nx (oMv (eget e 0)) (some 66) e M fun e M =>
    nx (oMv (eget e 13)) (some 67) e M fun e M =>
    nx (oBin cx.P .mul 2 (eget e 66) (eget e 67) M) (some 68) e M fun e M =>
    nx (oMv (eget e 6)) (some 69) e M fun e M =>
    nx (oBin cx.P .rem 2 (eget e 68) (eget e 69) M) (some 70) e M fun e M =>
    nx (keep (aLitI 2 1 [(eget e 70)] M)) (some 71) e M fun e M =>
    nx (aAppO M.length 2 1 8 (eget e 65) (eget e 71) M) (some 72) e M fun e M =>
    nx (oMv (eget e 72)) (some 10) e M fun e M =>
    some (e, M)).map fun q => (prune [0, 6, 9, 10, 11, 13, 51, 52, 53] q.1, q.2)
noncomputable def f14_r19 (call : CallF) : Env → Mem → Option (Env × Mem) := fun e M =>
    (nx (oMv (eget e 11)) (some 73) e M fun e M =>
    nx (oMv (eget e 0)) (some 74) e M fun e M =>
    nx (oMv (eget e 13)) (some 75) e M fun e M =>
    nx (oBin cx.P .mul 2 (eget e 74) (eget e 75) M) (some 76) e M fun e M =>
    nx (oMv (eget e 6)) (some 77) e M fun e M =>
    nx (oBin cx.P .quo 2 (eget e 76) (eget e 77) M) (some 78) e M fun e M =>
    nx (oBin cx.P .sub 2 (eget e 73) (eget e 78) M) (some 79) e M fun e M =>
    nx (oMv (eget e 79)) (some 11) e M fun e M =>
    some (e, M)).map fun q => (prune [0, 6, 9, 10, 11, 51, 52, 53] q.1, q.2)
noncomputable def f14_r20 (call : CallF) : Env → Mem → Option (Env × Mem) := fun e M =>
    (nx (oBin cx.P .add 3 (eget e 53) (.int .i64 1) M) (some 80) e M fun e M =>
    nx (oMv (eget e 80)) (some 53) e M fun e M =>
    some (e, M)).map fun q => (prune [0, 6, 9, 10, 11, 51, 52, 53] q.1, q.2)
noncomputable def f14_r21 (call : CallF) : Env → Mem → Option (Env × Mem) := fun e M =>
    (nx (oMv (eget e 11)) (some 81) e M fun e M =>
    nx (oMv (.int .i64 0)) (some 82) e M fun e M =>
    some (e, M)).map fun q => (prune [9, 10, 81, 82] q.1, q.2)
noncomputable def f14_r22 (call : CallF) : Env → Mem → Option (Env × Mem) := fun e M =>
    (nx (oBin cx.P .lss 2 (eget e 82) (eget e 81) M) (some 83) e M fun e M =>
    some (e, M)).map fun q => (prune [9, 10, 81, 82, 83] q.1, q.2)
noncomputable def f14_r23 (call : CallF) : Env → Mem → Option (Env × Mem) := fun e M =>
    (nx (oMv (.int .i64 0)) (some 14) e M fun e M =>
    some (e, M)).map fun q => (prune [9, 10, 14, 81, 82] q.1, q.2)
noncomputable def f14_r24 (call : CallF) : Env → Mem → Option (Env × Mem) := fun e M =>
    (nx (oMv (eget e 10)) (some 84) e M fun e M =>
    nx (oLen cx.P 29 (eget e 84) M) (some 85) e M fun e M =>
    nx (oMv (.int .i64 0)) (some 86) e M fun e M =>
    some (e, M)).map fun q => (prune [9, 10, 14, 81, 82, 84, 85, 86] q.1, q.2)
noncomputable def f14_r25 (call : CallF) : Env → Mem → Option (Env × Mem) := fun e M =>
    (nx (oBin cx.P .lss 3 (eget e 86) (eget e 85) M) (some 87) e M fun e M =>
    some (e, M)).map fun q => (prune [9, 10, 14, 81, 82, 84, 85, 86, 87] q.1, q.2)
noncomputable def f14_r26 (call : CallF) : Env → Mem → Option (Env × Mem) := fun e M =>
    (nx (oMv (eget e 86)) (some 88) e M fun e M =>
    nx (keep (aIndexS 1 (eget e 84) (eget e 86) M)) (some 89) e M fun e M =>
    nx (keep (aLoad false 1 (eget e 89) M)) (some 90) e M fun e M =>
    nx (oMv (eget e 88)) (some 15) e M fun e M =>
    nx (oMv (eget e 90)) (some 16) e M fun e M =>
    some (e, M)).map fun q => (prune [9, 10, 14, 15, 16, 81, 82, 84, 85, 86] q.1, q.2)
noncomputable def f14_r27 (call : CallF) : Env → Mem → Option (Env × Mem) := fun e M =>
    (nx (oMv (eget e 16)) (some 91) e M fun e M =>
    nx (oMv (eget e 10)) (some 92) e M fun e M =>
    nx (oMv (eget e 14)) (some 93) e M fun e M =>
    nx (keep (aIndexS 1 (eget e 92) (eget e 93) M)) (some 94) e M fun e M =>
    nx (keep (aLoad false 1 (eget e 94) M)) (some 95) e M fun e M =>
    nx (oBin cx.P .gtr 2 (eget e 91) (eget e 95) M) (some 96) e M fun e M =>
    some (e, M)).map fun q => (prune [9, 10, 14, 15, 81, 82, 84, 85, 86, 96] q.1, q.2)
noncomputable def f14_r28 (call : CallF) : Env → Mem → Option (Env × Mem) := fun e M =>
    (nx (oMv (eget e 15)) (some 97) e M fun e M =>
    nx (oMv (eget e 97)) (some 14) e M fun e M =>
    some (e, M)).map fun q => (prune [9, 10, 14, 81, 82, 84, 85, 86] q.1, q.2)
noncomputable def f14_r29 (call : CallF) : Env → Mem → Option (Env × Mem) := fun e M =>
    (nx (oBin cx.P .add 3 (eget e 86) (.int .i64 1) M) (some 98) e M fun e M =>
    nx (oMv (eget e 98)) (some 86) e M fun e M =>
    some (e, M)).map fun q => (prune [9, 10, 14, 81, 82, 84, 85, 86] q.1, q.2)
noncomputable def f14_r30 (call : CallF) : Env → Mem → Option (Env × Mem) := fun e M =>
    (nx (oMv (eget e 9)) (some 99) e M fun e M =>
    nx (oMv (eget e 14)) (some 100) e M fun e M =>
    nx (keep (aIndexS 1 (eget e 99) (eget e 100) M)) (some 101) e M fun e M =>
    nx (keep (aLoad false 1 (eget e 101) M)) (some 102) e M fun e M =>
    nx (oBin cx.P .add 2 (eget e 102) (.int .i64 1) M) (some 103) e M fun e M =>
    nx (keep (aIndexS 1 (eget e 99) (eget e 100) M)) (some 104) e M fun e M =>
    nx (oStore 1 (eget e 104) (eget e 103) M) none e M fun e M =>
    some (e, M)).map fun q => (prune [9, 10, 14, 81, 82] q.1, q.2)
noncomputable def f14_r31 (call : CallF) : Env → Mem → Option (Env × Mem) := fun e M =>
    (nx (oMv (eget e 10)) (some 105) e M fun e M =>
    nx (oMv (eget e 14)) (some 106) e M fun e M =>
    nx (keep (aIndexS 1 (eget e 105) (eget e 106) M)) (some 107) e M fun e M =>
    nx (oStore 1 (eget e 107) (.int .i64 (-1)) M) none e M fun e M =>
    some (e, M)).map fun q => (prune [9, 10, 81, 82] q.1, q.2)
noncomputable def f14_r32 (call : CallF) : Env → Mem → Option (Env × Mem) := fun e M =>
    (nx (oBin cx.P .add 2 (eget e 82) (.int .i64 1) M) (some 108) e M fun e M =>
    nx (oMv (eget e 108)) (some 82) e M fun e M =>
    some (e, M)).map fun q => (prune [9, 10, 81, 82] q.1, q.2)
noncomputable def f14_r33 (call : CallF) : Env → Mem → Option (Env × Mem) := fun e M =>
    (nx (oMv (eget e 9)) (some 109) e M fun e M =>
    nx (oMv (eget e 109)) (some 4) e M fun e M =>
    nx (oMv (.int .i64 0)) (some 5) e M fun e M =>
    some (e, M)).map fun q => (prune [4, 5] q.1, q.2)
noncomputable def f14_l5 (call : CallF) (k : Nat) : St :=
  (bSeq (bReg (f14_r5 call))
  (bSeq (bCond (.tmp 33)
   (bEx .nrm)
   (bEx (.ext 0)))
  (bSeq (bBlock 1 (bSeq (bReg (f14_r6 call))
   (bSeq (bSeq (bReg (f14_r7 call))
   (bCond (.tmp 41)
    (bSeq (bReg (f14_r8 call))
    (bEx .ret))
    (bEx .nrm)))
   (bReg (f14_r9 call)))))
  (bReg (f14_r10 call)))))
noncomputable def f14_l15 (call : CallF) (k : Nat) : St :=
  (bSeq (bReg (f14_r15 call))
  (bSeq (bCond (.tmp 54)
   (bEx .nrm)
   (bEx (.ext 2)))
  (bSeq (bBlock 3 (bSeq (bReg (f14_r16 call))
   (bSeq (bReg (f14_r17 call))
   (bSeq (bReg (f14_r18 call))
   (bReg (f14_r19 call))))))
  (bReg (f14_r20 call)))))
noncomputable def f14_l25 (call : CallF) (k : Nat) : St :=
  (bSeq (bReg (f14_r25 call))
  (bSeq (bCond (.tmp 87)
   (bEx .nrm)
   (bEx (.ext 6)))
  (bSeq (bBlock 7 (bSeq (bReg (f14_r26 call))
   (bSeq (bReg (f14_r27 call))
   (bCond (.tmp 96)
    (bReg (f14_r28 call))
    (bEx .nrm)))))
  (bReg (f14_r29 call)))))
noncomputable def f14_l22 (call : CallF) (k : Nat) : St :=
  (bSeq (bReg (f14_r22 call))
  (bSeq (bCond (.tmp 83)
   (bEx .nrm)
   (bEx (.ext 4)))
  (bSeq (bBlock 5 (bSeq (bReg (f14_r23 call))
   (bSeq (bSeq (bReg (f14_r24 call))
   (bBlock 6 (bLoop [9, 10, 14, 81, 82, 84, 85, 86] (f14_l25 call k) k)))
   (bSeq (bReg (f14_r30 call))
   (bReg (f14_r31 call))))))
  (bReg (f14_r32 call)))))
noncomputable def f14 (call : CallF) (k : Nat) : St :=
  (bSeq (bReg (f14_r0 call))
  (bSeq (bSeq (bReg (f14_r1 call))
  (bCond (.tmp 29)
   (bSeq (bReg (f14_r2 call))
   (bEx .ret))
   (bEx .nrm)))
  (bSeq (bReg (f14_r3 call))
  (bSeq (bSeq (bReg (f14_r4 call))
  (bBlock 0 (bLoop [0, 1, 6, 30, 31, 32] (f14_l5 call k) k)))
  (bSeq (bSeq (bReg (f14_r11 call))
  (bCond (.tmp 47)
   (bSeq (bReg (f14_r12 call))
   (bEx .ret))
   (bEx .nrm)))
  (bSeq (bReg (f14_r13 call))
  (bSeq (bSeq (bReg (f14_r14 call))
  (bBlock 2 (bLoop [0, 6, 9, 10, 11, 51, 52, 53] (f14_l15 call k) k)))
  (bSeq (bSeq (bReg (f14_r21 call))
  (bBlock 4 (bLoop [9, 10, 81, 82] (f14_l22 call k) k)))
  (bSeq (bReg (f14_r33 call))
  (bEx .ret))))))))))
theorem f14_eq (call : CallF) (k : Nat) : exec cx call 110 f14_an k (Try.f14.body.getD .skip) = f14 call k := by kernel_rfl
/-! ### f15: loop.example/g01263/laws.eqInt64S -/
def f15_an : Ann := ⟨[(0, ⟨[], [], [], [], [0, 1]⟩), (1, ⟨[], [], [], [], [0, 1, 10]⟩), (2, ⟨[], [], [], [], [4]⟩), (3, ⟨[], [], [], [], [0, 1, 5]⟩), (4, ⟨[], [], [], [], [0, 1, 5, 14]⟩), (5, ⟨[], [], [], [], [0, 1, 5]⟩), (6, ⟨[], [], [], [], [0, 1, 5, 25]⟩), (7, ⟨[], [], [], [], [4]⟩), (8, ⟨[], [], [], [], [4]⟩)], [(4, [0, 1, 5])]⟩
noncomputable def f15_r0 (call : CallF) : Env → Mem → Option (Env × Mem) := fun e M =>
    (nx (oMv (.bool false)) (some 4) e M fun e M =>
    some (e, M)).map fun q => (prune [0, 1] q.1, q.2)
noncomputable def f15_r1 (call : CallF) : Env → Mem → Option (Env × Mem) := fun e M =>
    (nx (oMv (eget e 0)) (some 6) e M fun e M =>
    nx (oLen cx.P 29 (eget e 6) M) (some 7) e M fun e M =>
    nx (oMv (eget e 1)) (some 8) e M fun e M =>
    nx (oLen cx.P 29 (eget e 8) M) (some 9) e M fun e M =>
    nx (oBin cx.P .neq 3 (eget e 7) (eget e 9) M) (some 10) e M fun e M =>
    some (e, M)).map fun q => (prune [0, 1, 10] q.1, q.2)
noncomputable def f15_r2 (call : CallF) : Env → Mem → Option (Env × Mem) := fun e M =>
    (nx (oMv (.bool false)) (some 4) e M fun e M =>
    some (e, M)).map fun q => (prune [4] q.1, q.2)
noncomputable def f15_r3 (call : CallF) : Env → Mem → Option (Env × Mem) := fun e M =>
    (nx (oMv (.int .i64 0)) (some 5) e M fun e M =>
    some (e, M)).map fun q => (prune [0, 1, 5] q.1, q.2)
noncomputable def f15_r4 (call : CallF) : Env → Mem → Option (Env × Mem) := fun e M =>
    (nx (oMv (eget e 5)) (some 11) e M fun e M =>
    nx (oMv (eget e 0)) (some 12) e M fun e M =>
    nx (oLen cx.P 29 (eget e 12) M) (some 13) e M fun e M =>
    nx (oBin cx.P .lss 3 (eget e 11) (eget e 13) M) (some 14) e M fun e M =>
    some (e, M)).map fun q => (prune [0, 1, 5, 14] q.1, q.2)
noncomputable def f15_r5 (call : CallF) : Env → Mem → Option (Env × Mem) := fun e M =>
    (nx (oMv (eget e 5)) (some 15) e M fun e M =>
    nx (oBin cx.P .add 3 (eget e 15) (.int .i64 1) M) (some 16) e M fun e M =>
    nx (oMv (eget e 16)) (some 5) e M fun e M =>
    some (e, M)).map fun q => (prune [0, 1, 5] q.1, q.2)
noncomputable def f15_r6 (call : CallF) : Env → Mem → Option (Env × Mem) := fun e M =>
    rD [0, 1, 5, 25] (fun (C : List Ob) =>
    nf (oMv (eget e 0)) (some 17) false e C fun e C =>
    nf (oMv (eget e 5)) (some 18) false e C fun e C =>
    nf (keep (aIndexS 1 (eget e 17) (eget e 18) M)) (some 19) false e C fun e C =>
    nf (keep (aLoad false 1 (eget e 19) M)) (some 20) false e C fun e C =>
    nf (oMv (eget e 1)) (some 21) false e C fun e C =>
    nf (oMv (eget e 5)) (some 22) false e C fun e C =>
    nf (keep (aIndexS 1 (eget e 21) (eget e 22) M)) (some 23) false e C fun e C =>
    nf (keep (aLoad false 1 (eget e 23) M)) (some 24) false e C fun e C =>
    nf (oBin cx.P .neq 2 (eget e 20) (eget e 24) M) (some 25) false e C fun e C =>
    some (e, C)) (fun (e : Env) (M : Mem) =>
    some (e, M)) M
noncomputable def f15_r7 (call : CallF) : Env → Mem → Option (Env × Mem) := fun e M =>
    (nx (oMv (.bool false)) (some 4) e M fun e M =>
    some (e, M)).map fun q => (prune [4] q.1, q.2)
noncomputable def f15_r8 (call : CallF) : Env → Mem → Option (Env × Mem) := fun e M =>
    (nx (oMv (.bool true)) (some 4) e M fun e M =>
    some (e, M)).map fun q => (prune [4] q.1, q.2)
noncomputable def f15_l4 (call : CallF) (k : Nat) : St :=
  (bSeq (bSeq (bReg (f15_r4 call))
  (bCond (.tmp 14)
   (bEx .nrm)
   (bEx (.ext 0))))
  (bSeq (bBlock 1 (bSeq (bReg (f15_r6 call))
   (bCond (.tmp 25)
    (bSeq (bReg (f15_r7 call))
    (bEx .ret))
    (bEx .nrm))))
  (bReg (f15_r5 call))))
noncomputable def f15 (call : CallF) (k : Nat) : St :=
  (bSeq (bReg (f15_r0 call))
  (bSeq (bSeq (bReg (f15_r1 call))
  (bCond (.tmp 10)
   (bSeq (bReg (f15_r2 call))
   (bEx .ret))
   (bEx .nrm)))
  (bSeq (bSeq (bReg (f15_r3 call))
  (bBlock 0 (bLoop [0, 1, 5] (f15_l4 call k) k)))
  (bSeq (bReg (f15_r8 call))
  (bEx .ret)))))
theorem f15_eq (call : CallF) (k : Nat) : exec cx call 26 f15_an k (Try.f15.body.getD .skip) = f15 call k := by kernel_rfl
/-! ### f16: loop.example/g01263/laws.markInt64S -/
def f16_an : Ann := ⟨[(0, ⟨[], [], [], [], [0, 1]⟩), (1, ⟨[], [], [], [], [0, 1, 5]⟩), (2, ⟨[], [], [], [], [0, 1, 5, 9]⟩), (3, ⟨[], [], [], [], [0, 1, 5]⟩), (4, ⟨[], [], [], [], [0, 1, 5]⟩), (5, ⟨[], [], [], [], [0, 1, 5]⟩), (6, ⟨[], [], [], [], [4]⟩)], [(2, [0, 1, 5])]⟩
noncomputable def f16_r0 (call : CallF) : Env → Mem → Option (Env × Mem) := fun e M =>
    (nx (oMv (.int .i64 0)) (some 4) e M fun e M =>
    some (e, M)).map fun q => (prune [0, 1] q.1, q.2)
noncomputable def f16_r1 (call : CallF) : Env → Mem → Option (Env × Mem) := fun e M =>
    (nx (oMv (.int .i64 0)) (some 5) e M fun e M =>
    some (e, M)).map fun q => (prune [0, 1, 5] q.1, q.2)
noncomputable def f16_r2 (call : CallF) : Env → Mem → Option (Env × Mem) := fun e M =>
    (nx (oMv (eget e 5)) (some 6) e M fun e M =>
    nx (oMv (eget e 0)) (some 7) e M fun e M =>
    nx (oLen cx.P 29 (eget e 7) M) (some 8) e M fun e M =>
    nx (oBin cx.P .lss 3 (eget e 6) (eget e 8) M) (some 9) e M fun e M =>
    some (e, M)).map fun q => (prune [0, 1, 5, 9] q.1, q.2)
noncomputable def f16_r3 (call : CallF) : Env → Mem → Option (Env × Mem) := fun e M =>
    (nx (oMv (eget e 5)) (some 10) e M fun e M =>
    nx (oBin cx.P .add 3 (eget e 10) (.int .i64 1) M) (some 11) e M fun e M =>
    nx (oMv (eget e 11)) (some 5) e M fun e M =>
    some (e, M)).map fun q => (prune [0, 1, 5] q.1, q.2)
noncomputable def f16_r4 (call : CallF) : Env → Mem → Option (Env × Mem) := fun e M =>
    (nx (oMv (eget e 0)) (some 12) e M fun e M =>
    nx (oMv (eget e 5)) (some 13) e M fun e M =>
    nx (oMv (eget e 1)) (some 14) e M fun e M =>
    nx (keep (aIndexS 1 (eget e 12) (eget e 13) M)) (some 15) e M fun e M =>
    nx (oStore 1 (eget e 15) (eget e 14) M) none e M fun e M =>
    some (e, M)).map fun q => (prune [0, 1, 5] q.1, q.2)
noncomputable def f16_r5 (call : CallF) : Env → Mem → Option (Env × Mem) := fun e M =>
    (nx (oMv (eget e 1)) (some 16) e M fun e M =>
    nx (oBin cx.P .add 3 (eget e 16) (.int .i64 1) M) (some 17) e M fun e M =>
    nx (oMv (eget e 17)) (some 1) e M fun e M =>
    some (e, M)).map fun q => (prune [0, 1, 5] q.1, q.2)
noncomputable def f16_r6 (call : CallF) : Env → Mem → Option (Env × Mem) := fun e M =>
    (nx (oMv (eget e 1)) (some 18) e M fun e M =>
    nx (oMv (eget e 18)) (some 4) e M fun e M =>
    some (e, M)).map fun q => (prune [4] q.1, q.2)
noncomputable def f16_l2 (call : CallF) (k : Nat) : St :=
  (bSeq (bSeq (bReg (f16_r2 call))
  (bCond (.tmp 9)
   (bEx .nrm)
   (bEx (.ext 0))))
  (bSeq (bBlock 1 (bSeq (bReg (f16_r4 call))
   (bReg (f16_r5 call))))
  (bReg (f16_r3 call))))
noncomputable def f16 (call : CallF) (k : Nat) : St :=
  (bSeq (bReg (f16_r0 call))
  (bSeq (bSeq (bReg (f16_r1 call))
  (bBlock 0 (bLoop [0, 1, 5] (f16_l2 call k) k)))
  (bSeq (bReg (f16_r6 call))
  (bEx .ret))))
theorem f16_eq (call : CallF) (k : Nat) : exec cx call 19 f16_an k (Try.f16.body.getD .skip) = f16 call k := by kernel_rfl
/-! ### f17: loop.example/g01263/laws.heldInt64S -/
def f17_an : Ann := ⟨[(0, ⟨[], [], [], [], [0, 1]⟩), (1, ⟨[], [], [], [], [0, 1, 5]⟩), (2, ⟨[], [], [], [], [0, 1, 5, 9]⟩), (3, ⟨[], [], [], [], [0, 1, 5]⟩), (4, ⟨[], [], [], [], [0, 1, 5, 17]⟩), (5, ⟨[], [], [], [], [4]⟩), (6, ⟨[], [], [], [], [0, 1, 5]⟩), (7, ⟨[], [], [], [], [4]⟩)], [(2, [0, 1, 5])]⟩
noncomputable def f17_r0 (call : CallF) : Env → Mem → Option (Env × Mem) := fun e M =>
    (nx (oMv (.int .i64 0)) (some 4) e M fun e M =>
    some (e, M)).map fun q => (prune [0, 1] q.1, q.2)
noncomputable def f17_r1 (call : CallF) : Env → Mem → Option (Env × Mem) := fun e M =>
    (nx (oMv (.int .i64 0)) (some 5) e M fun e M =>
    some (e, M)).map fun q => (prune [0, 1, 5] q.1, q.2)
noncomputable def f17_r2 (call : CallF) : Env → Mem → Option (Env × Mem) := fun e M =>
    (nx (oMv (eget e 5)) (some 6) e M fun e M =>
    nx (oMv (eget e 0)) (some 7) e M fun e M =>
    nx (oLen cx.P 29 (eget e 7) M) (some 8) e M fun e M =>
    nx (oBin cx.P .lss 3 (eget e 6) (eget e 8) M) (some 9) e M fun e M =>
    some (e, M)).map fun q => (prune [0, 1, 5, 9] q.1, q.2)
noncomputable def f17_r3 (call : CallF) : Env → Mem → Option (Env × Mem) := fun e M =>
    (nx (oMv (eget e 5)) (some 10) e M fun e M =>
    nx (oBin cx.P .add 3 (eget e 10) (.int .i64 1) M) (some 11) e M fun e M =>
    nx (oMv (eget e 11)) (some 5) e M fun e M =>
    some (e, M)).map fun q => (prune [0, 1, 5] q.1, q.2)
noncomputable def f17_r4 (call : CallF) : Env → Mem → Option (Env × Mem) := fun e M =>
    (nx (oMv (eget e 0)) (some 12) e M fun e M =>
    nx (oMv (eget e 5)) (some 13) e M fun e M =>
    nx (keep (aIndexS 1 (eget e 12) (eget e 13) M)) (some 14) e M fun e M =>
    nx (keep (aLoad false 1 (eget e 14) M)) (some 15) e M fun e M =>
    nx (oMv (eget e 1)) (some 16) e M fun e M =>
    nx (oBin cx.P .neq 2 (eget e 15) (eget e 16) M) (some 17) e M fun e M =>
    some (e, M)).map fun q => (prune [0, 1, 5, 17] q.1, q.2)
noncomputable def f17_r5 (call : CallF) : Env → Mem → Option (Env × Mem) := fun e M =>
    (nx (oMv (.int .i64 (-1))) (some 4) e M fun e M =>
    some (e, M)).map fun q => (prune [4] q.1, q.2)
noncomputable def f17_r6 (call : CallF) : Env → Mem → Option (Env × Mem) := fun e M =>
    (nx (oMv (eget e 1)) (some 18) e M fun e M =>
    nx (oBin cx.P .add 3 (eget e 18) (.int .i64 1) M) (some 19) e M fun e M =>
    nx (oMv (eget e 19)) (some 1) e M fun e M =>
    some (e, M)).map fun q => (prune [0, 1, 5] q.1, q.2)
noncomputable def f17_r7 (call : CallF) : Env → Mem → Option (Env × Mem) := fun e M =>
    (nx (oMv (eget e 1)) (some 20) e M fun e M =>
    nx (oMv (eget e 20)) (some 4) e M fun e M =>
    some (e, M)).map fun q => (prune [4] q.1, q.2)
noncomputable def f17_l2 (call : CallF) (k : Nat) : St :=
  (bSeq (bSeq (bReg (f17_r2 call))
  (bCond (.tmp 9)
   (bEx .nrm)
   (bEx (.ext 0))))
  (bSeq (bBlock 1 (bSeq (bSeq (bReg (f17_r4 call))
   (bCond (.tmp 17)
    (bSeq (bReg (f17_r5 call))
    (bEx .ret))
    (bEx .nrm)))
   (bReg (f17_r6 call))))
  (bReg (f17_r3 call))))
noncomputable def f17 (call : CallF) (k : Nat) : St :=
  (bSeq (bReg (f17_r0 call))
  (bSeq (bSeq (bReg (f17_r1 call))
  (bBlock 0 (bLoop [0, 1, 5] (f17_l2 call k) k)))
  (bSeq (bReg (f17_r7 call))
  (bEx .ret))))
theorem f17_eq (call : CallF) (k : Nat) : exec cx call 21 f17_an k (Try.f17.body.getD .skip) = f17 call k := by kernel_rfl
/-! ### f36: loop.example/g01263/spec.l01Amount -/
def f36_an : Ann := ⟨[(0, ⟨[], [], [], [], [0]⟩), (1, ⟨[], [], [], [], [2]⟩)], []⟩
noncomputable def f36_r0 (call : CallF) : Env → Mem → Option (Env × Mem) := fun e M =>
    (nx (oMv (.bool false)) (some 2) e M fun e M =>
    some (e, M)).map fun q => (prune [0] q.1, q.2)
noncomputable def f36_r1 (call : CallF) : Env → Mem → Option (Env × Mem) := fun e M =>
    (nx (oMv (eget e 0)) (some 3) e M fun e M =>
    nx (aCall cx.P.cellsOf cx.rw call false M.length 37 [(eget e 3), (.int .i64 0), (.int .i64 100000000)] M) (some 4) e M fun e M =>
    nx (oMv (eget e 4)) (some 2) e M fun e M =>
    some (e, M)).map fun q => (prune [2] q.1, q.2)
noncomputable def f36 (call : CallF) (k : Nat) : St :=
  (bSeq (bReg (f36_r0 call))
  (bSeq (bReg (f36_r1 call))
  (bEx .ret)))
theorem f36_eq (call : CallF) (k : Nat) : exec cx call 5 f36_an k (Try.f36.body.getD .skip) = f36 call k := by kernel_rfl
/-! ### f37: loop.example/g01263/spec.l00In -/
def f37_an : Ann := ⟨[(0, ⟨[], [], [], [], [0, 1, 2]⟩), (1, ⟨[], [], [], [], [6]⟩)], []⟩
noncomputable def f37_r0 (call : CallF) : Env → Mem → Option (Env × Mem) := fun e M =>
    (nx (oMv (.bool false)) (some 6) e M fun e M =>
    some (e, M)).map fun q => (prune [0, 1, 2] q.1, q.2)
noncomputable def f37_r1 (call : CallF) : Env → Mem → Option (Env × Mem) := fun e M =>
    (nx (oMv (eget e 0)) (some 7) e M fun e M =>
    nx (oMv (eget e 1)) (some 8) e M fun e M =>
    nx (oBin cx.P .geq 2 (eget e 7) (eget e 8) M) (some 9) e M fun e M =>
    nx (oMv (eget e 9)) (some 10) e M fun e M =>
    nx (aGuard (some ((eget e 10), true)) (oMv (eget e 0))) (some 11) e M fun e M =>
    nx (aGuard (some ((eget e 10), true)) (oMv (eget e 2))) (some 12) e M fun e M =>
    nx (aGuard (some ((eget e 10), true)) (oBin cx.P .leq 2 (eget e 11) (eget e 12) M)) (some 13) e M fun e M =>
    nx (keep (aPick (eget e 10) (eget e 13) (.bool false))) (some 14) e M fun e M =>
    nx (oMv (eget e 14)) (some 6) e M fun e M =>
    some (e, M)).map fun q => (prune [6] q.1, q.2)
noncomputable def f37 (call : CallF) (k : Nat) : St :=
  (bSeq (bReg (f37_r0 call))
  (bSeq (bReg (f37_r1 call))
  (bEx .ret)))
theorem f37_eq (call : CallF) (k : Nat) : exec cx call 15 f37_an k (Try.f37.body.getD .skip) = f37 call k := by kernel_rfl
/-! ### f38: loop.example/g01263/impl.isAmount -/
def f38_an : Ann := ⟨[(0, ⟨[], [], [], [], [0]⟩), (1, ⟨[], [], [], [], [2]⟩)], []⟩
noncomputable def f38_r0 (call : CallF) : Env → Mem → Option (Env × Mem) := fun e M =>
    (nx (oMv (.bool false)) (some 2) e M fun e M =>
    some (e, M)).map fun q => (prune [0] q.1, q.2)
noncomputable def f38_r1 (call : CallF) : Env → Mem → Option (Env × Mem) := fun e M =>
    (nx (oMv (eget e 0)) (some 3) e M fun e M =>
    nx (oBin cx.P .geq 2 (eget e 3) (.int .i64 0) M) (some 4) e M fun e M =>
    nx (oMv (eget e 4)) (some 5) e M fun e M =>
    nx (aGuard (some ((eget e 5), true)) (oMv (eget e 0))) (some 6) e M fun e M =>
    nx (aGuard (some ((eget e 5), true)) (oBin cx.P .leq 2 (eget e 6) (.int .i64 100000000) M)) (some 7) e M fun e M =>
    nx (keep (aPick (eget e 5) (eget e 7) (.bool false))) (some 8) e M fun e M =>
    nx (oMv (eget e 8)) (some 2) e M fun e M =>
    some (e, M)).map fun q => (prune [2] q.1, q.2)
noncomputable def f38 (call : CallF) (k : Nat) : St :=
  (bSeq (bReg (f38_r0 call))
  (bSeq (bReg (f38_r1 call))
  (bEx .ret)))
theorem f38_eq (call : CallF) (k : Nat) : exec cx call 9 f38_an k (Try.f38.body.getD .skip) = f38 call k := by kernel_rfl
def anns : List (Nat × Ann) := [(4, f4_an), (12, f12_an), (13, f13_an), (14, f14_an), (15, f15_an), (16, f16_an), (17, f17_an), (36, f36_an), (37, f37_an), (38, f38_an)]
noncomputable def CN : Nat → CallF := callN cx (Go.Ab.look anns) (fun _ _ _ => none) (fun _ => false)
end Go.Proofs.Ytaocojognonkcaa

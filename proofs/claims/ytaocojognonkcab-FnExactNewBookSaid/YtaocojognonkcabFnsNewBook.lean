/- Printed by a program of ours (ext.py). -/
import Derived.Test.YtaocojognonkcabAbNil
import Derived.Test.YtaocojognonkcabProg
set_option linter.unusedVariables false
set_option maxRecDepth 100000
set_option maxHeartbeats 2000000
namespace Go.Proofs.Ytaocojognonkcab
open Go Go.Ab
noncomputable def cx : Cx := ⟨Try.prog, fun f => has [9, 10, 16] f⟩
/-! ### f3: loop.example/g01263/laws.FnExactNewBook -/
def f3_an : Ann := ⟨[(0, ⟨[], [], [], [], [0]⟩), (1, ⟨[], [], [], [], [0, 15]⟩), (2, ⟨[], [], [], [], [2]⟩), (3, ⟨[], [2], [], [], [0, 3, 4]⟩), (4, ⟨[], [1], [], [], [0, 3, 4, 5]⟩), (5, ⟨[], [1], [], [], [0, 3, 4, 5, 6, 7]⟩), (6, ⟨[], [], [], [], [0, 3, 4, 5, 6, 7, 37]⟩), (7, ⟨[], [], [], [], [2]⟩), (8, ⟨[], [], [], [], [0, 3, 4, 5, 6, 7, 42]⟩), (9, ⟨[], [], [], [], [2]⟩), (10, ⟨[], [], [], [], [0, 3, 4, 5, 6, 7, 8]⟩), (11, ⟨[], [], [], [], [0, 3, 4, 6, 7, 8]⟩), (12, ⟨[], [], [], [], [0, 3, 4, 6, 58]⟩), (13, ⟨[], [], [], [], [2]⟩), (14, ⟨[], [], [], [], [0, 3, 4, 6, 9]⟩), (15, ⟨[], [], [], [], [0, 3, 4, 6, 9]⟩), (16, ⟨[], [], [], [], [0, 3, 4, 6, 9, 10]⟩), (17, ⟨[], [], [], [], [0, 3, 4, 6, 9, 10]⟩), (18, ⟨[], [], [], [], [0, 3, 4, 6, 9, 10, 66]⟩), (19, ⟨[], [], [], [], [2]⟩), (20, ⟨[], [], [], [], [0, 3, 4, 6, 9, 69]⟩), (21, ⟨[], [], [], [], [2]⟩), (22, ⟨[], [2], [], [], [3, 4, 6, 9, 11, 12]⟩), (23, ⟨[], [], [], [], [6, 9, 84]⟩), (24, ⟨[], [], [], [], [2]⟩), (25, ⟨[], [], [], [], [6, 9, 10]⟩), (26, ⟨[], [], [], [], [9, 10]⟩), (27, ⟨[], [], [], [], [9, 10, 89]⟩), (28, ⟨[], [], [], [], [2]⟩), (29, ⟨[], [], [], [], [92]⟩), (30, ⟨[], [], [], [], [2]⟩), (31, ⟨[], [], [], [], [2]⟩)], []⟩
noncomputable def f3_r0 (call : CallF) : Env → Mem → Option (Env × Mem) := fun e M =>
    (nx (oMv (.bool false)) (some 2) e M fun e M =>
    some (e, M)).map fun q => (prune [0] q.1, q.2)
noncomputable def f3_r1 (call : CallF) : Env → Mem → Option (Env × Mem) := fun e M =>
    (nx (oMv (eget e 0)) (some 13) e M fun e M =>
    nx (oLen cx.P 22 (eget e 13) M) (some 14) e M fun e M =>
    nx (oBin cx.P .gtr 3 (eget e 14) (.int .i64 1048576) M) (some 15) e M fun e M =>
    some (e, M)).map fun q => (prune [0, 15] q.1, q.2)
noncomputable def f3_r2 (call : CallF) : Env → Mem → Option (Env × Mem) := fun e M =>
    (nx (oMv (.bool true)) (some 2) e M fun e M =>
    some (e, M)).map fun q => (prune [2] q.1, q.2)
noncomputable def f3_r3 (call : CallF) : Env → Mem → Option (Env × Mem) := fun e M =>
    (nx (oMv (eget e 0)) (some 17) e M fun e M =>
    nx (aCall cx.P.cellsOf cx.rw call false M.length 5 [(eget e 17)] M) (some 18) e M fun e M =>
    nx (aCall cx.P.cellsOf cx.rw call true M.length 4 [(eget e 18)] M) (some 19) e M fun e M =>
    nx (oMv (eget e 19)) (some 16) e M fun e M =>
    nx (keep (aExtract 0 (eget e 16))) (some 20) e M fun e M =>
    nx (keep (aExtract 1 (eget e 16))) (some 21) e M fun e M =>
    nx (oAlloc cx.P M.length 25 3) (some 3) e M fun e M =>
    nx (oStore 3 (eget e 3) (eget e 20) M) none e M fun e M =>
    nx (oMv (eget e 21)) (some 4) e M fun e M =>
    some (e, M)).map fun q => (prune [0, 3, 4] q.1, q.2)
noncomputable def f3_r4 (call : CallF) : Env → Mem → Option (Env × Mem) := fun e M =>
    (nx (oMv (eget e 0)) (some 22) e M fun e M =>
    nx (aCall cx.P.cellsOf cx.rw call true M.length 5 [(eget e 22)] M) (some 23) e M fun e M =>
    nx (oMv (eget e 23)) (some 5) e M fun e M =>
    some (e, M)).map fun q => (prune [0, 3, 4, 5] q.1, q.2)
noncomputable def f3_r5 (call : CallF) : Env → Mem → Option (Env × Mem) := fun e M =>
    (nx (oMv (eget e 5)) (some 25) e M fun e M =>
    nx (aCall cx.P.cellsOf cx.rw call true M.length 6 [(eget e 25)] M) (some 26) e M fun e M =>
    nx (oMv (eget e 26)) (some 24) e M fun e M =>
    nx (keep (aExtract 0 (eget e 24))) (some 27) e M fun e M =>
    nx (keep (aExtract 1 (eget e 24))) (some 28) e M fun e M =>
    nx (oAlloc cx.P M.length 25 3) (some 6) e M fun e M =>
    nx (oStore 3 (eget e 6) (eget e 27) M) none e M fun e M =>
    nx (oMv (eget e 28)) (some 7) e M fun e M =>
    some (e, M)).map fun q => (prune [0, 3, 4, 5, 6, 7] q.1, q.2)
noncomputable def f3_r6 (call : CallF) : Env → Mem → Option (Env × Mem) := fun e M =>
    (nx (keep (aLoad true 3 (eget e 6) M)) (some 29) e M fun e M =>
    nx (keep (aLoad true 3 (eget e 3) M)) (some 30) e M fun e M =>
    nx (aCall cx.P.cellsOf cx.rw call false M.length 7 [(eget e 29), (eget e 30)] M) (some 31) e M fun e M =>
    nx (keep (aUn .not (eget e 31))) (some 32) e M fun e M =>
    nx (oMv (eget e 32)) (some 33) e M fun e M =>
    nx (aGuard (some ((eget e 33), false)) (oMv (eget e 7))) (some 34) e M fun e M =>
    nx (aGuard (some ((eget e 33), false)) (oMv (eget e 4))) (some 35) e M fun e M =>
    nx (aGuard (some ((eget e 33), false)) (oBin cx.P .neq 2 (eget e 34) (eget e 35) M)) (some 36) e M fun e M =>
    nx (keep (aPick (eget e 33) (.bool true) (eget e 36))) (some 37) e M fun e M =>
    some (e, M)).map fun q => (prune [0, 3, 4, 5, 6, 7, 37] q.1, q.2)
noncomputable def f3_r7 (call : CallF) : Env → Mem → Option (Env × Mem) := fun e M =>
    (nx (oMv (.bool false)) (some 2) e M fun e M =>
    some (e, M)).map fun q => (prune [2] q.1, q.2)
noncomputable def f3_r8 (call : CallF) : Env → Mem → Option (Env × Mem) := fun e M =>
    (nx (oMv (eget e 5)) (some 38) e M fun e M =>
    nx (oMv (eget e 0)) (some 39) e M fun e M =>
    nx (aCall cx.P.cellsOf cx.rw call false M.length 5 [(eget e 39)] M) (some 40) e M fun e M =>
    nx (aCall cx.P.cellsOf cx.rw call false M.length 8 [(eget e 38), (eget e 40)] M) (some 41) e M fun e M =>
    nx (keep (aUn .not (eget e 41))) (some 42) e M fun e M =>
    some (e, M)).map fun q => (prune [0, 3, 4, 5, 6, 7, 42] q.1, q.2)
noncomputable def f3_r9 (call : CallF) : Env → Mem → Option (Env × Mem) := fun e M =>
    (nx (oMv (.bool false)) (some 2) e M fun e M =>
    some (e, M)).map fun q => (prune [2] q.1, q.2)
noncomputable def f3_r10 (call : CallF) : Env → Mem → Option (Env × Mem) := fun e M =>
    (nx (oMv (.int .i64 1)) (some 8) e M fun e M =>
    some (e, M)).map fun q => (prune [0, 3, 4, 5, 6, 7, 8] q.1, q.2)
noncomputable def f3_r11 (call : CallF) : Env → Mem → Option (Env × Mem) := fun e M =>
    (nx (oMv (eget e 5)) (some 43) e M fun e M =>
    nx (oMv (eget e 8)) (some 44) e M fun e M =>
    nx (aCall cx.P.cellsOf cx.rw call false M.length 9 [(eget e 43), (eget e 44)] M) (some 45) e M fun e M =>
    nx (oMv (eget e 45)) (some 8) e M fun e M =>
    some (e, M)).map fun q => (prune [0, 3, 4, 6, 7, 8] q.1, q.2)
noncomputable def f3_r12 (call : CallF) : Env → Mem → Option (Env × Mem) := fun e M =>
    (nx (oMv (eget e 8)) (some 46) e M fun e M =>
    nx (oBin cx.P .lss 3 (eget e 46) (.int .i64 0) M) (some 47) e M fun e M =>
    nx (oMv (eget e 47)) (some 48) e M fun e M =>
    nx (aGuard (some ((eget e 48), false)) (keep (aLoad true 3 (eget e 6) M))) (some 49) e M fun e M =>
    nx (aGuard (some ((eget e 48), false)) (keep (aLoad true 3 (eget e 3) M))) (some 50) e M fun e M =>
    nx (aGuard (some ((eget e 48), false)) (aCall cx.P.cellsOf cx.rw call false M.length 7 [(eget e 49), (eget e 50)] M)) (some 51) e M fun e M =>
    nx (aGuard (some ((eget e 48), false)) (keep (aUn .not (eget e 51)))) (some 52) e M fun e M =>
    nx (keep (aPick (eget e 48) (.bool true) (eget e 52))) (some 53) e M fun e M =>
    nx (oMv (eget e 53)) (some 54) e M fun e M =>
    nx (aGuard (some ((eget e 54), false)) (oMv (eget e 7))) (some 55) e M fun e M =>
    nx (aGuard (some ((eget e 54), false)) (oMv (eget e 4))) (some 56) e M fun e M =>
    nx (aGuard (some ((eget e 54), false)) (oBin cx.P .neq 2 (eget e 55) (eget e 56) M)) (some 57) e M fun e M =>
    nx (keep (aPick (eget e 54) (.bool true) (eget e 57))) (some 58) e M fun e M =>
    some (e, M)).map fun q => (prune [0, 3, 4, 6, 58] q.1, q.2)
noncomputable def f3_r13 (call : CallF) : Env → Mem → Option (Env × Mem) := fun e M =>
    (nx (oMv (.bool false)) (some 2) e M fun e M =>
    some (e, M)).map fun q => (prune [2] q.1, q.2)
noncomputable def f3_r14 (call : CallF) : Env → Mem → Option (Env × Mem) := fun e M =>
    (nx (oMv (.int .i64 1)) (some 9) e M fun e M =>
    some (e, M)).map fun q => (prune [0, 3, 4, 6, 9] q.1, q.2)
noncomputable def f3_r15 (call : CallF) : Env → Mem → Option (Env × Mem) := fun e M =>
    (nx (keep (aLoad true 3 (eget e 6) M)) (some 59) e M fun e M =>
    nx (oMv (eget e 9)) (some 60) e M fun e M =>
    nx (aCall cx.P.cellsOf cx.rw call false M.length 10 [(eget e 59), (eget e 60)] M) (some 61) e M fun e M =>
    nx (oMv (eget e 61)) (some 9) e M fun e M =>
    some (e, M)).map fun q => (prune [0, 3, 4, 6, 9] q.1, q.2)
noncomputable def f3_r16 (call : CallF) : Env → Mem → Option (Env × Mem) := fun e M =>
    (nx (oMv (.int .i64 1)) (some 10) e M fun e M =>
    some (e, M)).map fun q => (prune [0, 3, 4, 6, 9, 10] q.1, q.2)
noncomputable def f3_r17 (call : CallF) : Env → Mem → Option (Env × Mem) := fun e M =>
    (nx (keep (aLoad true 3 (eget e 6) M)) (some 62) e M fun e M =>
    nx (oMv (eget e 10)) (some 63) e M fun e M =>
    nx (aCall cx.P.cellsOf cx.rw call false M.length 11 [(eget e 62), (eget e 63)] M) (some 64) e M fun e M =>
    nx (oMv (eget e 64)) (some 10) e M fun e M =>
    some (e, M)).map fun q => (prune [0, 3, 4, 6, 9, 10] q.1, q.2)
noncomputable def f3_r18 (call : CallF) : Env → Mem → Option (Env × Mem) := fun e M =>
    (nx (oMv (eget e 10)) (some 65) e M fun e M =>
    nx (oBin cx.P .lss 3 (eget e 65) (.int .i64 0) M) (some 66) e M fun e M =>
    some (e, M)).map fun q => (prune [0, 3, 4, 6, 9, 10, 66] q.1, q.2)
noncomputable def f3_r19 (call : CallF) : Env → Mem → Option (Env × Mem) := fun e M =>
    (nx (oMv (.bool false)) (some 2) e M fun e M =>
    some (e, M)).map fun q => (prune [2] q.1, q.2)
noncomputable def f3_r20 (call : CallF) : Env → Mem → Option (Env × Mem) := fun e M =>
    (nx (oMv (eget e 10)) (some 67) e M fun e M =>
    nx (oMv (eget e 9)) (some 68) e M fun e M =>
    nx (oBin cx.P .neq 3 (eget e 67) (eget e 68) M) (some 69) e M fun e M =>
    some (e, M)).map fun q => (prune [0, 3, 4, 6, 9, 69] q.1, q.2)
noncomputable def f3_r21 (call : CallF) : Env → Mem → Option (Env × Mem) := fun e M =>
    (nx (oMv (.bool false)) (some 2) e M fun e M =>
    some (e, M)).map fun q => (prune [2] q.1, q.2)
noncomputable def f3_r22 (call : CallF) : Env → Mem → Option (Env × Mem) := fun e M =>
    (nx (oMv (eget e 0)) (some 71) e M fun e M =>
    nx (aCall cx.P.cellsOf cx.rw call false M.length 5 [(eget e 71)] M) (some 72) e M fun e M =>
    nx (aCall cx.P.cellsOf cx.rw call true M.length 6 [(eget e 72)] M) (some 73) e M fun e M =>
    nx (oMv (eget e 73)) (some 70) e M fun e M =>
    nx (keep (aExtract 0 (eget e 70))) (some 74) e M fun e M =>
    nx (keep (aExtract 1 (eget e 70))) (some 75) e M fun e M =>
    nx (oAlloc cx.P M.length 25 3) (some 11) e M fun e M =>
    nx (oStore 3 (eget e 11) (eget e 74) M) none e M fun e M =>
    nx (oMv (eget e 75)) (some 12) e M fun e M =>
    some (e, M)).map fun q => (prune [3, 4, 6, 9, 11, 12] q.1, q.2)
noncomputable def f3_r23 (call : CallF) : Env → Mem → Option (Env × Mem) := fun e M =>
    (nx (keep (aLoad true 3 (eget e 11) M)) (some 76) e M fun e M =>
    nx (keep (aLoad true 3 (eget e 3) M)) (some 77) e M fun e M =>
    nx (aCall cx.P.cellsOf cx.rw call false M.length 7 [(eget e 76), (eget e 77)] M) (some 78) e M fun e M =>
    nx (keep (aUn .not (eget e 78))) (some 79) e M fun e M =>
    nx (oMv (eget e 79)) (some 80) e M fun e M =>
    nx (aGuard (some ((eget e 80), false)) (oMv (eget e 12))) (some 81) e M fun e M =>
    nx (aGuard (some ((eget e 80), false)) (oMv (eget e 4))) (some 82) e M fun e M =>
    nx (aGuard (some ((eget e 80), false)) (oBin cx.P .neq 2 (eget e 81) (eget e 82) M)) (some 83) e M fun e M =>
    nx (keep (aPick (eget e 80) (.bool true) (eget e 83))) (some 84) e M fun e M =>
    some (e, M)).map fun q => (prune [6, 9, 84] q.1, q.2)
noncomputable def f3_r24 (call : CallF) : Env → Mem → Option (Env × Mem) := fun e M =>
    (nx (oMv (.bool false)) (some 2) e M fun e M =>
    some (e, M)).map fun q => (prune [2] q.1, q.2)
noncomputable def f3_r25 (call : CallF) : Env → Mem → Option (Env × Mem) := fun e M =>
    (nx (oMv (.int .i64 1)) (some 10) e M fun e M =>
    some (e, M)).map fun q => (prune [6, 9, 10] q.1, q.2)
noncomputable def f3_r26 (call : CallF) : Env → Mem → Option (Env × Mem) := fun e M =>
    (nx (keep (aLoad true 3 (eget e 6) M)) (some 85) e M fun e M =>
    nx (oMv (eget e 10)) (some 86) e M fun e M =>
    nx (aCall cx.P.cellsOf cx.rw call false M.length 11 [(eget e 85), (eget e 86)] M) (some 87) e M fun e M =>
    nx (oMv (eget e 87)) (some 10) e M fun e M =>
    some (e, M)).map fun q => (prune [9, 10] q.1, q.2)
noncomputable def f3_r27 (call : CallF) : Env → Mem → Option (Env × Mem) := fun e M =>
    (nx (oMv (eget e 10)) (some 88) e M fun e M =>
    nx (oBin cx.P .lss 3 (eget e 88) (.int .i64 0) M) (some 89) e M fun e M =>
    some (e, M)).map fun q => (prune [9, 10, 89] q.1, q.2)
noncomputable def f3_r28 (call : CallF) : Env → Mem → Option (Env × Mem) := fun e M =>
    (nx (oMv (.bool false)) (some 2) e M fun e M =>
    some (e, M)).map fun q => (prune [2] q.1, q.2)
noncomputable def f3_r29 (call : CallF) : Env → Mem → Option (Env × Mem) := fun e M =>
    (nx (oMv (eget e 10)) (some 90) e M fun e M =>
    nx (oMv (eget e 9)) (some 91) e M fun e M =>
    nx (oBin cx.P .neq 3 (eget e 90) (eget e 91) M) (some 92) e M fun e M =>
    some (e, M)).map fun q => (prune [92] q.1, q.2)
noncomputable def f3_r30 (call : CallF) : Env → Mem → Option (Env × Mem) := fun e M =>
    (nx (oMv (.bool false)) (some 2) e M fun e M =>
    some (e, M)).map fun q => (prune [2] q.1, q.2)
noncomputable def f3_r31 (call : CallF) : Env → Mem → Option (Env × Mem) := fun e M =>
    (nx (oMv (.bool true)) (some 2) e M fun e M =>
    some (e, M)).map fun q => (prune [2] q.1, q.2)
noncomputable def f3 (call : CallF) (k : Nat) : St :=
  (bSeq (bReg (f3_r0 call))
  (bSeq (bSeq (bReg (f3_r1 call))
  (bCond (.tmp 15)
   (bSeq (bReg (f3_r2 call))
   (bEx .ret))
   (bEx .nrm)))
  (bSeq (bReg (f3_r3 call))
  (bSeq (bReg (f3_r4 call))
  (bSeq (bReg (f3_r5 call))
  (bSeq (bSeq (bReg (f3_r6 call))
  (bCond (.tmp 37)
   (bSeq (bReg (f3_r7 call))
   (bEx .ret))
   (bEx .nrm)))
  (bSeq (bSeq (bReg (f3_r8 call))
  (bCond (.tmp 42)
   (bSeq (bReg (f3_r9 call))
   (bEx .ret))
   (bEx .nrm)))
  (bSeq (bReg (f3_r10 call))
  (bSeq (bReg (f3_r11 call))
  (bSeq (bSeq (bReg (f3_r12 call))
  (bCond (.tmp 58)
   (bSeq (bReg (f3_r13 call))
   (bEx .ret))
   (bEx .nrm)))
  (bSeq (bReg (f3_r14 call))
  (bSeq (bReg (f3_r15 call))
  (bSeq (bReg (f3_r16 call))
  (bSeq (bReg (f3_r17 call))
  (bSeq (bSeq (bReg (f3_r18 call))
  (bCond (.tmp 66)
   (bSeq (bReg (f3_r19 call))
   (bEx .ret))
   (bEx .nrm)))
  (bSeq (bSeq (bReg (f3_r20 call))
  (bCond (.tmp 69)
   (bSeq (bReg (f3_r21 call))
   (bEx .ret))
   (bEx .nrm)))
  (bSeq (bReg (f3_r22 call))
  (bSeq (bSeq (bReg (f3_r23 call))
  (bCond (.tmp 84)
   (bSeq (bReg (f3_r24 call))
   (bEx .ret))
   (bEx .nrm)))
  (bSeq (bReg (f3_r25 call))
  (bSeq (bReg (f3_r26 call))
  (bSeq (bSeq (bReg (f3_r27 call))
  (bCond (.tmp 89)
   (bSeq (bReg (f3_r28 call))
   (bEx .ret))
   (bEx .nrm)))
  (bSeq (bSeq (bReg (f3_r29 call))
  (bCond (.tmp 92)
   (bSeq (bReg (f3_r30 call))
   (bEx .ret))
   (bEx .nrm)))
  (bSeq (bReg (f3_r31 call))
  (bEx .ret))))))))))))))))))))))))
theorem f3_eq (call : CallF) (k : Nat) : exec cx call 93 f3_an k (Try.f3.body.getD .skip) = f3 call k := by kernel_rfl
/-! ### f4: loop.example/g01263/spec.NewBook -/
def f4_an : Ann := ⟨[(0, ⟨[], [], [], [], [0, 2]⟩), (1, ⟨[], [], [], [], [0, 2, 6]⟩), (2, ⟨[], [], [], [], [2, 3]⟩), (3, ⟨[0, 2], [], [], [], [2, 3]⟩)], []⟩
noncomputable def f4_r0 (call : CallF) : Env → Mem → Option (Env × Mem) := fun e M =>
    (nx (oAlloc cx.P M.length 25 3) (some 2) e M fun e M =>
    nx (oMv (.int .i64 0)) (some 3) e M fun e M =>
    some (e, M)).map fun q => (prune [0, 2] q.1, q.2)
noncomputable def f4_r1 (call : CallF) : Env → Mem → Option (Env × Mem) := fun e M =>
    (nx (oMv (eget e 0)) (some 4) e M fun e M =>
    nx (aCall cx.P.cellsOf cx.rw call false M.length 12 [(eget e 4)] M) (some 5) e M fun e M =>
    nx (keep (aUn .not (eget e 5))) (some 6) e M fun e M =>
    some (e, M)).map fun q => (prune [0, 2, 6] q.1, q.2)
noncomputable def f4_r2 (call : CallF) : Env → Mem → Option (Env × Mem) := fun e M =>
    (nx (keep (aBuild (zeroOf cx.P 25) [] M)) (some 7) e M fun e M =>
    nx (oStore 3 (eget e 2) (eget e 7) M) none e M fun e M =>
    nx (oMv (.int .i64 2)) (some 3) e M fun e M =>
    some (e, M)).map fun q => (prune [2, 3] q.1, q.2)
noncomputable def f4_r3 (call : CallF) : Env → Mem → Option (Env × Mem) := fun e M =>
    (nx (aLitO M.length 2 1 [] M) (some 8) e M fun e M =>
    nx (oMv (eget e 0)) (some 9) e M fun e M =>
    nx (aAppO M.length 2 1 8 (eget e 8) (eget e 9) M) (some 10) e M fun e M =>
    nx (keep (aBuild (zeroOf cx.P 25) [(1, 1, (eget e 10))] M)) (some 11) e M fun e M =>
    nx (oStore 3 (eget e 2) (eget e 11) M) none e M fun e M =>
    nx (oMv (.int .i64 0)) (some 3) e M fun e M =>
    some (e, M)).map fun q => (prune [2, 3] q.1, q.2)
noncomputable def f4 (call : CallF) (k : Nat) : St :=
  (bSeq (bReg (f4_r0 call))
  (bSeq (bSeq (bReg (f4_r1 call))
  (bCond (.tmp 6)
   (bSeq (bReg (f4_r2 call))
   (bEx .ret))
   (bEx .nrm)))
  (bSeq (bReg (f4_r3 call))
  (bEx .ret))))
theorem f4_eq (call : CallF) (k : Nat) : exec cx call 12 f4_an k (Try.f4.body.getD .skip) = f4 call k := by kernel_rfl
/-! ### f5: loop.example/g01263/laws.toInt64S -/
def f5_an : Ann := ⟨[(0, ⟨[], [], [], [], [0]⟩), (1, ⟨[], [], [], [], [0, 3]⟩), (2, ⟨[], [], [], [], [0, 3, 4]⟩), (3, ⟨[], [], [], [], [0, 3, 4, 11]⟩), (4, ⟨[], [], [], [], [0, 3, 4]⟩), (5, ⟨[], [], [], [], [0, 3, 4]⟩), (6, ⟨[], [], [], [], [2]⟩)], [(3, [0, 3, 4])]⟩
noncomputable def f5_r0 (call : CallF) : Env → Mem → Option (Env × Mem) := fun e M =>
    (nx (oMv .nils) (some 2) e M fun e M =>
    some (e, M)).map fun q => (prune [0] q.1, q.2)
noncomputable def f5_r1 (call : CallF) : Env → Mem → Option (Env × Mem) := fun e M =>
    (nx (oMv (eget e 0)) (some 5) e M fun e M =>
    nx (oLen cx.P 22 (eget e 5) M) (some 6) e M fun e M =>
    nx (aMakeO M.length 2 1 8 (zeroOf cx.P 2) (eget e 6) (eget e 6)) (some 7) e M fun e M =>
    nx (oMv (eget e 7)) (some 3) e M fun e M =>
    some (e, M)).map fun q => (prune [0, 3] q.1, q.2)
noncomputable def f5_r2 (call : CallF) : Env → Mem → Option (Env × Mem) := fun e M =>
    (nx (oMv (.int .i64 0)) (some 4) e M fun e M =>
    some (e, M)).map fun q => (prune [0, 3, 4] q.1, q.2)
noncomputable def f5_r3 (call : CallF) : Env → Mem → Option (Env × Mem) := fun e M =>
    (nx (oMv (eget e 4)) (some 8) e M fun e M =>
    nx (oMv (eget e 0)) (some 9) e M fun e M =>
    nx (oLen cx.P 22 (eget e 9) M) (some 10) e M fun e M =>
    nx (oBin cx.P .lss 3 (eget e 8) (eget e 10) M) (some 11) e M fun e M =>
    some (e, M)).map fun q => (prune [0, 3, 4, 11] q.1, q.2)
noncomputable def f5_r4 (call : CallF) : Env → Mem → Option (Env × Mem) := fun e M =>
    (nx (oMv (eget e 4)) (some 12) e M fun e M =>
    nx (oBin cx.P .add 3 (eget e 12) (.int .i64 1) M) (some 13) e M fun e M =>
    nx (oMv (eget e 13)) (some 4) e M fun e M =>
    some (e, M)).map fun q => (prune [0, 3, 4] q.1, q.2)
noncomputable def f5_r5 (call : CallF) : Env → Mem → Option (Env × Mem) := fun e M =>
    (nx (oMv (eget e 3)) (some 14) e M fun e M =>
    nx (oMv (eget e 4)) (some 15) e M fun e M =>
    nx (oMv (eget e 0)) (some 16) e M fun e M =>
    nx (oMv (eget e 4)) (some 17) e M fun e M =>
    nx (keep (aIndexS 1 (eget e 16) (eget e 17) M)) (some 18) e M fun e M =>
    nx (keep (aLoad false 1 (eget e 18) M)) (some 19) e M fun e M =>
    nx (keep (aIndexS 1 (eget e 14) (eget e 15) M)) (some 20) e M fun e M =>
    nx (oStore 1 (eget e 20) (eget e 19) M) none e M fun e M =>
    some (e, M)).map fun q => (prune [0, 3, 4] q.1, q.2)
noncomputable def f5_r6 (call : CallF) : Env → Mem → Option (Env × Mem) := fun e M =>
    (nx (oMv (eget e 3)) (some 21) e M fun e M =>
    nx (oMv (eget e 21)) (some 2) e M fun e M =>
    some (e, M)).map fun q => (prune [2] q.1, q.2)
noncomputable def f5_l3 (call : CallF) (k : Nat) : St :=
  (bSeq (bSeq (bReg (f5_r3 call))
  (bCond (.tmp 11)
   (bEx .nrm)
   (bEx (.ext 0))))
  (bSeq (bBlock 1 (bReg (f5_r5 call)))
  (bReg (f5_r4 call))))
noncomputable def f5 (call : CallF) (k : Nat) : St :=
  (bSeq (bReg (f5_r0 call))
  (bSeq (bReg (f5_r1 call))
  (bSeq (bSeq (bReg (f5_r2 call))
  (bBlock 0 (bLoop [0, 3, 4] (f5_l3 call k) k)))
  (bSeq (bReg (f5_r6 call))
  (bEx .ret)))))
theorem f5_eq (call : CallF) (k : Nat) : exec cx call 22 f5_an k (Try.f5.body.getD .skip) = f5 call k := by kernel_rfl
/-! ### f6: loop.example/g01263/impl.NewBook -/
def f6_an : Ann := ⟨[(0, ⟨[], [], [], [], [0, 2]⟩), (1, ⟨[], [1], [], [], [2, 4]⟩), (2, ⟨[], [], [], [], [2, 4, 10]⟩), (3, ⟨[], [], [], [], [2, 3]⟩), (4, ⟨[], [], [], [], [2, 3]⟩)], []⟩
noncomputable def f6_r0 (call : CallF) : Env → Mem → Option (Env × Mem) := fun e M =>
    (nx (oAlloc cx.P M.length 25 3) (some 2) e M fun e M =>
    nx (oMv (.int .i64 0)) (some 3) e M fun e M =>
    some (e, M)).map fun q => (prune [0, 2] q.1, q.2)
noncomputable def f6_r1 (call : CallF) : Env → Mem → Option (Env × Mem) := fun e M =>
    (nx (oMv (eget e 0)) (some 5) e M fun e M =>
    nx (aCall cx.P.cellsOf cx.rw call true M.length 13 [(eget e 5)] M) (some 6) e M fun e M =>
    nx (keep (aBuild (zeroOf cx.P 25) [(1, 1, (eget e 6))] M)) (some 7) e M fun e M =>
    nx (oAlloc cx.P M.length 25 3) (some 4) e M fun e M =>
    nx (oStore 3 (eget e 4) (eget e 7) M) none e M fun e M =>
    some (e, M)).map fun q => (prune [2, 4] q.1, q.2)
noncomputable def f6_r2 (call : CallF) : Env → Mem → Option (Env × Mem) := fun e M =>
    (nx (keep (aLoad true 3 (eget e 4) M)) (some 8) e M fun e M =>
    nx (aCall cx.P.cellsOf cx.rw call false M.length 14 [(eget e 8)] M) (some 9) e M fun e M =>
    nx (keep (aUn .not (eget e 9))) (some 10) e M fun e M =>
    some (e, M)).map fun q => (prune [2, 4, 10] q.1, q.2)
noncomputable def f6_r3 (call : CallF) : Env → Mem → Option (Env × Mem) := fun e M =>
    (nx (keep (aBuild (zeroOf cx.P 25) [] M)) (some 11) e M fun e M =>
    nx (oStore 3 (eget e 2) (eget e 11) M) none e M fun e M =>
    nx (oMv (.int .i64 2)) (some 3) e M fun e M =>
    some (e, M)).map fun q => (prune [2, 3] q.1, q.2)
noncomputable def f6_r4 (call : CallF) : Env → Mem → Option (Env × Mem) := fun e M =>
    (nx (keep (aLoad true 3 (eget e 4) M)) (some 12) e M fun e M =>
    nx (oStore 3 (eget e 2) (eget e 12) M) none e M fun e M =>
    nx (oMv (.int .i64 0)) (some 3) e M fun e M =>
    some (e, M)).map fun q => (prune [2, 3] q.1, q.2)
noncomputable def f6 (call : CallF) (k : Nat) : St :=
  (bSeq (bReg (f6_r0 call))
  (bSeq (bReg (f6_r1 call))
  (bSeq (bSeq (bReg (f6_r2 call))
  (bCond (.tmp 10)
   (bSeq (bReg (f6_r3 call))
   (bEx .ret))
   (bEx .nrm)))
  (bSeq (bReg (f6_r4 call))
  (bEx .ret)))))
theorem f6_eq (call : CallF) (k : Nat) : exec cx call 13 f6_an k (Try.f6.body.getD .skip) = f6 call k := by kernel_rfl
/-! ### f7: loop.example/g01263/laws.eqBook -/
def f7_an : Ann := ⟨[(0, ⟨[], [], [], [], [2, 3]⟩), (1, ⟨[], [], [], [], [2, 3, 9]⟩), (2, ⟨[], [], [], [], [4]⟩), (3, ⟨[], [], [], [], [2, 3, 15]⟩), (4, ⟨[], [], [], [], [4]⟩), (5, ⟨[], [], [], [], [21]⟩), (6, ⟨[], [], [], [], [4]⟩), (7, ⟨[], [], [], [], [4]⟩)], []⟩
noncomputable def f7_r0 (call : CallF) : Env → Mem → Option (Env × Mem) := fun e M =>
    (nx (keep (aBox 3 (eget e 0) M)) (some 2) e M fun e M =>
    nx (keep (aBox 3 (eget e 1) M)) (some 3) e M fun e M =>
    nx (oMv (.bool false)) (some 4) e M fun e M =>
    some (e, M)).map fun q => (prune [2, 3] q.1, q.2)
noncomputable def f7_r1 (call : CallF) : Env → Mem → Option (Env × Mem) := fun e M =>
    (nx (keep (aFieldAddr 0 1 (eget e 2) M)) (some 5) e M fun e M =>
    nx (keep (aLoad false 1 (eget e 5) M)) (some 6) e M fun e M =>
    nx (keep (aFieldAddr 0 1 (eget e 3) M)) (some 7) e M fun e M =>
    nx (keep (aLoad false 1 (eget e 7) M)) (some 8) e M fun e M =>
    nx (oBin cx.P .neq 2 (eget e 6) (eget e 8) M) (some 9) e M fun e M =>
    some (e, M)).map fun q => (prune [2, 3, 9] q.1, q.2)
noncomputable def f7_r2 (call : CallF) : Env → Mem → Option (Env × Mem) := fun e M =>
    (nx (oMv (.bool false)) (some 4) e M fun e M =>
    some (e, M)).map fun q => (prune [4] q.1, q.2)
noncomputable def f7_r3 (call : CallF) : Env → Mem → Option (Env × Mem) := fun e M =>
    (nx (keep (aFieldAddr 1 1 (eget e 2) M)) (some 10) e M fun e M =>
    nx (keep (aLoad false 1 (eget e 10) M)) (some 11) e M fun e M =>
    nx (keep (aFieldAddr 1 1 (eget e 3) M)) (some 12) e M fun e M =>
    nx (keep (aLoad false 1 (eget e 12) M)) (some 13) e M fun e M =>
    nx (aCall cx.P.cellsOf cx.rw call false M.length 8 [(eget e 11), (eget e 13)] M) (some 14) e M fun e M =>
    nx (keep (aUn .not (eget e 14))) (some 15) e M fun e M =>
    some (e, M)).map fun q => (prune [2, 3, 15] q.1, q.2)
noncomputable def f7_r4 (call : CallF) : Env → Mem → Option (Env × Mem) := fun e M =>
    (nx (oMv (.bool false)) (some 4) e M fun e M =>
    some (e, M)).map fun q => (prune [4] q.1, q.2)
noncomputable def f7_r5 (call : CallF) : Env → Mem → Option (Env × Mem) := fun e M =>
    (nx (keep (aFieldAddr 2 1 (eget e 2) M)) (some 16) e M fun e M =>
    nx (keep (aLoad false 1 (eget e 16) M)) (some 17) e M fun e M =>
    nx (keep (aFieldAddr 2 1 (eget e 3) M)) (some 18) e M fun e M =>
    nx (keep (aLoad false 1 (eget e 18) M)) (some 19) e M fun e M =>
    nx (aCall cx.P.cellsOf cx.rw call false M.length 15 [(eget e 17), (eget e 19)] M) (some 20) e M fun e M =>
    nx (keep (aUn .not (eget e 20))) (some 21) e M fun e M =>
    some (e, M)).map fun q => (prune [21] q.1, q.2)
noncomputable def f7_r6 (call : CallF) : Env → Mem → Option (Env × Mem) := fun e M =>
    (nx (oMv (.bool false)) (some 4) e M fun e M =>
    some (e, M)).map fun q => (prune [4] q.1, q.2)
noncomputable def f7_r7 (call : CallF) : Env → Mem → Option (Env × Mem) := fun e M =>
    (nx (oMv (.bool true)) (some 4) e M fun e M =>
    some (e, M)).map fun q => (prune [4] q.1, q.2)
noncomputable def f7 (call : CallF) (k : Nat) : St :=
  (bSeq (bReg (f7_r0 call))
  (bSeq (bSeq (bReg (f7_r1 call))
  (bCond (.tmp 9)
   (bSeq (bReg (f7_r2 call))
   (bEx .ret))
   (bEx .nrm)))
  (bSeq (bSeq (bReg (f7_r3 call))
  (bCond (.tmp 15)
   (bSeq (bReg (f7_r4 call))
   (bEx .ret))
   (bEx .nrm)))
  (bSeq (bSeq (bReg (f7_r5 call))
  (bCond (.tmp 21)
   (bSeq (bReg (f7_r6 call))
   (bEx .ret))
   (bEx .nrm)))
  (bSeq (bReg (f7_r7 call))
  (bEx .ret))))))
theorem f7_eq (call : CallF) (k : Nat) : exec cx call 22 f7_an k (Try.f7.body.getD .skip) = f7 call k := by kernel_rfl
/-! ### f8: loop.example/g01263/laws.eqInt64S -/
def f8_an : Ann := ⟨[(0, ⟨[], [], [], [], [0, 1]⟩), (1, ⟨[], [], [], [], [0, 1, 10]⟩), (2, ⟨[], [], [], [], [4]⟩), (3, ⟨[], [], [], [], [0, 1, 5]⟩), (4, ⟨[], [], [], [], [0, 1, 5, 14]⟩), (5, ⟨[], [], [], [], [0, 1, 5]⟩), (6, ⟨[], [], [], [], [0, 1, 5, 25]⟩), (7, ⟨[], [], [], [], [4]⟩), (8, ⟨[], [], [], [], [4]⟩)], [(4, [0, 1, 5])]⟩
noncomputable def f8_r0 (call : CallF) : Env → Mem → Option (Env × Mem) := fun e M =>
    (nx (oMv (.bool false)) (some 4) e M fun e M =>
    some (e, M)).map fun q => (prune [0, 1] q.1, q.2)
noncomputable def f8_r1 (call : CallF) : Env → Mem → Option (Env × Mem) := fun e M =>
    (nx (oMv (eget e 0)) (some 6) e M fun e M =>
    nx (oLen cx.P 22 (eget e 6) M) (some 7) e M fun e M =>
    nx (oMv (eget e 1)) (some 8) e M fun e M =>
    nx (oLen cx.P 22 (eget e 8) M) (some 9) e M fun e M =>
    nx (oBin cx.P .neq 3 (eget e 7) (eget e 9) M) (some 10) e M fun e M =>
    some (e, M)).map fun q => (prune [0, 1, 10] q.1, q.2)
noncomputable def f8_r2 (call : CallF) : Env → Mem → Option (Env × Mem) := fun e M =>
    (nx (oMv (.bool false)) (some 4) e M fun e M =>
    some (e, M)).map fun q => (prune [4] q.1, q.2)
noncomputable def f8_r3 (call : CallF) : Env → Mem → Option (Env × Mem) := fun e M =>
    (nx (oMv (.int .i64 0)) (some 5) e M fun e M =>
    some (e, M)).map fun q => (prune [0, 1, 5] q.1, q.2)
noncomputable def f8_r4 (call : CallF) : Env → Mem → Option (Env × Mem) := fun e M =>
    (nx (oMv (eget e 5)) (some 11) e M fun e M =>
    nx (oMv (eget e 0)) (some 12) e M fun e M =>
    nx (oLen cx.P 22 (eget e 12) M) (some 13) e M fun e M =>
    nx (oBin cx.P .lss 3 (eget e 11) (eget e 13) M) (some 14) e M fun e M =>
    some (e, M)).map fun q => (prune [0, 1, 5, 14] q.1, q.2)
noncomputable def f8_r5 (call : CallF) : Env → Mem → Option (Env × Mem) := fun e M =>
    (nx (oMv (eget e 5)) (some 15) e M fun e M =>
    nx (oBin cx.P .add 3 (eget e 15) (.int .i64 1) M) (some 16) e M fun e M =>
    nx (oMv (eget e 16)) (some 5) e M fun e M =>
    some (e, M)).map fun q => (prune [0, 1, 5] q.1, q.2)
noncomputable def f8_r6 (call : CallF) : Env → Mem → Option (Env × Mem) := fun e M =>
    rD [0, 1, 5, 25] (fun (C : List Ob) =>
    nf (oMv (eget e 0)) (some 17) false e C fun e C =>
    nf (oMv (eget e 5)) (some 18) false e C fun e C =>
    nf (keep (aIndexS 1 (eget e 17) (eget e 18) M)) (some 19) false e C fun e C =>
    nf (keep (aLoad false 1 (eget e 19) M)) (some 20) false e C fun e C =>
    nf (oMv (eget e 1)) (some 21) false e C fun e C =>
    nf (oMv (eget e 5)) (some 22) false e C fun e C =>
    nf (keep (aIndexS 1 (eget e 21) (eget e 22) M)) (some 23) false e C fun e C =>
    nf (keep (aLoad false 1 (eget e 23) M)) (some 24) false e C fun e C =>
    nf (oBin cx.P .neq 2 (eget e 20) (eget e 24) M) (some 25) false e C fun e C =>
    some (e, C)) (fun (e : Env) (M : Mem) =>
    some (e, M)) M
noncomputable def f8_r7 (call : CallF) : Env → Mem → Option (Env × Mem) := fun e M =>
    (nx (oMv (.bool false)) (some 4) e M fun e M =>
    some (e, M)).map fun q => (prune [4] q.1, q.2)
noncomputable def f8_r8 (call : CallF) : Env → Mem → Option (Env × Mem) := fun e M =>
    (nx (oMv (.bool true)) (some 4) e M fun e M =>
    some (e, M)).map fun q => (prune [4] q.1, q.2)
noncomputable def f8_l4 (call : CallF) (k : Nat) : St :=
  (bSeq (bSeq (bReg (f8_r4 call))
  (bCond (.tmp 14)
   (bEx .nrm)
   (bEx (.ext 0))))
  (bSeq (bBlock 1 (bSeq (bReg (f8_r6 call))
   (bCond (.tmp 25)
    (bSeq (bReg (f8_r7 call))
    (bEx .ret))
    (bEx .nrm))))
  (bReg (f8_r5 call))))
noncomputable def f8 (call : CallF) (k : Nat) : St :=
  (bSeq (bReg (f8_r0 call))
  (bSeq (bSeq (bReg (f8_r1 call))
  (bCond (.tmp 10)
   (bSeq (bReg (f8_r2 call))
   (bEx .ret))
   (bEx .nrm)))
  (bSeq (bSeq (bReg (f8_r3 call))
  (bBlock 0 (bLoop [0, 1, 5] (f8_l4 call k) k)))
  (bSeq (bReg (f8_r8 call))
  (bEx .ret)))))
theorem f8_eq (call : CallF) (k : Nat) : exec cx call 26 f8_an k (Try.f8.body.getD .skip) = f8 call k := by kernel_rfl
/-! ### f9: loop.example/g01263/laws.markInt64S -/
def f9_an : Ann := ⟨[(0, ⟨[], [], [], [], [0, 1]⟩), (1, ⟨[], [], [], [], [0, 1, 5]⟩), (2, ⟨[], [], [], [], [0, 1, 5, 9]⟩), (3, ⟨[], [], [], [], [0, 1, 5]⟩), (4, ⟨[], [], [], [], [0, 1, 5]⟩), (5, ⟨[], [], [], [], [0, 1, 5]⟩), (6, ⟨[], [], [], [], [4]⟩)], [(2, [0, 1, 5])]⟩
noncomputable def f9_r0 (call : CallF) : Env → Mem → Option (Env × Mem) := fun e M =>
    (nx (oMv (.int .i64 0)) (some 4) e M fun e M =>
    some (e, M)).map fun q => (prune [0, 1] q.1, q.2)
noncomputable def f9_r1 (call : CallF) : Env → Mem → Option (Env × Mem) := fun e M =>
    (nx (oMv (.int .i64 0)) (some 5) e M fun e M =>
    some (e, M)).map fun q => (prune [0, 1, 5] q.1, q.2)
noncomputable def f9_r2 (call : CallF) : Env → Mem → Option (Env × Mem) := fun e M =>
    (nx (oMv (eget e 5)) (some 6) e M fun e M =>
    nx (oMv (eget e 0)) (some 7) e M fun e M =>
    nx (oLen cx.P 22 (eget e 7) M) (some 8) e M fun e M =>
    nx (oBin cx.P .lss 3 (eget e 6) (eget e 8) M) (some 9) e M fun e M =>
    some (e, M)).map fun q => (prune [0, 1, 5, 9] q.1, q.2)
noncomputable def f9_r3 (call : CallF) : Env → Mem → Option (Env × Mem) := fun e M =>
    (nx (oMv (eget e 5)) (some 10) e M fun e M =>
    nx (oBin cx.P .add 3 (eget e 10) (.int .i64 1) M) (some 11) e M fun e M =>
    nx (oMv (eget e 11)) (some 5) e M fun e M =>
    some (e, M)).map fun q => (prune [0, 1, 5] q.1, q.2)
noncomputable def f9_r4 (call : CallF) : Env → Mem → Option (Env × Mem) := fun e M =>
    (nx (oMv (eget e 0)) (some 12) e M fun e M =>
    nx (oMv (eget e 5)) (some 13) e M fun e M =>
    nx (oMv (eget e 1)) (some 14) e M fun e M =>
    nx (keep (aIndexS 1 (eget e 12) (eget e 13) M)) (some 15) e M fun e M =>
    nx (oStore 1 (eget e 15) (eget e 14) M) none e M fun e M =>
    some (e, M)).map fun q => (prune [0, 1, 5] q.1, q.2)
noncomputable def f9_r5 (call : CallF) : Env → Mem → Option (Env × Mem) := fun e M =>
    (nx (oMv (eget e 1)) (some 16) e M fun e M =>
    nx (oBin cx.P .add 3 (eget e 16) (.int .i64 1) M) (some 17) e M fun e M =>
    nx (oMv (eget e 17)) (some 1) e M fun e M =>
    some (e, M)).map fun q => (prune [0, 1, 5] q.1, q.2)
noncomputable def f9_r6 (call : CallF) : Env → Mem → Option (Env × Mem) := fun e M =>
    (nx (oMv (eget e 1)) (some 18) e M fun e M =>
    nx (oMv (eget e 18)) (some 4) e M fun e M =>
    some (e, M)).map fun q => (prune [4] q.1, q.2)
noncomputable def f9_l2 (call : CallF) (k : Nat) : St :=
  (bSeq (bSeq (bReg (f9_r2 call))
  (bCond (.tmp 9)
   (bEx .nrm)
   (bEx (.ext 0))))
  (bSeq (bBlock 1 (bSeq (bReg (f9_r4 call))
   (bReg (f9_r5 call))))
  (bReg (f9_r3 call))))
noncomputable def f9 (call : CallF) (k : Nat) : St :=
  (bSeq (bReg (f9_r0 call))
  (bSeq (bSeq (bReg (f9_r1 call))
  (bBlock 0 (bLoop [0, 1, 5] (f9_l2 call k) k)))
  (bSeq (bReg (f9_r6 call))
  (bEx .ret))))
theorem f9_eq (call : CallF) (k : Nat) : exec cx call 19 f9_an k (Try.f9.body.getD .skip) = f9 call k := by kernel_rfl
/-! ### f10: loop.example/g01263/laws.markBook -/
def f10_an : Ann := ⟨[(0, ⟨[0], [], [], [], [1, 2]⟩), (1, ⟨[], [], [], [], [1, 2]⟩), (2, ⟨[], [], [], [], [1]⟩), (3, ⟨[], [], [], [], [4]⟩)], []⟩
noncomputable def f10_r0 (call : CallF) : Env → Mem → Option (Env × Mem) := fun e M =>
    (nx (aBoxO M.length 25 3 (eget e 0) M) (some 2) e M fun e M =>
    nx (oMv (.int .i64 0)) (some 4) e M fun e M =>
    some (e, M)).map fun q => (prune [1, 2] q.1, q.2)
noncomputable def f10_r1 (call : CallF) : Env → Mem → Option (Env × Mem) := fun e M =>
    (nx (keep (aFieldAddr 1 1 (eget e 2) M)) (some 5) e M fun e M =>
    nx (keep (aLoad false 1 (eget e 5) M)) (some 6) e M fun e M =>
    nx (oMv (eget e 1)) (some 7) e M fun e M =>
    nx (aCall cx.P.cellsOf cx.rw call false M.length 9 [(eget e 6), (eget e 7)] M) (some 8) e M fun e M =>
    nx (oMv (eget e 8)) (some 1) e M fun e M =>
    some (e, M)).map fun q => (prune [1, 2] q.1, q.2)
noncomputable def f10_r2 (call : CallF) : Env → Mem → Option (Env × Mem) := fun e M =>
    (nx (keep (aFieldAddr 2 1 (eget e 2) M)) (some 9) e M fun e M =>
    nx (keep (aLoad false 1 (eget e 9) M)) (some 10) e M fun e M =>
    nx (oMv (eget e 1)) (some 11) e M fun e M =>
    nx (aCall cx.P.cellsOf cx.rw call false M.length 16 [(eget e 10), (eget e 11)] M) (some 12) e M fun e M =>
    nx (oMv (eget e 12)) (some 1) e M fun e M =>
    some (e, M)).map fun q => (prune [1] q.1, q.2)
noncomputable def f10_r3 (call : CallF) : Env → Mem → Option (Env × Mem) := fun e M =>
    (nx (oMv (eget e 1)) (some 13) e M fun e M =>
    nx (oMv (eget e 13)) (some 4) e M fun e M =>
    some (e, M)).map fun q => (prune [4] q.1, q.2)
noncomputable def f10 (call : CallF) (k : Nat) : St :=
  (bSeq (bReg (f10_r0 call))
  (bSeq (bReg (f10_r1 call))
  (bSeq (bReg (f10_r2 call))
  (bSeq (bReg (f10_r3 call))
  (bEx .ret)))))
theorem f10_eq (call : CallF) (k : Nat) : exec cx call 14 f10_an k (Try.f10.body.getD .skip) = f10 call k := by kernel_rfl
/-! ### f11: loop.example/g01263/laws.heldBook -/
def f11_an : Ann := ⟨[(0, ⟨[], [], [], [], [1, 2]⟩), (1, ⟨[], [], [], [], [1, 2]⟩), (2, ⟨[], [], [], [], [1, 2, 10]⟩), (3, ⟨[], [], [], [], [4]⟩), (4, ⟨[], [], [], [], [1]⟩), (5, ⟨[], [], [], [], [1, 16]⟩), (6, ⟨[], [], [], [], [4]⟩), (7, ⟨[], [], [], [], [4]⟩)], []⟩
noncomputable def f11_r0 (call : CallF) : Env → Mem → Option (Env × Mem) := fun e M =>
    (nx (keep (aBox 3 (eget e 0) M)) (some 2) e M fun e M =>
    nx (oMv (.int .i64 0)) (some 4) e M fun e M =>
    some (e, M)).map fun q => (prune [1, 2] q.1, q.2)
noncomputable def f11_r1 (call : CallF) : Env → Mem → Option (Env × Mem) := fun e M =>
    (nx (keep (aFieldAddr 1 1 (eget e 2) M)) (some 5) e M fun e M =>
    nx (keep (aLoad false 1 (eget e 5) M)) (some 6) e M fun e M =>
    nx (oMv (eget e 1)) (some 7) e M fun e M =>
    nx (aCall cx.P.cellsOf cx.rw call false M.length 17 [(eget e 6), (eget e 7)] M) (some 8) e M fun e M =>
    nx (oMv (eget e 8)) (some 1) e M fun e M =>
    some (e, M)).map fun q => (prune [1, 2] q.1, q.2)
noncomputable def f11_r2 (call : CallF) : Env → Mem → Option (Env × Mem) := fun e M =>
    (nx (oMv (eget e 1)) (some 9) e M fun e M =>
    nx (oBin cx.P .lss 3 (eget e 9) (.int .i64 0) M) (some 10) e M fun e M =>
    some (e, M)).map fun q => (prune [1, 2, 10] q.1, q.2)
noncomputable def f11_r3 (call : CallF) : Env → Mem → Option (Env × Mem) := fun e M =>
    (nx (oMv (.int .i64 (-1))) (some 4) e M fun e M =>
    some (e, M)).map fun q => (prune [4] q.1, q.2)
noncomputable def f11_r4 (call : CallF) : Env → Mem → Option (Env × Mem) := fun e M =>
    (nx (keep (aFieldAddr 2 1 (eget e 2) M)) (some 11) e M fun e M =>
    nx (keep (aLoad false 1 (eget e 11) M)) (some 12) e M fun e M =>
    nx (oMv (eget e 1)) (some 13) e M fun e M =>
    nx (aCall cx.P.cellsOf cx.rw call false M.length 18 [(eget e 12), (eget e 13)] M) (some 14) e M fun e M =>
    nx (oMv (eget e 14)) (some 1) e M fun e M =>
    some (e, M)).map fun q => (prune [1] q.1, q.2)
noncomputable def f11_r5 (call : CallF) : Env → Mem → Option (Env × Mem) := fun e M =>
    (nx (oMv (eget e 1)) (some 15) e M fun e M =>
    nx (oBin cx.P .lss 3 (eget e 15) (.int .i64 0) M) (some 16) e M fun e M =>
    some (e, M)).map fun q => (prune [1, 16] q.1, q.2)
noncomputable def f11_r6 (call : CallF) : Env → Mem → Option (Env × Mem) := fun e M =>
    (nx (oMv (.int .i64 (-1))) (some 4) e M fun e M =>
    some (e, M)).map fun q => (prune [4] q.1, q.2)
noncomputable def f11_r7 (call : CallF) : Env → Mem → Option (Env × Mem) := fun e M =>
    (nx (oMv (eget e 1)) (some 17) e M fun e M =>
    nx (oMv (eget e 17)) (some 4) e M fun e M =>
    some (e, M)).map fun q => (prune [4] q.1, q.2)
noncomputable def f11 (call : CallF) (k : Nat) : St :=
  (bSeq (bReg (f11_r0 call))
  (bSeq (bReg (f11_r1 call))
  (bSeq (bSeq (bReg (f11_r2 call))
  (bCond (.tmp 10)
   (bSeq (bReg (f11_r3 call))
   (bEx .ret))
   (bEx .nrm)))
  (bSeq (bReg (f11_r4 call))
  (bSeq (bSeq (bReg (f11_r5 call))
  (bCond (.tmp 16)
   (bSeq (bReg (f11_r6 call))
   (bEx .ret))
   (bEx .nrm)))
  (bSeq (bReg (f11_r7 call))
  (bEx .ret)))))))
theorem f11_eq (call : CallF) (k : Nat) : exec cx call 18 f11_an k (Try.f11.body.getD .skip) = f11 call k := by kernel_rfl
/-! ### f12: loop.example/g01263/spec.l07Cash -/
def f12_an : Ann := ⟨[(0, ⟨[], [], [], [], [0]⟩), (1, ⟨[], [], [], [], [0, 3]⟩), (2, ⟨[], [], [], [], [0, 3, 7]⟩), (3, ⟨[], [], [], [], [0, 3]⟩), (4, ⟨[], [], [], [], [0, 3, 15]⟩), (5, ⟨[], [], [], [], [2]⟩), (6, ⟨[], [], [], [], [2]⟩)], [(2, [0, 3])]⟩
noncomputable def f12_r0 (call : CallF) : Env → Mem → Option (Env × Mem) := fun e M =>
    (nx (oMv (.bool false)) (some 2) e M fun e M =>
    some (e, M)).map fun q => (prune [0] q.1, q.2)
noncomputable def f12_r1 (call : CallF) : Env → Mem → Option (Env × Mem) := fun e M =>
    (nx (oMv (.int .i64 0)) (some 3) e M fun e M =>
    some (e, M)).map fun q => (prune [0, 3] q.1, q.2)
noncomputable def f12_r2 (call : CallF) : Env → Mem → Option (Env × Mem) := fun e M =>
    (nx (oMv (eget e 3)) (some 4) e M fun e M =>
    nx (oMv (eget e 0)) (some 5) e M fun e M =>
    nx (oLen cx.P 22 (eget e 5) M) (some 6) e M fun e M =>
    nx (oBin cx.P .lss 3 (eget e 4) (eget e 6) M) (some 7) e M fun e M =>
    some (e, M)).map fun q => (prune [0, 3, 7] q.1, q.2)
noncomputable def f12_r3 (call : CallF) : Env → Mem → Option (Env × Mem) := fun e M =>
    (nx (oMv (eget e 3)) (some 8) e M fun e M =>
    nx (oBin cx.P .add 3 (eget e 8) (.int .i64 1) M) (some 9) e M fun e M =>
    nx (oMv (eget e 9)) (some 3) e M fun e M =>
    some (e, M)).map fun q => (prune [0, 3] q.1, q.2)
noncomputable def f12_r4 (call : CallF) : Env → Mem → Option (Env × Mem) := fun e M =>
    (nx (oMv (eget e 0)) (some 10) e M fun e M =>
    nx (oMv (eget e 3)) (some 11) e M fun e M =>
    nx (keep (aIndexS 1 (eget e 10) (eget e 11) M)) (some 12) e M fun e M =>
    nx (keep (aLoad false 1 (eget e 12) M)) (some 13) e M fun e M =>
    nx (aCall cx.P.cellsOf cx.rw call false M.length 19 [(eget e 13)] M) (some 14) e M fun e M =>
    nx (keep (aUn .not (eget e 14))) (some 15) e M fun e M =>
    some (e, M)).map fun q => (prune [0, 3, 15] q.1, q.2)
noncomputable def f12_r5 (call : CallF) : Env → Mem → Option (Env × Mem) := fun e M =>
    (nx (oMv (.bool false)) (some 2) e M fun e M =>
    some (e, M)).map fun q => (prune [2] q.1, q.2)
noncomputable def f12_r6 (call : CallF) : Env → Mem → Option (Env × Mem) := fun e M =>
    (nx (oMv (eget e 0)) (some 16) e M fun e M =>
    nx (oLen cx.P 22 (eget e 16) M) (some 17) e M fun e M =>
    nx (aCall cx.P.cellsOf cx.rw call false M.length 20 [(eget e 17), (.int .i64 1), (.int .i64 16)] M) (some 18) e M fun e M =>
    nx (oMv (eget e 18)) (some 2) e M fun e M =>
    some (e, M)).map fun q => (prune [2] q.1, q.2)
noncomputable def f12_l2 (call : CallF) (k : Nat) : St :=
  (bSeq (bSeq (bReg (f12_r2 call))
  (bCond (.tmp 7)
   (bEx .nrm)
   (bEx (.ext 0))))
  (bSeq (bBlock 1 (bSeq (bReg (f12_r4 call))
   (bCond (.tmp 15)
    (bSeq (bReg (f12_r5 call))
    (bEx .ret))
    (bEx .nrm))))
  (bReg (f12_r3 call))))
noncomputable def f12 (call : CallF) (k : Nat) : St :=
  (bSeq (bReg (f12_r0 call))
  (bSeq (bSeq (bReg (f12_r1 call))
  (bBlock 0 (bLoop [0, 3] (f12_l2 call k) k)))
  (bSeq (bReg (f12_r6 call))
  (bEx .ret))))
theorem f12_eq (call : CallF) (k : Nat) : exec cx call 19 f12_an k (Try.f12.body.getD .skip) = f12 call k := by kernel_rfl
/-! ### f13: slices.Clone[[]int64,int64] -/
def f13_an : Ann := ⟨[(0, ⟨[], [], [], [], [0]⟩), (1, ⟨[], [], [], [], [0, 4]⟩), (2, ⟨[], [], [], [], [2]⟩), (3, ⟨[], [], [], [], [2]⟩)], []⟩
noncomputable def f13_r0 (call : CallF) : Env → Mem → Option (Env × Mem) := fun e M =>
    (nx (oMv .nils) (some 2) e M fun e M =>
    some (e, M)).map fun q => (prune [0] q.1, q.2)
noncomputable def f13_r1 (call : CallF) : Env → Mem → Option (Env × Mem) := fun e M =>
    (nx (oMv (eget e 0)) (some 3) e M fun e M =>
    nx (oBin cx.P .eql 22 (eget e 3) .nils M) (some 4) e M fun e M =>
    some (e, M)).map fun q => (prune [0, 4] q.1, q.2)
noncomputable def f13_r2 (call : CallF) : Env → Mem → Option (Env × Mem) := fun e M =>
    (nx (oMv .nils) (some 2) e M fun e M =>
    some (e, M)).map fun q => (prune [2] q.1, q.2)
noncomputable def f13_r3 (call : CallF) : Env → Mem → Option (Env × Mem) := fun e M =>
    (nx (keep (aLitI 2 1 [] M)) (some 5) e M fun e M =>
    nx (oMv (eget e 0)) (some 6) e M fun e M =>
    nx (aAppI 2 1 8 (eget e 5) (eget e 6) M) (some 7) e M fun e M =>
    nx (oMv (eget e 7)) (some 2) e M fun e M =>
    some (e, M)).map fun q => (prune [2] q.1, q.2)
noncomputable def f13 (call : CallF) (k : Nat) : St :=
  (bSeq (bReg (f13_r0 call))
  (bSeq (bSeq (bReg (f13_r1 call))
  (bCond (.tmp 4)
   (bSeq (bReg (f13_r2 call))
   (bEx .ret))
   (bEx .nrm)))
  (bSeq (bReg (f13_r3 call))
  (bEx .ret))))
theorem f13_eq (call : CallF) (k : Nat) : exec cx call 8 f13_an k (Try.f13.body.getD .skip) = f13 call k := by kernel_rfl
/-! ### f14: loop.example/g01263/impl.ValidBook -/
def f14_an : Ann := ⟨[(0, ⟨[], [], [], [], [1]⟩), (1, ⟨[], [], [], [], [1, 3]⟩), (2, ⟨[], [], [], [], [1, 3, 29]⟩), (3, ⟨[], [], [], [], [2]⟩), (4, ⟨[], [], [], [], [1, 3, 31, 32, 33]⟩), (5, ⟨[], [], [], [], [1, 3, 31, 32, 33, 34]⟩), (6, ⟨[], [], [], [], [1, 3, 5, 31, 32, 33]⟩), (7, ⟨[], [], [], [], [1, 3, 31, 32, 33, 39]⟩), (8, ⟨[], [], [], [], [2]⟩), (9, ⟨[], [], [], [], [1, 3, 31, 32, 33]⟩), (10, ⟨[], [], [], [], [1, 3, 6]⟩), (11, ⟨[], [], [], [], [1, 3, 6, 42, 43, 44]⟩), (12, ⟨[], [], [], [], [1, 3, 6, 42, 43, 44, 45]⟩), (13, ⟨[], [], [], [], [1, 3, 6, 8, 42, 43, 44]⟩), (14, ⟨[], [], [], [], [1, 3, 8, 42, 43, 44, 102]⟩), (15, ⟨[], [], [], [], [2]⟩), (16, ⟨[], [], [], [], [1, 3, 6, 42, 43, 44]⟩), (17, ⟨[], [], [], [], [1, 3, 6, 42, 43, 44]⟩), (18, ⟨[], [], [], [], [2]⟩)], [(5, [1, 3, 31, 32, 33]), (12, [1, 3, 6, 42, 43, 44])]⟩
noncomputable def f14_r0 (call : CallF) : Env → Mem → Option (Env × Mem) := fun e M =>
    (nx (keep (aBox 3 (eget e 0) M)) (some 1) e M fun e M =>
    nx (oMv (.bool false)) (some 2) e M fun e M =>
    some (e, M)).map fun q => (prune [1] q.1, q.2)
noncomputable def f14_r1 (call : CallF) : Env → Mem → Option (Env × Mem) := fun e M =>
    (nx (keep (aFieldAddr 1 1 (eget e 1) M)) (some 9) e M fun e M =>
    nx (keep (aLoad false 1 (eget e 9) M)) (some 10) e M fun e M =>
    nx (oLen cx.P 22 (eget e 10) M) (some 11) e M fun e M =>
    nx (oMv (eget e 11)) (some 3) e M fun e M =>
    some (e, M)).map fun q => (prune [1, 3] q.1, q.2)
noncomputable def f14_r2 (call : CallF) : Env → Mem → Option (Env × Mem) := fun e M =>
    (nx (keep (aFieldAddr 0 1 (eget e 1) M)) (some 12) e M fun e M =>
    nx (keep (aLoad false 1 (eget e 12) M)) (some 13) e M fun e M =>
    nx (aCall cx.P.cellsOf cx.rw call false M.length 21 [(eget e 13)] M) (some 14) e M fun e M =>
    nx (keep (aUn .not (eget e 14))) (some 15) e M fun e M =>
    nx (oMv (eget e 15)) (some 16) e M fun e M =>
    nx (aGuard (some ((eget e 16), false)) (oMv (eget e 3))) (some 17) e M fun e M =>
    nx (aGuard (some ((eget e 16), false)) (oBin cx.P .lss 2 (eget e 17) (.int .i64 1) M)) (some 18) e M fun e M =>
    nx (keep (aPick (eget e 16) (.bool true) (eget e 18))) (some 19) e M fun e M =>
    nx (oMv (eget e 19)) (some 20) e M fun e M =>
    nx (aGuard (some ((eget e 20), false)) (oMv (eget e 3))) (some 21) e M fun e M =>
    nx (aGuard (some ((eget e 20), false)) (oBin cx.P .gtr 2 (eget e 21) (.int .i64 16) M)) (some 22) e M fun e M =>
    nx (keep (aPick (eget e 20) (.bool true) (eget e 22))) (some 23) e M fun e M =>
    nx (oMv (eget e 23)) (some 24) e M fun e M =>
    nx (aGuard (some ((eget e 24), false)) (keep (aFieldAddr 2 1 (eget e 1) M))) (some 25) e M fun e M =>
    nx (aGuard (some ((eget e 24), false)) (keep (aLoad false 1 (eget e 25) M))) (some 26) e M fun e M =>
    nx (aGuard (some ((eget e 24), false)) (oLen cx.P 23 (eget e 26) M)) (some 27) e M fun e M =>
    nx (aGuard (some ((eget e 24), false)) (oBin cx.P .gtr 3 (eget e 27) (.int .i64 40) M)) (some 28) e M fun e M =>
    nx (keep (aPick (eget e 24) (.bool true) (eget e 28))) (some 29) e M fun e M =>
    some (e, M)).map fun q => (prune [1, 3, 29] q.1, q.2)
noncomputable def f14_r3 (call : CallF) : Env → Mem → Option (Env × Mem) := fun e M =>
    (nx (oMv (.bool false)) (some 2) e M fun e M =>
    some (e, M)).map fun q => (prune [2] q.1, q.2)
noncomputable def f14_r4 (call : CallF) : Env → Mem → Option (Env × Mem) := fun e M =>
    (nx (keep (aFieldAddr 1 1 (eget e 1) M)) (some 30) e M fun e M =>
    nx (keep (aLoad false 1 (eget e 30) M)) (some 31) e M fun e M =>
    nx (oLen cx.P 22 (eget e 31) M) (some 32) e M fun e M =>
    nx (oMv (.int .i64 0)) (some 33) e M fun e M =>
    some (e, M)).map fun q => (prune [1, 3, 31, 32, 33] q.1, q.2)
noncomputable def f14_r5 (call : CallF) : Env → Mem → Option (Env × Mem) := fun e M =>
    (nx (oBin cx.P .lss 3 (eget e 33) (eget e 32) M) (some 34) e M fun e M =>
    some (e, M)).map fun q => (prune [1, 3, 31, 32, 33, 34] q.1, q.2)
noncomputable def f14_r6 (call : CallF) : Env → Mem → Option (Env × Mem) := fun e M =>
    (nx (keep (aIndexS 1 (eget e 31) (eget e 33) M)) (some 35) e M fun e M =>
    nx (keep (aLoad false 1 (eget e 35) M)) (some 36) e M fun e M =>
    nx (oMv (eget e 36)) (some 5) e M fun e M =>
    some (e, M)).map fun q => (prune [1, 3, 5, 31, 32, 33] q.1, q.2)
noncomputable def f14_r7 (call : CallF) : Env → Mem → Option (Env × Mem) := fun e M =>
    (nx (oMv (eget e 5)) (some 37) e M fun e M =>
    nx (aCall cx.P.cellsOf cx.rw call false M.length 22 [(eget e 37)] M) (some 38) e M fun e M =>
    nx (keep (aUn .not (eget e 38))) (some 39) e M fun e M =>
    some (e, M)).map fun q => (prune [1, 3, 31, 32, 33, 39] q.1, q.2)
noncomputable def f14_r8 (call : CallF) : Env → Mem → Option (Env × Mem) := fun e M =>
    (nx (oMv (.bool false)) (some 2) e M fun e M =>
    some (e, M)).map fun q => (prune [2] q.1, q.2)
noncomputable def f14_r9 (call : CallF) : Env → Mem → Option (Env × Mem) := fun e M =>
    (nx (oBin cx.P .add 3 (eget e 33) (.int .i64 1) M) (some 40) e M fun e M =>
    nx (oMv (eget e 40)) (some 33) e M fun e M =>
    some (e, M)).map fun q => (prune [1, 3, 31, 32, 33] q.1, q.2)
noncomputable def f14_r10 (call : CallF) : Env → Mem → Option (Env × Mem) := fun e M =>
    (nx (oMv (.int .i64 0)) (some 6) e M fun e M =>
    some (e, M)).map fun q => (prune [1, 3, 6] q.1, q.2)
noncomputable def f14_r11 (call : CallF) : Env → Mem → Option (Env × Mem) := fun e M =>
    (nx (keep (aFieldAddr 2 1 (eget e 1) M)) (some 41) e M fun e M =>
    nx (keep (aLoad false 1 (eget e 41) M)) (some 42) e M fun e M =>
    nx (oLen cx.P 23 (eget e 42) M) (some 43) e M fun e M =>
    nx (oMv (.int .i64 0)) (some 44) e M fun e M =>
    some (e, M)).map fun q => (prune [1, 3, 6, 42, 43, 44] q.1, q.2)
noncomputable def f14_r12 (call : CallF) : Env → Mem → Option (Env × Mem) := fun e M =>
    (nx (oBin cx.P .lss 3 (eget e 44) (eget e 43) M) (some 45) e M fun e M =>
    some (e, M)).map fun q => (prune [1, 3, 6, 42, 43, 44, 45] q.1, q.2)
noncomputable def f14_r13 (call : CallF) : Env → Mem → Option (Env × Mem) := fun e M =>
    (nx (keep (aIndexS 5 (eget e 42) (eget e 44) M)) (some 46) e M fun e M =>
    nx (keep (aLoad true 5 (eget e 46) M)) (some 47) e M fun e M =>
    nx (oAlloc cx.P M.length 40 5) (some 8) e M fun e M =>
    nx (oStore 5 (eget e 8) (eget e 47) M) none e M fun e M =>
    some (e, M)).map fun q => (prune [1, 3, 6, 8, 42, 43, 44] q.1, q.2)
noncomputable def f14_r14 (call : CallF) : Env → Mem → Option (Env × Mem) := fun e M =>
    (nx (oMv (eget e 3)) (some 48) e M fun e M =>
    nx (keep (aFieldAddr 0 1 (eget e 8) M)) (some 49) e M fun e M =>
    nx (keep (aLoad false 1 (eget e 49) M)) (some 50) e M fun e M =>
    nx (keep (aFieldAddr 1 1 (eget e 8) M)) (some 51) e M fun e M =>
    nx (keep (aLoad false 1 (eget e 51) M)) (some 52) e M fun e M =>
    nx (keep (aLitI 2 1 [(eget e 50), (eget e 52)] M)) (some 53) e M fun e M =>
    nx (aCall cx.P.cellsOf cx.rw call false M.length 23 [(eget e 48), (eget e 53)] M) (some 54) e M fun e M =>
    nx (keep (aUn .not (eget e 54))) (some 55) e M fun e M =>
    nx (oMv (eget e 55)) (some 56) e M fun e M =>
    nx (aGuard (some ((eget e 56), false)) (keep (aFieldAddr 2 1 (eget e 8) M))) (some 57) e M fun e M =>
    nx (aGuard (some ((eget e 56), false)) (keep (aLoad false 1 (eget e 57) M))) (some 58) e M fun e M =>
    nx (aGuard (some ((eget e 56), false)) (oMv (eget e 6))) (some 59) e M fun e M =>
    nx (aGuard (some ((eget e 56), false)) (oBin cx.P .lss 2 (eget e 58) (eget e 59) M)) (some 60) e M fun e M =>
    nx (keep (aPick (eget e 56) (.bool true) (eget e 60))) (some 61) e M fun e M =>
    nx (oMv (eget e 61)) (some 62) e M fun e M =>
    nx (aGuard (some ((eget e 62), false)) (keep (aFieldAddr 2 1 (eget e 8) M))) (some 63) e M fun e M =>
    nx (aGuard (some ((eget e 62), false)) (keep (aLoad false 1 (eget e 63) M))) (some 64) e M fun e M =>
    nx (aGuard (some ((eget e 62), false)) (keep (aFieldAddr 0 1 (eget e 1) M))) (some 65) e M fun e M =>
    nx (aGuard (some ((eget e 62), false)) (keep (aLoad false 1 (eget e 65) M))) (some 66) e M fun e M =>
    nx (aGuard (some ((eget e 62), false)) (oBin cx.P .gtr 2 (eget e 64) (eget e 66) M)) (some 67) e M fun e M =>
    nx (keep (aPick (eget e 62) (.bool true) (eget e 67))) (some 68) e M fun e M =>
    nx (oMv (eget e 68)) (some 69) e M fun e M =>
    nx (aGuard (some ((eget e 69), false)) (keep (aFieldAddr 3 1 (eget e 8) M))) (some 70) e M fun e M =>
    nx (aGuard (some ((eget e 69), false)) (keep (aLoad false 1 (eget e 70) M))) (some 71) e M fun e M =>
    nx (aGuard (some ((eget e 69), false)) (oBin cx.P .lss 2 (eget e 71) (.int .i64 1) M)) (some 72) e M fun e M =>
    nx (keep (aPick (eget e 69) (.bool true) (eget e 72))) (some 73) e M fun e M =>
    nx (oMv (eget e 73)) (some 74) e M fun e M =>
    nx (aGuard (some ((eget e 74), false)) (keep (aFieldAddr 3 1 (eget e 8) M))) (some 75) e M fun e M =>
    nx (aGuard (some ((eget e 74), false)) (keep (aLoad false 1 (eget e 75) M))) (some 76) e M fun e M =>
    nx (aGuard (some ((eget e 74), false)) (oBin cx.P .gtr 2 (eget e 76) (.int .i64 100000000) M)) (some 77) e M fun e M =>
    nx (keep (aPick (eget e 74) (.bool true) (eget e 77))) (some 78) e M fun e M =>
    nx (oMv (eget e 78)) (some 79) e M fun e M =>
    nx (aGuard (some ((eget e 79), false)) (keep (aFieldAddr 4 1 (eget e 8) M))) (some 80) e M fun e M =>
    nx (aGuard (some ((eget e 79), false)) (keep (aLoad false 1 (eget e 80) M))) (some 81) e M fun e M =>
    nx (aGuard (some ((eget e 79), false)) (oBin cx.P .lss 2 (eget e 81) (.int .i64 0) M)) (some 82) e M fun e M =>
    nx (keep (aPick (eget e 79) (.bool true) (eget e 82))) (some 83) e M fun e M =>
    nx (oMv (eget e 83)) (some 84) e M fun e M =>
    nx (aGuard (some ((eget e 84), false)) (keep (aFieldAddr 4 1 (eget e 8) M))) (some 85) e M fun e M =>
    nx (aGuard (some ((eget e 84), false)) (keep (aLoad false 1 (eget e 85) M))) (some 86) e M fun e M =>
    nx (aGuard (some ((eget e 84), false)) (keep (aFieldAddr 3 1 (eget e 8) M))) (some 87) e M fun e M =>
    nx (aGuard (some ((eget e 84), false)) (keep (aLoad false 1 (eget e 87) M))) (some 88) e M fun e M =>
    nx (aGuard (some ((eget e 84), false)) (oBin cx.P .gtr 2 (eget e 86) (eget e 88) M)) (some 89) e M fun e M =>
    nx (keep (aPick (eget e 84) (.bool true) (eget e 89))) (some 90) e M fun e M =>
    nx (oMv (eget e 90)) (some 91) e M fun e M =>
    nx (aGuard (some ((eget e 91), false)) (keep (aFieldAddr 0 1 (eget e 8) M))) (some 92) e M fun e M =>
    nx (aGuard (some ((eget e 91), false)) (keep (aLoad false 1 (eget e 92) M))) (some 93) e M fun e M =>
    nx (aGuard (some ((eget e 91), false)) (keep (aFieldAddr 1 1 (eget e 8) M))) (some 94) e M fun e M =>
    nx (aGuard (some ((eget e 91), false)) (keep (aLoad false 1 (eget e 94) M))) (some 95) e M fun e M =>
    nx (aGuard (some ((eget e 91), false)) (oBin cx.P .eql 2 (eget e 93) (eget e 95) M)) (some 96) e M fun e M =>
    nx (aGuard (some ((eget e 91), false)) (oMv (eget e 96))) (some 97) e M fun e M =>
    nx (aGuard (some ((eget e 97), true)) (keep (aFieldAddr 4 1 (eget e 8) M))) (some 98) e M fun e M =>
    nx (aGuard (some ((eget e 97), true)) (keep (aLoad false 1 (eget e 98) M))) (some 99) e M fun e M =>
    nx (aGuard (some ((eget e 97), true)) (oBin cx.P .neq 2 (eget e 99) (.int .i64 0) M)) (some 100) e M fun e M =>
    nx (aGuard (some ((eget e 91), false)) (keep (aPick (eget e 97) (eget e 100) (.bool false)))) (some 101) e M fun e M =>
    nx (keep (aPick (eget e 91) (.bool true) (eget e 101))) (some 102) e M fun e M =>
    some (e, M)).map fun q => (prune [1, 3, 8, 42, 43, 44, 102] q.1, q.2)
noncomputable def f14_r15 (call : CallF) : Env → Mem → Option (Env × Mem) := fun e M =>
    (nx (oMv (.bool false)) (some 2) e M fun e M =>
    some (e, M)).map fun q => (prune [2] q.1, q.2)
noncomputable def f14_r16 (call : CallF) : Env → Mem → Option (Env × Mem) := fun e M =>
    (nx (keep (aFieldAddr 2 1 (eget e 8) M)) (some 103) e M fun e M =>
    nx (keep (aLoad false 1 (eget e 103) M)) (some 104) e M fun e M =>
    nx (oMv (eget e 104)) (some 6) e M fun e M =>
    some (e, M)).map fun q => (prune [1, 3, 6, 42, 43, 44] q.1, q.2)
noncomputable def f14_r17 (call : CallF) : Env → Mem → Option (Env × Mem) := fun e M =>
    (nx (oBin cx.P .add 3 (eget e 44) (.int .i64 1) M) (some 105) e M fun e M =>
    nx (oMv (eget e 105)) (some 44) e M fun e M =>
    some (e, M)).map fun q => (prune [1, 3, 6, 42, 43, 44] q.1, q.2)
noncomputable def f14_r18 (call : CallF) : Env → Mem → Option (Env × Mem) := fun e M =>
    (nx (oMv (.bool true)) (some 2) e M fun e M =>
    some (e, M)).map fun q => (prune [2] q.1, q.2)
noncomputable def f14_l5 (call : CallF) (k : Nat) : St :=
  (bSeq (bReg (f14_r5 call))
  (bSeq (bCond (.tmp 34)
   (bEx .nrm)
   (bEx (.ext 0)))
  (bSeq (bBlock 1 (bSeq (bReg (f14_r6 call))
   (bSeq (bReg (f14_r7 call))
   (bCond (.tmp 39)
    (bSeq (bReg (f14_r8 call))
    (bEx .ret))
    (bEx .nrm)))))
  (bReg (f14_r9 call)))))
noncomputable def f14_l12 (call : CallF) (k : Nat) : St :=
  (bSeq (bReg (f14_r12 call))
  (bSeq (bCond (.tmp 45)
   (bEx .nrm)
   (bEx (.ext 2)))
  (bSeq (bBlock 3 (bSeq (bReg (f14_r13 call))
   (bSeq (bSeq (bReg (f14_r14 call))
   (bCond (.tmp 102)
    (bSeq (bReg (f14_r15 call))
    (bEx .ret))
    (bEx .nrm)))
   (bReg (f14_r16 call)))))
  (bReg (f14_r17 call)))))
noncomputable def f14 (call : CallF) (k : Nat) : St :=
  (bSeq (bReg (f14_r0 call))
  (bSeq (bReg (f14_r1 call))
  (bSeq (bSeq (bReg (f14_r2 call))
  (bCond (.tmp 29)
   (bSeq (bReg (f14_r3 call))
   (bEx .ret))
   (bEx .nrm)))
  (bSeq (bSeq (bReg (f14_r4 call))
  (bBlock 0 (bLoop [1, 3, 31, 32, 33] (f14_l5 call k) k)))
  (bSeq (bReg (f14_r10 call))
  (bSeq (bSeq (bReg (f14_r11 call))
  (bBlock 2 (bLoop [1, 3, 6, 42, 43, 44] (f14_l12 call k) k)))
  (bSeq (bReg (f14_r18 call))
  (bEx .ret))))))))
theorem f14_eq (call : CallF) (k : Nat) : exec cx call 106 f14_an k (Try.f14.body.getD .skip) = f14 call k := by kernel_rfl
/-! ### f15: loop.example/g01263/laws.eqTallyS -/
def f15_an : Ann := ⟨[(0, ⟨[], [], [], [], [0, 1]⟩), (1, ⟨[], [], [], [], [0, 1, 10]⟩), (2, ⟨[], [], [], [], [4]⟩), (3, ⟨[], [], [], [], [0, 1, 5]⟩), (4, ⟨[], [], [], [], [0, 1, 5, 14]⟩), (5, ⟨[], [], [], [], [0, 1, 5]⟩), (6, ⟨[], [], [], [], [0, 1, 5, 26]⟩), (7, ⟨[], [], [], [], [4]⟩), (8, ⟨[], [], [], [], [4]⟩)], [(4, [0, 1, 5])]⟩
noncomputable def f15_r0 (call : CallF) : Env → Mem → Option (Env × Mem) := fun e M =>
    (nx (oMv (.bool false)) (some 4) e M fun e M =>
    some (e, M)).map fun q => (prune [0, 1] q.1, q.2)
noncomputable def f15_r1 (call : CallF) : Env → Mem → Option (Env × Mem) := fun e M =>
    (nx (oMv (eget e 0)) (some 6) e M fun e M =>
    nx (oLen cx.P 23 (eget e 6) M) (some 7) e M fun e M =>
    nx (oMv (eget e 1)) (some 8) e M fun e M =>
    nx (oLen cx.P 23 (eget e 8) M) (some 9) e M fun e M =>
    nx (oBin cx.P .neq 3 (eget e 7) (eget e 9) M) (some 10) e M fun e M =>
    some (e, M)).map fun q => (prune [0, 1, 10] q.1, q.2)
noncomputable def f15_r2 (call : CallF) : Env → Mem → Option (Env × Mem) := fun e M =>
    (nx (oMv (.bool false)) (some 4) e M fun e M =>
    some (e, M)).map fun q => (prune [4] q.1, q.2)
noncomputable def f15_r3 (call : CallF) : Env → Mem → Option (Env × Mem) := fun e M =>
    (nx (oMv (.int .i64 0)) (some 5) e M fun e M =>
    some (e, M)).map fun q => (prune [0, 1, 5] q.1, q.2)
noncomputable def f15_r4 (call : CallF) : Env → Mem → Option (Env × Mem) := fun e M =>
    (nx (oMv (eget e 5)) (some 11) e M fun e M =>
    nx (oMv (eget e 0)) (some 12) e M fun e M =>
    nx (oLen cx.P 23 (eget e 12) M) (some 13) e M fun e M =>
    nx (oBin cx.P .lss 3 (eget e 11) (eget e 13) M) (some 14) e M fun e M =>
    some (e, M)).map fun q => (prune [0, 1, 5, 14] q.1, q.2)
noncomputable def f15_r5 (call : CallF) : Env → Mem → Option (Env × Mem) := fun e M =>
    (nx (oMv (eget e 5)) (some 15) e M fun e M =>
    nx (oBin cx.P .add 3 (eget e 15) (.int .i64 1) M) (some 16) e M fun e M =>
    nx (oMv (eget e 16)) (some 5) e M fun e M =>
    some (e, M)).map fun q => (prune [0, 1, 5] q.1, q.2)
noncomputable def f15_r6 (call : CallF) : Env → Mem → Option (Env × Mem) := fun e M =>
    rD [0, 1, 5, 26] (fun (C : List Ob) =>
    nf (oMv (eget e 0)) (some 17) false e C fun e C =>
    nf (oMv (eget e 5)) (some 18) false e C fun e C =>
    nf (keep (aIndexS 5 (eget e 17) (eget e 18) M)) (some 19) false e C fun e C =>
    nf (keep (aLoad true 5 (eget e 19) M)) (some 20) false e C fun e C =>
    nf (oMv (eget e 1)) (some 21) false e C fun e C =>
    nf (oMv (eget e 5)) (some 22) false e C fun e C =>
    nf (keep (aIndexS 5 (eget e 21) (eget e 22) M)) (some 23) false e C fun e C =>
    nf (keep (aLoad true 5 (eget e 23) M)) (some 24) false e C fun e C =>
    nf (aCall cx.P.cellsOf cx.rw call false (M.length + C.length) 24 [(eget e 20), (eget e 24)] M) (some 25) false e C fun e C =>
    nf (keep (aUn .not (eget e 25))) (some 26) false e C fun e C =>
    some (e, C)) (fun (e : Env) (M : Mem) =>
    some (e, M)) M
noncomputable def f15_r7 (call : CallF) : Env → Mem → Option (Env × Mem) := fun e M =>
    (nx (oMv (.bool false)) (some 4) e M fun e M =>
    some (e, M)).map fun q => (prune [4] q.1, q.2)
noncomputable def f15_r8 (call : CallF) : Env → Mem → Option (Env × Mem) := fun e M =>
    (nx (oMv (.bool true)) (some 4) e M fun e M =>
    some (e, M)).map fun q => (prune [4] q.1, q.2)
noncomputable def f15_l4 (call : CallF) (k : Nat) : St :=
  (bSeq (bSeq (bReg (f15_r4 call))
  (bCond (.tmp 14)
   (bEx .nrm)
   (bEx (.ext 0))))
  (bSeq (bBlock 1 (bSeq (bReg (f15_r6 call))
   (bCond (.tmp 26)
    (bSeq (bReg (f15_r7 call))
    (bEx .ret))
    (bEx .nrm))))
  (bReg (f15_r5 call))))
noncomputable def f15 (call : CallF) (k : Nat) : St :=
  (bSeq (bReg (f15_r0 call))
  (bSeq (bSeq (bReg (f15_r1 call))
  (bCond (.tmp 10)
   (bSeq (bReg (f15_r2 call))
   (bEx .ret))
   (bEx .nrm)))
  (bSeq (bSeq (bReg (f15_r3 call))
  (bBlock 0 (bLoop [0, 1, 5] (f15_l4 call k) k)))
  (bSeq (bReg (f15_r8 call))
  (bEx .ret)))))
theorem f15_eq (call : CallF) (k : Nat) : exec cx call 27 f15_an k (Try.f15.body.getD .skip) = f15 call k := by kernel_rfl
/-! ### f16: loop.example/g01263/laws.markTallyS -/
def f16_an : Ann := ⟨[(0, ⟨[], [], [], [], [0, 1]⟩), (1, ⟨[], [], [], [], [0, 1, 5]⟩), (2, ⟨[], [], [], [], [0, 1, 5, 9]⟩), (3, ⟨[], [], [], [], [0, 1, 5]⟩), (4, ⟨[], [], [], [], [0, 1, 5]⟩), (5, ⟨[], [], [], [], [0, 1, 5]⟩), (6, ⟨[], [], [], [], [0, 1, 5]⟩), (7, ⟨[], [], [], [], [0, 1, 5]⟩), (8, ⟨[], [], [], [], [0, 1, 5]⟩), (9, ⟨[], [], [], [], [0, 1, 5]⟩), (10, ⟨[], [], [], [], [0, 1, 5]⟩), (11, ⟨[], [], [], [], [0, 1, 5]⟩), (12, ⟨[], [], [], [], [0, 1, 5]⟩), (13, ⟨[], [], [], [], [0, 1, 5]⟩), (14, ⟨[], [], [], [], [4]⟩)], [(2, [0, 1, 5])]⟩
noncomputable def f16_r0 (call : CallF) : Env → Mem → Option (Env × Mem) := fun e M =>
    (nx (oMv (.int .i64 0)) (some 4) e M fun e M =>
    some (e, M)).map fun q => (prune [0, 1] q.1, q.2)
noncomputable def f16_r1 (call : CallF) : Env → Mem → Option (Env × Mem) := fun e M =>
    (nx (oMv (.int .i64 0)) (some 5) e M fun e M =>
    some (e, M)).map fun q => (prune [0, 1, 5] q.1, q.2)
noncomputable def f16_r2 (call : CallF) : Env → Mem → Option (Env × Mem) := fun e M =>
    (nx (oMv (eget e 5)) (some 6) e M fun e M =>
    nx (oMv (eget e 0)) (some 7) e M fun e M =>
    nx (oLen cx.P 23 (eget e 7) M) (some 8) e M fun e M =>
    nx (oBin cx.P .lss 3 (eget e 6) (eget e 8) M) (some 9) e M fun e M =>
    some (e, M)).map fun q => (prune [0, 1, 5, 9] q.1, q.2)
noncomputable def f16_r3 (call : CallF) : Env → Mem → Option (Env × Mem) := fun e M =>
    (nx (oMv (eget e 5)) (some 10) e M fun e M =>
    nx (oBin cx.P .add 3 (eget e 10) (.int .i64 1) M) (some 11) e M fun e M =>
    nx (oMv (eget e 11)) (some 5) e M fun e M =>
    some (e, M)).map fun q => (prune [0, 1, 5] q.1, q.2)
noncomputable def f16_r4 (call : CallF) : Env → Mem → Option (Env × Mem) := fun e M =>
    (nx (oMv (eget e 0)) (some 12) e M fun e M =>
    nx (oMv (eget e 5)) (some 13) e M fun e M =>
    nx (oMv (eget e 1)) (some 14) e M fun e M =>
    nx (keep (aIndexS 5 (eget e 12) (eget e 13) M)) (some 15) e M fun e M =>
    nx (keep (aFieldAddr 0 1 (eget e 15) M)) (some 16) e M fun e M =>
    nx (oStore 1 (eget e 16) (eget e 14) M) none e M fun e M =>
    some (e, M)).map fun q => (prune [0, 1, 5] q.1, q.2)
noncomputable def f16_r5 (call : CallF) : Env → Mem → Option (Env × Mem) := fun e M =>
    (nx (oMv (eget e 1)) (some 17) e M fun e M =>
    nx (oBin cx.P .add 3 (eget e 17) (.int .i64 1) M) (some 18) e M fun e M =>
    nx (oMv (eget e 18)) (some 1) e M fun e M =>
    some (e, M)).map fun q => (prune [0, 1, 5] q.1, q.2)
noncomputable def f16_r6 (call : CallF) : Env → Mem → Option (Env × Mem) := fun e M =>
    (nx (oMv (eget e 0)) (some 19) e M fun e M =>
    nx (oMv (eget e 5)) (some 20) e M fun e M =>
    nx (oMv (eget e 1)) (some 21) e M fun e M =>
    nx (keep (aIndexS 5 (eget e 19) (eget e 20) M)) (some 22) e M fun e M =>
    nx (keep (aFieldAddr 1 1 (eget e 22) M)) (some 23) e M fun e M =>
    nx (oStore 1 (eget e 23) (eget e 21) M) none e M fun e M =>
    some (e, M)).map fun q => (prune [0, 1, 5] q.1, q.2)
noncomputable def f16_r7 (call : CallF) : Env → Mem → Option (Env × Mem) := fun e M =>
    (nx (oMv (eget e 1)) (some 24) e M fun e M =>
    nx (oBin cx.P .add 3 (eget e 24) (.int .i64 1) M) (some 25) e M fun e M =>
    nx (oMv (eget e 25)) (some 1) e M fun e M =>
    some (e, M)).map fun q => (prune [0, 1, 5] q.1, q.2)
noncomputable def f16_r8 (call : CallF) : Env → Mem → Option (Env × Mem) := fun e M =>
    (nx (oMv (eget e 0)) (some 26) e M fun e M =>
    nx (oMv (eget e 5)) (some 27) e M fun e M =>
    nx (oMv (eget e 1)) (some 28) e M fun e M =>
    nx (keep (aIndexS 5 (eget e 26) (eget e 27) M)) (some 29) e M fun e M =>
    nx (keep (aFieldAddr 2 1 (eget e 29) M)) (some 30) e M fun e M =>
    nx (oStore 1 (eget e 30) (eget e 28) M) none e M fun e M =>
    some (e, M)).map fun q => (prune [0, 1, 5] q.1, q.2)
noncomputable def f16_r9 (call : CallF) : Env → Mem → Option (Env × Mem) := fun e M =>
    (nx (oMv (eget e 1)) (some 31) e M fun e M =>
    nx (oBin cx.P .add 3 (eget e 31) (.int .i64 1) M) (some 32) e M fun e M =>
    nx (oMv (eget e 32)) (some 1) e M fun e M =>
    some (e, M)).map fun q => (prune [0, 1, 5] q.1, q.2)
noncomputable def f16_r10 (call : CallF) : Env → Mem → Option (Env × Mem) := fun e M =>
    (nx (oMv (eget e 0)) (some 33) e M fun e M =>
    nx (oMv (eget e 5)) (some 34) e M fun e M =>
    nx (oMv (eget e 1)) (some 35) e M fun e M =>
    nx (keep (aIndexS 5 (eget e 33) (eget e 34) M)) (some 36) e M fun e M =>
    nx (keep (aFieldAddr 3 1 (eget e 36) M)) (some 37) e M fun e M =>
    nx (oStore 1 (eget e 37) (eget e 35) M) none e M fun e M =>
    some (e, M)).map fun q => (prune [0, 1, 5] q.1, q.2)
noncomputable def f16_r11 (call : CallF) : Env → Mem → Option (Env × Mem) := fun e M =>
    (nx (oMv (eget e 1)) (some 38) e M fun e M =>
    nx (oBin cx.P .add 3 (eget e 38) (.int .i64 1) M) (some 39) e M fun e M =>
    nx (oMv (eget e 39)) (some 1) e M fun e M =>
    some (e, M)).map fun q => (prune [0, 1, 5] q.1, q.2)
noncomputable def f16_r12 (call : CallF) : Env → Mem → Option (Env × Mem) := fun e M =>
    (nx (oMv (eget e 0)) (some 40) e M fun e M =>
    nx (oMv (eget e 5)) (some 41) e M fun e M =>
    nx (oMv (eget e 1)) (some 42) e M fun e M =>
    nx (keep (aIndexS 5 (eget e 40) (eget e 41) M)) (some 43) e M fun e M =>
    nx (keep (aFieldAddr 4 1 (eget e 43) M)) (some 44) e M fun e M =>
    nx (oStore 1 (eget e 44) (eget e 42) M) none e M fun e M =>
    some (e, M)).map fun q => (prune [0, 1, 5] q.1, q.2)
noncomputable def f16_r13 (call : CallF) : Env → Mem → Option (Env × Mem) := fun e M =>
    (nx (oMv (eget e 1)) (some 45) e M fun e M =>
    nx (oBin cx.P .add 3 (eget e 45) (.int .i64 1) M) (some 46) e M fun e M =>
    nx (oMv (eget e 46)) (some 1) e M fun e M =>
    some (e, M)).map fun q => (prune [0, 1, 5] q.1, q.2)
noncomputable def f16_r14 (call : CallF) : Env → Mem → Option (Env × Mem) := fun e M =>
    (nx (oMv (eget e 1)) (some 47) e M fun e M =>
    nx (oMv (eget e 47)) (some 4) e M fun e M =>
    some (e, M)).map fun q => (prune [4] q.1, q.2)
noncomputable def f16_l2 (call : CallF) (k : Nat) : St :=
  (bSeq (bSeq (bReg (f16_r2 call))
  (bCond (.tmp 9)
   (bEx .nrm)
   (bEx (.ext 0))))
  (bSeq (bBlock 1 (bSeq (bReg (f16_r4 call))
   (bSeq (bReg (f16_r5 call))
   (bSeq (bReg (f16_r6 call))
   (bSeq (bReg (f16_r7 call))
   (bSeq (bReg (f16_r8 call))
   (bSeq (bReg (f16_r9 call))
   (bSeq (bReg (f16_r10 call))
   (bSeq (bReg (f16_r11 call))
   (bSeq (bReg (f16_r12 call))
   (bReg (f16_r13 call))))))))))))
  (bReg (f16_r3 call))))
noncomputable def f16 (call : CallF) (k : Nat) : St :=
  (bSeq (bReg (f16_r0 call))
  (bSeq (bSeq (bReg (f16_r1 call))
  (bBlock 0 (bLoop [0, 1, 5] (f16_l2 call k) k)))
  (bSeq (bReg (f16_r14 call))
  (bEx .ret))))
theorem f16_eq (call : CallF) (k : Nat) : exec cx call 48 f16_an k (Try.f16.body.getD .skip) = f16 call k := by kernel_rfl
/-! ### f17: loop.example/g01263/laws.heldInt64S -/
def f17_an : Ann := ⟨[(0, ⟨[], [], [], [], [0, 1]⟩), (1, ⟨[], [], [], [], [0, 1, 5]⟩), (2, ⟨[], [], [], [], [0, 1, 5, 9]⟩), (3, ⟨[], [], [], [], [0, 1, 5]⟩), (4, ⟨[], [], [], [], [0, 1, 5, 17]⟩), (5, ⟨[], [], [], [], [4]⟩), (6, ⟨[], [], [], [], [0, 1, 5]⟩), (7, ⟨[], [], [], [], [4]⟩)], [(2, [0, 1, 5])]⟩
noncomputable def f17_r0 (call : CallF) : Env → Mem → Option (Env × Mem) := fun e M =>
    (nx (oMv (.int .i64 0)) (some 4) e M fun e M =>
    some (e, M)).map fun q => (prune [0, 1] q.1, q.2)
noncomputable def f17_r1 (call : CallF) : Env → Mem → Option (Env × Mem) := fun e M =>
    (nx (oMv (.int .i64 0)) (some 5) e M fun e M =>
    some (e, M)).map fun q => (prune [0, 1, 5] q.1, q.2)
noncomputable def f17_r2 (call : CallF) : Env → Mem → Option (Env × Mem) := fun e M =>
    (nx (oMv (eget e 5)) (some 6) e M fun e M =>
    nx (oMv (eget e 0)) (some 7) e M fun e M =>
    nx (oLen cx.P 22 (eget e 7) M) (some 8) e M fun e M =>
    nx (oBin cx.P .lss 3 (eget e 6) (eget e 8) M) (some 9) e M fun e M =>
    some (e, M)).map fun q => (prune [0, 1, 5, 9] q.1, q.2)
noncomputable def f17_r3 (call : CallF) : Env → Mem → Option (Env × Mem) := fun e M =>
    (nx (oMv (eget e 5)) (some 10) e M fun e M =>
    nx (oBin cx.P .add 3 (eget e 10) (.int .i64 1) M) (some 11) e M fun e M =>
    nx (oMv (eget e 11)) (some 5) e M fun e M =>
    some (e, M)).map fun q => (prune [0, 1, 5] q.1, q.2)
noncomputable def f17_r4 (call : CallF) : Env → Mem → Option (Env × Mem) := fun e M =>
    (nx (oMv (eget e 0)) (some 12) e M fun e M =>
    nx (oMv (eget e 5)) (some 13) e M fun e M =>
    nx (keep (aIndexS 1 (eget e 12) (eget e 13) M)) (some 14) e M fun e M =>
    nx (keep (aLoad false 1 (eget e 14) M)) (some 15) e M fun e M =>
    nx (oMv (eget e 1)) (some 16) e M fun e M =>
    nx (oBin cx.P .neq 2 (eget e 15) (eget e 16) M) (some 17) e M fun e M =>
    some (e, M)).map fun q => (prune [0, 1, 5, 17] q.1, q.2)
noncomputable def f17_r5 (call : CallF) : Env → Mem → Option (Env × Mem) := fun e M =>
    (nx (oMv (.int .i64 (-1))) (some 4) e M fun e M =>
    some (e, M)).map fun q => (prune [4] q.1, q.2)
noncomputable def f17_r6 (call : CallF) : Env → Mem → Option (Env × Mem) := fun e M =>
    (nx (oMv (eget e 1)) (some 18) e M fun e M =>
    nx (oBin cx.P .add 3 (eget e 18) (.int .i64 1) M) (some 19) e M fun e M =>
    nx (oMv (eget e 19)) (some 1) e M fun e M =>
    some (e, M)).map fun q => (prune [0, 1, 5] q.1, q.2)
noncomputable def f17_r7 (call : CallF) : Env → Mem → Option (Env × Mem) := fun e M =>
    (nx (oMv (eget e 1)) (some 20) e M fun e M =>
    nx (oMv (eget e 20)) (some 4) e M fun e M =>
    some (e, M)).map fun q => (prune [4] q.1, q.2)
noncomputable def f17_l2 (call : CallF) (k : Nat) : St :=
  (bSeq (bSeq (bReg (f17_r2 call))
  (bCond (.tmp 9)
   (bEx .nrm)
   (bEx (.ext 0))))
  (bSeq (bBlock 1 (bSeq (bSeq (bReg (f17_r4 call))
   (bCond (.tmp 17)
    (bSeq (bReg (f17_r5 call))
    (bEx .ret))
    (bEx .nrm)))
   (bReg (f17_r6 call))))
  (bReg (f17_r3 call))))
noncomputable def f17 (call : CallF) (k : Nat) : St :=
  (bSeq (bReg (f17_r0 call))
  (bSeq (bSeq (bReg (f17_r1 call))
  (bBlock 0 (bLoop [0, 1, 5] (f17_l2 call k) k)))
  (bSeq (bReg (f17_r7 call))
  (bEx .ret))))
theorem f17_eq (call : CallF) (k : Nat) : exec cx call 21 f17_an k (Try.f17.body.getD .skip) = f17 call k := by kernel_rfl
/-! ### f18: loop.example/g01263/laws.heldTallyS -/
def f18_an : Ann := ⟨[(0, ⟨[], [], [], [], [0, 1]⟩), (1, ⟨[], [], [], [], [0, 1, 5]⟩), (2, ⟨[], [], [], [], [0, 1, 5, 9]⟩), (3, ⟨[], [], [], [], [0, 1, 5]⟩), (4, ⟨[], [], [], [], [0, 1, 5, 18]⟩), (5, ⟨[], [], [], [], [4]⟩), (6, ⟨[], [], [], [], [0, 1, 5]⟩), (7, ⟨[], [], [], [], [0, 1, 5, 27]⟩), (8, ⟨[], [], [], [], [4]⟩), (9, ⟨[], [], [], [], [0, 1, 5]⟩), (10, ⟨[], [], [], [], [0, 1, 5, 36]⟩), (11, ⟨[], [], [], [], [4]⟩), (12, ⟨[], [], [], [], [0, 1, 5]⟩), (13, ⟨[], [], [], [], [0, 1, 5, 45]⟩), (14, ⟨[], [], [], [], [4]⟩), (15, ⟨[], [], [], [], [0, 1, 5]⟩), (16, ⟨[], [], [], [], [0, 1, 5, 54]⟩), (17, ⟨[], [], [], [], [4]⟩), (18, ⟨[], [], [], [], [0, 1, 5]⟩), (19, ⟨[], [], [], [], [4]⟩)], [(2, [0, 1, 5])]⟩
noncomputable def f18_r0 (call : CallF) : Env → Mem → Option (Env × Mem) := fun e M =>
    (nx (oMv (.int .i64 0)) (some 4) e M fun e M =>
    some (e, M)).map fun q => (prune [0, 1] q.1, q.2)
noncomputable def f18_r1 (call : CallF) : Env → Mem → Option (Env × Mem) := fun e M =>
    (nx (oMv (.int .i64 0)) (some 5) e M fun e M =>
    some (e, M)).map fun q => (prune [0, 1, 5] q.1, q.2)
noncomputable def f18_r2 (call : CallF) : Env → Mem → Option (Env × Mem) := fun e M =>
    (nx (oMv (eget e 5)) (some 6) e M fun e M =>
    nx (oMv (eget e 0)) (some 7) e M fun e M =>
    nx (oLen cx.P 23 (eget e 7) M) (some 8) e M fun e M =>
    nx (oBin cx.P .lss 3 (eget e 6) (eget e 8) M) (some 9) e M fun e M =>
    some (e, M)).map fun q => (prune [0, 1, 5, 9] q.1, q.2)
noncomputable def f18_r3 (call : CallF) : Env → Mem → Option (Env × Mem) := fun e M =>
    (nx (oMv (eget e 5)) (some 10) e M fun e M =>
    nx (oBin cx.P .add 3 (eget e 10) (.int .i64 1) M) (some 11) e M fun e M =>
    nx (oMv (eget e 11)) (some 5) e M fun e M =>
    some (e, M)).map fun q => (prune [0, 1, 5] q.1, q.2)
noncomputable def f18_r4 (call : CallF) : Env → Mem → Option (Env × Mem) := fun e M =>
    (nx (oMv (eget e 0)) (some 12) e M fun e M =>
    nx (oMv (eget e 5)) (some 13) e M fun e M =>
    nx (keep (aIndexS 5 (eget e 12) (eget e 13) M)) (some 14) e M fun e M =>
    nx (keep (aFieldAddr 0 1 (eget e 14) M)) (some 15) e M fun e M =>
    nx (keep (aLoad false 1 (eget e 15) M)) (some 16) e M fun e M =>
    nx (oMv (eget e 1)) (some 17) e M fun e M =>
    nx (oBin cx.P .neq 2 (eget e 16) (eget e 17) M) (some 18) e M fun e M =>
    some (e, M)).map fun q => (prune [0, 1, 5, 18] q.1, q.2)
noncomputable def f18_r5 (call : CallF) : Env → Mem → Option (Env × Mem) := fun e M =>
    (nx (oMv (.int .i64 (-1))) (some 4) e M fun e M =>
    some (e, M)).map fun q => (prune [4] q.1, q.2)
noncomputable def f18_r6 (call : CallF) : Env → Mem → Option (Env × Mem) := fun e M =>
    (nx (oMv (eget e 1)) (some 19) e M fun e M =>
    nx (oBin cx.P .add 3 (eget e 19) (.int .i64 1) M) (some 20) e M fun e M =>
    nx (oMv (eget e 20)) (some 1) e M fun e M =>
    some (e, M)).map fun q => (prune [0, 1, 5] q.1, q.2)
noncomputable def f18_r7 (call : CallF) : Env → Mem → Option (Env × Mem) := fun e M =>
    (nx (oMv (eget e 0)) (some 21) e M fun e M =>
    nx (oMv (eget e 5)) (some 22) e M fun e M =>
    nx (keep (aIndexS 5 (eget e 21) (eget e 22) M)) (some 23) e M fun e M =>
    nx (keep (aFieldAddr 1 1 (eget e 23) M)) (some 24) e M fun e M =>
    nx (keep (aLoad false 1 (eget e 24) M)) (some 25) e M fun e M =>
    nx (oMv (eget e 1)) (some 26) e M fun e M =>
    nx (oBin cx.P .neq 2 (eget e 25) (eget e 26) M) (some 27) e M fun e M =>
    some (e, M)).map fun q => (prune [0, 1, 5, 27] q.1, q.2)
noncomputable def f18_r8 (call : CallF) : Env → Mem → Option (Env × Mem) := fun e M =>
    (nx (oMv (.int .i64 (-1))) (some 4) e M fun e M =>
    some (e, M)).map fun q => (prune [4] q.1, q.2)
noncomputable def f18_r9 (call : CallF) : Env → Mem → Option (Env × Mem) := fun e M =>
    (nx (oMv (eget e 1)) (some 28) e M fun e M =>
    nx (oBin cx.P .add 3 (eget e 28) (.int .i64 1) M) (some 29) e M fun e M =>
    nx (oMv (eget e 29)) (some 1) e M fun e M =>
    some (e, M)).map fun q => (prune [0, 1, 5] q.1, q.2)
noncomputable def f18_r10 (call : CallF) : Env → Mem → Option (Env × Mem) := fun e M =>
    (nx (oMv (eget e 0)) (some 30) e M fun e M =>
    nx (oMv (eget e 5)) (some 31) e M fun e M =>
    nx (keep (aIndexS 5 (eget e 30) (eget e 31) M)) (some 32) e M fun e M =>
    nx (keep (aFieldAddr 2 1 (eget e 32) M)) (some 33) e M fun e M =>
    nx (keep (aLoad false 1 (eget e 33) M)) (some 34) e M fun e M =>
    nx (oMv (eget e 1)) (some 35) e M fun e M =>
    nx (oBin cx.P .neq 2 (eget e 34) (eget e 35) M) (some 36) e M fun e M =>
    some (e, M)).map fun q => (prune [0, 1, 5, 36] q.1, q.2)
noncomputable def f18_r11 (call : CallF) : Env → Mem → Option (Env × Mem) := fun e M =>
    (nx (oMv (.int .i64 (-1))) (some 4) e M fun e M =>
    some (e, M)).map fun q => (prune [4] q.1, q.2)
noncomputable def f18_r12 (call : CallF) : Env → Mem → Option (Env × Mem) := fun e M =>
    (nx (oMv (eget e 1)) (some 37) e M fun e M =>
    nx (oBin cx.P .add 3 (eget e 37) (.int .i64 1) M) (some 38) e M fun e M =>
    nx (oMv (eget e 38)) (some 1) e M fun e M =>
    some (e, M)).map fun q => (prune [0, 1, 5] q.1, q.2)
noncomputable def f18_r13 (call : CallF) : Env → Mem → Option (Env × Mem) := fun e M =>
    (nx (oMv (eget e 0)) (some 39) e M fun e M =>
    nx (oMv (eget e 5)) (some 40) e M fun e M =>
    nx (keep (aIndexS 5 (eget e 39) (eget e 40) M)) (some 41) e M fun e M =>
    nx (keep (aFieldAddr 3 1 (eget e 41) M)) (some 42) e M fun e M =>
    nx (keep (aLoad false 1 (eget e 42) M)) (some 43) e M fun e M =>
    nx (oMv (eget e 1)) (some 44) e M fun e M =>
    nx (oBin cx.P .neq 2 (eget e 43) (eget e 44) M) (some 45) e M fun e M =>
    some (e, M)).map fun q => (prune [0, 1, 5, 45] q.1, q.2)
noncomputable def f18_r14 (call : CallF) : Env → Mem → Option (Env × Mem) := fun e M =>
    (nx (oMv (.int .i64 (-1))) (some 4) e M fun e M =>
    some (e, M)).map fun q => (prune [4] q.1, q.2)
noncomputable def f18_r15 (call : CallF) : Env → Mem → Option (Env × Mem) := fun e M =>
    (nx (oMv (eget e 1)) (some 46) e M fun e M =>
    nx (oBin cx.P .add 3 (eget e 46) (.int .i64 1) M) (some 47) e M fun e M =>
    nx (oMv (eget e 47)) (some 1) e M fun e M =>
    some (e, M)).map fun q => (prune [0, 1, 5] q.1, q.2)
noncomputable def f18_r16 (call : CallF) : Env → Mem → Option (Env × Mem) := fun e M =>
    (nx (oMv (eget e 0)) (some 48) e M fun e M =>
    nx (oMv (eget e 5)) (some 49) e M fun e M =>
    nx (keep (aIndexS 5 (eget e 48) (eget e 49) M)) (some 50) e M fun e M =>
    nx (keep (aFieldAddr 4 1 (eget e 50) M)) (some 51) e M fun e M =>
    nx (keep (aLoad false 1 (eget e 51) M)) (some 52) e M fun e M =>
    nx (oMv (eget e 1)) (some 53) e M fun e M =>
    nx (oBin cx.P .neq 2 (eget e 52) (eget e 53) M) (some 54) e M fun e M =>
    some (e, M)).map fun q => (prune [0, 1, 5, 54] q.1, q.2)
noncomputable def f18_r17 (call : CallF) : Env → Mem → Option (Env × Mem) := fun e M =>
    (nx (oMv (.int .i64 (-1))) (some 4) e M fun e M =>
    some (e, M)).map fun q => (prune [4] q.1, q.2)
noncomputable def f18_r18 (call : CallF) : Env → Mem → Option (Env × Mem) := fun e M =>
    (nx (oMv (eget e 1)) (some 55) e M fun e M =>
    nx (oBin cx.P .add 3 (eget e 55) (.int .i64 1) M) (some 56) e M fun e M =>
    nx (oMv (eget e 56)) (some 1) e M fun e M =>
    some (e, M)).map fun q => (prune [0, 1, 5] q.1, q.2)
noncomputable def f18_r19 (call : CallF) : Env → Mem → Option (Env × Mem) := fun e M =>
    (nx (oMv (eget e 1)) (some 57) e M fun e M =>
    nx (oMv (eget e 57)) (some 4) e M fun e M =>
    some (e, M)).map fun q => (prune [4] q.1, q.2)
noncomputable def f18_l2 (call : CallF) (k : Nat) : St :=
  (bSeq (bSeq (bReg (f18_r2 call))
  (bCond (.tmp 9)
   (bEx .nrm)
   (bEx (.ext 0))))
  (bSeq (bBlock 1 (bSeq (bSeq (bReg (f18_r4 call))
   (bCond (.tmp 18)
    (bSeq (bReg (f18_r5 call))
    (bEx .ret))
    (bEx .nrm)))
   (bSeq (bReg (f18_r6 call))
   (bSeq (bSeq (bReg (f18_r7 call))
   (bCond (.tmp 27)
    (bSeq (bReg (f18_r8 call))
    (bEx .ret))
    (bEx .nrm)))
   (bSeq (bReg (f18_r9 call))
   (bSeq (bSeq (bReg (f18_r10 call))
   (bCond (.tmp 36)
    (bSeq (bReg (f18_r11 call))
    (bEx .ret))
    (bEx .nrm)))
   (bSeq (bReg (f18_r12 call))
   (bSeq (bSeq (bReg (f18_r13 call))
   (bCond (.tmp 45)
    (bSeq (bReg (f18_r14 call))
    (bEx .ret))
    (bEx .nrm)))
   (bSeq (bReg (f18_r15 call))
   (bSeq (bSeq (bReg (f18_r16 call))
   (bCond (.tmp 54)
    (bSeq (bReg (f18_r17 call))
    (bEx .ret))
    (bEx .nrm)))
   (bReg (f18_r18 call))))))))))))
  (bReg (f18_r3 call))))
noncomputable def f18 (call : CallF) (k : Nat) : St :=
  (bSeq (bReg (f18_r0 call))
  (bSeq (bSeq (bReg (f18_r1 call))
  (bBlock 0 (bLoop [0, 1, 5] (f18_l2 call k) k)))
  (bSeq (bReg (f18_r19 call))
  (bEx .ret))))
theorem f18_eq (call : CallF) (k : Nat) : exec cx call 58 f18_an k (Try.f18.body.getD .skip) = f18 call k := by kernel_rfl
/-! ### f19: loop.example/g01263/spec.l01Amount -/
def f19_an : Ann := ⟨[(0, ⟨[], [], [], [], [0]⟩), (1, ⟨[], [], [], [], [2]⟩)], []⟩
noncomputable def f19_r0 (call : CallF) : Env → Mem → Option (Env × Mem) := fun e M =>
    (nx (oMv (.bool false)) (some 2) e M fun e M =>
    some (e, M)).map fun q => (prune [0] q.1, q.2)
noncomputable def f19_r1 (call : CallF) : Env → Mem → Option (Env × Mem) := fun e M =>
    (nx (oMv (eget e 0)) (some 3) e M fun e M =>
    nx (aCall cx.P.cellsOf cx.rw call false M.length 20 [(eget e 3), (.int .i64 0), (.int .i64 100000000)] M) (some 4) e M fun e M =>
    nx (oMv (eget e 4)) (some 2) e M fun e M =>
    some (e, M)).map fun q => (prune [2] q.1, q.2)
noncomputable def f19 (call : CallF) (k : Nat) : St :=
  (bSeq (bReg (f19_r0 call))
  (bSeq (bReg (f19_r1 call))
  (bEx .ret)))
theorem f19_eq (call : CallF) (k : Nat) : exec cx call 5 f19_an k (Try.f19.body.getD .skip) = f19 call k := by kernel_rfl
/-! ### f20: loop.example/g01263/spec.l00In -/
def f20_an : Ann := ⟨[(0, ⟨[], [], [], [], [0, 1, 2]⟩), (1, ⟨[], [], [], [], [6]⟩)], []⟩
noncomputable def f20_r0 (call : CallF) : Env → Mem → Option (Env × Mem) := fun e M =>
    (nx (oMv (.bool false)) (some 6) e M fun e M =>
    some (e, M)).map fun q => (prune [0, 1, 2] q.1, q.2)
noncomputable def f20_r1 (call : CallF) : Env → Mem → Option (Env × Mem) := fun e M =>
    (nx (oMv (eget e 0)) (some 7) e M fun e M =>
    nx (oMv (eget e 1)) (some 8) e M fun e M =>
    nx (oBin cx.P .geq 2 (eget e 7) (eget e 8) M) (some 9) e M fun e M =>
    nx (oMv (eget e 9)) (some 10) e M fun e M =>
    nx (aGuard (some ((eget e 10), true)) (oMv (eget e 0))) (some 11) e M fun e M =>
    nx (aGuard (some ((eget e 10), true)) (oMv (eget e 2))) (some 12) e M fun e M =>
    nx (aGuard (some ((eget e 10), true)) (oBin cx.P .leq 2 (eget e 11) (eget e 12) M)) (some 13) e M fun e M =>
    nx (keep (aPick (eget e 10) (eget e 13) (.bool false))) (some 14) e M fun e M =>
    nx (oMv (eget e 14)) (some 6) e M fun e M =>
    some (e, M)).map fun q => (prune [6] q.1, q.2)
noncomputable def f20 (call : CallF) (k : Nat) : St :=
  (bSeq (bReg (f20_r0 call))
  (bSeq (bReg (f20_r1 call))
  (bEx .ret)))
theorem f20_eq (call : CallF) (k : Nat) : exec cx call 15 f20_an k (Try.f20.body.getD .skip) = f20 call k := by kernel_rfl
/-! ### f21: loop.example/g01263/impl.isBookDay -/
def f21_an : Ann := ⟨[(0, ⟨[], [], [], [], [0]⟩), (1, ⟨[], [], [], [], [2]⟩)], []⟩
noncomputable def f21_r0 (call : CallF) : Env → Mem → Option (Env × Mem) := fun e M =>
    (nx (oMv (.bool false)) (some 2) e M fun e M =>
    some (e, M)).map fun q => (prune [0] q.1, q.2)
noncomputable def f21_r1 (call : CallF) : Env → Mem → Option (Env × Mem) := fun e M =>
    (nx (oMv (eget e 0)) (some 3) e M fun e M =>
    nx (oBin cx.P .geq 2 (eget e 3) (.int .i64 0) M) (some 4) e M fun e M =>
    nx (oMv (eget e 4)) (some 5) e M fun e M =>
    nx (aGuard (some ((eget e 5), true)) (oMv (eget e 0))) (some 6) e M fun e M =>
    nx (aGuard (some ((eget e 5), true)) (oBin cx.P .leq 2 (eget e 6) (.int .i64 100000) M)) (some 7) e M fun e M =>
    nx (keep (aPick (eget e 5) (eget e 7) (.bool false))) (some 8) e M fun e M =>
    nx (oMv (eget e 8)) (some 2) e M fun e M =>
    some (e, M)).map fun q => (prune [2] q.1, q.2)
noncomputable def f21 (call : CallF) (k : Nat) : St :=
  (bSeq (bReg (f21_r0 call))
  (bSeq (bReg (f21_r1 call))
  (bEx .ret)))
theorem f21_eq (call : CallF) (k : Nat) : exec cx call 9 f21_an k (Try.f21.body.getD .skip) = f21 call k := by kernel_rfl
/-! ### f22: loop.example/g01263/impl.isAmount -/
def f22_an : Ann := ⟨[(0, ⟨[], [], [], [], [0]⟩), (1, ⟨[], [], [], [], [2]⟩)], []⟩
noncomputable def f22_r0 (call : CallF) : Env → Mem → Option (Env × Mem) := fun e M =>
    (nx (oMv (.bool false)) (some 2) e M fun e M =>
    some (e, M)).map fun q => (prune [0] q.1, q.2)
noncomputable def f22_r1 (call : CallF) : Env → Mem → Option (Env × Mem) := fun e M =>
    (nx (oMv (eget e 0)) (some 3) e M fun e M =>
    nx (oBin cx.P .geq 2 (eget e 3) (.int .i64 0) M) (some 4) e M fun e M =>
    nx (oMv (eget e 4)) (some 5) e M fun e M =>
    nx (aGuard (some ((eget e 5), true)) (oMv (eget e 0))) (some 6) e M fun e M =>
    nx (aGuard (some ((eget e 5), true)) (oBin cx.P .leq 2 (eget e 6) (.int .i64 100000000) M)) (some 7) e M fun e M =>
    nx (keep (aPick (eget e 5) (eget e 7) (.bool false))) (some 8) e M fun e M =>
    nx (oMv (eget e 8)) (some 2) e M fun e M =>
    some (e, M)).map fun q => (prune [2] q.1, q.2)
noncomputable def f22 (call : CallF) (k : Nat) : St :=
  (bSeq (bReg (f22_r0 call))
  (bSeq (bReg (f22_r1 call))
  (bEx .ret)))
theorem f22_eq (call : CallF) (k : Nat) : exec cx call 9 f22_an k (Try.f22.body.getD .skip) = f22 call k := by kernel_rfl
/-! ### f23: loop.example/g01263/impl.arePeople -/
def f23_an : Ann := ⟨[(0, ⟨[], [], [], [], [0, 1]⟩), (1, ⟨[], [], [], [], [0, 7, 8, 9]⟩), (2, ⟨[], [], [], [], [0, 7, 8, 9, 10]⟩), (3, ⟨[], [], [], [], [0, 6, 7, 8, 9]⟩), (4, ⟨[], [], [], [], [0, 7, 8, 9, 19]⟩), (5, ⟨[], [], [], [], [4]⟩), (6, ⟨[], [], [], [], [0, 7, 8, 9]⟩), (7, ⟨[], [], [], [], [4]⟩)], [(2, [0, 7, 8, 9])]⟩
noncomputable def f23_r0 (call : CallF) : Env → Mem → Option (Env × Mem) := fun e M =>
    (nx (oMv (.bool false)) (some 4) e M fun e M =>
    some (e, M)).map fun q => (prune [0, 1] q.1, q.2)
noncomputable def f23_r1 (call : CallF) : Env → Mem → Option (Env × Mem) := fun e M =>
    (nx (oMv (eget e 1)) (some 7) e M fun e M =>
    nx (oLen cx.P 22 (eget e 7) M) (some 8) e M fun e M =>
    nx (oMv (.int .i64 0)) (some 9) e M fun e M =>
    some (e, M)).map fun q => (prune [0, 7, 8, 9] q.1, q.2)
noncomputable def f23_r2 (call : CallF) : Env → Mem → Option (Env × Mem) := fun e M =>
    (nx (oBin cx.P .lss 3 (eget e 9) (eget e 8) M) (some 10) e M fun e M =>
    some (e, M)).map fun q => (prune [0, 7, 8, 9, 10] q.1, q.2)
noncomputable def f23_r3 (call : CallF) : Env → Mem → Option (Env × Mem) := fun e M =>
    (nx (keep (aIndexS 1 (eget e 7) (eget e 9) M)) (some 11) e M fun e M =>
    nx (keep (aLoad false 1 (eget e 11) M)) (some 12) e M fun e M =>
    nx (oMv (eget e 12)) (some 6) e M fun e M =>
    some (e, M)).map fun q => (prune [0, 6, 7, 8, 9] q.1, q.2)
noncomputable def f23_r4 (call : CallF) : Env → Mem → Option (Env × Mem) := fun e M =>
    (nx (oMv (eget e 6)) (some 13) e M fun e M =>
    nx (oBin cx.P .lss 2 (eget e 13) (.int .i64 0) M) (some 14) e M fun e M =>
    nx (oMv (eget e 14)) (some 15) e M fun e M =>
    nx (aGuard (some ((eget e 15), false)) (oMv (eget e 6))) (some 16) e M fun e M =>
    nx (aGuard (some ((eget e 15), false)) (oMv (eget e 0))) (some 17) e M fun e M =>
    nx (aGuard (some ((eget e 15), false)) (oBin cx.P .geq 2 (eget e 16) (eget e 17) M)) (some 18) e M fun e M =>
    nx (keep (aPick (eget e 15) (.bool true) (eget e 18))) (some 19) e M fun e M =>
    some (e, M)).map fun q => (prune [0, 7, 8, 9, 19] q.1, q.2)
noncomputable def f23_r5 (call : CallF) : Env → Mem → Option (Env × Mem) := fun e M =>
    (nx (oMv (.bool false)) (some 4) e M fun e M =>
    some (e, M)).map fun q => (prune [4] q.1, q.2)
noncomputable def f23_r6 (call : CallF) : Env → Mem → Option (Env × Mem) := fun e M =>
    (nx (oBin cx.P .add 3 (eget e 9) (.int .i64 1) M) (some 20) e M fun e M =>
    nx (oMv (eget e 20)) (some 9) e M fun e M =>
    some (e, M)).map fun q => (prune [0, 7, 8, 9] q.1, q.2)
noncomputable def f23_r7 (call : CallF) : Env → Mem → Option (Env × Mem) := fun e M =>
    (nx (oMv (.bool true)) (some 4) e M fun e M =>
    some (e, M)).map fun q => (prune [4] q.1, q.2)
noncomputable def f23_l2 (call : CallF) (k : Nat) : St :=
  (bSeq (bReg (f23_r2 call))
  (bSeq (bCond (.tmp 10)
   (bEx .nrm)
   (bEx (.ext 0)))
  (bSeq (bBlock 1 (bSeq (bReg (f23_r3 call))
   (bSeq (bReg (f23_r4 call))
   (bCond (.tmp 19)
    (bSeq (bReg (f23_r5 call))
    (bEx .ret))
    (bEx .nrm)))))
  (bReg (f23_r6 call)))))
noncomputable def f23 (call : CallF) (k : Nat) : St :=
  (bSeq (bReg (f23_r0 call))
  (bSeq (bSeq (bReg (f23_r1 call))
  (bBlock 0 (bLoop [0, 7, 8, 9] (f23_l2 call k) k)))
  (bSeq (bReg (f23_r7 call))
  (bEx .ret))))
theorem f23_eq (call : CallF) (k : Nat) : exec cx call 21 f23_an k (Try.f23.body.getD .skip) = f23 call k := by kernel_rfl
/-! ### f24: loop.example/g01263/laws.eqTally -/
def f24_an : Ann := ⟨[(0, ⟨[], [], [], [], [2, 3]⟩), (1, ⟨[], [], [], [], [2, 3, 9]⟩), (2, ⟨[], [], [], [], [4]⟩), (3, ⟨[], [], [], [], [2, 3, 14]⟩), (4, ⟨[], [], [], [], [4]⟩), (5, ⟨[], [], [], [], [2, 3, 19]⟩), (6, ⟨[], [], [], [], [4]⟩), (7, ⟨[], [], [], [], [2, 3, 24]⟩), (8, ⟨[], [], [], [], [4]⟩), (9, ⟨[], [], [], [], [29]⟩), (10, ⟨[], [], [], [], [4]⟩), (11, ⟨[], [], [], [], [4]⟩)], []⟩
noncomputable def f24_r0 (call : CallF) : Env → Mem → Option (Env × Mem) := fun e M =>
    (nx (keep (aBox 5 (eget e 0) M)) (some 2) e M fun e M =>
    nx (keep (aBox 5 (eget e 1) M)) (some 3) e M fun e M =>
    nx (oMv (.bool false)) (some 4) e M fun e M =>
    some (e, M)).map fun q => (prune [2, 3] q.1, q.2)
noncomputable def f24_r1 (call : CallF) : Env → Mem → Option (Env × Mem) := fun e M =>
    (nx (keep (aFieldAddr 0 1 (eget e 2) M)) (some 5) e M fun e M =>
    nx (keep (aLoad false 1 (eget e 5) M)) (some 6) e M fun e M =>
    nx (keep (aFieldAddr 0 1 (eget e 3) M)) (some 7) e M fun e M =>
    nx (keep (aLoad false 1 (eget e 7) M)) (some 8) e M fun e M =>
    nx (oBin cx.P .neq 2 (eget e 6) (eget e 8) M) (some 9) e M fun e M =>
    some (e, M)).map fun q => (prune [2, 3, 9] q.1, q.2)
noncomputable def f24_r2 (call : CallF) : Env → Mem → Option (Env × Mem) := fun e M =>
    (nx (oMv (.bool false)) (some 4) e M fun e M =>
    some (e, M)).map fun q => (prune [4] q.1, q.2)
noncomputable def f24_r3 (call : CallF) : Env → Mem → Option (Env × Mem) := fun e M =>
    (nx (keep (aFieldAddr 1 1 (eget e 2) M)) (some 10) e M fun e M =>
    nx (keep (aLoad false 1 (eget e 10) M)) (some 11) e M fun e M =>
    nx (keep (aFieldAddr 1 1 (eget e 3) M)) (some 12) e M fun e M =>
    nx (keep (aLoad false 1 (eget e 12) M)) (some 13) e M fun e M =>
    nx (oBin cx.P .neq 2 (eget e 11) (eget e 13) M) (some 14) e M fun e M =>
    some (e, M)).map fun q => (prune [2, 3, 14] q.1, q.2)
noncomputable def f24_r4 (call : CallF) : Env → Mem → Option (Env × Mem) := fun e M =>
    (nx (oMv (.bool false)) (some 4) e M fun e M =>
    some (e, M)).map fun q => (prune [4] q.1, q.2)
noncomputable def f24_r5 (call : CallF) : Env → Mem → Option (Env × Mem) := fun e M =>
    (nx (keep (aFieldAddr 2 1 (eget e 2) M)) (some 15) e M fun e M =>
    nx (keep (aLoad false 1 (eget e 15) M)) (some 16) e M fun e M =>
    nx (keep (aFieldAddr 2 1 (eget e 3) M)) (some 17) e M fun e M =>
    nx (keep (aLoad false 1 (eget e 17) M)) (some 18) e M fun e M =>
    nx (oBin cx.P .neq 2 (eget e 16) (eget e 18) M) (some 19) e M fun e M =>
    some (e, M)).map fun q => (prune [2, 3, 19] q.1, q.2)
noncomputable def f24_r6 (call : CallF) : Env → Mem → Option (Env × Mem) := fun e M =>
    (nx (oMv (.bool false)) (some 4) e M fun e M =>
    some (e, M)).map fun q => (prune [4] q.1, q.2)
noncomputable def f24_r7 (call : CallF) : Env → Mem → Option (Env × Mem) := fun e M =>
    (nx (keep (aFieldAddr 3 1 (eget e 2) M)) (some 20) e M fun e M =>
    nx (keep (aLoad false 1 (eget e 20) M)) (some 21) e M fun e M =>
    nx (keep (aFieldAddr 3 1 (eget e 3) M)) (some 22) e M fun e M =>
    nx (keep (aLoad false 1 (eget e 22) M)) (some 23) e M fun e M =>
    nx (oBin cx.P .neq 2 (eget e 21) (eget e 23) M) (some 24) e M fun e M =>
    some (e, M)).map fun q => (prune [2, 3, 24] q.1, q.2)
noncomputable def f24_r8 (call : CallF) : Env → Mem → Option (Env × Mem) := fun e M =>
    (nx (oMv (.bool false)) (some 4) e M fun e M =>
    some (e, M)).map fun q => (prune [4] q.1, q.2)
noncomputable def f24_r9 (call : CallF) : Env → Mem → Option (Env × Mem) := fun e M =>
    (nx (keep (aFieldAddr 4 1 (eget e 2) M)) (some 25) e M fun e M =>
    nx (keep (aLoad false 1 (eget e 25) M)) (some 26) e M fun e M =>
    nx (keep (aFieldAddr 4 1 (eget e 3) M)) (some 27) e M fun e M =>
    nx (keep (aLoad false 1 (eget e 27) M)) (some 28) e M fun e M =>
    nx (oBin cx.P .neq 2 (eget e 26) (eget e 28) M) (some 29) e M fun e M =>
    some (e, M)).map fun q => (prune [29] q.1, q.2)
noncomputable def f24_r10 (call : CallF) : Env → Mem → Option (Env × Mem) := fun e M =>
    (nx (oMv (.bool false)) (some 4) e M fun e M =>
    some (e, M)).map fun q => (prune [4] q.1, q.2)
noncomputable def f24_r11 (call : CallF) : Env → Mem → Option (Env × Mem) := fun e M =>
    (nx (oMv (.bool true)) (some 4) e M fun e M =>
    some (e, M)).map fun q => (prune [4] q.1, q.2)
noncomputable def f24 (call : CallF) (k : Nat) : St :=
  (bSeq (bReg (f24_r0 call))
  (bSeq (bSeq (bReg (f24_r1 call))
  (bCond (.tmp 9)
   (bSeq (bReg (f24_r2 call))
   (bEx .ret))
   (bEx .nrm)))
  (bSeq (bSeq (bReg (f24_r3 call))
  (bCond (.tmp 14)
   (bSeq (bReg (f24_r4 call))
   (bEx .ret))
   (bEx .nrm)))
  (bSeq (bSeq (bReg (f24_r5 call))
  (bCond (.tmp 19)
   (bSeq (bReg (f24_r6 call))
   (bEx .ret))
   (bEx .nrm)))
  (bSeq (bSeq (bReg (f24_r7 call))
  (bCond (.tmp 24)
   (bSeq (bReg (f24_r8 call))
   (bEx .ret))
   (bEx .nrm)))
  (bSeq (bSeq (bReg (f24_r9 call))
  (bCond (.tmp 29)
   (bSeq (bReg (f24_r10 call))
   (bEx .ret))
   (bEx .nrm)))
  (bSeq (bReg (f24_r11 call))
  (bEx .ret))))))))
theorem f24_eq (call : CallF) (k : Nat) : exec cx call 30 f24_an k (Try.f24.body.getD .skip) = f24 call k := by kernel_rfl
def anns : List (Nat × Ann) := [(3, f3_an), (4, f4_an), (5, f5_an), (6, f6_an), (7, f7_an), (8, f8_an), (9, f9_an), (10, f10_an), (11, f11_an), (12, f12_an), (13, f13_an), (14, f14_an), (15, f15_an), (16, f16_an), (17, f17_an), (18, f18_an), (19, f19_an), (20, f20_an), (21, f21_an), (22, f22_an), (23, f23_an), (24, f24_an)]
noncomputable def CN0 : Nat → CallF := callN cx (Go.Ab.look anns) (fun _ _ _ => none) (fun _ => false)
def isP (f : Nat) : Bool := has [13] f
noncomputable def primF : CallF := splitNil (callN cx (Go.Ab.look anns) (fun _ _ _ => none) (fun _ => false) 3)
noncomputable def CN : Nat → CallF := callN cx (Go.Ab.look anns) primF isP
end Go.Proofs.Ytaocojognonkcab

/- Printed by a program of ours (ext.py). -/
import Derived.Test.YtfabokkhdalbeaaAbFold
import Derived.Test.YtfabokkhdalbeaaProg
set_option linter.unusedVariables false
set_option maxRecDepth 100000
set_option maxHeartbeats 2000000
namespace Go.Proofs.Ytfabokkhdalbeaa
open Go Go.Ab
noncomputable def cx : Cx := ⟨Try.prog, fun f => has [] f⟩
/-! ### f7: loop.example/g01263/laws.FnExactWorthOfPerson -/
def f7_an : Ann := ⟨[(0, ⟨[], [], [], [], [1, 2]⟩), (1, ⟨[], [], [], [], [1, 2, 5]⟩), (2, ⟨[], [], [], [], [1, 2, 5]⟩), (3, ⟨[], [], [], [], [1, 2, 15]⟩), (4, ⟨[], [], [], [], [4]⟩), (5, ⟨[], [], [], [], [1, 2, 6, 7]⟩), (6, ⟨[], [1], [], [], [1, 2, 6, 7, 8]⟩), (7, ⟨[], [], [], [], [2, 6, 7, 8, 9, 10]⟩), (8, ⟨[], [], [], [], [2, 8, 38]⟩), (9, ⟨[], [], [], [], [4]⟩), (10, ⟨[], [], [], [], [43]⟩), (11, ⟨[], [], [], [], [4]⟩), (12, ⟨[], [], [], [], [4]⟩)], []⟩
noncomputable def f7_r0 (call : CallF) : Env → Mem → Option (Env × Mem) := fun e M =>
    (nx (keep (aBox 3 (eget e 0) M)) (some 2) e M fun e M =>
    nx (oMv (.bool false)) (some 4) e M fun e M =>
    some (e, M)).map fun q => (prune [1, 2] q.1, q.2)
noncomputable def f7_r1 (call : CallF) : Env → Mem → Option (Env × Mem) := fun e M =>
    (nx (oMv (.int .i64 1048576)) (some 5) e M fun e M =>
    some (e, M)).map fun q => (prune [1, 2, 5] q.1, q.2)
noncomputable def f7_r2 (call : CallF) : Env → Mem → Option (Env × Mem) := fun e M =>
    (nx (keep (aLoad true 3 (eget e 2) M)) (some 11) e M fun e M =>
    nx (oMv (eget e 5)) (some 12) e M fun e M =>
    nx (aCall cx.P.cellsOf cx.rw call false M.length 13 [(eget e 11), (eget e 12)] M) (some 13) e M fun e M =>
    nx (oMv (eget e 13)) (some 5) e M fun e M =>
    some (e, M)).map fun q => (prune [1, 2, 5] q.1, q.2)
noncomputable def f7_r3 (call : CallF) : Env → Mem → Option (Env × Mem) := fun e M =>
    (nx (oMv (eget e 5)) (some 14) e M fun e M =>
    nx (oBin cx.P .lss 3 (eget e 14) (.int .i64 0) M) (some 15) e M fun e M =>
    some (e, M)).map fun q => (prune [1, 2, 15] q.1, q.2)
noncomputable def f7_r4 (call : CallF) : Env → Mem → Option (Env × Mem) := fun e M =>
    (nx (oMv (.bool true)) (some 4) e M fun e M =>
    some (e, M)).map fun q => (prune [4] q.1, q.2)
noncomputable def f7_r5 (call : CallF) : Env → Mem → Option (Env × Mem) := fun e M =>
    (nx (keep (aLoad true 3 (eget e 2) M)) (some 17) e M fun e M =>
    nx (aCall cx.P.cellsOf cx.rw call false M.length 15 [(eget e 17)] M) (some 18) e M fun e M =>
    nx (oMv (eget e 1)) (some 19) e M fun e M =>
    nx (aCall cx.P.cellsOf cx.rw call false M.length 27 [(eget e 18), (eget e 19)] M) (some 20) e M fun e M =>
    nx (oMv (eget e 20)) (some 16) e M fun e M =>
    nx (keep (aExtract 0 (eget e 16))) (some 21) e M fun e M =>
    nx (keep (aExtract 1 (eget e 16))) (some 22) e M fun e M =>
    nx (oMv (eget e 21)) (some 6) e M fun e M =>
    nx (oMv (eget e 22)) (some 7) e M fun e M =>
    some (e, M)).map fun q => (prune [1, 2, 6, 7] q.1, q.2)
noncomputable def f7_r6 (call : CallF) : Env → Mem → Option (Env × Mem) := fun e M =>
    (nx (keep (aLoad true 3 (eget e 2) M)) (some 23) e M fun e M =>
    nx (aCall cx.P.cellsOf cx.rw call true M.length 15 [(eget e 23)] M) (some 24) e M fun e M =>
    nx (oAlloc cx.P M.length 50 3) (some 8) e M fun e M =>
    nx (oStore 3 (eget e 8) (eget e 24) M) none e M fun e M =>
    some (e, M)).map fun q => (prune [1, 2, 6, 7, 8] q.1, q.2)
noncomputable def f7_r7 (call : CallF) : Env → Mem → Option (Env × Mem) := fun e M =>
    (nx (keep (aLoad true 3 (eget e 8) M)) (some 26) e M fun e M =>
    nx (oMv (eget e 1)) (some 27) e M fun e M =>
    nx (aCall cx.P.cellsOf cx.rw call false M.length 28 [(eget e 26), (eget e 27)] M) (some 28) e M fun e M =>
    nx (oMv (eget e 28)) (some 25) e M fun e M =>
    nx (keep (aExtract 0 (eget e 25))) (some 29) e M fun e M =>
    nx (keep (aExtract 1 (eget e 25))) (some 30) e M fun e M =>
    nx (oMv (eget e 29)) (some 9) e M fun e M =>
    nx (oMv (eget e 30)) (some 10) e M fun e M =>
    some (e, M)).map fun q => (prune [2, 6, 7, 8, 9, 10] q.1, q.2)
noncomputable def f7_r8 (call : CallF) : Env → Mem → Option (Env × Mem) := fun e M =>
    (nx (oMv (eget e 9)) (some 31) e M fun e M =>
    nx (oMv (eget e 6)) (some 32) e M fun e M =>
    nx (oBin cx.P .neq 2 (eget e 31) (eget e 32) M) (some 33) e M fun e M =>
    nx (oMv (eget e 33)) (some 34) e M fun e M =>
    nx (aGuard (some ((eget e 34), false)) (oMv (eget e 10))) (some 35) e M fun e M =>
    nx (aGuard (some ((eget e 34), false)) (oMv (eget e 7))) (some 36) e M fun e M =>
    nx (aGuard (some ((eget e 34), false)) (oBin cx.P .neq 2 (eget e 35) (eget e 36) M)) (some 37) e M fun e M =>
    nx (keep (aPick (eget e 34) (.bool true) (eget e 37))) (some 38) e M fun e M =>
    some (e, M)).map fun q => (prune [2, 8, 38] q.1, q.2)
noncomputable def f7_r9 (call : CallF) : Env → Mem → Option (Env × Mem) := fun e M =>
    (nx (oMv (.bool false)) (some 4) e M fun e M =>
    some (e, M)).map fun q => (prune [4] q.1, q.2)
noncomputable def f7_r10 (call : CallF) : Env → Mem → Option (Env × Mem) := fun e M =>
    rD [43] (fun (C : List Ob) =>
    nf (keep (aLoad true 3 (eget e 8) M)) (some 39) false e C fun e C =>
    nf (keep (aLoad true 3 (eget e 2) M)) (some 40) false e C fun e C =>
    nf (aCall cx.P.cellsOf cx.rw call false (M.length + C.length) 15 [(eget e 40)] M) (some 41) false e C fun e C =>
    nf (aCall cx.P.cellsOf cx.rw call false (M.length + C.length) 17 [(eget e 39), (eget e 41)] M) (some 42) false e C fun e C =>
    nf (keep (aUn .not (eget e 42))) (some 43) false e C fun e C =>
    some (e, C)) (fun (e : Env) (M : Mem) =>
    some (e, M)) M
noncomputable def f7_r11 (call : CallF) : Env → Mem → Option (Env × Mem) := fun e M =>
    (nx (oMv (.bool false)) (some 4) e M fun e M =>
    some (e, M)).map fun q => (prune [4] q.1, q.2)
noncomputable def f7_r12 (call : CallF) : Env → Mem → Option (Env × Mem) := fun e M =>
    (nx (oMv (.bool true)) (some 4) e M fun e M =>
    some (e, M)).map fun q => (prune [4] q.1, q.2)
noncomputable def f7 (call : CallF) (k : Nat) : St :=
  (bSeq (bReg (f7_r0 call))
  (bSeq (bReg (f7_r1 call))
  (bSeq (bReg (f7_r2 call))
  (bSeq (bSeq (bReg (f7_r3 call))
  (bCond (.tmp 15)
   (bSeq (bReg (f7_r4 call))
   (bEx .ret))
   (bEx .nrm)))
  (bSeq (bReg (f7_r5 call))
  (bSeq (bReg (f7_r6 call))
  (bSeq (bReg (f7_r7 call))
  (bSeq (bSeq (bReg (f7_r8 call))
  (bCond (.tmp 38)
   (bSeq (bReg (f7_r9 call))
   (bEx .ret))
   (bEx .nrm)))
  (bSeq (bSeq (bReg (f7_r10 call))
  (bCond (.tmp 43)
   (bSeq (bReg (f7_r11 call))
   (bEx .ret))
   (bEx .nrm)))
  (bSeq (bReg (f7_r12 call))
  (bEx .ret)))))))))))
theorem f7_eq (call : CallF) (k : Nat) : exec cx call 44 f7_an k (Try.f7.body.getD .skip) = f7 call k := by kernel_rfl
/-! ### f13: loop.example/g01263/laws.szBook -/
def f13_an : Ann := ⟨[(0, ⟨[], [], [], [], [1, 2]⟩), (1, ⟨[], [], [], [], [1, 2]⟩), (2, ⟨[], [], [], [], [1, 2, 10]⟩), (3, ⟨[], [], [], [], [4]⟩), (4, ⟨[], [], [], [], [1]⟩), (5, ⟨[], [], [], [], [1, 16]⟩), (6, ⟨[], [], [], [], [4]⟩), (7, ⟨[], [], [], [], [4]⟩)], []⟩
noncomputable def f13_r0 (call : CallF) : Env → Mem → Option (Env × Mem) := fun e M =>
    (nx (keep (aBox 3 (eget e 0) M)) (some 2) e M fun e M =>
    nx (oMv (.int .i64 0)) (some 4) e M fun e M =>
    some (e, M)).map fun q => (prune [1, 2] q.1, q.2)
noncomputable def f13_r1 (call : CallF) : Env → Mem → Option (Env × Mem) := fun e M =>
    (nx (keep (aFieldAddr 1 1 (eget e 2) M)) (some 5) e M fun e M =>
    nx (keep (aLoad false 1 (eget e 5) M)) (some 6) e M fun e M =>
    nx (oMv (eget e 1)) (some 7) e M fun e M =>
    nx (aCall cx.P.cellsOf cx.rw call false M.length 38 [(eget e 6), (eget e 7)] M) (some 8) e M fun e M =>
    nx (oMv (eget e 8)) (some 1) e M fun e M =>
    some (e, M)).map fun q => (prune [1, 2] q.1, q.2)
noncomputable def f13_r2 (call : CallF) : Env → Mem → Option (Env × Mem) := fun e M =>
    (nx (oMv (eget e 1)) (some 9) e M fun e M =>
    nx (oBin cx.P .lss 3 (eget e 9) (.int .i64 0) M) (some 10) e M fun e M =>
    some (e, M)).map fun q => (prune [1, 2, 10] q.1, q.2)
noncomputable def f13_r3 (call : CallF) : Env → Mem → Option (Env × Mem) := fun e M =>
    (nx (oMv (.int .i64 (-1))) (some 4) e M fun e M =>
    some (e, M)).map fun q => (prune [4] q.1, q.2)
noncomputable def f13_r4 (call : CallF) : Env → Mem → Option (Env × Mem) := fun e M =>
    (nx (keep (aFieldAddr 2 1 (eget e 2) M)) (some 11) e M fun e M =>
    nx (keep (aLoad false 1 (eget e 11) M)) (some 12) e M fun e M =>
    nx (oMv (eget e 1)) (some 13) e M fun e M =>
    nx (aCall cx.P.cellsOf cx.rw call false M.length 39 [(eget e 12), (eget e 13)] M) (some 14) e M fun e M =>
    nx (oMv (eget e 14)) (some 1) e M fun e M =>
    some (e, M)).map fun q => (prune [1] q.1, q.2)
noncomputable def f13_r5 (call : CallF) : Env → Mem → Option (Env × Mem) := fun e M =>
    (nx (oMv (eget e 1)) (some 15) e M fun e M =>
    nx (oBin cx.P .lss 3 (eget e 15) (.int .i64 0) M) (some 16) e M fun e M =>
    some (e, M)).map fun q => (prune [1, 16] q.1, q.2)
noncomputable def f13_r6 (call : CallF) : Env → Mem → Option (Env × Mem) := fun e M =>
    (nx (oMv (.int .i64 (-1))) (some 4) e M fun e M =>
    some (e, M)).map fun q => (prune [4] q.1, q.2)
noncomputable def f13_r7 (call : CallF) : Env → Mem → Option (Env × Mem) := fun e M =>
    (nx (oMv (eget e 1)) (some 17) e M fun e M =>
    nx (oMv (eget e 17)) (some 4) e M fun e M =>
    some (e, M)).map fun q => (prune [4] q.1, q.2)
noncomputable def f13 (call : CallF) (k : Nat) : St :=
  (bSeq (bReg (f13_r0 call))
  (bSeq (bReg (f13_r1 call))
  (bSeq (bSeq (bReg (f13_r2 call))
  (bCond (.tmp 10)
   (bSeq (bReg (f13_r3 call))
   (bEx .ret))
   (bEx .nrm)))
  (bSeq (bReg (f13_r4 call))
  (bSeq (bSeq (bReg (f13_r5 call))
  (bCond (.tmp 16)
   (bSeq (bReg (f13_r6 call))
   (bEx .ret))
   (bEx .nrm)))
  (bSeq (bReg (f13_r7 call))
  (bEx .ret)))))))
theorem f13_eq (call : CallF) (k : Nat) : exec cx call 18 f13_an k (Try.f13.body.getD .skip) = f13 call k := by kernel_rfl
/-! ### f15: loop.example/g01263/laws.toBook -/
def f15_an : Ann := ⟨[(0, ⟨[], [], [], [], [1, 2]⟩), (1, ⟨[], [], [], [], [1, 2, 3]⟩), (2, ⟨[], [], [], [], [1, 2, 3]⟩), (3, ⟨[], [2], [], [], [1, 2, 3]⟩), (4, ⟨[], [2], [], [], [2, 3]⟩), (5, ⟨[], [], [], [], [2]⟩)], []⟩
noncomputable def f15_r0 (call : CallF) : Env → Mem → Option (Env × Mem) := fun e M =>
    (nx (keep (aBox 3 (eget e 0) M)) (some 1) e M fun e M =>
    nx (oAlloc cx.P M.length 50 3) (some 2) e M fun e M =>
    some (e, M)).map fun q => (prune [1, 2] q.1, q.2)
noncomputable def f15_r1 (call : CallF) : Env → Mem → Option (Env × Mem) := fun e M =>
    (nx (oAlloc cx.P M.length 50 3) (some 3) e M fun e M =>
    some (e, M)).map fun q => (prune [1, 2, 3] q.1, q.2)
noncomputable def f15_r2 (call : CallF) : Env → Mem → Option (Env × Mem) := fun e M =>
    (nx (keep (aFieldAddr 0 1 (eget e 1) M)) (some 4) e M fun e M =>
    nx (keep (aLoad false 1 (eget e 4) M)) (some 5) e M fun e M =>
    nx (keep (aFieldAddr 0 1 (eget e 3) M)) (some 6) e M fun e M =>
    nx (oStore 1 (eget e 6) (eget e 5) M) none e M fun e M =>
    some (e, M)).map fun q => (prune [1, 2, 3] q.1, q.2)
noncomputable def f15_r3 (call : CallF) : Env → Mem → Option (Env × Mem) := fun e M =>
    (nx (keep (aFieldAddr 1 1 (eget e 1) M)) (some 7) e M fun e M =>
    nx (keep (aLoad false 1 (eget e 7) M)) (some 8) e M fun e M =>
    nx (aCall cx.P.cellsOf cx.rw call true M.length 42 [(eget e 8)] M) (some 9) e M fun e M =>
    nx (keep (aFieldAddr 1 1 (eget e 3) M)) (some 10) e M fun e M =>
    nx (oStore 1 (eget e 10) (eget e 9) M) none e M fun e M =>
    some (e, M)).map fun q => (prune [1, 2, 3] q.1, q.2)
noncomputable def f15_r4 (call : CallF) : Env → Mem → Option (Env × Mem) := fun e M =>
    (nx (keep (aFieldAddr 2 1 (eget e 1) M)) (some 11) e M fun e M =>
    nx (keep (aLoad false 1 (eget e 11) M)) (some 12) e M fun e M =>
    nx (aCall cx.P.cellsOf cx.rw call true M.length 43 [(eget e 12)] M) (some 13) e M fun e M =>
    nx (keep (aFieldAddr 2 1 (eget e 3) M)) (some 14) e M fun e M =>
    nx (oStore 1 (eget e 14) (eget e 13) M) none e M fun e M =>
    some (e, M)).map fun q => (prune [2, 3] q.1, q.2)
noncomputable def f15_r5 (call : CallF) : Env → Mem → Option (Env × Mem) := fun e M =>
    (nx (keep (aLoad true 3 (eget e 3) M)) (some 15) e M fun e M =>
    nx (oStore 3 (eget e 2) (eget e 15) M) none e M fun e M =>
    some (e, M)).map fun q => (prune [2] q.1, q.2)
noncomputable def f15 (call : CallF) (k : Nat) : St :=
  (bSeq (bReg (f15_r0 call))
  (bSeq (bReg (f15_r1 call))
  (bSeq (bReg (f15_r2 call))
  (bSeq (bReg (f15_r3 call))
  (bSeq (bReg (f15_r4 call))
  (bSeq (bReg (f15_r5 call))
  (bEx .ret)))))))
theorem f15_eq (call : CallF) (k : Nat) : exec cx call 16 f15_an k (Try.f15.body.getD .skip) = f15 call k := by kernel_rfl
/-! ### f17: loop.example/g01263/laws.eqBook -/
def f17_an : Ann := ⟨[(0, ⟨[], [], [], [], [2, 3]⟩), (1, ⟨[], [], [], [], [2, 3, 9]⟩), (2, ⟨[], [], [], [], [4]⟩), (3, ⟨[], [], [], [], [2, 3, 15]⟩), (4, ⟨[], [], [], [], [4]⟩), (5, ⟨[], [], [], [], [21]⟩), (6, ⟨[], [], [], [], [4]⟩), (7, ⟨[], [], [], [], [4]⟩)], []⟩
noncomputable def f17_r0 (call : CallF) : Env → Mem → Option (Env × Mem) := fun e M =>
    (nx (keep (aBox 3 (eget e 0) M)) (some 2) e M fun e M =>
    nx (keep (aBox 3 (eget e 1) M)) (some 3) e M fun e M =>
    nx (oMv (.bool false)) (some 4) e M fun e M =>
    some (e, M)).map fun q => (prune [2, 3] q.1, q.2)
noncomputable def f17_r1 (call : CallF) : Env → Mem → Option (Env × Mem) := fun e M =>
    (nx (keep (aFieldAddr 0 1 (eget e 2) M)) (some 5) e M fun e M =>
    nx (keep (aLoad false 1 (eget e 5) M)) (some 6) e M fun e M =>
    nx (keep (aFieldAddr 0 1 (eget e 3) M)) (some 7) e M fun e M =>
    nx (keep (aLoad false 1 (eget e 7) M)) (some 8) e M fun e M =>
    nx (oBin cx.P .neq 2 (eget e 6) (eget e 8) M) (some 9) e M fun e M =>
    some (e, M)).map fun q => (prune [2, 3, 9] q.1, q.2)
noncomputable def f17_r2 (call : CallF) : Env → Mem → Option (Env × Mem) := fun e M =>
    (nx (oMv (.bool false)) (some 4) e M fun e M =>
    some (e, M)).map fun q => (prune [4] q.1, q.2)
noncomputable def f17_r3 (call : CallF) : Env → Mem → Option (Env × Mem) := fun e M =>
    (nx (keep (aFieldAddr 1 1 (eget e 2) M)) (some 10) e M fun e M =>
    nx (keep (aLoad false 1 (eget e 10) M)) (some 11) e M fun e M =>
    nx (keep (aFieldAddr 1 1 (eget e 3) M)) (some 12) e M fun e M =>
    nx (keep (aLoad false 1 (eget e 12) M)) (some 13) e M fun e M =>
    nx (aCall cx.P.cellsOf cx.rw call false M.length 46 [(eget e 11), (eget e 13)] M) (some 14) e M fun e M =>
    nx (keep (aUn .not (eget e 14))) (some 15) e M fun e M =>
    some (e, M)).map fun q => (prune [2, 3, 15] q.1, q.2)
noncomputable def f17_r4 (call : CallF) : Env → Mem → Option (Env × Mem) := fun e M =>
    (nx (oMv (.bool false)) (some 4) e M fun e M =>
    some (e, M)).map fun q => (prune [4] q.1, q.2)
noncomputable def f17_r5 (call : CallF) : Env → Mem → Option (Env × Mem) := fun e M =>
    (nx (keep (aFieldAddr 2 1 (eget e 2) M)) (some 16) e M fun e M =>
    nx (keep (aLoad false 1 (eget e 16) M)) (some 17) e M fun e M =>
    nx (keep (aFieldAddr 2 1 (eget e 3) M)) (some 18) e M fun e M =>
    nx (keep (aLoad false 1 (eget e 18) M)) (some 19) e M fun e M =>
    nx (aCall cx.P.cellsOf cx.rw call false M.length 47 [(eget e 17), (eget e 19)] M) (some 20) e M fun e M =>
    nx (keep (aUn .not (eget e 20))) (some 21) e M fun e M =>
    some (e, M)).map fun q => (prune [21] q.1, q.2)
noncomputable def f17_r6 (call : CallF) : Env → Mem → Option (Env × Mem) := fun e M =>
    (nx (oMv (.bool false)) (some 4) e M fun e M =>
    some (e, M)).map fun q => (prune [4] q.1, q.2)
noncomputable def f17_r7 (call : CallF) : Env → Mem → Option (Env × Mem) := fun e M =>
    (nx (oMv (.bool true)) (some 4) e M fun e M =>
    some (e, M)).map fun q => (prune [4] q.1, q.2)
noncomputable def f17 (call : CallF) (k : Nat) : St :=
  (bSeq (bReg (f17_r0 call))
  (bSeq (bSeq (bReg (f17_r1 call))
  (bCond (.tmp 9)
   (bSeq (bReg (f17_r2 call))
   (bEx .ret))
   (bEx .nrm)))
  (bSeq (bSeq (bReg (f17_r3 call))
  (bCond (.tmp 15)
   (bSeq (bReg (f17_r4 call))
   (bEx .ret))
   (bEx .nrm)))
  (bSeq (bSeq (bReg (f17_r5 call))
  (bCond (.tmp 21)
   (bSeq (bReg (f17_r6 call))
   (bEx .ret))
   (bEx .nrm)))
  (bSeq (bReg (f17_r7 call))
  (bEx .ret))))))
theorem f17_eq (call : CallF) (k : Nat) : exec cx call 22 f17_an k (Try.f17.body.getD .skip) = f17 call k := by kernel_rfl
/-! ### f27: loop.example/g01263/spec.WorthOfPerson -/
def f27_an : Ann := ⟨[(0, ⟨[], [], [], [], [1, 2]⟩), (1, ⟨[], [], [], [], [1, 2, 6]⟩), (2, ⟨[], [], [], [], [1, 2, 6, 10]⟩), (3, ⟨[], [], [], [], [4, 5]⟩), (4, ⟨[], [], [], [], [4, 5]⟩)], []⟩
noncomputable def f27_r0 (call : CallF) : Env → Mem → Option (Env × Mem) := fun e M =>
    (nx (keep (aBox 3 (eget e 0) M)) (some 2) e M fun e M =>
    nx (oMv (.int .i64 0)) (some 4) e M fun e M =>
    nx (oMv (.int .i64 0)) (some 5) e M fun e M =>
    some (e, M)).map fun q => (prune [1, 2] q.1, q.2)
noncomputable def f27_r1 (call : CallF) : Env → Mem → Option (Env × Mem) := fun e M =>
    (nx (oMv (eget e 1)) (some 7) e M fun e M =>
    nx (aCall cx.P.cellsOf cx.rw call false M.length 40 [(eget e 2), (eget e 7)] M) (some 8) e M fun e M =>
    nx (oMv (eget e 8)) (some 6) e M fun e M =>
    some (e, M)).map fun q => (prune [1, 2, 6] q.1, q.2)
noncomputable def f27_r2 (call : CallF) : Env → Mem → Option (Env × Mem) := fun e M =>
    (nx (oMv (eget e 6)) (some 9) e M fun e M =>
    nx (oBin cx.P .neq 2 (eget e 9) (.int .i64 0) M) (some 10) e M fun e M =>
    some (e, M)).map fun q => (prune [1, 2, 6, 10] q.1, q.2)
noncomputable def f27_r3 (call : CallF) : Env → Mem → Option (Env × Mem) := fun e M =>
    (nx (oMv (eget e 6)) (some 11) e M fun e M =>
    nx (oMv (.int .i64 0)) (some 4) e M fun e M =>
    nx (oMv (eget e 11)) (some 5) e M fun e M =>
    some (e, M)).map fun q => (prune [4, 5] q.1, q.2)
noncomputable def f27_r4 (call : CallF) : Env → Mem → Option (Env × Mem) := fun e M =>
    (nx (oMv (eget e 1)) (some 12) e M fun e M =>
    nx (aCall cx.P.cellsOf cx.rw call false M.length 55 [(eget e 2), (eget e 12)] M) (some 13) e M fun e M =>
    nx (oMv (eget e 13)) (some 4) e M fun e M =>
    nx (oMv (.int .i64 0)) (some 5) e M fun e M =>
    some (e, M)).map fun q => (prune [4, 5] q.1, q.2)
noncomputable def f27 (call : CallF) (k : Nat) : St :=
  (bSeq (bReg (f27_r0 call))
  (bSeq (bSeq (bReg (f27_r1 call))
  (bSeq (bReg (f27_r2 call))
  (bCond (.tmp 10)
   (bSeq (bReg (f27_r3 call))
   (bEx .ret))
   (bEx .nrm))))
  (bSeq (bReg (f27_r4 call))
  (bEx .ret))))
theorem f27_eq (call : CallF) (k : Nat) : exec cx call 14 f27_an k (Try.f27.body.getD .skip) = f27 call k := by kernel_rfl
/-! ### f28: loop.example/g01263/impl.WorthOfPerson -/
def f28_an : Ann := ⟨[(0, ⟨[], [], [], [], [1, 2]⟩), (1, ⟨[], [], [], [], [1, 2, 6]⟩), (2, ⟨[], [], [], [], [1, 2, 6, 11]⟩), (3, ⟨[], [], [], [], [4, 5]⟩), (4, ⟨[], [], [], [], [4, 5]⟩)], []⟩
noncomputable def f28_r0 (call : CallF) : Env → Mem → Option (Env × Mem) := fun e M =>
    (nx (keep (aBox 3 (eget e 0) M)) (some 2) e M fun e M =>
    nx (oMv (.int .i64 0)) (some 4) e M fun e M =>
    nx (oMv (.int .i64 0)) (some 5) e M fun e M =>
    some (e, M)).map fun q => (prune [1, 2] q.1, q.2)
noncomputable def f28_r1 (call : CallF) : Env → Mem → Option (Env × Mem) := fun e M =>
    (nx (keep (aLoad true 3 (eget e 2) M)) (some 7) e M fun e M =>
    nx (oMv (eget e 1)) (some 8) e M fun e M =>
    nx (aCall cx.P.cellsOf cx.rw call false M.length 44 [(eget e 7), (eget e 8)] M) (some 9) e M fun e M =>
    nx (oMv (eget e 9)) (some 6) e M fun e M =>
    some (e, M)).map fun q => (prune [1, 2, 6] q.1, q.2)
noncomputable def f28_r2 (call : CallF) : Env → Mem → Option (Env × Mem) := fun e M =>
    (nx (oMv (eget e 6)) (some 10) e M fun e M =>
    nx (oBin cx.P .neq 2 (eget e 10) (.int .i64 0) M) (some 11) e M fun e M =>
    some (e, M)).map fun q => (prune [1, 2, 6, 11] q.1, q.2)
noncomputable def f28_r3 (call : CallF) : Env → Mem → Option (Env × Mem) := fun e M =>
    (nx (oMv (eget e 6)) (some 12) e M fun e M =>
    nx (oMv (.int .i64 0)) (some 4) e M fun e M =>
    nx (oMv (eget e 12)) (some 5) e M fun e M =>
    some (e, M)).map fun q => (prune [4, 5] q.1, q.2)
noncomputable def f28_r4 (call : CallF) : Env → Mem → Option (Env × Mem) := fun e M =>
    (nx (keep (aLoad true 3 (eget e 2) M)) (some 13) e M fun e M =>
    nx (oMv (eget e 1)) (some 14) e M fun e M =>
    nx (aCall cx.P.cellsOf cx.rw call false M.length 56 [(eget e 13), (eget e 14)] M) (some 15) e M fun e M =>
    nx (oMv (eget e 15)) (some 4) e M fun e M =>
    nx (oMv (.int .i64 0)) (some 5) e M fun e M =>
    some (e, M)).map fun q => (prune [4, 5] q.1, q.2)
noncomputable def f28 (call : CallF) (k : Nat) : St :=
  (bSeq (bReg (f28_r0 call))
  (bSeq (bSeq (bReg (f28_r1 call))
  (bSeq (bReg (f28_r2 call))
  (bCond (.tmp 11)
   (bSeq (bReg (f28_r3 call))
   (bEx .ret))
   (bEx .nrm))))
  (bSeq (bReg (f28_r4 call))
  (bEx .ret))))
theorem f28_eq (call : CallF) (k : Nat) : exec cx call 16 f28_an k (Try.f28.body.getD .skip) = f28 call k := by kernel_rfl
/-! ### f38: loop.example/g01263/laws.szInt64S -/
def f38_an : Ann := ⟨[(0, ⟨[], [], [], [], [0, 1]⟩), (1, ⟨[], [], [], [], [1]⟩), (2, ⟨[], [], [], [], [1, 10]⟩), (3, ⟨[], [], [], [], [4]⟩), (4, ⟨[], [], [], [], [4]⟩)], []⟩
noncomputable def f38_r0 (call : CallF) : Env → Mem → Option (Env × Mem) := fun e M =>
    (nx (oMv (.int .i64 0)) (some 4) e M fun e M =>
    some (e, M)).map fun q => (prune [0, 1] q.1, q.2)
noncomputable def f38_r1 (call : CallF) : Env → Mem → Option (Env × Mem) := fun e M =>
    (nx (oMv (eget e 1)) (some 5) e M fun e M =>
    nx (oMv (eget e 0)) (some 6) e M fun e M =>
    nx (oLen cx.P 41 (eget e 6) M) (some 7) e M fun e M =>
    nx (oBin cx.P .sub 3 (eget e 5) (eget e 7) M) (some 8) e M fun e M =>
    nx (oMv (eget e 8)) (some 1) e M fun e M =>
    some (e, M)).map fun q => (prune [1] q.1, q.2)
noncomputable def f38_r2 (call : CallF) : Env → Mem → Option (Env × Mem) := fun e M =>
    (nx (oMv (eget e 1)) (some 9) e M fun e M =>
    nx (oBin cx.P .lss 3 (eget e 9) (.int .i64 0) M) (some 10) e M fun e M =>
    some (e, M)).map fun q => (prune [1, 10] q.1, q.2)
noncomputable def f38_r3 (call : CallF) : Env → Mem → Option (Env × Mem) := fun e M =>
    (nx (oMv (.int .i64 (-1))) (some 4) e M fun e M =>
    some (e, M)).map fun q => (prune [4] q.1, q.2)
noncomputable def f38_r4 (call : CallF) : Env → Mem → Option (Env × Mem) := fun e M =>
    (nx (oMv (eget e 1)) (some 11) e M fun e M =>
    nx (oMv (eget e 11)) (some 4) e M fun e M =>
    some (e, M)).map fun q => (prune [4] q.1, q.2)
noncomputable def f38 (call : CallF) (k : Nat) : St :=
  (bSeq (bReg (f38_r0 call))
  (bSeq (bReg (f38_r1 call))
  (bSeq (bSeq (bReg (f38_r2 call))
  (bCond (.tmp 10)
   (bSeq (bReg (f38_r3 call))
   (bEx .ret))
   (bEx .nrm)))
  (bSeq (bReg (f38_r4 call))
  (bEx .ret)))))
theorem f38_eq (call : CallF) (k : Nat) : exec cx call 12 f38_an k (Try.f38.body.getD .skip) = f38 call k := by kernel_rfl
/-! ### f39: loop.example/g01263/laws.szTallyS -/
def f39_an : Ann := ⟨[(0, ⟨[], [], [], [], [0, 1]⟩), (1, ⟨[], [], [], [], [1]⟩), (2, ⟨[], [], [], [], [1, 10]⟩), (3, ⟨[], [], [], [], [4]⟩), (4, ⟨[], [], [], [], [4]⟩)], []⟩
noncomputable def f39_r0 (call : CallF) : Env → Mem → Option (Env × Mem) := fun e M =>
    (nx (oMv (.int .i64 0)) (some 4) e M fun e M =>
    some (e, M)).map fun q => (prune [0, 1] q.1, q.2)
noncomputable def f39_r1 (call : CallF) : Env → Mem → Option (Env × Mem) := fun e M =>
    (nx (oMv (eget e 1)) (some 5) e M fun e M =>
    nx (oMv (eget e 0)) (some 6) e M fun e M =>
    nx (oLen cx.P 42 (eget e 6) M) (some 7) e M fun e M =>
    nx (oBin cx.P .sub 3 (eget e 5) (eget e 7) M) (some 8) e M fun e M =>
    nx (oMv (eget e 8)) (some 1) e M fun e M =>
    some (e, M)).map fun q => (prune [1] q.1, q.2)
noncomputable def f39_r2 (call : CallF) : Env → Mem → Option (Env × Mem) := fun e M =>
    (nx (oMv (eget e 1)) (some 9) e M fun e M =>
    nx (oBin cx.P .lss 3 (eget e 9) (.int .i64 0) M) (some 10) e M fun e M =>
    some (e, M)).map fun q => (prune [1, 10] q.1, q.2)
noncomputable def f39_r3 (call : CallF) : Env → Mem → Option (Env × Mem) := fun e M =>
    (nx (oMv (.int .i64 (-1))) (some 4) e M fun e M =>
    some (e, M)).map fun q => (prune [4] q.1, q.2)
noncomputable def f39_r4 (call : CallF) : Env → Mem → Option (Env × Mem) := fun e M =>
    (nx (oMv (eget e 1)) (some 11) e M fun e M =>
    nx (oMv (eget e 11)) (some 4) e M fun e M =>
    some (e, M)).map fun q => (prune [4] q.1, q.2)
noncomputable def f39 (call : CallF) (k : Nat) : St :=
  (bSeq (bReg (f39_r0 call))
  (bSeq (bReg (f39_r1 call))
  (bSeq (bSeq (bReg (f39_r2 call))
  (bCond (.tmp 10)
   (bSeq (bReg (f39_r3 call))
   (bEx .ret))
   (bEx .nrm)))
  (bSeq (bReg (f39_r4 call))
  (bEx .ret)))))
theorem f39_eq (call : CallF) (k : Nat) : exec cx call 12 f39_an k (Try.f39.body.getD .skip) = f39 call k := by kernel_rfl
/-! ### f40: loop.example/g01263/spec.l07One -/
def f40_an : Ann := ⟨[(0, ⟨[], [], [], [], [0, 1]⟩), (1, ⟨[], [], [], [], [0, 1, 7]⟩), (2, ⟨[], [], [], [], [4]⟩), (3, ⟨[], [], [], [], [15]⟩), (4, ⟨[], [], [], [], [4]⟩), (5, ⟨[], [], [], [], [4]⟩)], []⟩
noncomputable def f40_r0 (call : CallF) : Env → Mem → Option (Env × Mem) := fun e M =>
    (nx (oMv (.int .i64 0)) (some 4) e M fun e M =>
    some (e, M)).map fun q => (prune [0, 1] q.1, q.2)
noncomputable def f40_r1 (call : CallF) : Env → Mem → Option (Env × Mem) := fun e M =>
    (nx (oMv (eget e 0)) (some 5) e M fun e M =>
    nx (aCall cx.P.cellsOf cx.rw call false M.length 67 [(eget e 5)] M) (some 6) e M fun e M =>
    nx (keep (aUn .not (eget e 6))) (some 7) e M fun e M =>
    some (e, M)).map fun q => (prune [0, 1, 7] q.1, q.2)
noncomputable def f40_r2 (call : CallF) : Env → Mem → Option (Env × Mem) := fun e M =>
    (nx (oMv (.int .i64 1)) (some 4) e M fun e M =>
    some (e, M)).map fun q => (prune [4] q.1, q.2)
noncomputable def f40_r3 (call : CallF) : Env → Mem → Option (Env × Mem) := fun e M =>
    (nx (oMv (eget e 0)) (some 8) e M fun e M =>
    nx (keep (aNilCheck (eget e 8) M)) (some 9) e M fun e M =>
    nx (keep (aFieldAddr 1 1 (eget e 9) M)) (some 10) e M fun e M =>
    nx (keep (aLoad false 1 (eget e 10) M)) (some 11) e M fun e M =>
    nx (oLen cx.P 41 (eget e 11) M) (some 12) e M fun e M =>
    nx (oMv (eget e 1)) (some 13) e M fun e M =>
    nx (aCall cx.P.cellsOf cx.rw call false M.length 68 [(eget e 12), (eget e 13)] M) (some 14) e M fun e M =>
    nx (keep (aUn .not (eget e 14))) (some 15) e M fun e M =>
    some (e, M)).map fun q => (prune [15] q.1, q.2)
noncomputable def f40_r4 (call : CallF) : Env → Mem → Option (Env × Mem) := fun e M =>
    (nx (oMv (.int .i64 2)) (some 4) e M fun e M =>
    some (e, M)).map fun q => (prune [4] q.1, q.2)
noncomputable def f40_r5 (call : CallF) : Env → Mem → Option (Env × Mem) := fun e M =>
    (nx (oMv (.int .i64 0)) (some 4) e M fun e M =>
    some (e, M)).map fun q => (prune [4] q.1, q.2)
noncomputable def f40 (call : CallF) (k : Nat) : St :=
  (bSeq (bReg (f40_r0 call))
  (bSeq (bSeq (bReg (f40_r1 call))
  (bCond (.tmp 7)
   (bSeq (bReg (f40_r2 call))
   (bEx .ret))
   (bEx .nrm)))
  (bSeq (bSeq (bReg (f40_r3 call))
  (bCond (.tmp 15)
   (bSeq (bReg (f40_r4 call))
   (bEx .ret))
   (bEx .nrm)))
  (bSeq (bReg (f40_r5 call))
  (bEx .ret)))))
theorem f40_eq (call : CallF) (k : Nat) : exec cx call 16 f40_an k (Try.f40.body.getD .skip) = f40 call k := by kernel_rfl
/-! ### f41: loop.example/g01263/spec.l07Owed -/
def f41_an : Ann := ⟨[(0, ⟨[], [], [], [], [0, 1]⟩), (1, ⟨[], [], [], [], [0, 1, 5]⟩), (2, ⟨[], [], [], [], [0, 1, 5, 6]⟩), (3, ⟨[], [], [], [], [0, 1, 5, 6, 13]⟩), (4, ⟨[], [], [], [], [0, 1, 5, 6]⟩), (5, ⟨[], [], [], [], [0, 1, 5, 6, 25]⟩), (6, ⟨[], [], [], [], [0, 1, 5, 6]⟩), (7, ⟨[], [], [], [], [4]⟩)], [(3, [0, 1, 5, 6])]⟩
noncomputable def f41_r0 (call : CallF) : Env → Mem → Option (Env × Mem) := fun e M =>
    (nx (oMv (.int .i64 0)) (some 4) e M fun e M =>
    some (e, M)).map fun q => (prune [0, 1] q.1, q.2)
noncomputable def f41_r1 (call : CallF) : Env → Mem → Option (Env × Mem) := fun e M =>
    (nx (oMv (.int .i64 0)) (some 5) e M fun e M =>
    some (e, M)).map fun q => (prune [0, 1, 5] q.1, q.2)
noncomputable def f41_r2 (call : CallF) : Env → Mem → Option (Env × Mem) := fun e M =>
    (nx (oMv (.int .i64 0)) (some 6) e M fun e M =>
    some (e, M)).map fun q => (prune [0, 1, 5, 6] q.1, q.2)
noncomputable def f41_r3 (call : CallF) : Env → Mem → Option (Env × Mem) := fun e M =>
    (nx (oMv (eget e 6)) (some 7) e M fun e M =>
    nx (oMv (eget e 0)) (some 8) e M fun e M =>
    nx (keep (aNilCheck (eget e 8) M)) (some 9) e M fun e M =>
    nx (keep (aFieldAddr 2 1 (eget e 9) M)) (some 10) e M fun e M =>
    nx (keep (aLoad false 1 (eget e 10) M)) (some 11) e M fun e M =>
    nx (oLen cx.P 48 (eget e 11) M) (some 12) e M fun e M =>
    nx (oBin cx.P .lss 3 (eget e 7) (eget e 12) M) (some 13) e M fun e M =>
    some (e, M)).map fun q => (prune [0, 1, 5, 6, 13] q.1, q.2)
noncomputable def f41_r4 (call : CallF) : Env → Mem → Option (Env × Mem) := fun e M =>
    (nx (oMv (eget e 6)) (some 14) e M fun e M =>
    nx (oBin cx.P .add 3 (eget e 14) (.int .i64 1) M) (some 15) e M fun e M =>
    nx (oMv (eget e 15)) (some 6) e M fun e M =>
    some (e, M)).map fun q => (prune [0, 1, 5, 6] q.1, q.2)
noncomputable def f41_r5 (call : CallF) : Env → Mem → Option (Env × Mem) := fun e M =>
    (nx (oMv (eget e 0)) (some 16) e M fun e M =>
    nx (keep (aNilCheck (eget e 16) M)) (some 17) e M fun e M =>
    nx (keep (aFieldAddr 2 1 (eget e 17) M)) (some 18) e M fun e M =>
    nx (keep (aLoad false 1 (eget e 18) M)) (some 19) e M fun e M =>
    nx (oMv (eget e 6)) (some 20) e M fun e M =>
    nx (keep (aIndexS 5 (eget e 19) (eget e 20) M)) (some 21) e M fun e M =>
    nx (keep (aFieldAddr 1 1 (eget e 21) M)) (some 22) e M fun e M =>
    nx (keep (aLoad false 1 (eget e 22) M)) (some 23) e M fun e M =>
    nx (oMv (eget e 1)) (some 24) e M fun e M =>
    nx (oBin cx.P .eql 2 (eget e 23) (eget e 24) M) (some 25) e M fun e M =>
    some (e, M)).map fun q => (prune [0, 1, 5, 6, 25] q.1, q.2)
noncomputable def f41_r6 (call : CallF) : Env → Mem → Option (Env × Mem) := fun e M =>
    (nx (oMv (eget e 5)) (some 26) e M fun e M =>
    nx (oMv (eget e 0)) (some 27) e M fun e M =>
    nx (keep (aNilCheck (eget e 27) M)) (some 28) e M fun e M =>
    nx (keep (aFieldAddr 2 1 (eget e 28) M)) (some 29) e M fun e M =>
    nx (keep (aLoad false 1 (eget e 29) M)) (some 30) e M fun e M =>
    nx (oMv (eget e 6)) (some 31) e M fun e M =>
    nx (keep (aIndexS 5 (eget e 30) (eget e 31) M)) (some 32) e M fun e M =>
    nx (keep (aFieldAddr 4 1 (eget e 32) M)) (some 33) e M fun e M =>
    nx (keep (aLoad false 1 (eget e 33) M)) (some 34) e M fun e M =>
    nx (oBin cx.P .add 2 (eget e 26) (eget e 34) M) (some 35) e M fun e M =>
    nx (oMv (eget e 35)) (some 5) e M fun e M =>
    some (e, M)).map fun q => (prune [0, 1, 5, 6] q.1, q.2)
noncomputable def f41_r7 (call : CallF) : Env → Mem → Option (Env × Mem) := fun e M =>
    (nx (oMv (eget e 5)) (some 36) e M fun e M =>
    nx (oMv (eget e 36)) (some 4) e M fun e M =>
    some (e, M)).map fun q => (prune [4] q.1, q.2)
noncomputable def f41_l3 (call : CallF) (k : Nat) : St :=
  (bSeq (bSeq (bReg (f41_r3 call))
  (bCond (.tmp 13)
   (bEx .nrm)
   (bEx (.ext 0))))
  (bSeq (bBlock 1 (bSeq (bReg (f41_r5 call))
   (bCond (.tmp 25)
    (bReg (f41_r6 call))
    (bEx .nrm))))
  (bReg (f41_r4 call))))
noncomputable def f41 (call : CallF) (k : Nat) : St :=
  (bSeq (bReg (f41_r0 call))
  (bSeq (bReg (f41_r1 call))
  (bSeq (bSeq (bReg (f41_r2 call))
  (bBlock 0 (bLoop [0, 1, 5, 6] (f41_l3 call k) k)))
  (bSeq (bReg (f41_r7 call))
  (bEx .ret)))))
theorem f41_eq (call : CallF) (k : Nat) : exec cx call 37 f41_an k (Try.f41.body.getD .skip) = f41 call k := by kernel_rfl
/-! ### f42: loop.example/g01263/laws.toInt64S -/
def f42_an : Ann := ⟨[(0, ⟨[], [], [], [], [0]⟩), (1, ⟨[], [], [], [], [0, 3]⟩), (2, ⟨[], [], [], [], [0, 3, 4]⟩), (3, ⟨[], [], [], [], [0, 3, 4, 11]⟩), (4, ⟨[], [], [], [], [0, 3, 4]⟩), (5, ⟨[], [], [], [], [0, 3, 4]⟩), (6, ⟨[], [], [], [], [2]⟩)], [(3, [0, 3, 4])]⟩
noncomputable def f42_r0 (call : CallF) : Env → Mem → Option (Env × Mem) := fun e M =>
    (nx (oMv .nils) (some 2) e M fun e M =>
    some (e, M)).map fun q => (prune [0] q.1, q.2)
noncomputable def f42_r1 (call : CallF) : Env → Mem → Option (Env × Mem) := fun e M =>
    (nx (oMv (eget e 0)) (some 5) e M fun e M =>
    nx (oLen cx.P 41 (eget e 5) M) (some 6) e M fun e M =>
    nx (aMakeO M.length 2 1 8 (zeroOf cx.P 2) (eget e 6) (eget e 6)) (some 7) e M fun e M =>
    nx (oMv (eget e 7)) (some 3) e M fun e M =>
    some (e, M)).map fun q => (prune [0, 3] q.1, q.2)
noncomputable def f42_r2 (call : CallF) : Env → Mem → Option (Env × Mem) := fun e M =>
    (nx (oMv (.int .i64 0)) (some 4) e M fun e M =>
    some (e, M)).map fun q => (prune [0, 3, 4] q.1, q.2)
noncomputable def f42_r3 (call : CallF) : Env → Mem → Option (Env × Mem) := fun e M =>
    (nx (oMv (eget e 4)) (some 8) e M fun e M =>
    nx (oMv (eget e 0)) (some 9) e M fun e M =>
    nx (oLen cx.P 41 (eget e 9) M) (some 10) e M fun e M =>
    nx (oBin cx.P .lss 3 (eget e 8) (eget e 10) M) (some 11) e M fun e M =>
    some (e, M)).map fun q => (prune [0, 3, 4, 11] q.1, q.2)
noncomputable def f42_r4 (call : CallF) : Env → Mem → Option (Env × Mem) := fun e M =>
    (nx (oMv (eget e 4)) (some 12) e M fun e M =>
    nx (oBin cx.P .add 3 (eget e 12) (.int .i64 1) M) (some 13) e M fun e M =>
    nx (oMv (eget e 13)) (some 4) e M fun e M =>
    some (e, M)).map fun q => (prune [0, 3, 4] q.1, q.2)
noncomputable def f42_r5 (call : CallF) : Env → Mem → Option (Env × Mem) := fun e M =>
    (nx (oMv (eget e 3)) (some 14) e M fun e M =>
    nx (oMv (eget e 4)) (some 15) e M fun e M =>
    nx (oMv (eget e 0)) (some 16) e M fun e M =>
    nx (oMv (eget e 4)) (some 17) e M fun e M =>
    nx (keep (aIndexS 1 (eget e 16) (eget e 17) M)) (some 18) e M fun e M =>
    nx (keep (aLoad false 1 (eget e 18) M)) (some 19) e M fun e M =>
    nx (keep (aIndexS 1 (eget e 14) (eget e 15) M)) (some 20) e M fun e M =>
    nx (oStore 1 (eget e 20) (eget e 19) M) none e M fun e M =>
    some (e, M)).map fun q => (prune [0, 3, 4] q.1, q.2)
noncomputable def f42_r6 (call : CallF) : Env → Mem → Option (Env × Mem) := fun e M =>
    (nx (oMv (eget e 3)) (some 21) e M fun e M =>
    nx (oMv (eget e 21)) (some 2) e M fun e M =>
    some (e, M)).map fun q => (prune [2] q.1, q.2)
noncomputable def f42_l3 (call : CallF) (k : Nat) : St :=
  (bSeq (bSeq (bReg (f42_r3 call))
  (bCond (.tmp 11)
   (bEx .nrm)
   (bEx (.ext 0))))
  (bSeq (bBlock 1 (bReg (f42_r5 call)))
  (bReg (f42_r4 call))))
noncomputable def f42 (call : CallF) (k : Nat) : St :=
  (bSeq (bReg (f42_r0 call))
  (bSeq (bReg (f42_r1 call))
  (bSeq (bSeq (bReg (f42_r2 call))
  (bBlock 0 (bLoop [0, 3, 4] (f42_l3 call k) k)))
  (bSeq (bReg (f42_r6 call))
  (bEx .ret)))))
theorem f42_eq (call : CallF) (k : Nat) : exec cx call 22 f42_an k (Try.f42.body.getD .skip) = f42 call k := by kernel_rfl
/-! ### f43: loop.example/g01263/laws.toTallyS -/
def f43_an : Ann := ⟨[(0, ⟨[], [], [], [], [0]⟩), (1, ⟨[], [], [], [], [0, 3]⟩), (2, ⟨[], [], [], [], [0, 3, 4]⟩), (3, ⟨[], [], [], [], [0, 3, 4, 11]⟩), (4, ⟨[], [], [], [], [0, 3, 4]⟩), (5, ⟨[], [], [], [], [0, 3, 4]⟩), (6, ⟨[], [], [], [], [2]⟩)], [(3, [0, 3, 4])]⟩
noncomputable def f43_r0 (call : CallF) : Env → Mem → Option (Env × Mem) := fun e M =>
    (nx (oMv .nils) (some 2) e M fun e M =>
    some (e, M)).map fun q => (prune [0] q.1, q.2)
noncomputable def f43_r1 (call : CallF) : Env → Mem → Option (Env × Mem) := fun e M =>
    (nx (oMv (eget e 0)) (some 5) e M fun e M =>
    nx (oLen cx.P 42 (eget e 5) M) (some 6) e M fun e M =>
    nx (aMakeO M.length 104 5 40 (zeroOf cx.P 104) (eget e 6) (eget e 6)) (some 7) e M fun e M =>
    nx (oMv (eget e 7)) (some 3) e M fun e M =>
    some (e, M)).map fun q => (prune [0, 3] q.1, q.2)
noncomputable def f43_r2 (call : CallF) : Env → Mem → Option (Env × Mem) := fun e M =>
    (nx (oMv (.int .i64 0)) (some 4) e M fun e M =>
    some (e, M)).map fun q => (prune [0, 3, 4] q.1, q.2)
noncomputable def f43_r3 (call : CallF) : Env → Mem → Option (Env × Mem) := fun e M =>
    (nx (oMv (eget e 4)) (some 8) e M fun e M =>
    nx (oMv (eget e 0)) (some 9) e M fun e M =>
    nx (oLen cx.P 42 (eget e 9) M) (some 10) e M fun e M =>
    nx (oBin cx.P .lss 3 (eget e 8) (eget e 10) M) (some 11) e M fun e M =>
    some (e, M)).map fun q => (prune [0, 3, 4, 11] q.1, q.2)
noncomputable def f43_r4 (call : CallF) : Env → Mem → Option (Env × Mem) := fun e M =>
    (nx (oMv (eget e 4)) (some 12) e M fun e M =>
    nx (oBin cx.P .add 3 (eget e 12) (.int .i64 1) M) (some 13) e M fun e M =>
    nx (oMv (eget e 13)) (some 4) e M fun e M =>
    some (e, M)).map fun q => (prune [0, 3, 4] q.1, q.2)
noncomputable def f43_r5 (call : CallF) : Env → Mem → Option (Env × Mem) := fun e M =>
    (nx (oMv (eget e 3)) (some 14) e M fun e M =>
    nx (oMv (eget e 4)) (some 15) e M fun e M =>
    nx (oMv (eget e 0)) (some 16) e M fun e M =>
    nx (oMv (eget e 4)) (some 17) e M fun e M =>
    nx (keep (aIndexS 5 (eget e 16) (eget e 17) M)) (some 18) e M fun e M =>
    nx (keep (aLoad true 5 (eget e 18) M)) (some 19) e M fun e M =>
    nx (aCall cx.P.cellsOf cx.rw call false M.length 69 [(eget e 19)] M) (some 20) e M fun e M =>
    nx (keep (aIndexS 5 (eget e 14) (eget e 15) M)) (some 21) e M fun e M =>
    nx (oStore 5 (eget e 21) (eget e 20) M) none e M fun e M =>
    some (e, M)).map fun q => (prune [0, 3, 4] q.1, q.2)
noncomputable def f43_r6 (call : CallF) : Env → Mem → Option (Env × Mem) := fun e M =>
    (nx (oMv (eget e 3)) (some 22) e M fun e M =>
    nx (oMv (eget e 22)) (some 2) e M fun e M =>
    some (e, M)).map fun q => (prune [2] q.1, q.2)
noncomputable def f43_l3 (call : CallF) (k : Nat) : St :=
  (bSeq (bSeq (bReg (f43_r3 call))
  (bCond (.tmp 11)
   (bEx .nrm)
   (bEx (.ext 0))))
  (bSeq (bBlock 1 (bReg (f43_r5 call)))
  (bReg (f43_r4 call))))
noncomputable def f43 (call : CallF) (k : Nat) : St :=
  (bSeq (bReg (f43_r0 call))
  (bSeq (bReg (f43_r1 call))
  (bSeq (bSeq (bReg (f43_r2 call))
  (bBlock 0 (bLoop [0, 3, 4] (f43_l3 call k) k)))
  (bSeq (bReg (f43_r6 call))
  (bEx .ret)))))
theorem f43_eq (call : CallF) (k : Nat) : exec cx call 23 f43_an k (Try.f43.body.getD .skip) = f43 call k := by kernel_rfl
/-! ### f44: loop.example/g01263/impl.personCode -/
def f44_an : Ann := ⟨[(0, ⟨[], [], [], [], [1, 2]⟩), (1, ⟨[], [], [], [], [1, 2, 5]⟩), (2, ⟨[], [], [], [], [4]⟩), (3, ⟨[], [], [], [], [9]⟩), (4, ⟨[], [], [], [], [4]⟩), (5, ⟨[], [], [], [], [4]⟩)], []⟩
noncomputable def f44_r0 (call : CallF) : Env → Mem → Option (Env × Mem) := fun e M =>
    (nx (keep (aBox 3 (eget e 0) M)) (some 2) e M fun e M =>
    nx (oMv (.int .i64 0)) (some 4) e M fun e M =>
    some (e, M)).map fun q => (prune [1, 2] q.1, q.2)
noncomputable def f44_r1 (call : CallF) : Env → Mem → Option (Env × Mem) := fun e M =>
    (nx (keep (aLoad true 3 (eget e 2) M)) (some 6) e M fun e M =>
    nx (aCall cx.P.cellsOf cx.rw call false M.length 70 [(eget e 6)] M) (some 7) e M fun e M =>
    nx (keep (aUn .not (eget e 7))) (some 8) e M fun e M =>
    nx (oMv (eget e 8)) (some 5) e M fun e M =>
    some (e, M)).map fun q => (prune [1, 2, 5] q.1, q.2)
noncomputable def f44_r2 (call : CallF) : Env → Mem → Option (Env × Mem) := fun e M =>
    (nx (oMv (.int .i64 1)) (some 4) e M fun e M =>
    some (e, M)).map fun q => (prune [4] q.1, q.2)
noncomputable def f44_r3 (call : CallF) : Env → Mem → Option (Env × Mem) := fun e M =>
    (nx (keep (aFieldAddr 1 1 (eget e 2) M)) (some 10) e M fun e M =>
    nx (keep (aLoad false 1 (eget e 10) M)) (some 11) e M fun e M =>
    nx (oLen cx.P 41 (eget e 11) M) (some 12) e M fun e M =>
    nx (oMv (eget e 1)) (some 13) e M fun e M =>
    nx (keep (aLitI 2 1 [(eget e 13)] M)) (some 14) e M fun e M =>
    nx (aCall cx.P.cellsOf cx.rw call false M.length 71 [(eget e 12), (eget e 14)] M) (some 15) e M fun e M =>
    nx (keep (aUn .not (eget e 15))) (some 16) e M fun e M =>
    nx (oMv (eget e 16)) (some 9) e M fun e M =>
    some (e, M)).map fun q => (prune [9] q.1, q.2)
noncomputable def f44_r4 (call : CallF) : Env → Mem → Option (Env × Mem) := fun e M =>
    (nx (oMv (.int .i64 2)) (some 4) e M fun e M =>
    some (e, M)).map fun q => (prune [4] q.1, q.2)
noncomputable def f44_r5 (call : CallF) : Env → Mem → Option (Env × Mem) := fun e M =>
    (nx (oMv (.int .i64 0)) (some 4) e M fun e M =>
    some (e, M)).map fun q => (prune [4] q.1, q.2)
noncomputable def f44 (call : CallF) (k : Nat) : St :=
  (bSeq (bReg (f44_r0 call))
  (bSeq (bBlock 0 (bSeq (bReg (f44_r1 call))
   (bCond (.tmp 5)
    (bSeq (bReg (f44_r2 call))
    (bEx .ret))
    (bSeq (bReg (f44_r3 call))
    (bCond (.tmp 9)
     (bSeq (bReg (f44_r4 call))
     (bEx .ret))
     (bEx .nrm))))))
  (bSeq (bReg (f44_r5 call))
  (bEx .ret))))
theorem f44_eq (call : CallF) (k : Nat) : exec cx call 17 f44_an k (Try.f44.body.getD .skip) = f44 call k := by kernel_rfl
/-! ### f45: loop.example/g01263/impl.getsAndOwes -/
def f45_an : Ann := ⟨[(0, ⟨[], [], [], [], [1, 2]⟩), (1, ⟨[], [], [], [], [1, 2, 6, 7]⟩), (2, ⟨[], [], [], [], [1, 6, 7, 11, 12, 13]⟩), (3, ⟨[], [], [], [], [1, 6, 7, 11, 12, 13, 14]⟩), (4, ⟨[], [], [], [], [1, 6, 7, 9, 11, 12, 13]⟩), (5, ⟨[], [], [], [], [1, 6, 7, 9, 11, 12, 13, 20]⟩), (6, ⟨[], [], [], [], [1, 6, 7, 9, 11, 12, 13]⟩), (7, ⟨[], [], [], [], [1, 6, 7, 9, 11, 12, 13, 28]⟩), (8, ⟨[], [], [], [], [1, 6, 7, 11, 12, 13]⟩), (9, ⟨[], [], [], [], [1, 6, 7, 11, 12, 13]⟩), (10, ⟨[], [], [], [], [4, 5]⟩)], [(3, [1, 6, 7, 11, 12, 13])]⟩
noncomputable def f45_r0 (call : CallF) : Env → Mem → Option (Env × Mem) := fun e M =>
    (nx (keep (aBox 3 (eget e 0) M)) (some 2) e M fun e M =>
    nx (oMv (.int .i64 0)) (some 4) e M fun e M =>
    nx (oMv (.int .i64 0)) (some 5) e M fun e M =>
    some (e, M)).map fun q => (prune [1, 2] q.1, q.2)
noncomputable def f45_r1 (call : CallF) : Env → Mem → Option (Env × Mem) := fun e M =>
    (nx (oMv (.int .i64 0)) (some 6) e M fun e M =>
    nx (oMv (.int .i64 0)) (some 7) e M fun e M =>
    some (e, M)).map fun q => (prune [1, 2, 6, 7] q.1, q.2)
noncomputable def f45_r2 (call : CallF) : Env → Mem → Option (Env × Mem) := fun e M =>
    (nx (keep (aFieldAddr 2 1 (eget e 2) M)) (some 10) e M fun e M =>
    nx (keep (aLoad false 1 (eget e 10) M)) (some 11) e M fun e M =>
    nx (oLen cx.P 48 (eget e 11) M) (some 12) e M fun e M =>
    nx (oMv (.int .i64 0)) (some 13) e M fun e M =>
    some (e, M)).map fun q => (prune [1, 6, 7, 11, 12, 13] q.1, q.2)
noncomputable def f45_r3 (call : CallF) : Env → Mem → Option (Env × Mem) := fun e M =>
    (nx (oBin cx.P .lss 3 (eget e 13) (eget e 12) M) (some 14) e M fun e M =>
    some (e, M)).map fun q => (prune [1, 6, 7, 11, 12, 13, 14] q.1, q.2)
noncomputable def f45_r4 (call : CallF) : Env → Mem → Option (Env × Mem) := fun e M =>
    (nx (keep (aIndexS 5 (eget e 11) (eget e 13) M)) (some 15) e M fun e M =>
    nx (keep (aLoad true 5 (eget e 15) M)) (some 16) e M fun e M =>
    nx (oAlloc cx.P M.length 104 5) (some 9) e M fun e M =>
    nx (oStore 5 (eget e 9) (eget e 16) M) none e M fun e M =>
    some (e, M)).map fun q => (prune [1, 6, 7, 9, 11, 12, 13] q.1, q.2)
noncomputable def f45_r5 (call : CallF) : Env → Mem → Option (Env × Mem) := fun e M =>
    (nx (keep (aFieldAddr 1 1 (eget e 9) M)) (some 17) e M fun e M =>
    nx (keep (aLoad false 1 (eget e 17) M)) (some 18) e M fun e M =>
    nx (oMv (eget e 1)) (some 19) e M fun e M =>
    nx (oBin cx.P .eql 2 (eget e 18) (eget e 19) M) (some 20) e M fun e M =>
    some (e, M)).map fun q => (prune [1, 6, 7, 9, 11, 12, 13, 20] q.1, q.2)
noncomputable def f45_r6 (call : CallF) : Env → Mem → Option (Env × Mem) := fun e M =>
    (nx (oMv (eget e 6)) (some 21) e M fun e M =>
    nx (keep (aFieldAddr 4 1 (eget e 9) M)) (some 22) e M fun e M =>
    nx (keep (aLoad false 1 (eget e 22) M)) (some 23) e M fun e M =>
    nx (oBin cx.P .add 2 (eget e 21) (eget e 23) M) (some 24) e M fun e M =>
    nx (oMv (eget e 24)) (some 6) e M fun e M =>
    some (e, M)).map fun q => (prune [1, 6, 7, 9, 11, 12, 13] q.1, q.2)
noncomputable def f45_r7 (call : CallF) : Env → Mem → Option (Env × Mem) := fun e M =>
    (nx (keep (aFieldAddr 0 1 (eget e 9) M)) (some 25) e M fun e M =>
    nx (keep (aLoad false 1 (eget e 25) M)) (some 26) e M fun e M =>
    nx (oMv (eget e 1)) (some 27) e M fun e M =>
    nx (oBin cx.P .eql 2 (eget e 26) (eget e 27) M) (some 28) e M fun e M =>
    some (e, M)).map fun q => (prune [1, 6, 7, 9, 11, 12, 13, 28] q.1, q.2)
noncomputable def f45_r8 (call : CallF) : Env → Mem → Option (Env × Mem) := fun e M =>
    (nx (oMv (eget e 7)) (some 29) e M fun e M =>
    nx (keep (aFieldAddr 4 1 (eget e 9) M)) (some 30) e M fun e M =>
    nx (keep (aLoad false 1 (eget e 30) M)) (some 31) e M fun e M =>
    nx (oBin cx.P .add 2 (eget e 29) (eget e 31) M) (some 32) e M fun e M =>
    nx (oMv (eget e 32)) (some 7) e M fun e M =>
    some (e, M)).map fun q => (prune [1, 6, 7, 11, 12, 13] q.1, q.2)
noncomputable def f45_r9 (call : CallF) : Env → Mem → Option (Env × Mem) := fun e M =>
    (nx (oBin cx.P .add 3 (eget e 13) (.int .i64 1) M) (some 33) e M fun e M =>
    nx (oMv (eget e 33)) (some 13) e M fun e M =>
    some (e, M)).map fun q => (prune [1, 6, 7, 11, 12, 13] q.1, q.2)
noncomputable def f45_r10 (call : CallF) : Env → Mem → Option (Env × Mem) := fun e M =>
    (nx (oMv (eget e 6)) (some 34) e M fun e M =>
    nx (oMv (eget e 7)) (some 35) e M fun e M =>
    nx (oMv (eget e 34)) (some 4) e M fun e M =>
    nx (oMv (eget e 35)) (some 5) e M fun e M =>
    some (e, M)).map fun q => (prune [4, 5] q.1, q.2)
noncomputable def f45_l3 (call : CallF) (k : Nat) : St :=
  (bSeq (bReg (f45_r3 call))
  (bSeq (bCond (.tmp 14)
   (bEx .nrm)
   (bEx (.ext 0)))
  (bSeq (bBlock 1 (bSeq (bReg (f45_r4 call))
   (bSeq (bSeq (bReg (f45_r5 call))
   (bCond (.tmp 20)
    (bReg (f45_r6 call))
    (bEx .nrm)))
   (bSeq (bReg (f45_r7 call))
   (bCond (.tmp 28)
    (bReg (f45_r8 call))
    (bEx .nrm))))))
  (bReg (f45_r9 call)))))
noncomputable def f45 (call : CallF) (k : Nat) : St :=
  (bSeq (bReg (f45_r0 call))
  (bSeq (bReg (f45_r1 call))
  (bSeq (bSeq (bReg (f45_r2 call))
  (bBlock 0 (bLoop [1, 6, 7, 11, 12, 13] (f45_l3 call k) k)))
  (bSeq (bReg (f45_r10 call))
  (bEx .ret)))))
theorem f45_eq (call : CallF) (k : Nat) : exec cx call 36 f45_an k (Try.f45.body.getD .skip) = f45 call k := by kernel_rfl
/-! ### f46: loop.example/g01263/laws.eqInt64S -/
def f46_an : Ann := ⟨[(0, ⟨[], [], [], [], [0, 1]⟩), (1, ⟨[], [], [], [], [0, 1, 10]⟩), (2, ⟨[], [], [], [], [4]⟩), (3, ⟨[], [], [], [], [0, 1, 5]⟩), (4, ⟨[], [], [], [], [0, 1, 5, 14]⟩), (5, ⟨[], [], [], [], [0, 1, 5]⟩), (6, ⟨[], [], [], [], [0, 1, 5, 25]⟩), (7, ⟨[], [], [], [], [4]⟩), (8, ⟨[], [], [], [], [4]⟩)], [(4, [0, 1, 5])]⟩
noncomputable def f46_r0 (call : CallF) : Env → Mem → Option (Env × Mem) := fun e M =>
    (nx (oMv (.bool false)) (some 4) e M fun e M =>
    some (e, M)).map fun q => (prune [0, 1] q.1, q.2)
noncomputable def f46_r1 (call : CallF) : Env → Mem → Option (Env × Mem) := fun e M =>
    (nx (oMv (eget e 0)) (some 6) e M fun e M =>
    nx (oLen cx.P 41 (eget e 6) M) (some 7) e M fun e M =>
    nx (oMv (eget e 1)) (some 8) e M fun e M =>
    nx (oLen cx.P 41 (eget e 8) M) (some 9) e M fun e M =>
    nx (oBin cx.P .neq 3 (eget e 7) (eget e 9) M) (some 10) e M fun e M =>
    some (e, M)).map fun q => (prune [0, 1, 10] q.1, q.2)
noncomputable def f46_r2 (call : CallF) : Env → Mem → Option (Env × Mem) := fun e M =>
    (nx (oMv (.bool false)) (some 4) e M fun e M =>
    some (e, M)).map fun q => (prune [4] q.1, q.2)
noncomputable def f46_r3 (call : CallF) : Env → Mem → Option (Env × Mem) := fun e M =>
    (nx (oMv (.int .i64 0)) (some 5) e M fun e M =>
    some (e, M)).map fun q => (prune [0, 1, 5] q.1, q.2)
noncomputable def f46_r4 (call : CallF) : Env → Mem → Option (Env × Mem) := fun e M =>
    (nx (oMv (eget e 5)) (some 11) e M fun e M =>
    nx (oMv (eget e 0)) (some 12) e M fun e M =>
    nx (oLen cx.P 41 (eget e 12) M) (some 13) e M fun e M =>
    nx (oBin cx.P .lss 3 (eget e 11) (eget e 13) M) (some 14) e M fun e M =>
    some (e, M)).map fun q => (prune [0, 1, 5, 14] q.1, q.2)
noncomputable def f46_r5 (call : CallF) : Env → Mem → Option (Env × Mem) := fun e M =>
    (nx (oMv (eget e 5)) (some 15) e M fun e M =>
    nx (oBin cx.P .add 3 (eget e 15) (.int .i64 1) M) (some 16) e M fun e M =>
    nx (oMv (eget e 16)) (some 5) e M fun e M =>
    some (e, M)).map fun q => (prune [0, 1, 5] q.1, q.2)
noncomputable def f46_r6 (call : CallF) : Env → Mem → Option (Env × Mem) := fun e M =>
    rD [0, 1, 5, 25] (fun (C : List Ob) =>
    nf (oMv (eget e 0)) (some 17) false e C fun e C =>
    nf (oMv (eget e 5)) (some 18) false e C fun e C =>
    nf (keep (aIndexS 1 (eget e 17) (eget e 18) M)) (some 19) false e C fun e C =>
    nf (keep (aLoad false 1 (eget e 19) M)) (some 20) false e C fun e C =>
    nf (oMv (eget e 1)) (some 21) false e C fun e C =>
    nf (oMv (eget e 5)) (some 22) false e C fun e C =>
    nf (keep (aIndexS 1 (eget e 21) (eget e 22) M)) (some 23) false e C fun e C =>
    nf (keep (aLoad false 1 (eget e 23) M)) (some 24) false e C fun e C =>
    nf (oBin cx.P .neq 2 (eget e 20) (eget e 24) M) (some 25) false e C fun e C =>
    some (e, C)) (fun (e : Env) (M : Mem) =>
    some (e, M)) M
noncomputable def f46_r7 (call : CallF) : Env → Mem → Option (Env × Mem) := fun e M =>
    (nx (oMv (.bool false)) (some 4) e M fun e M =>
    some (e, M)).map fun q => (prune [4] q.1, q.2)
noncomputable def f46_r8 (call : CallF) : Env → Mem → Option (Env × Mem) := fun e M =>
    (nx (oMv (.bool true)) (some 4) e M fun e M =>
    some (e, M)).map fun q => (prune [4] q.1, q.2)
noncomputable def f46_l4 (call : CallF) (k : Nat) : St :=
  (bSeq (bSeq (bReg (f46_r4 call))
  (bCond (.tmp 14)
   (bEx .nrm)
   (bEx (.ext 0))))
  (bSeq (bBlock 1 (bSeq (bReg (f46_r6 call))
   (bCond (.tmp 25)
    (bSeq (bReg (f46_r7 call))
    (bEx .ret))
    (bEx .nrm))))
  (bReg (f46_r5 call))))
noncomputable def f46 (call : CallF) (k : Nat) : St :=
  (bSeq (bReg (f46_r0 call))
  (bSeq (bSeq (bReg (f46_r1 call))
  (bCond (.tmp 10)
   (bSeq (bReg (f46_r2 call))
   (bEx .ret))
   (bEx .nrm)))
  (bSeq (bSeq (bReg (f46_r3 call))
  (bBlock 0 (bLoop [0, 1, 5] (f46_l4 call k) k)))
  (bSeq (bReg (f46_r8 call))
  (bEx .ret)))))
theorem f46_eq (call : CallF) (k : Nat) : exec cx call 26 f46_an k (Try.f46.body.getD .skip) = f46 call k := by kernel_rfl
/-! ### f47: loop.example/g01263/laws.eqTallyS -/
def f47_an : Ann := ⟨[(0, ⟨[], [], [], [], [0, 1]⟩), (1, ⟨[], [], [], [], [0, 1, 10]⟩), (2, ⟨[], [], [], [], [4]⟩), (3, ⟨[], [], [], [], [0, 1, 5]⟩), (4, ⟨[], [], [], [], [0, 1, 5, 14]⟩), (5, ⟨[], [], [], [], [0, 1, 5]⟩), (6, ⟨[], [], [], [], [0, 1, 5, 26]⟩), (7, ⟨[], [], [], [], [4]⟩), (8, ⟨[], [], [], [], [4]⟩)], [(4, [0, 1, 5])]⟩
noncomputable def f47_r0 (call : CallF) : Env → Mem → Option (Env × Mem) := fun e M =>
    (nx (oMv (.bool false)) (some 4) e M fun e M =>
    some (e, M)).map fun q => (prune [0, 1] q.1, q.2)
noncomputable def f47_r1 (call : CallF) : Env → Mem → Option (Env × Mem) := fun e M =>
    (nx (oMv (eget e 0)) (some 6) e M fun e M =>
    nx (oLen cx.P 48 (eget e 6) M) (some 7) e M fun e M =>
    nx (oMv (eget e 1)) (some 8) e M fun e M =>
    nx (oLen cx.P 48 (eget e 8) M) (some 9) e M fun e M =>
    nx (oBin cx.P .neq 3 (eget e 7) (eget e 9) M) (some 10) e M fun e M =>
    some (e, M)).map fun q => (prune [0, 1, 10] q.1, q.2)
noncomputable def f47_r2 (call : CallF) : Env → Mem → Option (Env × Mem) := fun e M =>
    (nx (oMv (.bool false)) (some 4) e M fun e M =>
    some (e, M)).map fun q => (prune [4] q.1, q.2)
noncomputable def f47_r3 (call : CallF) : Env → Mem → Option (Env × Mem) := fun e M =>
    (nx (oMv (.int .i64 0)) (some 5) e M fun e M =>
    some (e, M)).map fun q => (prune [0, 1, 5] q.1, q.2)
noncomputable def f47_r4 (call : CallF) : Env → Mem → Option (Env × Mem) := fun e M =>
    (nx (oMv (eget e 5)) (some 11) e M fun e M =>
    nx (oMv (eget e 0)) (some 12) e M fun e M =>
    nx (oLen cx.P 48 (eget e 12) M) (some 13) e M fun e M =>
    nx (oBin cx.P .lss 3 (eget e 11) (eget e 13) M) (some 14) e M fun e M =>
    some (e, M)).map fun q => (prune [0, 1, 5, 14] q.1, q.2)
noncomputable def f47_r5 (call : CallF) : Env → Mem → Option (Env × Mem) := fun e M =>
    (nx (oMv (eget e 5)) (some 15) e M fun e M =>
    nx (oBin cx.P .add 3 (eget e 15) (.int .i64 1) M) (some 16) e M fun e M =>
    nx (oMv (eget e 16)) (some 5) e M fun e M =>
    some (e, M)).map fun q => (prune [0, 1, 5] q.1, q.2)
noncomputable def f47_r6 (call : CallF) : Env → Mem → Option (Env × Mem) := fun e M =>
    rD [0, 1, 5, 26] (fun (C : List Ob) =>
    nf (oMv (eget e 0)) (some 17) false e C fun e C =>
    nf (oMv (eget e 5)) (some 18) false e C fun e C =>
    nf (keep (aIndexS 5 (eget e 17) (eget e 18) M)) (some 19) false e C fun e C =>
    nf (keep (aLoad true 5 (eget e 19) M)) (some 20) false e C fun e C =>
    nf (oMv (eget e 1)) (some 21) false e C fun e C =>
    nf (oMv (eget e 5)) (some 22) false e C fun e C =>
    nf (keep (aIndexS 5 (eget e 21) (eget e 22) M)) (some 23) false e C fun e C =>
    nf (keep (aLoad true 5 (eget e 23) M)) (some 24) false e C fun e C =>
    nf (aCall cx.P.cellsOf cx.rw call false (M.length + C.length) 72 [(eget e 20), (eget e 24)] M) (some 25) false e C fun e C =>
    nf (keep (aUn .not (eget e 25))) (some 26) false e C fun e C =>
    some (e, C)) (fun (e : Env) (M : Mem) =>
    some (e, M)) M
noncomputable def f47_r7 (call : CallF) : Env → Mem → Option (Env × Mem) := fun e M =>
    (nx (oMv (.bool false)) (some 4) e M fun e M =>
    some (e, M)).map fun q => (prune [4] q.1, q.2)
noncomputable def f47_r8 (call : CallF) : Env → Mem → Option (Env × Mem) := fun e M =>
    (nx (oMv (.bool true)) (some 4) e M fun e M =>
    some (e, M)).map fun q => (prune [4] q.1, q.2)
noncomputable def f47_l4 (call : CallF) (k : Nat) : St :=
  (bSeq (bSeq (bReg (f47_r4 call))
  (bCond (.tmp 14)
   (bEx .nrm)
   (bEx (.ext 0))))
  (bSeq (bBlock 1 (bSeq (bReg (f47_r6 call))
   (bCond (.tmp 26)
    (bSeq (bReg (f47_r7 call))
    (bEx .ret))
    (bEx .nrm))))
  (bReg (f47_r5 call))))
noncomputable def f47 (call : CallF) (k : Nat) : St :=
  (bSeq (bReg (f47_r0 call))
  (bSeq (bSeq (bReg (f47_r1 call))
  (bCond (.tmp 10)
   (bSeq (bReg (f47_r2 call))
   (bEx .ret))
   (bEx .nrm)))
  (bSeq (bSeq (bReg (f47_r3 call))
  (bBlock 0 (bLoop [0, 1, 5] (f47_l4 call k) k)))
  (bSeq (bReg (f47_r8 call))
  (bEx .ret)))))
theorem f47_eq (call : CallF) (k : Nat) : exec cx call 27 f47_an k (Try.f47.body.getD .skip) = f47 call k := by kernel_rfl
/-! ### f48: loop.example/g01263/spec.l07Owes -/
def f48_an : Ann := ⟨[(0, ⟨[], [], [], [], [0, 1]⟩), (1, ⟨[], [], [], [], [0, 1, 5]⟩), (2, ⟨[], [], [], [], [0, 1, 5, 6]⟩), (3, ⟨[], [], [], [], [0, 1, 5, 6, 13]⟩), (4, ⟨[], [], [], [], [0, 1, 5, 6]⟩), (5, ⟨[], [], [], [], [0, 1, 5, 6, 25]⟩), (6, ⟨[], [], [], [], [0, 1, 5, 6]⟩), (7, ⟨[], [], [], [], [4]⟩)], [(3, [0, 1, 5, 6])]⟩
noncomputable def f48_r0 (call : CallF) : Env → Mem → Option (Env × Mem) := fun e M =>
    (nx (oMv (.int .i64 0)) (some 4) e M fun e M =>
    some (e, M)).map fun q => (prune [0, 1] q.1, q.2)
noncomputable def f48_r1 (call : CallF) : Env → Mem → Option (Env × Mem) := fun e M =>
    (nx (oMv (.int .i64 0)) (some 5) e M fun e M =>
    some (e, M)).map fun q => (prune [0, 1, 5] q.1, q.2)
noncomputable def f48_r2 (call : CallF) : Env → Mem → Option (Env × Mem) := fun e M =>
    (nx (oMv (.int .i64 0)) (some 6) e M fun e M =>
    some (e, M)).map fun q => (prune [0, 1, 5, 6] q.1, q.2)
noncomputable def f48_r3 (call : CallF) : Env → Mem → Option (Env × Mem) := fun e M =>
    (nx (oMv (eget e 6)) (some 7) e M fun e M =>
    nx (oMv (eget e 0)) (some 8) e M fun e M =>
    nx (keep (aNilCheck (eget e 8) M)) (some 9) e M fun e M =>
    nx (keep (aFieldAddr 2 1 (eget e 9) M)) (some 10) e M fun e M =>
    nx (keep (aLoad false 1 (eget e 10) M)) (some 11) e M fun e M =>
    nx (oLen cx.P 48 (eget e 11) M) (some 12) e M fun e M =>
    nx (oBin cx.P .lss 3 (eget e 7) (eget e 12) M) (some 13) e M fun e M =>
    some (e, M)).map fun q => (prune [0, 1, 5, 6, 13] q.1, q.2)
noncomputable def f48_r4 (call : CallF) : Env → Mem → Option (Env × Mem) := fun e M =>
    (nx (oMv (eget e 6)) (some 14) e M fun e M =>
    nx (oBin cx.P .add 3 (eget e 14) (.int .i64 1) M) (some 15) e M fun e M =>
    nx (oMv (eget e 15)) (some 6) e M fun e M =>
    some (e, M)).map fun q => (prune [0, 1, 5, 6] q.1, q.2)
noncomputable def f48_r5 (call : CallF) : Env → Mem → Option (Env × Mem) := fun e M =>
    (nx (oMv (eget e 0)) (some 16) e M fun e M =>
    nx (keep (aNilCheck (eget e 16) M)) (some 17) e M fun e M =>
    nx (keep (aFieldAddr 2 1 (eget e 17) M)) (some 18) e M fun e M =>
    nx (keep (aLoad false 1 (eget e 18) M)) (some 19) e M fun e M =>
    nx (oMv (eget e 6)) (some 20) e M fun e M =>
    nx (keep (aIndexS 5 (eget e 19) (eget e 20) M)) (some 21) e M fun e M =>
    nx (keep (aFieldAddr 0 1 (eget e 21) M)) (some 22) e M fun e M =>
    nx (keep (aLoad false 1 (eget e 22) M)) (some 23) e M fun e M =>
    nx (oMv (eget e 1)) (some 24) e M fun e M =>
    nx (oBin cx.P .eql 2 (eget e 23) (eget e 24) M) (some 25) e M fun e M =>
    some (e, M)).map fun q => (prune [0, 1, 5, 6, 25] q.1, q.2)
noncomputable def f48_r6 (call : CallF) : Env → Mem → Option (Env × Mem) := fun e M =>
    (nx (oMv (eget e 5)) (some 26) e M fun e M =>
    nx (oMv (eget e 0)) (some 27) e M fun e M =>
    nx (keep (aNilCheck (eget e 27) M)) (some 28) e M fun e M =>
    nx (keep (aFieldAddr 2 1 (eget e 28) M)) (some 29) e M fun e M =>
    nx (keep (aLoad false 1 (eget e 29) M)) (some 30) e M fun e M =>
    nx (oMv (eget e 6)) (some 31) e M fun e M =>
    nx (keep (aIndexS 5 (eget e 30) (eget e 31) M)) (some 32) e M fun e M =>
    nx (keep (aFieldAddr 4 1 (eget e 32) M)) (some 33) e M fun e M =>
    nx (keep (aLoad false 1 (eget e 33) M)) (some 34) e M fun e M =>
    nx (oBin cx.P .add 2 (eget e 26) (eget e 34) M) (some 35) e M fun e M =>
    nx (oMv (eget e 35)) (some 5) e M fun e M =>
    some (e, M)).map fun q => (prune [0, 1, 5, 6] q.1, q.2)
noncomputable def f48_r7 (call : CallF) : Env → Mem → Option (Env × Mem) := fun e M =>
    (nx (oMv (eget e 5)) (some 36) e M fun e M =>
    nx (oMv (eget e 36)) (some 4) e M fun e M =>
    some (e, M)).map fun q => (prune [4] q.1, q.2)
noncomputable def f48_l3 (call : CallF) (k : Nat) : St :=
  (bSeq (bSeq (bReg (f48_r3 call))
  (bCond (.tmp 13)
   (bEx .nrm)
   (bEx (.ext 0))))
  (bSeq (bBlock 1 (bSeq (bReg (f48_r5 call))
   (bCond (.tmp 25)
    (bReg (f48_r6 call))
    (bEx .nrm))))
  (bReg (f48_r4 call))))
noncomputable def f48 (call : CallF) (k : Nat) : St :=
  (bSeq (bReg (f48_r0 call))
  (bSeq (bReg (f48_r1 call))
  (bSeq (bSeq (bReg (f48_r2 call))
  (bBlock 0 (bLoop [0, 1, 5, 6] (f48_l3 call k) k)))
  (bSeq (bReg (f48_r7 call))
  (bEx .ret)))))
theorem f48_eq (call : CallF) (k : Nat) : exec cx call 37 f48_an k (Try.f48.body.getD .skip) = f48 call k := by kernel_rfl
/-! ### f55: loop.example/g01263/spec.l07Worth -/
def f55_an : Ann := ⟨[(0, ⟨[], [], [], [], [0, 1]⟩), (1, ⟨[], [], [], [], [4]⟩)], []⟩
noncomputable def f55_r0 (call : CallF) : Env → Mem → Option (Env × Mem) := fun e M =>
    (nx (oMv (.int .i64 0)) (some 4) e M fun e M =>
    some (e, M)).map fun q => (prune [0, 1] q.1, q.2)
noncomputable def f55_r1 (call : CallF) : Env → Mem → Option (Env × Mem) := fun e M =>
    rD [4] (fun (C : List Ob) =>
    nf (oMv (eget e 0)) (some 5) false e C fun e C =>
    nf (keep (aNilCheck (eget e 5) M)) (some 6) false e C fun e C =>
    nf (keep (aFieldAddr 1 1 (eget e 6) M)) (some 7) false e C fun e C =>
    nf (keep (aLoad false 1 (eget e 7) M)) (some 8) false e C fun e C =>
    nf (oMv (eget e 1)) (some 9) false e C fun e C =>
    nf (keep (aIndexS 1 (eget e 8) (eget e 9) M)) (some 10) false e C fun e C =>
    nf (keep (aLoad false 1 (eget e 10) M)) (some 11) false e C fun e C =>
    nf (oMv (eget e 0)) (some 12) false e C fun e C =>
    nf (oMv (eget e 1)) (some 13) false e C fun e C =>
    nf (aCall cx.P.cellsOf cx.rw call false (M.length + C.length) 41 [(eget e 12), (eget e 13)] M) (some 14) false e C fun e C =>
    nf (oBin cx.P .add 2 (eget e 11) (eget e 14) M) (some 15) false e C fun e C =>
    nf (oMv (eget e 0)) (some 16) false e C fun e C =>
    nf (oMv (eget e 1)) (some 17) false e C fun e C =>
    nf (aCall cx.P.cellsOf cx.rw call false (M.length + C.length) 48 [(eget e 16), (eget e 17)] M) (some 18) false e C fun e C =>
    nf (oBin cx.P .sub 2 (eget e 15) (eget e 18) M) (some 19) false e C fun e C =>
    nf (oMv (eget e 19)) (some 4) false e C fun e C =>
    some (e, C)) (fun (e : Env) (M : Mem) =>
    some (e, M)) M
noncomputable def f55 (call : CallF) (k : Nat) : St :=
  (bSeq (bReg (f55_r0 call))
  (bSeq (bReg (f55_r1 call))
  (bEx .ret)))
theorem f55_eq (call : CallF) (k : Nat) : exec cx call 20 f55_an k (Try.f55.body.getD .skip) = f55 call k := by kernel_rfl
/-! ### f56: loop.example/g01263/impl.worthOf -/
def f56_an : Ann := ⟨[(0, ⟨[], [], [], [], [1, 2]⟩), (1, ⟨[], [], [], [], [1, 2, 5, 6]⟩), (2, ⟨[], [], [], [], [4]⟩)], []⟩
noncomputable def f56_r0 (call : CallF) : Env → Mem → Option (Env × Mem) := fun e M =>
    (nx (keep (aBox 3 (eget e 0) M)) (some 2) e M fun e M =>
    nx (oMv (.int .i64 0)) (some 4) e M fun e M =>
    some (e, M)).map fun q => (prune [1, 2] q.1, q.2)
noncomputable def f56_r1 (call : CallF) : Env → Mem → Option (Env × Mem) := fun e M =>
    (nx (keep (aLoad true 3 (eget e 2) M)) (some 8) e M fun e M =>
    nx (oMv (eget e 1)) (some 9) e M fun e M =>
    nx (aCall cx.P.cellsOf cx.rw call false M.length 45 [(eget e 8), (eget e 9)] M) (some 10) e M fun e M =>
    nx (oMv (eget e 10)) (some 7) e M fun e M =>
    nx (keep (aExtract 0 (eget e 7))) (some 11) e M fun e M =>
    nx (keep (aExtract 1 (eget e 7))) (some 12) e M fun e M =>
    nx (oMv (eget e 11)) (some 5) e M fun e M =>
    nx (oMv (eget e 12)) (some 6) e M fun e M =>
    some (e, M)).map fun q => (prune [1, 2, 5, 6] q.1, q.2)
noncomputable def f56_r2 (call : CallF) : Env → Mem → Option (Env × Mem) := fun e M =>
    (nx (keep (aFieldAddr 1 1 (eget e 2) M)) (some 13) e M fun e M =>
    nx (keep (aLoad false 1 (eget e 13) M)) (some 14) e M fun e M =>
    nx (oMv (eget e 1)) (some 15) e M fun e M =>
    nx (keep (aIndexS 1 (eget e 14) (eget e 15) M)) (some 16) e M fun e M =>
    nx (keep (aLoad false 1 (eget e 16) M)) (some 17) e M fun e M =>
    nx (oMv (eget e 5)) (some 18) e M fun e M =>
    nx (oBin cx.P .add 2 (eget e 17) (eget e 18) M) (some 19) e M fun e M =>
    nx (oMv (eget e 6)) (some 20) e M fun e M =>
    nx (oBin cx.P .sub 2 (eget e 19) (eget e 20) M) (some 21) e M fun e M =>
    nx (oMv (eget e 21)) (some 4) e M fun e M =>
    some (e, M)).map fun q => (prune [4] q.1, q.2)
noncomputable def f56 (call : CallF) (k : Nat) : St :=
  (bSeq (bReg (f56_r0 call))
  (bSeq (bReg (f56_r1 call))
  (bSeq (bReg (f56_r2 call))
  (bEx .ret))))
theorem f56_eq (call : CallF) (k : Nat) : exec cx call 22 f56_an k (Try.f56.body.getD .skip) = f56 call k := by kernel_rfl
/-! ### f67: loop.example/g01263/spec.l07Ok -/
def f67_an : Ann := ⟨[(0, ⟨[], [], [], [], [0]⟩), (1, ⟨[], [], [], [], [0, 27]⟩), (2, ⟨[], [], [], [], [2]⟩), (3, ⟨[], [], [], [], [0, 3]⟩), (4, ⟨[], [], [], [], [0, 3, 4]⟩), (5, ⟨[], [], [], [], [0, 3, 4, 39]⟩), (6, ⟨[], [], [], [], [0, 3, 4]⟩), (7, ⟨[], [], [], [], [0, 3, 4, 5]⟩), (8, ⟨[], [], [], [], [0, 3, 4, 5, 95]⟩), (9, ⟨[], [], [], [], [2]⟩), (10, ⟨[], [], [], [], [0, 3, 4, 131]⟩), (11, ⟨[], [], [], [], [2]⟩), (12, ⟨[], [], [], [], [2]⟩)], [(5, [0, 3, 4])]⟩
noncomputable def f67_r0 (call : CallF) : Env → Mem → Option (Env × Mem) := fun e M =>
    (nx (oMv (.bool false)) (some 2) e M fun e M =>
    some (e, M)).map fun q => (prune [0] q.1, q.2)
noncomputable def f67_r1 (call : CallF) : Env → Mem → Option (Env × Mem) := fun e M =>
    (nx (oMv (eget e 0)) (some 6) e M fun e M =>
    nx (keep (aNilCheck (eget e 6) M)) (some 7) e M fun e M =>
    nx (keep (aFieldAddr 0 1 (eget e 7) M)) (some 8) e M fun e M =>
    nx (keep (aLoad false 1 (eget e 8) M)) (some 9) e M fun e M =>
    nx (aCall cx.P.cellsOf cx.rw call false M.length 79 [(eget e 9)] M) (some 10) e M fun e M =>
    nx (keep (aUn .not (eget e 10))) (some 11) e M fun e M =>
    nx (oMv (eget e 11)) (some 12) e M fun e M =>
    nx (aGuard (some ((eget e 12), false)) (oMv (eget e 0))) (some 13) e M fun e M =>
    nx (aGuard (some ((eget e 12), false)) (keep (aNilCheck (eget e 13) M))) (some 14) e M fun e M =>
    nx (aGuard (some ((eget e 12), false)) (keep (aFieldAddr 1 1 (eget e 14) M))) (some 15) e M fun e M =>
    nx (aGuard (some ((eget e 12), false)) (keep (aLoad false 1 (eget e 15) M))) (some 16) e M fun e M =>
    nx (aGuard (some ((eget e 12), false)) (aCall cx.P.cellsOf cx.rw call false M.length 80 [(eget e 16)] M)) (some 17) e M fun e M =>
    nx (aGuard (some ((eget e 12), false)) (keep (aUn .not (eget e 17)))) (some 18) e M fun e M =>
    nx (keep (aPick (eget e 12) (.bool true) (eget e 18))) (some 19) e M fun e M =>
    nx (oMv (eget e 19)) (some 20) e M fun e M =>
    nx (aGuard (some ((eget e 20), false)) (oMv (eget e 0))) (some 21) e M fun e M =>
    nx (aGuard (some ((eget e 20), false)) (keep (aNilCheck (eget e 21) M))) (some 22) e M fun e M =>
    nx (aGuard (some ((eget e 20), false)) (keep (aFieldAddr 2 1 (eget e 22) M))) (some 23) e M fun e M =>
    nx (aGuard (some ((eget e 20), false)) (keep (aLoad false 1 (eget e 23) M))) (some 24) e M fun e M =>
    nx (aGuard (some ((eget e 20), false)) (oLen cx.P 48 (eget e 24) M)) (some 25) e M fun e M =>
    nx (aGuard (some ((eget e 20), false)) (oBin cx.P .gtr 3 (eget e 25) (.int .i64 40) M)) (some 26) e M fun e M =>
    nx (keep (aPick (eget e 20) (.bool true) (eget e 26))) (some 27) e M fun e M =>
    some (e, M)).map fun q => (prune [0, 27] q.1, q.2)
noncomputable def f67_r2 (call : CallF) : Env → Mem → Option (Env × Mem) := fun e M =>
    (nx (oMv (.bool false)) (some 2) e M fun e M =>
    some (e, M)).map fun q => (prune [2] q.1, q.2)
noncomputable def f67_r3 (call : CallF) : Env → Mem → Option (Env × Mem) := fun e M =>
    (nx (oMv (eget e 0)) (some 28) e M fun e M =>
    nx (keep (aNilCheck (eget e 28) M)) (some 29) e M fun e M =>
    nx (keep (aFieldAddr 1 1 (eget e 29) M)) (some 30) e M fun e M =>
    nx (keep (aLoad false 1 (eget e 30) M)) (some 31) e M fun e M =>
    nx (oLen cx.P 41 (eget e 31) M) (some 32) e M fun e M =>
    nx (oMv (eget e 32)) (some 3) e M fun e M =>
    some (e, M)).map fun q => (prune [0, 3] q.1, q.2)
noncomputable def f67_r4 (call : CallF) : Env → Mem → Option (Env × Mem) := fun e M =>
    (nx (oMv (.int .i64 0)) (some 4) e M fun e M =>
    some (e, M)).map fun q => (prune [0, 3, 4] q.1, q.2)
noncomputable def f67_r5 (call : CallF) : Env → Mem → Option (Env × Mem) := fun e M =>
    (nx (oMv (eget e 4)) (some 33) e M fun e M =>
    nx (oMv (eget e 0)) (some 34) e M fun e M =>
    nx (keep (aNilCheck (eget e 34) M)) (some 35) e M fun e M =>
    nx (keep (aFieldAddr 2 1 (eget e 35) M)) (some 36) e M fun e M =>
    nx (keep (aLoad false 1 (eget e 36) M)) (some 37) e M fun e M =>
    nx (oLen cx.P 48 (eget e 37) M) (some 38) e M fun e M =>
    nx (oBin cx.P .lss 3 (eget e 33) (eget e 38) M) (some 39) e M fun e M =>
    some (e, M)).map fun q => (prune [0, 3, 4, 39] q.1, q.2)
noncomputable def f67_r6 (call : CallF) : Env → Mem → Option (Env × Mem) := fun e M =>
    (nx (oMv (eget e 4)) (some 40) e M fun e M =>
    nx (oBin cx.P .add 3 (eget e 40) (.int .i64 1) M) (some 41) e M fun e M =>
    nx (oMv (eget e 41)) (some 4) e M fun e M =>
    some (e, M)).map fun q => (prune [0, 3, 4] q.1, q.2)
noncomputable def f67_r7 (call : CallF) : Env → Mem → Option (Env × Mem) := fun e M =>
    (nx (oMv (eget e 0)) (some 42) e M fun e M =>
    nx (keep (aNilCheck (eget e 42) M)) (some 43) e M fun e M =>
    nx (keep (aFieldAddr 2 1 (eget e 43) M)) (some 44) e M fun e M =>
    nx (keep (aLoad false 1 (eget e 44) M)) (some 45) e M fun e M =>
    nx (oMv (eget e 4)) (some 46) e M fun e M =>
    nx (keep (aIndexS 5 (eget e 45) (eget e 46) M)) (some 47) e M fun e M =>
    nx (oMv (eget e 47)) (some 5) e M fun e M =>
    some (e, M)).map fun q => (prune [0, 3, 4, 5] q.1, q.2)
noncomputable def f67_r8 (call : CallF) : Env → Mem → Option (Env × Mem) := fun e M =>
    rD [0, 3, 4, 5, 95] (fun (C : List Ob) =>
    nf (oMv (eget e 3)) (some 48) false e C fun e C =>
    nf (oMv (eget e 5)) (some 49) false e C fun e C =>
    nf (keep (aNilCheck (eget e 49) M)) (some 50) false e C fun e C =>
    nf (keep (aFieldAddr 0 1 (eget e 50) M)) (some 51) false e C fun e C =>
    nf (keep (aLoad false 1 (eget e 51) M)) (some 52) false e C fun e C =>
    nf (aCall cx.P.cellsOf cx.rw call false (M.length + C.length) 68 [(eget e 48), (eget e 52)] M) (some 53) false e C fun e C =>
    nf (keep (aUn .not (eget e 53))) (some 54) false e C fun e C =>
    nf (oMv (eget e 54)) (some 55) false e C fun e C =>
    nf (aGuard (some ((eget e 55), false)) (oMv (eget e 3))) (some 56) false e C fun e C =>
    nf (aGuard (some ((eget e 55), false)) (oMv (eget e 5))) (some 57) false e C fun e C =>
    nf (aGuard (some ((eget e 55), false)) (keep (aNilCheck (eget e 57) M))) (some 58) false e C fun e C =>
    nf (aGuard (some ((eget e 55), false)) (keep (aFieldAddr 1 1 (eget e 58) M))) (some 59) false e C fun e C =>
    nf (aGuard (some ((eget e 55), false)) (keep (aLoad false 1 (eget e 59) M))) (some 60) false e C fun e C =>
    nf (aGuard (some ((eget e 55), false)) (aCall cx.P.cellsOf cx.rw call false (M.length + C.length) 68 [(eget e 56), (eget e 60)] M)) (some 61) false e C fun e C =>
    nf (aGuard (some ((eget e 55), false)) (keep (aUn .not (eget e 61)))) (some 62) false e C fun e C =>
    nf (keep (aPick (eget e 55) (.bool true) (eget e 62))) (some 63) false e C fun e C =>
    nf (oMv (eget e 63)) (some 64) false e C fun e C =>
    nf (aGuard (some ((eget e 64), false)) (oMv (eget e 5))) (some 65) false e C fun e C =>
    nf (aGuard (some ((eget e 64), false)) (keep (aNilCheck (eget e 65) M))) (some 66) false e C fun e C =>
    nf (aGuard (some ((eget e 64), false)) (keep (aFieldAddr 2 1 (eget e 66) M))) (some 67) false e C fun e C =>
    nf (aGuard (some ((eget e 64), false)) (keep (aLoad false 1 (eget e 67) M))) (some 68) false e C fun e C =>
    nf (aGuard (some ((eget e 64), false)) (oMv (eget e 0))) (some 69) false e C fun e C =>
    nf (aGuard (some ((eget e 64), false)) (keep (aNilCheck (eget e 69) M))) (some 70) false e C fun e C =>
    nf (aGuard (some ((eget e 64), false)) (keep (aFieldAddr 0 1 (eget e 70) M))) (some 71) false e C fun e C =>
    nf (aGuard (some ((eget e 64), false)) (keep (aLoad false 1 (eget e 71) M))) (some 72) false e C fun e C =>
    nf (aGuard (some ((eget e 64), false)) (aCall cx.P.cellsOf cx.rw call false (M.length + C.length) 81 [(eget e 68), (.int .i64 0), (eget e 72)] M)) (some 73) false e C fun e C =>
    nf (aGuard (some ((eget e 64), false)) (keep (aUn .not (eget e 73)))) (some 74) false e C fun e C =>
    nf (keep (aPick (eget e 64) (.bool true) (eget e 74))) (some 75) false e C fun e C =>
    nf (oMv (eget e 75)) (some 76) false e C fun e C =>
    nf (aGuard (some ((eget e 76), false)) (oMv (eget e 5))) (some 77) false e C fun e C =>
    nf (aGuard (some ((eget e 76), false)) (keep (aNilCheck (eget e 77) M))) (some 78) false e C fun e C =>
    nf (aGuard (some ((eget e 76), false)) (keep (aFieldAddr 3 1 (eget e 78) M))) (some 79) false e C fun e C =>
    nf (aGuard (some ((eget e 76), false)) (keep (aLoad false 1 (eget e 79) M))) (some 80) false e C fun e C =>
    nf (aGuard (some ((eget e 76), false)) (aCall cx.P.cellsOf cx.rw call false (M.length + C.length) 81 [(eget e 80), (.int .i64 1), (.int .i64 100000000)] M)) (some 81) false e C fun e C =>
    nf (aGuard (some ((eget e 76), false)) (keep (aUn .not (eget e 81)))) (some 82) false e C fun e C =>
    nf (keep (aPick (eget e 76) (.bool true) (eget e 82))) (some 83) false e C fun e C =>
    nf (oMv (eget e 83)) (some 84) false e C fun e C =>
    nf (aGuard (some ((eget e 84), false)) (oMv (eget e 5))) (some 85) false e C fun e C =>
    nf (aGuard (some ((eget e 84), false)) (keep (aNilCheck (eget e 85) M))) (some 86) false e C fun e C =>
    nf (aGuard (some ((eget e 84), false)) (keep (aFieldAddr 4 1 (eget e 86) M))) (some 87) false e C fun e C =>
    nf (aGuard (some ((eget e 84), false)) (keep (aLoad false 1 (eget e 87) M))) (some 88) false e C fun e C =>
    nf (aGuard (some ((eget e 84), false)) (oMv (eget e 5))) (some 89) false e C fun e C =>
    nf (aGuard (some ((eget e 84), false)) (keep (aNilCheck (eget e 89) M))) (some 90) false e C fun e C =>
    nf (aGuard (some ((eget e 84), false)) (keep (aFieldAddr 3 1 (eget e 90) M))) (some 91) false e C fun e C =>
    nf (aGuard (some ((eget e 84), false)) (keep (aLoad false 1 (eget e 91) M))) (some 92) false e C fun e C =>
    nf (aGuard (some ((eget e 84), false)) (aCall cx.P.cellsOf cx.rw call false (M.length + C.length) 81 [(eget e 88), (.int .i64 0), (eget e 92)] M)) (some 93) false e C fun e C =>
    nf (aGuard (some ((eget e 84), false)) (keep (aUn .not (eget e 93)))) (some 94) false e C fun e C =>
    nf (keep (aPick (eget e 84) (.bool true) (eget e 94))) (some 95) false e C fun e C =>
    some (e, C)) (fun (e : Env) (M : Mem) =>
    some (e, M)) M
noncomputable def f67_r9 (call : CallF) : Env → Mem → Option (Env × Mem) := fun e M =>
    (nx (oMv (.bool false)) (some 2) e M fun e M =>
    some (e, M)).map fun q => (prune [2] q.1, q.2)
noncomputable def f67_r10 (call : CallF) : Env → Mem → Option (Env × Mem) := fun e M =>
    rD [0, 3, 4, 131] (fun (C : List Ob) =>
    nf (oMv (eget e 5)) (some 96) false e C fun e C =>
    nf (keep (aNilCheck (eget e 96) M)) (some 97) false e C fun e C =>
    nf (keep (aFieldAddr 0 1 (eget e 97) M)) (some 98) false e C fun e C =>
    nf (keep (aLoad false 1 (eget e 98) M)) (some 99) false e C fun e C =>
    nf (oMv (eget e 5)) (some 100) false e C fun e C =>
    nf (keep (aNilCheck (eget e 100) M)) (some 101) false e C fun e C =>
    nf (keep (aFieldAddr 1 1 (eget e 101) M)) (some 102) false e C fun e C =>
    nf (keep (aLoad false 1 (eget e 102) M)) (some 103) false e C fun e C =>
    nf (oBin cx.P .eql 2 (eget e 99) (eget e 103) M) (some 104) false e C fun e C =>
    nf (oMv (eget e 104)) (some 105) false e C fun e C =>
    nf (aGuard (some ((eget e 105), true)) (oMv (eget e 5))) (some 106) false e C fun e C =>
    nf (aGuard (some ((eget e 105), true)) (keep (aNilCheck (eget e 106) M))) (some 107) false e C fun e C =>
    nf (aGuard (some ((eget e 105), true)) (keep (aFieldAddr 4 1 (eget e 107) M))) (some 108) false e C fun e C =>
    nf (aGuard (some ((eget e 105), true)) (keep (aLoad false 1 (eget e 108) M))) (some 109) false e C fun e C =>
    nf (aGuard (some ((eget e 105), true)) (oBin cx.P .neq 2 (eget e 109) (.int .i64 0) M)) (some 110) false e C fun e C =>
    nf (keep (aPick (eget e 105) (eget e 110) (.bool false))) (some 111) false e C fun e C =>
    nf (oMv (eget e 111)) (some 112) false e C fun e C =>
    nf (aGuard (some ((eget e 112), false)) (oMv (eget e 4))) (some 113) false e C fun e C =>
    nf (aGuard (some ((eget e 112), false)) (oBin cx.P .gtr 3 (eget e 113) (.int .i64 0) M)) (some 114) false e C fun e C =>
    nf (aGuard (some ((eget e 112), false)) (oMv (eget e 114))) (some 115) false e C fun e C =>
    nf (aGuard (some ((eget e 115), true)) (oMv (eget e 5))) (some 116) false e C fun e C =>
    nf (aGuard (some ((eget e 115), true)) (keep (aNilCheck (eget e 116) M))) (some 117) false e C fun e C =>
    nf (aGuard (some ((eget e 115), true)) (keep (aFieldAddr 2 1 (eget e 117) M))) (some 118) false e C fun e C =>
    nf (aGuard (some ((eget e 115), true)) (keep (aLoad false 1 (eget e 118) M))) (some 119) false e C fun e C =>
    nf (aGuard (some ((eget e 115), true)) (oMv (eget e 0))) (some 120) false e C fun e C =>
    nf (aGuard (some ((eget e 115), true)) (keep (aNilCheck (eget e 120) M))) (some 121) false e C fun e C =>
    nf (aGuard (some ((eget e 115), true)) (keep (aFieldAddr 2 1 (eget e 121) M))) (some 122) false e C fun e C =>
    nf (aGuard (some ((eget e 115), true)) (keep (aLoad false 1 (eget e 122) M))) (some 123) false e C fun e C =>
    nf (aGuard (some ((eget e 115), true)) (oMv (eget e 4))) (some 124) false e C fun e C =>
    nf (aGuard (some ((eget e 115), true)) (oBin cx.P .sub 3 (eget e 124) (.int .i64 1) M)) (some 125) false e C fun e C =>
    nf (aGuard (some ((eget e 115), true)) (keep (aIndexS 5 (eget e 123) (eget e 125) M))) (some 126) false e C fun e C =>
    nf (aGuard (some ((eget e 115), true)) (keep (aFieldAddr 2 1 (eget e 126) M))) (some 127) false e C fun e C =>
    nf (aGuard (some ((eget e 115), true)) (keep (aLoad false 1 (eget e 127) M))) (some 128) false e C fun e C =>
    nf (aGuard (some ((eget e 115), true)) (oBin cx.P .lss 2 (eget e 119) (eget e 128) M)) (some 129) false e C fun e C =>
    nf (aGuard (some ((eget e 112), false)) (keep (aPick (eget e 115) (eget e 129) (.bool false)))) (some 130) false e C fun e C =>
    nf (keep (aPick (eget e 112) (.bool true) (eget e 130))) (some 131) false e C fun e C =>
    some (e, C)) (fun (e : Env) (M : Mem) =>
    some (e, M)) M
noncomputable def f67_r11 (call : CallF) : Env → Mem → Option (Env × Mem) := fun e M =>
    (nx (oMv (.bool false)) (some 2) e M fun e M =>
    some (e, M)).map fun q => (prune [2] q.1, q.2)
noncomputable def f67_r12 (call : CallF) : Env → Mem → Option (Env × Mem) := fun e M =>
    (nx (oMv (.bool true)) (some 2) e M fun e M =>
    some (e, M)).map fun q => (prune [2] q.1, q.2)
noncomputable def f67_l5 (call : CallF) (k : Nat) : St :=
  (bSeq (bSeq (bReg (f67_r5 call))
  (bCond (.tmp 39)
   (bEx .nrm)
   (bEx (.ext 0))))
  (bSeq (bBlock 1 (bSeq (bReg (f67_r7 call))
   (bSeq (bSeq (bReg (f67_r8 call))
   (bCond (.tmp 95)
    (bSeq (bReg (f67_r9 call))
    (bEx .ret))
    (bEx .nrm)))
   (bSeq (bReg (f67_r10 call))
   (bCond (.tmp 131)
    (bSeq (bReg (f67_r11 call))
    (bEx .ret))
    (bEx .nrm))))))
  (bReg (f67_r6 call))))
noncomputable def f67 (call : CallF) (k : Nat) : St :=
  (bSeq (bReg (f67_r0 call))
  (bSeq (bSeq (bReg (f67_r1 call))
  (bCond (.tmp 27)
   (bSeq (bReg (f67_r2 call))
   (bEx .ret))
   (bEx .nrm)))
  (bSeq (bReg (f67_r3 call))
  (bSeq (bSeq (bReg (f67_r4 call))
  (bBlock 0 (bLoop [0, 3, 4] (f67_l5 call k) k)))
  (bSeq (bReg (f67_r12 call))
  (bEx .ret))))))
theorem f67_eq (call : CallF) (k : Nat) : exec cx call 132 f67_an k (Try.f67.body.getD .skip) = f67 call k := by kernel_rfl
/-! ### f68: loop.example/g01263/spec.l02Person -/
def f68_an : Ann := ⟨[(0, ⟨[], [], [], [], [0, 1]⟩), (1, ⟨[], [], [], [], [4]⟩)], []⟩
noncomputable def f68_r0 (call : CallF) : Env → Mem → Option (Env × Mem) := fun e M =>
    (nx (oMv (.bool false)) (some 4) e M fun e M =>
    some (e, M)).map fun q => (prune [0, 1] q.1, q.2)
noncomputable def f68_r1 (call : CallF) : Env → Mem → Option (Env × Mem) := fun e M =>
    (nx (oMv (eget e 1)) (some 5) e M fun e M =>
    nx (oMv (eget e 0)) (some 6) e M fun e M =>
    nx (oBin cx.P .sub 2 (eget e 6) (.int .i64 1) M) (some 7) e M fun e M =>
    nx (aCall cx.P.cellsOf cx.rw call false M.length 81 [(eget e 5), (.int .i64 0), (eget e 7)] M) (some 8) e M fun e M =>
    nx (oMv (eget e 8)) (some 4) e M fun e M =>
    some (e, M)).map fun q => (prune [4] q.1, q.2)
noncomputable def f68 (call : CallF) (k : Nat) : St :=
  (bSeq (bReg (f68_r0 call))
  (bSeq (bReg (f68_r1 call))
  (bEx .ret)))
theorem f68_eq (call : CallF) (k : Nat) : exec cx call 9 f68_an k (Try.f68.body.getD .skip) = f68 call k := by kernel_rfl
/-! ### f69: loop.example/g01263/laws.toTally -/
def f69_an : Ann := ⟨[(0, ⟨[], [], [], [], [1, 2]⟩), (1, ⟨[], [], [], [], [1, 2, 3]⟩), (2, ⟨[], [], [], [], [1, 2, 3]⟩), (3, ⟨[], [], [], [], [1, 2, 3]⟩), (4, ⟨[], [], [], [], [1, 2, 3]⟩), (5, ⟨[], [], [], [], [1, 2, 3]⟩), (6, ⟨[], [], [], [], [2, 3]⟩), (7, ⟨[], [], [], [], [2]⟩)], []⟩
noncomputable def f69_r0 (call : CallF) : Env → Mem → Option (Env × Mem) := fun e M =>
    (nx (keep (aBox 5 (eget e 0) M)) (some 1) e M fun e M =>
    nx (oAlloc cx.P M.length 104 5) (some 2) e M fun e M =>
    some (e, M)).map fun q => (prune [1, 2] q.1, q.2)
noncomputable def f69_r1 (call : CallF) : Env → Mem → Option (Env × Mem) := fun e M =>
    (nx (oAlloc cx.P M.length 104 5) (some 3) e M fun e M =>
    some (e, M)).map fun q => (prune [1, 2, 3] q.1, q.2)
noncomputable def f69_r2 (call : CallF) : Env → Mem → Option (Env × Mem) := fun e M =>
    (nx (keep (aFieldAddr 0 1 (eget e 1) M)) (some 4) e M fun e M =>
    nx (keep (aLoad false 1 (eget e 4) M)) (some 5) e M fun e M =>
    nx (keep (aFieldAddr 0 1 (eget e 3) M)) (some 6) e M fun e M =>
    nx (oStore 1 (eget e 6) (eget e 5) M) none e M fun e M =>
    some (e, M)).map fun q => (prune [1, 2, 3] q.1, q.2)
noncomputable def f69_r3 (call : CallF) : Env → Mem → Option (Env × Mem) := fun e M =>
    (nx (keep (aFieldAddr 1 1 (eget e 1) M)) (some 7) e M fun e M =>
    nx (keep (aLoad false 1 (eget e 7) M)) (some 8) e M fun e M =>
    nx (keep (aFieldAddr 1 1 (eget e 3) M)) (some 9) e M fun e M =>
    nx (oStore 1 (eget e 9) (eget e 8) M) none e M fun e M =>
    some (e, M)).map fun q => (prune [1, 2, 3] q.1, q.2)
noncomputable def f69_r4 (call : CallF) : Env → Mem → Option (Env × Mem) := fun e M =>
    (nx (keep (aFieldAddr 2 1 (eget e 1) M)) (some 10) e M fun e M =>
    nx (keep (aLoad false 1 (eget e 10) M)) (some 11) e M fun e M =>
    nx (keep (aFieldAddr 2 1 (eget e 3) M)) (some 12) e M fun e M =>
    nx (oStore 1 (eget e 12) (eget e 11) M) none e M fun e M =>
    some (e, M)).map fun q => (prune [1, 2, 3] q.1, q.2)
noncomputable def f69_r5 (call : CallF) : Env → Mem → Option (Env × Mem) := fun e M =>
    (nx (keep (aFieldAddr 3 1 (eget e 1) M)) (some 13) e M fun e M =>
    nx (keep (aLoad false 1 (eget e 13) M)) (some 14) e M fun e M =>
    nx (keep (aFieldAddr 3 1 (eget e 3) M)) (some 15) e M fun e M =>
    nx (oStore 1 (eget e 15) (eget e 14) M) none e M fun e M =>
    some (e, M)).map fun q => (prune [1, 2, 3] q.1, q.2)
noncomputable def f69_r6 (call : CallF) : Env → Mem → Option (Env × Mem) := fun e M =>
    (nx (keep (aFieldAddr 4 1 (eget e 1) M)) (some 16) e M fun e M =>
    nx (keep (aLoad false 1 (eget e 16) M)) (some 17) e M fun e M =>
    nx (keep (aFieldAddr 4 1 (eget e 3) M)) (some 18) e M fun e M =>
    nx (oStore 1 (eget e 18) (eget e 17) M) none e M fun e M =>
    some (e, M)).map fun q => (prune [2, 3] q.1, q.2)
noncomputable def f69_r7 (call : CallF) : Env → Mem → Option (Env × Mem) := fun e M =>
    (nx (keep (aLoad true 5 (eget e 3) M)) (some 19) e M fun e M =>
    nx (oStore 5 (eget e 2) (eget e 19) M) none e M fun e M =>
    some (e, M)).map fun q => (prune [2] q.1, q.2)
noncomputable def f69 (call : CallF) (k : Nat) : St :=
  (bSeq (bReg (f69_r0 call))
  (bSeq (bReg (f69_r1 call))
  (bSeq (bReg (f69_r2 call))
  (bSeq (bReg (f69_r3 call))
  (bSeq (bReg (f69_r4 call))
  (bSeq (bReg (f69_r5 call))
  (bSeq (bReg (f69_r6 call))
  (bSeq (bReg (f69_r7 call))
  (bEx .ret)))))))))
theorem f69_eq (call : CallF) (k : Nat) : exec cx call 20 f69_an k (Try.f69.body.getD .skip) = f69 call k := by kernel_rfl
/-! ### f70: loop.example/g01263/impl.ValidBook -/
def f70_an : Ann := ⟨[(0, ⟨[], [], [], [], [1]⟩), (1, ⟨[], [], [], [], [1, 3]⟩), (2, ⟨[], [], [], [], [1, 3, 29]⟩), (3, ⟨[], [], [], [], [2]⟩), (4, ⟨[], [], [], [], [1, 3, 31, 32, 33]⟩), (5, ⟨[], [], [], [], [1, 3, 31, 32, 33, 34]⟩), (6, ⟨[], [], [], [], [1, 3, 5, 31, 32, 33]⟩), (7, ⟨[], [], [], [], [1, 3, 31, 32, 33, 39]⟩), (8, ⟨[], [], [], [], [2]⟩), (9, ⟨[], [], [], [], [1, 3, 31, 32, 33]⟩), (10, ⟨[], [], [], [], [1, 3, 6]⟩), (11, ⟨[], [], [], [], [1, 3, 6, 42, 43, 44]⟩), (12, ⟨[], [], [], [], [1, 3, 6, 42, 43, 44, 45]⟩), (13, ⟨[], [], [], [], [1, 3, 6, 8, 42, 43, 44]⟩), (14, ⟨[], [], [], [], [1, 3, 8, 42, 43, 44, 102]⟩), (15, ⟨[], [], [], [], [2]⟩), (16, ⟨[], [], [], [], [1, 3, 6, 42, 43, 44]⟩), (17, ⟨[], [], [], [], [1, 3, 6, 42, 43, 44]⟩), (18, ⟨[], [], [], [], [2]⟩)], [(5, [1, 3, 31, 32, 33]), (12, [1, 3, 6, 42, 43, 44])]⟩
noncomputable def f70_r0 (call : CallF) : Env → Mem → Option (Env × Mem) := fun e M =>
    (nx (keep (aBox 3 (eget e 0) M)) (some 1) e M fun e M =>
    nx (oMv (.bool false)) (some 2) e M fun e M =>
    some (e, M)).map fun q => (prune [1] q.1, q.2)
noncomputable def f70_r1 (call : CallF) : Env → Mem → Option (Env × Mem) := fun e M =>
    (nx (keep (aFieldAddr 1 1 (eget e 1) M)) (some 9) e M fun e M =>
    nx (keep (aLoad false 1 (eget e 9) M)) (some 10) e M fun e M =>
    nx (oLen cx.P 41 (eget e 10) M) (some 11) e M fun e M =>
    nx (oMv (eget e 11)) (some 3) e M fun e M =>
    some (e, M)).map fun q => (prune [1, 3] q.1, q.2)
noncomputable def f70_r2 (call : CallF) : Env → Mem → Option (Env × Mem) := fun e M =>
    (nx (keep (aFieldAddr 0 1 (eget e 1) M)) (some 12) e M fun e M =>
    nx (keep (aLoad false 1 (eget e 12) M)) (some 13) e M fun e M =>
    nx (aCall cx.P.cellsOf cx.rw call false M.length 82 [(eget e 13)] M) (some 14) e M fun e M =>
    nx (keep (aUn .not (eget e 14))) (some 15) e M fun e M =>
    nx (oMv (eget e 15)) (some 16) e M fun e M =>
    nx (aGuard (some ((eget e 16), false)) (oMv (eget e 3))) (some 17) e M fun e M =>
    nx (aGuard (some ((eget e 16), false)) (oBin cx.P .lss 2 (eget e 17) (.int .i64 1) M)) (some 18) e M fun e M =>
    nx (keep (aPick (eget e 16) (.bool true) (eget e 18))) (some 19) e M fun e M =>
    nx (oMv (eget e 19)) (some 20) e M fun e M =>
    nx (aGuard (some ((eget e 20), false)) (oMv (eget e 3))) (some 21) e M fun e M =>
    nx (aGuard (some ((eget e 20), false)) (oBin cx.P .gtr 2 (eget e 21) (.int .i64 16) M)) (some 22) e M fun e M =>
    nx (keep (aPick (eget e 20) (.bool true) (eget e 22))) (some 23) e M fun e M =>
    nx (oMv (eget e 23)) (some 24) e M fun e M =>
    nx (aGuard (some ((eget e 24), false)) (keep (aFieldAddr 2 1 (eget e 1) M))) (some 25) e M fun e M =>
    nx (aGuard (some ((eget e 24), false)) (keep (aLoad false 1 (eget e 25) M))) (some 26) e M fun e M =>
    nx (aGuard (some ((eget e 24), false)) (oLen cx.P 48 (eget e 26) M)) (some 27) e M fun e M =>
    nx (aGuard (some ((eget e 24), false)) (oBin cx.P .gtr 3 (eget e 27) (.int .i64 40) M)) (some 28) e M fun e M =>
    nx (keep (aPick (eget e 24) (.bool true) (eget e 28))) (some 29) e M fun e M =>
    some (e, M)).map fun q => (prune [1, 3, 29] q.1, q.2)
noncomputable def f70_r3 (call : CallF) : Env → Mem → Option (Env × Mem) := fun e M =>
    (nx (oMv (.bool false)) (some 2) e M fun e M =>
    some (e, M)).map fun q => (prune [2] q.1, q.2)
noncomputable def f70_r4 (call : CallF) : Env → Mem → Option (Env × Mem) := fun e M =>
    (nx (keep (aFieldAddr 1 1 (eget e 1) M)) (some 30) e M fun e M =>
    nx (keep (aLoad false 1 (eget e 30) M)) (some 31) e M fun e M =>
    nx (oLen cx.P 41 (eget e 31) M) (some 32) e M fun e M =>
    nx (oMv (.int .i64 0)) (some 33) e M fun e M =>
    some (e, M)).map fun q => (prune [1, 3, 31, 32, 33] q.1, q.2)
noncomputable def f70_r5 (call : CallF) : Env → Mem → Option (Env × Mem) := fun e M =>
    (nx (oBin cx.P .lss 3 (eget e 33) (eget e 32) M) (some 34) e M fun e M =>
    some (e, M)).map fun q => (prune [1, 3, 31, 32, 33, 34] q.1, q.2)
noncomputable def f70_r6 (call : CallF) : Env → Mem → Option (Env × Mem) := fun e M =>
    (nx (keep (aIndexS 1 (eget e 31) (eget e 33) M)) (some 35) e M fun e M =>
    nx (keep (aLoad false 1 (eget e 35) M)) (some 36) e M fun e M =>
    nx (oMv (eget e 36)) (some 5) e M fun e M =>
    some (e, M)).map fun q => (prune [1, 3, 5, 31, 32, 33] q.1, q.2)
noncomputable def f70_r7 (call : CallF) : Env → Mem → Option (Env × Mem) := fun e M =>
    (nx (oMv (eget e 5)) (some 37) e M fun e M =>
    nx (aCall cx.P.cellsOf cx.rw call false M.length 83 [(eget e 37)] M) (some 38) e M fun e M =>
    nx (keep (aUn .not (eget e 38))) (some 39) e M fun e M =>
    some (e, M)).map fun q => (prune [1, 3, 31, 32, 33, 39] q.1, q.2)
noncomputable def f70_r8 (call : CallF) : Env → Mem → Option (Env × Mem) := fun e M =>
    (nx (oMv (.bool false)) (some 2) e M fun e M =>
    some (e, M)).map fun q => (prune [2] q.1, q.2)
noncomputable def f70_r9 (call : CallF) : Env → Mem → Option (Env × Mem) := fun e M =>
    (nx (oBin cx.P .add 3 (eget e 33) (.int .i64 1) M) (some 40) e M fun e M =>
    nx (oMv (eget e 40)) (some 33) e M fun e M =>
    some (e, M)).map fun q => (prune [1, 3, 31, 32, 33] q.1, q.2)
noncomputable def f70_r10 (call : CallF) : Env → Mem → Option (Env × Mem) := fun e M =>
    (nx (oMv (.int .i64 0)) (some 6) e M fun e M =>
    some (e, M)).map fun q => (prune [1, 3, 6] q.1, q.2)
noncomputable def f70_r11 (call : CallF) : Env → Mem → Option (Env × Mem) := fun e M =>
    (nx (keep (aFieldAddr 2 1 (eget e 1) M)) (some 41) e M fun e M =>
    nx (keep (aLoad false 1 (eget e 41) M)) (some 42) e M fun e M =>
    nx (oLen cx.P 48 (eget e 42) M) (some 43) e M fun e M =>
    nx (oMv (.int .i64 0)) (some 44) e M fun e M =>
    some (e, M)).map fun q => (prune [1, 3, 6, 42, 43, 44] q.1, q.2)
noncomputable def f70_r12 (call : CallF) : Env → Mem → Option (Env × Mem) := fun e M =>
    (nx (oBin cx.P .lss 3 (eget e 44) (eget e 43) M) (some 45) e M fun e M =>
    some (e, M)).map fun q => (prune [1, 3, 6, 42, 43, 44, 45] q.1, q.2)
noncomputable def f70_r13 (call : CallF) : Env → Mem → Option (Env × Mem) := fun e M =>
    (nx (keep (aIndexS 5 (eget e 42) (eget e 44) M)) (some 46) e M fun e M =>
    nx (keep (aLoad true 5 (eget e 46) M)) (some 47) e M fun e M =>
    nx (oAlloc cx.P M.length 104 5) (some 8) e M fun e M =>
    nx (oStore 5 (eget e 8) (eget e 47) M) none e M fun e M =>
    some (e, M)).map fun q => (prune [1, 3, 6, 8, 42, 43, 44] q.1, q.2)
noncomputable def f70_r14 (call : CallF) : Env → Mem → Option (Env × Mem) := fun e M =>
    (nx (oMv (eget e 3)) (some 48) e M fun e M =>
    nx (keep (aFieldAddr 0 1 (eget e 8) M)) (some 49) e M fun e M =>
    nx (keep (aLoad false 1 (eget e 49) M)) (some 50) e M fun e M =>
    nx (keep (aFieldAddr 1 1 (eget e 8) M)) (some 51) e M fun e M =>
    nx (keep (aLoad false 1 (eget e 51) M)) (some 52) e M fun e M =>
    nx (keep (aLitI 2 1 [(eget e 50), (eget e 52)] M)) (some 53) e M fun e M =>
    nx (aCall cx.P.cellsOf cx.rw call false M.length 71 [(eget e 48), (eget e 53)] M) (some 54) e M fun e M =>
    nx (keep (aUn .not (eget e 54))) (some 55) e M fun e M =>
    nx (oMv (eget e 55)) (some 56) e M fun e M =>
    nx (aGuard (some ((eget e 56), false)) (keep (aFieldAddr 2 1 (eget e 8) M))) (some 57) e M fun e M =>
    nx (aGuard (some ((eget e 56), false)) (keep (aLoad false 1 (eget e 57) M))) (some 58) e M fun e M =>
    nx (aGuard (some ((eget e 56), false)) (oMv (eget e 6))) (some 59) e M fun e M =>
    nx (aGuard (some ((eget e 56), false)) (oBin cx.P .lss 2 (eget e 58) (eget e 59) M)) (some 60) e M fun e M =>
    nx (keep (aPick (eget e 56) (.bool true) (eget e 60))) (some 61) e M fun e M =>
    nx (oMv (eget e 61)) (some 62) e M fun e M =>
    nx (aGuard (some ((eget e 62), false)) (keep (aFieldAddr 2 1 (eget e 8) M))) (some 63) e M fun e M =>
    nx (aGuard (some ((eget e 62), false)) (keep (aLoad false 1 (eget e 63) M))) (some 64) e M fun e M =>
    nx (aGuard (some ((eget e 62), false)) (keep (aFieldAddr 0 1 (eget e 1) M))) (some 65) e M fun e M =>
    nx (aGuard (some ((eget e 62), false)) (keep (aLoad false 1 (eget e 65) M))) (some 66) e M fun e M =>
    nx (aGuard (some ((eget e 62), false)) (oBin cx.P .gtr 2 (eget e 64) (eget e 66) M)) (some 67) e M fun e M =>
    nx (keep (aPick (eget e 62) (.bool true) (eget e 67))) (some 68) e M fun e M =>
    nx (oMv (eget e 68)) (some 69) e M fun e M =>
    nx (aGuard (some ((eget e 69), false)) (keep (aFieldAddr 3 1 (eget e 8) M))) (some 70) e M fun e M =>
    nx (aGuard (some ((eget e 69), false)) (keep (aLoad false 1 (eget e 70) M))) (some 71) e M fun e M =>
    nx (aGuard (some ((eget e 69), false)) (oBin cx.P .lss 2 (eget e 71) (.int .i64 1) M)) (some 72) e M fun e M =>
    nx (keep (aPick (eget e 69) (.bool true) (eget e 72))) (some 73) e M fun e M =>
    nx (oMv (eget e 73)) (some 74) e M fun e M =>
    nx (aGuard (some ((eget e 74), false)) (keep (aFieldAddr 3 1 (eget e 8) M))) (some 75) e M fun e M =>
    nx (aGuard (some ((eget e 74), false)) (keep (aLoad false 1 (eget e 75) M))) (some 76) e M fun e M =>
    nx (aGuard (some ((eget e 74), false)) (oBin cx.P .gtr 2 (eget e 76) (.int .i64 100000000) M)) (some 77) e M fun e M =>
    nx (keep (aPick (eget e 74) (.bool true) (eget e 77))) (some 78) e M fun e M =>
    nx (oMv (eget e 78)) (some 79) e M fun e M =>
    nx (aGuard (some ((eget e 79), false)) (keep (aFieldAddr 4 1 (eget e 8) M))) (some 80) e M fun e M =>
    nx (aGuard (some ((eget e 79), false)) (keep (aLoad false 1 (eget e 80) M))) (some 81) e M fun e M =>
    nx (aGuard (some ((eget e 79), false)) (oBin cx.P .lss 2 (eget e 81) (.int .i64 0) M)) (some 82) e M fun e M =>
    nx (keep (aPick (eget e 79) (.bool true) (eget e 82))) (some 83) e M fun e M =>
    nx (oMv (eget e 83)) (some 84) e M fun e M =>
    nx (aGuard (some ((eget e 84), false)) (keep (aFieldAddr 4 1 (eget e 8) M))) (some 85) e M fun e M =>
    nx (aGuard (some ((eget e 84), false)) (keep (aLoad false 1 (eget e 85) M))) (some 86) e M fun e M =>
    nx (aGuard (some ((eget e 84), false)) (keep (aFieldAddr 3 1 (eget e 8) M))) (some 87) e M fun e M =>
    nx (aGuard (some ((eget e 84), false)) (keep (aLoad false 1 (eget e 87) M))) (some 88) e M fun e M =>
    nx (aGuard (some ((eget e 84), false)) (oBin cx.P .gtr 2 (eget e 86) (eget e 88) M)) (some 89) e M fun e M =>
    nx (keep (aPick (eget e 84) (.bool true) (eget e 89))) (some 90) e M fun e M =>
    nx (oMv (eget e 90)) (some 91) e M fun e M =>
    nx (aGuard (some ((eget e 91), false)) (keep (aFieldAddr 0 1 (eget e 8) M))) (some 92) e M fun e M =>
    nx (aGuard (some ((eget e 91), false)) (keep (aLoad false 1 (eget e 92) M))) (some 93) e M fun e M =>
    nx (aGuard (some ((eget e 91), false)) (keep (aFieldAddr 1 1 (eget e 8) M))) (some 94) e M fun e M =>
    nx (aGuard (some ((eget e 91), false)) (keep (aLoad false 1 (eget e 94) M))) (some 95) e M fun e M =>
    nx (aGuard (some ((eget e 91), false)) (oBin cx.P .eql 2 (eget e 93) (eget e 95) M)) (some 96) e M fun e M =>
    nx (aGuard (some ((eget e 91), false)) (oMv (eget e 96))) (some 97) e M fun e M =>
    nx (aGuard (some ((eget e 97), true)) (keep (aFieldAddr 4 1 (eget e 8) M))) (some 98) e M fun e M =>
    nx (aGuard (some ((eget e 97), true)) (keep (aLoad false 1 (eget e 98) M))) (some 99) e M fun e M =>
    nx (aGuard (some ((eget e 97), true)) (oBin cx.P .neq 2 (eget e 99) (.int .i64 0) M)) (some 100) e M fun e M =>
    nx (aGuard (some ((eget e 91), false)) (keep (aPick (eget e 97) (eget e 100) (.bool false)))) (some 101) e M fun e M =>
    nx (keep (aPick (eget e 91) (.bool true) (eget e 101))) (some 102) e M fun e M =>
    some (e, M)).map fun q => (prune [1, 3, 8, 42, 43, 44, 102] q.1, q.2)
noncomputable def f70_r15 (call : CallF) : Env → Mem → Option (Env × Mem) := fun e M =>
    (nx (oMv (.bool false)) (some 2) e M fun e M =>
    some (e, M)).map fun q => (prune [2] q.1, q.2)
noncomputable def f70_r16 (call : CallF) : Env → Mem → Option (Env × Mem) := fun e M =>
    (nx (keep (aFieldAddr 2 1 (eget e 8) M)) (some 103) e M fun e M =>
    nx (keep (aLoad false 1 (eget e 103) M)) (some 104) e M fun e M =>
    nx (oMv (eget e 104)) (some 6) e M fun e M =>
    some (e, M)).map fun q => (prune [1, 3, 6, 42, 43, 44] q.1, q.2)
noncomputable def f70_r17 (call : CallF) : Env → Mem → Option (Env × Mem) := fun e M =>
    (nx (oBin cx.P .add 3 (eget e 44) (.int .i64 1) M) (some 105) e M fun e M =>
    nx (oMv (eget e 105)) (some 44) e M fun e M =>
    some (e, M)).map fun q => (prune [1, 3, 6, 42, 43, 44] q.1, q.2)
noncomputable def f70_r18 (call : CallF) : Env → Mem → Option (Env × Mem) := fun e M =>
    (nx (oMv (.bool true)) (some 2) e M fun e M =>
    some (e, M)).map fun q => (prune [2] q.1, q.2)
noncomputable def f70_l5 (call : CallF) (k : Nat) : St :=
  (bSeq (bReg (f70_r5 call))
  (bSeq (bCond (.tmp 34)
   (bEx .nrm)
   (bEx (.ext 0)))
  (bSeq (bBlock 1 (bSeq (bReg (f70_r6 call))
   (bSeq (bReg (f70_r7 call))
   (bCond (.tmp 39)
    (bSeq (bReg (f70_r8 call))
    (bEx .ret))
    (bEx .nrm)))))
  (bReg (f70_r9 call)))))
noncomputable def f70_l12 (call : CallF) (k : Nat) : St :=
  (bSeq (bReg (f70_r12 call))
  (bSeq (bCond (.tmp 45)
   (bEx .nrm)
   (bEx (.ext 2)))
  (bSeq (bBlock 3 (bSeq (bReg (f70_r13 call))
   (bSeq (bSeq (bReg (f70_r14 call))
   (bCond (.tmp 102)
    (bSeq (bReg (f70_r15 call))
    (bEx .ret))
    (bEx .nrm)))
   (bReg (f70_r16 call)))))
  (bReg (f70_r17 call)))))
noncomputable def f70 (call : CallF) (k : Nat) : St :=
  (bSeq (bReg (f70_r0 call))
  (bSeq (bReg (f70_r1 call))
  (bSeq (bSeq (bReg (f70_r2 call))
  (bCond (.tmp 29)
   (bSeq (bReg (f70_r3 call))
   (bEx .ret))
   (bEx .nrm)))
  (bSeq (bSeq (bReg (f70_r4 call))
  (bBlock 0 (bLoop [1, 3, 31, 32, 33] (f70_l5 call k) k)))
  (bSeq (bReg (f70_r10 call))
  (bSeq (bSeq (bReg (f70_r11 call))
  (bBlock 2 (bLoop [1, 3, 6, 42, 43, 44] (f70_l12 call k) k)))
  (bSeq (bReg (f70_r18 call))
  (bEx .ret))))))))
theorem f70_eq (call : CallF) (k : Nat) : exec cx call 106 f70_an k (Try.f70.body.getD .skip) = f70 call k := by kernel_rfl
/-! ### f71: loop.example/g01263/impl.arePeople -/
def f71_an : Ann := ⟨[(0, ⟨[], [], [], [], [0, 1]⟩), (1, ⟨[], [], [], [], [0, 7, 8, 9]⟩), (2, ⟨[], [], [], [], [0, 7, 8, 9, 10]⟩), (3, ⟨[], [], [], [], [0, 6, 7, 8, 9]⟩), (4, ⟨[], [], [], [], [0, 7, 8, 9, 19]⟩), (5, ⟨[], [], [], [], [4]⟩), (6, ⟨[], [], [], [], [0, 7, 8, 9]⟩), (7, ⟨[], [], [], [], [4]⟩)], [(2, [0, 7, 8, 9])]⟩
noncomputable def f71_r0 (call : CallF) : Env → Mem → Option (Env × Mem) := fun e M =>
    (nx (oMv (.bool false)) (some 4) e M fun e M =>
    some (e, M)).map fun q => (prune [0, 1] q.1, q.2)
noncomputable def f71_r1 (call : CallF) : Env → Mem → Option (Env × Mem) := fun e M =>
    (nx (oMv (eget e 1)) (some 7) e M fun e M =>
    nx (oLen cx.P 41 (eget e 7) M) (some 8) e M fun e M =>
    nx (oMv (.int .i64 0)) (some 9) e M fun e M =>
    some (e, M)).map fun q => (prune [0, 7, 8, 9] q.1, q.2)
noncomputable def f71_r2 (call : CallF) : Env → Mem → Option (Env × Mem) := fun e M =>
    (nx (oBin cx.P .lss 3 (eget e 9) (eget e 8) M) (some 10) e M fun e M =>
    some (e, M)).map fun q => (prune [0, 7, 8, 9, 10] q.1, q.2)
noncomputable def f71_r3 (call : CallF) : Env → Mem → Option (Env × Mem) := fun e M =>
    (nx (keep (aIndexS 1 (eget e 7) (eget e 9) M)) (some 11) e M fun e M =>
    nx (keep (aLoad false 1 (eget e 11) M)) (some 12) e M fun e M =>
    nx (oMv (eget e 12)) (some 6) e M fun e M =>
    some (e, M)).map fun q => (prune [0, 6, 7, 8, 9] q.1, q.2)
noncomputable def f71_r4 (call : CallF) : Env → Mem → Option (Env × Mem) := fun e M =>
    (nx (oMv (eget e 6)) (some 13) e M fun e M =>
    nx (oBin cx.P .lss 2 (eget e 13) (.int .i64 0) M) (some 14) e M fun e M =>
    nx (oMv (eget e 14)) (some 15) e M fun e M =>
    nx (aGuard (some ((eget e 15), false)) (oMv (eget e 6))) (some 16) e M fun e M =>
    nx (aGuard (some ((eget e 15), false)) (oMv (eget e 0))) (some 17) e M fun e M =>
    nx (aGuard (some ((eget e 15), false)) (oBin cx.P .geq 2 (eget e 16) (eget e 17) M)) (some 18) e M fun e M =>
    nx (keep (aPick (eget e 15) (.bool true) (eget e 18))) (some 19) e M fun e M =>
    some (e, M)).map fun q => (prune [0, 7, 8, 9, 19] q.1, q.2)
noncomputable def f71_r5 (call : CallF) : Env → Mem → Option (Env × Mem) := fun e M =>
    (nx (oMv (.bool false)) (some 4) e M fun e M =>
    some (e, M)).map fun q => (prune [4] q.1, q.2)
noncomputable def f71_r6 (call : CallF) : Env → Mem → Option (Env × Mem) := fun e M =>
    (nx (oBin cx.P .add 3 (eget e 9) (.int .i64 1) M) (some 20) e M fun e M =>
    nx (oMv (eget e 20)) (some 9) e M fun e M =>
    some (e, M)).map fun q => (prune [0, 7, 8, 9] q.1, q.2)
noncomputable def f71_r7 (call : CallF) : Env → Mem → Option (Env × Mem) := fun e M =>
    (nx (oMv (.bool true)) (some 4) e M fun e M =>
    some (e, M)).map fun q => (prune [4] q.1, q.2)
noncomputable def f71_l2 (call : CallF) (k : Nat) : St :=
  (bSeq (bReg (f71_r2 call))
  (bSeq (bCond (.tmp 10)
   (bEx .nrm)
   (bEx (.ext 0)))
  (bSeq (bBlock 1 (bSeq (bReg (f71_r3 call))
   (bSeq (bReg (f71_r4 call))
   (bCond (.tmp 19)
    (bSeq (bReg (f71_r5 call))
    (bEx .ret))
    (bEx .nrm)))))
  (bReg (f71_r6 call)))))
noncomputable def f71 (call : CallF) (k : Nat) : St :=
  (bSeq (bReg (f71_r0 call))
  (bSeq (bSeq (bReg (f71_r1 call))
  (bBlock 0 (bLoop [0, 7, 8, 9] (f71_l2 call k) k)))
  (bSeq (bReg (f71_r7 call))
  (bEx .ret))))
theorem f71_eq (call : CallF) (k : Nat) : exec cx call 21 f71_an k (Try.f71.body.getD .skip) = f71 call k := by kernel_rfl
/-! ### f72: loop.example/g01263/laws.eqTally -/
def f72_an : Ann := ⟨[(0, ⟨[], [], [], [], [2, 3]⟩), (1, ⟨[], [], [], [], [2, 3, 9]⟩), (2, ⟨[], [], [], [], [4]⟩), (3, ⟨[], [], [], [], [2, 3, 14]⟩), (4, ⟨[], [], [], [], [4]⟩), (5, ⟨[], [], [], [], [2, 3, 19]⟩), (6, ⟨[], [], [], [], [4]⟩), (7, ⟨[], [], [], [], [2, 3, 24]⟩), (8, ⟨[], [], [], [], [4]⟩), (9, ⟨[], [], [], [], [29]⟩), (10, ⟨[], [], [], [], [4]⟩), (11, ⟨[], [], [], [], [4]⟩)], []⟩
noncomputable def f72_r0 (call : CallF) : Env → Mem → Option (Env × Mem) := fun e M =>
    (nx (keep (aBox 5 (eget e 0) M)) (some 2) e M fun e M =>
    nx (keep (aBox 5 (eget e 1) M)) (some 3) e M fun e M =>
    nx (oMv (.bool false)) (some 4) e M fun e M =>
    some (e, M)).map fun q => (prune [2, 3] q.1, q.2)
noncomputable def f72_r1 (call : CallF) : Env → Mem → Option (Env × Mem) := fun e M =>
    (nx (keep (aFieldAddr 0 1 (eget e 2) M)) (some 5) e M fun e M =>
    nx (keep (aLoad false 1 (eget e 5) M)) (some 6) e M fun e M =>
    nx (keep (aFieldAddr 0 1 (eget e 3) M)) (some 7) e M fun e M =>
    nx (keep (aLoad false 1 (eget e 7) M)) (some 8) e M fun e M =>
    nx (oBin cx.P .neq 2 (eget e 6) (eget e 8) M) (some 9) e M fun e M =>
    some (e, M)).map fun q => (prune [2, 3, 9] q.1, q.2)
noncomputable def f72_r2 (call : CallF) : Env → Mem → Option (Env × Mem) := fun e M =>
    (nx (oMv (.bool false)) (some 4) e M fun e M =>
    some (e, M)).map fun q => (prune [4] q.1, q.2)
noncomputable def f72_r3 (call : CallF) : Env → Mem → Option (Env × Mem) := fun e M =>
    (nx (keep (aFieldAddr 1 1 (eget e 2) M)) (some 10) e M fun e M =>
    nx (keep (aLoad false 1 (eget e 10) M)) (some 11) e M fun e M =>
    nx (keep (aFieldAddr 1 1 (eget e 3) M)) (some 12) e M fun e M =>
    nx (keep (aLoad false 1 (eget e 12) M)) (some 13) e M fun e M =>
    nx (oBin cx.P .neq 2 (eget e 11) (eget e 13) M) (some 14) e M fun e M =>
    some (e, M)).map fun q => (prune [2, 3, 14] q.1, q.2)
noncomputable def f72_r4 (call : CallF) : Env → Mem → Option (Env × Mem) := fun e M =>
    (nx (oMv (.bool false)) (some 4) e M fun e M =>
    some (e, M)).map fun q => (prune [4] q.1, q.2)
noncomputable def f72_r5 (call : CallF) : Env → Mem → Option (Env × Mem) := fun e M =>
    (nx (keep (aFieldAddr 2 1 (eget e 2) M)) (some 15) e M fun e M =>
    nx (keep (aLoad false 1 (eget e 15) M)) (some 16) e M fun e M =>
    nx (keep (aFieldAddr 2 1 (eget e 3) M)) (some 17) e M fun e M =>
    nx (keep (aLoad false 1 (eget e 17) M)) (some 18) e M fun e M =>
    nx (oBin cx.P .neq 2 (eget e 16) (eget e 18) M) (some 19) e M fun e M =>
    some (e, M)).map fun q => (prune [2, 3, 19] q.1, q.2)
noncomputable def f72_r6 (call : CallF) : Env → Mem → Option (Env × Mem) := fun e M =>
    (nx (oMv (.bool false)) (some 4) e M fun e M =>
    some (e, M)).map fun q => (prune [4] q.1, q.2)
noncomputable def f72_r7 (call : CallF) : Env → Mem → Option (Env × Mem) := fun e M =>
    (nx (keep (aFieldAddr 3 1 (eget e 2) M)) (some 20) e M fun e M =>
    nx (keep (aLoad false 1 (eget e 20) M)) (some 21) e M fun e M =>
    nx (keep (aFieldAddr 3 1 (eget e 3) M)) (some 22) e M fun e M =>
    nx (keep (aLoad false 1 (eget e 22) M)) (some 23) e M fun e M =>
    nx (oBin cx.P .neq 2 (eget e 21) (eget e 23) M) (some 24) e M fun e M =>
    some (e, M)).map fun q => (prune [2, 3, 24] q.1, q.2)
noncomputable def f72_r8 (call : CallF) : Env → Mem → Option (Env × Mem) := fun e M =>
    (nx (oMv (.bool false)) (some 4) e M fun e M =>
    some (e, M)).map fun q => (prune [4] q.1, q.2)
noncomputable def f72_r9 (call : CallF) : Env → Mem → Option (Env × Mem) := fun e M =>
    (nx (keep (aFieldAddr 4 1 (eget e 2) M)) (some 25) e M fun e M =>
    nx (keep (aLoad false 1 (eget e 25) M)) (some 26) e M fun e M =>
    nx (keep (aFieldAddr 4 1 (eget e 3) M)) (some 27) e M fun e M =>
    nx (keep (aLoad false 1 (eget e 27) M)) (some 28) e M fun e M =>
    nx (oBin cx.P .neq 2 (eget e 26) (eget e 28) M) (some 29) e M fun e M =>
    some (e, M)).map fun q => (prune [29] q.1, q.2)
noncomputable def f72_r10 (call : CallF) : Env → Mem → Option (Env × Mem) := fun e M =>
    (nx (oMv (.bool false)) (some 4) e M fun e M =>
    some (e, M)).map fun q => (prune [4] q.1, q.2)
noncomputable def f72_r11 (call : CallF) : Env → Mem → Option (Env × Mem) := fun e M =>
    (nx (oMv (.bool true)) (some 4) e M fun e M =>
    some (e, M)).map fun q => (prune [4] q.1, q.2)
noncomputable def f72 (call : CallF) (k : Nat) : St :=
  (bSeq (bReg (f72_r0 call))
  (bSeq (bSeq (bReg (f72_r1 call))
  (bCond (.tmp 9)
   (bSeq (bReg (f72_r2 call))
   (bEx .ret))
   (bEx .nrm)))
  (bSeq (bSeq (bReg (f72_r3 call))
  (bCond (.tmp 14)
   (bSeq (bReg (f72_r4 call))
   (bEx .ret))
   (bEx .nrm)))
  (bSeq (bSeq (bReg (f72_r5 call))
  (bCond (.tmp 19)
   (bSeq (bReg (f72_r6 call))
   (bEx .ret))
   (bEx .nrm)))
  (bSeq (bSeq (bReg (f72_r7 call))
  (bCond (.tmp 24)
   (bSeq (bReg (f72_r8 call))
   (bEx .ret))
   (bEx .nrm)))
  (bSeq (bSeq (bReg (f72_r9 call))
  (bCond (.tmp 29)
   (bSeq (bReg (f72_r10 call))
   (bEx .ret))
   (bEx .nrm)))
  (bSeq (bReg (f72_r11 call))
  (bEx .ret))))))))
theorem f72_eq (call : CallF) (k : Nat) : exec cx call 30 f72_an k (Try.f72.body.getD .skip) = f72 call k := by kernel_rfl
/-! ### f79: loop.example/g01263/spec.l07Day -/
def f79_an : Ann := ⟨[(0, ⟨[], [], [], [], [0]⟩), (1, ⟨[], [], [], [], [2]⟩)], []⟩
noncomputable def f79_r0 (call : CallF) : Env → Mem → Option (Env × Mem) := fun e M =>
    (nx (oMv (.bool false)) (some 2) e M fun e M =>
    some (e, M)).map fun q => (prune [0] q.1, q.2)
noncomputable def f79_r1 (call : CallF) : Env → Mem → Option (Env × Mem) := fun e M =>
    (nx (oMv (eget e 0)) (some 3) e M fun e M =>
    nx (aCall cx.P.cellsOf cx.rw call false M.length 81 [(eget e 3), (.int .i64 0), (.int .i64 100000)] M) (some 4) e M fun e M =>
    nx (oMv (eget e 4)) (some 2) e M fun e M =>
    some (e, M)).map fun q => (prune [2] q.1, q.2)
noncomputable def f79 (call : CallF) (k : Nat) : St :=
  (bSeq (bReg (f79_r0 call))
  (bSeq (bReg (f79_r1 call))
  (bEx .ret)))
theorem f79_eq (call : CallF) (k : Nat) : exec cx call 5 f79_an k (Try.f79.body.getD .skip) = f79 call k := by kernel_rfl
/-! ### f80: loop.example/g01263/spec.l07Cash -/
def f80_an : Ann := ⟨[(0, ⟨[], [], [], [], [0]⟩), (1, ⟨[], [], [], [], [0, 3]⟩), (2, ⟨[], [], [], [], [0, 3, 7]⟩), (3, ⟨[], [], [], [], [0, 3]⟩), (4, ⟨[], [], [], [], [0, 3, 15]⟩), (5, ⟨[], [], [], [], [2]⟩), (6, ⟨[], [], [], [], [2]⟩)], [(2, [0, 3])]⟩
noncomputable def f80_r0 (call : CallF) : Env → Mem → Option (Env × Mem) := fun e M =>
    (nx (oMv (.bool false)) (some 2) e M fun e M =>
    some (e, M)).map fun q => (prune [0] q.1, q.2)
noncomputable def f80_r1 (call : CallF) : Env → Mem → Option (Env × Mem) := fun e M =>
    (nx (oMv (.int .i64 0)) (some 3) e M fun e M =>
    some (e, M)).map fun q => (prune [0, 3] q.1, q.2)
noncomputable def f80_r2 (call : CallF) : Env → Mem → Option (Env × Mem) := fun e M =>
    (nx (oMv (eget e 3)) (some 4) e M fun e M =>
    nx (oMv (eget e 0)) (some 5) e M fun e M =>
    nx (oLen cx.P 41 (eget e 5) M) (some 6) e M fun e M =>
    nx (oBin cx.P .lss 3 (eget e 4) (eget e 6) M) (some 7) e M fun e M =>
    some (e, M)).map fun q => (prune [0, 3, 7] q.1, q.2)
noncomputable def f80_r3 (call : CallF) : Env → Mem → Option (Env × Mem) := fun e M =>
    (nx (oMv (eget e 3)) (some 8) e M fun e M =>
    nx (oBin cx.P .add 3 (eget e 8) (.int .i64 1) M) (some 9) e M fun e M =>
    nx (oMv (eget e 9)) (some 3) e M fun e M =>
    some (e, M)).map fun q => (prune [0, 3] q.1, q.2)
noncomputable def f80_r4 (call : CallF) : Env → Mem → Option (Env × Mem) := fun e M =>
    (nx (oMv (eget e 0)) (some 10) e M fun e M =>
    nx (oMv (eget e 3)) (some 11) e M fun e M =>
    nx (keep (aIndexS 1 (eget e 10) (eget e 11) M)) (some 12) e M fun e M =>
    nx (keep (aLoad false 1 (eget e 12) M)) (some 13) e M fun e M =>
    nx (aCall cx.P.cellsOf cx.rw call false M.length 86 [(eget e 13)] M) (some 14) e M fun e M =>
    nx (keep (aUn .not (eget e 14))) (some 15) e M fun e M =>
    some (e, M)).map fun q => (prune [0, 3, 15] q.1, q.2)
noncomputable def f80_r5 (call : CallF) : Env → Mem → Option (Env × Mem) := fun e M =>
    (nx (oMv (.bool false)) (some 2) e M fun e M =>
    some (e, M)).map fun q => (prune [2] q.1, q.2)
noncomputable def f80_r6 (call : CallF) : Env → Mem → Option (Env × Mem) := fun e M =>
    (nx (oMv (eget e 0)) (some 16) e M fun e M =>
    nx (oLen cx.P 41 (eget e 16) M) (some 17) e M fun e M =>
    nx (aCall cx.P.cellsOf cx.rw call false M.length 81 [(eget e 17), (.int .i64 1), (.int .i64 16)] M) (some 18) e M fun e M =>
    nx (oMv (eget e 18)) (some 2) e M fun e M =>
    some (e, M)).map fun q => (prune [2] q.1, q.2)
noncomputable def f80_l2 (call : CallF) (k : Nat) : St :=
  (bSeq (bSeq (bReg (f80_r2 call))
  (bCond (.tmp 7)
   (bEx .nrm)
   (bEx (.ext 0))))
  (bSeq (bBlock 1 (bSeq (bReg (f80_r4 call))
   (bCond (.tmp 15)
    (bSeq (bReg (f80_r5 call))
    (bEx .ret))
    (bEx .nrm))))
  (bReg (f80_r3 call))))
noncomputable def f80 (call : CallF) (k : Nat) : St :=
  (bSeq (bReg (f80_r0 call))
  (bSeq (bSeq (bReg (f80_r1 call))
  (bBlock 0 (bLoop [0, 3] (f80_l2 call k) k)))
  (bSeq (bReg (f80_r6 call))
  (bEx .ret))))
theorem f80_eq (call : CallF) (k : Nat) : exec cx call 19 f80_an k (Try.f80.body.getD .skip) = f80 call k := by kernel_rfl
/-! ### f81: loop.example/g01263/spec.l00In -/
def f81_an : Ann := ⟨[(0, ⟨[], [], [], [], [0, 1, 2]⟩), (1, ⟨[], [], [], [], [6]⟩)], []⟩
noncomputable def f81_r0 (call : CallF) : Env → Mem → Option (Env × Mem) := fun e M =>
    (nx (oMv (.bool false)) (some 6) e M fun e M =>
    some (e, M)).map fun q => (prune [0, 1, 2] q.1, q.2)
noncomputable def f81_r1 (call : CallF) : Env → Mem → Option (Env × Mem) := fun e M =>
    (nx (oMv (eget e 0)) (some 7) e M fun e M =>
    nx (oMv (eget e 1)) (some 8) e M fun e M =>
    nx (oBin cx.P .geq 2 (eget e 7) (eget e 8) M) (some 9) e M fun e M =>
    nx (oMv (eget e 9)) (some 10) e M fun e M =>
    nx (aGuard (some ((eget e 10), true)) (oMv (eget e 0))) (some 11) e M fun e M =>
    nx (aGuard (some ((eget e 10), true)) (oMv (eget e 2))) (some 12) e M fun e M =>
    nx (aGuard (some ((eget e 10), true)) (oBin cx.P .leq 2 (eget e 11) (eget e 12) M)) (some 13) e M fun e M =>
    nx (keep (aPick (eget e 10) (eget e 13) (.bool false))) (some 14) e M fun e M =>
    nx (oMv (eget e 14)) (some 6) e M fun e M =>
    some (e, M)).map fun q => (prune [6] q.1, q.2)
noncomputable def f81 (call : CallF) (k : Nat) : St :=
  (bSeq (bReg (f81_r0 call))
  (bSeq (bReg (f81_r1 call))
  (bEx .ret)))
theorem f81_eq (call : CallF) (k : Nat) : exec cx call 15 f81_an k (Try.f81.body.getD .skip) = f81 call k := by kernel_rfl
/-! ### f82: loop.example/g01263/impl.isBookDay -/
def f82_an : Ann := ⟨[(0, ⟨[], [], [], [], [0]⟩), (1, ⟨[], [], [], [], [2]⟩)], []⟩
noncomputable def f82_r0 (call : CallF) : Env → Mem → Option (Env × Mem) := fun e M =>
    (nx (oMv (.bool false)) (some 2) e M fun e M =>
    some (e, M)).map fun q => (prune [0] q.1, q.2)
noncomputable def f82_r1 (call : CallF) : Env → Mem → Option (Env × Mem) := fun e M =>
    (nx (oMv (eget e 0)) (some 3) e M fun e M =>
    nx (oBin cx.P .geq 2 (eget e 3) (.int .i64 0) M) (some 4) e M fun e M =>
    nx (oMv (eget e 4)) (some 5) e M fun e M =>
    nx (aGuard (some ((eget e 5), true)) (oMv (eget e 0))) (some 6) e M fun e M =>
    nx (aGuard (some ((eget e 5), true)) (oBin cx.P .leq 2 (eget e 6) (.int .i64 100000) M)) (some 7) e M fun e M =>
    nx (keep (aPick (eget e 5) (eget e 7) (.bool false))) (some 8) e M fun e M =>
    nx (oMv (eget e 8)) (some 2) e M fun e M =>
    some (e, M)).map fun q => (prune [2] q.1, q.2)
noncomputable def f82 (call : CallF) (k : Nat) : St :=
  (bSeq (bReg (f82_r0 call))
  (bSeq (bReg (f82_r1 call))
  (bEx .ret)))
theorem f82_eq (call : CallF) (k : Nat) : exec cx call 9 f82_an k (Try.f82.body.getD .skip) = f82 call k := by kernel_rfl
/-! ### f83: loop.example/g01263/impl.isAmount -/
def f83_an : Ann := ⟨[(0, ⟨[], [], [], [], [0]⟩), (1, ⟨[], [], [], [], [2]⟩)], []⟩
noncomputable def f83_r0 (call : CallF) : Env → Mem → Option (Env × Mem) := fun e M =>
    (nx (oMv (.bool false)) (some 2) e M fun e M =>
    some (e, M)).map fun q => (prune [0] q.1, q.2)
noncomputable def f83_r1 (call : CallF) : Env → Mem → Option (Env × Mem) := fun e M =>
    (nx (oMv (eget e 0)) (some 3) e M fun e M =>
    nx (oBin cx.P .geq 2 (eget e 3) (.int .i64 0) M) (some 4) e M fun e M =>
    nx (oMv (eget e 4)) (some 5) e M fun e M =>
    nx (aGuard (some ((eget e 5), true)) (oMv (eget e 0))) (some 6) e M fun e M =>
    nx (aGuard (some ((eget e 5), true)) (oBin cx.P .leq 2 (eget e 6) (.int .i64 100000000) M)) (some 7) e M fun e M =>
    nx (keep (aPick (eget e 5) (eget e 7) (.bool false))) (some 8) e M fun e M =>
    nx (oMv (eget e 8)) (some 2) e M fun e M =>
    some (e, M)).map fun q => (prune [2] q.1, q.2)
noncomputable def f83 (call : CallF) (k : Nat) : St :=
  (bSeq (bReg (f83_r0 call))
  (bSeq (bReg (f83_r1 call))
  (bEx .ret)))
theorem f83_eq (call : CallF) (k : Nat) : exec cx call 9 f83_an k (Try.f83.body.getD .skip) = f83 call k := by kernel_rfl
/-! ### f86: loop.example/g01263/spec.l01Amount -/
def f86_an : Ann := ⟨[(0, ⟨[], [], [], [], [0]⟩), (1, ⟨[], [], [], [], [2]⟩)], []⟩
noncomputable def f86_r0 (call : CallF) : Env → Mem → Option (Env × Mem) := fun e M =>
    (nx (oMv (.bool false)) (some 2) e M fun e M =>
    some (e, M)).map fun q => (prune [0] q.1, q.2)
noncomputable def f86_r1 (call : CallF) : Env → Mem → Option (Env × Mem) := fun e M =>
    (nx (oMv (eget e 0)) (some 3) e M fun e M =>
    nx (aCall cx.P.cellsOf cx.rw call false M.length 81 [(eget e 3), (.int .i64 0), (.int .i64 100000000)] M) (some 4) e M fun e M =>
    nx (oMv (eget e 4)) (some 2) e M fun e M =>
    some (e, M)).map fun q => (prune [2] q.1, q.2)
noncomputable def f86 (call : CallF) (k : Nat) : St :=
  (bSeq (bReg (f86_r0 call))
  (bSeq (bReg (f86_r1 call))
  (bEx .ret)))
theorem f86_eq (call : CallF) (k : Nat) : exec cx call 5 f86_an k (Try.f86.body.getD .skip) = f86 call k := by kernel_rfl
def anns : List (Nat × Ann) := [(7, f7_an), (13, f13_an), (15, f15_an), (17, f17_an), (27, f27_an), (28, f28_an), (38, f38_an), (39, f39_an), (40, f40_an), (41, f41_an), (42, f42_an), (43, f43_an), (44, f44_an), (45, f45_an), (46, f46_an), (47, f47_an), (48, f48_an), (55, f55_an), (56, f56_an), (67, f67_an), (68, f68_an), (69, f69_an), (70, f70_an), (71, f71_an), (72, f72_an), (79, f79_an), (80, f80_an), (81, f81_an), (82, f82_an), (83, f83_an), (86, f86_an)]
noncomputable def CN0 : Nat → CallF := callN cx (Go.Ab.look anns) (fun _ _ _ => none) (fun _ => false)
def isP (f : Nat) : Bool := has [] f
noncomputable def primF : CallF := splitNil (callN cx (Go.Ab.look anns) (fun _ _ _ => none) (fun _ => false) 3)
noncomputable def CN : Nat → CallF := callN cx (Go.Ab.look anns) primF isP
end Go.Proofs.Ytfabokkhdalbeaa

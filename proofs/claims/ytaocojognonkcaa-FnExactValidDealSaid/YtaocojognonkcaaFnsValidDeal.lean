/- Printed by a program of ours (ext.py). -/
import Derived.Test.YtaocojognonkcaaAbWr
import Derived.Test.YtaocojognonkcaaProg
set_option linter.unusedVariables false
set_option maxRecDepth 100000
set_option maxHeartbeats 2000000
namespace Go.Proofs.Ytaocojognonkcaa
open Go Go.Ab
noncomputable def cx : Cx := ⟨Try.prog, fun f => has [] f⟩
/-! ### f3: loop.example/g01263/laws.FnExactValidDeal -/
def f3_an : Ann := ⟨[(0, ⟨[], [], [], [], [1]⟩), (1, ⟨[], [], [], [], [1, 3]⟩), (2, ⟨[], [], [], [], [3, 4]⟩), (3, ⟨[], [], [], [], [13]⟩), (4, ⟨[], [], [], [], [2]⟩), (5, ⟨[], [], [], [], [2]⟩)], []⟩
noncomputable def f3_r0 (call : CallF) : Env → Mem → Option (Env × Mem) := fun e M =>
    (nx (keep (aBox 6 (eget e 0) M)) (some 1) e M fun e M =>
    nx (oMv (.bool false)) (some 2) e M fun e M =>
    some (e, M)).map fun q => (prune [1] q.1, q.2)
noncomputable def f3_r1 (call : CallF) : Env → Mem → Option (Env × Mem) := fun e M =>
    (nx (keep (aLoad true 6 (eget e 1) M)) (some 5) e M fun e M =>
    nx (aCall cx.P.cellsOf cx.rw call false M.length 10 [(eget e 5)] M) (some 6) e M fun e M =>
    nx (aCall cx.P.cellsOf cx.rw call false M.length 9 [(eget e 6)] M) (some 7) e M fun e M =>
    nx (oMv (eget e 7)) (some 3) e M fun e M =>
    some (e, M)).map fun q => (prune [1, 3] q.1, q.2)
noncomputable def f3_r2 (call : CallF) : Env → Mem → Option (Env × Mem) := fun e M =>
    (nx (keep (aLoad true 6 (eget e 1) M)) (some 8) e M fun e M =>
    nx (aCall cx.P.cellsOf cx.rw call false M.length 10 [(eget e 8)] M) (some 9) e M fun e M =>
    nx (aCall cx.P.cellsOf cx.rw call false M.length 11 [(eget e 9)] M) (some 10) e M fun e M =>
    nx (oMv (eget e 10)) (some 4) e M fun e M =>
    some (e, M)).map fun q => (prune [3, 4] q.1, q.2)
noncomputable def f3_r3 (call : CallF) : Env → Mem → Option (Env × Mem) := fun e M =>
    (nx (oMv (eget e 4)) (some 11) e M fun e M =>
    nx (oMv (eget e 3)) (some 12) e M fun e M =>
    nx (oBin cx.P .neq 4 (eget e 11) (eget e 12) M) (some 13) e M fun e M =>
    some (e, M)).map fun q => (prune [13] q.1, q.2)
noncomputable def f3_r4 (call : CallF) : Env → Mem → Option (Env × Mem) := fun e M =>
    (nx (oMv (.bool false)) (some 2) e M fun e M =>
    some (e, M)).map fun q => (prune [2] q.1, q.2)
noncomputable def f3_r5 (call : CallF) : Env → Mem → Option (Env × Mem) := fun e M =>
    (nx (oMv (.bool true)) (some 2) e M fun e M =>
    some (e, M)).map fun q => (prune [2] q.1, q.2)
noncomputable def f3 (call : CallF) (k : Nat) : St :=
  (bSeq (bReg (f3_r0 call))
  (bSeq (bReg (f3_r1 call))
  (bSeq (bReg (f3_r2 call))
  (bSeq (bSeq (bReg (f3_r3 call))
  (bCond (.tmp 13)
   (bSeq (bReg (f3_r4 call))
   (bEx .ret))
   (bEx .nrm)))
  (bSeq (bReg (f3_r5 call))
  (bEx .ret))))))
theorem f3_eq (call : CallF) (k : Nat) : exec cx call 14 f3_an k (Try.f3.body.getD .skip) = f3 call k := by kernel_rfl
/-! ### f9: loop.example/g01263/spec.ValidDeal -/
def f9_an : Ann := ⟨[(0, ⟨[], [], [], [], [1]⟩), (1, ⟨[], [], [], [], [2]⟩)], []⟩
noncomputable def f9_r0 (call : CallF) : Env → Mem → Option (Env × Mem) := fun e M =>
    (nx (keep (aBox 6 (eget e 0) M)) (some 1) e M fun e M =>
    nx (oMv (.bool false)) (some 2) e M fun e M =>
    some (e, M)).map fun q => (prune [1] q.1, q.2)
noncomputable def f9_r1 (call : CallF) : Env → Mem → Option (Env × Mem) := fun e M =>
    (nx (aCall cx.P.cellsOf cx.rw call false M.length 32 [(eget e 1)] M) (some 3) e M fun e M =>
    nx (oMv (eget e 3)) (some 2) e M fun e M =>
    some (e, M)).map fun q => (prune [2] q.1, q.2)
noncomputable def f9 (call : CallF) (k : Nat) : St :=
  (bSeq (bReg (f9_r0 call))
  (bSeq (bReg (f9_r1 call))
  (bEx .ret)))
theorem f9_eq (call : CallF) (k : Nat) : exec cx call 4 f9_an k (Try.f9.body.getD .skip) = f9 call k := by kernel_rfl
/-! ### f10: loop.example/g01263/laws.toDeal -/
def f10_an : Ann := ⟨[(0, ⟨[], [], [], [], [1, 2]⟩), (1, ⟨[], [], [], [], [1, 2, 3]⟩), (2, ⟨[], [], [], [], [1, 2, 3]⟩), (3, ⟨[], [], [], [], [1, 2, 3]⟩), (4, ⟨[], [], [], [], [1, 2, 3]⟩), (5, ⟨[], [], [], [], [1, 2, 3]⟩), (6, ⟨[], [], [], [], [1, 2, 3]⟩), (7, ⟨[], [], [], [], [2, 3]⟩), (8, ⟨[], [], [], [], [2]⟩)], []⟩
noncomputable def f10_r0 (call : CallF) : Env → Mem → Option (Env × Mem) := fun e M =>
    (nx (keep (aBox 6 (eget e 0) M)) (some 1) e M fun e M =>
    nx (oAlloc cx.P M.length 26 6) (some 2) e M fun e M =>
    some (e, M)).map fun q => (prune [1, 2] q.1, q.2)
noncomputable def f10_r1 (call : CallF) : Env → Mem → Option (Env × Mem) := fun e M =>
    (nx (oAlloc cx.P M.length 26 6) (some 3) e M fun e M =>
    some (e, M)).map fun q => (prune [1, 2, 3] q.1, q.2)
noncomputable def f10_r2 (call : CallF) : Env → Mem → Option (Env × Mem) := fun e M =>
    (nx (keep (aFieldAddr 0 1 (eget e 1) M)) (some 4) e M fun e M =>
    nx (keep (aLoad false 1 (eget e 4) M)) (some 5) e M fun e M =>
    nx (keep (aFieldAddr 0 1 (eget e 3) M)) (some 6) e M fun e M =>
    nx (oStore 1 (eget e 6) (eget e 5) M) none e M fun e M =>
    some (e, M)).map fun q => (prune [1, 2, 3] q.1, q.2)
noncomputable def f10_r3 (call : CallF) : Env → Mem → Option (Env × Mem) := fun e M =>
    (nx (keep (aFieldAddr 1 1 (eget e 1) M)) (some 7) e M fun e M =>
    nx (keep (aLoad false 1 (eget e 7) M)) (some 8) e M fun e M =>
    nx (keep (aFieldAddr 1 1 (eget e 3) M)) (some 9) e M fun e M =>
    nx (oStore 1 (eget e 9) (eget e 8) M) none e M fun e M =>
    some (e, M)).map fun q => (prune [1, 2, 3] q.1, q.2)
noncomputable def f10_r4 (call : CallF) : Env → Mem → Option (Env × Mem) := fun e M =>
    (nx (keep (aFieldAddr 2 1 (eget e 1) M)) (some 10) e M fun e M =>
    nx (keep (aLoad false 1 (eget e 10) M)) (some 11) e M fun e M =>
    nx (keep (aFieldAddr 2 1 (eget e 3) M)) (some 12) e M fun e M =>
    nx (oStore 1 (eget e 12) (eget e 11) M) none e M fun e M =>
    some (e, M)).map fun q => (prune [1, 2, 3] q.1, q.2)
noncomputable def f10_r5 (call : CallF) : Env → Mem → Option (Env × Mem) := fun e M =>
    (nx (keep (aFieldAddr 3 1 (eget e 1) M)) (some 13) e M fun e M =>
    nx (keep (aLoad false 1 (eget e 13) M)) (some 14) e M fun e M =>
    nx (keep (aFieldAddr 3 1 (eget e 3) M)) (some 15) e M fun e M =>
    nx (oStore 1 (eget e 15) (eget e 14) M) none e M fun e M =>
    some (e, M)).map fun q => (prune [1, 2, 3] q.1, q.2)
noncomputable def f10_r6 (call : CallF) : Env → Mem → Option (Env × Mem) := fun e M =>
    (nx (keep (aFieldAddr 4 1 (eget e 1) M)) (some 16) e M fun e M =>
    nx (keep (aLoad false 1 (eget e 16) M)) (some 17) e M fun e M =>
    nx (keep (aFieldAddr 4 1 (eget e 3) M)) (some 18) e M fun e M =>
    nx (oStore 1 (eget e 18) (eget e 17) M) none e M fun e M =>
    some (e, M)).map fun q => (prune [1, 2, 3] q.1, q.2)
noncomputable def f10_r7 (call : CallF) : Env → Mem → Option (Env × Mem) := fun e M =>
    (nx (keep (aFieldAddr 5 1 (eget e 1) M)) (some 19) e M fun e M =>
    nx (keep (aLoad false 1 (eget e 19) M)) (some 20) e M fun e M =>
    nx (keep (aFieldAddr 5 1 (eget e 3) M)) (some 21) e M fun e M =>
    nx (oStore 1 (eget e 21) (eget e 20) M) none e M fun e M =>
    some (e, M)).map fun q => (prune [2, 3] q.1, q.2)
noncomputable def f10_r8 (call : CallF) : Env → Mem → Option (Env × Mem) := fun e M =>
    (nx (keep (aLoad true 6 (eget e 3) M)) (some 22) e M fun e M =>
    nx (oStore 6 (eget e 2) (eget e 22) M) none e M fun e M =>
    some (e, M)).map fun q => (prune [2] q.1, q.2)
noncomputable def f10 (call : CallF) (k : Nat) : St :=
  (bSeq (bReg (f10_r0 call))
  (bSeq (bReg (f10_r1 call))
  (bSeq (bReg (f10_r2 call))
  (bSeq (bReg (f10_r3 call))
  (bSeq (bReg (f10_r4 call))
  (bSeq (bReg (f10_r5 call))
  (bSeq (bReg (f10_r6 call))
  (bSeq (bReg (f10_r7 call))
  (bSeq (bReg (f10_r8 call))
  (bEx .ret))))))))))
theorem f10_eq (call : CallF) (k : Nat) : exec cx call 23 f10_an k (Try.f10.body.getD .skip) = f10 call k := by kernel_rfl
/-! ### f11: loop.example/g01263/impl.ValidDeal -/
def f11_an : Ann := ⟨[(0, ⟨[], [], [], [], [1]⟩), (1, ⟨[], [], [], [], [1, 21]⟩), (2, ⟨[], [], [], [], [2]⟩), (3, ⟨[], [], [], [], [1, 3]⟩), (4, ⟨[], [], [], [], [1, 3, 4, 5, 6, 7]⟩), (5, ⟨[], [], [], [], [2]⟩)], []⟩
noncomputable def f11_r0 (call : CallF) : Env → Mem → Option (Env × Mem) := fun e M =>
    (nx (keep (aBox 6 (eget e 0) M)) (some 1) e M fun e M =>
    nx (oMv (.bool false)) (some 2) e M fun e M =>
    some (e, M)).map fun q => (prune [1] q.1, q.2)
noncomputable def f11_r1 (call : CallF) : Env → Mem → Option (Env × Mem) := fun e M =>
    (nx (keep (aFieldAddr 1 1 (eget e 1) M)) (some 8) e M fun e M =>
    nx (keep (aLoad false 1 (eget e 8) M)) (some 9) e M fun e M =>
    nx (oBin cx.P .lss 22 (eget e 9) (.int .i8 1) M) (some 10) e M fun e M =>
    nx (oMv (eget e 10)) (some 11) e M fun e M =>
    nx (aGuard (some ((eget e 11), false)) (keep (aFieldAddr 1 1 (eget e 1) M))) (some 12) e M fun e M =>
    nx (aGuard (some ((eget e 11), false)) (keep (aLoad false 1 (eget e 12) M))) (some 13) e M fun e M =>
    nx (aGuard (some ((eget e 11), false)) (oBin cx.P .gtr 22 (eget e 13) (.int .i8 4) M)) (some 14) e M fun e M =>
    nx (keep (aPick (eget e 11) (.bool true) (eget e 14))) (some 15) e M fun e M =>
    nx (oMv (eget e 15)) (some 16) e M fun e M =>
    nx (aGuard (some ((eget e 16), false)) (keep (aFieldAddr 0 1 (eget e 1) M))) (some 17) e M fun e M =>
    nx (aGuard (some ((eget e 16), false)) (keep (aLoad false 1 (eget e 17) M))) (some 18) e M fun e M =>
    nx (aGuard (some ((eget e 16), false)) (aCall cx.P.cellsOf cx.rw call false M.length 33 [(eget e 18)] M)) (some 19) e M fun e M =>
    nx (aGuard (some ((eget e 16), false)) (keep (aUn .not (eget e 19)))) (some 20) e M fun e M =>
    nx (keep (aPick (eget e 16) (.bool true) (eget e 20))) (some 21) e M fun e M =>
    some (e, M)).map fun q => (prune [1, 21] q.1, q.2)
noncomputable def f11_r2 (call : CallF) : Env → Mem → Option (Env × Mem) := fun e M =>
    (nx (oMv (.bool false)) (some 2) e M fun e M =>
    some (e, M)).map fun q => (prune [2] q.1, q.2)
noncomputable def f11_r3 (call : CallF) : Env → Mem → Option (Env × Mem) := fun e M =>
    (nx (oMv (.fn 34 [])) (some 3) e M fun e M =>
    some (e, M)).map fun q => (prune [1, 3] q.1, q.2)
noncomputable def f11_r4 (call : CallF) : Env → Mem → Option (Env × Mem) := fun e M =>
    (nx (keep (aFieldAddr 1 1 (eget e 1) M)) (some 23) e M fun e M =>
    nx (keep (aLoad false 1 (eget e 23) M)) (some 24) e M fun e M =>
    nx (aCall cx.P.cellsOf cx.rw call false M.length 35 [(eget e 24)] M) (some 25) e M fun e M =>
    nx (oMv (eget e 25)) (some 22) e M fun e M =>
    nx (keep (aExtract 0 (eget e 22))) (some 26) e M fun e M =>
    nx (keep (aExtract 1 (eget e 22))) (some 27) e M fun e M =>
    nx (keep (aExtract 2 (eget e 22))) (some 28) e M fun e M =>
    nx (keep (aExtract 3 (eget e 22))) (some 29) e M fun e M =>
    nx (oMv (eget e 26)) (some 4) e M fun e M =>
    nx (oMv (eget e 27)) (some 5) e M fun e M =>
    nx (oMv (eget e 28)) (some 6) e M fun e M =>
    nx (oMv (eget e 29)) (some 7) e M fun e M =>
    some (e, M)).map fun q => (prune [1, 3, 4, 5, 6, 7] q.1, q.2)
noncomputable def f11_r5 (call : CallF) : Env → Mem → Option (Env × Mem) := fun e M =>
    (nx (oMv (eget e 3)) (some 30) e M fun e M =>
    nx (oMv (eget e 4)) (some 31) e M fun e M =>
    nx (keep (aFieldAddr 2 1 (eget e 1) M)) (some 32) e M fun e M =>
    nx (keep (aLoad false 1 (eget e 32) M)) (some 33) e M fun e M =>
    nx (oCall cx call false M.length (eget e 30) [(eget e 31), (eget e 33), (.int .i64 0), (.int .i64 39)] M) (some 34) e M fun e M =>
    nx (oMv (eget e 34)) (some 35) e M fun e M =>
    nx (aGuard (some ((eget e 35), true)) (oMv (eget e 3))) (some 36) e M fun e M =>
    nx (aGuard (some ((eget e 35), true)) (oMv (eget e 5))) (some 37) e M fun e M =>
    nx (aGuard (some ((eget e 35), true)) (keep (aFieldAddr 3 1 (eget e 1) M))) (some 38) e M fun e M =>
    nx (aGuard (some ((eget e 35), true)) (keep (aLoad false 1 (eget e 38) M))) (some 39) e M fun e M =>
    nx (aGuard (some ((eget e 35), true)) (oCall cx call false M.length (eget e 36) [(eget e 37), (eget e 39), (.int .i64 0), (.int .i64 15)] M)) (some 40) e M fun e M =>
    nx (keep (aPick (eget e 35) (eget e 40) (.bool false))) (some 41) e M fun e M =>
    nx (oMv (eget e 41)) (some 42) e M fun e M =>
    nx (aGuard (some ((eget e 42), true)) (oMv (eget e 3))) (some 43) e M fun e M =>
    nx (aGuard (some ((eget e 42), true)) (oMv (eget e 6))) (some 44) e M fun e M =>
    nx (aGuard (some ((eget e 42), true)) (keep (aFieldAddr 4 1 (eget e 1) M))) (some 45) e M fun e M =>
    nx (aGuard (some ((eget e 42), true)) (keep (aLoad false 1 (eget e 45) M))) (some 46) e M fun e M =>
    nx (aGuard (some ((eget e 42), true)) (oCall cx call false M.length (eget e 43) [(eget e 44), (eget e 46), (.int .i64 0), (.int .i64 15)] M)) (some 47) e M fun e M =>
    nx (keep (aPick (eget e 42) (eget e 47) (.bool false))) (some 48) e M fun e M =>
    nx (oMv (eget e 48)) (some 49) e M fun e M =>
    nx (aGuard (some ((eget e 49), true)) (oMv (eget e 3))) (some 50) e M fun e M =>
    nx (aGuard (some ((eget e 49), true)) (oMv (eget e 7))) (some 51) e M fun e M =>
    nx (aGuard (some ((eget e 49), true)) (keep (aFieldAddr 5 1 (eget e 1) M))) (some 52) e M fun e M =>
    nx (aGuard (some ((eget e 49), true)) (keep (aLoad false 1 (eget e 52) M))) (some 53) e M fun e M =>
    nx (aGuard (some ((eget e 49), true)) (oCall cx call false M.length (eget e 50) [(eget e 51), (eget e 53), (.int .i64 1), (.int .i64 100000000)] M)) (some 54) e M fun e M =>
    nx (keep (aPick (eget e 49) (eget e 54) (.bool false))) (some 55) e M fun e M =>
    nx (oMv (eget e 55)) (some 2) e M fun e M =>
    some (e, M)).map fun q => (prune [2] q.1, q.2)
noncomputable def f11 (call : CallF) (k : Nat) : St :=
  (bSeq (bReg (f11_r0 call))
  (bSeq (bSeq (bReg (f11_r1 call))
  (bCond (.tmp 21)
   (bSeq (bReg (f11_r2 call))
   (bEx .ret))
   (bEx .nrm)))
  (bSeq (bReg (f11_r3 call))
  (bSeq (bReg (f11_r4 call))
  (bSeq (bReg (f11_r5 call))
  (bEx .ret))))))
theorem f11_eq (call : CallF) (k : Nat) : exec cx call 56 f11_an k (Try.f11.body.getD .skip) = f11 call k := by kernel_rfl
/-! ### f32: loop.example/g01263/spec.l07Deal -/
def f32_an : Ann := ⟨[(0, ⟨[], [], [], [], [0]⟩), (1, ⟨[], [], [], [], [0, 3]⟩), (2, ⟨[], [], [], [], [0, 3, 4]⟩), (3, ⟨[], [], [], [], [0, 3, 4, 5]⟩), (4, ⟨[], [], [], [], [0, 3, 4, 5, 6]⟩), (5, ⟨[], [], [], [], [0, 3, 4, 5, 6, 32]⟩), (6, ⟨[], [], [], [], [2]⟩), (7, ⟨[], [], [], [], [0, 3, 4, 5, 6, 36]⟩), (8, ⟨[], [], [], [], [0, 3, 4, 5, 6, 36, 37]⟩), (9, ⟨[], [], [], [], [2]⟩), (10, ⟨[], [], [], [], [0, 3, 4, 5, 6, 36, 53]⟩), (11, ⟨[], [], [], [], [2]⟩), (12, ⟨[], [], [], [], [0, 3, 4, 6, 36, 69]⟩), (13, ⟨[], [], [], [], [2]⟩), (14, ⟨[], [], [], [], [0, 3, 4, 89]⟩), (15, ⟨[], [], [], [], [2]⟩), (16, ⟨[], [], [], [], [2]⟩)], []⟩
noncomputable def f32_r0 (call : CallF) : Env → Mem → Option (Env × Mem) := fun e M =>
    (nx (oMv (.bool false)) (some 2) e M fun e M =>
    some (e, M)).map fun q => (prune [0] q.1, q.2)
noncomputable def f32_r1 (call : CallF) : Env → Mem → Option (Env × Mem) := fun e M =>
    (nx (oMv (eget e 0)) (some 7) e M fun e M =>
    nx (keep (aNilCheck (eget e 7) M)) (some 8) e M fun e M =>
    nx (keep (aFieldAddr 2 1 (eget e 8) M)) (some 9) e M fun e M =>
    nx (keep (aLoad false 1 (eget e 9) M)) (some 10) e M fun e M =>
    nx (aCall cx.P.cellsOf cx.rw call false M.length 37 [(eget e 10), (.int .i64 0), (.int .i64 39)] M) (some 11) e M fun e M =>
    nx (oMv (eget e 11)) (some 3) e M fun e M =>
    some (e, M)).map fun q => (prune [0, 3] q.1, q.2)
noncomputable def f32_r2 (call : CallF) : Env → Mem → Option (Env × Mem) := fun e M =>
    (nx (oMv (eget e 0)) (some 12) e M fun e M =>
    nx (keep (aNilCheck (eget e 12) M)) (some 13) e M fun e M =>
    nx (keep (aFieldAddr 3 1 (eget e 13) M)) (some 14) e M fun e M =>
    nx (keep (aLoad false 1 (eget e 14) M)) (some 15) e M fun e M =>
    nx (aCall cx.P.cellsOf cx.rw call false M.length 37 [(eget e 15), (.int .i64 0), (.int .i64 15)] M) (some 16) e M fun e M =>
    nx (oMv (eget e 16)) (some 4) e M fun e M =>
    some (e, M)).map fun q => (prune [0, 3, 4] q.1, q.2)
noncomputable def f32_r3 (call : CallF) : Env → Mem → Option (Env × Mem) := fun e M =>
    (nx (oMv (eget e 0)) (some 17) e M fun e M =>
    nx (keep (aNilCheck (eget e 17) M)) (some 18) e M fun e M =>
    nx (keep (aFieldAddr 4 1 (eget e 18) M)) (some 19) e M fun e M =>
    nx (keep (aLoad false 1 (eget e 19) M)) (some 20) e M fun e M =>
    nx (aCall cx.P.cellsOf cx.rw call false M.length 37 [(eget e 20), (.int .i64 0), (.int .i64 15)] M) (some 21) e M fun e M =>
    nx (oMv (eget e 21)) (some 5) e M fun e M =>
    some (e, M)).map fun q => (prune [0, 3, 4, 5] q.1, q.2)
noncomputable def f32_r4 (call : CallF) : Env → Mem → Option (Env × Mem) := fun e M =>
    (nx (oMv (eget e 0)) (some 22) e M fun e M =>
    nx (keep (aNilCheck (eget e 22) M)) (some 23) e M fun e M =>
    nx (keep (aFieldAddr 5 1 (eget e 23) M)) (some 24) e M fun e M =>
    nx (keep (aLoad false 1 (eget e 24) M)) (some 25) e M fun e M =>
    nx (aCall cx.P.cellsOf cx.rw call false M.length 37 [(eget e 25), (.int .i64 1), (.int .i64 100000000)] M) (some 26) e M fun e M =>
    nx (oMv (eget e 26)) (some 6) e M fun e M =>
    some (e, M)).map fun q => (prune [0, 3, 4, 5, 6] q.1, q.2)
noncomputable def f32_r5 (call : CallF) : Env → Mem → Option (Env × Mem) := fun e M =>
    (nx (oMv (eget e 0)) (some 27) e M fun e M =>
    nx (keep (aNilCheck (eget e 27) M)) (some 28) e M fun e M =>
    nx (keep (aFieldAddr 0 1 (eget e 28) M)) (some 29) e M fun e M =>
    nx (keep (aLoad false 1 (eget e 29) M)) (some 30) e M fun e M =>
    nx (aCall cx.P.cellsOf cx.rw call false M.length 55 [(eget e 30)] M) (some 31) e M fun e M =>
    nx (keep (aUn .not (eget e 31))) (some 32) e M fun e M =>
    some (e, M)).map fun q => (prune [0, 3, 4, 5, 6, 32] q.1, q.2)
noncomputable def f32_r6 (call : CallF) : Env → Mem → Option (Env × Mem) := fun e M =>
    (nx (oMv (.bool false)) (some 2) e M fun e M =>
    some (e, M)).map fun q => (prune [2] q.1, q.2)
noncomputable def f32_r7 (call : CallF) : Env → Mem → Option (Env × Mem) := fun e M =>
    (nx (oMv (eget e 0)) (some 33) e M fun e M =>
    nx (keep (aNilCheck (eget e 33) M)) (some 34) e M fun e M =>
    nx (keep (aFieldAddr 1 1 (eget e 34) M)) (some 35) e M fun e M =>
    nx (keep (aLoad false 1 (eget e 35) M)) (some 36) e M fun e M =>
    some (e, M)).map fun q => (prune [0, 3, 4, 5, 6, 36] q.1, q.2)
noncomputable def f32_r8 (call : CallF) : Env → Mem → Option (Env × Mem) := fun e M =>
    (nx (oBin cx.P .eql 22 (eget e 36) (.int .i8 1) M) (some 38) e M fun e M =>
    nx (oMv (eget e 38)) (some 37) e M fun e M =>
    some (e, M)).map fun q => (prune [0, 3, 4, 5, 6, 36, 37] q.1, q.2)
noncomputable def f32_r9 (call : CallF) : Env → Mem → Option (Env × Mem) := fun e M =>
    (nx (oMv (eget e 0)) (some 39) e M fun e M =>
    nx (keep (aNilCheck (eget e 39) M)) (some 40) e M fun e M =>
    nx (keep (aFieldAddr 2 1 (eget e 40) M)) (some 41) e M fun e M =>
    nx (keep (aLoad false 1 (eget e 41) M)) (some 42) e M fun e M =>
    nx (oBin cx.P .eql 2 (eget e 42) (.int .i64 0) M) (some 43) e M fun e M =>
    nx (oMv (eget e 43)) (some 44) e M fun e M =>
    nx (aGuard (some ((eget e 44), true)) (oMv (eget e 4))) (some 45) e M fun e M =>
    nx (keep (aPick (eget e 44) (eget e 45) (.bool false))) (some 46) e M fun e M =>
    nx (oMv (eget e 46)) (some 47) e M fun e M =>
    nx (aGuard (some ((eget e 47), true)) (oMv (eget e 5))) (some 48) e M fun e M =>
    nx (keep (aPick (eget e 47) (eget e 48) (.bool false))) (some 49) e M fun e M =>
    nx (oMv (eget e 49)) (some 50) e M fun e M =>
    nx (aGuard (some ((eget e 50), true)) (oMv (eget e 6))) (some 51) e M fun e M =>
    nx (keep (aPick (eget e 50) (eget e 51) (.bool false))) (some 52) e M fun e M =>
    nx (oMv (eget e 52)) (some 2) e M fun e M =>
    some (e, M)).map fun q => (prune [2] q.1, q.2)
noncomputable def f32_r10 (call : CallF) : Env → Mem → Option (Env × Mem) := fun e M =>
    (nx (oBin cx.P .eql 22 (eget e 36) (.int .i8 2) M) (some 54) e M fun e M =>
    nx (oMv (eget e 54)) (some 53) e M fun e M =>
    some (e, M)).map fun q => (prune [0, 3, 4, 5, 6, 36, 53] q.1, q.2)
noncomputable def f32_r11 (call : CallF) : Env → Mem → Option (Env × Mem) := fun e M =>
    (nx (oMv (eget e 3)) (some 55) e M fun e M =>
    nx (oMv (eget e 55)) (some 56) e M fun e M =>
    nx (aGuard (some ((eget e 56), true)) (oMv (eget e 4))) (some 57) e M fun e M =>
    nx (keep (aPick (eget e 56) (eget e 57) (.bool false))) (some 58) e M fun e M =>
    nx (oMv (eget e 58)) (some 59) e M fun e M =>
    nx (aGuard (some ((eget e 59), true)) (oMv (eget e 5))) (some 60) e M fun e M =>
    nx (keep (aPick (eget e 59) (eget e 60) (.bool false))) (some 61) e M fun e M =>
    nx (oMv (eget e 61)) (some 62) e M fun e M =>
    nx (aGuard (some ((eget e 62), true)) (oMv (eget e 0))) (some 63) e M fun e M =>
    nx (aGuard (some ((eget e 62), true)) (keep (aNilCheck (eget e 63) M))) (some 64) e M fun e M =>
    nx (aGuard (some ((eget e 62), true)) (keep (aFieldAddr 5 1 (eget e 64) M))) (some 65) e M fun e M =>
    nx (aGuard (some ((eget e 62), true)) (keep (aLoad false 1 (eget e 65) M))) (some 66) e M fun e M =>
    nx (aGuard (some ((eget e 62), true)) (oBin cx.P .eql 2 (eget e 66) (.int .i64 0) M)) (some 67) e M fun e M =>
    nx (keep (aPick (eget e 62) (eget e 67) (.bool false))) (some 68) e M fun e M =>
    nx (oMv (eget e 68)) (some 2) e M fun e M =>
    some (e, M)).map fun q => (prune [2] q.1, q.2)
noncomputable def f32_r12 (call : CallF) : Env → Mem → Option (Env × Mem) := fun e M =>
    (nx (oBin cx.P .eql 22 (eget e 36) (.int .i8 3) M) (some 70) e M fun e M =>
    nx (oMv (eget e 70)) (some 69) e M fun e M =>
    some (e, M)).map fun q => (prune [0, 3, 4, 6, 36, 69] q.1, q.2)
noncomputable def f32_r13 (call : CallF) : Env → Mem → Option (Env × Mem) := fun e M =>
    (nx (oMv (eget e 3)) (some 71) e M fun e M =>
    nx (oMv (eget e 71)) (some 72) e M fun e M =>
    nx (aGuard (some ((eget e 72), true)) (oMv (eget e 0))) (some 73) e M fun e M =>
    nx (aGuard (some ((eget e 72), true)) (keep (aNilCheck (eget e 73) M))) (some 74) e M fun e M =>
    nx (aGuard (some ((eget e 72), true)) (keep (aFieldAddr 3 1 (eget e 74) M))) (some 75) e M fun e M =>
    nx (aGuard (some ((eget e 72), true)) (keep (aLoad false 1 (eget e 75) M))) (some 76) e M fun e M =>
    nx (aGuard (some ((eget e 72), true)) (oBin cx.P .eql 2 (eget e 76) (.int .i64 0) M)) (some 77) e M fun e M =>
    nx (keep (aPick (eget e 72) (eget e 77) (.bool false))) (some 78) e M fun e M =>
    nx (oMv (eget e 78)) (some 79) e M fun e M =>
    nx (aGuard (some ((eget e 79), true)) (oMv (eget e 0))) (some 80) e M fun e M =>
    nx (aGuard (some ((eget e 79), true)) (keep (aNilCheck (eget e 80) M))) (some 81) e M fun e M =>
    nx (aGuard (some ((eget e 79), true)) (keep (aFieldAddr 4 1 (eget e 81) M))) (some 82) e M fun e M =>
    nx (aGuard (some ((eget e 79), true)) (keep (aLoad false 1 (eget e 82) M))) (some 83) e M fun e M =>
    nx (aGuard (some ((eget e 79), true)) (oBin cx.P .eql 2 (eget e 83) (.int .i64 0) M)) (some 84) e M fun e M =>
    nx (keep (aPick (eget e 79) (eget e 84) (.bool false))) (some 85) e M fun e M =>
    nx (oMv (eget e 85)) (some 86) e M fun e M =>
    nx (aGuard (some ((eget e 86), true)) (oMv (eget e 6))) (some 87) e M fun e M =>
    nx (keep (aPick (eget e 86) (eget e 87) (.bool false))) (some 88) e M fun e M =>
    nx (oMv (eget e 88)) (some 2) e M fun e M =>
    some (e, M)).map fun q => (prune [2] q.1, q.2)
noncomputable def f32_r14 (call : CallF) : Env → Mem → Option (Env × Mem) := fun e M =>
    (nx (oBin cx.P .eql 22 (eget e 36) (.int .i8 4) M) (some 90) e M fun e M =>
    nx (oMv (eget e 90)) (some 89) e M fun e M =>
    some (e, M)).map fun q => (prune [0, 3, 4, 89] q.1, q.2)
noncomputable def f32_r15 (call : CallF) : Env → Mem → Option (Env × Mem) := fun e M =>
    (nx (oMv (eget e 3)) (some 91) e M fun e M =>
    nx (oMv (eget e 91)) (some 92) e M fun e M =>
    nx (aGuard (some ((eget e 92), true)) (oMv (eget e 4))) (some 93) e M fun e M =>
    nx (keep (aPick (eget e 92) (eget e 93) (.bool false))) (some 94) e M fun e M =>
    nx (oMv (eget e 94)) (some 95) e M fun e M =>
    nx (aGuard (some ((eget e 95), true)) (oMv (eget e 0))) (some 96) e M fun e M =>
    nx (aGuard (some ((eget e 95), true)) (keep (aNilCheck (eget e 96) M))) (some 97) e M fun e M =>
    nx (aGuard (some ((eget e 95), true)) (keep (aFieldAddr 4 1 (eget e 97) M))) (some 98) e M fun e M =>
    nx (aGuard (some ((eget e 95), true)) (keep (aLoad false 1 (eget e 98) M))) (some 99) e M fun e M =>
    nx (aGuard (some ((eget e 95), true)) (oBin cx.P .eql 2 (eget e 99) (.int .i64 0) M)) (some 100) e M fun e M =>
    nx (keep (aPick (eget e 95) (eget e 100) (.bool false))) (some 101) e M fun e M =>
    nx (oMv (eget e 101)) (some 102) e M fun e M =>
    nx (aGuard (some ((eget e 102), true)) (oMv (eget e 0))) (some 103) e M fun e M =>
    nx (aGuard (some ((eget e 102), true)) (keep (aNilCheck (eget e 103) M))) (some 104) e M fun e M =>
    nx (aGuard (some ((eget e 102), true)) (keep (aFieldAddr 5 1 (eget e 104) M))) (some 105) e M fun e M =>
    nx (aGuard (some ((eget e 102), true)) (keep (aLoad false 1 (eget e 105) M))) (some 106) e M fun e M =>
    nx (aGuard (some ((eget e 102), true)) (oBin cx.P .eql 2 (eget e 106) (.int .i64 0) M)) (some 107) e M fun e M =>
    nx (keep (aPick (eget e 102) (eget e 107) (.bool false))) (some 108) e M fun e M =>
    nx (oMv (eget e 108)) (some 2) e M fun e M =>
    some (e, M)).map fun q => (prune [2] q.1, q.2)
noncomputable def f32_r16 (call : CallF) : Env → Mem → Option (Env × Mem) := fun e M =>
    (nx (oMv (.bool false)) (some 2) e M fun e M =>
    some (e, M)).map fun q => (prune [2] q.1, q.2)
noncomputable def f32 (call : CallF) (k : Nat) : St :=
  (bSeq (bReg (f32_r0 call))
  (bSeq (bReg (f32_r1 call))
  (bSeq (bReg (f32_r2 call))
  (bSeq (bReg (f32_r3 call))
  (bSeq (bReg (f32_r4 call))
  (bSeq (bSeq (bReg (f32_r5 call))
  (bCond (.tmp 32)
   (bSeq (bReg (f32_r6 call))
   (bEx .ret))
   (bEx .nrm)))
  (bSeq (bSeq (bReg (f32_r7 call))
  (bBlock 0 (bSeq (bReg (f32_r8 call))
   (bCond (.tmp 37)
    (bSeq (bReg (f32_r9 call))
    (bEx .ret))
    (bSeq (bReg (f32_r10 call))
    (bCond (.tmp 53)
     (bSeq (bReg (f32_r11 call))
     (bEx .ret))
     (bSeq (bReg (f32_r12 call))
     (bCond (.tmp 69)
      (bSeq (bReg (f32_r13 call))
      (bEx .ret))
      (bSeq (bReg (f32_r14 call))
      (bCond (.tmp 89)
       (bSeq (bReg (f32_r15 call))
       (bEx .ret))
       (bEx .nrm)))))))))))
  (bSeq (bReg (f32_r16 call))
  (bEx .ret)))))))))
theorem f32_eq (call : CallF) (k : Nat) : exec cx call 109 f32_an k (Try.f32.body.getD .skip) = f32 call k := by kernel_rfl
/-! ### f33: loop.example/g01263/impl.isBookDay -/
def f33_an : Ann := ⟨[(0, ⟨[], [], [], [], [0]⟩), (1, ⟨[], [], [], [], [2]⟩)], []⟩
noncomputable def f33_r0 (call : CallF) : Env → Mem → Option (Env × Mem) := fun e M =>
    (nx (oMv (.bool false)) (some 2) e M fun e M =>
    some (e, M)).map fun q => (prune [0] q.1, q.2)
noncomputable def f33_r1 (call : CallF) : Env → Mem → Option (Env × Mem) := fun e M =>
    (nx (oMv (eget e 0)) (some 3) e M fun e M =>
    nx (oBin cx.P .geq 2 (eget e 3) (.int .i64 0) M) (some 4) e M fun e M =>
    nx (oMv (eget e 4)) (some 5) e M fun e M =>
    nx (aGuard (some ((eget e 5), true)) (oMv (eget e 0))) (some 6) e M fun e M =>
    nx (aGuard (some ((eget e 5), true)) (oBin cx.P .leq 2 (eget e 6) (.int .i64 100000) M)) (some 7) e M fun e M =>
    nx (keep (aPick (eget e 5) (eget e 7) (.bool false))) (some 8) e M fun e M =>
    nx (oMv (eget e 8)) (some 2) e M fun e M =>
    some (e, M)).map fun q => (prune [2] q.1, q.2)
noncomputable def f33 (call : CallF) (k : Nat) : St :=
  (bSeq (bReg (f33_r0 call))
  (bSeq (bReg (f33_r1 call))
  (bEx .ret)))
theorem f33_eq (call : CallF) (k : Nat) : exec cx call 9 f33_an k (Try.f33.body.getD .skip) = f33 call k := by kernel_rfl
/-! ### f34: loop.example/g01263/impl.ValidDeal$1 -/
def f34_an : Ann := ⟨[(0, ⟨[], [], [], [], [0, 1, 2, 3]⟩), (1, ⟨[], [], [], [], [8]⟩)], []⟩
noncomputable def f34_r0 (call : CallF) : Env → Mem → Option (Env × Mem) := fun e M =>
    (nx (oMv (.bool false)) (some 8) e M fun e M =>
    some (e, M)).map fun q => (prune [0, 1, 2, 3] q.1, q.2)
noncomputable def f34_r1 (call : CallF) : Env → Mem → Option (Env × Mem) := fun e M =>
    (nx (oMv (eget e 0)) (some 9) e M fun e M =>
    nx (oMv (eget e 9)) (some 10) e M fun e M =>
    nx (aGuard (some ((eget e 10), true)) (oMv (eget e 1))) (some 11) e M fun e M =>
    nx (aGuard (some ((eget e 10), true)) (oMv (eget e 2))) (some 12) e M fun e M =>
    nx (aGuard (some ((eget e 10), true)) (oBin cx.P .geq 2 (eget e 11) (eget e 12) M)) (some 13) e M fun e M =>
    nx (keep (aPick (eget e 10) (eget e 13) (.bool false))) (some 14) e M fun e M =>
    nx (oMv (eget e 14)) (some 15) e M fun e M =>
    nx (aGuard (some ((eget e 15), true)) (oMv (eget e 1))) (some 16) e M fun e M =>
    nx (aGuard (some ((eget e 15), true)) (oMv (eget e 3))) (some 17) e M fun e M =>
    nx (aGuard (some ((eget e 15), true)) (oBin cx.P .leq 2 (eget e 16) (eget e 17) M)) (some 18) e M fun e M =>
    nx (keep (aPick (eget e 15) (eget e 18) (.bool false))) (some 19) e M fun e M =>
    nx (oMv (eget e 19)) (some 20) e M fun e M =>
    nx (aGuard (some ((eget e 20), false)) (oMv (eget e 0))) (some 21) e M fun e M =>
    nx (aGuard (some ((eget e 20), false)) (keep (aUn .not (eget e 21)))) (some 22) e M fun e M =>
    nx (aGuard (some ((eget e 20), false)) (oMv (eget e 22))) (some 23) e M fun e M =>
    nx (aGuard (some ((eget e 23), true)) (oMv (eget e 1))) (some 24) e M fun e M =>
    nx (aGuard (some ((eget e 23), true)) (oBin cx.P .eql 2 (eget e 24) (.int .i64 0) M)) (some 25) e M fun e M =>
    nx (aGuard (some ((eget e 20), false)) (keep (aPick (eget e 23) (eget e 25) (.bool false)))) (some 26) e M fun e M =>
    nx (keep (aPick (eget e 20) (.bool true) (eget e 26))) (some 27) e M fun e M =>
    nx (oMv (eget e 27)) (some 8) e M fun e M =>
    some (e, M)).map fun q => (prune [8] q.1, q.2)
noncomputable def f34 (call : CallF) (k : Nat) : St :=
  (bSeq (bReg (f34_r0 call))
  (bSeq (bReg (f34_r1 call))
  (bEx .ret)))
theorem f34_eq (call : CallF) (k : Nat) : exec cx call 28 f34_an k (Try.f34.body.getD .skip) = f34 call k := by kernel_rfl
/-! ### f35: loop.example/g01263/impl.uses -/
def f35_an : Ann := ⟨[(0, ⟨[], [], [], [], [0]⟩), (1, ⟨[], [], [], [], [6]⟩), (2, ⟨[], [], [], [], [6, 7]⟩), (3, ⟨[], [], [], [], [2, 3, 4, 5]⟩), (4, ⟨[], [], [], [], [6, 9]⟩), (5, ⟨[], [], [], [], [2, 3, 4, 5]⟩), (6, ⟨[], [], [], [], [11]⟩), (7, ⟨[], [], [], [], [2, 3, 4, 5]⟩), (8, ⟨[], [], [], [], [2, 3, 4, 5]⟩)], []⟩
noncomputable def f35_r0 (call : CallF) : Env → Mem → Option (Env × Mem) := fun e M =>
    (nx (oMv (.bool false)) (some 2) e M fun e M =>
    nx (oMv (.bool false)) (some 3) e M fun e M =>
    nx (oMv (.bool false)) (some 4) e M fun e M =>
    nx (oMv (.bool false)) (some 5) e M fun e M =>
    some (e, M)).map fun q => (prune [0] q.1, q.2)
noncomputable def f35_r1 (call : CallF) : Env → Mem → Option (Env × Mem) := fun e M =>
    (nx (oMv (eget e 0)) (some 6) e M fun e M =>
    some (e, M)).map fun q => (prune [6] q.1, q.2)
noncomputable def f35_r2 (call : CallF) : Env → Mem → Option (Env × Mem) := fun e M =>
    (nx (oBin cx.P .eql 22 (eget e 6) (.int .i8 1) M) (some 8) e M fun e M =>
    nx (oMv (eget e 8)) (some 7) e M fun e M =>
    some (e, M)).map fun q => (prune [6, 7] q.1, q.2)
noncomputable def f35_r3 (call : CallF) : Env → Mem → Option (Env × Mem) := fun e M =>
    (nx (oMv (.bool false)) (some 2) e M fun e M =>
    nx (oMv (.bool true)) (some 3) e M fun e M =>
    nx (oMv (.bool true)) (some 4) e M fun e M =>
    nx (oMv (.bool true)) (some 5) e M fun e M =>
    some (e, M)).map fun q => (prune [2, 3, 4, 5] q.1, q.2)
noncomputable def f35_r4 (call : CallF) : Env → Mem → Option (Env × Mem) := fun e M =>
    (nx (oBin cx.P .eql 22 (eget e 6) (.int .i8 2) M) (some 10) e M fun e M =>
    nx (oMv (eget e 10)) (some 9) e M fun e M =>
    some (e, M)).map fun q => (prune [6, 9] q.1, q.2)
noncomputable def f35_r5 (call : CallF) : Env → Mem → Option (Env × Mem) := fun e M =>
    (nx (oMv (.bool true)) (some 2) e M fun e M =>
    nx (oMv (.bool true)) (some 3) e M fun e M =>
    nx (oMv (.bool true)) (some 4) e M fun e M =>
    nx (oMv (.bool false)) (some 5) e M fun e M =>
    some (e, M)).map fun q => (prune [2, 3, 4, 5] q.1, q.2)
noncomputable def f35_r6 (call : CallF) : Env → Mem → Option (Env × Mem) := fun e M =>
    (nx (oBin cx.P .eql 22 (eget e 6) (.int .i8 3) M) (some 12) e M fun e M =>
    nx (oMv (eget e 12)) (some 11) e M fun e M =>
    some (e, M)).map fun q => (prune [11] q.1, q.2)
noncomputable def f35_r7 (call : CallF) : Env → Mem → Option (Env × Mem) := fun e M =>
    (nx (oMv (.bool true)) (some 2) e M fun e M =>
    nx (oMv (.bool false)) (some 3) e M fun e M =>
    nx (oMv (.bool false)) (some 4) e M fun e M =>
    nx (oMv (.bool true)) (some 5) e M fun e M =>
    some (e, M)).map fun q => (prune [2, 3, 4, 5] q.1, q.2)
noncomputable def f35_r8 (call : CallF) : Env → Mem → Option (Env × Mem) := fun e M =>
    (nx (oMv (.bool true)) (some 2) e M fun e M =>
    nx (oMv (.bool true)) (some 3) e M fun e M =>
    nx (oMv (.bool false)) (some 4) e M fun e M =>
    nx (oMv (.bool false)) (some 5) e M fun e M =>
    some (e, M)).map fun q => (prune [2, 3, 4, 5] q.1, q.2)
noncomputable def f35 (call : CallF) (k : Nat) : St :=
  (bSeq (bReg (f35_r0 call))
  (bSeq (bSeq (bReg (f35_r1 call))
  (bBlock 0 (bSeq (bReg (f35_r2 call))
   (bCond (.tmp 7)
    (bSeq (bReg (f35_r3 call))
    (bEx .ret))
    (bSeq (bReg (f35_r4 call))
    (bCond (.tmp 9)
     (bSeq (bReg (f35_r5 call))
     (bEx .ret))
     (bSeq (bReg (f35_r6 call))
     (bCond (.tmp 11)
      (bSeq (bReg (f35_r7 call))
      (bEx .ret))
      (bEx .nrm)))))))))
  (bSeq (bReg (f35_r8 call))
  (bEx .ret))))
theorem f35_eq (call : CallF) (k : Nat) : exec cx call 13 f35_an k (Try.f35.body.getD .skip) = f35 call k := by kernel_rfl
/-! ### f37: loop.example/g01263/spec.l00In -/
def f37_an : Ann := ⟨[(0, ⟨[], [], [], [], [0, 1, 2]⟩), (1, ⟨[], [], [], [], [6]⟩)], []⟩
noncomputable def f37_r0 (call : CallF) : Env → Mem → Option (Env × Mem) := fun e M =>
    (nx (oMv (.bool false)) (some 6) e M fun e M =>
    some (e, M)).map fun q => (prune [0, 1, 2] q.1, q.2)
noncomputable def f37_r1 (call : CallF) : Env → Mem → Option (Env × Mem) := fun e M =>
    (nx (oMv (eget e 0)) (some 7) e M fun e M =>
    nx (oMv (eget e 1)) (some 8) e M fun e M =>
    nx (oBin cx.P .geq 2 (eget e 7) (eget e 8) M) (some 9) e M fun e M =>
    nx (oMv (eget e 9)) (some 10) e M fun e M =>
    nx (aGuard (some ((eget e 10), true)) (oMv (eget e 0))) (some 11) e M fun e M =>
    nx (aGuard (some ((eget e 10), true)) (oMv (eget e 2))) (some 12) e M fun e M =>
    nx (aGuard (some ((eget e 10), true)) (oBin cx.P .leq 2 (eget e 11) (eget e 12) M)) (some 13) e M fun e M =>
    nx (keep (aPick (eget e 10) (eget e 13) (.bool false))) (some 14) e M fun e M =>
    nx (oMv (eget e 14)) (some 6) e M fun e M =>
    some (e, M)).map fun q => (prune [6] q.1, q.2)
noncomputable def f37 (call : CallF) (k : Nat) : St :=
  (bSeq (bReg (f37_r0 call))
  (bSeq (bReg (f37_r1 call))
  (bEx .ret)))
theorem f37_eq (call : CallF) (k : Nat) : exec cx call 15 f37_an k (Try.f37.body.getD .skip) = f37 call k := by kernel_rfl
/-! ### f55: loop.example/g01263/spec.l07Day -/
def f55_an : Ann := ⟨[(0, ⟨[], [], [], [], [0]⟩), (1, ⟨[], [], [], [], [2]⟩)], []⟩
noncomputable def f55_r0 (call : CallF) : Env → Mem → Option (Env × Mem) := fun e M =>
    (nx (oMv (.bool false)) (some 2) e M fun e M =>
    some (e, M)).map fun q => (prune [0] q.1, q.2)
noncomputable def f55_r1 (call : CallF) : Env → Mem → Option (Env × Mem) := fun e M =>
    (nx (oMv (eget e 0)) (some 3) e M fun e M =>
    nx (aCall cx.P.cellsOf cx.rw call false M.length 37 [(eget e 3), (.int .i64 0), (.int .i64 100000)] M) (some 4) e M fun e M =>
    nx (oMv (eget e 4)) (some 2) e M fun e M =>
    some (e, M)).map fun q => (prune [2] q.1, q.2)
noncomputable def f55 (call : CallF) (k : Nat) : St :=
  (bSeq (bReg (f55_r0 call))
  (bSeq (bReg (f55_r1 call))
  (bEx .ret)))
theorem f55_eq (call : CallF) (k : Nat) : exec cx call 5 f55_an k (Try.f55.body.getD .skip) = f55 call k := by kernel_rfl
def anns : List (Nat × Ann) := [(3, f3_an), (9, f9_an), (10, f10_an), (11, f11_an), (32, f32_an), (33, f33_an), (34, f34_an), (35, f35_an), (37, f37_an), (55, f55_an)]
noncomputable def CN : Nat → CallF := callN cx (Go.Ab.look anns) (fun _ _ _ => none) (fun _ => false)
end Go.Proofs.Ytaocojognonkcaa

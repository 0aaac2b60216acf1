/- Printed by a program of ours (ext.py). -/
import Derived.Test.YtaocojognonkcaaAbWr
import Derived.Test.YtaocojognonkcaaProg
set_option linter.unusedVariables false
set_option maxRecDepth 100000
set_option maxHeartbeats 2000000
namespace Go.Proofs.Ytaocojognonkcaa
open Go Go.Ab
noncomputable def cx : Cx := ⟨Try.prog, fun f => has [] f⟩
/-! ### f5: loop.example/g01263/laws.FnExactValidParties -/
def f5_an : Ann := ⟨[(0, ⟨[], [], [], [], [0]⟩), (1, ⟨[], [], [], [], [0, 3]⟩), (2, ⟨[], [], [], [], [0, 3]⟩), (3, ⟨[], [], [], [], [0, 11]⟩), (4, ⟨[], [], [], [], [2]⟩), (5, ⟨[], [], [], [], [0, 4]⟩), (6, ⟨[], [], [], [], [0, 4, 5]⟩), (7, ⟨[], [], [], [], [0, 4, 5, 6]⟩), (8, ⟨[], [], [], [], [0, 5, 21]⟩), (9, ⟨[], [], [], [], [2]⟩), (10, ⟨[], [], [], [], [26]⟩), (11, ⟨[], [], [], [], [2]⟩), (12, ⟨[], [], [], [], [2]⟩)], []⟩
noncomputable def f5_r0 (call : CallF) : Env → Mem → Option (Env × Mem) := fun e M =>
    (nx (oMv (.bool false)) (some 2) e M fun e M =>
    some (e, M)).map fun q => (prune [0] q.1, q.2)
noncomputable def f5_r1 (call : CallF) : Env → Mem → Option (Env × Mem) := fun e M =>
    (nx (oMv (.int .i64 1048576)) (some 3) e M fun e M =>
    some (e, M)).map fun q => (prune [0, 3] q.1, q.2)
noncomputable def f5_r2 (call : CallF) : Env → Mem → Option (Env × Mem) := fun e M =>
    (nx (oMv (eget e 0)) (some 7) e M fun e M =>
    nx (oMv (eget e 3)) (some 8) e M fun e M =>
    nx (aCall cx.P.cellsOf cx.rw call false M.length 18 [(eget e 7), (eget e 8)] M) (some 9) e M fun e M =>
    nx (oMv (eget e 9)) (some 3) e M fun e M =>
    some (e, M)).map fun q => (prune [0, 3] q.1, q.2)
noncomputable def f5_r3 (call : CallF) : Env → Mem → Option (Env × Mem) := fun e M =>
    (nx (oMv (eget e 3)) (some 10) e M fun e M =>
    nx (oBin cx.P .lss 3 (eget e 10) (.int .i64 0) M) (some 11) e M fun e M =>
    some (e, M)).map fun q => (prune [0, 11] q.1, q.2)
noncomputable def f5_r4 (call : CallF) : Env → Mem → Option (Env × Mem) := fun e M =>
    (nx (oMv (.bool true)) (some 2) e M fun e M =>
    some (e, M)).map fun q => (prune [2] q.1, q.2)
noncomputable def f5_r5 (call : CallF) : Env → Mem → Option (Env × Mem) := fun e M =>
    (nx (oMv (eget e 0)) (some 12) e M fun e M =>
    nx (aCall cx.P.cellsOf cx.rw call false M.length 20 [(eget e 12)] M) (some 13) e M fun e M =>
    nx (aCall cx.P.cellsOf cx.rw call false M.length 19 [(eget e 13)] M) (some 14) e M fun e M =>
    nx (oMv (eget e 14)) (some 4) e M fun e M =>
    some (e, M)).map fun q => (prune [0, 4] q.1, q.2)
noncomputable def f5_r6 (call : CallF) : Env → Mem → Option (Env × Mem) := fun e M =>
    (nx (oMv (eget e 0)) (some 15) e M fun e M =>
    nx (aCall cx.P.cellsOf cx.rw call false M.length 20 [(eget e 15)] M) (some 16) e M fun e M =>
    nx (oMv (eget e 16)) (some 5) e M fun e M =>
    some (e, M)).map fun q => (prune [0, 4, 5] q.1, q.2)
noncomputable def f5_r7 (call : CallF) : Env → Mem → Option (Env × Mem) := fun e M =>
    (nx (oMv (eget e 5)) (some 17) e M fun e M =>
    nx (aCall cx.P.cellsOf cx.rw call false M.length 21 [(eget e 17)] M) (some 18) e M fun e M =>
    nx (oMv (eget e 18)) (some 6) e M fun e M =>
    some (e, M)).map fun q => (prune [0, 4, 5, 6] q.1, q.2)
noncomputable def f5_r8 (call : CallF) : Env → Mem → Option (Env × Mem) := fun e M =>
    (nx (oMv (eget e 6)) (some 19) e M fun e M =>
    nx (oMv (eget e 4)) (some 20) e M fun e M =>
    nx (oBin cx.P .neq 4 (eget e 19) (eget e 20) M) (some 21) e M fun e M =>
    some (e, M)).map fun q => (prune [0, 5, 21] q.1, q.2)
noncomputable def f5_r9 (call : CallF) : Env → Mem → Option (Env × Mem) := fun e M =>
    (nx (oMv (.bool false)) (some 2) e M fun e M =>
    some (e, M)).map fun q => (prune [2] q.1, q.2)
noncomputable def f5_r10 (call : CallF) : Env → Mem → Option (Env × Mem) := fun e M =>
    (nx (oMv (eget e 5)) (some 22) e M fun e M =>
    nx (oMv (eget e 0)) (some 23) e M fun e M =>
    nx (aCall cx.P.cellsOf cx.rw call false M.length 20 [(eget e 23)] M) (some 24) e M fun e M =>
    nx (aCall cx.P.cellsOf cx.rw call false M.length 22 [(eget e 22), (eget e 24)] M) (some 25) e M fun e M =>
    nx (keep (aUn .not (eget e 25))) (some 26) e M fun e M =>
    some (e, M)).map fun q => (prune [26] q.1, q.2)
noncomputable def f5_r11 (call : CallF) : Env → Mem → Option (Env × Mem) := fun e M =>
    (nx (oMv (.bool false)) (some 2) e M fun e M =>
    some (e, M)).map fun q => (prune [2] q.1, q.2)
noncomputable def f5_r12 (call : CallF) : Env → Mem → Option (Env × Mem) := fun e M =>
    (nx (oMv (.bool true)) (some 2) e M fun e M =>
    some (e, M)).map fun q => (prune [2] q.1, q.2)
noncomputable def f5 (call : CallF) (k : Nat) : St :=
  (bSeq (bReg (f5_r0 call))
  (bSeq (bReg (f5_r1 call))
  (bSeq (bReg (f5_r2 call))
  (bSeq (bSeq (bReg (f5_r3 call))
  (bCond (.tmp 11)
   (bSeq (bReg (f5_r4 call))
   (bEx .ret))
   (bEx .nrm)))
  (bSeq (bReg (f5_r5 call))
  (bSeq (bReg (f5_r6 call))
  (bSeq (bReg (f5_r7 call))
  (bSeq (bSeq (bReg (f5_r8 call))
  (bCond (.tmp 21)
   (bSeq (bReg (f5_r9 call))
   (bEx .ret))
   (bEx .nrm)))
  (bSeq (bSeq (bReg (f5_r10 call))
  (bCond (.tmp 26)
   (bSeq (bReg (f5_r11 call))
   (bEx .ret))
   (bEx .nrm)))
  (bSeq (bReg (f5_r12 call))
  (bEx .ret)))))))))))
theorem f5_eq (call : CallF) (k : Nat) : exec cx call 27 f5_an k (Try.f5.body.getD .skip) = f5 call k := by kernel_rfl
/-! ### f18: loop.example/g01263/laws.szPartyS -/
def f18_an : Ann := ⟨[(0, ⟨[], [], [], [], [0, 1]⟩), (1, ⟨[], [], [], [], [0, 1]⟩), (2, ⟨[], [], [], [], [0, 1, 11]⟩), (3, ⟨[], [], [], [], [4]⟩), (4, ⟨[], [], [], [], [0, 1, 5]⟩), (5, ⟨[], [], [], [], [0, 1, 5, 15]⟩), (6, ⟨[], [], [], [], [0, 1, 5]⟩), (7, ⟨[], [], [], [], [0, 1, 5]⟩), (8, ⟨[], [], [], [], [0, 1, 5, 25]⟩), (9, ⟨[], [], [], [], [4]⟩), (10, ⟨[], [], [], [], [4]⟩)], [(5, [0, 1, 5])]⟩
noncomputable def f18_r0 (call : CallF) : Env → Mem → Option (Env × Mem) := fun e M =>
    (nx (oMv (.int .i64 0)) (some 4) e M fun e M =>
    some (e, M)).map fun q => (prune [0, 1] q.1, q.2)
noncomputable def f18_r1 (call : CallF) : Env → Mem → Option (Env × Mem) := fun e M =>
    (nx (oMv (eget e 1)) (some 6) e M fun e M =>
    nx (oMv (eget e 0)) (some 7) e M fun e M =>
    nx (oLen cx.P 36 (eget e 7) M) (some 8) e M fun e M =>
    nx (oBin cx.P .sub 3 (eget e 6) (eget e 8) M) (some 9) e M fun e M =>
    nx (oMv (eget e 9)) (some 1) e M fun e M =>
    some (e, M)).map fun q => (prune [0, 1] q.1, q.2)
noncomputable def f18_r2 (call : CallF) : Env → Mem → Option (Env × Mem) := fun e M =>
    (nx (oMv (eget e 1)) (some 10) e M fun e M =>
    nx (oBin cx.P .lss 3 (eget e 10) (.int .i64 0) M) (some 11) e M fun e M =>
    some (e, M)).map fun q => (prune [0, 1, 11] q.1, q.2)
noncomputable def f18_r3 (call : CallF) : Env → Mem → Option (Env × Mem) := fun e M =>
    (nx (oMv (.int .i64 (-1))) (some 4) e M fun e M =>
    some (e, M)).map fun q => (prune [4] q.1, q.2)
noncomputable def f18_r4 (call : CallF) : Env → Mem → Option (Env × Mem) := fun e M =>
    (nx (oMv (.int .i64 0)) (some 5) e M fun e M =>
    some (e, M)).map fun q => (prune [0, 1, 5] q.1, q.2)
noncomputable def f18_r5 (call : CallF) : Env → Mem → Option (Env × Mem) := fun e M =>
    (nx (oMv (eget e 5)) (some 12) e M fun e M =>
    nx (oMv (eget e 0)) (some 13) e M fun e M =>
    nx (oLen cx.P 36 (eget e 13) M) (some 14) e M fun e M =>
    nx (oBin cx.P .lss 3 (eget e 12) (eget e 14) M) (some 15) e M fun e M =>
    some (e, M)).map fun q => (prune [0, 1, 5, 15] q.1, q.2)
noncomputable def f18_r6 (call : CallF) : Env → Mem → Option (Env × Mem) := fun e M =>
    (nx (oMv (eget e 5)) (some 16) e M fun e M =>
    nx (oBin cx.P .add 3 (eget e 16) (.int .i64 1) M) (some 17) e M fun e M =>
    nx (oMv (eget e 17)) (some 5) e M fun e M =>
    some (e, M)).map fun q => (prune [0, 1, 5] q.1, q.2)
noncomputable def f18_r7 (call : CallF) : Env → Mem → Option (Env × Mem) := fun e M =>
    (nx (oMv (eget e 0)) (some 18) e M fun e M =>
    nx (oMv (eget e 5)) (some 19) e M fun e M =>
    nx (keep (aIndexS 2 (eget e 18) (eget e 19) M)) (some 20) e M fun e M =>
    nx (keep (aLoad true 2 (eget e 20) M)) (some 21) e M fun e M =>
    nx (oMv (eget e 1)) (some 22) e M fun e M =>
    nx (aCall cx.P.cellsOf cx.rw call false M.length 39 [(eget e 21), (eget e 22)] M) (some 23) e M fun e M =>
    nx (oMv (eget e 23)) (some 1) e M fun e M =>
    some (e, M)).map fun q => (prune [0, 1, 5] q.1, q.2)
noncomputable def f18_r8 (call : CallF) : Env → Mem → Option (Env × Mem) := fun e M =>
    (nx (oMv (eget e 1)) (some 24) e M fun e M =>
    nx (oBin cx.P .lss 3 (eget e 24) (.int .i64 0) M) (some 25) e M fun e M =>
    some (e, M)).map fun q => (prune [0, 1, 5, 25] q.1, q.2)
noncomputable def f18_r9 (call : CallF) : Env → Mem → Option (Env × Mem) := fun e M =>
    (nx (oMv (.int .i64 (-1))) (some 4) e M fun e M =>
    some (e, M)).map fun q => (prune [4] q.1, q.2)
noncomputable def f18_r10 (call : CallF) : Env → Mem → Option (Env × Mem) := fun e M =>
    (nx (oMv (eget e 1)) (some 26) e M fun e M =>
    nx (oMv (eget e 26)) (some 4) e M fun e M =>
    some (e, M)).map fun q => (prune [4] q.1, q.2)
noncomputable def f18_l5 (call : CallF) (k : Nat) : St :=
  (bSeq (bSeq (bReg (f18_r5 call))
  (bCond (.tmp 15)
   (bEx .nrm)
   (bEx (.ext 0))))
  (bSeq (bBlock 1 (bSeq (bReg (f18_r7 call))
   (bSeq (bReg (f18_r8 call))
   (bCond (.tmp 25)
    (bSeq (bReg (f18_r9 call))
    (bEx .ret))
    (bEx .nrm)))))
  (bReg (f18_r6 call))))
noncomputable def f18 (call : CallF) (k : Nat) : St :=
  (bSeq (bReg (f18_r0 call))
  (bSeq (bReg (f18_r1 call))
  (bSeq (bSeq (bReg (f18_r2 call))
  (bCond (.tmp 11)
   (bSeq (bReg (f18_r3 call))
   (bEx .ret))
   (bEx .nrm)))
  (bSeq (bSeq (bReg (f18_r4 call))
  (bBlock 0 (bLoop [0, 1, 5] (f18_l5 call k) k)))
  (bSeq (bReg (f18_r10 call))
  (bEx .ret))))))
theorem f18_eq (call : CallF) (k : Nat) : exec cx call 27 f18_an k (Try.f18.body.getD .skip) = f18 call k := by kernel_rfl
/-! ### f19: loop.example/g01263/spec.ValidParties -/
def f19_an : Ann := ⟨[(0, ⟨[], [], [], [], [0]⟩), (1, ⟨[], [], [], [], [2]⟩)], []⟩
noncomputable def f19_r0 (call : CallF) : Env → Mem → Option (Env × Mem) := fun e M =>
    (nx (oMv (.bool false)) (some 2) e M fun e M =>
    some (e, M)).map fun q => (prune [0] q.1, q.2)
noncomputable def f19_r1 (call : CallF) : Env → Mem → Option (Env × Mem) := fun e M =>
    (nx (oMv (eget e 0)) (some 3) e M fun e M =>
    nx (aCall cx.P.cellsOf cx.rw call false M.length 40 [(eget e 3)] M) (some 4) e M fun e M =>
    nx (oMv (eget e 4)) (some 2) e M fun e M =>
    some (e, M)).map fun q => (prune [2] q.1, q.2)
noncomputable def f19 (call : CallF) (k : Nat) : St :=
  (bSeq (bReg (f19_r0 call))
  (bSeq (bReg (f19_r1 call))
  (bEx .ret)))
theorem f19_eq (call : CallF) (k : Nat) : exec cx call 5 f19_an k (Try.f19.body.getD .skip) = f19 call k := by kernel_rfl
/-! ### f20: loop.example/g01263/laws.toPartyS -/
def f20_an : Ann := ⟨[(0, ⟨[], [], [], [], [0]⟩), (1, ⟨[], [], [], [], [0, 3]⟩), (2, ⟨[], [], [], [], [0, 3, 4]⟩), (3, ⟨[], [], [], [], [0, 3, 4, 11]⟩), (4, ⟨[], [], [], [], [0, 3, 4]⟩), (5, ⟨[], [], [], [], [0, 3, 4]⟩), (6, ⟨[], [], [], [], [2]⟩)], [(3, [0, 3, 4])]⟩
noncomputable def f20_r0 (call : CallF) : Env → Mem → Option (Env × Mem) := fun e M =>
    (nx (oMv .nils) (some 2) e M fun e M =>
    some (e, M)).map fun q => (prune [0] q.1, q.2)
noncomputable def f20_r1 (call : CallF) : Env → Mem → Option (Env × Mem) := fun e M =>
    (nx (oMv (eget e 0)) (some 5) e M fun e M =>
    nx (oLen cx.P 36 (eget e 5) M) (some 6) e M fun e M =>
    nx (aMakeO M.length 69 2 24 (zeroOf cx.P 69) (eget e 6) (eget e 6)) (some 7) e M fun e M =>
    nx (oMv (eget e 7)) (some 3) e M fun e M =>
    some (e, M)).map fun q => (prune [0, 3] q.1, q.2)
noncomputable def f20_r2 (call : CallF) : Env → Mem → Option (Env × Mem) := fun e M =>
    (nx (oMv (.int .i64 0)) (some 4) e M fun e M =>
    some (e, M)).map fun q => (prune [0, 3, 4] q.1, q.2)
noncomputable def f20_r3 (call : CallF) : Env → Mem → Option (Env × Mem) := fun e M =>
    (nx (oMv (eget e 4)) (some 8) e M fun e M =>
    nx (oMv (eget e 0)) (some 9) e M fun e M =>
    nx (oLen cx.P 36 (eget e 9) M) (some 10) e M fun e M =>
    nx (oBin cx.P .lss 3 (eget e 8) (eget e 10) M) (some 11) e M fun e M =>
    some (e, M)).map fun q => (prune [0, 3, 4, 11] q.1, q.2)
noncomputable def f20_r4 (call : CallF) : Env → Mem → Option (Env × Mem) := fun e M =>
    (nx (oMv (eget e 4)) (some 12) e M fun e M =>
    nx (oBin cx.P .add 3 (eget e 12) (.int .i64 1) M) (some 13) e M fun e M =>
    nx (oMv (eget e 13)) (some 4) e M fun e M =>
    some (e, M)).map fun q => (prune [0, 3, 4] q.1, q.2)
noncomputable def f20_r5 (call : CallF) : Env → Mem → Option (Env × Mem) := fun e M =>
    (nx (oMv (eget e 3)) (some 14) e M fun e M =>
    nx (oMv (eget e 4)) (some 15) e M fun e M =>
    nx (oMv (eget e 0)) (some 16) e M fun e M =>
    nx (oMv (eget e 4)) (some 17) e M fun e M =>
    nx (keep (aIndexS 2 (eget e 16) (eget e 17) M)) (some 18) e M fun e M =>
    nx (keep (aLoad true 2 (eget e 18) M)) (some 19) e M fun e M =>
    nx (aCall cx.P.cellsOf cx.rw call false M.length 41 [(eget e 19)] M) (some 20) e M fun e M =>
    nx (keep (aIndexS 2 (eget e 14) (eget e 15) M)) (some 21) e M fun e M =>
    nx (oStore 2 (eget e 21) (eget e 20) M) none e M fun e M =>
    some (e, M)).map fun q => (prune [0, 3, 4] q.1, q.2)
noncomputable def f20_r6 (call : CallF) : Env → Mem → Option (Env × Mem) := fun e M =>
    (nx (oMv (eget e 3)) (some 22) e M fun e M =>
    nx (oMv (eget e 22)) (some 2) e M fun e M =>
    some (e, M)).map fun q => (prune [2] q.1, q.2)
noncomputable def f20_l3 (call : CallF) (k : Nat) : St :=
  (bSeq (bSeq (bReg (f20_r3 call))
  (bCond (.tmp 11)
   (bEx .nrm)
   (bEx (.ext 0))))
  (bSeq (bBlock 1 (bReg (f20_r5 call)))
  (bReg (f20_r4 call))))
noncomputable def f20 (call : CallF) (k : Nat) : St :=
  (bSeq (bReg (f20_r0 call))
  (bSeq (bReg (f20_r1 call))
  (bSeq (bSeq (bReg (f20_r2 call))
  (bBlock 0 (bLoop [0, 3, 4] (f20_l3 call k) k)))
  (bSeq (bReg (f20_r6 call))
  (bEx .ret)))))
theorem f20_eq (call : CallF) (k : Nat) : exec cx call 23 f20_an k (Try.f20.body.getD .skip) = f20 call k := by kernel_rfl
/-! ### f21: loop.example/g01263/impl.ValidParties -/
def f21_an : Ann := ⟨[(0, ⟨[], [], [], [], [0]⟩), (1, ⟨[], [], [], [], [0, 5, 6, 7]⟩), (2, ⟨[], [], [], [], [0, 5, 6, 7, 8]⟩), (3, ⟨[], [], [], [], [0, 3, 4, 5, 6, 7]⟩), (4, ⟨[], [], [], [], [0, 5, 6, 7, 24]⟩), (5, ⟨[], [], [], [], [2]⟩), (6, ⟨[], [], [], [], [0, 5, 6, 7]⟩), (7, ⟨[], [], [], [], [2]⟩)], [(2, [0, 5, 6, 7])]⟩
noncomputable def f21_r0 (call : CallF) : Env → Mem → Option (Env × Mem) := fun e M =>
    (nx (oMv (.bool false)) (some 2) e M fun e M =>
    some (e, M)).map fun q => (prune [0] q.1, q.2)
noncomputable def f21_r1 (call : CallF) : Env → Mem → Option (Env × Mem) := fun e M =>
    (nx (oMv (eget e 0)) (some 5) e M fun e M =>
    nx (oLen cx.P 39 (eget e 5) M) (some 6) e M fun e M =>
    nx (oMv (.int .i64 0)) (some 7) e M fun e M =>
    some (e, M)).map fun q => (prune [0, 5, 6, 7] q.1, q.2)
noncomputable def f21_r2 (call : CallF) : Env → Mem → Option (Env × Mem) := fun e M =>
    (nx (oBin cx.P .lss 3 (eget e 7) (eget e 6) M) (some 8) e M fun e M =>
    some (e, M)).map fun q => (prune [0, 5, 6, 7, 8] q.1, q.2)
noncomputable def f21_r3 (call : CallF) : Env → Mem → Option (Env × Mem) := fun e M =>
    (nx (oMv (eget e 7)) (some 9) e M fun e M =>
    nx (keep (aIndexS 2 (eget e 5) (eget e 7) M)) (some 10) e M fun e M =>
    nx (keep (aLoad true 2 (eget e 10) M)) (some 11) e M fun e M =>
    nx (oAlloc cx.P M.length 69 2) (some 4) e M fun e M =>
    nx (oMv (eget e 9)) (some 3) e M fun e M =>
    nx (oStore 2 (eget e 4) (eget e 11) M) none e M fun e M =>
    some (e, M)).map fun q => (prune [0, 3, 4, 5, 6, 7] q.1, q.2)
noncomputable def f21_r4 (call : CallF) : Env → Mem → Option (Env × Mem) := fun e M =>
    rD [0, 5, 6, 7, 24] (fun (C : List Ob) =>
    nf (keep (aFieldAddr 0 1 (eget e 4) M)) (some 12) false e C fun e C =>
    nf (keep (aLoad false 1 (eget e 12) M)) (some 13) false e C fun e C =>
    nf (aCall cx.P.cellsOf cx.rw call false (M.length + C.length) 42 [(eget e 13)] M) (some 14) false e C fun e C =>
    nf (keep (aUn .not (eget e 14))) (some 15) false e C fun e C =>
    nf (oMv (eget e 15)) (some 16) false e C fun e C =>
    nf (aGuard (some ((eget e 16), false)) (oMv (eget e 0))) (some 17) false e C fun e C =>
    nf (aGuard (some ((eget e 16), false)) (oMv (eget e 3))) (some 18) false e C fun e C =>
    nf (aGuard (some ((eget e 16), false)) (keep (aSlice 2 none (some (eget e 18)) (eget e 17) M))) (some 19) false e C fun e C =>
    nf (aGuard (some ((eget e 16), false)) (keep (aFieldAddr 0 1 (eget e 4) M))) (some 20) false e C fun e C =>
    nf (aGuard (some ((eget e 16), false)) (keep (aLoad false 1 (eget e 20) M))) (some 21) false e C fun e C =>
    nf (aGuard (some ((eget e 16), false)) (aCall cx.P.cellsOf cx.rw call false (M.length + C.length) 43 [(eget e 19), (eget e 21)] M)) (some 22) false e C fun e C =>
    nf (aGuard (some ((eget e 16), false)) (oBin cx.P .geq 3 (eget e 22) (.int .i64 0) M)) (some 23) false e C fun e C =>
    nf (keep (aPick (eget e 16) (.bool true) (eget e 23))) (some 24) false e C fun e C =>
    some (e, C)) (fun (e : Env) (M : Mem) =>
    some (e, M)) M
noncomputable def f21_r5 (call : CallF) : Env → Mem → Option (Env × Mem) := fun e M =>
    (nx (oMv (.bool false)) (some 2) e M fun e M =>
    some (e, M)).map fun q => (prune [2] q.1, q.2)
noncomputable def f21_r6 (call : CallF) : Env → Mem → Option (Env × Mem) := fun e M =>
    (nx (oBin cx.P .add 3 (eget e 7) (.int .i64 1) M) (some 25) e M fun e M =>
    nx (oMv (eget e 25)) (some 7) e M fun e M =>
    some (e, M)).map fun q => (prune [0, 5, 6, 7] q.1, q.2)
noncomputable def f21_r7 (call : CallF) : Env → Mem → Option (Env × Mem) := fun e M =>
    (nx (oMv (eget e 0)) (some 26) e M fun e M =>
    nx (oLen cx.P 39 (eget e 26) M) (some 27) e M fun e M =>
    nx (oBin cx.P .leq 3 (eget e 27) (.int .i64 20) M) (some 28) e M fun e M =>
    nx (oMv (eget e 28)) (some 2) e M fun e M =>
    some (e, M)).map fun q => (prune [2] q.1, q.2)
noncomputable def f21_l2 (call : CallF) (k : Nat) : St :=
  (bSeq (bReg (f21_r2 call))
  (bSeq (bCond (.tmp 8)
   (bEx .nrm)
   (bEx (.ext 0)))
  (bSeq (bBlock 1 (bSeq (bReg (f21_r3 call))
   (bSeq (bReg (f21_r4 call))
   (bCond (.tmp 24)
    (bSeq (bReg (f21_r5 call))
    (bEx .ret))
    (bEx .nrm)))))
  (bReg (f21_r6 call)))))
noncomputable def f21 (call : CallF) (k : Nat) : St :=
  (bSeq (bReg (f21_r0 call))
  (bSeq (bSeq (bReg (f21_r1 call))
  (bBlock 0 (bLoop [0, 5, 6, 7] (f21_l2 call k) k)))
  (bSeq (bReg (f21_r7 call))
  (bEx .ret))))
theorem f21_eq (call : CallF) (k : Nat) : exec cx call 29 f21_an k (Try.f21.body.getD .skip) = f21 call k := by kernel_rfl
/-! ### f22: loop.example/g01263/laws.eqPartyS -/
def f22_an : Ann := ⟨[(0, ⟨[], [], [], [], [0, 1]⟩), (1, ⟨[], [], [], [], [0, 1, 10]⟩), (2, ⟨[], [], [], [], [4]⟩), (3, ⟨[], [], [], [], [0, 1, 5]⟩), (4, ⟨[], [], [], [], [0, 1, 5, 14]⟩), (5, ⟨[], [], [], [], [0, 1, 5]⟩), (6, ⟨[], [], [], [], [0, 1, 5, 26]⟩), (7, ⟨[], [], [], [], [4]⟩), (8, ⟨[], [], [], [], [4]⟩)], [(4, [0, 1, 5])]⟩
noncomputable def f22_r0 (call : CallF) : Env → Mem → Option (Env × Mem) := fun e M =>
    (nx (oMv (.bool false)) (some 4) e M fun e M =>
    some (e, M)).map fun q => (prune [0, 1] q.1, q.2)
noncomputable def f22_r1 (call : CallF) : Env → Mem → Option (Env × Mem) := fun e M =>
    (nx (oMv (eget e 0)) (some 6) e M fun e M =>
    nx (oLen cx.P 39 (eget e 6) M) (some 7) e M fun e M =>
    nx (oMv (eget e 1)) (some 8) e M fun e M =>
    nx (oLen cx.P 39 (eget e 8) M) (some 9) e M fun e M =>
    nx (oBin cx.P .neq 3 (eget e 7) (eget e 9) M) (some 10) e M fun e M =>
    some (e, M)).map fun q => (prune [0, 1, 10] q.1, q.2)
noncomputable def f22_r2 (call : CallF) : Env → Mem → Option (Env × Mem) := fun e M =>
    (nx (oMv (.bool false)) (some 4) e M fun e M =>
    some (e, M)).map fun q => (prune [4] q.1, q.2)
noncomputable def f22_r3 (call : CallF) : Env → Mem → Option (Env × Mem) := fun e M =>
    (nx (oMv (.int .i64 0)) (some 5) e M fun e M =>
    some (e, M)).map fun q => (prune [0, 1, 5] q.1, q.2)
noncomputable def f22_r4 (call : CallF) : Env → Mem → Option (Env × Mem) := fun e M =>
    (nx (oMv (eget e 5)) (some 11) e M fun e M =>
    nx (oMv (eget e 0)) (some 12) e M fun e M =>
    nx (oLen cx.P 39 (eget e 12) M) (some 13) e M fun e M =>
    nx (oBin cx.P .lss 3 (eget e 11) (eget e 13) M) (some 14) e M fun e M =>
    some (e, M)).map fun q => (prune [0, 1, 5, 14] q.1, q.2)
noncomputable def f22_r5 (call : CallF) : Env → Mem → Option (Env × Mem) := fun e M =>
    (nx (oMv (eget e 5)) (some 15) e M fun e M =>
    nx (oBin cx.P .add 3 (eget e 15) (.int .i64 1) M) (some 16) e M fun e M =>
    nx (oMv (eget e 16)) (some 5) e M fun e M =>
    some (e, M)).map fun q => (prune [0, 1, 5] q.1, q.2)
noncomputable def f22_r6 (call : CallF) : Env → Mem → Option (Env × Mem) := fun e M =>
    rD [0, 1, 5, 26] (fun (C : List Ob) =>
    nf (oMv (eget e 0)) (some 17) false e C fun e C =>
    nf (oMv (eget e 5)) (some 18) false e C fun e C =>
    nf (keep (aIndexS 2 (eget e 17) (eget e 18) M)) (some 19) false e C fun e C =>
    nf (keep (aLoad true 2 (eget e 19) M)) (some 20) false e C fun e C =>
    nf (oMv (eget e 1)) (some 21) false e C fun e C =>
    nf (oMv (eget e 5)) (some 22) false e C fun e C =>
    nf (keep (aIndexS 2 (eget e 21) (eget e 22) M)) (some 23) false e C fun e C =>
    nf (keep (aLoad true 2 (eget e 23) M)) (some 24) false e C fun e C =>
    nf (aCall cx.P.cellsOf cx.rw call false (M.length + C.length) 44 [(eget e 20), (eget e 24)] M) (some 25) false e C fun e C =>
    nf (keep (aUn .not (eget e 25))) (some 26) false e C fun e C =>
    some (e, C)) (fun (e : Env) (M : Mem) =>
    some (e, M)) M
noncomputable def f22_r7 (call : CallF) : Env → Mem → Option (Env × Mem) := fun e M =>
    (nx (oMv (.bool false)) (some 4) e M fun e M =>
    some (e, M)).map fun q => (prune [4] q.1, q.2)
noncomputable def f22_r8 (call : CallF) : Env → Mem → Option (Env × Mem) := fun e M =>
    (nx (oMv (.bool true)) (some 4) e M fun e M =>
    some (e, M)).map fun q => (prune [4] q.1, q.2)
noncomputable def f22_l4 (call : CallF) (k : Nat) : St :=
  (bSeq (bSeq (bReg (f22_r4 call))
  (bCond (.tmp 14)
   (bEx .nrm)
   (bEx (.ext 0))))
  (bSeq (bBlock 1 (bSeq (bReg (f22_r6 call))
   (bCond (.tmp 26)
    (bSeq (bReg (f22_r7 call))
    (bEx .ret))
    (bEx .nrm))))
  (bReg (f22_r5 call))))
noncomputable def f22 (call : CallF) (k : Nat) : St :=
  (bSeq (bReg (f22_r0 call))
  (bSeq (bSeq (bReg (f22_r1 call))
  (bCond (.tmp 10)
   (bSeq (bReg (f22_r2 call))
   (bEx .ret))
   (bEx .nrm)))
  (bSeq (bSeq (bReg (f22_r3 call))
  (bBlock 0 (bLoop [0, 1, 5] (f22_l4 call k) k)))
  (bSeq (bReg (f22_r8 call))
  (bEx .ret)))))
theorem f22_eq (call : CallF) (k : Nat) : exec cx call 27 f22_an k (Try.f22.body.getD .skip) = f22 call k := by kernel_rfl
/-! ### f39: loop.example/g01263/laws.szParty -/
def f39_an : Ann := ⟨[(0, ⟨[], [], [], [], [1, 2]⟩), (1, ⟨[], [], [], [], [1]⟩), (2, ⟨[], [], [], [], [1, 11]⟩), (3, ⟨[], [], [], [], [4]⟩), (4, ⟨[], [], [], [], [4]⟩)], []⟩
noncomputable def f39_r0 (call : CallF) : Env → Mem → Option (Env × Mem) := fun e M =>
    (nx (keep (aBox 2 (eget e 0) M)) (some 2) e M fun e M =>
    nx (oMv (.int .i64 0)) (some 4) e M fun e M =>
    some (e, M)).map fun q => (prune [1, 2] q.1, q.2)
noncomputable def f39_r1 (call : CallF) : Env → Mem → Option (Env × Mem) := fun e M =>
    (nx (oMv (eget e 1)) (some 5) e M fun e M =>
    nx (keep (aFieldAddr 0 1 (eget e 2) M)) (some 6) e M fun e M =>
    nx (keep (aLoad false 1 (eget e 6) M)) (some 7) e M fun e M =>
    nx (oLen cx.P 9 (eget e 7) M) (some 8) e M fun e M =>
    nx (oBin cx.P .sub 3 (eget e 5) (eget e 8) M) (some 9) e M fun e M =>
    nx (oMv (eget e 9)) (some 1) e M fun e M =>
    some (e, M)).map fun q => (prune [1] q.1, q.2)
noncomputable def f39_r2 (call : CallF) : Env → Mem → Option (Env × Mem) := fun e M =>
    (nx (oMv (eget e 1)) (some 10) e M fun e M =>
    nx (oBin cx.P .lss 3 (eget e 10) (.int .i64 0) M) (some 11) e M fun e M =>
    some (e, M)).map fun q => (prune [1, 11] q.1, q.2)
noncomputable def f39_r3 (call : CallF) : Env → Mem → Option (Env × Mem) := fun e M =>
    (nx (oMv (.int .i64 (-1))) (some 4) e M fun e M =>
    some (e, M)).map fun q => (prune [4] q.1, q.2)
noncomputable def f39_r4 (call : CallF) : Env → Mem → Option (Env × Mem) := fun e M =>
    (nx (oMv (eget e 1)) (some 12) e M fun e M =>
    nx (oMv (eget e 12)) (some 4) e M fun e M =>
    some (e, M)).map fun q => (prune [4] q.1, q.2)
noncomputable def f39 (call : CallF) (k : Nat) : St :=
  (bSeq (bReg (f39_r0 call))
  (bSeq (bReg (f39_r1 call))
  (bSeq (bSeq (bReg (f39_r2 call))
  (bCond (.tmp 11)
   (bSeq (bReg (f39_r3 call))
   (bEx .ret))
   (bEx .nrm)))
  (bSeq (bReg (f39_r4 call))
  (bEx .ret)))))
theorem f39_eq (call : CallF) (k : Nat) : exec cx call 13 f39_an k (Try.f39.body.getD .skip) = f39 call k := by kernel_rfl
/-! ### f40: loop.example/g01263/spec.l06Parties -/
def f40_an : Ann := ⟨[(0, ⟨[], [], [], [], [0]⟩), (1, ⟨[], [], [], [], [0, 6]⟩), (2, ⟨[], [], [], [], [2]⟩), (3, ⟨[], [], [], [], [0, 3]⟩), (4, ⟨[], [], [], [], [0, 3, 10]⟩), (5, ⟨[], [], [], [], [0, 3]⟩), (6, ⟨[], [], [], [], [0, 3, 30]⟩), (7, ⟨[], [], [], [], [2]⟩), (8, ⟨[], [], [], [], [2]⟩)], [(4, [0, 3])]⟩
noncomputable def f40_r0 (call : CallF) : Env → Mem → Option (Env × Mem) := fun e M =>
    (nx (oMv (.bool false)) (some 2) e M fun e M =>
    some (e, M)).map fun q => (prune [0] q.1, q.2)
noncomputable def f40_r1 (call : CallF) : Env → Mem → Option (Env × Mem) := fun e M =>
    (nx (oMv (eget e 0)) (some 4) e M fun e M =>
    nx (oLen cx.P 39 (eget e 4) M) (some 5) e M fun e M =>
    nx (oBin cx.P .gtr 3 (eget e 5) (.int .i64 20) M) (some 6) e M fun e M =>
    some (e, M)).map fun q => (prune [0, 6] q.1, q.2)
noncomputable def f40_r2 (call : CallF) : Env → Mem → Option (Env × Mem) := fun e M =>
    (nx (oMv (.bool false)) (some 2) e M fun e M =>
    some (e, M)).map fun q => (prune [2] q.1, q.2)
noncomputable def f40_r3 (call : CallF) : Env → Mem → Option (Env × Mem) := fun e M =>
    (nx (oMv (.int .i64 0)) (some 3) e M fun e M =>
    some (e, M)).map fun q => (prune [0, 3] q.1, q.2)
noncomputable def f40_r4 (call : CallF) : Env → Mem → Option (Env × Mem) := fun e M =>
    (nx (oMv (eget e 3)) (some 7) e M fun e M =>
    nx (oMv (eget e 0)) (some 8) e M fun e M =>
    nx (oLen cx.P 39 (eget e 8) M) (some 9) e M fun e M =>
    nx (oBin cx.P .lss 3 (eget e 7) (eget e 9) M) (some 10) e M fun e M =>
    some (e, M)).map fun q => (prune [0, 3, 10] q.1, q.2)
noncomputable def f40_r5 (call : CallF) : Env → Mem → Option (Env × Mem) := fun e M =>
    (nx (oMv (eget e 3)) (some 11) e M fun e M =>
    nx (oBin cx.P .add 3 (eget e 11) (.int .i64 1) M) (some 12) e M fun e M =>
    nx (oMv (eget e 12)) (some 3) e M fun e M =>
    some (e, M)).map fun q => (prune [0, 3] q.1, q.2)
noncomputable def f40_r6 (call : CallF) : Env → Mem → Option (Env × Mem) := fun e M =>
    (nx (oMv (eget e 0)) (some 13) e M fun e M =>
    nx (oMv (eget e 3)) (some 14) e M fun e M =>
    nx (keep (aIndexS 2 (eget e 13) (eget e 14) M)) (some 15) e M fun e M =>
    nx (keep (aFieldAddr 0 1 (eget e 15) M)) (some 16) e M fun e M =>
    nx (keep (aLoad false 1 (eget e 16) M)) (some 17) e M fun e M =>
    nx (aCall cx.P.cellsOf cx.rw call false M.length 56 [(eget e 17)] M) (some 18) e M fun e M =>
    nx (keep (aUn .not (eget e 18))) (some 19) e M fun e M =>
    nx (oMv (eget e 19)) (some 20) e M fun e M =>
    nx (aGuard (some ((eget e 20), false)) (oMv (eget e 0))) (some 21) e M fun e M =>
    nx (aGuard (some ((eget e 20), false)) (oMv (eget e 0))) (some 22) e M fun e M =>
    nx (aGuard (some ((eget e 20), false)) (oMv (eget e 3))) (some 23) e M fun e M =>
    nx (aGuard (some ((eget e 20), false)) (keep (aIndexS 2 (eget e 22) (eget e 23) M))) (some 24) e M fun e M =>
    nx (aGuard (some ((eget e 20), false)) (keep (aFieldAddr 0 1 (eget e 24) M))) (some 25) e M fun e M =>
    nx (aGuard (some ((eget e 20), false)) (keep (aLoad false 1 (eget e 25) M))) (some 26) e M fun e M =>
    nx (aGuard (some ((eget e 20), false)) (aCall cx.P.cellsOf cx.rw call false M.length 45 [(eget e 21), (eget e 26)] M)) (some 27) e M fun e M =>
    nx (aGuard (some ((eget e 20), false)) (oMv (eget e 3))) (some 28) e M fun e M =>
    nx (aGuard (some ((eget e 20), false)) (oBin cx.P .neq 2 (eget e 27) (eget e 28) M)) (some 29) e M fun e M =>
    nx (keep (aPick (eget e 20) (.bool true) (eget e 29))) (some 30) e M fun e M =>
    some (e, M)).map fun q => (prune [0, 3, 30] q.1, q.2)
noncomputable def f40_r7 (call : CallF) : Env → Mem → Option (Env × Mem) := fun e M =>
    (nx (oMv (.bool false)) (some 2) e M fun e M =>
    some (e, M)).map fun q => (prune [2] q.1, q.2)
noncomputable def f40_r8 (call : CallF) : Env → Mem → Option (Env × Mem) := fun e M =>
    (nx (oMv (.bool true)) (some 2) e M fun e M =>
    some (e, M)).map fun q => (prune [2] q.1, q.2)
noncomputable def f40_l4 (call : CallF) (k : Nat) : St :=
  (bSeq (bSeq (bReg (f40_r4 call))
  (bCond (.tmp 10)
   (bEx .nrm)
   (bEx (.ext 0))))
  (bSeq (bBlock 1 (bSeq (bReg (f40_r6 call))
   (bCond (.tmp 30)
    (bSeq (bReg (f40_r7 call))
    (bEx .ret))
    (bEx .nrm))))
  (bReg (f40_r5 call))))
noncomputable def f40 (call : CallF) (k : Nat) : St :=
  (bSeq (bReg (f40_r0 call))
  (bSeq (bSeq (bReg (f40_r1 call))
  (bCond (.tmp 6)
   (bSeq (bReg (f40_r2 call))
   (bEx .ret))
   (bEx .nrm)))
  (bSeq (bSeq (bReg (f40_r3 call))
  (bBlock 0 (bLoop [0, 3] (f40_l4 call k) k)))
  (bSeq (bReg (f40_r8 call))
  (bEx .ret)))))
theorem f40_eq (call : CallF) (k : Nat) : exec cx call 31 f40_an k (Try.f40.body.getD .skip) = f40 call k := by kernel_rfl
/-! ### f41: loop.example/g01263/laws.toParty -/
def f41_an : Ann := ⟨[(0, ⟨[], [], [], [], [1, 2]⟩), (1, ⟨[], [], [], [], [1, 2, 3]⟩), (2, ⟨[], [], [], [], [1, 2, 3]⟩), (3, ⟨[], [], [], [], [2, 3]⟩), (4, ⟨[], [], [], [], [2]⟩)], []⟩
noncomputable def f41_r0 (call : CallF) : Env → Mem → Option (Env × Mem) := fun e M =>
    (nx (keep (aBox 2 (eget e 0) M)) (some 1) e M fun e M =>
    nx (oAlloc cx.P M.length 69 2) (some 2) e M fun e M =>
    some (e, M)).map fun q => (prune [1, 2] q.1, q.2)
noncomputable def f41_r1 (call : CallF) : Env → Mem → Option (Env × Mem) := fun e M =>
    (nx (oAlloc cx.P M.length 69 2) (some 3) e M fun e M =>
    some (e, M)).map fun q => (prune [1, 2, 3] q.1, q.2)
noncomputable def f41_r2 (call : CallF) : Env → Mem → Option (Env × Mem) := fun e M =>
    (nx (keep (aFieldAddr 0 1 (eget e 1) M)) (some 4) e M fun e M =>
    nx (keep (aLoad false 1 (eget e 4) M)) (some 5) e M fun e M =>
    nx (keep (aFieldAddr 0 1 (eget e 3) M)) (some 6) e M fun e M =>
    nx (oStore 1 (eget e 6) (eget e 5) M) none e M fun e M =>
    some (e, M)).map fun q => (prune [1, 2, 3] q.1, q.2)
noncomputable def f41_r3 (call : CallF) : Env → Mem → Option (Env × Mem) := fun e M =>
    (nx (keep (aFieldAddr 1 1 (eget e 1) M)) (some 7) e M fun e M =>
    nx (keep (aLoad false 1 (eget e 7) M)) (some 8) e M fun e M =>
    nx (keep (aFieldAddr 1 1 (eget e 3) M)) (some 9) e M fun e M =>
    nx (oStore 1 (eget e 9) (eget e 8) M) none e M fun e M =>
    some (e, M)).map fun q => (prune [2, 3] q.1, q.2)
noncomputable def f41_r4 (call : CallF) : Env → Mem → Option (Env × Mem) := fun e M =>
    (nx (keep (aLoad true 2 (eget e 3) M)) (some 10) e M fun e M =>
    nx (oStore 2 (eget e 2) (eget e 10) M) none e M fun e M =>
    some (e, M)).map fun q => (prune [2] q.1, q.2)
noncomputable def f41 (call : CallF) (k : Nat) : St :=
  (bSeq (bReg (f41_r0 call))
  (bSeq (bReg (f41_r1 call))
  (bSeq (bReg (f41_r2 call))
  (bSeq (bReg (f41_r3 call))
  (bSeq (bReg (f41_r4 call))
  (bEx .ret))))))
theorem f41_eq (call : CallF) (k : Nat) : exec cx call 11 f41_an k (Try.f41.body.getD .skip) = f41 call k := by kernel_rfl
/-! ### f42: loop.example/g01263/impl.isName -/
def f42_an : Ann := ⟨[(0, ⟨[], [], [], [], [0]⟩), (1, ⟨[], [], [], [], [2]⟩)], []⟩
noncomputable def f42_r0 (call : CallF) : Env → Mem → Option (Env × Mem) := fun e M =>
    (nx (oMv (.bool false)) (some 2) e M fun e M =>
    some (e, M)).map fun q => (prune [0] q.1, q.2)
noncomputable def f42_r1 (call : CallF) : Env → Mem → Option (Env × Mem) := fun e M =>
    (nx (oMv (eget e 0)) (some 3) e M fun e M =>
    nx (aCall cx.P.cellsOf cx.rw call false M.length 57 [(eget e 3), (.int .i64 12)] M) (some 4) e M fun e M =>
    nx (oMv (eget e 4)) (some 2) e M fun e M =>
    some (e, M)).map fun q => (prune [2] q.1, q.2)
noncomputable def f42 (call : CallF) (k : Nat) : St :=
  (bSeq (bReg (f42_r0 call))
  (bSeq (bReg (f42_r1 call))
  (bEx .ret)))
theorem f42_eq (call : CallF) (k : Nat) : exec cx call 5 f42_an k (Try.f42.body.getD .skip) = f42 call k := by kernel_rfl
/-! ### f43: loop.example/g01263/impl.find -/
def f43_an : Ann := ⟨[(0, ⟨[], [], [], [], [0, 3]⟩), (1, ⟨[], [], [], [], [4]⟩)], []⟩
noncomputable def f43_r0 (call : CallF) : Env → Mem → Option (Env × Mem) := fun e M =>
    (nx (keep (aBox 1 (eget e 1) M)) (some 3) e M fun e M =>
    nx (oMv (.int .i64 0)) (some 4) e M fun e M =>
    some (e, M)).map fun q => (prune [0, 3] q.1, q.2)
noncomputable def f43_r1 (call : CallF) : Env → Mem → Option (Env × Mem) := fun e M =>
    (nx (oMv (eget e 0)) (some 5) e M fun e M =>
    nx (oMv (.fn 59 [(eget e 3)])) (some 6) e M fun e M =>
    nx (aCall cx.P.cellsOf cx.rw call false M.length 58 [(eget e 5), (eget e 6)] M) (some 7) e M fun e M =>
    nx (oMv (eget e 7)) (some 4) e M fun e M =>
    some (e, M)).map fun q => (prune [4] q.1, q.2)
noncomputable def f43 (call : CallF) (k : Nat) : St :=
  (bSeq (bReg (f43_r0 call))
  (bSeq (bReg (f43_r1 call))
  (bEx .ret)))
theorem f43_eq (call : CallF) (k : Nat) : exec cx call 8 f43_an k (Try.f43.body.getD .skip) = f43 call k := by kernel_rfl
/-! ### f44: loop.example/g01263/laws.eqParty -/
def f44_an : Ann := ⟨[(0, ⟨[], [], [], [], [2, 3]⟩), (1, ⟨[], [], [], [], [2, 3, 9]⟩), (2, ⟨[], [], [], [], [4]⟩), (3, ⟨[], [], [], [], [14]⟩), (4, ⟨[], [], [], [], [4]⟩), (5, ⟨[], [], [], [], [4]⟩)], []⟩
noncomputable def f44_r0 (call : CallF) : Env → Mem → Option (Env × Mem) := fun e M =>
    (nx (keep (aBox 2 (eget e 0) M)) (some 2) e M fun e M =>
    nx (keep (aBox 2 (eget e 1) M)) (some 3) e M fun e M =>
    nx (oMv (.bool false)) (some 4) e M fun e M =>
    some (e, M)).map fun q => (prune [2, 3] q.1, q.2)
noncomputable def f44_r1 (call : CallF) : Env → Mem → Option (Env × Mem) := fun e M =>
    (nx (keep (aFieldAddr 0 1 (eget e 2) M)) (some 5) e M fun e M =>
    nx (keep (aLoad false 1 (eget e 5) M)) (some 6) e M fun e M =>
    nx (keep (aFieldAddr 0 1 (eget e 3) M)) (some 7) e M fun e M =>
    nx (keep (aLoad false 1 (eget e 7) M)) (some 8) e M fun e M =>
    nx (oBin cx.P .neq 9 (eget e 6) (eget e 8) M) (some 9) e M fun e M =>
    some (e, M)).map fun q => (prune [2, 3, 9] q.1, q.2)
noncomputable def f44_r2 (call : CallF) : Env → Mem → Option (Env × Mem) := fun e M =>
    (nx (oMv (.bool false)) (some 4) e M fun e M =>
    some (e, M)).map fun q => (prune [4] q.1, q.2)
noncomputable def f44_r3 (call : CallF) : Env → Mem → Option (Env × Mem) := fun e M =>
    (nx (keep (aFieldAddr 1 1 (eget e 2) M)) (some 10) e M fun e M =>
    nx (keep (aLoad false 1 (eget e 10) M)) (some 11) e M fun e M =>
    nx (keep (aFieldAddr 1 1 (eget e 3) M)) (some 12) e M fun e M =>
    nx (keep (aLoad false 1 (eget e 12) M)) (some 13) e M fun e M =>
    nx (oBin cx.P .neq 66 (eget e 11) (eget e 13) M) (some 14) e M fun e M =>
    some (e, M)).map fun q => (prune [14] q.1, q.2)
noncomputable def f44_r4 (call : CallF) : Env → Mem → Option (Env × Mem) := fun e M =>
    (nx (oMv (.bool false)) (some 4) e M fun e M =>
    some (e, M)).map fun q => (prune [4] q.1, q.2)
noncomputable def f44_r5 (call : CallF) : Env → Mem → Option (Env × Mem) := fun e M =>
    (nx (oMv (.bool true)) (some 4) e M fun e M =>
    some (e, M)).map fun q => (prune [4] q.1, q.2)
noncomputable def f44 (call : CallF) (k : Nat) : St :=
  (bSeq (bReg (f44_r0 call))
  (bSeq (bSeq (bReg (f44_r1 call))
  (bCond (.tmp 9)
   (bSeq (bReg (f44_r2 call))
   (bEx .ret))
   (bEx .nrm)))
  (bSeq (bSeq (bReg (f44_r3 call))
  (bCond (.tmp 14)
   (bSeq (bReg (f44_r4 call))
   (bEx .ret))
   (bEx .nrm)))
  (bSeq (bReg (f44_r5 call))
  (bEx .ret)))))
theorem f44_eq (call : CallF) (k : Nat) : exec cx call 15 f44_an k (Try.f44.body.getD .skip) = f44 call k := by kernel_rfl
/-! ### f45: loop.example/g01263/spec.l06Find -/
def f45_an : Ann := ⟨[(0, ⟨[], [], [], [], [0, 1]⟩), (1, ⟨[], [], [], [], [0, 1, 5]⟩), (2, ⟨[], [], [], [], [0, 1, 5, 9]⟩), (3, ⟨[], [], [], [], [0, 1, 5]⟩), (4, ⟨[], [], [], [], [0, 1, 5, 18]⟩), (5, ⟨[], [], [], [], [4]⟩), (6, ⟨[], [], [], [], [4]⟩)], [(2, [0, 1, 5])]⟩
noncomputable def f45_r0 (call : CallF) : Env → Mem → Option (Env × Mem) := fun e M =>
    (nx (oMv (.int .i64 0)) (some 4) e M fun e M =>
    some (e, M)).map fun q => (prune [0, 1] q.1, q.2)
noncomputable def f45_r1 (call : CallF) : Env → Mem → Option (Env × Mem) := fun e M =>
    (nx (oMv (.int .i64 0)) (some 5) e M fun e M =>
    some (e, M)).map fun q => (prune [0, 1, 5] q.1, q.2)
noncomputable def f45_r2 (call : CallF) : Env → Mem → Option (Env × Mem) := fun e M =>
    (nx (oMv (eget e 5)) (some 6) e M fun e M =>
    nx (oMv (eget e 0)) (some 7) e M fun e M =>
    nx (oLen cx.P 39 (eget e 7) M) (some 8) e M fun e M =>
    nx (oBin cx.P .lss 2 (eget e 6) (eget e 8) M) (some 9) e M fun e M =>
    some (e, M)).map fun q => (prune [0, 1, 5, 9] q.1, q.2)
noncomputable def f45_r3 (call : CallF) : Env → Mem → Option (Env × Mem) := fun e M =>
    (nx (oMv (eget e 5)) (some 10) e M fun e M =>
    nx (oBin cx.P .add 2 (eget e 10) (.int .i64 1) M) (some 11) e M fun e M =>
    nx (oMv (eget e 11)) (some 5) e M fun e M =>
    some (e, M)).map fun q => (prune [0, 1, 5] q.1, q.2)
noncomputable def f45_r4 (call : CallF) : Env → Mem → Option (Env × Mem) := fun e M =>
    (nx (oMv (eget e 0)) (some 12) e M fun e M =>
    nx (oMv (eget e 5)) (some 13) e M fun e M =>
    nx (keep (aIndexS 2 (eget e 12) (eget e 13) M)) (some 14) e M fun e M =>
    nx (keep (aFieldAddr 0 1 (eget e 14) M)) (some 15) e M fun e M =>
    nx (keep (aLoad false 1 (eget e 15) M)) (some 16) e M fun e M =>
    nx (oMv (eget e 1)) (some 17) e M fun e M =>
    nx (oBin cx.P .eql 9 (eget e 16) (eget e 17) M) (some 18) e M fun e M =>
    some (e, M)).map fun q => (prune [0, 1, 5, 18] q.1, q.2)
noncomputable def f45_r5 (call : CallF) : Env → Mem → Option (Env × Mem) := fun e M =>
    (nx (oMv (eget e 5)) (some 19) e M fun e M =>
    nx (oMv (eget e 19)) (some 4) e M fun e M =>
    some (e, M)).map fun q => (prune [4] q.1, q.2)
noncomputable def f45_r6 (call : CallF) : Env → Mem → Option (Env × Mem) := fun e M =>
    (nx (oMv (.int .i64 (-1))) (some 4) e M fun e M =>
    some (e, M)).map fun q => (prune [4] q.1, q.2)
noncomputable def f45_l2 (call : CallF) (k : Nat) : St :=
  (bSeq (bSeq (bReg (f45_r2 call))
  (bCond (.tmp 9)
   (bEx .nrm)
   (bEx (.ext 0))))
  (bSeq (bBlock 1 (bSeq (bReg (f45_r4 call))
   (bCond (.tmp 18)
    (bSeq (bReg (f45_r5 call))
    (bEx .ret))
    (bEx .nrm))))
  (bReg (f45_r3 call))))
noncomputable def f45 (call : CallF) (k : Nat) : St :=
  (bSeq (bReg (f45_r0 call))
  (bSeq (bSeq (bReg (f45_r1 call))
  (bBlock 0 (bLoop [0, 1, 5] (f45_l2 call k) k)))
  (bSeq (bReg (f45_r6 call))
  (bEx .ret))))
theorem f45_eq (call : CallF) (k : Nat) : exec cx call 20 f45_an k (Try.f45.body.getD .skip) = f45 call k := by kernel_rfl
/-! ### f56: loop.example/g01263/spec.l06Name -/
def f56_an : Ann := ⟨[(0, ⟨[], [], [], [], [0]⟩), (1, ⟨[], [], [], [], [0, 3]⟩), (2, ⟨[], [], [], [], [0, 3, 7]⟩), (3, ⟨[], [], [], [], [0, 3]⟩), (4, ⟨[], [], [], [], [0, 3, 19]⟩), (5, ⟨[], [], [], [], [2]⟩), (6, ⟨[], [], [], [], [2]⟩)], [(2, [0, 3])]⟩
noncomputable def f56_r0 (call : CallF) : Env → Mem → Option (Env × Mem) := fun e M =>
    (nx (oMv (.bool false)) (some 2) e M fun e M =>
    some (e, M)).map fun q => (prune [0] q.1, q.2)
noncomputable def f56_r1 (call : CallF) : Env → Mem → Option (Env × Mem) := fun e M =>
    (nx (oMv (.int .i64 0)) (some 3) e M fun e M =>
    some (e, M)).map fun q => (prune [0, 3] q.1, q.2)
noncomputable def f56_r2 (call : CallF) : Env → Mem → Option (Env × Mem) := fun e M =>
    (nx (oMv (eget e 3)) (some 4) e M fun e M =>
    nx (oMv (eget e 0)) (some 5) e M fun e M =>
    nx (oLen cx.P 9 (eget e 5) M) (some 6) e M fun e M =>
    nx (oBin cx.P .lss 3 (eget e 4) (eget e 6) M) (some 7) e M fun e M =>
    some (e, M)).map fun q => (prune [0, 3, 7] q.1, q.2)
noncomputable def f56_r3 (call : CallF) : Env → Mem → Option (Env × Mem) := fun e M =>
    (nx (oMv (eget e 3)) (some 8) e M fun e M =>
    nx (oBin cx.P .add 3 (eget e 8) (.int .i64 1) M) (some 9) e M fun e M =>
    nx (oMv (eget e 9)) (some 3) e M fun e M =>
    some (e, M)).map fun q => (prune [0, 3] q.1, q.2)
noncomputable def f56_r4 (call : CallF) : Env → Mem → Option (Env × Mem) := fun e M =>
    (nx (oMv (eget e 0)) (some 10) e M fun e M =>
    nx (oMv (eget e 3)) (some 11) e M fun e M =>
    nx (keep (aIndexB (eget e 10) (eget e 11))) (some 12) e M fun e M =>
    nx (oBin cx.P .lss 5 (eget e 12) (.int .u8 97) M) (some 13) e M fun e M =>
    nx (oMv (eget e 13)) (some 14) e M fun e M =>
    nx (aGuard (some ((eget e 14), false)) (oMv (eget e 0))) (some 15) e M fun e M =>
    nx (aGuard (some ((eget e 14), false)) (oMv (eget e 3))) (some 16) e M fun e M =>
    nx (aGuard (some ((eget e 14), false)) (keep (aIndexB (eget e 15) (eget e 16)))) (some 17) e M fun e M =>
    nx (aGuard (some ((eget e 14), false)) (oBin cx.P .gtr 5 (eget e 17) (.int .u8 122) M)) (some 18) e M fun e M =>
    nx (keep (aPick (eget e 14) (.bool true) (eget e 18))) (some 19) e M fun e M =>
    some (e, M)).map fun q => (prune [0, 3, 19] q.1, q.2)
noncomputable def f56_r5 (call : CallF) : Env → Mem → Option (Env × Mem) := fun e M =>
    (nx (oMv (.bool false)) (some 2) e M fun e M =>
    some (e, M)).map fun q => (prune [2] q.1, q.2)
noncomputable def f56_r6 (call : CallF) : Env → Mem → Option (Env × Mem) := fun e M =>
    (nx (oMv (eget e 0)) (some 20) e M fun e M =>
    nx (oBin cx.P .neq 9 (eget e 20) (.str []) M) (some 21) e M fun e M =>
    nx (oMv (eget e 21)) (some 22) e M fun e M =>
    nx (aGuard (some ((eget e 22), true)) (oMv (eget e 0))) (some 23) e M fun e M =>
    nx (aGuard (some ((eget e 22), true)) (oLen cx.P 9 (eget e 23) M)) (some 24) e M fun e M =>
    nx (aGuard (some ((eget e 22), true)) (oBin cx.P .leq 3 (eget e 24) (.int .i64 12) M)) (some 25) e M fun e M =>
    nx (keep (aPick (eget e 22) (eget e 25) (.bool false))) (some 26) e M fun e M =>
    nx (oMv (eget e 26)) (some 2) e M fun e M =>
    some (e, M)).map fun q => (prune [2] q.1, q.2)
noncomputable def f56_l2 (call : CallF) (k : Nat) : St :=
  (bSeq (bSeq (bReg (f56_r2 call))
  (bCond (.tmp 7)
   (bEx .nrm)
   (bEx (.ext 0))))
  (bSeq (bBlock 1 (bSeq (bReg (f56_r4 call))
   (bCond (.tmp 19)
    (bSeq (bReg (f56_r5 call))
    (bEx .ret))
    (bEx .nrm))))
  (bReg (f56_r3 call))))
noncomputable def f56 (call : CallF) (k : Nat) : St :=
  (bSeq (bReg (f56_r0 call))
  (bSeq (bSeq (bReg (f56_r1 call))
  (bBlock 0 (bLoop [0, 3] (f56_l2 call k) k)))
  (bSeq (bReg (f56_r6 call))
  (bEx .ret))))
theorem f56_eq (call : CallF) (k : Nat) : exec cx call 27 f56_an k (Try.f56.body.getD .skip) = f56 call k := by kernel_rfl
/-! ### f57: loop.example/g01263/impl.isLetters -/
def f57_an : Ann := ⟨[(0, ⟨[], [], [], [], [0, 1]⟩), (1, ⟨[], [], [], [], [0, 1, 7, 8]⟩), (2, ⟨[], [], [], [], [0, 1, 7, 8, 9]⟩), (3, ⟨[], [], [], [], [0, 1, 5, 7, 8]⟩), (4, ⟨[], [], [], [], [0, 1, 7, 8, 20]⟩), (5, ⟨[], [], [], [], [4]⟩), (6, ⟨[], [], [], [], [0, 1, 7, 8]⟩), (7, ⟨[], [], [], [], [4]⟩)], [(2, [0, 1, 7, 8])]⟩
noncomputable def f57_r0 (call : CallF) : Env → Mem → Option (Env × Mem) := fun e M =>
    (nx (oMv (.bool false)) (some 4) e M fun e M =>
    some (e, M)).map fun q => (prune [0, 1] q.1, q.2)
noncomputable def f57_r1 (call : CallF) : Env → Mem → Option (Env × Mem) := fun e M =>
    (nx (oMv (eget e 0)) (some 6) e M fun e M =>
    nx (oLen cx.P 9 (eget e 6) M) (some 7) e M fun e M =>
    nx (oMv (.int .i64 0)) (some 8) e M fun e M =>
    some (e, M)).map fun q => (prune [0, 1, 7, 8] q.1, q.2)
noncomputable def f57_r2 (call : CallF) : Env → Mem → Option (Env × Mem) := fun e M =>
    (nx (oBin cx.P .lss 3 (eget e 8) (eget e 7) M) (some 9) e M fun e M =>
    some (e, M)).map fun q => (prune [0, 1, 7, 8, 9] q.1, q.2)
noncomputable def f57_r3 (call : CallF) : Env → Mem → Option (Env × Mem) := fun e M =>
    (nx (oMv (eget e 8)) (some 10) e M fun e M =>
    nx (oMv (eget e 10)) (some 5) e M fun e M =>
    some (e, M)).map fun q => (prune [0, 1, 5, 7, 8] q.1, q.2)
noncomputable def f57_r4 (call : CallF) : Env → Mem → Option (Env × Mem) := fun e M =>
    (nx (oMv (eget e 0)) (some 11) e M fun e M =>
    nx (oMv (eget e 5)) (some 12) e M fun e M =>
    nx (keep (aIndexB (eget e 11) (eget e 12))) (some 13) e M fun e M =>
    nx (oBin cx.P .lss 5 (eget e 13) (.int .u8 97) M) (some 14) e M fun e M =>
    nx (oMv (eget e 14)) (some 15) e M fun e M =>
    nx (aGuard (some ((eget e 15), false)) (oMv (eget e 0))) (some 16) e M fun e M =>
    nx (aGuard (some ((eget e 15), false)) (oMv (eget e 5))) (some 17) e M fun e M =>
    nx (aGuard (some ((eget e 15), false)) (keep (aIndexB (eget e 16) (eget e 17)))) (some 18) e M fun e M =>
    nx (aGuard (some ((eget e 15), false)) (oBin cx.P .gtr 5 (eget e 18) (.int .u8 122) M)) (some 19) e M fun e M =>
    nx (keep (aPick (eget e 15) (.bool true) (eget e 19))) (some 20) e M fun e M =>
    some (e, M)).map fun q => (prune [0, 1, 7, 8, 20] q.1, q.2)
noncomputable def f57_r5 (call : CallF) : Env → Mem → Option (Env × Mem) := fun e M =>
    (nx (oMv (.bool false)) (some 4) e M fun e M =>
    some (e, M)).map fun q => (prune [4] q.1, q.2)
noncomputable def f57_r6 (call : CallF) : Env → Mem → Option (Env × Mem) := fun e M =>
    (nx (oBin cx.P .add 3 (eget e 8) (.int .i64 1) M) (some 21) e M fun e M =>
    nx (oMv (eget e 21)) (some 8) e M fun e M =>
    some (e, M)).map fun q => (prune [0, 1, 7, 8] q.1, q.2)
noncomputable def f57_r7 (call : CallF) : Env → Mem → Option (Env × Mem) := fun e M =>
    (nx (oMv (eget e 0)) (some 22) e M fun e M =>
    nx (oLen cx.P 9 (eget e 22) M) (some 23) e M fun e M =>
    nx (oBin cx.P .geq 3 (eget e 23) (.int .i64 1) M) (some 24) e M fun e M =>
    nx (oMv (eget e 24)) (some 25) e M fun e M =>
    nx (aGuard (some ((eget e 25), true)) (oMv (eget e 0))) (some 26) e M fun e M =>
    nx (aGuard (some ((eget e 25), true)) (oLen cx.P 9 (eget e 26) M)) (some 27) e M fun e M =>
    nx (aGuard (some ((eget e 25), true)) (oMv (eget e 1))) (some 28) e M fun e M =>
    nx (aGuard (some ((eget e 25), true)) (oBin cx.P .leq 3 (eget e 27) (eget e 28) M)) (some 29) e M fun e M =>
    nx (keep (aPick (eget e 25) (eget e 29) (.bool false))) (some 30) e M fun e M =>
    nx (oMv (eget e 30)) (some 4) e M fun e M =>
    some (e, M)).map fun q => (prune [4] q.1, q.2)
noncomputable def f57_l2 (call : CallF) (k : Nat) : St :=
  (bSeq (bReg (f57_r2 call))
  (bSeq (bCond (.tmp 9)
   (bEx .nrm)
   (bEx (.ext 0)))
  (bSeq (bBlock 1 (bSeq (bReg (f57_r3 call))
   (bSeq (bReg (f57_r4 call))
   (bCond (.tmp 20)
    (bSeq (bReg (f57_r5 call))
    (bEx .ret))
    (bEx .nrm)))))
  (bReg (f57_r6 call)))))
noncomputable def f57 (call : CallF) (k : Nat) : St :=
  (bSeq (bReg (f57_r0 call))
  (bSeq (bSeq (bReg (f57_r1 call))
  (bBlock 0 (bLoop [0, 1, 7, 8] (f57_l2 call k) k)))
  (bSeq (bReg (f57_r7 call))
  (bEx .ret))))
theorem f57_eq (call : CallF) (k : Nat) : exec cx call 31 f57_an k (Try.f57.body.getD .skip) = f57 call k := by kernel_rfl
/-! ### f58: slices.IndexFunc[[]loop.example/g01263/impl.Party,loop.example/g01263/impl.Party] -/
def f58_an : Ann := ⟨[(0, ⟨[], [], [], [], [0, 1]⟩), (1, ⟨[], [], [], [], [0, 1, 7, 8]⟩), (2, ⟨[], [], [], [], [0, 1, 7, 8, 9]⟩), (3, ⟨[], [], [], [], [0, 1, 5, 7, 8]⟩), (4, ⟨[], [], [], [], [0, 1, 5, 7, 8, 16]⟩), (5, ⟨[], [], [], [], [4]⟩), (6, ⟨[], [], [], [], [0, 1, 7, 8]⟩), (7, ⟨[], [], [], [], [4]⟩)], [(2, [0, 1, 7, 8])]⟩
noncomputable def f58_r0 (call : CallF) : Env → Mem → Option (Env × Mem) := fun e M =>
    (nx (oMv (.int .i64 0)) (some 4) e M fun e M =>
    some (e, M)).map fun q => (prune [0, 1] q.1, q.2)
noncomputable def f58_r1 (call : CallF) : Env → Mem → Option (Env × Mem) := fun e M =>
    (nx (oMv (eget e 0)) (some 6) e M fun e M =>
    nx (oLen cx.P 39 (eget e 6) M) (some 7) e M fun e M =>
    nx (oMv (.int .i64 0)) (some 8) e M fun e M =>
    some (e, M)).map fun q => (prune [0, 1, 7, 8] q.1, q.2)
noncomputable def f58_r2 (call : CallF) : Env → Mem → Option (Env × Mem) := fun e M =>
    (nx (oBin cx.P .lss 3 (eget e 8) (eget e 7) M) (some 9) e M fun e M =>
    some (e, M)).map fun q => (prune [0, 1, 7, 8, 9] q.1, q.2)
noncomputable def f58_r3 (call : CallF) : Env → Mem → Option (Env × Mem) := fun e M =>
    (nx (oMv (eget e 8)) (some 10) e M fun e M =>
    nx (oMv (eget e 10)) (some 5) e M fun e M =>
    some (e, M)).map fun q => (prune [0, 1, 5, 7, 8] q.1, q.2)
noncomputable def f58_r4 (call : CallF) : Env → Mem → Option (Env × Mem) := fun e M =>
    (nx (oMv (eget e 1)) (some 11) e M fun e M =>
    nx (oMv (eget e 0)) (some 12) e M fun e M =>
    nx (oMv (eget e 5)) (some 13) e M fun e M =>
    nx (keep (aIndexS 2 (eget e 12) (eget e 13) M)) (some 14) e M fun e M =>
    nx (keep (aLoad true 2 (eget e 14) M)) (some 15) e M fun e M =>
    nx (oCall cx call false M.length (eget e 11) [(eget e 15)] M) (some 16) e M fun e M =>
    some (e, M)).map fun q => (prune [0, 1, 5, 7, 8, 16] q.1, q.2)
noncomputable def f58_r5 (call : CallF) : Env → Mem → Option (Env × Mem) := fun e M =>
    (nx (oMv (eget e 5)) (some 17) e M fun e M =>
    nx (oMv (eget e 17)) (some 4) e M fun e M =>
    some (e, M)).map fun q => (prune [4] q.1, q.2)
noncomputable def f58_r6 (call : CallF) : Env → Mem → Option (Env × Mem) := fun e M =>
    (nx (oBin cx.P .add 3 (eget e 8) (.int .i64 1) M) (some 18) e M fun e M =>
    nx (oMv (eget e 18)) (some 8) e M fun e M =>
    some (e, M)).map fun q => (prune [0, 1, 7, 8] q.1, q.2)
noncomputable def f58_r7 (call : CallF) : Env → Mem → Option (Env × Mem) := fun e M =>
    (nx (oMv (.int .i64 (-1))) (some 4) e M fun e M =>
    some (e, M)).map fun q => (prune [4] q.1, q.2)
noncomputable def f58_l2 (call : CallF) (k : Nat) : St :=
  (bSeq (bReg (f58_r2 call))
  (bSeq (bCond (.tmp 9)
   (bEx .nrm)
   (bEx (.ext 0)))
  (bSeq (bBlock 1 (bSeq (bReg (f58_r3 call))
   (bSeq (bReg (f58_r4 call))
   (bCond (.tmp 16)
    (bSeq (bReg (f58_r5 call))
    (bEx .ret))
    (bEx .nrm)))))
  (bReg (f58_r6 call)))))
noncomputable def f58 (call : CallF) (k : Nat) : St :=
  (bSeq (bReg (f58_r0 call))
  (bSeq (bSeq (bReg (f58_r1 call))
  (bBlock 0 (bLoop [0, 1, 7, 8] (f58_l2 call k) k)))
  (bSeq (bReg (f58_r7 call))
  (bEx .ret))))
theorem f58_eq (call : CallF) (k : Nat) : exec cx call 19 f58_an k (Try.f58.body.getD .skip) = f58 call k := by kernel_rfl
/-! ### f59: loop.example/g01263/impl.find$1 -/
def f59_an : Ann := ⟨[(0, ⟨[], [], [], [], [1, 2]⟩), (1, ⟨[], [], [], [], [3]⟩)], []⟩
noncomputable def f59_r0 (call : CallF) : Env → Mem → Option (Env × Mem) := fun e M =>
    (nx (keep (aBox 2 (eget e 0) M)) (some 2) e M fun e M =>
    nx (oMv (.bool false)) (some 3) e M fun e M =>
    some (e, M)).map fun q => (prune [1, 2] q.1, q.2)
noncomputable def f59_r1 (call : CallF) : Env → Mem → Option (Env × Mem) := fun e M =>
    (nx (keep (aFieldAddr 0 1 (eget e 2) M)) (some 4) e M fun e M =>
    nx (keep (aLoad false 1 (eget e 4) M)) (some 5) e M fun e M =>
    nx (keep (aLoad false 1 (eget e 1) M)) (some 6) e M fun e M =>
    nx (oBin cx.P .eql 9 (eget e 5) (eget e 6) M) (some 7) e M fun e M =>
    nx (oMv (eget e 7)) (some 3) e M fun e M =>
    some (e, M)).map fun q => (prune [3] q.1, q.2)
noncomputable def f59 (call : CallF) (k : Nat) : St :=
  (bSeq (bReg (f59_r0 call))
  (bSeq (bReg (f59_r1 call))
  (bEx .ret)))
theorem f59_eq (call : CallF) (k : Nat) : exec cx call 8 f59_an k (Try.f59.body.getD .skip) = f59 call k := by kernel_rfl
def anns : List (Nat × Ann) := [(5, f5_an), (18, f18_an), (19, f19_an), (20, f20_an), (21, f21_an), (22, f22_an), (39, f39_an), (40, f40_an), (41, f41_an), (42, f42_an), (43, f43_an), (44, f44_an), (45, f45_an), (56, f56_an), (57, f57_an), (58, f58_an), (59, f59_an)]
noncomputable def CN : Nat → CallF := callN cx (Go.Ab.look anns) (fun _ _ _ => none) (fun _ => false)
end Go.Proofs.Ytaocojognonkcaa

/- Printed by a program of ours (ext.py). -/
import Derived.Test.YtaocojognonkcaaAbPure
import Derived.Test.YtaocojognonkcaaProg
set_option linter.unusedVariables false
set_option maxRecDepth 100000
set_option maxHeartbeats 2000000
namespace Go.Proofs.Ytaocojognonkcaa
open Go Go.Ab
noncomputable def cx : Cx := ⟨Try.prog, fun f => has [] f⟩
/-! ### f7: loop.example/g01263/laws.FnExactSameBook -/
def f7_an : Ann := ⟨[(0, ⟨[], [], [], [], [2, 3]⟩), (1, ⟨[], [], [], [], [2, 3, 5]⟩), (2, ⟨[], [], [], [], [2, 3, 5]⟩), (3, ⟨[], [], [], [], [2, 3, 5, 14]⟩), (4, ⟨[], [], [], [], [4]⟩), (5, ⟨[], [], [], [], [2, 3, 5]⟩), (6, ⟨[], [], [], [], [2, 3, 19]⟩), (7, ⟨[], [], [], [], [4]⟩), (8, ⟨[], [], [], [], [2, 3, 6]⟩), (9, ⟨[], [1], [], [], [2, 3, 6, 7]⟩), (10, ⟨[], [1], [], [], [2, 3, 6, 7, 8]⟩), (11, ⟨[], [], [], [], [2, 3, 6, 7, 8, 9]⟩), (12, ⟨[], [], [], [], [2, 3, 7, 8, 34]⟩), (13, ⟨[], [], [], [], [4]⟩), (14, ⟨[], [], [], [], [3, 8, 39]⟩), (15, ⟨[], [], [], [], [4]⟩), (16, ⟨[], [], [], [], [44]⟩), (17, ⟨[], [], [], [], [4]⟩), (18, ⟨[], [], [], [], [4]⟩)], []⟩
noncomputable def f7_r0 (call : CallF) : Env → Mem → Option (Env × Mem) := fun e M =>
    (nx (keep (aBox 3 (eget e 0) M)) (some 2) e M fun e M =>
    nx (keep (aBox 3 (eget e 1) M)) (some 3) e M fun e M =>
    nx (oMv (.bool false)) (some 4) e M fun e M =>
    some (e, M)).map fun q => (prune [2, 3] q.1, q.2)
noncomputable def f7_r1 (call : CallF) : Env → Mem → Option (Env × Mem) := fun e M =>
    (nx (oMv (.int .i64 1048576)) (some 5) e M fun e M =>
    some (e, M)).map fun q => (prune [2, 3, 5] q.1, q.2)
noncomputable def f7_r2 (call : CallF) : Env → Mem → Option (Env × Mem) := fun e M =>
    (nx (keep (aLoad true 3 (eget e 2) M)) (some 10) e M fun e M =>
    nx (oMv (eget e 5)) (some 11) e M fun e M =>
    nx (aCall cx.P.cellsOf cx.rw call false M.length 25 [(eget e 10), (eget e 11)] M) (some 12) e M fun e M =>
    nx (oMv (eget e 12)) (some 5) e M fun e M =>
    some (e, M)).map fun q => (prune [2, 3, 5] q.1, q.2)
noncomputable def f7_r3 (call : CallF) : Env → Mem → Option (Env × Mem) := fun e M =>
    (nx (oMv (eget e 5)) (some 13) e M fun e M =>
    nx (oBin cx.P .lss 3 (eget e 13) (.int .i64 0) M) (some 14) e M fun e M =>
    some (e, M)).map fun q => (prune [2, 3, 5, 14] q.1, q.2)
noncomputable def f7_r4 (call : CallF) : Env → Mem → Option (Env × Mem) := fun e M =>
    (nx (oMv (.bool true)) (some 4) e M fun e M =>
    some (e, M)).map fun q => (prune [4] q.1, q.2)
noncomputable def f7_r5 (call : CallF) : Env → Mem → Option (Env × Mem) := fun e M =>
    (nx (keep (aLoad true 3 (eget e 3) M)) (some 15) e M fun e M =>
    nx (oMv (eget e 5)) (some 16) e M fun e M =>
    nx (aCall cx.P.cellsOf cx.rw call false M.length 25 [(eget e 15), (eget e 16)] M) (some 17) e M fun e M =>
    nx (oMv (eget e 17)) (some 5) e M fun e M =>
    some (e, M)).map fun q => (prune [2, 3, 5] q.1, q.2)
noncomputable def f7_r6 (call : CallF) : Env → Mem → Option (Env × Mem) := fun e M =>
    (nx (oMv (eget e 5)) (some 18) e M fun e M =>
    nx (oBin cx.P .lss 3 (eget e 18) (.int .i64 0) M) (some 19) e M fun e M =>
    some (e, M)).map fun q => (prune [2, 3, 19] q.1, q.2)
noncomputable def f7_r7 (call : CallF) : Env → Mem → Option (Env × Mem) := fun e M =>
    (nx (oMv (.bool true)) (some 4) e M fun e M =>
    some (e, M)).map fun q => (prune [4] q.1, q.2)
noncomputable def f7_r8 (call : CallF) : Env → Mem → Option (Env × Mem) := fun e M =>
    rD [2, 3, 6] (fun (C : List Ob) =>
    nf (keep (aLoad true 3 (eget e 2) M)) (some 20) false e C fun e C =>
    nf (aCall cx.P.cellsOf cx.rw call false (M.length + C.length) 27 [(eget e 20)] M) (some 21) false e C fun e C =>
    nf (keep (aLoad true 3 (eget e 3) M)) (some 22) false e C fun e C =>
    nf (aCall cx.P.cellsOf cx.rw call false (M.length + C.length) 27 [(eget e 22)] M) (some 23) false e C fun e C =>
    nf (aCall cx.P.cellsOf cx.rw call false (M.length + C.length) 26 [(eget e 21), (eget e 23)] M) (some 24) false e C fun e C =>
    nf (oMv (eget e 24)) (some 6) false e C fun e C =>
    some (e, C)) (fun (e : Env) (M : Mem) =>
    some (e, M)) M
noncomputable def f7_r9 (call : CallF) : Env → Mem → Option (Env × Mem) := fun e M =>
    (nx (keep (aLoad true 3 (eget e 2) M)) (some 25) e M fun e M =>
    nx (aCall cx.P.cellsOf cx.rw call true M.length 27 [(eget e 25)] M) (some 26) e M fun e M =>
    nx (oAlloc cx.P M.length 53 3) (some 7) e M fun e M =>
    nx (oStore 3 (eget e 7) (eget e 26) M) none e M fun e M =>
    some (e, M)).map fun q => (prune [2, 3, 6, 7] q.1, q.2)
noncomputable def f7_r10 (call : CallF) : Env → Mem → Option (Env × Mem) := fun e M =>
    (nx (keep (aLoad true 3 (eget e 3) M)) (some 27) e M fun e M =>
    nx (aCall cx.P.cellsOf cx.rw call true M.length 27 [(eget e 27)] M) (some 28) e M fun e M =>
    nx (oAlloc cx.P M.length 53 3) (some 8) e M fun e M =>
    nx (oStore 3 (eget e 8) (eget e 28) M) none e M fun e M =>
    some (e, M)).map fun q => (prune [2, 3, 6, 7, 8] q.1, q.2)
noncomputable def f7_r11 (call : CallF) : Env → Mem → Option (Env × Mem) := fun e M =>
    (nx (keep (aLoad true 3 (eget e 7) M)) (some 29) e M fun e M =>
    nx (keep (aLoad true 3 (eget e 8) M)) (some 30) e M fun e M =>
    nx (aCall cx.P.cellsOf cx.rw call false M.length 28 [(eget e 29), (eget e 30)] M) (some 31) e M fun e M =>
    nx (oMv (eget e 31)) (some 9) e M fun e M =>
    some (e, M)).map fun q => (prune [2, 3, 6, 7, 8, 9] q.1, q.2)
noncomputable def f7_r12 (call : CallF) : Env → Mem → Option (Env × Mem) := fun e M =>
    (nx (oMv (eget e 9)) (some 32) e M fun e M =>
    nx (oMv (eget e 6)) (some 33) e M fun e M =>
    nx (oBin cx.P .neq 4 (eget e 32) (eget e 33) M) (some 34) e M fun e M =>
    some (e, M)).map fun q => (prune [2, 3, 7, 8, 34] q.1, q.2)
noncomputable def f7_r13 (call : CallF) : Env → Mem → Option (Env × Mem) := fun e M =>
    (nx (oMv (.bool false)) (some 4) e M fun e M =>
    some (e, M)).map fun q => (prune [4] q.1, q.2)
noncomputable def f7_r14 (call : CallF) : Env → Mem → Option (Env × Mem) := fun e M =>
    rD [3, 8, 39] (fun (C : List Ob) =>
    nf (keep (aLoad true 3 (eget e 7) M)) (some 35) false e C fun e C =>
    nf (keep (aLoad true 3 (eget e 2) M)) (some 36) false e C fun e C =>
    nf (aCall cx.P.cellsOf cx.rw call false (M.length + C.length) 27 [(eget e 36)] M) (some 37) false e C fun e C =>
    nf (aCall cx.P.cellsOf cx.rw call false (M.length + C.length) 29 [(eget e 35), (eget e 37)] M) (some 38) false e C fun e C =>
    nf (keep (aUn .not (eget e 38))) (some 39) false e C fun e C =>
    some (e, C)) (fun (e : Env) (M : Mem) =>
    some (e, M)) M
noncomputable def f7_r15 (call : CallF) : Env → Mem → Option (Env × Mem) := fun e M =>
    (nx (oMv (.bool false)) (some 4) e M fun e M =>
    some (e, M)).map fun q => (prune [4] q.1, q.2)
noncomputable def f7_r16 (call : CallF) : Env → Mem → Option (Env × Mem) := fun e M =>
    rD [44] (fun (C : List Ob) =>
    nf (keep (aLoad true 3 (eget e 8) M)) (some 40) false e C fun e C =>
    nf (keep (aLoad true 3 (eget e 3) M)) (some 41) false e C fun e C =>
    nf (aCall cx.P.cellsOf cx.rw call false (M.length + C.length) 27 [(eget e 41)] M) (some 42) false e C fun e C =>
    nf (aCall cx.P.cellsOf cx.rw call false (M.length + C.length) 29 [(eget e 40), (eget e 42)] M) (some 43) false e C fun e C =>
    nf (keep (aUn .not (eget e 43))) (some 44) false e C fun e C =>
    some (e, C)) (fun (e : Env) (M : Mem) =>
    some (e, M)) M
noncomputable def f7_r17 (call : CallF) : Env → Mem → Option (Env × Mem) := fun e M =>
    (nx (oMv (.bool false)) (some 4) e M fun e M =>
    some (e, M)).map fun q => (prune [4] q.1, q.2)
noncomputable def f7_r18 (call : CallF) : Env → Mem → Option (Env × Mem) := fun e M =>
    (nx (oMv (.bool true)) (some 4) e M fun e M =>
    some (e, M)).map fun q => (prune [4] q.1, q.2)
noncomputable def f7 (call : CallF) (k : Nat) : St :=
  (bSeq (bReg (f7_r0 call))
  (bSeq (bReg (f7_r1 call))
  (bSeq (bReg (f7_r2 call))
  (bSeq (bSeq (bReg (f7_r3 call))
  (bCond (.tmp 14)
   (bSeq (bReg (f7_r4 call))
   (bEx .ret))
   (bEx .nrm)))
  (bSeq (bReg (f7_r5 call))
  (bSeq (bSeq (bReg (f7_r6 call))
  (bCond (.tmp 19)
   (bSeq (bReg (f7_r7 call))
   (bEx .ret))
   (bEx .nrm)))
  (bSeq (bReg (f7_r8 call))
  (bSeq (bReg (f7_r9 call))
  (bSeq (bReg (f7_r10 call))
  (bSeq (bReg (f7_r11 call))
  (bSeq (bSeq (bReg (f7_r12 call))
  (bCond (.tmp 34)
   (bSeq (bReg (f7_r13 call))
   (bEx .ret))
   (bEx .nrm)))
  (bSeq (bSeq (bReg (f7_r14 call))
  (bCond (.tmp 39)
   (bSeq (bReg (f7_r15 call))
   (bEx .ret))
   (bEx .nrm)))
  (bSeq (bSeq (bReg (f7_r16 call))
  (bCond (.tmp 44)
   (bSeq (bReg (f7_r17 call))
   (bEx .ret))
   (bEx .nrm)))
  (bSeq (bReg (f7_r18 call))
  (bEx .ret)))))))))))))))
theorem f7_eq (call : CallF) (k : Nat) : exec cx call 45 f7_an k (Try.f7.body.getD .skip) = f7 call k := by kernel_rfl
/-! ### f13: loop.example/g01263/laws.toInt64S -/
def f13_an : Ann := ⟨[(0, ⟨[], [], [], [], [0]⟩), (1, ⟨[], [], [], [], [0, 3]⟩), (2, ⟨[], [], [], [], [0, 3, 4]⟩), (3, ⟨[], [], [], [], [0, 3, 4, 11]⟩), (4, ⟨[], [], [], [], [0, 3, 4]⟩), (5, ⟨[], [], [], [], [0, 3, 4]⟩), (6, ⟨[], [], [], [], [2]⟩)], [(3, [0, 3, 4])]⟩
noncomputable def f13_r0 (call : CallF) : Env → Mem → Option (Env × Mem) := fun e M =>
    (nx (oMv .nils) (some 2) e M fun e M =>
    some (e, M)).map fun q => (prune [0] q.1, q.2)
noncomputable def f13_r1 (call : CallF) : Env → Mem → Option (Env × Mem) := fun e M =>
    (nx (oMv (eget e 0)) (some 5) e M fun e M =>
    nx (oLen cx.P 29 (eget e 5) M) (some 6) e M fun e M =>
    nx (aMakeO M.length 2 1 8 (zeroOf cx.P 2) (eget e 6) (eget e 6)) (some 7) e M fun e M =>
    nx (oMv (eget e 7)) (some 3) e M fun e M =>
    some (e, M)).map fun q => (prune [0, 3] q.1, q.2)
noncomputable def f13_r2 (call : CallF) : Env → Mem → Option (Env × Mem) := fun e M =>
    (nx (oMv (.int .i64 0)) (some 4) e M fun e M =>
    some (e, M)).map fun q => (prune [0, 3, 4] q.1, q.2)
noncomputable def f13_r3 (call : CallF) : Env → Mem → Option (Env × Mem) := fun e M =>
    (nx (oMv (eget e 4)) (some 8) e M fun e M =>
    nx (oMv (eget e 0)) (some 9) e M fun e M =>
    nx (oLen cx.P 29 (eget e 9) M) (some 10) e M fun e M =>
    nx (oBin cx.P .lss 3 (eget e 8) (eget e 10) M) (some 11) e M fun e M =>
    some (e, M)).map fun q => (prune [0, 3, 4, 11] q.1, q.2)
noncomputable def f13_r4 (call : CallF) : Env → Mem → Option (Env × Mem) := fun e M =>
    (nx (oMv (eget e 4)) (some 12) e M fun e M =>
    nx (oBin cx.P .add 3 (eget e 12) (.int .i64 1) M) (some 13) e M fun e M =>
    nx (oMv (eget e 13)) (some 4) e M fun e M =>
    some (e, M)).map fun q => (prune [0, 3, 4] q.1, q.2)
noncomputable def f13_r5 (call : CallF) : Env → Mem → Option (Env × Mem) := fun e M =>
    (nx (oMv (eget e 3)) (some 14) e M fun e M =>
    nx (oMv (eget e 4)) (some 15) e M fun e M =>
    nx (oMv (eget e 0)) (some 16) e M fun e M =>
    nx (oMv (eget e 4)) (some 17) e M fun e M =>
    nx (keep (aIndexS 1 (eget e 16) (eget e 17) M)) (some 18) e M fun e M =>
    nx (keep (aLoad false 1 (eget e 18) M)) (some 19) e M fun e M =>
    nx (keep (aIndexS 1 (eget e 14) (eget e 15) M)) (some 20) e M fun e M =>
    nx (oStore 1 (eget e 20) (eget e 19) M) none e M fun e M =>
    some (e, M)).map fun q => (prune [0, 3, 4] q.1, q.2)
noncomputable def f13_r6 (call : CallF) : Env → Mem → Option (Env × Mem) := fun e M =>
    (nx (oMv (eget e 3)) (some 21) e M fun e M =>
    nx (oMv (eget e 21)) (some 2) e M fun e M =>
    some (e, M)).map fun q => (prune [2] q.1, q.2)
noncomputable def f13_l3 (call : CallF) (k : Nat) : St :=
  (bSeq (bSeq (bReg (f13_r3 call))
  (bCond (.tmp 11)
   (bEx .nrm)
   (bEx (.ext 0))))
  (bSeq (bBlock 1 (bReg (f13_r5 call)))
  (bReg (f13_r4 call))))
noncomputable def f13 (call : CallF) (k : Nat) : St :=
  (bSeq (bReg (f13_r0 call))
  (bSeq (bReg (f13_r1 call))
  (bSeq (bSeq (bReg (f13_r2 call))
  (bBlock 0 (bLoop [0, 3, 4] (f13_l3 call k) k)))
  (bSeq (bReg (f13_r6 call))
  (bEx .ret)))))
theorem f13_eq (call : CallF) (k : Nat) : exec cx call 22 f13_an k (Try.f13.body.getD .skip) = f13 call k := by kernel_rfl
/-! ### f15: loop.example/g01263/laws.eqInt64S -/
def f15_an : Ann := ⟨[(0, ⟨[], [], [], [], [0, 1]⟩), (1, ⟨[], [], [], [], [0, 1, 10]⟩), (2, ⟨[], [], [], [], [4]⟩), (3, ⟨[], [], [], [], [0, 1, 5]⟩), (4, ⟨[], [], [], [], [0, 1, 5, 14]⟩), (5, ⟨[], [], [], [], [0, 1, 5]⟩), (6, ⟨[], [], [], [], [0, 1, 5, 25]⟩), (7, ⟨[], [], [], [], [4]⟩), (8, ⟨[], [], [], [], [4]⟩)], [(4, [0, 1, 5])]⟩
noncomputable def f15_r0 (call : CallF) : Env → Mem → Option (Env × Mem) := fun e M =>
    (nx (oMv (.bool false)) (some 4) e M fun e M =>
    some (e, M)).map fun q => (prune [0, 1] q.1, q.2)
noncomputable def f15_r1 (call : CallF) : Env → Mem → Option (Env × Mem) := fun e M =>
    (nx (oMv (eget e 0)) (some 6) e M fun e M =>
    nx (oLen cx.P 29 (eget e 6) M) (some 7) e M fun e M =>
    nx (oMv (eget e 1)) (some 8) e M fun e M =>
    nx (oLen cx.P 29 (eget e 8) M) (some 9) e M fun e M =>
    nx (oBin cx.P .neq 3 (eget e 7) (eget e 9) M) (some 10) e M fun e M =>
    some (e, M)).map fun q => (prune [0, 1, 10] q.1, q.2)
noncomputable def f15_r2 (call : CallF) : Env → Mem → Option (Env × Mem) := fun e M =>
    (nx (oMv (.bool false)) (some 4) e M fun e M =>
    some (e, M)).map fun q => (prune [4] q.1, q.2)
noncomputable def f15_r3 (call : CallF) : Env → Mem → Option (Env × Mem) := fun e M =>
    (nx (oMv (.int .i64 0)) (some 5) e M fun e M =>
    some (e, M)).map fun q => (prune [0, 1, 5] q.1, q.2)
noncomputable def f15_r4 (call : CallF) : Env → Mem → Option (Env × Mem) := fun e M =>
    (nx (oMv (eget e 5)) (some 11) e M fun e M =>
    nx (oMv (eget e 0)) (some 12) e M fun e M =>
    nx (oLen cx.P 29 (eget e 12) M) (some 13) e M fun e M =>
    nx (oBin cx.P .lss 3 (eget e 11) (eget e 13) M) (some 14) e M fun e M =>
    some (e, M)).map fun q => (prune [0, 1, 5, 14] q.1, q.2)
noncomputable def f15_r5 (call : CallF) : Env → Mem → Option (Env × Mem) := fun e M =>
    (nx (oMv (eget e 5)) (some 15) e M fun e M =>
    nx (oBin cx.P .add 3 (eget e 15) (.int .i64 1) M) (some 16) e M fun e M =>
    nx (oMv (eget e 16)) (some 5) e M fun e M =>
    some (e, M)).map fun q => (prune [0, 1, 5] q.1, q.2)
noncomputable def f15_r6 (call : CallF) : Env → Mem → Option (Env × Mem) := fun e M =>
    rD [0, 1, 5, 25] (fun (C : List Ob) =>
    nf (oMv (eget e 0)) (some 17) false e C fun e C =>
    nf (oMv (eget e 5)) (some 18) false e C fun e C =>
    nf (keep (aIndexS 1 (eget e 17) (eget e 18) M)) (some 19) false e C fun e C =>
    nf (keep (aLoad false 1 (eget e 19) M)) (some 20) false e C fun e C =>
    nf (oMv (eget e 1)) (some 21) false e C fun e C =>
    nf (oMv (eget e 5)) (some 22) false e C fun e C =>
    nf (keep (aIndexS 1 (eget e 21) (eget e 22) M)) (some 23) false e C fun e C =>
    nf (keep (aLoad false 1 (eget e 23) M)) (some 24) false e C fun e C =>
    nf (oBin cx.P .neq 2 (eget e 20) (eget e 24) M) (some 25) false e C fun e C =>
    some (e, C)) (fun (e : Env) (M : Mem) =>
    some (e, M)) M
noncomputable def f15_r7 (call : CallF) : Env → Mem → Option (Env × Mem) := fun e M =>
    (nx (oMv (.bool false)) (some 4) e M fun e M =>
    some (e, M)).map fun q => (prune [4] q.1, q.2)
noncomputable def f15_r8 (call : CallF) : Env → Mem → Option (Env × Mem) := fun e M =>
    (nx (oMv (.bool true)) (some 4) e M fun e M =>
    some (e, M)).map fun q => (prune [4] q.1, q.2)
noncomputable def f15_l4 (call : CallF) (k : Nat) : St :=
  (bSeq (bSeq (bReg (f15_r4 call))
  (bCond (.tmp 14)
   (bEx .nrm)
   (bEx (.ext 0))))
  (bSeq (bBlock 1 (bSeq (bReg (f15_r6 call))
   (bCond (.tmp 25)
    (bSeq (bReg (f15_r7 call))
    (bEx .ret))
    (bEx .nrm))))
  (bReg (f15_r5 call))))
noncomputable def f15 (call : CallF) (k : Nat) : St :=
  (bSeq (bReg (f15_r0 call))
  (bSeq (bSeq (bReg (f15_r1 call))
  (bCond (.tmp 10)
   (bSeq (bReg (f15_r2 call))
   (bEx .ret))
   (bEx .nrm)))
  (bSeq (bSeq (bReg (f15_r3 call))
  (bBlock 0 (bLoop [0, 1, 5] (f15_l4 call k) k)))
  (bSeq (bReg (f15_r8 call))
  (bEx .ret)))))
theorem f15_eq (call : CallF) (k : Nat) : exec cx call 26 f15_an k (Try.f15.body.getD .skip) = f15 call k := by kernel_rfl
/-! ### f25: loop.example/g01263/laws.szBook -/
def f25_an : Ann := ⟨[(0, ⟨[], [], [], [], [1, 2]⟩), (1, ⟨[], [], [], [], [1, 2]⟩), (2, ⟨[], [], [], [], [1, 2, 10]⟩), (3, ⟨[], [], [], [], [4]⟩), (4, ⟨[], [], [], [], [1]⟩), (5, ⟨[], [], [], [], [1, 16]⟩), (6, ⟨[], [], [], [], [4]⟩), (7, ⟨[], [], [], [], [4]⟩)], []⟩
noncomputable def f25_r0 (call : CallF) : Env → Mem → Option (Env × Mem) := fun e M =>
    (nx (keep (aBox 3 (eget e 0) M)) (some 2) e M fun e M =>
    nx (oMv (.int .i64 0)) (some 4) e M fun e M =>
    some (e, M)).map fun q => (prune [1, 2] q.1, q.2)
noncomputable def f25_r1 (call : CallF) : Env → Mem → Option (Env × Mem) := fun e M =>
    (nx (keep (aFieldAddr 1 1 (eget e 2) M)) (some 5) e M fun e M =>
    nx (keep (aLoad false 1 (eget e 5) M)) (some 6) e M fun e M =>
    nx (oMv (eget e 1)) (some 7) e M fun e M =>
    nx (aCall cx.P.cellsOf cx.rw call false M.length 46 [(eget e 6), (eget e 7)] M) (some 8) e M fun e M =>
    nx (oMv (eget e 8)) (some 1) e M fun e M =>
    some (e, M)).map fun q => (prune [1, 2] q.1, q.2)
noncomputable def f25_r2 (call : CallF) : Env → Mem → Option (Env × Mem) := fun e M =>
    (nx (oMv (eget e 1)) (some 9) e M fun e M =>
    nx (oBin cx.P .lss 3 (eget e 9) (.int .i64 0) M) (some 10) e M fun e M =>
    some (e, M)).map fun q => (prune [1, 2, 10] q.1, q.2)
noncomputable def f25_r3 (call : CallF) : Env → Mem → Option (Env × Mem) := fun e M =>
    (nx (oMv (.int .i64 (-1))) (some 4) e M fun e M =>
    some (e, M)).map fun q => (prune [4] q.1, q.2)
noncomputable def f25_r4 (call : CallF) : Env → Mem → Option (Env × Mem) := fun e M =>
    (nx (keep (aFieldAddr 2 1 (eget e 2) M)) (some 11) e M fun e M =>
    nx (keep (aLoad false 1 (eget e 11) M)) (some 12) e M fun e M =>
    nx (oMv (eget e 1)) (some 13) e M fun e M =>
    nx (aCall cx.P.cellsOf cx.rw call false M.length 47 [(eget e 12), (eget e 13)] M) (some 14) e M fun e M =>
    nx (oMv (eget e 14)) (some 1) e M fun e M =>
    some (e, M)).map fun q => (prune [1] q.1, q.2)
noncomputable def f25_r5 (call : CallF) : Env → Mem → Option (Env × Mem) := fun e M =>
    (nx (oMv (eget e 1)) (some 15) e M fun e M =>
    nx (oBin cx.P .lss 3 (eget e 15) (.int .i64 0) M) (some 16) e M fun e M =>
    some (e, M)).map fun q => (prune [1, 16] q.1, q.2)
noncomputable def f25_r6 (call : CallF) : Env → Mem → Option (Env × Mem) := fun e M =>
    (nx (oMv (.int .i64 (-1))) (some 4) e M fun e M =>
    some (e, M)).map fun q => (prune [4] q.1, q.2)
noncomputable def f25_r7 (call : CallF) : Env → Mem → Option (Env × Mem) := fun e M =>
    (nx (oMv (eget e 1)) (some 17) e M fun e M =>
    nx (oMv (eget e 17)) (some 4) e M fun e M =>
    some (e, M)).map fun q => (prune [4] q.1, q.2)
noncomputable def f25 (call : CallF) (k : Nat) : St :=
  (bSeq (bReg (f25_r0 call))
  (bSeq (bReg (f25_r1 call))
  (bSeq (bSeq (bReg (f25_r2 call))
  (bCond (.tmp 10)
   (bSeq (bReg (f25_r3 call))
   (bEx .ret))
   (bEx .nrm)))
  (bSeq (bReg (f25_r4 call))
  (bSeq (bSeq (bReg (f25_r5 call))
  (bCond (.tmp 16)
   (bSeq (bReg (f25_r6 call))
   (bEx .ret))
   (bEx .nrm)))
  (bSeq (bReg (f25_r7 call))
  (bEx .ret)))))))
theorem f25_eq (call : CallF) (k : Nat) : exec cx call 18 f25_an k (Try.f25.body.getD .skip) = f25 call k := by kernel_rfl
/-! ### f26: loop.example/g01263/spec.SameBook -/
def f26_an : Ann := ⟨[(0, ⟨[], [], [], [], [2, 3]⟩), (1, ⟨[], [], [], [], [4]⟩)], []⟩
noncomputable def f26_r0 (call : CallF) : Env → Mem → Option (Env × Mem) := fun e M =>
    (nx (keep (aBox 3 (eget e 0) M)) (some 2) e M fun e M =>
    nx (keep (aBox 3 (eget e 1) M)) (some 3) e M fun e M =>
    nx (oMv (.bool false)) (some 4) e M fun e M =>
    some (e, M)).map fun q => (prune [2, 3] q.1, q.2)
noncomputable def f26_r1 (call : CallF) : Env → Mem → Option (Env × Mem) := fun e M =>
    (nx (aCall cx.P.cellsOf cx.rw call false M.length 48 [(eget e 2), (eget e 3)] M) (some 5) e M fun e M =>
    nx (oMv (eget e 5)) (some 4) e M fun e M =>
    some (e, M)).map fun q => (prune [4] q.1, q.2)
noncomputable def f26 (call : CallF) (k : Nat) : St :=
  (bSeq (bReg (f26_r0 call))
  (bSeq (bReg (f26_r1 call))
  (bEx .ret)))
theorem f26_eq (call : CallF) (k : Nat) : exec cx call 6 f26_an k (Try.f26.body.getD .skip) = f26 call k := by kernel_rfl
/-! ### f27: loop.example/g01263/laws.toBook -/
def f27_an : Ann := ⟨[(0, ⟨[], [], [], [], [1, 2]⟩), (1, ⟨[], [], [], [], [1, 2, 3]⟩), (2, ⟨[], [], [], [], [1, 2, 3]⟩), (3, ⟨[], [2], [], [], [1, 2, 3]⟩), (4, ⟨[], [2], [], [], [2, 3]⟩), (5, ⟨[], [], [], [], [2]⟩)], []⟩
noncomputable def f27_r0 (call : CallF) : Env → Mem → Option (Env × Mem) := fun e M =>
    (nx (keep (aBox 3 (eget e 0) M)) (some 1) e M fun e M =>
    nx (oAlloc cx.P M.length 53 3) (some 2) e M fun e M =>
    some (e, M)).map fun q => (prune [1, 2] q.1, q.2)
noncomputable def f27_r1 (call : CallF) : Env → Mem → Option (Env × Mem) := fun e M =>
    (nx (oAlloc cx.P M.length 53 3) (some 3) e M fun e M =>
    some (e, M)).map fun q => (prune [1, 2, 3] q.1, q.2)
noncomputable def f27_r2 (call : CallF) : Env → Mem → Option (Env × Mem) := fun e M =>
    (nx (keep (aFieldAddr 0 1 (eget e 1) M)) (some 4) e M fun e M =>
    nx (keep (aLoad false 1 (eget e 4) M)) (some 5) e M fun e M =>
    nx (keep (aFieldAddr 0 1 (eget e 3) M)) (some 6) e M fun e M =>
    nx (oStore 1 (eget e 6) (eget e 5) M) none e M fun e M =>
    some (e, M)).map fun q => (prune [1, 2, 3] q.1, q.2)
noncomputable def f27_r3 (call : CallF) : Env → Mem → Option (Env × Mem) := fun e M =>
    (nx (keep (aFieldAddr 1 1 (eget e 1) M)) (some 7) e M fun e M =>
    nx (keep (aLoad false 1 (eget e 7) M)) (some 8) e M fun e M =>
    nx (aCall cx.P.cellsOf cx.rw call true M.length 13 [(eget e 8)] M) (some 9) e M fun e M =>
    nx (keep (aFieldAddr 1 1 (eget e 3) M)) (some 10) e M fun e M =>
    nx (oStore 1 (eget e 10) (eget e 9) M) none e M fun e M =>
    some (e, M)).map fun q => (prune [1, 2, 3] q.1, q.2)
noncomputable def f27_r4 (call : CallF) : Env → Mem → Option (Env × Mem) := fun e M =>
    (nx (keep (aFieldAddr 2 1 (eget e 1) M)) (some 11) e M fun e M =>
    nx (keep (aLoad false 1 (eget e 11) M)) (some 12) e M fun e M =>
    nx (aCall cx.P.cellsOf cx.rw call true M.length 49 [(eget e 12)] M) (some 13) e M fun e M =>
    nx (keep (aFieldAddr 2 1 (eget e 3) M)) (some 14) e M fun e M =>
    nx (oStore 1 (eget e 14) (eget e 13) M) none e M fun e M =>
    some (e, M)).map fun q => (prune [2, 3] q.1, q.2)
noncomputable def f27_r5 (call : CallF) : Env → Mem → Option (Env × Mem) := fun e M =>
    (nx (keep (aLoad true 3 (eget e 3) M)) (some 15) e M fun e M =>
    nx (oStore 3 (eget e 2) (eget e 15) M) none e M fun e M =>
    some (e, M)).map fun q => (prune [2] q.1, q.2)
noncomputable def f27 (call : CallF) (k : Nat) : St :=
  (bSeq (bReg (f27_r0 call))
  (bSeq (bReg (f27_r1 call))
  (bSeq (bReg (f27_r2 call))
  (bSeq (bReg (f27_r3 call))
  (bSeq (bReg (f27_r4 call))
  (bSeq (bReg (f27_r5 call))
  (bEx .ret)))))))
theorem f27_eq (call : CallF) (k : Nat) : exec cx call 16 f27_an k (Try.f27.body.getD .skip) = f27 call k := by kernel_rfl
/-! ### f28: loop.example/g01263/impl.SameBook -/
def f28_an : Ann := ⟨[(0, ⟨[], [], [], [], [2, 3]⟩), (1, ⟨[], [], [], [], [4]⟩)], []⟩
noncomputable def f28_r0 (call : CallF) : Env → Mem → Option (Env × Mem) := fun e M =>
    (nx (keep (aBox 3 (eget e 0) M)) (some 2) e M fun e M =>
    nx (keep (aBox 3 (eget e 1) M)) (some 3) e M fun e M =>
    nx (oMv (.bool false)) (some 4) e M fun e M =>
    some (e, M)).map fun q => (prune [2, 3] q.1, q.2)
noncomputable def f28_r1 (call : CallF) : Env → Mem → Option (Env × Mem) := fun e M =>
    (nx (keep (aFieldAddr 0 1 (eget e 2) M)) (some 5) e M fun e M =>
    nx (keep (aLoad false 1 (eget e 5) M)) (some 6) e M fun e M =>
    nx (keep (aFieldAddr 0 1 (eget e 3) M)) (some 7) e M fun e M =>
    nx (keep (aLoad false 1 (eget e 7) M)) (some 8) e M fun e M =>
    nx (oBin cx.P .eql 2 (eget e 6) (eget e 8) M) (some 9) e M fun e M =>
    nx (oMv (eget e 9)) (some 10) e M fun e M =>
    nx (aGuard (some ((eget e 10), true)) (keep (aFieldAddr 1 1 (eget e 2) M))) (some 11) e M fun e M =>
    nx (aGuard (some ((eget e 10), true)) (keep (aLoad false 1 (eget e 11) M))) (some 12) e M fun e M =>
    nx (aGuard (some ((eget e 10), true)) (keep (aFieldAddr 1 1 (eget e 3) M))) (some 13) e M fun e M =>
    nx (aGuard (some ((eget e 10), true)) (keep (aLoad false 1 (eget e 13) M))) (some 14) e M fun e M =>
    nx (aGuard (some ((eget e 10), true)) (aCall cx.P.cellsOf cx.rw call false M.length 50 [(eget e 12), (eget e 14)] M)) (some 15) e M fun e M =>
    nx (keep (aPick (eget e 10) (eget e 15) (.bool false))) (some 16) e M fun e M =>
    nx (oMv (eget e 16)) (some 17) e M fun e M =>
    nx (aGuard (some ((eget e 17), true)) (keep (aFieldAddr 2 1 (eget e 2) M))) (some 18) e M fun e M =>
    nx (aGuard (some ((eget e 17), true)) (keep (aLoad false 1 (eget e 18) M))) (some 19) e M fun e M =>
    nx (aGuard (some ((eget e 17), true)) (keep (aFieldAddr 2 1 (eget e 3) M))) (some 20) e M fun e M =>
    nx (aGuard (some ((eget e 17), true)) (keep (aLoad false 1 (eget e 20) M))) (some 21) e M fun e M =>
    nx (aGuard (some ((eget e 17), true)) (aCall cx.P.cellsOf cx.rw call false M.length 51 [(eget e 19), (eget e 21)] M)) (some 22) e M fun e M =>
    nx (keep (aPick (eget e 17) (eget e 22) (.bool false))) (some 23) e M fun e M =>
    nx (oMv (eget e 23)) (some 4) e M fun e M =>
    some (e, M)).map fun q => (prune [4] q.1, q.2)
noncomputable def f28 (call : CallF) (k : Nat) : St :=
  (bSeq (bReg (f28_r0 call))
  (bSeq (bReg (f28_r1 call))
  (bEx .ret)))
theorem f28_eq (call : CallF) (k : Nat) : exec cx call 24 f28_an k (Try.f28.body.getD .skip) = f28 call k := by kernel_rfl
/-! ### f29: loop.example/g01263/laws.eqBook -/
def f29_an : Ann := ⟨[(0, ⟨[], [], [], [], [2, 3]⟩), (1, ⟨[], [], [], [], [2, 3, 9]⟩), (2, ⟨[], [], [], [], [4]⟩), (3, ⟨[], [], [], [], [2, 3, 15]⟩), (4, ⟨[], [], [], [], [4]⟩), (5, ⟨[], [], [], [], [21]⟩), (6, ⟨[], [], [], [], [4]⟩), (7, ⟨[], [], [], [], [4]⟩)], []⟩
noncomputable def f29_r0 (call : CallF) : Env → Mem → Option (Env × Mem) := fun e M =>
    (nx (keep (aBox 3 (eget e 0) M)) (some 2) e M fun e M =>
    nx (keep (aBox 3 (eget e 1) M)) (some 3) e M fun e M =>
    nx (oMv (.bool false)) (some 4) e M fun e M =>
    some (e, M)).map fun q => (prune [2, 3] q.1, q.2)
noncomputable def f29_r1 (call : CallF) : Env → Mem → Option (Env × Mem) := fun e M =>
    (nx (keep (aFieldAddr 0 1 (eget e 2) M)) (some 5) e M fun e M =>
    nx (keep (aLoad false 1 (eget e 5) M)) (some 6) e M fun e M =>
    nx (keep (aFieldAddr 0 1 (eget e 3) M)) (some 7) e M fun e M =>
    nx (keep (aLoad false 1 (eget e 7) M)) (some 8) e M fun e M =>
    nx (oBin cx.P .neq 2 (eget e 6) (eget e 8) M) (some 9) e M fun e M =>
    some (e, M)).map fun q => (prune [2, 3, 9] q.1, q.2)
noncomputable def f29_r2 (call : CallF) : Env → Mem → Option (Env × Mem) := fun e M =>
    (nx (oMv (.bool false)) (some 4) e M fun e M =>
    some (e, M)).map fun q => (prune [4] q.1, q.2)
noncomputable def f29_r3 (call : CallF) : Env → Mem → Option (Env × Mem) := fun e M =>
    (nx (keep (aFieldAddr 1 1 (eget e 2) M)) (some 10) e M fun e M =>
    nx (keep (aLoad false 1 (eget e 10) M)) (some 11) e M fun e M =>
    nx (keep (aFieldAddr 1 1 (eget e 3) M)) (some 12) e M fun e M =>
    nx (keep (aLoad false 1 (eget e 12) M)) (some 13) e M fun e M =>
    nx (aCall cx.P.cellsOf cx.rw call false M.length 15 [(eget e 11), (eget e 13)] M) (some 14) e M fun e M =>
    nx (keep (aUn .not (eget e 14))) (some 15) e M fun e M =>
    some (e, M)).map fun q => (prune [2, 3, 15] q.1, q.2)
noncomputable def f29_r4 (call : CallF) : Env → Mem → Option (Env × Mem) := fun e M =>
    (nx (oMv (.bool false)) (some 4) e M fun e M =>
    some (e, M)).map fun q => (prune [4] q.1, q.2)
noncomputable def f29_r5 (call : CallF) : Env → Mem → Option (Env × Mem) := fun e M =>
    (nx (keep (aFieldAddr 2 1 (eget e 2) M)) (some 16) e M fun e M =>
    nx (keep (aLoad false 1 (eget e 16) M)) (some 17) e M fun e M =>
    nx (keep (aFieldAddr 2 1 (eget e 3) M)) (some 18) e M fun e M =>
    nx (keep (aLoad false 1 (eget e 18) M)) (some 19) e M fun e M =>
    nx (aCall cx.P.cellsOf cx.rw call false M.length 52 [(eget e 17), (eget e 19)] M) (some 20) e M fun e M =>
    nx (keep (aUn .not (eget e 20))) (some 21) e M fun e M =>
    some (e, M)).map fun q => (prune [21] q.1, q.2)
noncomputable def f29_r6 (call : CallF) : Env → Mem → Option (Env × Mem) := fun e M =>
    (nx (oMv (.bool false)) (some 4) e M fun e M =>
    some (e, M)).map fun q => (prune [4] q.1, q.2)
noncomputable def f29_r7 (call : CallF) : Env → Mem → Option (Env × Mem) := fun e M =>
    (nx (oMv (.bool true)) (some 4) e M fun e M =>
    some (e, M)).map fun q => (prune [4] q.1, q.2)
noncomputable def f29 (call : CallF) (k : Nat) : St :=
  (bSeq (bReg (f29_r0 call))
  (bSeq (bSeq (bReg (f29_r1 call))
  (bCond (.tmp 9)
   (bSeq (bReg (f29_r2 call))
   (bEx .ret))
   (bEx .nrm)))
  (bSeq (bSeq (bReg (f29_r3 call))
  (bCond (.tmp 15)
   (bSeq (bReg (f29_r4 call))
   (bEx .ret))
   (bEx .nrm)))
  (bSeq (bSeq (bReg (f29_r5 call))
  (bCond (.tmp 21)
   (bSeq (bReg (f29_r6 call))
   (bEx .ret))
   (bEx .nrm)))
  (bSeq (bReg (f29_r7 call))
  (bEx .ret))))))
theorem f29_eq (call : CallF) (k : Nat) : exec cx call 22 f29_an k (Try.f29.body.getD .skip) = f29 call k := by kernel_rfl
/-! ### f46: loop.example/g01263/laws.szInt64S -/
def f46_an : Ann := ⟨[(0, ⟨[], [], [], [], [0, 1]⟩), (1, ⟨[], [], [], [], [1]⟩), (2, ⟨[], [], [], [], [1, 10]⟩), (3, ⟨[], [], [], [], [4]⟩), (4, ⟨[], [], [], [], [4]⟩)], []⟩
noncomputable def f46_r0 (call : CallF) : Env → Mem → Option (Env × Mem) := fun e M =>
    (nx (oMv (.int .i64 0)) (some 4) e M fun e M =>
    some (e, M)).map fun q => (prune [0, 1] q.1, q.2)
noncomputable def f46_r1 (call : CallF) : Env → Mem → Option (Env × Mem) := fun e M =>
    (nx (oMv (eget e 1)) (some 5) e M fun e M =>
    nx (oMv (eget e 0)) (some 6) e M fun e M =>
    nx (oLen cx.P 29 (eget e 6) M) (some 7) e M fun e M =>
    nx (oBin cx.P .sub 3 (eget e 5) (eget e 7) M) (some 8) e M fun e M =>
    nx (oMv (eget e 8)) (some 1) e M fun e M =>
    some (e, M)).map fun q => (prune [1] q.1, q.2)
noncomputable def f46_r2 (call : CallF) : Env → Mem → Option (Env × Mem) := fun e M =>
    (nx (oMv (eget e 1)) (some 9) e M fun e M =>
    nx (oBin cx.P .lss 3 (eget e 9) (.int .i64 0) M) (some 10) e M fun e M =>
    some (e, M)).map fun q => (prune [1, 10] q.1, q.2)
noncomputable def f46_r3 (call : CallF) : Env → Mem → Option (Env × Mem) := fun e M =>
    (nx (oMv (.int .i64 (-1))) (some 4) e M fun e M =>
    some (e, M)).map fun q => (prune [4] q.1, q.2)
noncomputable def f46_r4 (call : CallF) : Env → Mem → Option (Env × Mem) := fun e M =>
    (nx (oMv (eget e 1)) (some 11) e M fun e M =>
    nx (oMv (eget e 11)) (some 4) e M fun e M =>
    some (e, M)).map fun q => (prune [4] q.1, q.2)
noncomputable def f46 (call : CallF) (k : Nat) : St :=
  (bSeq (bReg (f46_r0 call))
  (bSeq (bReg (f46_r1 call))
  (bSeq (bSeq (bReg (f46_r2 call))
  (bCond (.tmp 10)
   (bSeq (bReg (f46_r3 call))
   (bEx .ret))
   (bEx .nrm)))
  (bSeq (bReg (f46_r4 call))
  (bEx .ret)))))
theorem f46_eq (call : CallF) (k : Nat) : exec cx call 12 f46_an k (Try.f46.body.getD .skip) = f46 call k := by kernel_rfl
/-! ### f47: loop.example/g01263/laws.szTallyS -/
def f47_an : Ann := ⟨[(0, ⟨[], [], [], [], [0, 1]⟩), (1, ⟨[], [], [], [], [1]⟩), (2, ⟨[], [], [], [], [1, 10]⟩), (3, ⟨[], [], [], [], [4]⟩), (4, ⟨[], [], [], [], [4]⟩)], []⟩
noncomputable def f47_r0 (call : CallF) : Env → Mem → Option (Env × Mem) := fun e M =>
    (nx (oMv (.int .i64 0)) (some 4) e M fun e M =>
    some (e, M)).map fun q => (prune [0, 1] q.1, q.2)
noncomputable def f47_r1 (call : CallF) : Env → Mem → Option (Env × Mem) := fun e M =>
    (nx (oMv (eget e 1)) (some 5) e M fun e M =>
    nx (oMv (eget e 0)) (some 6) e M fun e M =>
    nx (oLen cx.P 46 (eget e 6) M) (some 7) e M fun e M =>
    nx (oBin cx.P .sub 3 (eget e 5) (eget e 7) M) (some 8) e M fun e M =>
    nx (oMv (eget e 8)) (some 1) e M fun e M =>
    some (e, M)).map fun q => (prune [1] q.1, q.2)
noncomputable def f47_r2 (call : CallF) : Env → Mem → Option (Env × Mem) := fun e M =>
    (nx (oMv (eget e 1)) (some 9) e M fun e M =>
    nx (oBin cx.P .lss 3 (eget e 9) (.int .i64 0) M) (some 10) e M fun e M =>
    some (e, M)).map fun q => (prune [1, 10] q.1, q.2)
noncomputable def f47_r3 (call : CallF) : Env → Mem → Option (Env × Mem) := fun e M =>
    (nx (oMv (.int .i64 (-1))) (some 4) e M fun e M =>
    some (e, M)).map fun q => (prune [4] q.1, q.2)
noncomputable def f47_r4 (call : CallF) : Env → Mem → Option (Env × Mem) := fun e M =>
    (nx (oMv (eget e 1)) (some 11) e M fun e M =>
    nx (oMv (eget e 11)) (some 4) e M fun e M =>
    some (e, M)).map fun q => (prune [4] q.1, q.2)
noncomputable def f47 (call : CallF) (k : Nat) : St :=
  (bSeq (bReg (f47_r0 call))
  (bSeq (bReg (f47_r1 call))
  (bSeq (bSeq (bReg (f47_r2 call))
  (bCond (.tmp 10)
   (bSeq (bReg (f47_r3 call))
   (bEx .ret))
   (bEx .nrm)))
  (bSeq (bReg (f47_r4 call))
  (bEx .ret)))))
theorem f47_eq (call : CallF) (k : Nat) : exec cx call 12 f47_an k (Try.f47.body.getD .skip) = f47 call k := by kernel_rfl
/-! ### f48: loop.example/g01263/spec.l07Same -/
def f48_an : Ann := ⟨[(0, ⟨[], [], [], [], [0, 1]⟩), (1, ⟨[], [], [], [], [0, 1, 39]⟩), (2, ⟨[], [], [], [], [4]⟩), (3, ⟨[], [], [], [], [0, 1, 5]⟩), (4, ⟨[], [], [], [], [0, 1, 5, 46]⟩), (5, ⟨[], [], [], [], [0, 1, 5]⟩), (6, ⟨[], [], [], [], [0, 1, 5, 63]⟩), (7, ⟨[], [], [], [], [4]⟩), (8, ⟨[], [], [], [], [4]⟩)], [(4, [0, 1, 5])]⟩
noncomputable def f48_r0 (call : CallF) : Env → Mem → Option (Env × Mem) := fun e M =>
    (nx (oMv (.bool false)) (some 4) e M fun e M =>
    some (e, M)).map fun q => (prune [0, 1] q.1, q.2)
noncomputable def f48_r1 (call : CallF) : Env → Mem → Option (Env × Mem) := fun e M =>
    rD [0, 1, 39] (fun (C : List Ob) =>
    nf (oMv (eget e 0)) (some 6) false e C fun e C =>
    nf (keep (aNilCheck (eget e 6) M)) (some 7) false e C fun e C =>
    nf (keep (aFieldAddr 0 1 (eget e 7) M)) (some 8) false e C fun e C =>
    nf (keep (aLoad false 1 (eget e 8) M)) (some 9) false e C fun e C =>
    nf (oMv (eget e 1)) (some 10) false e C fun e C =>
    nf (keep (aNilCheck (eget e 10) M)) (some 11) false e C fun e C =>
    nf (keep (aFieldAddr 0 1 (eget e 11) M)) (some 12) false e C fun e C =>
    nf (keep (aLoad false 1 (eget e 12) M)) (some 13) false e C fun e C =>
    nf (oBin cx.P .neq 2 (eget e 9) (eget e 13) M) (some 14) false e C fun e C =>
    nf (oMv (eget e 14)) (some 15) false e C fun e C =>
    nf (aGuard (some ((eget e 15), false)) (oMv (eget e 0))) (some 16) false e C fun e C =>
    nf (aGuard (some ((eget e 15), false)) (keep (aNilCheck (eget e 16) M))) (some 17) false e C fun e C =>
    nf (aGuard (some ((eget e 15), false)) (keep (aFieldAddr 1 1 (eget e 17) M))) (some 18) false e C fun e C =>
    nf (aGuard (some ((eget e 15), false)) (keep (aLoad false 1 (eget e 18) M))) (some 19) false e C fun e C =>
    nf (aGuard (some ((eget e 15), false)) (oMv (eget e 1))) (some 20) false e C fun e C =>
    nf (aGuard (some ((eget e 15), false)) (keep (aNilCheck (eget e 20) M))) (some 21) false e C fun e C =>
    nf (aGuard (some ((eget e 15), false)) (keep (aFieldAddr 1 1 (eget e 21) M))) (some 22) false e C fun e C =>
    nf (aGuard (some ((eget e 15), false)) (keep (aLoad false 1 (eget e 22) M))) (some 23) false e C fun e C =>
    nf (aGuard (some ((eget e 15), false)) (aCall cx.P.cellsOf cx.rw call false (M.length + C.length) 60 [(eget e 19), (eget e 23)] M)) (some 24) false e C fun e C =>
    nf (aGuard (some ((eget e 15), false)) (keep (aUn .not (eget e 24)))) (some 25) false e C fun e C =>
    nf (keep (aPick (eget e 15) (.bool true) (eget e 25))) (some 26) false e C fun e C =>
    nf (oMv (eget e 26)) (some 27) false e C fun e C =>
    nf (aGuard (some ((eget e 27), false)) (oMv (eget e 0))) (some 28) false e C fun e C =>
    nf (aGuard (some ((eget e 27), false)) (keep (aNilCheck (eget e 28) M))) (some 29) false e C fun e C =>
    nf (aGuard (some ((eget e 27), false)) (keep (aFieldAddr 2 1 (eget e 29) M))) (some 30) false e C fun e C =>
    nf (aGuard (some ((eget e 27), false)) (keep (aLoad false 1 (eget e 30) M))) (some 31) false e C fun e C =>
    nf (aGuard (some ((eget e 27), false)) (oLen cx.P 51 (eget e 31) M)) (some 32) false e C fun e C =>
    nf (aGuard (some ((eget e 27), false)) (oMv (eget e 1))) (some 33) false e C fun e C =>
    nf (aGuard (some ((eget e 27), false)) (keep (aNilCheck (eget e 33) M))) (some 34) false e C fun e C =>
    nf (aGuard (some ((eget e 27), false)) (keep (aFieldAddr 2 1 (eget e 34) M))) (some 35) false e C fun e C =>
    nf (aGuard (some ((eget e 27), false)) (keep (aLoad false 1 (eget e 35) M))) (some 36) false e C fun e C =>
    nf (aGuard (some ((eget e 27), false)) (oLen cx.P 51 (eget e 36) M)) (some 37) false e C fun e C =>
    nf (aGuard (some ((eget e 27), false)) (oBin cx.P .neq 3 (eget e 32) (eget e 37) M)) (some 38) false e C fun e C =>
    nf (keep (aPick (eget e 27) (.bool true) (eget e 38))) (some 39) false e C fun e C =>
    some (e, C)) (fun (e : Env) (M : Mem) =>
    some (e, M)) M
noncomputable def f48_r2 (call : CallF) : Env → Mem → Option (Env × Mem) := fun e M =>
    (nx (oMv (.bool false)) (some 4) e M fun e M =>
    some (e, M)).map fun q => (prune [4] q.1, q.2)
noncomputable def f48_r3 (call : CallF) : Env → Mem → Option (Env × Mem) := fun e M =>
    (nx (oMv (.int .i64 0)) (some 5) e M fun e M =>
    some (e, M)).map fun q => (prune [0, 1, 5] q.1, q.2)
noncomputable def f48_r4 (call : CallF) : Env → Mem → Option (Env × Mem) := fun e M =>
    (nx (oMv (eget e 5)) (some 40) e M fun e M =>
    nx (oMv (eget e 0)) (some 41) e M fun e M =>
    nx (keep (aNilCheck (eget e 41) M)) (some 42) e M fun e M =>
    nx (keep (aFieldAddr 2 1 (eget e 42) M)) (some 43) e M fun e M =>
    nx (keep (aLoad false 1 (eget e 43) M)) (some 44) e M fun e M =>
    nx (oLen cx.P 51 (eget e 44) M) (some 45) e M fun e M =>
    nx (oBin cx.P .lss 3 (eget e 40) (eget e 45) M) (some 46) e M fun e M =>
    some (e, M)).map fun q => (prune [0, 1, 5, 46] q.1, q.2)
noncomputable def f48_r5 (call : CallF) : Env → Mem → Option (Env × Mem) := fun e M =>
    (nx (oMv (eget e 5)) (some 47) e M fun e M =>
    nx (oBin cx.P .add 3 (eget e 47) (.int .i64 1) M) (some 48) e M fun e M =>
    nx (oMv (eget e 48)) (some 5) e M fun e M =>
    some (e, M)).map fun q => (prune [0, 1, 5] q.1, q.2)
noncomputable def f48_r6 (call : CallF) : Env → Mem → Option (Env × Mem) := fun e M =>
    rD [0, 1, 5, 63] (fun (C : List Ob) =>
    nf (oMv (eget e 0)) (some 49) false e C fun e C =>
    nf (keep (aNilCheck (eget e 49) M)) (some 50) false e C fun e C =>
    nf (keep (aFieldAddr 2 1 (eget e 50) M)) (some 51) false e C fun e C =>
    nf (keep (aLoad false 1 (eget e 51) M)) (some 52) false e C fun e C =>
    nf (oMv (eget e 5)) (some 53) false e C fun e C =>
    nf (keep (aIndexS 5 (eget e 52) (eget e 53) M)) (some 54) false e C fun e C =>
    nf (keep (aLoad true 5 (eget e 54) M)) (some 55) false e C fun e C =>
    nf (oMv (eget e 1)) (some 56) false e C fun e C =>
    nf (keep (aNilCheck (eget e 56) M)) (some 57) false e C fun e C =>
    nf (keep (aFieldAddr 2 1 (eget e 57) M)) (some 58) false e C fun e C =>
    nf (keep (aLoad false 1 (eget e 58) M)) (some 59) false e C fun e C =>
    nf (oMv (eget e 5)) (some 60) false e C fun e C =>
    nf (keep (aIndexS 5 (eget e 59) (eget e 60) M)) (some 61) false e C fun e C =>
    nf (keep (aLoad true 5 (eget e 61) M)) (some 62) false e C fun e C =>
    nf (oBin cx.P .neq 81 (eget e 55) (eget e 62) M) (some 63) false e C fun e C =>
    some (e, C)) (fun (e : Env) (M : Mem) =>
    some (e, M)) M
noncomputable def f48_r7 (call : CallF) : Env → Mem → Option (Env × Mem) := fun e M =>
    (nx (oMv (.bool false)) (some 4) e M fun e M =>
    some (e, M)).map fun q => (prune [4] q.1, q.2)
noncomputable def f48_r8 (call : CallF) : Env → Mem → Option (Env × Mem) := fun e M =>
    (nx (oMv (.bool true)) (some 4) e M fun e M =>
    some (e, M)).map fun q => (prune [4] q.1, q.2)
noncomputable def f48_l4 (call : CallF) (k : Nat) : St :=
  (bSeq (bSeq (bReg (f48_r4 call))
  (bCond (.tmp 46)
   (bEx .nrm)
   (bEx (.ext 0))))
  (bSeq (bBlock 1 (bSeq (bReg (f48_r6 call))
   (bCond (.tmp 63)
    (bSeq (bReg (f48_r7 call))
    (bEx .ret))
    (bEx .nrm))))
  (bReg (f48_r5 call))))
noncomputable def f48 (call : CallF) (k : Nat) : St :=
  (bSeq (bReg (f48_r0 call))
  (bSeq (bSeq (bReg (f48_r1 call))
  (bCond (.tmp 39)
   (bSeq (bReg (f48_r2 call))
   (bEx .ret))
   (bEx .nrm)))
  (bSeq (bSeq (bReg (f48_r3 call))
  (bBlock 0 (bLoop [0, 1, 5] (f48_l4 call k) k)))
  (bSeq (bReg (f48_r8 call))
  (bEx .ret)))))
theorem f48_eq (call : CallF) (k : Nat) : exec cx call 64 f48_an k (Try.f48.body.getD .skip) = f48 call k := by kernel_rfl
/-! ### f49: loop.example/g01263/laws.toTallyS -/
def f49_an : Ann := ⟨[(0, ⟨[], [], [], [], [0]⟩), (1, ⟨[], [], [], [], [0, 3]⟩), (2, ⟨[], [], [], [], [0, 3, 4]⟩), (3, ⟨[], [], [], [], [0, 3, 4, 11]⟩), (4, ⟨[], [], [], [], [0, 3, 4]⟩), (5, ⟨[], [], [], [], [0, 3, 4]⟩), (6, ⟨[], [], [], [], [2]⟩)], [(3, [0, 3, 4])]⟩
noncomputable def f49_r0 (call : CallF) : Env → Mem → Option (Env × Mem) := fun e M =>
    (nx (oMv .nils) (some 2) e M fun e M =>
    some (e, M)).map fun q => (prune [0] q.1, q.2)
noncomputable def f49_r1 (call : CallF) : Env → Mem → Option (Env × Mem) := fun e M =>
    (nx (oMv (eget e 0)) (some 5) e M fun e M =>
    nx (oLen cx.P 46 (eget e 5) M) (some 6) e M fun e M =>
    nx (aMakeO M.length 81 5 40 (zeroOf cx.P 81) (eget e 6) (eget e 6)) (some 7) e M fun e M =>
    nx (oMv (eget e 7)) (some 3) e M fun e M =>
    some (e, M)).map fun q => (prune [0, 3] q.1, q.2)
noncomputable def f49_r2 (call : CallF) : Env → Mem → Option (Env × Mem) := fun e M =>
    (nx (oMv (.int .i64 0)) (some 4) e M fun e M =>
    some (e, M)).map fun q => (prune [0, 3, 4] q.1, q.2)
noncomputable def f49_r3 (call : CallF) : Env → Mem → Option (Env × Mem) := fun e M =>
    (nx (oMv (eget e 4)) (some 8) e M fun e M =>
    nx (oMv (eget e 0)) (some 9) e M fun e M =>
    nx (oLen cx.P 46 (eget e 9) M) (some 10) e M fun e M =>
    nx (oBin cx.P .lss 3 (eget e 8) (eget e 10) M) (some 11) e M fun e M =>
    some (e, M)).map fun q => (prune [0, 3, 4, 11] q.1, q.2)
noncomputable def f49_r4 (call : CallF) : Env → Mem → Option (Env × Mem) := fun e M =>
    (nx (oMv (eget e 4)) (some 12) e M fun e M =>
    nx (oBin cx.P .add 3 (eget e 12) (.int .i64 1) M) (some 13) e M fun e M =>
    nx (oMv (eget e 13)) (some 4) e M fun e M =>
    some (e, M)).map fun q => (prune [0, 3, 4] q.1, q.2)
noncomputable def f49_r5 (call : CallF) : Env → Mem → Option (Env × Mem) := fun e M =>
    (nx (oMv (eget e 3)) (some 14) e M fun e M =>
    nx (oMv (eget e 4)) (some 15) e M fun e M =>
    nx (oMv (eget e 0)) (some 16) e M fun e M =>
    nx (oMv (eget e 4)) (some 17) e M fun e M =>
    nx (keep (aIndexS 5 (eget e 16) (eget e 17) M)) (some 18) e M fun e M =>
    nx (keep (aLoad true 5 (eget e 18) M)) (some 19) e M fun e M =>
    nx (aCall cx.P.cellsOf cx.rw call false M.length 61 [(eget e 19)] M) (some 20) e M fun e M =>
    nx (keep (aIndexS 5 (eget e 14) (eget e 15) M)) (some 21) e M fun e M =>
    nx (oStore 5 (eget e 21) (eget e 20) M) none e M fun e M =>
    some (e, M)).map fun q => (prune [0, 3, 4] q.1, q.2)
noncomputable def f49_r6 (call : CallF) : Env → Mem → Option (Env × Mem) := fun e M =>
    (nx (oMv (eget e 3)) (some 22) e M fun e M =>
    nx (oMv (eget e 22)) (some 2) e M fun e M =>
    some (e, M)).map fun q => (prune [2] q.1, q.2)
noncomputable def f49_l3 (call : CallF) (k : Nat) : St :=
  (bSeq (bSeq (bReg (f49_r3 call))
  (bCond (.tmp 11)
   (bEx .nrm)
   (bEx (.ext 0))))
  (bSeq (bBlock 1 (bReg (f49_r5 call)))
  (bReg (f49_r4 call))))
noncomputable def f49 (call : CallF) (k : Nat) : St :=
  (bSeq (bReg (f49_r0 call))
  (bSeq (bReg (f49_r1 call))
  (bSeq (bSeq (bReg (f49_r2 call))
  (bBlock 0 (bLoop [0, 3, 4] (f49_l3 call k) k)))
  (bSeq (bReg (f49_r6 call))
  (bEx .ret)))))
theorem f49_eq (call : CallF) (k : Nat) : exec cx call 23 f49_an k (Try.f49.body.getD .skip) = f49 call k := by kernel_rfl
/-! ### f50: slices.Equal[[]int64,int64] -/
def f50_an : Ann := ⟨[(0, ⟨[], [], [], [], [0, 1]⟩), (1, ⟨[], [], [], [], [0, 1, 10]⟩), (2, ⟨[], [], [], [], [4]⟩), (3, ⟨[], [], [], [], [0, 1, 12, 13]⟩), (4, ⟨[], [], [], [], [0, 1, 12, 13, 14]⟩), (5, ⟨[], [], [], [], [0, 1, 5, 12, 13]⟩), (6, ⟨[], [], [], [], [0, 1, 12, 13, 24]⟩), (7, ⟨[], [], [], [], [4]⟩), (8, ⟨[], [], [], [], [0, 1, 12, 13]⟩), (9, ⟨[], [], [], [], [4]⟩)], [(4, [0, 1, 12, 13])]⟩
noncomputable def f50_r0 (call : CallF) : Env → Mem → Option (Env × Mem) := fun e M =>
    (nx (oMv (.bool false)) (some 4) e M fun e M =>
    some (e, M)).map fun q => (prune [0, 1] q.1, q.2)
noncomputable def f50_r1 (call : CallF) : Env → Mem → Option (Env × Mem) := fun e M =>
    (nx (oMv (eget e 0)) (some 6) e M fun e M =>
    nx (oLen cx.P 29 (eget e 6) M) (some 7) e M fun e M =>
    nx (oMv (eget e 1)) (some 8) e M fun e M =>
    nx (oLen cx.P 29 (eget e 8) M) (some 9) e M fun e M =>
    nx (oBin cx.P .neq 3 (eget e 7) (eget e 9) M) (some 10) e M fun e M =>
    some (e, M)).map fun q => (prune [0, 1, 10] q.1, q.2)
noncomputable def f50_r2 (call : CallF) : Env → Mem → Option (Env × Mem) := fun e M =>
    (nx (oMv (.bool false)) (some 4) e M fun e M =>
    some (e, M)).map fun q => (prune [4] q.1, q.2)
noncomputable def f50_r3 (call : CallF) : Env → Mem → Option (Env × Mem) := fun e M =>
    (nx (oMv (eget e 0)) (some 11) e M fun e M =>
    nx (oLen cx.P 29 (eget e 11) M) (some 12) e M fun e M =>
    nx (oMv (.int .i64 0)) (some 13) e M fun e M =>
    some (e, M)).map fun q => (prune [0, 1, 12, 13] q.1, q.2)
noncomputable def f50_r4 (call : CallF) : Env → Mem → Option (Env × Mem) := fun e M =>
    (nx (oBin cx.P .lss 3 (eget e 13) (eget e 12) M) (some 14) e M fun e M =>
    some (e, M)).map fun q => (prune [0, 1, 12, 13, 14] q.1, q.2)
noncomputable def f50_r5 (call : CallF) : Env → Mem → Option (Env × Mem) := fun e M =>
    (nx (oMv (eget e 13)) (some 15) e M fun e M =>
    nx (oMv (eget e 15)) (some 5) e M fun e M =>
    some (e, M)).map fun q => (prune [0, 1, 5, 12, 13] q.1, q.2)
noncomputable def f50_r6 (call : CallF) : Env → Mem → Option (Env × Mem) := fun e M =>
    rD [0, 1, 12, 13, 24] (fun (C : List Ob) =>
    nf (oMv (eget e 0)) (some 16) false e C fun e C =>
    nf (oMv (eget e 5)) (some 17) false e C fun e C =>
    nf (keep (aIndexS 1 (eget e 16) (eget e 17) M)) (some 18) false e C fun e C =>
    nf (keep (aLoad false 1 (eget e 18) M)) (some 19) false e C fun e C =>
    nf (oMv (eget e 1)) (some 20) false e C fun e C =>
    nf (oMv (eget e 5)) (some 21) false e C fun e C =>
    nf (keep (aIndexS 1 (eget e 20) (eget e 21) M)) (some 22) false e C fun e C =>
    nf (keep (aLoad false 1 (eget e 22) M)) (some 23) false e C fun e C =>
    nf (oBin cx.P .neq 2 (eget e 19) (eget e 23) M) (some 24) false e C fun e C =>
    some (e, C)) (fun (e : Env) (M : Mem) =>
    some (e, M)) M
noncomputable def f50_r7 (call : CallF) : Env → Mem → Option (Env × Mem) := fun e M =>
    (nx (oMv (.bool false)) (some 4) e M fun e M =>
    some (e, M)).map fun q => (prune [4] q.1, q.2)
noncomputable def f50_r8 (call : CallF) : Env → Mem → Option (Env × Mem) := fun e M =>
    (nx (oBin cx.P .add 3 (eget e 13) (.int .i64 1) M) (some 25) e M fun e M =>
    nx (oMv (eget e 25)) (some 13) e M fun e M =>
    some (e, M)).map fun q => (prune [0, 1, 12, 13] q.1, q.2)
noncomputable def f50_r9 (call : CallF) : Env → Mem → Option (Env × Mem) := fun e M =>
    (nx (oMv (.bool true)) (some 4) e M fun e M =>
    some (e, M)).map fun q => (prune [4] q.1, q.2)
noncomputable def f50_l4 (call : CallF) (k : Nat) : St :=
  (bSeq (bReg (f50_r4 call))
  (bSeq (bCond (.tmp 14)
   (bEx .nrm)
   (bEx (.ext 0)))
  (bSeq (bBlock 1 (bSeq (bReg (f50_r5 call))
   (bSeq (bReg (f50_r6 call))
   (bCond (.tmp 24)
    (bSeq (bReg (f50_r7 call))
    (bEx .ret))
    (bEx .nrm)))))
  (bReg (f50_r8 call)))))
noncomputable def f50 (call : CallF) (k : Nat) : St :=
  (bSeq (bReg (f50_r0 call))
  (bSeq (bSeq (bReg (f50_r1 call))
  (bCond (.tmp 10)
   (bSeq (bReg (f50_r2 call))
   (bEx .ret))
   (bEx .nrm)))
  (bSeq (bSeq (bReg (f50_r3 call))
  (bBlock 0 (bLoop [0, 1, 12, 13] (f50_l4 call k) k)))
  (bSeq (bReg (f50_r9 call))
  (bEx .ret)))))
theorem f50_eq (call : CallF) (k : Nat) : exec cx call 26 f50_an k (Try.f50.body.getD .skip) = f50 call k := by kernel_rfl
/-! ### f51: slices.Equal[[]loop.example/g01263/impl.Tally,loop.example/g01263/impl.Tally] -/
def f51_an : Ann := ⟨[(0, ⟨[], [], [], [], [0, 1]⟩), (1, ⟨[], [], [], [], [0, 1, 10]⟩), (2, ⟨[], [], [], [], [4]⟩), (3, ⟨[], [], [], [], [0, 1, 12, 13]⟩), (4, ⟨[], [], [], [], [0, 1, 12, 13, 14]⟩), (5, ⟨[], [], [], [], [0, 1, 5, 12, 13]⟩), (6, ⟨[], [], [], [], [0, 1, 12, 13, 24]⟩), (7, ⟨[], [], [], [], [4]⟩), (8, ⟨[], [], [], [], [0, 1, 12, 13]⟩), (9, ⟨[], [], [], [], [4]⟩)], [(4, [0, 1, 12, 13])]⟩
noncomputable def f51_r0 (call : CallF) : Env → Mem → Option (Env × Mem) := fun e M =>
    (nx (oMv (.bool false)) (some 4) e M fun e M =>
    some (e, M)).map fun q => (prune [0, 1] q.1, q.2)
noncomputable def f51_r1 (call : CallF) : Env → Mem → Option (Env × Mem) := fun e M =>
    (nx (oMv (eget e 0)) (some 6) e M fun e M =>
    nx (oLen cx.P 51 (eget e 6) M) (some 7) e M fun e M =>
    nx (oMv (eget e 1)) (some 8) e M fun e M =>
    nx (oLen cx.P 51 (eget e 8) M) (some 9) e M fun e M =>
    nx (oBin cx.P .neq 3 (eget e 7) (eget e 9) M) (some 10) e M fun e M =>
    some (e, M)).map fun q => (prune [0, 1, 10] q.1, q.2)
noncomputable def f51_r2 (call : CallF) : Env → Mem → Option (Env × Mem) := fun e M =>
    (nx (oMv (.bool false)) (some 4) e M fun e M =>
    some (e, M)).map fun q => (prune [4] q.1, q.2)
noncomputable def f51_r3 (call : CallF) : Env → Mem → Option (Env × Mem) := fun e M =>
    (nx (oMv (eget e 0)) (some 11) e M fun e M =>
    nx (oLen cx.P 51 (eget e 11) M) (some 12) e M fun e M =>
    nx (oMv (.int .i64 0)) (some 13) e M fun e M =>
    some (e, M)).map fun q => (prune [0, 1, 12, 13] q.1, q.2)
noncomputable def f51_r4 (call : CallF) : Env → Mem → Option (Env × Mem) := fun e M =>
    (nx (oBin cx.P .lss 3 (eget e 13) (eget e 12) M) (some 14) e M fun e M =>
    some (e, M)).map fun q => (prune [0, 1, 12, 13, 14] q.1, q.2)
noncomputable def f51_r5 (call : CallF) : Env → Mem → Option (Env × Mem) := fun e M =>
    (nx (oMv (eget e 13)) (some 15) e M fun e M =>
    nx (oMv (eget e 15)) (some 5) e M fun e M =>
    some (e, M)).map fun q => (prune [0, 1, 5, 12, 13] q.1, q.2)
noncomputable def f51_r6 (call : CallF) : Env → Mem → Option (Env × Mem) := fun e M =>
    rD [0, 1, 12, 13, 24] (fun (C : List Ob) =>
    nf (oMv (eget e 0)) (some 16) false e C fun e C =>
    nf (oMv (eget e 5)) (some 17) false e C fun e C =>
    nf (keep (aIndexS 5 (eget e 16) (eget e 17) M)) (some 18) false e C fun e C =>
    nf (keep (aLoad true 5 (eget e 18) M)) (some 19) false e C fun e C =>
    nf (oMv (eget e 1)) (some 20) false e C fun e C =>
    nf (oMv (eget e 5)) (some 21) false e C fun e C =>
    nf (keep (aIndexS 5 (eget e 20) (eget e 21) M)) (some 22) false e C fun e C =>
    nf (keep (aLoad true 5 (eget e 22) M)) (some 23) false e C fun e C =>
    nf (oBin cx.P .neq 81 (eget e 19) (eget e 23) M) (some 24) false e C fun e C =>
    some (e, C)) (fun (e : Env) (M : Mem) =>
    some (e, M)) M
noncomputable def f51_r7 (call : CallF) : Env → Mem → Option (Env × Mem) := fun e M =>
    (nx (oMv (.bool false)) (some 4) e M fun e M =>
    some (e, M)).map fun q => (prune [4] q.1, q.2)
noncomputable def f51_r8 (call : CallF) : Env → Mem → Option (Env × Mem) := fun e M =>
    (nx (oBin cx.P .add 3 (eget e 13) (.int .i64 1) M) (some 25) e M fun e M =>
    nx (oMv (eget e 25)) (some 13) e M fun e M =>
    some (e, M)).map fun q => (prune [0, 1, 12, 13] q.1, q.2)
noncomputable def f51_r9 (call : CallF) : Env → Mem → Option (Env × Mem) := fun e M =>
    (nx (oMv (.bool true)) (some 4) e M fun e M =>
    some (e, M)).map fun q => (prune [4] q.1, q.2)
noncomputable def f51_l4 (call : CallF) (k : Nat) : St :=
  (bSeq (bReg (f51_r4 call))
  (bSeq (bCond (.tmp 14)
   (bEx .nrm)
   (bEx (.ext 0)))
  (bSeq (bBlock 1 (bSeq (bReg (f51_r5 call))
   (bSeq (bReg (f51_r6 call))
   (bCond (.tmp 24)
    (bSeq (bReg (f51_r7 call))
    (bEx .ret))
    (bEx .nrm)))))
  (bReg (f51_r8 call)))))
noncomputable def f51 (call : CallF) (k : Nat) : St :=
  (bSeq (bReg (f51_r0 call))
  (bSeq (bSeq (bReg (f51_r1 call))
  (bCond (.tmp 10)
   (bSeq (bReg (f51_r2 call))
   (bEx .ret))
   (bEx .nrm)))
  (bSeq (bSeq (bReg (f51_r3 call))
  (bBlock 0 (bLoop [0, 1, 12, 13] (f51_l4 call k) k)))
  (bSeq (bReg (f51_r9 call))
  (bEx .ret)))))
theorem f51_eq (call : CallF) (k : Nat) : exec cx call 26 f51_an k (Try.f51.body.getD .skip) = f51 call k := by kernel_rfl
/-! ### f52: loop.example/g01263/laws.eqTallyS -/
def f52_an : Ann := ⟨[(0, ⟨[], [], [], [], [0, 1]⟩), (1, ⟨[], [], [], [], [0, 1, 10]⟩), (2, ⟨[], [], [], [], [4]⟩), (3, ⟨[], [], [], [], [0, 1, 5]⟩), (4, ⟨[], [], [], [], [0, 1, 5, 14]⟩), (5, ⟨[], [], [], [], [0, 1, 5]⟩), (6, ⟨[], [], [], [], [0, 1, 5, 26]⟩), (7, ⟨[], [], [], [], [4]⟩), (8, ⟨[], [], [], [], [4]⟩)], [(4, [0, 1, 5])]⟩
noncomputable def f52_r0 (call : CallF) : Env → Mem → Option (Env × Mem) := fun e M =>
    (nx (oMv (.bool false)) (some 4) e M fun e M =>
    some (e, M)).map fun q => (prune [0, 1] q.1, q.2)
noncomputable def f52_r1 (call : CallF) : Env → Mem → Option (Env × Mem) := fun e M =>
    (nx (oMv (eget e 0)) (some 6) e M fun e M =>
    nx (oLen cx.P 51 (eget e 6) M) (some 7) e M fun e M =>
    nx (oMv (eget e 1)) (some 8) e M fun e M =>
    nx (oLen cx.P 51 (eget e 8) M) (some 9) e M fun e M =>
    nx (oBin cx.P .neq 3 (eget e 7) (eget e 9) M) (some 10) e M fun e M =>
    some (e, M)).map fun q => (prune [0, 1, 10] q.1, q.2)
noncomputable def f52_r2 (call : CallF) : Env → Mem → Option (Env × Mem) := fun e M =>
    (nx (oMv (.bool false)) (some 4) e M fun e M =>
    some (e, M)).map fun q => (prune [4] q.1, q.2)
noncomputable def f52_r3 (call : CallF) : Env → Mem → Option (Env × Mem) := fun e M =>
    (nx (oMv (.int .i64 0)) (some 5) e M fun e M =>
    some (e, M)).map fun q => (prune [0, 1, 5] q.1, q.2)
noncomputable def f52_r4 (call : CallF) : Env → Mem → Option (Env × Mem) := fun e M =>
    (nx (oMv (eget e 5)) (some 11) e M fun e M =>
    nx (oMv (eget e 0)) (some 12) e M fun e M =>
    nx (oLen cx.P 51 (eget e 12) M) (some 13) e M fun e M =>
    nx (oBin cx.P .lss 3 (eget e 11) (eget e 13) M) (some 14) e M fun e M =>
    some (e, M)).map fun q => (prune [0, 1, 5, 14] q.1, q.2)
noncomputable def f52_r5 (call : CallF) : Env → Mem → Option (Env × Mem) := fun e M =>
    (nx (oMv (eget e 5)) (some 15) e M fun e M =>
    nx (oBin cx.P .add 3 (eget e 15) (.int .i64 1) M) (some 16) e M fun e M =>
    nx (oMv (eget e 16)) (some 5) e M fun e M =>
    some (e, M)).map fun q => (prune [0, 1, 5] q.1, q.2)
noncomputable def f52_r6 (call : CallF) : Env → Mem → Option (Env × Mem) := fun e M =>
    rD [0, 1, 5, 26] (fun (C : List Ob) =>
    nf (oMv (eget e 0)) (some 17) false e C fun e C =>
    nf (oMv (eget e 5)) (some 18) false e C fun e C =>
    nf (keep (aIndexS 5 (eget e 17) (eget e 18) M)) (some 19) false e C fun e C =>
    nf (keep (aLoad true 5 (eget e 19) M)) (some 20) false e C fun e C =>
    nf (oMv (eget e 1)) (some 21) false e C fun e C =>
    nf (oMv (eget e 5)) (some 22) false e C fun e C =>
    nf (keep (aIndexS 5 (eget e 21) (eget e 22) M)) (some 23) false e C fun e C =>
    nf (keep (aLoad true 5 (eget e 23) M)) (some 24) false e C fun e C =>
    nf (aCall cx.P.cellsOf cx.rw call false (M.length + C.length) 62 [(eget e 20), (eget e 24)] M) (some 25) false e C fun e C =>
    nf (keep (aUn .not (eget e 25))) (some 26) false e C fun e C =>
    some (e, C)) (fun (e : Env) (M : Mem) =>
    some (e, M)) M
noncomputable def f52_r7 (call : CallF) : Env → Mem → Option (Env × Mem) := fun e M =>
    (nx (oMv (.bool false)) (some 4) e M fun e M =>
    some (e, M)).map fun q => (prune [4] q.1, q.2)
noncomputable def f52_r8 (call : CallF) : Env → Mem → Option (Env × Mem) := fun e M =>
    (nx (oMv (.bool true)) (some 4) e M fun e M =>
    some (e, M)).map fun q => (prune [4] q.1, q.2)
noncomputable def f52_l4 (call : CallF) (k : Nat) : St :=
  (bSeq (bSeq (bReg (f52_r4 call))
  (bCond (.tmp 14)
   (bEx .nrm)
   (bEx (.ext 0))))
  (bSeq (bBlock 1 (bSeq (bReg (f52_r6 call))
   (bCond (.tmp 26)
    (bSeq (bReg (f52_r7 call))
    (bEx .ret))
    (bEx .nrm))))
  (bReg (f52_r5 call))))
noncomputable def f52 (call : CallF) (k : Nat) : St :=
  (bSeq (bReg (f52_r0 call))
  (bSeq (bSeq (bReg (f52_r1 call))
  (bCond (.tmp 10)
   (bSeq (bReg (f52_r2 call))
   (bEx .ret))
   (bEx .nrm)))
  (bSeq (bSeq (bReg (f52_r3 call))
  (bBlock 0 (bLoop [0, 1, 5] (f52_l4 call k) k)))
  (bSeq (bReg (f52_r8 call))
  (bEx .ret)))))
theorem f52_eq (call : CallF) (k : Nat) : exec cx call 27 f52_an k (Try.f52.body.getD .skip) = f52 call k := by kernel_rfl
/-! ### f60: loop.example/g01263/spec.l00Same -/
def f60_an : Ann := ⟨[(0, ⟨[], [], [], [], [0, 1]⟩), (1, ⟨[], [], [], [], [0, 1, 10]⟩), (2, ⟨[], [], [], [], [4]⟩), (3, ⟨[], [], [], [], [0, 1, 5]⟩), (4, ⟨[], [], [], [], [0, 1, 5, 14]⟩), (5, ⟨[], [], [], [], [0, 1, 5]⟩), (6, ⟨[], [], [], [], [0, 1, 5, 25]⟩), (7, ⟨[], [], [], [], [4]⟩), (8, ⟨[], [], [], [], [4]⟩)], [(4, [0, 1, 5])]⟩
noncomputable def f60_r0 (call : CallF) : Env → Mem → Option (Env × Mem) := fun e M =>
    (nx (oMv (.bool false)) (some 4) e M fun e M =>
    some (e, M)).map fun q => (prune [0, 1] q.1, q.2)
noncomputable def f60_r1 (call : CallF) : Env → Mem → Option (Env × Mem) := fun e M =>
    (nx (oMv (eget e 0)) (some 6) e M fun e M =>
    nx (oLen cx.P 29 (eget e 6) M) (some 7) e M fun e M =>
    nx (oMv (eget e 1)) (some 8) e M fun e M =>
    nx (oLen cx.P 29 (eget e 8) M) (some 9) e M fun e M =>
    nx (oBin cx.P .neq 3 (eget e 7) (eget e 9) M) (some 10) e M fun e M =>
    some (e, M)).map fun q => (prune [0, 1, 10] q.1, q.2)
noncomputable def f60_r2 (call : CallF) : Env → Mem → Option (Env × Mem) := fun e M =>
    (nx (oMv (.bool false)) (some 4) e M fun e M =>
    some (e, M)).map fun q => (prune [4] q.1, q.2)
noncomputable def f60_r3 (call : CallF) : Env → Mem → Option (Env × Mem) := fun e M =>
    (nx (oMv (.int .i64 0)) (some 5) e M fun e M =>
    some (e, M)).map fun q => (prune [0, 1, 5] q.1, q.2)
noncomputable def f60_r4 (call : CallF) : Env → Mem → Option (Env × Mem) := fun e M =>
    (nx (oMv (eget e 5)) (some 11) e M fun e M =>
    nx (oMv (eget e 0)) (some 12) e M fun e M =>
    nx (oLen cx.P 29 (eget e 12) M) (some 13) e M fun e M =>
    nx (oBin cx.P .lss 3 (eget e 11) (eget e 13) M) (some 14) e M fun e M =>
    some (e, M)).map fun q => (prune [0, 1, 5, 14] q.1, q.2)
noncomputable def f60_r5 (call : CallF) : Env → Mem → Option (Env × Mem) := fun e M =>
    (nx (oMv (eget e 5)) (some 15) e M fun e M =>
    nx (oBin cx.P .add 3 (eget e 15) (.int .i64 1) M) (some 16) e M fun e M =>
    nx (oMv (eget e 16)) (some 5) e M fun e M =>
    some (e, M)).map fun q => (prune [0, 1, 5] q.1, q.2)
noncomputable def f60_r6 (call : CallF) : Env → Mem → Option (Env × Mem) := fun e M =>
    rD [0, 1, 5, 25] (fun (C : List Ob) =>
    nf (oMv (eget e 0)) (some 17) false e C fun e C =>
    nf (oMv (eget e 5)) (some 18) false e C fun e C =>
    nf (keep (aIndexS 1 (eget e 17) (eget e 18) M)) (some 19) false e C fun e C =>
    nf (keep (aLoad false 1 (eget e 19) M)) (some 20) false e C fun e C =>
    nf (oMv (eget e 1)) (some 21) false e C fun e C =>
    nf (oMv (eget e 5)) (some 22) false e C fun e C =>
    nf (keep (aIndexS 1 (eget e 21) (eget e 22) M)) (some 23) false e C fun e C =>
    nf (keep (aLoad false 1 (eget e 23) M)) (some 24) false e C fun e C =>
    nf (oBin cx.P .neq 2 (eget e 20) (eget e 24) M) (some 25) false e C fun e C =>
    some (e, C)) (fun (e : Env) (M : Mem) =>
    some (e, M)) M
noncomputable def f60_r7 (call : CallF) : Env → Mem → Option (Env × Mem) := fun e M =>
    (nx (oMv (.bool false)) (some 4) e M fun e M =>
    some (e, M)).map fun q => (prune [4] q.1, q.2)
noncomputable def f60_r8 (call : CallF) : Env → Mem → Option (Env × Mem) := fun e M =>
    (nx (oMv (.bool true)) (some 4) e M fun e M =>
    some (e, M)).map fun q => (prune [4] q.1, q.2)
noncomputable def f60_l4 (call : CallF) (k : Nat) : St :=
  (bSeq (bSeq (bReg (f60_r4 call))
  (bCond (.tmp 14)
   (bEx .nrm)
   (bEx (.ext 0))))
  (bSeq (bBlock 1 (bSeq (bReg (f60_r6 call))
   (bCond (.tmp 25)
    (bSeq (bReg (f60_r7 call))
    (bEx .ret))
    (bEx .nrm))))
  (bReg (f60_r5 call))))
noncomputable def f60 (call : CallF) (k : Nat) : St :=
  (bSeq (bReg (f60_r0 call))
  (bSeq (bSeq (bReg (f60_r1 call))
  (bCond (.tmp 10)
   (bSeq (bReg (f60_r2 call))
   (bEx .ret))
   (bEx .nrm)))
  (bSeq (bSeq (bReg (f60_r3 call))
  (bBlock 0 (bLoop [0, 1, 5] (f60_l4 call k) k)))
  (bSeq (bReg (f60_r8 call))
  (bEx .ret)))))
theorem f60_eq (call : CallF) (k : Nat) : exec cx call 26 f60_an k (Try.f60.body.getD .skip) = f60 call k := by kernel_rfl
/-! ### f61: loop.example/g01263/laws.toTally -/
def f61_an : Ann := ⟨[(0, ⟨[], [], [], [], [1, 2]⟩), (1, ⟨[], [], [], [], [1, 2, 3]⟩), (2, ⟨[], [], [], [], [1, 2, 3]⟩), (3, ⟨[], [], [], [], [1, 2, 3]⟩), (4, ⟨[], [], [], [], [1, 2, 3]⟩), (5, ⟨[], [], [], [], [1, 2, 3]⟩), (6, ⟨[], [], [], [], [2, 3]⟩), (7, ⟨[], [], [], [], [2]⟩)], []⟩
noncomputable def f61_r0 (call : CallF) : Env → Mem → Option (Env × Mem) := fun e M =>
    (nx (keep (aBox 5 (eget e 0) M)) (some 1) e M fun e M =>
    nx (oAlloc cx.P M.length 81 5) (some 2) e M fun e M =>
    some (e, M)).map fun q => (prune [1, 2] q.1, q.2)
noncomputable def f61_r1 (call : CallF) : Env → Mem → Option (Env × Mem) := fun e M =>
    (nx (oAlloc cx.P M.length 81 5) (some 3) e M fun e M =>
    some (e, M)).map fun q => (prune [1, 2, 3] q.1, q.2)
noncomputable def f61_r2 (call : CallF) : Env → Mem → Option (Env × Mem) := fun e M =>
    (nx (keep (aFieldAddr 0 1 (eget e 1) M)) (some 4) e M fun e M =>
    nx (keep (aLoad false 1 (eget e 4) M)) (some 5) e M fun e M =>
    nx (keep (aFieldAddr 0 1 (eget e 3) M)) (some 6) e M fun e M =>
    nx (oStore 1 (eget e 6) (eget e 5) M) none e M fun e M =>
    some (e, M)).map fun q => (prune [1, 2, 3] q.1, q.2)
noncomputable def f61_r3 (call : CallF) : Env → Mem → Option (Env × Mem) := fun e M =>
    (nx (keep (aFieldAddr 1 1 (eget e 1) M)) (some 7) e M fun e M =>
    nx (keep (aLoad false 1 (eget e 7) M)) (some 8) e M fun e M =>
    nx (keep (aFieldAddr 1 1 (eget e 3) M)) (some 9) e M fun e M =>
    nx (oStore 1 (eget e 9) (eget e 8) M) none e M fun e M =>
    some (e, M)).map fun q => (prune [1, 2, 3] q.1, q.2)
noncomputable def f61_r4 (call : CallF) : Env → Mem → Option (Env × Mem) := fun e M =>
    (nx (keep (aFieldAddr 2 1 (eget e 1) M)) (some 10) e M fun e M =>
    nx (keep (aLoad false 1 (eget e 10) M)) (some 11) e M fun e M =>
    nx (keep (aFieldAddr 2 1 (eget e 3) M)) (some 12) e M fun e M =>
    nx (oStore 1 (eget e 12) (eget e 11) M) none e M fun e M =>
    some (e, M)).map fun q => (prune [1, 2, 3] q.1, q.2)
noncomputable def f61_r5 (call : CallF) : Env → Mem → Option (Env × Mem) := fun e M =>
    (nx (keep (aFieldAddr 3 1 (eget e 1) M)) (some 13) e M fun e M =>
    nx (keep (aLoad false 1 (eget e 13) M)) (some 14) e M fun e M =>
    nx (keep (aFieldAddr 3 1 (eget e 3) M)) (some 15) e M fun e M =>
    nx (oStore 1 (eget e 15) (eget e 14) M) none e M fun e M =>
    some (e, M)).map fun q => (prune [1, 2, 3] q.1, q.2)
noncomputable def f61_r6 (call : CallF) : Env → Mem → Option (Env × Mem) := fun e M =>
    (nx (keep (aFieldAddr 4 1 (eget e 1) M)) (some 16) e M fun e M =>
    nx (keep (aLoad false 1 (eget e 16) M)) (some 17) e M fun e M =>
    nx (keep (aFieldAddr 4 1 (eget e 3) M)) (some 18) e M fun e M =>
    nx (oStore 1 (eget e 18) (eget e 17) M) none e M fun e M =>
    some (e, M)).map fun q => (prune [2, 3] q.1, q.2)
noncomputable def f61_r7 (call : CallF) : Env → Mem → Option (Env × Mem) := fun e M =>
    (nx (keep (aLoad true 5 (eget e 3) M)) (some 19) e M fun e M =>
    nx (oStore 5 (eget e 2) (eget e 19) M) none e M fun e M =>
    some (e, M)).map fun q => (prune [2] q.1, q.2)
noncomputable def f61 (call : CallF) (k : Nat) : St :=
  (bSeq (bReg (f61_r0 call))
  (bSeq (bReg (f61_r1 call))
  (bSeq (bReg (f61_r2 call))
  (bSeq (bReg (f61_r3 call))
  (bSeq (bReg (f61_r4 call))
  (bSeq (bReg (f61_r5 call))
  (bSeq (bReg (f61_r6 call))
  (bSeq (bReg (f61_r7 call))
  (bEx .ret)))))))))
theorem f61_eq (call : CallF) (k : Nat) : exec cx call 20 f61_an k (Try.f61.body.getD .skip) = f61 call k := by kernel_rfl
/-! ### f62: loop.example/g01263/laws.eqTally -/
def f62_an : Ann := ⟨[(0, ⟨[], [], [], [], [2, 3]⟩), (1, ⟨[], [], [], [], [2, 3, 9]⟩), (2, ⟨[], [], [], [], [4]⟩), (3, ⟨[], [], [], [], [2, 3, 14]⟩), (4, ⟨[], [], [], [], [4]⟩), (5, ⟨[], [], [], [], [2, 3, 19]⟩), (6, ⟨[], [], [], [], [4]⟩), (7, ⟨[], [], [], [], [2, 3, 24]⟩), (8, ⟨[], [], [], [], [4]⟩), (9, ⟨[], [], [], [], [29]⟩), (10, ⟨[], [], [], [], [4]⟩), (11, ⟨[], [], [], [], [4]⟩)], []⟩
noncomputable def f62_r0 (call : CallF) : Env → Mem → Option (Env × Mem) := fun e M =>
    (nx (keep (aBox 5 (eget e 0) M)) (some 2) e M fun e M =>
    nx (keep (aBox 5 (eget e 1) M)) (some 3) e M fun e M =>
    nx (oMv (.bool false)) (some 4) e M fun e M =>
    some (e, M)).map fun q => (prune [2, 3] q.1, q.2)
noncomputable def f62_r1 (call : CallF) : Env → Mem → Option (Env × Mem) := fun e M =>
    (nx (keep (aFieldAddr 0 1 (eget e 2) M)) (some 5) e M fun e M =>
    nx (keep (aLoad false 1 (eget e 5) M)) (some 6) e M fun e M =>
    nx (keep (aFieldAddr 0 1 (eget e 3) M)) (some 7) e M fun e M =>
    nx (keep (aLoad false 1 (eget e 7) M)) (some 8) e M fun e M =>
    nx (oBin cx.P .neq 2 (eget e 6) (eget e 8) M) (some 9) e M fun e M =>
    some (e, M)).map fun q => (prune [2, 3, 9] q.1, q.2)
noncomputable def f62_r2 (call : CallF) : Env → Mem → Option (Env × Mem) := fun e M =>
    (nx (oMv (.bool false)) (some 4) e M fun e M =>
    some (e, M)).map fun q => (prune [4] q.1, q.2)
noncomputable def f62_r3 (call : CallF) : Env → Mem → Option (Env × Mem) := fun e M =>
    (nx (keep (aFieldAddr 1 1 (eget e 2) M)) (some 10) e M fun e M =>
    nx (keep (aLoad false 1 (eget e 10) M)) (some 11) e M fun e M =>
    nx (keep (aFieldAddr 1 1 (eget e 3) M)) (some 12) e M fun e M =>
    nx (keep (aLoad false 1 (eget e 12) M)) (some 13) e M fun e M =>
    nx (oBin cx.P .neq 2 (eget e 11) (eget e 13) M) (some 14) e M fun e M =>
    some (e, M)).map fun q => (prune [2, 3, 14] q.1, q.2)
noncomputable def f62_r4 (call : CallF) : Env → Mem → Option (Env × Mem) := fun e M =>
    (nx (oMv (.bool false)) (some 4) e M fun e M =>
    some (e, M)).map fun q => (prune [4] q.1, q.2)
noncomputable def f62_r5 (call : CallF) : Env → Mem → Option (Env × Mem) := fun e M =>
    (nx (keep (aFieldAddr 2 1 (eget e 2) M)) (some 15) e M fun e M =>
    nx (keep (aLoad false 1 (eget e 15) M)) (some 16) e M fun e M =>
    nx (keep (aFieldAddr 2 1 (eget e 3) M)) (some 17) e M fun e M =>
    nx (keep (aLoad false 1 (eget e 17) M)) (some 18) e M fun e M =>
    nx (oBin cx.P .neq 2 (eget e 16) (eget e 18) M) (some 19) e M fun e M =>
    some (e, M)).map fun q => (prune [2, 3, 19] q.1, q.2)
noncomputable def f62_r6 (call : CallF) : Env → Mem → Option (Env × Mem) := fun e M =>
    (nx (oMv (.bool false)) (some 4) e M fun e M =>
    some (e, M)).map fun q => (prune [4] q.1, q.2)
noncomputable def f62_r7 (call : CallF) : Env → Mem → Option (Env × Mem) := fun e M =>
    (nx (keep (aFieldAddr 3 1 (eget e 2) M)) (some 20) e M fun e M =>
    nx (keep (aLoad false 1 (eget e 20) M)) (some 21) e M fun e M =>
    nx (keep (aFieldAddr 3 1 (eget e 3) M)) (some 22) e M fun e M =>
    nx (keep (aLoad false 1 (eget e 22) M)) (some 23) e M fun e M =>
    nx (oBin cx.P .neq 2 (eget e 21) (eget e 23) M) (some 24) e M fun e M =>
    some (e, M)).map fun q => (prune [2, 3, 24] q.1, q.2)
noncomputable def f62_r8 (call : CallF) : Env → Mem → Option (Env × Mem) := fun e M =>
    (nx (oMv (.bool false)) (some 4) e M fun e M =>
    some (e, M)).map fun q => (prune [4] q.1, q.2)
noncomputable def f62_r9 (call : CallF) : Env → Mem → Option (Env × Mem) := fun e M =>
    (nx (keep (aFieldAddr 4 1 (eget e 2) M)) (some 25) e M fun e M =>
    nx (keep (aLoad false 1 (eget e 25) M)) (some 26) e M fun e M =>
    nx (keep (aFieldAddr 4 1 (eget e 3) M)) (some 27) e M fun e M =>
    nx (keep (aLoad false 1 (eget e 27) M)) (some 28) e M fun e M =>
    nx (oBin cx.P .neq 2 (eget e 26) (eget e 28) M) (some 29) e M fun e M =>
    some (e, M)).map fun q => (prune [29] q.1, q.2)
noncomputable def f62_r10 (call : CallF) : Env → Mem → Option (Env × Mem) := fun e M =>
    (nx (oMv (.bool false)) (some 4) e M fun e M =>
    some (e, M)).map fun q => (prune [4] q.1, q.2)
noncomputable def f62_r11 (call : CallF) : Env → Mem → Option (Env × Mem) := fun e M =>
    (nx (oMv (.bool true)) (some 4) e M fun e M =>
    some (e, M)).map fun q => (prune [4] q.1, q.2)
noncomputable def f62 (call : CallF) (k : Nat) : St :=
  (bSeq (bReg (f62_r0 call))
  (bSeq (bSeq (bReg (f62_r1 call))
  (bCond (.tmp 9)
   (bSeq (bReg (f62_r2 call))
   (bEx .ret))
   (bEx .nrm)))
  (bSeq (bSeq (bReg (f62_r3 call))
  (bCond (.tmp 14)
   (bSeq (bReg (f62_r4 call))
   (bEx .ret))
   (bEx .nrm)))
  (bSeq (bSeq (bReg (f62_r5 call))
  (bCond (.tmp 19)
   (bSeq (bReg (f62_r6 call))
   (bEx .ret))
   (bEx .nrm)))
  (bSeq (bSeq (bReg (f62_r7 call))
  (bCond (.tmp 24)
   (bSeq (bReg (f62_r8 call))
   (bEx .ret))
   (bEx .nrm)))
  (bSeq (bSeq (bReg (f62_r9 call))
  (bCond (.tmp 29)
   (bSeq (bReg (f62_r10 call))
   (bEx .ret))
   (bEx .nrm)))
  (bSeq (bReg (f62_r11 call))
  (bEx .ret))))))))
theorem f62_eq (call : CallF) (k : Nat) : exec cx call 30 f62_an k (Try.f62.body.getD .skip) = f62 call k := by kernel_rfl
def anns : List (Nat × Ann) := [(7, f7_an), (13, f13_an), (15, f15_an), (25, f25_an), (26, f26_an), (27, f27_an), (28, f28_an), (29, f29_an), (46, f46_an), (47, f47_an), (48, f48_an), (49, f49_an), (50, f50_an), (51, f51_an), (52, f52_an), (60, f60_an), (61, f61_an), (62, f62_an)]
noncomputable def CN : Nat → CallF := callN cx (Go.Ab.look anns) (fun _ _ _ => none) (fun _ => false)
end Go.Proofs.Ytaocojognonkcaa

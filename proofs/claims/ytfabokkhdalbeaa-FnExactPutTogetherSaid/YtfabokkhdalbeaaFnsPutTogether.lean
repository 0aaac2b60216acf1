/- Printed by a program of ours (ext.py). -/
import Derived.Test.YtfabokkhdalbeaaAbFold
import Derived.Test.YtfabokkhdalbeaaProg
set_option linter.unusedVariables false
set_option maxRecDepth 100000
set_option maxHeartbeats 2000000
namespace Go.Proofs.Ytfabokkhdalbeaa
open Go Go.Ab
noncomputable def cx : Cx := ⟨Try.prog, fun f => has [25] f⟩
/-! ### f6: loop.example/g01263/laws.FnExactPutTogether -/
def f6_an : Ann := ⟨[(0, ⟨[], [], [], [], [0, 1]⟩), (1, ⟨[], [], [], [], [0, 1, 5]⟩), (2, ⟨[], [], [], [], [0, 1, 5]⟩), (3, ⟨[], [], [], [], [0, 1, 5, 21]⟩), (4, ⟨[], [], [], [], [4]⟩), (5, ⟨[], [], [], [], [0, 1, 5]⟩), (6, ⟨[], [], [], [], [0, 1, 26]⟩), (7, ⟨[], [], [], [], [4]⟩), (8, ⟨[], [], [], [], [0, 1, 6, 7]⟩), (9, ⟨[], [1], [], [], [0, 1, 6, 7, 8]⟩), (10, ⟨[], [1], [], [], [0, 1, 6, 7, 8, 9]⟩), (11, ⟨[], [2], [], [], [0, 1, 6, 7, 8, 9, 10, 11]⟩), (12, ⟨[], [], [], [], [0, 1, 6, 7, 8, 9, 10, 11, 53]⟩), (13, ⟨[], [], [], [], [4]⟩), (14, ⟨[], [], [], [], [0, 1, 6, 7, 8, 9, 10, 11, 58]⟩), (15, ⟨[], [], [], [], [4]⟩), (16, ⟨[], [], [], [], [0, 1, 6, 7, 8, 9, 10, 11, 63]⟩), (17, ⟨[], [], [], [], [4]⟩), (18, ⟨[], [], [], [], [0, 1, 6, 7, 8, 9, 10, 11, 12]⟩), (19, ⟨[], [], [], [], [0, 1, 6, 7, 9, 10, 11, 12]⟩), (20, ⟨[], [], [], [], [0, 1, 6, 7, 10, 11, 12]⟩), (21, ⟨[], [], [], [], [0, 1, 6, 7, 10, 82]⟩), (22, ⟨[], [], [], [], [4]⟩), (23, ⟨[], [], [], [], [0, 1, 6, 7, 10, 13]⟩), (24, ⟨[], [], [], [], [0, 1, 6, 7, 10, 13]⟩), (25, ⟨[], [], [], [], [0, 1, 6, 7, 10, 13, 14]⟩), (26, ⟨[], [], [], [], [0, 1, 6, 7, 10, 13, 14]⟩), (27, ⟨[], [], [], [], [0, 1, 6, 7, 10, 13, 14, 90]⟩), (28, ⟨[], [], [], [], [4]⟩), (29, ⟨[], [], [], [], [0, 1, 6, 7, 10, 13, 93]⟩), (30, ⟨[], [], [], [], [4]⟩), (31, ⟨[], [], [], [], [6, 7, 10, 13, 15, 16]⟩), (32, ⟨[], [], [], [], [10, 13, 110]⟩), (33, ⟨[], [], [], [], [4]⟩), (34, ⟨[], [], [], [], [10, 13, 14]⟩), (35, ⟨[], [], [], [], [13, 14]⟩), (36, ⟨[], [], [], [], [13, 14, 115]⟩), (37, ⟨[], [], [], [], [4]⟩), (38, ⟨[], [], [], [], [118]⟩), (39, ⟨[], [], [], [], [4]⟩), (40, ⟨[], [], [], [], [4]⟩)], []⟩
noncomputable def f6_r0 (call : CallF) : Env → Mem → Option (Env × Mem) := fun e M =>
    (nx (oMv (.bool false)) (some 4) e M fun e M =>
    some (e, M)).map fun q => (prune [0, 1] q.1, q.2)
noncomputable def f6_r1 (call : CallF) : Env → Mem → Option (Env × Mem) := fun e M =>
    (nx (oMv (.int .i64 1048576)) (some 5) e M fun e M =>
    some (e, M)).map fun q => (prune [0, 1, 5] q.1, q.2)
noncomputable def f6_r2 (call : CallF) : Env → Mem → Option (Env × Mem) := fun e M =>
    (nx (oMv (eget e 0)) (some 17) e M fun e M =>
    nx (oMv (eget e 5)) (some 18) e M fun e M =>
    nx (aCall cx.P.cellsOf cx.rw call false M.length 20 [(eget e 17), (eget e 18)] M) (some 19) e M fun e M =>
    nx (oMv (eget e 19)) (some 5) e M fun e M =>
    some (e, M)).map fun q => (prune [0, 1, 5] q.1, q.2)
noncomputable def f6_r3 (call : CallF) : Env → Mem → Option (Env × Mem) := fun e M =>
    (nx (oMv (eget e 5)) (some 20) e M fun e M =>
    nx (oBin cx.P .lss 3 (eget e 20) (.int .i64 0) M) (some 21) e M fun e M =>
    some (e, M)).map fun q => (prune [0, 1, 5, 21] q.1, q.2)
noncomputable def f6_r4 (call : CallF) : Env → Mem → Option (Env × Mem) := fun e M =>
    (nx (oMv (.bool true)) (some 4) e M fun e M =>
    some (e, M)).map fun q => (prune [4] q.1, q.2)
noncomputable def f6_r5 (call : CallF) : Env → Mem → Option (Env × Mem) := fun e M =>
    (nx (oMv (eget e 1)) (some 22) e M fun e M =>
    nx (oMv (eget e 5)) (some 23) e M fun e M =>
    nx (aCall cx.P.cellsOf cx.rw call false M.length 20 [(eget e 22), (eget e 23)] M) (some 24) e M fun e M =>
    nx (oMv (eget e 24)) (some 5) e M fun e M =>
    some (e, M)).map fun q => (prune [0, 1, 5] q.1, q.2)
noncomputable def f6_r6 (call : CallF) : Env → Mem → Option (Env × Mem) := fun e M =>
    (nx (oMv (eget e 5)) (some 25) e M fun e M =>
    nx (oBin cx.P .lss 3 (eget e 25) (.int .i64 0) M) (some 26) e M fun e M =>
    some (e, M)).map fun q => (prune [0, 1, 26] q.1, q.2)
noncomputable def f6_r7 (call : CallF) : Env → Mem → Option (Env × Mem) := fun e M =>
    (nx (oMv (.bool true)) (some 4) e M fun e M =>
    some (e, M)).map fun q => (prune [4] q.1, q.2)
noncomputable def f6_r8 (call : CallF) : Env → Mem → Option (Env × Mem) := fun e M =>
    (nx (oMv (eget e 0)) (some 28) e M fun e M =>
    nx (aCall cx.P.cellsOf cx.rw call false M.length 22 [(eget e 28)] M) (some 29) e M fun e M =>
    nx (oMv (eget e 1)) (some 30) e M fun e M =>
    nx (aCall cx.P.cellsOf cx.rw call false M.length 22 [(eget e 30)] M) (some 31) e M fun e M =>
    nx (aCall cx.P.cellsOf cx.rw call false M.length 21 [(eget e 29), (eget e 31)] M) (some 32) e M fun e M =>
    nx (oMv (eget e 32)) (some 27) e M fun e M =>
    nx (keep (aExtract 0 (eget e 27))) (some 33) e M fun e M =>
    nx (keep (aExtract 1 (eget e 27))) (some 34) e M fun e M =>
    nx (oMv (eget e 33)) (some 6) e M fun e M =>
    nx (oMv (eget e 34)) (some 7) e M fun e M =>
    some (e, M)).map fun q => (prune [0, 1, 6, 7] q.1, q.2)
noncomputable def f6_r9 (call : CallF) : Env → Mem → Option (Env × Mem) := fun e M =>
    (nx (oMv (eget e 0)) (some 35) e M fun e M =>
    nx (aCall cx.P.cellsOf cx.rw call true M.length 22 [(eget e 35)] M) (some 36) e M fun e M =>
    nx (oMv (eget e 36)) (some 8) e M fun e M =>
    some (e, M)).map fun q => (prune [0, 1, 6, 7, 8] q.1, q.2)
noncomputable def f6_r10 (call : CallF) : Env → Mem → Option (Env × Mem) := fun e M =>
    (nx (oMv (eget e 1)) (some 37) e M fun e M =>
    nx (aCall cx.P.cellsOf cx.rw call true M.length 22 [(eget e 37)] M) (some 38) e M fun e M =>
    nx (oMv (eget e 38)) (some 9) e M fun e M =>
    some (e, M)).map fun q => (prune [0, 1, 6, 7, 8, 9] q.1, q.2)
noncomputable def f6_r11 (call : CallF) : Env → Mem → Option (Env × Mem) := fun e M =>
    (nx (oMv (eget e 8)) (some 40) e M fun e M =>
    nx (oMv (eget e 9)) (some 41) e M fun e M =>
    nx (aCall cx.P.cellsOf cx.rw call true M.length 23 [(eget e 40), (eget e 41)] M) (some 42) e M fun e M =>
    nx (oMv (eget e 42)) (some 39) e M fun e M =>
    nx (keep (aExtract 0 (eget e 39))) (some 43) e M fun e M =>
    nx (keep (aExtract 1 (eget e 39))) (some 44) e M fun e M =>
    nx (oMv (eget e 43)) (some 10) e M fun e M =>
    nx (oMv (eget e 44)) (some 11) e M fun e M =>
    some (e, M)).map fun q => (prune [0, 1, 6, 7, 8, 9, 10, 11] q.1, q.2)
noncomputable def f6_r12 (call : CallF) : Env → Mem → Option (Env × Mem) := fun e M =>
    (nx (oMv (eget e 10)) (some 45) e M fun e M =>
    nx (oMv (eget e 6)) (some 46) e M fun e M =>
    nx (aCall cx.P.cellsOf cx.rw call false M.length 24 [(eget e 45), (eget e 46)] M) (some 47) e M fun e M =>
    nx (keep (aUn .not (eget e 47))) (some 48) e M fun e M =>
    nx (oMv (eget e 48)) (some 49) e M fun e M =>
    nx (aGuard (some ((eget e 49), false)) (oMv (eget e 11))) (some 50) e M fun e M =>
    nx (aGuard (some ((eget e 49), false)) (oMv (eget e 7))) (some 51) e M fun e M =>
    nx (aGuard (some ((eget e 49), false)) (oBin cx.P .neq 2 (eget e 50) (eget e 51) M)) (some 52) e M fun e M =>
    nx (keep (aPick (eget e 49) (.bool true) (eget e 52))) (some 53) e M fun e M =>
    some (e, M)).map fun q => (prune [0, 1, 6, 7, 8, 9, 10, 11, 53] q.1, q.2)
noncomputable def f6_r13 (call : CallF) : Env → Mem → Option (Env × Mem) := fun e M =>
    (nx (oMv (.bool false)) (some 4) e M fun e M =>
    some (e, M)).map fun q => (prune [4] q.1, q.2)
noncomputable def f6_r14 (call : CallF) : Env → Mem → Option (Env × Mem) := fun e M =>
    (nx (oMv (eget e 8)) (some 54) e M fun e M =>
    nx (oMv (eget e 0)) (some 55) e M fun e M =>
    nx (aCall cx.P.cellsOf cx.rw call false M.length 22 [(eget e 55)] M) (some 56) e M fun e M =>
    nx (aCall cx.P.cellsOf cx.rw call false M.length 24 [(eget e 54), (eget e 56)] M) (some 57) e M fun e M =>
    nx (keep (aUn .not (eget e 57))) (some 58) e M fun e M =>
    some (e, M)).map fun q => (prune [0, 1, 6, 7, 8, 9, 10, 11, 58] q.1, q.2)
noncomputable def f6_r15 (call : CallF) : Env → Mem → Option (Env × Mem) := fun e M =>
    (nx (oMv (.bool false)) (some 4) e M fun e M =>
    some (e, M)).map fun q => (prune [4] q.1, q.2)
noncomputable def f6_r16 (call : CallF) : Env → Mem → Option (Env × Mem) := fun e M =>
    (nx (oMv (eget e 9)) (some 59) e M fun e M =>
    nx (oMv (eget e 1)) (some 60) e M fun e M =>
    nx (aCall cx.P.cellsOf cx.rw call false M.length 22 [(eget e 60)] M) (some 61) e M fun e M =>
    nx (aCall cx.P.cellsOf cx.rw call false M.length 24 [(eget e 59), (eget e 61)] M) (some 62) e M fun e M =>
    nx (keep (aUn .not (eget e 62))) (some 63) e M fun e M =>
    some (e, M)).map fun q => (prune [0, 1, 6, 7, 8, 9, 10, 11, 63] q.1, q.2)
noncomputable def f6_r17 (call : CallF) : Env → Mem → Option (Env × Mem) := fun e M =>
    (nx (oMv (.bool false)) (some 4) e M fun e M =>
    some (e, M)).map fun q => (prune [4] q.1, q.2)
noncomputable def f6_r18 (call : CallF) : Env → Mem → Option (Env × Mem) := fun e M =>
    (nx (oMv (.int .i64 1)) (some 12) e M fun e M =>
    some (e, M)).map fun q => (prune [0, 1, 6, 7, 8, 9, 10, 11, 12] q.1, q.2)
noncomputable def f6_r19 (call : CallF) : Env → Mem → Option (Env × Mem) := fun e M =>
    (nx (oMv (eget e 8)) (some 64) e M fun e M =>
    nx (oMv (eget e 12)) (some 65) e M fun e M =>
    nx (aCall cx.P.cellsOf cx.rw call false M.length 25 [(eget e 64), (eget e 65)] M) (some 66) e M fun e M =>
    nx (oMv (eget e 66)) (some 12) e M fun e M =>
    some (e, M)).map fun q => (prune [0, 1, 6, 7, 9, 10, 11, 12] q.1, q.2)
noncomputable def f6_r20 (call : CallF) : Env → Mem → Option (Env × Mem) := fun e M =>
    (nx (oMv (eget e 9)) (some 67) e M fun e M =>
    nx (oMv (eget e 12)) (some 68) e M fun e M =>
    nx (aCall cx.P.cellsOf cx.rw call false M.length 25 [(eget e 67), (eget e 68)] M) (some 69) e M fun e M =>
    nx (oMv (eget e 69)) (some 12) e M fun e M =>
    some (e, M)).map fun q => (prune [0, 1, 6, 7, 10, 11, 12] q.1, q.2)
noncomputable def f6_r21 (call : CallF) : Env → Mem → Option (Env × Mem) := fun e M =>
    (nx (oMv (eget e 12)) (some 70) e M fun e M =>
    nx (oBin cx.P .lss 3 (eget e 70) (.int .i64 0) M) (some 71) e M fun e M =>
    nx (oMv (eget e 71)) (some 72) e M fun e M =>
    nx (aGuard (some ((eget e 72), false)) (oMv (eget e 10))) (some 73) e M fun e M =>
    nx (aGuard (some ((eget e 72), false)) (oMv (eget e 6))) (some 74) e M fun e M =>
    nx (aGuard (some ((eget e 72), false)) (aCall cx.P.cellsOf cx.rw call false M.length 24 [(eget e 73), (eget e 74)] M)) (some 75) e M fun e M =>
    nx (aGuard (some ((eget e 72), false)) (keep (aUn .not (eget e 75)))) (some 76) e M fun e M =>
    nx (keep (aPick (eget e 72) (.bool true) (eget e 76))) (some 77) e M fun e M =>
    nx (oMv (eget e 77)) (some 78) e M fun e M =>
    nx (aGuard (some ((eget e 78), false)) (oMv (eget e 11))) (some 79) e M fun e M =>
    nx (aGuard (some ((eget e 78), false)) (oMv (eget e 7))) (some 80) e M fun e M =>
    nx (aGuard (some ((eget e 78), false)) (oBin cx.P .neq 2 (eget e 79) (eget e 80) M)) (some 81) e M fun e M =>
    nx (keep (aPick (eget e 78) (.bool true) (eget e 81))) (some 82) e M fun e M =>
    some (e, M)).map fun q => (prune [0, 1, 6, 7, 10, 82] q.1, q.2)
noncomputable def f6_r22 (call : CallF) : Env → Mem → Option (Env × Mem) := fun e M =>
    (nx (oMv (.bool false)) (some 4) e M fun e M =>
    some (e, M)).map fun q => (prune [4] q.1, q.2)
noncomputable def f6_r23 (call : CallF) : Env → Mem → Option (Env × Mem) := fun e M =>
    (nx (oMv (.int .i64 1)) (some 13) e M fun e M =>
    some (e, M)).map fun q => (prune [0, 1, 6, 7, 10, 13] q.1, q.2)
noncomputable def f6_r24 (call : CallF) : Env → Mem → Option (Env × Mem) := fun e M =>
    (nx (oMv (eget e 10)) (some 83) e M fun e M =>
    nx (oMv (eget e 13)) (some 84) e M fun e M =>
    nx (aCall cx.P.cellsOf cx.rw call false M.length 25 [(eget e 83), (eget e 84)] M) (some 85) e M fun e M =>
    nx (oMv (eget e 85)) (some 13) e M fun e M =>
    some (e, M)).map fun q => (prune [0, 1, 6, 7, 10, 13] q.1, q.2)
noncomputable def f6_r25 (call : CallF) : Env → Mem → Option (Env × Mem) := fun e M =>
    (nx (oMv (.int .i64 1)) (some 14) e M fun e M =>
    some (e, M)).map fun q => (prune [0, 1, 6, 7, 10, 13, 14] q.1, q.2)
noncomputable def f6_r26 (call : CallF) : Env → Mem → Option (Env × Mem) := fun e M =>
    (nx (oMv (eget e 10)) (some 86) e M fun e M =>
    nx (oMv (eget e 14)) (some 87) e M fun e M =>
    nx (aCall cx.P.cellsOf cx.rw call false M.length 26 [(eget e 86), (eget e 87)] M) (some 88) e M fun e M =>
    nx (oMv (eget e 88)) (some 14) e M fun e M =>
    some (e, M)).map fun q => (prune [0, 1, 6, 7, 10, 13, 14] q.1, q.2)
noncomputable def f6_r27 (call : CallF) : Env → Mem → Option (Env × Mem) := fun e M =>
    (nx (oMv (eget e 14)) (some 89) e M fun e M =>
    nx (oBin cx.P .lss 3 (eget e 89) (.int .i64 0) M) (some 90) e M fun e M =>
    some (e, M)).map fun q => (prune [0, 1, 6, 7, 10, 13, 14, 90] q.1, q.2)
noncomputable def f6_r28 (call : CallF) : Env → Mem → Option (Env × Mem) := fun e M =>
    (nx (oMv (.bool false)) (some 4) e M fun e M =>
    some (e, M)).map fun q => (prune [4] q.1, q.2)
noncomputable def f6_r29 (call : CallF) : Env → Mem → Option (Env × Mem) := fun e M =>
    (nx (oMv (eget e 14)) (some 91) e M fun e M =>
    nx (oMv (eget e 13)) (some 92) e M fun e M =>
    nx (oBin cx.P .neq 3 (eget e 91) (eget e 92) M) (some 93) e M fun e M =>
    some (e, M)).map fun q => (prune [0, 1, 6, 7, 10, 13, 93] q.1, q.2)
noncomputable def f6_r30 (call : CallF) : Env → Mem → Option (Env × Mem) := fun e M =>
    (nx (oMv (.bool false)) (some 4) e M fun e M =>
    some (e, M)).map fun q => (prune [4] q.1, q.2)
noncomputable def f6_r31 (call : CallF) : Env → Mem → Option (Env × Mem) := fun e M =>
    (nx (oMv (eget e 0)) (some 95) e M fun e M =>
    nx (aCall cx.P.cellsOf cx.rw call false M.length 22 [(eget e 95)] M) (some 96) e M fun e M =>
    nx (oMv (eget e 1)) (some 97) e M fun e M =>
    nx (aCall cx.P.cellsOf cx.rw call false M.length 22 [(eget e 97)] M) (some 98) e M fun e M =>
    nx (aCall cx.P.cellsOf cx.rw call false M.length 23 [(eget e 96), (eget e 98)] M) (some 99) e M fun e M =>
    nx (oMv (eget e 99)) (some 94) e M fun e M =>
    nx (keep (aExtract 0 (eget e 94))) (some 100) e M fun e M =>
    nx (keep (aExtract 1 (eget e 94))) (some 101) e M fun e M =>
    nx (oMv (eget e 100)) (some 15) e M fun e M =>
    nx (oMv (eget e 101)) (some 16) e M fun e M =>
    some (e, M)).map fun q => (prune [6, 7, 10, 13, 15, 16] q.1, q.2)
noncomputable def f6_r32 (call : CallF) : Env → Mem → Option (Env × Mem) := fun e M =>
    (nx (oMv (eget e 15)) (some 102) e M fun e M =>
    nx (oMv (eget e 6)) (some 103) e M fun e M =>
    nx (aCall cx.P.cellsOf cx.rw call false M.length 24 [(eget e 102), (eget e 103)] M) (some 104) e M fun e M =>
    nx (keep (aUn .not (eget e 104))) (some 105) e M fun e M =>
    nx (oMv (eget e 105)) (some 106) e M fun e M =>
    nx (aGuard (some ((eget e 106), false)) (oMv (eget e 16))) (some 107) e M fun e M =>
    nx (aGuard (some ((eget e 106), false)) (oMv (eget e 7))) (some 108) e M fun e M =>
    nx (aGuard (some ((eget e 106), false)) (oBin cx.P .neq 2 (eget e 107) (eget e 108) M)) (some 109) e M fun e M =>
    nx (keep (aPick (eget e 106) (.bool true) (eget e 109))) (some 110) e M fun e M =>
    some (e, M)).map fun q => (prune [10, 13, 110] q.1, q.2)
noncomputable def f6_r33 (call : CallF) : Env → Mem → Option (Env × Mem) := fun e M =>
    (nx (oMv (.bool false)) (some 4) e M fun e M =>
    some (e, M)).map fun q => (prune [4] q.1, q.2)
noncomputable def f6_r34 (call : CallF) : Env → Mem → Option (Env × Mem) := fun e M =>
    (nx (oMv (.int .i64 1)) (some 14) e M fun e M =>
    some (e, M)).map fun q => (prune [10, 13, 14] q.1, q.2)
noncomputable def f6_r35 (call : CallF) : Env → Mem → Option (Env × Mem) := fun e M =>
    (nx (oMv (eget e 10)) (some 111) e M fun e M =>
    nx (oMv (eget e 14)) (some 112) e M fun e M =>
    nx (aCall cx.P.cellsOf cx.rw call false M.length 26 [(eget e 111), (eget e 112)] M) (some 113) e M fun e M =>
    nx (oMv (eget e 113)) (some 14) e M fun e M =>
    some (e, M)).map fun q => (prune [13, 14] q.1, q.2)
noncomputable def f6_r36 (call : CallF) : Env → Mem → Option (Env × Mem) := fun e M =>
    (nx (oMv (eget e 14)) (some 114) e M fun e M =>
    nx (oBin cx.P .lss 3 (eget e 114) (.int .i64 0) M) (some 115) e M fun e M =>
    some (e, M)).map fun q => (prune [13, 14, 115] q.1, q.2)
noncomputable def f6_r37 (call : CallF) : Env → Mem → Option (Env × Mem) := fun e M =>
    (nx (oMv (.bool false)) (some 4) e M fun e M =>
    some (e, M)).map fun q => (prune [4] q.1, q.2)
noncomputable def f6_r38 (call : CallF) : Env → Mem → Option (Env × Mem) := fun e M =>
    (nx (oMv (eget e 14)) (some 116) e M fun e M =>
    nx (oMv (eget e 13)) (some 117) e M fun e M =>
    nx (oBin cx.P .neq 3 (eget e 116) (eget e 117) M) (some 118) e M fun e M =>
    some (e, M)).map fun q => (prune [118] q.1, q.2)
noncomputable def f6_r39 (call : CallF) : Env → Mem → Option (Env × Mem) := fun e M =>
    (nx (oMv (.bool false)) (some 4) e M fun e M =>
    some (e, M)).map fun q => (prune [4] q.1, q.2)
noncomputable def f6_r40 (call : CallF) : Env → Mem → Option (Env × Mem) := fun e M =>
    (nx (oMv (.bool true)) (some 4) e M fun e M =>
    some (e, M)).map fun q => (prune [4] q.1, q.2)
noncomputable def f6 (call : CallF) (k : Nat) : St :=
  (bSeq (bReg (f6_r0 call))
  (bSeq (bReg (f6_r1 call))
  (bSeq (bReg (f6_r2 call))
  (bSeq (bSeq (bReg (f6_r3 call))
  (bCond (.tmp 21)
   (bSeq (bReg (f6_r4 call))
   (bEx .ret))
   (bEx .nrm)))
  (bSeq (bReg (f6_r5 call))
  (bSeq (bSeq (bReg (f6_r6 call))
  (bCond (.tmp 26)
   (bSeq (bReg (f6_r7 call))
   (bEx .ret))
   (bEx .nrm)))
  (bSeq (bReg (f6_r8 call))
  (bSeq (bReg (f6_r9 call))
  (bSeq (bReg (f6_r10 call))
  (bSeq (bReg (f6_r11 call))
  (bSeq (bSeq (bReg (f6_r12 call))
  (bCond (.tmp 53)
   (bSeq (bReg (f6_r13 call))
   (bEx .ret))
   (bEx .nrm)))
  (bSeq (bSeq (bReg (f6_r14 call))
  (bCond (.tmp 58)
   (bSeq (bReg (f6_r15 call))
   (bEx .ret))
   (bEx .nrm)))
  (bSeq (bSeq (bReg (f6_r16 call))
  (bCond (.tmp 63)
   (bSeq (bReg (f6_r17 call))
   (bEx .ret))
   (bEx .nrm)))
  (bSeq (bReg (f6_r18 call))
  (bSeq (bReg (f6_r19 call))
  (bSeq (bReg (f6_r20 call))
  (bSeq (bSeq (bReg (f6_r21 call))
  (bCond (.tmp 82)
   (bSeq (bReg (f6_r22 call))
   (bEx .ret))
   (bEx .nrm)))
  (bSeq (bReg (f6_r23 call))
  (bSeq (bReg (f6_r24 call))
  (bSeq (bReg (f6_r25 call))
  (bSeq (bReg (f6_r26 call))
  (bSeq (bSeq (bReg (f6_r27 call))
  (bCond (.tmp 90)
   (bSeq (bReg (f6_r28 call))
   (bEx .ret))
   (bEx .nrm)))
  (bSeq (bSeq (bReg (f6_r29 call))
  (bCond (.tmp 93)
   (bSeq (bReg (f6_r30 call))
   (bEx .ret))
   (bEx .nrm)))
  (bSeq (bReg (f6_r31 call))
  (bSeq (bSeq (bReg (f6_r32 call))
  (bCond (.tmp 110)
   (bSeq (bReg (f6_r33 call))
   (bEx .ret))
   (bEx .nrm)))
  (bSeq (bReg (f6_r34 call))
  (bSeq (bReg (f6_r35 call))
  (bSeq (bSeq (bReg (f6_r36 call))
  (bCond (.tmp 115)
   (bSeq (bReg (f6_r37 call))
   (bEx .ret))
   (bEx .nrm)))
  (bSeq (bSeq (bReg (f6_r38 call))
  (bCond (.tmp 118)
   (bSeq (bReg (f6_r39 call))
   (bEx .ret))
   (bEx .nrm)))
  (bSeq (bReg (f6_r40 call))
  (bEx .ret)))))))))))))))))))))))))))))))
theorem f6_eq (call : CallF) (k : Nat) : exec cx call 119 f6_an k (Try.f6.body.getD .skip) = f6 call k := by kernel_rfl
/-! ### f20: loop.example/g01263/laws.szDealS -/
def f20_an : Ann := ⟨[(0, ⟨[], [], [], [], [0, 1]⟩), (1, ⟨[], [], [], [], [1]⟩), (2, ⟨[], [], [], [], [1, 10]⟩), (3, ⟨[], [], [], [], [4]⟩), (4, ⟨[], [], [], [], [4]⟩)], []⟩
noncomputable def f20_r0 (call : CallF) : Env → Mem → Option (Env × Mem) := fun e M =>
    (nx (oMv (.int .i64 0)) (some 4) e M fun e M =>
    some (e, M)).map fun q => (prune [0, 1] q.1, q.2)
noncomputable def f20_r1 (call : CallF) : Env → Mem → Option (Env × Mem) := fun e M =>
    (nx (oMv (eget e 1)) (some 5) e M fun e M =>
    nx (oMv (eget e 0)) (some 6) e M fun e M =>
    nx (oLen cx.P 54 (eget e 6) M) (some 7) e M fun e M =>
    nx (oBin cx.P .sub 3 (eget e 5) (eget e 7) M) (some 8) e M fun e M =>
    nx (oMv (eget e 8)) (some 1) e M fun e M =>
    some (e, M)).map fun q => (prune [1] q.1, q.2)
noncomputable def f20_r2 (call : CallF) : Env → Mem → Option (Env × Mem) := fun e M =>
    (nx (oMv (eget e 1)) (some 9) e M fun e M =>
    nx (oBin cx.P .lss 3 (eget e 9) (.int .i64 0) M) (some 10) e M fun e M =>
    some (e, M)).map fun q => (prune [1, 10] q.1, q.2)
noncomputable def f20_r3 (call : CallF) : Env → Mem → Option (Env × Mem) := fun e M =>
    (nx (oMv (.int .i64 (-1))) (some 4) e M fun e M =>
    some (e, M)).map fun q => (prune [4] q.1, q.2)
noncomputable def f20_r4 (call : CallF) : Env → Mem → Option (Env × Mem) := fun e M =>
    (nx (oMv (eget e 1)) (some 11) e M fun e M =>
    nx (oMv (eget e 11)) (some 4) e M fun e M =>
    some (e, M)).map fun q => (prune [4] q.1, q.2)
noncomputable def f20 (call : CallF) (k : Nat) : St :=
  (bSeq (bReg (f20_r0 call))
  (bSeq (bReg (f20_r1 call))
  (bSeq (bSeq (bReg (f20_r2 call))
  (bCond (.tmp 10)
   (bSeq (bReg (f20_r3 call))
   (bEx .ret))
   (bEx .nrm)))
  (bSeq (bReg (f20_r4 call))
  (bEx .ret)))))
theorem f20_eq (call : CallF) (k : Nat) : exec cx call 12 f20_an k (Try.f20.body.getD .skip) = f20 call k := by kernel_rfl
/-! ### f21: loop.example/g01263/spec.PutTogether -/
def f21_an : Ann := ⟨[(0, ⟨[], [], [], [], [0, 1]⟩), (1, ⟨[], [], [], [], [0, 1, 16]⟩), (2, ⟨[0], [], [], [], [4, 5]⟩), (3, ⟨[], [], [], [], [0, 1, 25]⟩), (4, ⟨[0], [], [], [], [4, 5]⟩), (5, ⟨[], [], [], [], [0, 1, 34]⟩), (6, ⟨[0], [], [], [], [4, 5]⟩), (7, ⟨[], [], [], [], [0, 1, 41]⟩), (8, ⟨[0], [], [], [], [4, 5]⟩), (9, ⟨[0], [], [], [], [0, 1, 6]⟩), (10, ⟨[], [], [], [], [0, 1, 6, 7]⟩), (11, ⟨[], [], [], [], [0, 1, 6, 7, 8]⟩), (12, ⟨[], [], [], [], [0, 1, 6, 7, 8, 53]⟩), (13, ⟨[], [], [], [], [0, 1, 6, 7, 8, 76]⟩), (14, ⟨[6], [], [], [], [0, 1, 6, 7, 8]⟩), (15, ⟨[], [], [], [], [0, 1, 6, 7, 8]⟩), (16, ⟨[6], [], [], [], [0, 1, 6, 7, 8]⟩), (17, ⟨[], [], [], [], [0, 1, 6, 7, 8]⟩), (18, ⟨[], [], [], [], [4, 5]⟩)], [(12, [0, 1, 6, 7, 8])]⟩
noncomputable def f21_r0 (call : CallF) : Env → Mem → Option (Env × Mem) := fun e M =>
    (nx (oMv .nils) (some 4) e M fun e M =>
    nx (oMv (.int .i64 0)) (some 5) e M fun e M =>
    some (e, M)).map fun q => (prune [0, 1] q.1, q.2)
noncomputable def f21_r1 (call : CallF) : Env → Mem → Option (Env × Mem) := fun e M =>
    (nx (oMv (eget e 0)) (some 9) e M fun e M =>
    nx (aCall cx.P.cellsOf cx.rw call false M.length 49 [(eget e 9)] M) (some 10) e M fun e M =>
    nx (keep (aUn .not (eget e 10))) (some 11) e M fun e M =>
    nx (oMv (eget e 11)) (some 12) e M fun e M =>
    nx (aGuard (some ((eget e 12), false)) (oMv (eget e 1))) (some 13) e M fun e M =>
    nx (aGuard (some ((eget e 12), false)) (aCall cx.P.cellsOf cx.rw call false M.length 49 [(eget e 13)] M)) (some 14) e M fun e M =>
    nx (aGuard (some ((eget e 12), false)) (keep (aUn .not (eget e 14)))) (some 15) e M fun e M =>
    nx (keep (aPick (eget e 12) (.bool true) (eget e 15))) (some 16) e M fun e M =>
    some (e, M)).map fun q => (prune [0, 1, 16] q.1, q.2)
noncomputable def f21_r2 (call : CallF) : Env → Mem → Option (Env × Mem) := fun e M =>
    (nx (aLitO M.length 85 6 [] M) (some 17) e M fun e M =>
    nx (oMv (eget e 17)) (some 4) e M fun e M =>
    nx (oMv (.int .i64 1)) (some 5) e M fun e M =>
    some (e, M)).map fun q => (prune [4, 5] q.1, q.2)
noncomputable def f21_r3 (call : CallF) : Env → Mem → Option (Env × Mem) := fun e M =>
    (nx (oMv (eget e 0)) (some 18) e M fun e M =>
    nx (oLen cx.P 56 (eget e 18) M) (some 19) e M fun e M =>
    nx (oBin cx.P .gtr 3 (eget e 19) (.int .i64 80) M) (some 20) e M fun e M =>
    nx (oMv (eget e 20)) (some 21) e M fun e M =>
    nx (aGuard (some ((eget e 21), false)) (oMv (eget e 1))) (some 22) e M fun e M =>
    nx (aGuard (some ((eget e 21), false)) (oLen cx.P 56 (eget e 22) M)) (some 23) e M fun e M =>
    nx (aGuard (some ((eget e 21), false)) (oBin cx.P .gtr 3 (eget e 23) (.int .i64 80) M)) (some 24) e M fun e M =>
    nx (keep (aPick (eget e 21) (.bool true) (eget e 24))) (some 25) e M fun e M =>
    some (e, M)).map fun q => (prune [0, 1, 25] q.1, q.2)
noncomputable def f21_r4 (call : CallF) : Env → Mem → Option (Env × Mem) := fun e M =>
    (nx (aLitO M.length 85 6 [] M) (some 26) e M fun e M =>
    nx (oMv (eget e 26)) (some 4) e M fun e M =>
    nx (oMv (.int .i64 3)) (some 5) e M fun e M =>
    some (e, M)).map fun q => (prune [4, 5] q.1, q.2)
noncomputable def f21_r5 (call : CallF) : Env → Mem → Option (Env × Mem) := fun e M =>
    (nx (oMv (eget e 0)) (some 27) e M fun e M =>
    nx (aCall cx.P.cellsOf cx.rw call false M.length 50 [(eget e 27)] M) (some 28) e M fun e M =>
    nx (keep (aUn .not (eget e 28))) (some 29) e M fun e M =>
    nx (oMv (eget e 29)) (some 30) e M fun e M =>
    nx (aGuard (some ((eget e 30), false)) (oMv (eget e 1))) (some 31) e M fun e M =>
    nx (aGuard (some ((eget e 30), false)) (aCall cx.P.cellsOf cx.rw call false M.length 50 [(eget e 31)] M)) (some 32) e M fun e M =>
    nx (aGuard (some ((eget e 30), false)) (keep (aUn .not (eget e 32)))) (some 33) e M fun e M =>
    nx (keep (aPick (eget e 30) (.bool true) (eget e 33))) (some 34) e M fun e M =>
    some (e, M)).map fun q => (prune [0, 1, 34] q.1, q.2)
noncomputable def f21_r6 (call : CallF) : Env → Mem → Option (Env × Mem) := fun e M =>
    (nx (aLitO M.length 85 6 [] M) (some 35) e M fun e M =>
    nx (oMv (eget e 35)) (some 4) e M fun e M =>
    nx (oMv (.int .i64 4)) (some 5) e M fun e M =>
    some (e, M)).map fun q => (prune [4, 5] q.1, q.2)
noncomputable def f21_r7 (call : CallF) : Env → Mem → Option (Env × Mem) := fun e M =>
    (nx (oMv (eget e 0)) (some 36) e M fun e M =>
    nx (oLen cx.P 56 (eget e 36) M) (some 37) e M fun e M =>
    nx (oMv (eget e 1)) (some 38) e M fun e M =>
    nx (oLen cx.P 56 (eget e 38) M) (some 39) e M fun e M =>
    nx (oBin cx.P .add 3 (eget e 37) (eget e 39) M) (some 40) e M fun e M =>
    nx (oBin cx.P .gtr 3 (eget e 40) (.int .i64 80) M) (some 41) e M fun e M =>
    some (e, M)).map fun q => (prune [0, 1, 41] q.1, q.2)
noncomputable def f21_r8 (call : CallF) : Env → Mem → Option (Env × Mem) := fun e M =>
    (nx (aLitO M.length 85 6 [] M) (some 42) e M fun e M =>
    nx (oMv (eget e 42)) (some 4) e M fun e M =>
    nx (oMv (.int .i64 3)) (some 5) e M fun e M =>
    some (e, M)).map fun q => (prune [4, 5] q.1, q.2)
noncomputable def f21_r9 (call : CallF) : Env → Mem → Option (Env × Mem) := fun e M =>
    (nx (aLitO M.length 85 6 [] M) (some 43) e M fun e M =>
    nx (oMv (eget e 43)) (some 6) e M fun e M =>
    some (e, M)).map fun q => (prune [0, 1, 6] q.1, q.2)
noncomputable def f21_r10 (call : CallF) : Env → Mem → Option (Env × Mem) := fun e M =>
    (nx (oMv (.int .i64 0)) (some 7) e M fun e M =>
    some (e, M)).map fun q => (prune [0, 1, 6, 7] q.1, q.2)
noncomputable def f21_r11 (call : CallF) : Env → Mem → Option (Env × Mem) := fun e M =>
    (nx (oMv (.int .i64 0)) (some 8) e M fun e M =>
    some (e, M)).map fun q => (prune [0, 1, 6, 7, 8] q.1, q.2)
noncomputable def f21_r12 (call : CallF) : Env → Mem → Option (Env × Mem) := fun e M =>
    (nx (oMv (eget e 7)) (some 44) e M fun e M =>
    nx (oMv (eget e 0)) (some 45) e M fun e M =>
    nx (oLen cx.P 56 (eget e 45) M) (some 46) e M fun e M =>
    nx (oBin cx.P .lss 3 (eget e 44) (eget e 46) M) (some 47) e M fun e M =>
    nx (oMv (eget e 47)) (some 48) e M fun e M =>
    nx (aGuard (some ((eget e 48), false)) (oMv (eget e 8))) (some 49) e M fun e M =>
    nx (aGuard (some ((eget e 48), false)) (oMv (eget e 1))) (some 50) e M fun e M =>
    nx (aGuard (some ((eget e 48), false)) (oLen cx.P 56 (eget e 50) M)) (some 51) e M fun e M =>
    nx (aGuard (some ((eget e 48), false)) (oBin cx.P .lss 3 (eget e 49) (eget e 51) M)) (some 52) e M fun e M =>
    nx (keep (aPick (eget e 48) (.bool true) (eget e 52))) (some 53) e M fun e M =>
    some (e, M)).map fun q => (prune [0, 1, 6, 7, 8, 53] q.1, q.2)
noncomputable def f21_r13 (call : CallF) : Env → Mem → Option (Env × Mem) := fun e M =>
    rD [0, 1, 6, 7, 8, 76] (fun (C : List Ob) =>
    nf (oMv (eget e 7)) (some 54) false e C fun e C =>
    nf (oMv (eget e 0)) (some 55) false e C fun e C =>
    nf (oLen cx.P 56 (eget e 55) M) (some 56) false e C fun e C =>
    nf (oBin cx.P .eql 3 (eget e 54) (eget e 56) M) (some 57) false e C fun e C =>
    nf (oMv (eget e 57)) (some 58) false e C fun e C =>
    nf (aGuard (some ((eget e 58), false)) (oMv (eget e 8))) (some 59) false e C fun e C =>
    nf (aGuard (some ((eget e 58), false)) (oMv (eget e 1))) (some 60) false e C fun e C =>
    nf (aGuard (some ((eget e 58), false)) (oLen cx.P 56 (eget e 60) M)) (some 61) false e C fun e C =>
    nf (aGuard (some ((eget e 58), false)) (oBin cx.P .lss 3 (eget e 59) (eget e 61) M)) (some 62) false e C fun e C =>
    nf (aGuard (some ((eget e 58), false)) (oMv (eget e 62))) (some 63) false e C fun e C =>
    nf (aGuard (some ((eget e 63), true)) (oMv (eget e 1))) (some 64) false e C fun e C =>
    nf (aGuard (some ((eget e 63), true)) (oMv (eget e 8))) (some 65) false e C fun e C =>
    nf (aGuard (some ((eget e 63), true)) (keep (aIndexS 6 (eget e 64) (eget e 65) M))) (some 66) false e C fun e C =>
    nf (aGuard (some ((eget e 63), true)) (keep (aFieldAddr 0 1 (eget e 66) M))) (some 67) false e C fun e C =>
    nf (aGuard (some ((eget e 63), true)) (keep (aLoad false 1 (eget e 67) M))) (some 68) false e C fun e C =>
    nf (aGuard (some ((eget e 63), true)) (oMv (eget e 0))) (some 69) false e C fun e C =>
    nf (aGuard (some ((eget e 63), true)) (oMv (eget e 7))) (some 70) false e C fun e C =>
    nf (aGuard (some ((eget e 63), true)) (keep (aIndexS 6 (eget e 69) (eget e 70) M))) (some 71) false e C fun e C =>
    nf (aGuard (some ((eget e 63), true)) (keep (aFieldAddr 0 1 (eget e 71) M))) (some 72) false e C fun e C =>
    nf (aGuard (some ((eget e 63), true)) (keep (aLoad false 1 (eget e 72) M))) (some 73) false e C fun e C =>
    nf (aGuard (some ((eget e 63), true)) (oBin cx.P .lss 2 (eget e 68) (eget e 73) M)) (some 74) false e C fun e C =>
    nf (aGuard (some ((eget e 58), false)) (keep (aPick (eget e 63) (eget e 74) (.bool false)))) (some 75) false e C fun e C =>
    nf (keep (aPick (eget e 58) (.bool true) (eget e 75))) (some 76) false e C fun e C =>
    some (e, C)) (fun (e : Env) (M : Mem) =>
    some (e, M)) M
noncomputable def f21_r14 (call : CallF) : Env → Mem → Option (Env × Mem) := fun e M =>
    (nx (oMv (eget e 6)) (some 77) e M fun e M =>
    nx (oMv (eget e 1)) (some 78) e M fun e M =>
    nx (oMv (eget e 8)) (some 79) e M fun e M =>
    nx (keep (aIndexS 6 (eget e 78) (eget e 79) M)) (some 80) e M fun e M =>
    nx (keep (aLoad true 6 (eget e 80) M)) (some 81) e M fun e M =>
    nx (keep (aLitI 85 6 [(eget e 81)] M)) (some 82) e M fun e M =>
    nx (aAppO M.length 85 6 48 (eget e 77) (eget e 82) M) (some 83) e M fun e M =>
    nx (oMv (eget e 83)) (some 6) e M fun e M =>
    some (e, M)).map fun q => (prune [0, 1, 6, 7, 8] q.1, q.2)
noncomputable def f21_r15 (call : CallF) : Env → Mem → Option (Env × Mem) := fun e M =>
    (nx (oMv (eget e 8)) (some 84) e M fun e M =>
    nx (oBin cx.P .add 3 (eget e 84) (.int .i64 1) M) (some 85) e M fun e M =>
    nx (oMv (eget e 85)) (some 8) e M fun e M =>
    some (e, M)).map fun q => (prune [0, 1, 6, 7, 8] q.1, q.2)
noncomputable def f21_r16 (call : CallF) : Env → Mem → Option (Env × Mem) := fun e M =>
    (nx (oMv (eget e 6)) (some 86) e M fun e M =>
    nx (oMv (eget e 0)) (some 87) e M fun e M =>
    nx (oMv (eget e 7)) (some 88) e M fun e M =>
    nx (keep (aIndexS 6 (eget e 87) (eget e 88) M)) (some 89) e M fun e M =>
    nx (keep (aLoad true 6 (eget e 89) M)) (some 90) e M fun e M =>
    nx (keep (aLitI 85 6 [(eget e 90)] M)) (some 91) e M fun e M =>
    nx (aAppO M.length 85 6 48 (eget e 86) (eget e 91) M) (some 92) e M fun e M =>
    nx (oMv (eget e 92)) (some 6) e M fun e M =>
    some (e, M)).map fun q => (prune [0, 1, 6, 7, 8] q.1, q.2)
noncomputable def f21_r17 (call : CallF) : Env → Mem → Option (Env × Mem) := fun e M =>
    (nx (oMv (eget e 7)) (some 93) e M fun e M =>
    nx (oBin cx.P .add 3 (eget e 93) (.int .i64 1) M) (some 94) e M fun e M =>
    nx (oMv (eget e 94)) (some 7) e M fun e M =>
    some (e, M)).map fun q => (prune [0, 1, 6, 7, 8] q.1, q.2)
noncomputable def f21_r18 (call : CallF) : Env → Mem → Option (Env × Mem) := fun e M =>
    (nx (oMv (eget e 6)) (some 95) e M fun e M =>
    nx (oMv (eget e 95)) (some 4) e M fun e M =>
    nx (oMv (.int .i64 0)) (some 5) e M fun e M =>
    some (e, M)).map fun q => (prune [4, 5] q.1, q.2)
noncomputable def f21_l12 (call : CallF) (k : Nat) : St :=
  (bSeq (bSeq (bReg (f21_r12 call))
  (bCond (.tmp 53)
   (bEx .nrm)
   (bEx (.ext 0))))
  (bBlock 1 (bSeq (bReg (f21_r13 call))
   (bCond (.tmp 76)
    (bSeq (bReg (f21_r14 call))
    (bReg (f21_r15 call)))
    (bSeq (bReg (f21_r16 call))
    (bReg (f21_r17 call)))))))
noncomputable def f21 (call : CallF) (k : Nat) : St :=
  (bSeq (bReg (f21_r0 call))
  (bSeq (bSeq (bReg (f21_r1 call))
  (bCond (.tmp 16)
   (bSeq (bReg (f21_r2 call))
   (bEx .ret))
   (bEx .nrm)))
  (bSeq (bSeq (bReg (f21_r3 call))
  (bCond (.tmp 25)
   (bSeq (bReg (f21_r4 call))
   (bEx .ret))
   (bEx .nrm)))
  (bSeq (bSeq (bReg (f21_r5 call))
  (bCond (.tmp 34)
   (bSeq (bReg (f21_r6 call))
   (bEx .ret))
   (bEx .nrm)))
  (bSeq (bSeq (bReg (f21_r7 call))
  (bCond (.tmp 41)
   (bSeq (bReg (f21_r8 call))
   (bEx .ret))
   (bEx .nrm)))
  (bSeq (bReg (f21_r9 call))
  (bSeq (bReg (f21_r10 call))
  (bSeq (bReg (f21_r11 call))
  (bSeq (bBlock 0 (bLoop [0, 1, 6, 7, 8] (f21_l12 call k) k))
  (bSeq (bReg (f21_r18 call))
  (bEx .ret)))))))))))
theorem f21_eq (call : CallF) (k : Nat) : exec cx call 96 f21_an k (Try.f21.body.getD .skip) = f21 call k := by kernel_rfl
/-! ### f22: loop.example/g01263/laws.toDealS -/
def f22_an : Ann := ⟨[(0, ⟨[], [], [], [], [0]⟩), (1, ⟨[], [], [], [], [0, 3]⟩), (2, ⟨[], [], [], [], [0, 3, 4]⟩), (3, ⟨[], [], [], [], [0, 3, 4, 11]⟩), (4, ⟨[], [], [], [], [0, 3, 4]⟩), (5, ⟨[], [], [], [], [0, 3, 4]⟩), (6, ⟨[], [], [], [], [2]⟩)], [(3, [0, 3, 4])]⟩
noncomputable def f22_r0 (call : CallF) : Env → Mem → Option (Env × Mem) := fun e M =>
    (nx (oMv .nils) (some 2) e M fun e M =>
    some (e, M)).map fun q => (prune [0] q.1, q.2)
noncomputable def f22_r1 (call : CallF) : Env → Mem → Option (Env × Mem) := fun e M =>
    (nx (oMv (eget e 0)) (some 5) e M fun e M =>
    nx (oLen cx.P 54 (eget e 5) M) (some 6) e M fun e M =>
    nx (aMakeO M.length 85 6 48 (zeroOf cx.P 85) (eget e 6) (eget e 6)) (some 7) e M fun e M =>
    nx (oMv (eget e 7)) (some 3) e M fun e M =>
    some (e, M)).map fun q => (prune [0, 3] q.1, q.2)
noncomputable def f22_r2 (call : CallF) : Env → Mem → Option (Env × Mem) := fun e M =>
    (nx (oMv (.int .i64 0)) (some 4) e M fun e M =>
    some (e, M)).map fun q => (prune [0, 3, 4] q.1, q.2)
noncomputable def f22_r3 (call : CallF) : Env → Mem → Option (Env × Mem) := fun e M =>
    (nx (oMv (eget e 4)) (some 8) e M fun e M =>
    nx (oMv (eget e 0)) (some 9) e M fun e M =>
    nx (oLen cx.P 54 (eget e 9) M) (some 10) e M fun e M =>
    nx (oBin cx.P .lss 3 (eget e 8) (eget e 10) M) (some 11) e M fun e M =>
    some (e, M)).map fun q => (prune [0, 3, 4, 11] q.1, q.2)
noncomputable def f22_r4 (call : CallF) : Env → Mem → Option (Env × Mem) := fun e M =>
    (nx (oMv (eget e 4)) (some 12) e M fun e M =>
    nx (oBin cx.P .add 3 (eget e 12) (.int .i64 1) M) (some 13) e M fun e M =>
    nx (oMv (eget e 13)) (some 4) e M fun e M =>
    some (e, M)).map fun q => (prune [0, 3, 4] q.1, q.2)
noncomputable def f22_r5 (call : CallF) : Env → Mem → Option (Env × Mem) := fun e M =>
    (nx (oMv (eget e 3)) (some 14) e M fun e M =>
    nx (oMv (eget e 4)) (some 15) e M fun e M =>
    nx (oMv (eget e 0)) (some 16) e M fun e M =>
    nx (oMv (eget e 4)) (some 17) e M fun e M =>
    nx (keep (aIndexS 6 (eget e 16) (eget e 17) M)) (some 18) e M fun e M =>
    nx (keep (aLoad true 6 (eget e 18) M)) (some 19) e M fun e M =>
    nx (aCall cx.P.cellsOf cx.rw call false M.length 51 [(eget e 19)] M) (some 20) e M fun e M =>
    nx (keep (aIndexS 6 (eget e 14) (eget e 15) M)) (some 21) e M fun e M =>
    nx (oStore 6 (eget e 21) (eget e 20) M) none e M fun e M =>
    some (e, M)).map fun q => (prune [0, 3, 4] q.1, q.2)
noncomputable def f22_r6 (call : CallF) : Env → Mem → Option (Env × Mem) := fun e M =>
    (nx (oMv (eget e 3)) (some 22) e M fun e M =>
    nx (oMv (eget e 22)) (some 2) e M fun e M =>
    some (e, M)).map fun q => (prune [2] q.1, q.2)
noncomputable def f22_l3 (call : CallF) (k : Nat) : St :=
  (bSeq (bSeq (bReg (f22_r3 call))
  (bCond (.tmp 11)
   (bEx .nrm)
   (bEx (.ext 0))))
  (bSeq (bBlock 1 (bReg (f22_r5 call)))
  (bReg (f22_r4 call))))
noncomputable def f22 (call : CallF) (k : Nat) : St :=
  (bSeq (bReg (f22_r0 call))
  (bSeq (bReg (f22_r1 call))
  (bSeq (bSeq (bReg (f22_r2 call))
  (bBlock 0 (bLoop [0, 3, 4] (f22_l3 call k) k)))
  (bSeq (bReg (f22_r6 call))
  (bEx .ret)))))
theorem f22_eq (call : CallF) (k : Nat) : exec cx call 23 f22_an k (Try.f22.body.getD .skip) = f22 call k := by kernel_rfl
/-! ### f23: loop.example/g01263/impl.PutTogether -/
def f23_an : Ann := ⟨[(0, ⟨[], [], [], [], [0, 1]⟩), (1, ⟨[], [], [], [], [0, 1, 7]⟩), (2, ⟨[], [], [], [], [4, 5]⟩), (3, ⟨[], [], [], [], [0, 1, 16]⟩), (4, ⟨[], [], [], [], [4, 5]⟩), (5, ⟨[], [], [], [], [0, 1, 25]⟩), (6, ⟨[], [], [], [], [4, 5]⟩), (7, ⟨[], [], [], [], [0, 1, 34]⟩), (8, ⟨[], [], [], [], [4, 5]⟩), (9, ⟨[0], [], [], [], [0, 1, 6]⟩), (10, ⟨[], [], [], [], [0, 1, 6, 47]⟩), (11, ⟨[], [], [], [], [0, 1, 6, 66]⟩), (12, ⟨[5], [], [], [], [0, 1, 6]⟩), (13, ⟨[], [], [], [], [0, 1, 6]⟩), (14, ⟨[5], [], [], [], [0, 1, 6]⟩), (15, ⟨[], [], [], [], [0, 1, 6]⟩), (16, ⟨[], [], [], [], [4, 5]⟩)], [(10, [0, 1, 6])]⟩
noncomputable def f23_r0 (call : CallF) : Env → Mem → Option (Env × Mem) := fun e M =>
    (nx (oMv .nils) (some 4) e M fun e M =>
    nx (oMv (.int .i64 0)) (some 5) e M fun e M =>
    some (e, M)).map fun q => (prune [0, 1] q.1, q.2)
noncomputable def f23_r1 (call : CallF) : Env → Mem → Option (Env × Mem) := fun e M =>
    (nx (oMv (eget e 0)) (some 8) e M fun e M =>
    nx (aCall cx.P.cellsOf cx.rw call false M.length 52 [(eget e 8)] M) (some 9) e M fun e M =>
    nx (keep (aUn .not (eget e 9))) (some 10) e M fun e M =>
    nx (oMv (eget e 10)) (some 11) e M fun e M =>
    nx (aGuard (some ((eget e 11), false)) (oMv (eget e 1))) (some 12) e M fun e M =>
    nx (aGuard (some ((eget e 11), false)) (aCall cx.P.cellsOf cx.rw call false M.length 52 [(eget e 12)] M)) (some 13) e M fun e M =>
    nx (aGuard (some ((eget e 11), false)) (keep (aUn .not (eget e 13)))) (some 14) e M fun e M =>
    nx (keep (aPick (eget e 11) (.bool true) (eget e 14))) (some 15) e M fun e M =>
    nx (oMv (eget e 15)) (some 7) e M fun e M =>
    some (e, M)).map fun q => (prune [0, 1, 7] q.1, q.2)
noncomputable def f23_r2 (call : CallF) : Env → Mem → Option (Env × Mem) := fun e M =>
    (nx (oMv .nils) (some 4) e M fun e M =>
    nx (oMv (.int .i64 1)) (some 5) e M fun e M =>
    some (e, M)).map fun q => (prune [4, 5] q.1, q.2)
noncomputable def f23_r3 (call : CallF) : Env → Mem → Option (Env × Mem) := fun e M =>
    (nx (oMv (eget e 0)) (some 17) e M fun e M =>
    nx (oLen cx.P 56 (eget e 17) M) (some 18) e M fun e M =>
    nx (oBin cx.P .gtr 3 (eget e 18) (.int .i64 80) M) (some 19) e M fun e M =>
    nx (oMv (eget e 19)) (some 20) e M fun e M =>
    nx (aGuard (some ((eget e 20), false)) (oMv (eget e 1))) (some 21) e M fun e M =>
    nx (aGuard (some ((eget e 20), false)) (oLen cx.P 56 (eget e 21) M)) (some 22) e M fun e M =>
    nx (aGuard (some ((eget e 20), false)) (oBin cx.P .gtr 3 (eget e 22) (.int .i64 80) M)) (some 23) e M fun e M =>
    nx (keep (aPick (eget e 20) (.bool true) (eget e 23))) (some 24) e M fun e M =>
    nx (oMv (eget e 24)) (some 16) e M fun e M =>
    some (e, M)).map fun q => (prune [0, 1, 16] q.1, q.2)
noncomputable def f23_r4 (call : CallF) : Env → Mem → Option (Env × Mem) := fun e M =>
    (nx (oMv .nils) (some 4) e M fun e M =>
    nx (oMv (.int .i64 3)) (some 5) e M fun e M =>
    some (e, M)).map fun q => (prune [4, 5] q.1, q.2)
noncomputable def f23_r5 (call : CallF) : Env → Mem → Option (Env × Mem) := fun e M =>
    (nx (oMv (eget e 0)) (some 26) e M fun e M =>
    nx (aCall cx.P.cellsOf cx.rw call false M.length 53 [(eget e 26)] M) (some 27) e M fun e M =>
    nx (keep (aUn .not (eget e 27))) (some 28) e M fun e M =>
    nx (oMv (eget e 28)) (some 29) e M fun e M =>
    nx (aGuard (some ((eget e 29), false)) (oMv (eget e 1))) (some 30) e M fun e M =>
    nx (aGuard (some ((eget e 29), false)) (aCall cx.P.cellsOf cx.rw call false M.length 53 [(eget e 30)] M)) (some 31) e M fun e M =>
    nx (aGuard (some ((eget e 29), false)) (keep (aUn .not (eget e 31)))) (some 32) e M fun e M =>
    nx (keep (aPick (eget e 29) (.bool true) (eget e 32))) (some 33) e M fun e M =>
    nx (oMv (eget e 33)) (some 25) e M fun e M =>
    some (e, M)).map fun q => (prune [0, 1, 25] q.1, q.2)
noncomputable def f23_r6 (call : CallF) : Env → Mem → Option (Env × Mem) := fun e M =>
    (nx (oMv .nils) (some 4) e M fun e M =>
    nx (oMv (.int .i64 4)) (some 5) e M fun e M =>
    some (e, M)).map fun q => (prune [4, 5] q.1, q.2)
noncomputable def f23_r7 (call : CallF) : Env → Mem → Option (Env × Mem) := fun e M =>
    (nx (oMv (eget e 0)) (some 35) e M fun e M =>
    nx (oLen cx.P 56 (eget e 35) M) (some 36) e M fun e M =>
    nx (oMv (eget e 1)) (some 37) e M fun e M =>
    nx (oLen cx.P 56 (eget e 37) M) (some 38) e M fun e M =>
    nx (oBin cx.P .add 3 (eget e 36) (eget e 38) M) (some 39) e M fun e M =>
    nx (oBin cx.P .gtr 3 (eget e 39) (.int .i64 80) M) (some 40) e M fun e M =>
    nx (oMv (eget e 40)) (some 34) e M fun e M =>
    some (e, M)).map fun q => (prune [0, 1, 34] q.1, q.2)
noncomputable def f23_r8 (call : CallF) : Env → Mem → Option (Env × Mem) := fun e M =>
    (nx (oMv .nils) (some 4) e M fun e M =>
    nx (oMv (.int .i64 3)) (some 5) e M fun e M =>
    some (e, M)).map fun q => (prune [4, 5] q.1, q.2)
noncomputable def f23_r9 (call : CallF) : Env → Mem → Option (Env × Mem) := fun e M =>
    (nx (aLitO M.length 85 6 [] M) (some 41) e M fun e M =>
    nx (oMv (eget e 41)) (some 6) e M fun e M =>
    some (e, M)).map fun q => (prune [0, 1, 6] q.1, q.2)
noncomputable def f23_r10 (call : CallF) : Env → Mem → Option (Env × Mem) := fun e M =>
    (nx (oMv (eget e 0)) (some 42) e M fun e M =>
    nx (oLen cx.P 56 (eget e 42) M) (some 43) e M fun e M =>
    nx (oMv (eget e 1)) (some 44) e M fun e M =>
    nx (oLen cx.P 56 (eget e 44) M) (some 45) e M fun e M =>
    nx (oBin cx.P .add 3 (eget e 43) (eget e 45) M) (some 46) e M fun e M =>
    nx (oBin cx.P .gtr 3 (eget e 46) (.int .i64 0) M) (some 47) e M fun e M =>
    some (e, M)).map fun q => (prune [0, 1, 6, 47] q.1, q.2)
noncomputable def f23_r11 (call : CallF) : Env → Mem → Option (Env × Mem) := fun e M =>
    rD [0, 1, 6, 66] (fun (C : List Ob) =>
    nf (oMv (eget e 1)) (some 48) false e C fun e C =>
    nf (oLen cx.P 56 (eget e 48) M) (some 49) false e C fun e C =>
    nf (oBin cx.P .gtr 3 (eget e 49) (.int .i64 0) M) (some 50) false e C fun e C =>
    nf (oMv (eget e 50)) (some 51) false e C fun e C =>
    nf (aGuard (some ((eget e 51), true)) (oMv (eget e 0))) (some 52) false e C fun e C =>
    nf (aGuard (some ((eget e 51), true)) (oLen cx.P 56 (eget e 52) M)) (some 53) false e C fun e C =>
    nf (aGuard (some ((eget e 51), true)) (oBin cx.P .eql 3 (eget e 53) (.int .i64 0) M)) (some 54) false e C fun e C =>
    nf (aGuard (some ((eget e 51), true)) (oMv (eget e 54))) (some 55) false e C fun e C =>
    nf (aGuard (some ((eget e 55), false)) (oMv (eget e 1))) (some 56) false e C fun e C =>
    nf (aGuard (some ((eget e 55), false)) (keep (aIndexS 6 (eget e 56) (.int .i64 0) M))) (some 57) false e C fun e C =>
    nf (aGuard (some ((eget e 55), false)) (keep (aFieldAddr 0 1 (eget e 57) M))) (some 58) false e C fun e C =>
    nf (aGuard (some ((eget e 55), false)) (keep (aLoad false 1 (eget e 58) M))) (some 59) false e C fun e C =>
    nf (aGuard (some ((eget e 55), false)) (oMv (eget e 0))) (some 60) false e C fun e C =>
    nf (aGuard (some ((eget e 55), false)) (keep (aIndexS 6 (eget e 60) (.int .i64 0) M))) (some 61) false e C fun e C =>
    nf (aGuard (some ((eget e 55), false)) (keep (aFieldAddr 0 1 (eget e 61) M))) (some 62) false e C fun e C =>
    nf (aGuard (some ((eget e 55), false)) (keep (aLoad false 1 (eget e 62) M))) (some 63) false e C fun e C =>
    nf (aGuard (some ((eget e 55), false)) (oBin cx.P .lss 2 (eget e 59) (eget e 63) M)) (some 64) false e C fun e C =>
    nf (aGuard (some ((eget e 51), true)) (keep (aPick (eget e 55) (.bool true) (eget e 64)))) (some 65) false e C fun e C =>
    nf (keep (aPick (eget e 51) (eget e 65) (.bool false))) (some 66) false e C fun e C =>
    some (e, C)) (fun (e : Env) (M : Mem) =>
    some (e, M)) M
noncomputable def f23_r12 (call : CallF) : Env → Mem → Option (Env × Mem) := fun e M =>
    (nx (oMv (eget e 6)) (some 67) e M fun e M =>
    nx (oMv (eget e 1)) (some 68) e M fun e M =>
    nx (keep (aIndexS 6 (eget e 68) (.int .i64 0) M)) (some 69) e M fun e M =>
    nx (keep (aLoad true 6 (eget e 69) M)) (some 70) e M fun e M =>
    nx (keep (aLitI 85 6 [(eget e 70)] M)) (some 71) e M fun e M =>
    nx (aAppO M.length 85 6 48 (eget e 67) (eget e 71) M) (some 72) e M fun e M =>
    nx (oMv (eget e 72)) (some 6) e M fun e M =>
    some (e, M)).map fun q => (prune [0, 1, 6] q.1, q.2)
noncomputable def f23_r13 (call : CallF) : Env → Mem → Option (Env × Mem) := fun e M =>
    (nx (oMv (eget e 1)) (some 73) e M fun e M =>
    nx (keep (aSlice 6 (some (.int .i64 1)) none (eget e 73) M)) (some 74) e M fun e M =>
    nx (oMv (eget e 74)) (some 1) e M fun e M =>
    some (e, M)).map fun q => (prune [0, 1, 6] q.1, q.2)
noncomputable def f23_r14 (call : CallF) : Env → Mem → Option (Env × Mem) := fun e M =>
    (nx (oMv (eget e 6)) (some 75) e M fun e M =>
    nx (oMv (eget e 0)) (some 76) e M fun e M =>
    nx (keep (aIndexS 6 (eget e 76) (.int .i64 0) M)) (some 77) e M fun e M =>
    nx (keep (aLoad true 6 (eget e 77) M)) (some 78) e M fun e M =>
    nx (keep (aLitI 85 6 [(eget e 78)] M)) (some 79) e M fun e M =>
    nx (aAppO M.length 85 6 48 (eget e 75) (eget e 79) M) (some 80) e M fun e M =>
    nx (oMv (eget e 80)) (some 6) e M fun e M =>
    some (e, M)).map fun q => (prune [0, 1, 6] q.1, q.2)
noncomputable def f23_r15 (call : CallF) : Env → Mem → Option (Env × Mem) := fun e M =>
    (nx (oMv (eget e 0)) (some 81) e M fun e M =>
    nx (keep (aSlice 6 (some (.int .i64 1)) none (eget e 81) M)) (some 82) e M fun e M =>
    nx (oMv (eget e 82)) (some 0) e M fun e M =>
    some (e, M)).map fun q => (prune [0, 1, 6] q.1, q.2)
noncomputable def f23_r16 (call : CallF) : Env → Mem → Option (Env × Mem) := fun e M =>
    (nx (oMv (eget e 6)) (some 83) e M fun e M =>
    nx (oMv (eget e 83)) (some 4) e M fun e M =>
    nx (oMv (.int .i64 0)) (some 5) e M fun e M =>
    some (e, M)).map fun q => (prune [4, 5] q.1, q.2)
noncomputable def f23_l10 (call : CallF) (k : Nat) : St :=
  (bSeq (bSeq (bReg (f23_r10 call))
  (bCond (.tmp 47)
   (bEx .nrm)
   (bEx (.ext 1))))
  (bBlock 2 (bSeq (bReg (f23_r11 call))
   (bCond (.tmp 66)
    (bSeq (bReg (f23_r12 call))
    (bReg (f23_r13 call)))
    (bSeq (bReg (f23_r14 call))
    (bReg (f23_r15 call)))))))
noncomputable def f23 (call : CallF) (k : Nat) : St :=
  (bSeq (bReg (f23_r0 call))
  (bSeq (bBlock 0 (bSeq (bReg (f23_r1 call))
   (bCond (.tmp 7)
    (bSeq (bReg (f23_r2 call))
    (bEx .ret))
    (bSeq (bReg (f23_r3 call))
    (bCond (.tmp 16)
     (bSeq (bReg (f23_r4 call))
     (bEx .ret))
     (bSeq (bReg (f23_r5 call))
     (bCond (.tmp 25)
      (bSeq (bReg (f23_r6 call))
      (bEx .ret))
      (bSeq (bReg (f23_r7 call))
      (bCond (.tmp 34)
       (bSeq (bReg (f23_r8 call))
       (bEx .ret))
       (bEx .nrm))))))))))
  (bSeq (bReg (f23_r9 call))
  (bSeq (bBlock 1 (bLoop [0, 1, 6] (f23_l10 call k) k))
  (bSeq (bReg (f23_r16 call))
  (bEx .ret))))))
theorem f23_eq (call : CallF) (k : Nat) : exec cx call 84 f23_an k (Try.f23.body.getD .skip) = f23 call k := by kernel_rfl
/-! ### f24: loop.example/g01263/laws.eqDealS -/
def f24_an : Ann := ⟨[(0, ⟨[], [], [], [], [0, 1]⟩), (1, ⟨[], [], [], [], [0, 1, 10]⟩), (2, ⟨[], [], [], [], [4]⟩), (3, ⟨[], [], [], [], [0, 1, 5]⟩), (4, ⟨[], [], [], [], [0, 1, 5, 14]⟩), (5, ⟨[], [], [], [], [0, 1, 5]⟩), (6, ⟨[], [], [], [], [0, 1, 5, 26]⟩), (7, ⟨[], [], [], [], [4]⟩), (8, ⟨[], [], [], [], [4]⟩)], [(4, [0, 1, 5])]⟩
noncomputable def f24_r0 (call : CallF) : Env → Mem → Option (Env × Mem) := fun e M =>
    (nx (oMv (.bool false)) (some 4) e M fun e M =>
    some (e, M)).map fun q => (prune [0, 1] q.1, q.2)
noncomputable def f24_r1 (call : CallF) : Env → Mem → Option (Env × Mem) := fun e M =>
    (nx (oMv (eget e 0)) (some 6) e M fun e M =>
    nx (oLen cx.P 56 (eget e 6) M) (some 7) e M fun e M =>
    nx (oMv (eget e 1)) (some 8) e M fun e M =>
    nx (oLen cx.P 56 (eget e 8) M) (some 9) e M fun e M =>
    nx (oBin cx.P .neq 3 (eget e 7) (eget e 9) M) (some 10) e M fun e M =>
    some (e, M)).map fun q => (prune [0, 1, 10] q.1, q.2)
noncomputable def f24_r2 (call : CallF) : Env → Mem → Option (Env × Mem) := fun e M =>
    (nx (oMv (.bool false)) (some 4) e M fun e M =>
    some (e, M)).map fun q => (prune [4] q.1, q.2)
noncomputable def f24_r3 (call : CallF) : Env → Mem → Option (Env × Mem) := fun e M =>
    (nx (oMv (.int .i64 0)) (some 5) e M fun e M =>
    some (e, M)).map fun q => (prune [0, 1, 5] q.1, q.2)
noncomputable def f24_r4 (call : CallF) : Env → Mem → Option (Env × Mem) := fun e M =>
    (nx (oMv (eget e 5)) (some 11) e M fun e M =>
    nx (oMv (eget e 0)) (some 12) e M fun e M =>
    nx (oLen cx.P 56 (eget e 12) M) (some 13) e M fun e M =>
    nx (oBin cx.P .lss 3 (eget e 11) (eget e 13) M) (some 14) e M fun e M =>
    some (e, M)).map fun q => (prune [0, 1, 5, 14] q.1, q.2)
noncomputable def f24_r5 (call : CallF) : Env → Mem → Option (Env × Mem) := fun e M =>
    (nx (oMv (eget e 5)) (some 15) e M fun e M =>
    nx (oBin cx.P .add 3 (eget e 15) (.int .i64 1) M) (some 16) e M fun e M =>
    nx (oMv (eget e 16)) (some 5) e M fun e M =>
    some (e, M)).map fun q => (prune [0, 1, 5] q.1, q.2)
noncomputable def f24_r6 (call : CallF) : Env → Mem → Option (Env × Mem) := fun e M =>
    rD [0, 1, 5, 26] (fun (C : List Ob) =>
    nf (oMv (eget e 0)) (some 17) false e C fun e C =>
    nf (oMv (eget e 5)) (some 18) false e C fun e C =>
    nf (keep (aIndexS 6 (eget e 17) (eget e 18) M)) (some 19) false e C fun e C =>
    nf (keep (aLoad true 6 (eget e 19) M)) (some 20) false e C fun e C =>
    nf (oMv (eget e 1)) (some 21) false e C fun e C =>
    nf (oMv (eget e 5)) (some 22) false e C fun e C =>
    nf (keep (aIndexS 6 (eget e 21) (eget e 22) M)) (some 23) false e C fun e C =>
    nf (keep (aLoad true 6 (eget e 23) M)) (some 24) false e C fun e C =>
    nf (aCall cx.P.cellsOf cx.rw call false (M.length + C.length) 54 [(eget e 20), (eget e 24)] M) (some 25) false e C fun e C =>
    nf (keep (aUn .not (eget e 25))) (some 26) false e C fun e C =>
    some (e, C)) (fun (e : Env) (M : Mem) =>
    some (e, M)) M
noncomputable def f24_r7 (call : CallF) : Env → Mem → Option (Env × Mem) := fun e M =>
    (nx (oMv (.bool false)) (some 4) e M fun e M =>
    some (e, M)).map fun q => (prune [4] q.1, q.2)
noncomputable def f24_r8 (call : CallF) : Env → Mem → Option (Env × Mem) := fun e M =>
    (nx (oMv (.bool true)) (some 4) e M fun e M =>
    some (e, M)).map fun q => (prune [4] q.1, q.2)
noncomputable def f24_l4 (call : CallF) (k : Nat) : St :=
  (bSeq (bSeq (bReg (f24_r4 call))
  (bCond (.tmp 14)
   (bEx .nrm)
   (bEx (.ext 0))))
  (bSeq (bBlock 1 (bSeq (bReg (f24_r6 call))
   (bCond (.tmp 26)
    (bSeq (bReg (f24_r7 call))
    (bEx .ret))
    (bEx .nrm))))
  (bReg (f24_r5 call))))
noncomputable def f24 (call : CallF) (k : Nat) : St :=
  (bSeq (bReg (f24_r0 call))
  (bSeq (bSeq (bReg (f24_r1 call))
  (bCond (.tmp 10)
   (bSeq (bReg (f24_r2 call))
   (bEx .ret))
   (bEx .nrm)))
  (bSeq (bSeq (bReg (f24_r3 call))
  (bBlock 0 (bLoop [0, 1, 5] (f24_l4 call k) k)))
  (bSeq (bReg (f24_r8 call))
  (bEx .ret)))))
theorem f24_eq (call : CallF) (k : Nat) : exec cx call 27 f24_an k (Try.f24.body.getD .skip) = f24 call k := by kernel_rfl
/-! ### f25: loop.example/g01263/laws.markDealS -/
def f25_an : Ann := ⟨[(0, ⟨[], [], [], [], [0, 1]⟩), (1, ⟨[], [], [], [], [0, 1, 5]⟩), (2, ⟨[], [], [], [], [0, 1, 5, 9]⟩), (3, ⟨[], [], [], [], [0, 1, 5]⟩), (4, ⟨[], [], [], [], [0, 1, 5]⟩), (5, ⟨[], [], [], [], [0, 1, 5]⟩), (6, ⟨[], [], [], [], [0, 1, 5]⟩), (7, ⟨[], [], [], [], [0, 1, 5]⟩), (8, ⟨[], [], [], [], [0, 1, 5]⟩), (9, ⟨[], [], [], [], [0, 1, 5]⟩), (10, ⟨[], [], [], [], [0, 1, 5]⟩), (11, ⟨[], [], [], [], [0, 1, 5]⟩), (12, ⟨[], [], [], [], [0, 1, 5]⟩), (13, ⟨[], [], [], [], [0, 1, 5]⟩), (14, ⟨[], [], [], [], [0, 1, 5]⟩), (15, ⟨[], [], [], [], [0, 1, 5]⟩), (16, ⟨[], [], [], [], [4]⟩)], [(2, [0, 1, 5])]⟩
noncomputable def f25_r0 (call : CallF) : Env → Mem → Option (Env × Mem) := fun e M =>
    (nx (oMv (.int .i64 0)) (some 4) e M fun e M =>
    some (e, M)).map fun q => (prune [0, 1] q.1, q.2)
noncomputable def f25_r1 (call : CallF) : Env → Mem → Option (Env × Mem) := fun e M =>
    (nx (oMv (.int .i64 0)) (some 5) e M fun e M =>
    some (e, M)).map fun q => (prune [0, 1, 5] q.1, q.2)
noncomputable def f25_r2 (call : CallF) : Env → Mem → Option (Env × Mem) := fun e M =>
    (nx (oMv (eget e 5)) (some 6) e M fun e M =>
    nx (oMv (eget e 0)) (some 7) e M fun e M =>
    nx (oLen cx.P 56 (eget e 7) M) (some 8) e M fun e M =>
    nx (oBin cx.P .lss 3 (eget e 6) (eget e 8) M) (some 9) e M fun e M =>
    some (e, M)).map fun q => (prune [0, 1, 5, 9] q.1, q.2)
noncomputable def f25_r3 (call : CallF) : Env → Mem → Option (Env × Mem) := fun e M =>
    (nx (oMv (eget e 5)) (some 10) e M fun e M =>
    nx (oBin cx.P .add 3 (eget e 10) (.int .i64 1) M) (some 11) e M fun e M =>
    nx (oMv (eget e 11)) (some 5) e M fun e M =>
    some (e, M)).map fun q => (prune [0, 1, 5] q.1, q.2)
noncomputable def f25_r4 (call : CallF) : Env → Mem → Option (Env × Mem) := fun e M =>
    (nx (oMv (eget e 0)) (some 12) e M fun e M =>
    nx (oMv (eget e 5)) (some 13) e M fun e M =>
    nx (oMv (eget e 1)) (some 14) e M fun e M =>
    nx (keep (aIndexS 6 (eget e 12) (eget e 13) M)) (some 15) e M fun e M =>
    nx (keep (aFieldAddr 0 1 (eget e 15) M)) (some 16) e M fun e M =>
    nx (oStore 1 (eget e 16) (eget e 14) M) none e M fun e M =>
    some (e, M)).map fun q => (prune [0, 1, 5] q.1, q.2)
noncomputable def f25_r5 (call : CallF) : Env → Mem → Option (Env × Mem) := fun e M =>
    (nx (oMv (eget e 1)) (some 17) e M fun e M =>
    nx (oBin cx.P .add 3 (eget e 17) (.int .i64 1) M) (some 18) e M fun e M =>
    nx (oMv (eget e 18)) (some 1) e M fun e M =>
    some (e, M)).map fun q => (prune [0, 1, 5] q.1, q.2)
noncomputable def f25_r6 (call : CallF) : Env → Mem → Option (Env × Mem) := fun e M =>
    (nx (oMv (eget e 0)) (some 19) e M fun e M =>
    nx (oMv (eget e 5)) (some 20) e M fun e M =>
    nx (oMv (eget e 1)) (some 21) e M fun e M =>
    nx (keep (aConvI .i8 (eget e 21))) (some 22) e M fun e M =>
    nx (keep (aIndexS 6 (eget e 19) (eget e 20) M)) (some 23) e M fun e M =>
    nx (keep (aFieldAddr 1 1 (eget e 23) M)) (some 24) e M fun e M =>
    nx (oStore 1 (eget e 24) (eget e 22) M) none e M fun e M =>
    some (e, M)).map fun q => (prune [0, 1, 5] q.1, q.2)
noncomputable def f25_r7 (call : CallF) : Env → Mem → Option (Env × Mem) := fun e M =>
    (nx (oMv (eget e 1)) (some 25) e M fun e M =>
    nx (oBin cx.P .add 3 (eget e 25) (.int .i64 1) M) (some 26) e M fun e M =>
    nx (oMv (eget e 26)) (some 1) e M fun e M =>
    some (e, M)).map fun q => (prune [0, 1, 5] q.1, q.2)
noncomputable def f25_r8 (call : CallF) : Env → Mem → Option (Env × Mem) := fun e M =>
    (nx (oMv (eget e 0)) (some 27) e M fun e M =>
    nx (oMv (eget e 5)) (some 28) e M fun e M =>
    nx (oMv (eget e 1)) (some 29) e M fun e M =>
    nx (keep (aIndexS 6 (eget e 27) (eget e 28) M)) (some 30) e M fun e M =>
    nx (keep (aFieldAddr 2 1 (eget e 30) M)) (some 31) e M fun e M =>
    nx (oStore 1 (eget e 31) (eget e 29) M) none e M fun e M =>
    some (e, M)).map fun q => (prune [0, 1, 5] q.1, q.2)
noncomputable def f25_r9 (call : CallF) : Env → Mem → Option (Env × Mem) := fun e M =>
    (nx (oMv (eget e 1)) (some 32) e M fun e M =>
    nx (oBin cx.P .add 3 (eget e 32) (.int .i64 1) M) (some 33) e M fun e M =>
    nx (oMv (eget e 33)) (some 1) e M fun e M =>
    some (e, M)).map fun q => (prune [0, 1, 5] q.1, q.2)
noncomputable def f25_r10 (call : CallF) : Env → Mem → Option (Env × Mem) := fun e M =>
    (nx (oMv (eget e 0)) (some 34) e M fun e M =>
    nx (oMv (eget e 5)) (some 35) e M fun e M =>
    nx (oMv (eget e 1)) (some 36) e M fun e M =>
    nx (keep (aIndexS 6 (eget e 34) (eget e 35) M)) (some 37) e M fun e M =>
    nx (keep (aFieldAddr 3 1 (eget e 37) M)) (some 38) e M fun e M =>
    nx (oStore 1 (eget e 38) (eget e 36) M) none e M fun e M =>
    some (e, M)).map fun q => (prune [0, 1, 5] q.1, q.2)
noncomputable def f25_r11 (call : CallF) : Env → Mem → Option (Env × Mem) := fun e M =>
    (nx (oMv (eget e 1)) (some 39) e M fun e M =>
    nx (oBin cx.P .add 3 (eget e 39) (.int .i64 1) M) (some 40) e M fun e M =>
    nx (oMv (eget e 40)) (some 1) e M fun e M =>
    some (e, M)).map fun q => (prune [0, 1, 5] q.1, q.2)
noncomputable def f25_r12 (call : CallF) : Env → Mem → Option (Env × Mem) := fun e M =>
    (nx (oMv (eget e 0)) (some 41) e M fun e M =>
    nx (oMv (eget e 5)) (some 42) e M fun e M =>
    nx (oMv (eget e 1)) (some 43) e M fun e M =>
    nx (keep (aIndexS 6 (eget e 41) (eget e 42) M)) (some 44) e M fun e M =>
    nx (keep (aFieldAddr 4 1 (eget e 44) M)) (some 45) e M fun e M =>
    nx (oStore 1 (eget e 45) (eget e 43) M) none e M fun e M =>
    some (e, M)).map fun q => (prune [0, 1, 5] q.1, q.2)
noncomputable def f25_r13 (call : CallF) : Env → Mem → Option (Env × Mem) := fun e M =>
    (nx (oMv (eget e 1)) (some 46) e M fun e M =>
    nx (oBin cx.P .add 3 (eget e 46) (.int .i64 1) M) (some 47) e M fun e M =>
    nx (oMv (eget e 47)) (some 1) e M fun e M =>
    some (e, M)).map fun q => (prune [0, 1, 5] q.1, q.2)
noncomputable def f25_r14 (call : CallF) : Env → Mem → Option (Env × Mem) := fun e M =>
    (nx (oMv (eget e 0)) (some 48) e M fun e M =>
    nx (oMv (eget e 5)) (some 49) e M fun e M =>
    nx (oMv (eget e 1)) (some 50) e M fun e M =>
    nx (keep (aIndexS 6 (eget e 48) (eget e 49) M)) (some 51) e M fun e M =>
    nx (keep (aFieldAddr 5 1 (eget e 51) M)) (some 52) e M fun e M =>
    nx (oStore 1 (eget e 52) (eget e 50) M) none e M fun e M =>
    some (e, M)).map fun q => (prune [0, 1, 5] q.1, q.2)
noncomputable def f25_r15 (call : CallF) : Env → Mem → Option (Env × Mem) := fun e M =>
    (nx (oMv (eget e 1)) (some 53) e M fun e M =>
    nx (oBin cx.P .add 3 (eget e 53) (.int .i64 1) M) (some 54) e M fun e M =>
    nx (oMv (eget e 54)) (some 1) e M fun e M =>
    some (e, M)).map fun q => (prune [0, 1, 5] q.1, q.2)
noncomputable def f25_r16 (call : CallF) : Env → Mem → Option (Env × Mem) := fun e M =>
    (nx (oMv (eget e 1)) (some 55) e M fun e M =>
    nx (oMv (eget e 55)) (some 4) e M fun e M =>
    some (e, M)).map fun q => (prune [4] q.1, q.2)
noncomputable def f25_l2 (call : CallF) (k : Nat) : St :=
  (bSeq (bSeq (bReg (f25_r2 call))
  (bCond (.tmp 9)
   (bEx .nrm)
   (bEx (.ext 0))))
  (bSeq (bBlock 1 (bSeq (bReg (f25_r4 call))
   (bSeq (bReg (f25_r5 call))
   (bSeq (bReg (f25_r6 call))
   (bSeq (bReg (f25_r7 call))
   (bSeq (bReg (f25_r8 call))
   (bSeq (bReg (f25_r9 call))
   (bSeq (bReg (f25_r10 call))
   (bSeq (bReg (f25_r11 call))
   (bSeq (bReg (f25_r12 call))
   (bSeq (bReg (f25_r13 call))
   (bSeq (bReg (f25_r14 call))
   (bReg (f25_r15 call))))))))))))))
  (bReg (f25_r3 call))))
noncomputable def f25 (call : CallF) (k : Nat) : St :=
  (bSeq (bReg (f25_r0 call))
  (bSeq (bSeq (bReg (f25_r1 call))
  (bBlock 0 (bLoop [0, 1, 5] (f25_l2 call k) k)))
  (bSeq (bReg (f25_r16 call))
  (bEx .ret))))
theorem f25_eq (call : CallF) (k : Nat) : exec cx call 56 f25_an k (Try.f25.body.getD .skip) = f25 call k := by kernel_rfl
/-! ### f26: loop.example/g01263/laws.heldDealS -/
def f26_an : Ann := ⟨[(0, ⟨[], [], [], [], [0, 1]⟩), (1, ⟨[], [], [], [], [0, 1, 5]⟩), (2, ⟨[], [], [], [], [0, 1, 5, 9]⟩), (3, ⟨[], [], [], [], [0, 1, 5]⟩), (4, ⟨[], [], [], [], [0, 1, 5, 18]⟩), (5, ⟨[], [], [], [], [4]⟩), (6, ⟨[], [], [], [], [0, 1, 5]⟩), (7, ⟨[], [], [], [], [0, 1, 5, 28]⟩), (8, ⟨[], [], [], [], [4]⟩), (9, ⟨[], [], [], [], [0, 1, 5]⟩), (10, ⟨[], [], [], [], [0, 1, 5, 37]⟩), (11, ⟨[], [], [], [], [4]⟩), (12, ⟨[], [], [], [], [0, 1, 5]⟩), (13, ⟨[], [], [], [], [0, 1, 5, 46]⟩), (14, ⟨[], [], [], [], [4]⟩), (15, ⟨[], [], [], [], [0, 1, 5]⟩), (16, ⟨[], [], [], [], [0, 1, 5, 55]⟩), (17, ⟨[], [], [], [], [4]⟩), (18, ⟨[], [], [], [], [0, 1, 5]⟩), (19, ⟨[], [], [], [], [0, 1, 5, 64]⟩), (20, ⟨[], [], [], [], [4]⟩), (21, ⟨[], [], [], [], [0, 1, 5]⟩), (22, ⟨[], [], [], [], [4]⟩)], [(2, [0, 1, 5])]⟩
noncomputable def f26_r0 (call : CallF) : Env → Mem → Option (Env × Mem) := fun e M =>
    (nx (oMv (.int .i64 0)) (some 4) e M fun e M =>
    some (e, M)).map fun q => (prune [0, 1] q.1, q.2)
noncomputable def f26_r1 (call : CallF) : Env → Mem → Option (Env × Mem) := fun e M =>
    (nx (oMv (.int .i64 0)) (some 5) e M fun e M =>
    some (e, M)).map fun q => (prune [0, 1, 5] q.1, q.2)
noncomputable def f26_r2 (call : CallF) : Env → Mem → Option (Env × Mem) := fun e M =>
    (nx (oMv (eget e 5)) (some 6) e M fun e M =>
    nx (oMv (eget e 0)) (some 7) e M fun e M =>
    nx (oLen cx.P 56 (eget e 7) M) (some 8) e M fun e M =>
    nx (oBin cx.P .lss 3 (eget e 6) (eget e 8) M) (some 9) e M fun e M =>
    some (e, M)).map fun q => (prune [0, 1, 5, 9] q.1, q.2)
noncomputable def f26_r3 (call : CallF) : Env → Mem → Option (Env × Mem) := fun e M =>
    (nx (oMv (eget e 5)) (some 10) e M fun e M =>
    nx (oBin cx.P .add 3 (eget e 10) (.int .i64 1) M) (some 11) e M fun e M =>
    nx (oMv (eget e 11)) (some 5) e M fun e M =>
    some (e, M)).map fun q => (prune [0, 1, 5] q.1, q.2)
noncomputable def f26_r4 (call : CallF) : Env → Mem → Option (Env × Mem) := fun e M =>
    (nx (oMv (eget e 0)) (some 12) e M fun e M =>
    nx (oMv (eget e 5)) (some 13) e M fun e M =>
    nx (keep (aIndexS 6 (eget e 12) (eget e 13) M)) (some 14) e M fun e M =>
    nx (keep (aFieldAddr 0 1 (eget e 14) M)) (some 15) e M fun e M =>
    nx (keep (aLoad false 1 (eget e 15) M)) (some 16) e M fun e M =>
    nx (oMv (eget e 1)) (some 17) e M fun e M =>
    nx (oBin cx.P .neq 2 (eget e 16) (eget e 17) M) (some 18) e M fun e M =>
    some (e, M)).map fun q => (prune [0, 1, 5, 18] q.1, q.2)
noncomputable def f26_r5 (call : CallF) : Env → Mem → Option (Env × Mem) := fun e M =>
    (nx (oMv (.int .i64 (-1))) (some 4) e M fun e M =>
    some (e, M)).map fun q => (prune [4] q.1, q.2)
noncomputable def f26_r6 (call : CallF) : Env → Mem → Option (Env × Mem) := fun e M =>
    (nx (oMv (eget e 1)) (some 19) e M fun e M =>
    nx (oBin cx.P .add 3 (eget e 19) (.int .i64 1) M) (some 20) e M fun e M =>
    nx (oMv (eget e 20)) (some 1) e M fun e M =>
    some (e, M)).map fun q => (prune [0, 1, 5] q.1, q.2)
noncomputable def f26_r7 (call : CallF) : Env → Mem → Option (Env × Mem) := fun e M =>
    (nx (oMv (eget e 0)) (some 21) e M fun e M =>
    nx (oMv (eget e 5)) (some 22) e M fun e M =>
    nx (keep (aIndexS 6 (eget e 21) (eget e 22) M)) (some 23) e M fun e M =>
    nx (keep (aFieldAddr 1 1 (eget e 23) M)) (some 24) e M fun e M =>
    nx (keep (aLoad false 1 (eget e 24) M)) (some 25) e M fun e M =>
    nx (oMv (eget e 1)) (some 26) e M fun e M =>
    nx (keep (aConvI .i8 (eget e 26))) (some 27) e M fun e M =>
    nx (oBin cx.P .neq 23 (eget e 25) (eget e 27) M) (some 28) e M fun e M =>
    some (e, M)).map fun q => (prune [0, 1, 5, 28] q.1, q.2)
noncomputable def f26_r8 (call : CallF) : Env → Mem → Option (Env × Mem) := fun e M =>
    (nx (oMv (.int .i64 (-1))) (some 4) e M fun e M =>
    some (e, M)).map fun q => (prune [4] q.1, q.2)
noncomputable def f26_r9 (call : CallF) : Env → Mem → Option (Env × Mem) := fun e M =>
    (nx (oMv (eget e 1)) (some 29) e M fun e M =>
    nx (oBin cx.P .add 3 (eget e 29) (.int .i64 1) M) (some 30) e M fun e M =>
    nx (oMv (eget e 30)) (some 1) e M fun e M =>
    some (e, M)).map fun q => (prune [0, 1, 5] q.1, q.2)
noncomputable def f26_r10 (call : CallF) : Env → Mem → Option (Env × Mem) := fun e M =>
    (nx (oMv (eget e 0)) (some 31) e M fun e M =>
    nx (oMv (eget e 5)) (some 32) e M fun e M =>
    nx (keep (aIndexS 6 (eget e 31) (eget e 32) M)) (some 33) e M fun e M =>
    nx (keep (aFieldAddr 2 1 (eget e 33) M)) (some 34) e M fun e M =>
    nx (keep (aLoad false 1 (eget e 34) M)) (some 35) e M fun e M =>
    nx (oMv (eget e 1)) (some 36) e M fun e M =>
    nx (oBin cx.P .neq 2 (eget e 35) (eget e 36) M) (some 37) e M fun e M =>
    some (e, M)).map fun q => (prune [0, 1, 5, 37] q.1, q.2)
noncomputable def f26_r11 (call : CallF) : Env → Mem → Option (Env × Mem) := fun e M =>
    (nx (oMv (.int .i64 (-1))) (some 4) e M fun e M =>
    some (e, M)).map fun q => (prune [4] q.1, q.2)
noncomputable def f26_r12 (call : CallF) : Env → Mem → Option (Env × Mem) := fun e M =>
    (nx (oMv (eget e 1)) (some 38) e M fun e M =>
    nx (oBin cx.P .add 3 (eget e 38) (.int .i64 1) M) (some 39) e M fun e M =>
    nx (oMv (eget e 39)) (some 1) e M fun e M =>
    some (e, M)).map fun q => (prune [0, 1, 5] q.1, q.2)
noncomputable def f26_r13 (call : CallF) : Env → Mem → Option (Env × Mem) := fun e M =>
    (nx (oMv (eget e 0)) (some 40) e M fun e M =>
    nx (oMv (eget e 5)) (some 41) e M fun e M =>
    nx (keep (aIndexS 6 (eget e 40) (eget e 41) M)) (some 42) e M fun e M =>
    nx (keep (aFieldAddr 3 1 (eget e 42) M)) (some 43) e M fun e M =>
    nx (keep (aLoad false 1 (eget e 43) M)) (some 44) e M fun e M =>
    nx (oMv (eget e 1)) (some 45) e M fun e M =>
    nx (oBin cx.P .neq 2 (eget e 44) (eget e 45) M) (some 46) e M fun e M =>
    some (e, M)).map fun q => (prune [0, 1, 5, 46] q.1, q.2)
noncomputable def f26_r14 (call : CallF) : Env → Mem → Option (Env × Mem) := fun e M =>
    (nx (oMv (.int .i64 (-1))) (some 4) e M fun e M =>
    some (e, M)).map fun q => (prune [4] q.1, q.2)
noncomputable def f26_r15 (call : CallF) : Env → Mem → Option (Env × Mem) := fun e M =>
    (nx (oMv (eget e 1)) (some 47) e M fun e M =>
    nx (oBin cx.P .add 3 (eget e 47) (.int .i64 1) M) (some 48) e M fun e M =>
    nx (oMv (eget e 48)) (some 1) e M fun e M =>
    some (e, M)).map fun q => (prune [0, 1, 5] q.1, q.2)
noncomputable def f26_r16 (call : CallF) : Env → Mem → Option (Env × Mem) := fun e M =>
    (nx (oMv (eget e 0)) (some 49) e M fun e M =>
    nx (oMv (eget e 5)) (some 50) e M fun e M =>
    nx (keep (aIndexS 6 (eget e 49) (eget e 50) M)) (some 51) e M fun e M =>
    nx (keep (aFieldAddr 4 1 (eget e 51) M)) (some 52) e M fun e M =>
    nx (keep (aLoad false 1 (eget e 52) M)) (some 53) e M fun e M =>
    nx (oMv (eget e 1)) (some 54) e M fun e M =>
    nx (oBin cx.P .neq 2 (eget e 53) (eget e 54) M) (some 55) e M fun e M =>
    some (e, M)).map fun q => (prune [0, 1, 5, 55] q.1, q.2)
noncomputable def f26_r17 (call : CallF) : Env → Mem → Option (Env × Mem) := fun e M =>
    (nx (oMv (.int .i64 (-1))) (some 4) e M fun e M =>
    some (e, M)).map fun q => (prune [4] q.1, q.2)
noncomputable def f26_r18 (call : CallF) : Env → Mem → Option (Env × Mem) := fun e M =>
    (nx (oMv (eget e 1)) (some 56) e M fun e M =>
    nx (oBin cx.P .add 3 (eget e 56) (.int .i64 1) M) (some 57) e M fun e M =>
    nx (oMv (eget e 57)) (some 1) e M fun e M =>
    some (e, M)).map fun q => (prune [0, 1, 5] q.1, q.2)
noncomputable def f26_r19 (call : CallF) : Env → Mem → Option (Env × Mem) := fun e M =>
    (nx (oMv (eget e 0)) (some 58) e M fun e M =>
    nx (oMv (eget e 5)) (some 59) e M fun e M =>
    nx (keep (aIndexS 6 (eget e 58) (eget e 59) M)) (some 60) e M fun e M =>
    nx (keep (aFieldAddr 5 1 (eget e 60) M)) (some 61) e M fun e M =>
    nx (keep (aLoad false 1 (eget e 61) M)) (some 62) e M fun e M =>
    nx (oMv (eget e 1)) (some 63) e M fun e M =>
    nx (oBin cx.P .neq 2 (eget e 62) (eget e 63) M) (some 64) e M fun e M =>
    some (e, M)).map fun q => (prune [0, 1, 5, 64] q.1, q.2)
noncomputable def f26_r20 (call : CallF) : Env → Mem → Option (Env × Mem) := fun e M =>
    (nx (oMv (.int .i64 (-1))) (some 4) e M fun e M =>
    some (e, M)).map fun q => (prune [4] q.1, q.2)
noncomputable def f26_r21 (call : CallF) : Env → Mem → Option (Env × Mem) := fun e M =>
    (nx (oMv (eget e 1)) (some 65) e M fun e M =>
    nx (oBin cx.P .add 3 (eget e 65) (.int .i64 1) M) (some 66) e M fun e M =>
    nx (oMv (eget e 66)) (some 1) e M fun e M =>
    some (e, M)).map fun q => (prune [0, 1, 5] q.1, q.2)
noncomputable def f26_r22 (call : CallF) : Env → Mem → Option (Env × Mem) := fun e M =>
    (nx (oMv (eget e 1)) (some 67) e M fun e M =>
    nx (oMv (eget e 67)) (some 4) e M fun e M =>
    some (e, M)).map fun q => (prune [4] q.1, q.2)
noncomputable def f26_l2 (call : CallF) (k : Nat) : St :=
  (bSeq (bSeq (bReg (f26_r2 call))
  (bCond (.tmp 9)
   (bEx .nrm)
   (bEx (.ext 0))))
  (bSeq (bBlock 1 (bSeq (bSeq (bReg (f26_r4 call))
   (bCond (.tmp 18)
    (bSeq (bReg (f26_r5 call))
    (bEx .ret))
    (bEx .nrm)))
   (bSeq (bReg (f26_r6 call))
   (bSeq (bSeq (bReg (f26_r7 call))
   (bCond (.tmp 28)
    (bSeq (bReg (f26_r8 call))
    (bEx .ret))
    (bEx .nrm)))
   (bSeq (bReg (f26_r9 call))
   (bSeq (bSeq (bReg (f26_r10 call))
   (bCond (.tmp 37)
    (bSeq (bReg (f26_r11 call))
    (bEx .ret))
    (bEx .nrm)))
   (bSeq (bReg (f26_r12 call))
   (bSeq (bSeq (bReg (f26_r13 call))
   (bCond (.tmp 46)
    (bSeq (bReg (f26_r14 call))
    (bEx .ret))
    (bEx .nrm)))
   (bSeq (bReg (f26_r15 call))
   (bSeq (bSeq (bReg (f26_r16 call))
   (bCond (.tmp 55)
    (bSeq (bReg (f26_r17 call))
    (bEx .ret))
    (bEx .nrm)))
   (bSeq (bReg (f26_r18 call))
   (bSeq (bSeq (bReg (f26_r19 call))
   (bCond (.tmp 64)
    (bSeq (bReg (f26_r20 call))
    (bEx .ret))
    (bEx .nrm)))
   (bReg (f26_r21 call))))))))))))))
  (bReg (f26_r3 call))))
noncomputable def f26 (call : CallF) (k : Nat) : St :=
  (bSeq (bReg (f26_r0 call))
  (bSeq (bSeq (bReg (f26_r1 call))
  (bBlock 0 (bLoop [0, 1, 5] (f26_l2 call k) k)))
  (bSeq (bReg (f26_r22 call))
  (bEx .ret))))
theorem f26_eq (call : CallF) (k : Nat) : exec cx call 68 f26_an k (Try.f26.body.getD .skip) = f26 call k := by kernel_rfl
/-! ### f49: loop.example/g01263/spec.l07Deals -/
def f49_an : Ann := ⟨[(0, ⟨[], [], [], [], [0]⟩), (1, ⟨[], [], [], [], [0, 3]⟩), (2, ⟨[], [], [], [], [0, 3, 7]⟩), (3, ⟨[], [], [], [], [0, 3]⟩), (4, ⟨[], [], [], [], [0, 3, 14]⟩), (5, ⟨[], [], [], [], [2]⟩), (6, ⟨[], [], [], [], [2]⟩)], [(2, [0, 3])]⟩
noncomputable def f49_r0 (call : CallF) : Env → Mem → Option (Env × Mem) := fun e M =>
    (nx (oMv (.bool false)) (some 2) e M fun e M =>
    some (e, M)).map fun q => (prune [0] q.1, q.2)
noncomputable def f49_r1 (call : CallF) : Env → Mem → Option (Env × Mem) := fun e M =>
    (nx (oMv (.int .i64 0)) (some 3) e M fun e M =>
    some (e, M)).map fun q => (prune [0, 3] q.1, q.2)
noncomputable def f49_r2 (call : CallF) : Env → Mem → Option (Env × Mem) := fun e M =>
    (nx (oMv (eget e 3)) (some 4) e M fun e M =>
    nx (oMv (eget e 0)) (some 5) e M fun e M =>
    nx (oLen cx.P 56 (eget e 5) M) (some 6) e M fun e M =>
    nx (oBin cx.P .lss 3 (eget e 4) (eget e 6) M) (some 7) e M fun e M =>
    some (e, M)).map fun q => (prune [0, 3, 7] q.1, q.2)
noncomputable def f49_r3 (call : CallF) : Env → Mem → Option (Env × Mem) := fun e M =>
    (nx (oMv (eget e 3)) (some 8) e M fun e M =>
    nx (oBin cx.P .add 3 (eget e 8) (.int .i64 1) M) (some 9) e M fun e M =>
    nx (oMv (eget e 9)) (some 3) e M fun e M =>
    some (e, M)).map fun q => (prune [0, 3] q.1, q.2)
noncomputable def f49_r4 (call : CallF) : Env → Mem → Option (Env × Mem) := fun e M =>
    (nx (oMv (eget e 0)) (some 10) e M fun e M =>
    nx (oMv (eget e 3)) (some 11) e M fun e M =>
    nx (keep (aIndexS 6 (eget e 10) (eget e 11) M)) (some 12) e M fun e M =>
    nx (aCall cx.P.cellsOf cx.rw call false M.length 73 [(eget e 12)] M) (some 13) e M fun e M =>
    nx (keep (aUn .not (eget e 13))) (some 14) e M fun e M =>
    some (e, M)).map fun q => (prune [0, 3, 14] q.1, q.2)
noncomputable def f49_r5 (call : CallF) : Env → Mem → Option (Env × Mem) := fun e M =>
    (nx (oMv (.bool false)) (some 2) e M fun e M =>
    some (e, M)).map fun q => (prune [2] q.1, q.2)
noncomputable def f49_r6 (call : CallF) : Env → Mem → Option (Env × Mem) := fun e M =>
    (nx (oMv (.bool true)) (some 2) e M fun e M =>
    some (e, M)).map fun q => (prune [2] q.1, q.2)
noncomputable def f49_l2 (call : CallF) (k : Nat) : St :=
  (bSeq (bSeq (bReg (f49_r2 call))
  (bCond (.tmp 7)
   (bEx .nrm)
   (bEx (.ext 0))))
  (bSeq (bBlock 1 (bSeq (bReg (f49_r4 call))
   (bCond (.tmp 14)
    (bSeq (bReg (f49_r5 call))
    (bEx .ret))
    (bEx .nrm))))
  (bReg (f49_r3 call))))
noncomputable def f49 (call : CallF) (k : Nat) : St :=
  (bSeq (bReg (f49_r0 call))
  (bSeq (bSeq (bReg (f49_r1 call))
  (bBlock 0 (bLoop [0, 3] (f49_l2 call k) k)))
  (bSeq (bReg (f49_r6 call))
  (bEx .ret))))
theorem f49_eq (call : CallF) (k : Nat) : exec cx call 15 f49_an k (Try.f49.body.getD .skip) = f49 call k := by kernel_rfl
/-! ### f50: loop.example/g01263/spec.l07Ordered -/
def f50_an : Ann := ⟨[(0, ⟨[], [], [], [], [0]⟩), (1, ⟨[], [], [], [], [0, 3]⟩), (2, ⟨[], [], [], [], [0, 3, 7]⟩), (3, ⟨[], [], [], [], [0, 3]⟩), (4, ⟨[], [], [], [], [0, 3, 21]⟩), (5, ⟨[], [], [], [], [2]⟩), (6, ⟨[], [], [], [], [2]⟩)], [(2, [0, 3])]⟩
noncomputable def f50_r0 (call : CallF) : Env → Mem → Option (Env × Mem) := fun e M =>
    (nx (oMv (.bool false)) (some 2) e M fun e M =>
    some (e, M)).map fun q => (prune [0] q.1, q.2)
noncomputable def f50_r1 (call : CallF) : Env → Mem → Option (Env × Mem) := fun e M =>
    (nx (oMv (.int .i64 1)) (some 3) e M fun e M =>
    some (e, M)).map fun q => (prune [0, 3] q.1, q.2)
noncomputable def f50_r2 (call : CallF) : Env → Mem → Option (Env × Mem) := fun e M =>
    (nx (oMv (eget e 3)) (some 4) e M fun e M =>
    nx (oMv (eget e 0)) (some 5) e M fun e M =>
    nx (oLen cx.P 56 (eget e 5) M) (some 6) e M fun e M =>
    nx (oBin cx.P .lss 3 (eget e 4) (eget e 6) M) (some 7) e M fun e M =>
    some (e, M)).map fun q => (prune [0, 3, 7] q.1, q.2)
noncomputable def f50_r3 (call : CallF) : Env → Mem → Option (Env × Mem) := fun e M =>
    (nx (oMv (eget e 3)) (some 8) e M fun e M =>
    nx (oBin cx.P .add 3 (eget e 8) (.int .i64 1) M) (some 9) e M fun e M =>
    nx (oMv (eget e 9)) (some 3) e M fun e M =>
    some (e, M)).map fun q => (prune [0, 3] q.1, q.2)
noncomputable def f50_r4 (call : CallF) : Env → Mem → Option (Env × Mem) := fun e M =>
    rD [0, 3, 21] (fun (C : List Ob) =>
    nf (oMv (eget e 0)) (some 10) false e C fun e C =>
    nf (oMv (eget e 3)) (some 11) false e C fun e C =>
    nf (keep (aIndexS 6 (eget e 10) (eget e 11) M)) (some 12) false e C fun e C =>
    nf (keep (aFieldAddr 0 1 (eget e 12) M)) (some 13) false e C fun e C =>
    nf (keep (aLoad false 1 (eget e 13) M)) (some 14) false e C fun e C =>
    nf (oMv (eget e 0)) (some 15) false e C fun e C =>
    nf (oMv (eget e 3)) (some 16) false e C fun e C =>
    nf (oBin cx.P .sub 3 (eget e 16) (.int .i64 1) M) (some 17) false e C fun e C =>
    nf (keep (aIndexS 6 (eget e 15) (eget e 17) M)) (some 18) false e C fun e C =>
    nf (keep (aFieldAddr 0 1 (eget e 18) M)) (some 19) false e C fun e C =>
    nf (keep (aLoad false 1 (eget e 19) M)) (some 20) false e C fun e C =>
    nf (oBin cx.P .lss 2 (eget e 14) (eget e 20) M) (some 21) false e C fun e C =>
    some (e, C)) (fun (e : Env) (M : Mem) =>
    some (e, M)) M
noncomputable def f50_r5 (call : CallF) : Env → Mem → Option (Env × Mem) := fun e M =>
    (nx (oMv (.bool false)) (some 2) e M fun e M =>
    some (e, M)).map fun q => (prune [2] q.1, q.2)
noncomputable def f50_r6 (call : CallF) : Env → Mem → Option (Env × Mem) := fun e M =>
    (nx (oMv (.bool true)) (some 2) e M fun e M =>
    some (e, M)).map fun q => (prune [2] q.1, q.2)
noncomputable def f50_l2 (call : CallF) (k : Nat) : St :=
  (bSeq (bSeq (bReg (f50_r2 call))
  (bCond (.tmp 7)
   (bEx .nrm)
   (bEx (.ext 0))))
  (bSeq (bBlock 1 (bSeq (bReg (f50_r4 call))
   (bCond (.tmp 21)
    (bSeq (bReg (f50_r5 call))
    (bEx .ret))
    (bEx .nrm))))
  (bReg (f50_r3 call))))
noncomputable def f50 (call : CallF) (k : Nat) : St :=
  (bSeq (bReg (f50_r0 call))
  (bSeq (bSeq (bReg (f50_r1 call))
  (bBlock 0 (bLoop [0, 3] (f50_l2 call k) k)))
  (bSeq (bReg (f50_r6 call))
  (bEx .ret))))
theorem f50_eq (call : CallF) (k : Nat) : exec cx call 22 f50_an k (Try.f50.body.getD .skip) = f50 call k := by kernel_rfl
/-! ### f51: loop.example/g01263/laws.toDeal -/
def f51_an : Ann := ⟨[(0, ⟨[], [], [], [], [1, 2]⟩), (1, ⟨[], [], [], [], [1, 2, 3]⟩), (2, ⟨[], [], [], [], [1, 2, 3]⟩), (3, ⟨[], [], [], [], [1, 2, 3]⟩), (4, ⟨[], [], [], [], [1, 2, 3]⟩), (5, ⟨[], [], [], [], [1, 2, 3]⟩), (6, ⟨[], [], [], [], [1, 2, 3]⟩), (7, ⟨[], [], [], [], [2, 3]⟩), (8, ⟨[], [], [], [], [2]⟩)], []⟩
noncomputable def f51_r0 (call : CallF) : Env → Mem → Option (Env × Mem) := fun e M =>
    (nx (keep (aBox 6 (eget e 0) M)) (some 1) e M fun e M =>
    nx (oAlloc cx.P M.length 85 6) (some 2) e M fun e M =>
    some (e, M)).map fun q => (prune [1, 2] q.1, q.2)
noncomputable def f51_r1 (call : CallF) : Env → Mem → Option (Env × Mem) := fun e M =>
    (nx (oAlloc cx.P M.length 85 6) (some 3) e M fun e M =>
    some (e, M)).map fun q => (prune [1, 2, 3] q.1, q.2)
noncomputable def f51_r2 (call : CallF) : Env → Mem → Option (Env × Mem) := fun e M =>
    (nx (keep (aFieldAddr 0 1 (eget e 1) M)) (some 4) e M fun e M =>
    nx (keep (aLoad false 1 (eget e 4) M)) (some 5) e M fun e M =>
    nx (keep (aFieldAddr 0 1 (eget e 3) M)) (some 6) e M fun e M =>
    nx (oStore 1 (eget e 6) (eget e 5) M) none e M fun e M =>
    some (e, M)).map fun q => (prune [1, 2, 3] q.1, q.2)
noncomputable def f51_r3 (call : CallF) : Env → Mem → Option (Env × Mem) := fun e M =>
    (nx (keep (aFieldAddr 1 1 (eget e 1) M)) (some 7) e M fun e M =>
    nx (keep (aLoad false 1 (eget e 7) M)) (some 8) e M fun e M =>
    nx (keep (aFieldAddr 1 1 (eget e 3) M)) (some 9) e M fun e M =>
    nx (oStore 1 (eget e 9) (eget e 8) M) none e M fun e M =>
    some (e, M)).map fun q => (prune [1, 2, 3] q.1, q.2)
noncomputable def f51_r4 (call : CallF) : Env → Mem → Option (Env × Mem) := fun e M =>
    (nx (keep (aFieldAddr 2 1 (eget e 1) M)) (some 10) e M fun e M =>
    nx (keep (aLoad false 1 (eget e 10) M)) (some 11) e M fun e M =>
    nx (keep (aFieldAddr 2 1 (eget e 3) M)) (some 12) e M fun e M =>
    nx (oStore 1 (eget e 12) (eget e 11) M) none e M fun e M =>
    some (e, M)).map fun q => (prune [1, 2, 3] q.1, q.2)
noncomputable def f51_r5 (call : CallF) : Env → Mem → Option (Env × Mem) := fun e M =>
    (nx (keep (aFieldAddr 3 1 (eget e 1) M)) (some 13) e M fun e M =>
    nx (keep (aLoad false 1 (eget e 13) M)) (some 14) e M fun e M =>
    nx (keep (aFieldAddr 3 1 (eget e 3) M)) (some 15) e M fun e M =>
    nx (oStore 1 (eget e 15) (eget e 14) M) none e M fun e M =>
    some (e, M)).map fun q => (prune [1, 2, 3] q.1, q.2)
noncomputable def f51_r6 (call : CallF) : Env → Mem → Option (Env × Mem) := fun e M =>
    (nx (keep (aFieldAddr 4 1 (eget e 1) M)) (some 16) e M fun e M =>
    nx (keep (aLoad false 1 (eget e 16) M)) (some 17) e M fun e M =>
    nx (keep (aFieldAddr 4 1 (eget e 3) M)) (some 18) e M fun e M =>
    nx (oStore 1 (eget e 18) (eget e 17) M) none e M fun e M =>
    some (e, M)).map fun q => (prune [1, 2, 3] q.1, q.2)
noncomputable def f51_r7 (call : CallF) : Env → Mem → Option (Env × Mem) := fun e M =>
    (nx (keep (aFieldAddr 5 1 (eget e 1) M)) (some 19) e M fun e M =>
    nx (keep (aLoad false 1 (eget e 19) M)) (some 20) e M fun e M =>
    nx (keep (aFieldAddr 5 1 (eget e 3) M)) (some 21) e M fun e M =>
    nx (oStore 1 (eget e 21) (eget e 20) M) none e M fun e M =>
    some (e, M)).map fun q => (prune [2, 3] q.1, q.2)
noncomputable def f51_r8 (call : CallF) : Env → Mem → Option (Env × Mem) := fun e M =>
    (nx (keep (aLoad true 6 (eget e 3) M)) (some 22) e M fun e M =>
    nx (oStore 6 (eget e 2) (eget e 22) M) none e M fun e M =>
    some (e, M)).map fun q => (prune [2] q.1, q.2)
noncomputable def f51 (call : CallF) (k : Nat) : St :=
  (bSeq (bReg (f51_r0 call))
  (bSeq (bReg (f51_r1 call))
  (bSeq (bReg (f51_r2 call))
  (bSeq (bReg (f51_r3 call))
  (bSeq (bReg (f51_r4 call))
  (bSeq (bReg (f51_r5 call))
  (bSeq (bReg (f51_r6 call))
  (bSeq (bReg (f51_r7 call))
  (bSeq (bReg (f51_r8 call))
  (bEx .ret))))))))))
theorem f51_eq (call : CallF) (k : Nat) : exec cx call 23 f51_an k (Try.f51.body.getD .skip) = f51 call k := by kernel_rfl
/-! ### f52: loop.example/g01263/impl.areDeals -/
def f52_an : Ann := ⟨[(0, ⟨[], [], [], [], [0]⟩), (1, ⟨[], [], [], [], [5, 6, 7]⟩), (2, ⟨[], [], [], [], [5, 6, 7, 8]⟩), (3, ⟨[], [], [], [], [4, 5, 6, 7]⟩), (4, ⟨[], [], [], [], [5, 6, 7, 13]⟩), (5, ⟨[], [], [], [], [2]⟩), (6, ⟨[], [], [], [], [5, 6, 7]⟩), (7, ⟨[], [], [], [], [2]⟩)], [(2, [5, 6, 7])]⟩
noncomputable def f52_r0 (call : CallF) : Env → Mem → Option (Env × Mem) := fun e M =>
    (nx (oMv (.bool false)) (some 2) e M fun e M =>
    some (e, M)).map fun q => (prune [0] q.1, q.2)
noncomputable def f52_r1 (call : CallF) : Env → Mem → Option (Env × Mem) := fun e M =>
    (nx (oMv (eget e 0)) (some 5) e M fun e M =>
    nx (oLen cx.P 56 (eget e 5) M) (some 6) e M fun e M =>
    nx (oMv (.int .i64 0)) (some 7) e M fun e M =>
    some (e, M)).map fun q => (prune [5, 6, 7] q.1, q.2)
noncomputable def f52_r2 (call : CallF) : Env → Mem → Option (Env × Mem) := fun e M =>
    (nx (oBin cx.P .lss 3 (eget e 7) (eget e 6) M) (some 8) e M fun e M =>
    some (e, M)).map fun q => (prune [5, 6, 7, 8] q.1, q.2)
noncomputable def f52_r3 (call : CallF) : Env → Mem → Option (Env × Mem) := fun e M =>
    (nx (keep (aIndexS 6 (eget e 5) (eget e 7) M)) (some 9) e M fun e M =>
    nx (keep (aLoad true 6 (eget e 9) M)) (some 10) e M fun e M =>
    nx (oAlloc cx.P M.length 85 6) (some 4) e M fun e M =>
    nx (oStore 6 (eget e 4) (eget e 10) M) none e M fun e M =>
    some (e, M)).map fun q => (prune [4, 5, 6, 7] q.1, q.2)
noncomputable def f52_r4 (call : CallF) : Env → Mem → Option (Env × Mem) := fun e M =>
    (nx (keep (aLoad true 6 (eget e 4) M)) (some 11) e M fun e M =>
    nx (aCall cx.P.cellsOf cx.rw call false M.length 74 [(eget e 11)] M) (some 12) e M fun e M =>
    nx (keep (aUn .not (eget e 12))) (some 13) e M fun e M =>
    some (e, M)).map fun q => (prune [5, 6, 7, 13] q.1, q.2)
noncomputable def f52_r5 (call : CallF) : Env → Mem → Option (Env × Mem) := fun e M =>
    (nx (oMv (.bool false)) (some 2) e M fun e M =>
    some (e, M)).map fun q => (prune [2] q.1, q.2)
noncomputable def f52_r6 (call : CallF) : Env → Mem → Option (Env × Mem) := fun e M =>
    (nx (oBin cx.P .add 3 (eget e 7) (.int .i64 1) M) (some 14) e M fun e M =>
    nx (oMv (eget e 14)) (some 7) e M fun e M =>
    some (e, M)).map fun q => (prune [5, 6, 7] q.1, q.2)
noncomputable def f52_r7 (call : CallF) : Env → Mem → Option (Env × Mem) := fun e M =>
    (nx (oMv (.bool true)) (some 2) e M fun e M =>
    some (e, M)).map fun q => (prune [2] q.1, q.2)
noncomputable def f52_l2 (call : CallF) (k : Nat) : St :=
  (bSeq (bReg (f52_r2 call))
  (bSeq (bCond (.tmp 8)
   (bEx .nrm)
   (bEx (.ext 0)))
  (bSeq (bBlock 1 (bSeq (bReg (f52_r3 call))
   (bSeq (bReg (f52_r4 call))
   (bCond (.tmp 13)
    (bSeq (bReg (f52_r5 call))
    (bEx .ret))
    (bEx .nrm)))))
  (bReg (f52_r6 call)))))
noncomputable def f52 (call : CallF) (k : Nat) : St :=
  (bSeq (bReg (f52_r0 call))
  (bSeq (bSeq (bReg (f52_r1 call))
  (bBlock 0 (bLoop [5, 6, 7] (f52_l2 call k) k)))
  (bSeq (bReg (f52_r7 call))
  (bEx .ret))))
theorem f52_eq (call : CallF) (k : Nat) : exec cx call 15 f52_an k (Try.f52.body.getD .skip) = f52 call k := by kernel_rfl
/-! ### f53: loop.example/g01263/impl.inOrder -/
def f53_an : Ann := ⟨[(0, ⟨[], [], [], [], [0]⟩), (1, ⟨[], [], [], [], [2]⟩)], []⟩
noncomputable def f53_r0 (call : CallF) : Env → Mem → Option (Env × Mem) := fun e M =>
    (nx (oMv (.bool false)) (some 2) e M fun e M =>
    some (e, M)).map fun q => (prune [0] q.1, q.2)
noncomputable def f53_r1 (call : CallF) : Env → Mem → Option (Env × Mem) := fun e M =>
    (nx (oMv (eget e 0)) (some 3) e M fun e M =>
    nx (aCall cx.P.cellsOf cx.rw call false M.length 75 [(eget e 3), (.fn 76 [])] M) (some 4) e M fun e M =>
    nx (oMv (eget e 4)) (some 2) e M fun e M =>
    some (e, M)).map fun q => (prune [2] q.1, q.2)
noncomputable def f53 (call : CallF) (k : Nat) : St :=
  (bSeq (bReg (f53_r0 call))
  (bSeq (bReg (f53_r1 call))
  (bEx .ret)))
theorem f53_eq (call : CallF) (k : Nat) : exec cx call 5 f53_an k (Try.f53.body.getD .skip) = f53 call k := by kernel_rfl
/-! ### f54: loop.example/g01263/laws.eqDeal -/
def f54_an : Ann := ⟨[(0, ⟨[], [], [], [], [2, 3]⟩), (1, ⟨[], [], [], [], [2, 3, 9]⟩), (2, ⟨[], [], [], [], [4]⟩), (3, ⟨[], [], [], [], [2, 3, 14]⟩), (4, ⟨[], [], [], [], [4]⟩), (5, ⟨[], [], [], [], [2, 3, 19]⟩), (6, ⟨[], [], [], [], [4]⟩), (7, ⟨[], [], [], [], [2, 3, 24]⟩), (8, ⟨[], [], [], [], [4]⟩), (9, ⟨[], [], [], [], [2, 3, 29]⟩), (10, ⟨[], [], [], [], [4]⟩), (11, ⟨[], [], [], [], [34]⟩), (12, ⟨[], [], [], [], [4]⟩), (13, ⟨[], [], [], [], [4]⟩)], []⟩
noncomputable def f54_r0 (call : CallF) : Env → Mem → Option (Env × Mem) := fun e M =>
    (nx (keep (aBox 6 (eget e 0) M)) (some 2) e M fun e M =>
    nx (keep (aBox 6 (eget e 1) M)) (some 3) e M fun e M =>
    nx (oMv (.bool false)) (some 4) e M fun e M =>
    some (e, M)).map fun q => (prune [2, 3] q.1, q.2)
noncomputable def f54_r1 (call : CallF) : Env → Mem → Option (Env × Mem) := fun e M =>
    (nx (keep (aFieldAddr 0 1 (eget e 2) M)) (some 5) e M fun e M =>
    nx (keep (aLoad false 1 (eget e 5) M)) (some 6) e M fun e M =>
    nx (keep (aFieldAddr 0 1 (eget e 3) M)) (some 7) e M fun e M =>
    nx (keep (aLoad false 1 (eget e 7) M)) (some 8) e M fun e M =>
    nx (oBin cx.P .neq 2 (eget e 6) (eget e 8) M) (some 9) e M fun e M =>
    some (e, M)).map fun q => (prune [2, 3, 9] q.1, q.2)
noncomputable def f54_r2 (call : CallF) : Env → Mem → Option (Env × Mem) := fun e M =>
    (nx (oMv (.bool false)) (some 4) e M fun e M =>
    some (e, M)).map fun q => (prune [4] q.1, q.2)
noncomputable def f54_r3 (call : CallF) : Env → Mem → Option (Env × Mem) := fun e M =>
    (nx (keep (aFieldAddr 1 1 (eget e 2) M)) (some 10) e M fun e M =>
    nx (keep (aLoad false 1 (eget e 10) M)) (some 11) e M fun e M =>
    nx (keep (aFieldAddr 1 1 (eget e 3) M)) (some 12) e M fun e M =>
    nx (keep (aLoad false 1 (eget e 12) M)) (some 13) e M fun e M =>
    nx (oBin cx.P .neq 23 (eget e 11) (eget e 13) M) (some 14) e M fun e M =>
    some (e, M)).map fun q => (prune [2, 3, 14] q.1, q.2)
noncomputable def f54_r4 (call : CallF) : Env → Mem → Option (Env × Mem) := fun e M =>
    (nx (oMv (.bool false)) (some 4) e M fun e M =>
    some (e, M)).map fun q => (prune [4] q.1, q.2)
noncomputable def f54_r5 (call : CallF) : Env → Mem → Option (Env × Mem) := fun e M =>
    (nx (keep (aFieldAddr 2 1 (eget e 2) M)) (some 15) e M fun e M =>
    nx (keep (aLoad false 1 (eget e 15) M)) (some 16) e M fun e M =>
    nx (keep (aFieldAddr 2 1 (eget e 3) M)) (some 17) e M fun e M =>
    nx (keep (aLoad false 1 (eget e 17) M)) (some 18) e M fun e M =>
    nx (oBin cx.P .neq 2 (eget e 16) (eget e 18) M) (some 19) e M fun e M =>
    some (e, M)).map fun q => (prune [2, 3, 19] q.1, q.2)
noncomputable def f54_r6 (call : CallF) : Env → Mem → Option (Env × Mem) := fun e M =>
    (nx (oMv (.bool false)) (some 4) e M fun e M =>
    some (e, M)).map fun q => (prune [4] q.1, q.2)
noncomputable def f54_r7 (call : CallF) : Env → Mem → Option (Env × Mem) := fun e M =>
    (nx (keep (aFieldAddr 3 1 (eget e 2) M)) (some 20) e M fun e M =>
    nx (keep (aLoad false 1 (eget e 20) M)) (some 21) e M fun e M =>
    nx (keep (aFieldAddr 3 1 (eget e 3) M)) (some 22) e M fun e M =>
    nx (keep (aLoad false 1 (eget e 22) M)) (some 23) e M fun e M =>
    nx (oBin cx.P .neq 2 (eget e 21) (eget e 23) M) (some 24) e M fun e M =>
    some (e, M)).map fun q => (prune [2, 3, 24] q.1, q.2)
noncomputable def f54_r8 (call : CallF) : Env → Mem → Option (Env × Mem) := fun e M =>
    (nx (oMv (.bool false)) (some 4) e M fun e M =>
    some (e, M)).map fun q => (prune [4] q.1, q.2)
noncomputable def f54_r9 (call : CallF) : Env → Mem → Option (Env × Mem) := fun e M =>
    (nx (keep (aFieldAddr 4 1 (eget e 2) M)) (some 25) e M fun e M =>
    nx (keep (aLoad false 1 (eget e 25) M)) (some 26) e M fun e M =>
    nx (keep (aFieldAddr 4 1 (eget e 3) M)) (some 27) e M fun e M =>
    nx (keep (aLoad false 1 (eget e 27) M)) (some 28) e M fun e M =>
    nx (oBin cx.P .neq 2 (eget e 26) (eget e 28) M) (some 29) e M fun e M =>
    some (e, M)).map fun q => (prune [2, 3, 29] q.1, q.2)
noncomputable def f54_r10 (call : CallF) : Env → Mem → Option (Env × Mem) := fun e M =>
    (nx (oMv (.bool false)) (some 4) e M fun e M =>
    some (e, M)).map fun q => (prune [4] q.1, q.2)
noncomputable def f54_r11 (call : CallF) : Env → Mem → Option (Env × Mem) := fun e M =>
    (nx (keep (aFieldAddr 5 1 (eget e 2) M)) (some 30) e M fun e M =>
    nx (keep (aLoad false 1 (eget e 30) M)) (some 31) e M fun e M =>
    nx (keep (aFieldAddr 5 1 (eget e 3) M)) (some 32) e M fun e M =>
    nx (keep (aLoad false 1 (eget e 32) M)) (some 33) e M fun e M =>
    nx (oBin cx.P .neq 2 (eget e 31) (eget e 33) M) (some 34) e M fun e M =>
    some (e, M)).map fun q => (prune [34] q.1, q.2)
noncomputable def f54_r12 (call : CallF) : Env → Mem → Option (Env × Mem) := fun e M =>
    (nx (oMv (.bool false)) (some 4) e M fun e M =>
    some (e, M)).map fun q => (prune [4] q.1, q.2)
noncomputable def f54_r13 (call : CallF) : Env → Mem → Option (Env × Mem) := fun e M =>
    (nx (oMv (.bool true)) (some 4) e M fun e M =>
    some (e, M)).map fun q => (prune [4] q.1, q.2)
noncomputable def f54 (call : CallF) (k : Nat) : St :=
  (bSeq (bReg (f54_r0 call))
  (bSeq (bSeq (bReg (f54_r1 call))
  (bCond (.tmp 9)
   (bSeq (bReg (f54_r2 call))
   (bEx .ret))
   (bEx .nrm)))
  (bSeq (bSeq (bReg (f54_r3 call))
  (bCond (.tmp 14)
   (bSeq (bReg (f54_r4 call))
   (bEx .ret))
   (bEx .nrm)))
  (bSeq (bSeq (bReg (f54_r5 call))
  (bCond (.tmp 19)
   (bSeq (bReg (f54_r6 call))
   (bEx .ret))
   (bEx .nrm)))
  (bSeq (bSeq (bReg (f54_r7 call))
  (bCond (.tmp 24)
   (bSeq (bReg (f54_r8 call))
   (bEx .ret))
   (bEx .nrm)))
  (bSeq (bSeq (bReg (f54_r9 call))
  (bCond (.tmp 29)
   (bSeq (bReg (f54_r10 call))
   (bEx .ret))
   (bEx .nrm)))
  (bSeq (bSeq (bReg (f54_r11 call))
  (bCond (.tmp 34)
   (bSeq (bReg (f54_r12 call))
   (bEx .ret))
   (bEx .nrm)))
  (bSeq (bReg (f54_r13 call))
  (bEx .ret)))))))))
theorem f54_eq (call : CallF) (k : Nat) : exec cx call 35 f54_an k (Try.f54.body.getD .skip) = f54 call k := by kernel_rfl
/-! ### f73: loop.example/g01263/spec.l07Deal -/
def f73_an : Ann := ⟨[(0, ⟨[], [], [], [], [0]⟩), (1, ⟨[], [], [], [], [0, 3]⟩), (2, ⟨[], [], [], [], [0, 3, 4]⟩), (3, ⟨[], [], [], [], [0, 3, 4, 5]⟩), (4, ⟨[], [], [], [], [0, 3, 4, 5, 6]⟩), (5, ⟨[], [], [], [], [0, 3, 4, 5, 6, 32]⟩), (6, ⟨[], [], [], [], [2]⟩), (7, ⟨[], [], [], [], [0, 3, 4, 5, 6, 36]⟩), (8, ⟨[], [], [], [], [0, 3, 4, 5, 6, 36, 37]⟩), (9, ⟨[], [], [], [], [2]⟩), (10, ⟨[], [], [], [], [0, 3, 4, 5, 6, 36, 53]⟩), (11, ⟨[], [], [], [], [2]⟩), (12, ⟨[], [], [], [], [0, 3, 4, 6, 36, 69]⟩), (13, ⟨[], [], [], [], [2]⟩), (14, ⟨[], [], [], [], [0, 3, 4, 89]⟩), (15, ⟨[], [], [], [], [2]⟩), (16, ⟨[], [], [], [], [2]⟩)], []⟩
noncomputable def f73_r0 (call : CallF) : Env → Mem → Option (Env × Mem) := fun e M =>
    (nx (oMv (.bool false)) (some 2) e M fun e M =>
    some (e, M)).map fun q => (prune [0] q.1, q.2)
noncomputable def f73_r1 (call : CallF) : Env → Mem → Option (Env × Mem) := fun e M =>
    (nx (oMv (eget e 0)) (some 7) e M fun e M =>
    nx (keep (aNilCheck (eget e 7) M)) (some 8) e M fun e M =>
    nx (keep (aFieldAddr 2 1 (eget e 8) M)) (some 9) e M fun e M =>
    nx (keep (aLoad false 1 (eget e 9) M)) (some 10) e M fun e M =>
    nx (aCall cx.P.cellsOf cx.rw call false M.length 81 [(eget e 10), (.int .i64 0), (.int .i64 39)] M) (some 11) e M fun e M =>
    nx (oMv (eget e 11)) (some 3) e M fun e M =>
    some (e, M)).map fun q => (prune [0, 3] q.1, q.2)
noncomputable def f73_r2 (call : CallF) : Env → Mem → Option (Env × Mem) := fun e M =>
    (nx (oMv (eget e 0)) (some 12) e M fun e M =>
    nx (keep (aNilCheck (eget e 12) M)) (some 13) e M fun e M =>
    nx (keep (aFieldAddr 3 1 (eget e 13) M)) (some 14) e M fun e M =>
    nx (keep (aLoad false 1 (eget e 14) M)) (some 15) e M fun e M =>
    nx (aCall cx.P.cellsOf cx.rw call false M.length 81 [(eget e 15), (.int .i64 0), (.int .i64 15)] M) (some 16) e M fun e M =>
    nx (oMv (eget e 16)) (some 4) e M fun e M =>
    some (e, M)).map fun q => (prune [0, 3, 4] q.1, q.2)
noncomputable def f73_r3 (call : CallF) : Env → Mem → Option (Env × Mem) := fun e M =>
    (nx (oMv (eget e 0)) (some 17) e M fun e M =>
    nx (keep (aNilCheck (eget e 17) M)) (some 18) e M fun e M =>
    nx (keep (aFieldAddr 4 1 (eget e 18) M)) (some 19) e M fun e M =>
    nx (keep (aLoad false 1 (eget e 19) M)) (some 20) e M fun e M =>
    nx (aCall cx.P.cellsOf cx.rw call false M.length 81 [(eget e 20), (.int .i64 0), (.int .i64 15)] M) (some 21) e M fun e M =>
    nx (oMv (eget e 21)) (some 5) e M fun e M =>
    some (e, M)).map fun q => (prune [0, 3, 4, 5] q.1, q.2)
noncomputable def f73_r4 (call : CallF) : Env → Mem → Option (Env × Mem) := fun e M =>
    (nx (oMv (eget e 0)) (some 22) e M fun e M =>
    nx (keep (aNilCheck (eget e 22) M)) (some 23) e M fun e M =>
    nx (keep (aFieldAddr 5 1 (eget e 23) M)) (some 24) e M fun e M =>
    nx (keep (aLoad false 1 (eget e 24) M)) (some 25) e M fun e M =>
    nx (aCall cx.P.cellsOf cx.rw call false M.length 81 [(eget e 25), (.int .i64 1), (.int .i64 100000000)] M) (some 26) e M fun e M =>
    nx (oMv (eget e 26)) (some 6) e M fun e M =>
    some (e, M)).map fun q => (prune [0, 3, 4, 5, 6] q.1, q.2)
noncomputable def f73_r5 (call : CallF) : Env → Mem → Option (Env × Mem) := fun e M =>
    (nx (oMv (eget e 0)) (some 27) e M fun e M =>
    nx (keep (aNilCheck (eget e 27) M)) (some 28) e M fun e M =>
    nx (keep (aFieldAddr 0 1 (eget e 28) M)) (some 29) e M fun e M =>
    nx (keep (aLoad false 1 (eget e 29) M)) (some 30) e M fun e M =>
    nx (aCall cx.P.cellsOf cx.rw call false M.length 79 [(eget e 30)] M) (some 31) e M fun e M =>
    nx (keep (aUn .not (eget e 31))) (some 32) e M fun e M =>
    some (e, M)).map fun q => (prune [0, 3, 4, 5, 6, 32] q.1, q.2)
noncomputable def f73_r6 (call : CallF) : Env → Mem → Option (Env × Mem) := fun e M =>
    (nx (oMv (.bool false)) (some 2) e M fun e M =>
    some (e, M)).map fun q => (prune [2] q.1, q.2)
noncomputable def f73_r7 (call : CallF) : Env → Mem → Option (Env × Mem) := fun e M =>
    (nx (oMv (eget e 0)) (some 33) e M fun e M =>
    nx (keep (aNilCheck (eget e 33) M)) (some 34) e M fun e M =>
    nx (keep (aFieldAddr 1 1 (eget e 34) M)) (some 35) e M fun e M =>
    nx (keep (aLoad false 1 (eget e 35) M)) (some 36) e M fun e M =>
    some (e, M)).map fun q => (prune [0, 3, 4, 5, 6, 36] q.1, q.2)
noncomputable def f73_r8 (call : CallF) : Env → Mem → Option (Env × Mem) := fun e M =>
    (nx (oBin cx.P .eql 23 (eget e 36) (.int .i8 1) M) (some 38) e M fun e M =>
    nx (oMv (eget e 38)) (some 37) e M fun e M =>
    some (e, M)).map fun q => (prune [0, 3, 4, 5, 6, 36, 37] q.1, q.2)
noncomputable def f73_r9 (call : CallF) : Env → Mem → Option (Env × Mem) := fun e M =>
    (nx (oMv (eget e 0)) (some 39) e M fun e M =>
    nx (keep (aNilCheck (eget e 39) M)) (some 40) e M fun e M =>
    nx (keep (aFieldAddr 2 1 (eget e 40) M)) (some 41) e M fun e M =>
    nx (keep (aLoad false 1 (eget e 41) M)) (some 42) e M fun e M =>
    nx (oBin cx.P .eql 2 (eget e 42) (.int .i64 0) M) (some 43) e M fun e M =>
    nx (oMv (eget e 43)) (some 44) e M fun e M =>
    nx (aGuard (some ((eget e 44), true)) (oMv (eget e 4))) (some 45) e M fun e M =>
    nx (keep (aPick (eget e 44) (eget e 45) (.bool false))) (some 46) e M fun e M =>
    nx (oMv (eget e 46)) (some 47) e M fun e M =>
    nx (aGuard (some ((eget e 47), true)) (oMv (eget e 5))) (some 48) e M fun e M =>
    nx (keep (aPick (eget e 47) (eget e 48) (.bool false))) (some 49) e M fun e M =>
    nx (oMv (eget e 49)) (some 50) e M fun e M =>
    nx (aGuard (some ((eget e 50), true)) (oMv (eget e 6))) (some 51) e M fun e M =>
    nx (keep (aPick (eget e 50) (eget e 51) (.bool false))) (some 52) e M fun e M =>
    nx (oMv (eget e 52)) (some 2) e M fun e M =>
    some (e, M)).map fun q => (prune [2] q.1, q.2)
noncomputable def f73_r10 (call : CallF) : Env → Mem → Option (Env × Mem) := fun e M =>
    (nx (oBin cx.P .eql 23 (eget e 36) (.int .i8 2) M) (some 54) e M fun e M =>
    nx (oMv (eget e 54)) (some 53) e M fun e M =>
    some (e, M)).map fun q => (prune [0, 3, 4, 5, 6, 36, 53] q.1, q.2)
noncomputable def f73_r11 (call : CallF) : Env → Mem → Option (Env × Mem) := fun e M =>
    (nx (oMv (eget e 3)) (some 55) e M fun e M =>
    nx (oMv (eget e 55)) (some 56) e M fun e M =>
    nx (aGuard (some ((eget e 56), true)) (oMv (eget e 4))) (some 57) e M fun e M =>
    nx (keep (aPick (eget e 56) (eget e 57) (.bool false))) (some 58) e M fun e M =>
    nx (oMv (eget e 58)) (some 59) e M fun e M =>
    nx (aGuard (some ((eget e 59), true)) (oMv (eget e 5))) (some 60) e M fun e M =>
    nx (keep (aPick (eget e 59) (eget e 60) (.bool false))) (some 61) e M fun e M =>
    nx (oMv (eget e 61)) (some 62) e M fun e M =>
    nx (aGuard (some ((eget e 62), true)) (oMv (eget e 0))) (some 63) e M fun e M =>
    nx (aGuard (some ((eget e 62), true)) (keep (aNilCheck (eget e 63) M))) (some 64) e M fun e M =>
    nx (aGuard (some ((eget e 62), true)) (keep (aFieldAddr 5 1 (eget e 64) M))) (some 65) e M fun e M =>
    nx (aGuard (some ((eget e 62), true)) (keep (aLoad false 1 (eget e 65) M))) (some 66) e M fun e M =>
    nx (aGuard (some ((eget e 62), true)) (oBin cx.P .eql 2 (eget e 66) (.int .i64 0) M)) (some 67) e M fun e M =>
    nx (keep (aPick (eget e 62) (eget e 67) (.bool false))) (some 68) e M fun e M =>
    nx (oMv (eget e 68)) (some 2) e M fun e M =>
    some (e, M)).map fun q => (prune [2] q.1, q.2)
noncomputable def f73_r12 (call : CallF) : Env → Mem → Option (Env × Mem) := fun e M =>
    (nx (oBin cx.P .eql 23 (eget e 36) (.int .i8 3) M) (some 70) e M fun e M =>
    nx (oMv (eget e 70)) (some 69) e M fun e M =>
    some (e, M)).map fun q => (prune [0, 3, 4, 6, 36, 69] q.1, q.2)
noncomputable def f73_r13 (call : CallF) : Env → Mem → Option (Env × Mem) := fun e M =>
    (nx (oMv (eget e 3)) (some 71) e M fun e M =>
    nx (oMv (eget e 71)) (some 72) e M fun e M =>
    nx (aGuard (some ((eget e 72), true)) (oMv (eget e 0))) (some 73) e M fun e M =>
    nx (aGuard (some ((eget e 72), true)) (keep (aNilCheck (eget e 73) M))) (some 74) e M fun e M =>
    nx (aGuard (some ((eget e 72), true)) (keep (aFieldAddr 3 1 (eget e 74) M))) (some 75) e M fun e M =>
    nx (aGuard (some ((eget e 72), true)) (keep (aLoad false 1 (eget e 75) M))) (some 76) e M fun e M =>
    nx (aGuard (some ((eget e 72), true)) (oBin cx.P .eql 2 (eget e 76) (.int .i64 0) M)) (some 77) e M fun e M =>
    nx (keep (aPick (eget e 72) (eget e 77) (.bool false))) (some 78) e M fun e M =>
    nx (oMv (eget e 78)) (some 79) e M fun e M =>
    nx (aGuard (some ((eget e 79), true)) (oMv (eget e 0))) (some 80) e M fun e M =>
    nx (aGuard (some ((eget e 79), true)) (keep (aNilCheck (eget e 80) M))) (some 81) e M fun e M =>
    nx (aGuard (some ((eget e 79), true)) (keep (aFieldAddr 4 1 (eget e 81) M))) (some 82) e M fun e M =>
    nx (aGuard (some ((eget e 79), true)) (keep (aLoad false 1 (eget e 82) M))) (some 83) e M fun e M =>
    nx (aGuard (some ((eget e 79), true)) (oBin cx.P .eql 2 (eget e 83) (.int .i64 0) M)) (some 84) e M fun e M =>
    nx (keep (aPick (eget e 79) (eget e 84) (.bool false))) (some 85) e M fun e M =>
    nx (oMv (eget e 85)) (some 86) e M fun e M =>
    nx (aGuard (some ((eget e 86), true)) (oMv (eget e 6))) (some 87) e M fun e M =>
    nx (keep (aPick (eget e 86) (eget e 87) (.bool false))) (some 88) e M fun e M =>
    nx (oMv (eget e 88)) (some 2) e M fun e M =>
    some (e, M)).map fun q => (prune [2] q.1, q.2)
noncomputable def f73_r14 (call : CallF) : Env → Mem → Option (Env × Mem) := fun e M =>
    (nx (oBin cx.P .eql 23 (eget e 36) (.int .i8 4) M) (some 90) e M fun e M =>
    nx (oMv (eget e 90)) (some 89) e M fun e M =>
    some (e, M)).map fun q => (prune [0, 3, 4, 89] q.1, q.2)
noncomputable def f73_r15 (call : CallF) : Env → Mem → Option (Env × Mem) := fun e M =>
    (nx (oMv (eget e 3)) (some 91) e M fun e M =>
    nx (oMv (eget e 91)) (some 92) e M fun e M =>
    nx (aGuard (some ((eget e 92), true)) (oMv (eget e 4))) (some 93) e M fun e M =>
    nx (keep (aPick (eget e 92) (eget e 93) (.bool false))) (some 94) e M fun e M =>
    nx (oMv (eget e 94)) (some 95) e M fun e M =>
    nx (aGuard (some ((eget e 95), true)) (oMv (eget e 0))) (some 96) e M fun e M =>
    nx (aGuard (some ((eget e 95), true)) (keep (aNilCheck (eget e 96) M))) (some 97) e M fun e M =>
    nx (aGuard (some ((eget e 95), true)) (keep (aFieldAddr 4 1 (eget e 97) M))) (some 98) e M fun e M =>
    nx (aGuard (some ((eget e 95), true)) (keep (aLoad false 1 (eget e 98) M))) (some 99) e M fun e M =>
    nx (aGuard (some ((eget e 95), true)) (oBin cx.P .eql 2 (eget e 99) (.int .i64 0) M)) (some 100) e M fun e M =>
    nx (keep (aPick (eget e 95) (eget e 100) (.bool false))) (some 101) e M fun e M =>
    nx (oMv (eget e 101)) (some 102) e M fun e M =>
    nx (aGuard (some ((eget e 102), true)) (oMv (eget e 0))) (some 103) e M fun e M =>
    nx (aGuard (some ((eget e 102), true)) (keep (aNilCheck (eget e 103) M))) (some 104) e M fun e M =>
    nx (aGuard (some ((eget e 102), true)) (keep (aFieldAddr 5 1 (eget e 104) M))) (some 105) e M fun e M =>
    nx (aGuard (some ((eget e 102), true)) (keep (aLoad false 1 (eget e 105) M))) (some 106) e M fun e M =>
    nx (aGuard (some ((eget e 102), true)) (oBin cx.P .eql 2 (eget e 106) (.int .i64 0) M)) (some 107) e M fun e M =>
    nx (keep (aPick (eget e 102) (eget e 107) (.bool false))) (some 108) e M fun e M =>
    nx (oMv (eget e 108)) (some 2) e M fun e M =>
    some (e, M)).map fun q => (prune [2] q.1, q.2)
noncomputable def f73_r16 (call : CallF) : Env → Mem → Option (Env × Mem) := fun e M =>
    (nx (oMv (.bool false)) (some 2) e M fun e M =>
    some (e, M)).map fun q => (prune [2] q.1, q.2)
noncomputable def f73 (call : CallF) (k : Nat) : St :=
  (bSeq (bReg (f73_r0 call))
  (bSeq (bReg (f73_r1 call))
  (bSeq (bReg (f73_r2 call))
  (bSeq (bReg (f73_r3 call))
  (bSeq (bReg (f73_r4 call))
  (bSeq (bSeq (bReg (f73_r5 call))
  (bCond (.tmp 32)
   (bSeq (bReg (f73_r6 call))
   (bEx .ret))
   (bEx .nrm)))
  (bSeq (bSeq (bReg (f73_r7 call))
  (bBlock 0 (bSeq (bReg (f73_r8 call))
   (bCond (.tmp 37)
    (bSeq (bReg (f73_r9 call))
    (bEx .ret))
    (bSeq (bReg (f73_r10 call))
    (bCond (.tmp 53)
     (bSeq (bReg (f73_r11 call))
     (bEx .ret))
     (bSeq (bReg (f73_r12 call))
     (bCond (.tmp 69)
      (bSeq (bReg (f73_r13 call))
      (bEx .ret))
      (bSeq (bReg (f73_r14 call))
      (bCond (.tmp 89)
       (bSeq (bReg (f73_r15 call))
       (bEx .ret))
       (bEx .nrm)))))))))))
  (bSeq (bReg (f73_r16 call))
  (bEx .ret)))))))))
theorem f73_eq (call : CallF) (k : Nat) : exec cx call 109 f73_an k (Try.f73.body.getD .skip) = f73 call k := by kernel_rfl
/-! ### f74: loop.example/g01263/impl.ValidDeal -/
def f74_an : Ann := ⟨[(0, ⟨[], [], [], [], [1]⟩), (1, ⟨[], [], [], [], [1, 21]⟩), (2, ⟨[], [], [], [], [2]⟩), (3, ⟨[], [], [], [], [1, 3]⟩), (4, ⟨[], [], [], [], [1, 3, 4, 5, 6, 7]⟩), (5, ⟨[], [], [], [], [2]⟩)], []⟩
noncomputable def f74_r0 (call : CallF) : Env → Mem → Option (Env × Mem) := fun e M =>
    (nx (keep (aBox 6 (eget e 0) M)) (some 1) e M fun e M =>
    nx (oMv (.bool false)) (some 2) e M fun e M =>
    some (e, M)).map fun q => (prune [1] q.1, q.2)
noncomputable def f74_r1 (call : CallF) : Env → Mem → Option (Env × Mem) := fun e M =>
    (nx (keep (aFieldAddr 1 1 (eget e 1) M)) (some 8) e M fun e M =>
    nx (keep (aLoad false 1 (eget e 8) M)) (some 9) e M fun e M =>
    nx (oBin cx.P .lss 23 (eget e 9) (.int .i8 1) M) (some 10) e M fun e M =>
    nx (oMv (eget e 10)) (some 11) e M fun e M =>
    nx (aGuard (some ((eget e 11), false)) (keep (aFieldAddr 1 1 (eget e 1) M))) (some 12) e M fun e M =>
    nx (aGuard (some ((eget e 11), false)) (keep (aLoad false 1 (eget e 12) M))) (some 13) e M fun e M =>
    nx (aGuard (some ((eget e 11), false)) (oBin cx.P .gtr 23 (eget e 13) (.int .i8 4) M)) (some 14) e M fun e M =>
    nx (keep (aPick (eget e 11) (.bool true) (eget e 14))) (some 15) e M fun e M =>
    nx (oMv (eget e 15)) (some 16) e M fun e M =>
    nx (aGuard (some ((eget e 16), false)) (keep (aFieldAddr 0 1 (eget e 1) M))) (some 17) e M fun e M =>
    nx (aGuard (some ((eget e 16), false)) (keep (aLoad false 1 (eget e 17) M))) (some 18) e M fun e M =>
    nx (aGuard (some ((eget e 16), false)) (aCall cx.P.cellsOf cx.rw call false M.length 82 [(eget e 18)] M)) (some 19) e M fun e M =>
    nx (aGuard (some ((eget e 16), false)) (keep (aUn .not (eget e 19)))) (some 20) e M fun e M =>
    nx (keep (aPick (eget e 16) (.bool true) (eget e 20))) (some 21) e M fun e M =>
    some (e, M)).map fun q => (prune [1, 21] q.1, q.2)
noncomputable def f74_r2 (call : CallF) : Env → Mem → Option (Env × Mem) := fun e M =>
    (nx (oMv (.bool false)) (some 2) e M fun e M =>
    some (e, M)).map fun q => (prune [2] q.1, q.2)
noncomputable def f74_r3 (call : CallF) : Env → Mem → Option (Env × Mem) := fun e M =>
    (nx (oMv (.fn 84 [])) (some 3) e M fun e M =>
    some (e, M)).map fun q => (prune [1, 3] q.1, q.2)
noncomputable def f74_r4 (call : CallF) : Env → Mem → Option (Env × Mem) := fun e M =>
    (nx (keep (aFieldAddr 1 1 (eget e 1) M)) (some 23) e M fun e M =>
    nx (keep (aLoad false 1 (eget e 23) M)) (some 24) e M fun e M =>
    nx (aCall cx.P.cellsOf cx.rw call false M.length 85 [(eget e 24)] M) (some 25) e M fun e M =>
    nx (oMv (eget e 25)) (some 22) e M fun e M =>
    nx (keep (aExtract 0 (eget e 22))) (some 26) e M fun e M =>
    nx (keep (aExtract 1 (eget e 22))) (some 27) e M fun e M =>
    nx (keep (aExtract 2 (eget e 22))) (some 28) e M fun e M =>
    nx (keep (aExtract 3 (eget e 22))) (some 29) e M fun e M =>
    nx (oMv (eget e 26)) (some 4) e M fun e M =>
    nx (oMv (eget e 27)) (some 5) e M fun e M =>
    nx (oMv (eget e 28)) (some 6) e M fun e M =>
    nx (oMv (eget e 29)) (some 7) e M fun e M =>
    some (e, M)).map fun q => (prune [1, 3, 4, 5, 6, 7] q.1, q.2)
noncomputable def f74_r5 (call : CallF) : Env → Mem → Option (Env × Mem) := fun e M =>
    (nx (oMv (eget e 3)) (some 30) e M fun e M =>
    nx (oMv (eget e 4)) (some 31) e M fun e M =>
    nx (keep (aFieldAddr 2 1 (eget e 1) M)) (some 32) e M fun e M =>
    nx (keep (aLoad false 1 (eget e 32) M)) (some 33) e M fun e M =>
    nx (oCall cx call false M.length (eget e 30) [(eget e 31), (eget e 33), (.int .i64 0), (.int .i64 39)] M) (some 34) e M fun e M =>
    nx (oMv (eget e 34)) (some 35) e M fun e M =>
    nx (aGuard (some ((eget e 35), true)) (oMv (eget e 3))) (some 36) e M fun e M =>
    nx (aGuard (some ((eget e 35), true)) (oMv (eget e 5))) (some 37) e M fun e M =>
    nx (aGuard (some ((eget e 35), true)) (keep (aFieldAddr 3 1 (eget e 1) M))) (some 38) e M fun e M =>
    nx (aGuard (some ((eget e 35), true)) (keep (aLoad false 1 (eget e 38) M))) (some 39) e M fun e M =>
    nx (aGuard (some ((eget e 35), true)) (oCall cx call false M.length (eget e 36) [(eget e 37), (eget e 39), (.int .i64 0), (.int .i64 15)] M)) (some 40) e M fun e M =>
    nx (keep (aPick (eget e 35) (eget e 40) (.bool false))) (some 41) e M fun e M =>
    nx (oMv (eget e 41)) (some 42) e M fun e M =>
    nx (aGuard (some ((eget e 42), true)) (oMv (eget e 3))) (some 43) e M fun e M =>
    nx (aGuard (some ((eget e 42), true)) (oMv (eget e 6))) (some 44) e M fun e M =>
    nx (aGuard (some ((eget e 42), true)) (keep (aFieldAddr 4 1 (eget e 1) M))) (some 45) e M fun e M =>
    nx (aGuard (some ((eget e 42), true)) (keep (aLoad false 1 (eget e 45) M))) (some 46) e M fun e M =>
    nx (aGuard (some ((eget e 42), true)) (oCall cx call false M.length (eget e 43) [(eget e 44), (eget e 46), (.int .i64 0), (.int .i64 15)] M)) (some 47) e M fun e M =>
    nx (keep (aPick (eget e 42) (eget e 47) (.bool false))) (some 48) e M fun e M =>
    nx (oMv (eget e 48)) (some 49) e M fun e M =>
    nx (aGuard (some ((eget e 49), true)) (oMv (eget e 3))) (some 50) e M fun e M =>
    nx (aGuard (some ((eget e 49), true)) (oMv (eget e 7))) (some 51) e M fun e M =>
    nx (aGuard (some ((eget e 49), true)) (keep (aFieldAddr 5 1 (eget e 1) M))) (some 52) e M fun e M =>
    nx (aGuard (some ((eget e 49), true)) (keep (aLoad false 1 (eget e 52) M))) (some 53) e M fun e M =>
    nx (aGuard (some ((eget e 49), true)) (oCall cx call false M.length (eget e 50) [(eget e 51), (eget e 53), (.int .i64 1), (.int .i64 100000000)] M)) (some 54) e M fun e M =>
    nx (keep (aPick (eget e 49) (eget e 54) (.bool false))) (some 55) e M fun e M =>
    nx (oMv (eget e 55)) (some 2) e M fun e M =>
    some (e, M)).map fun q => (prune [2] q.1, q.2)
noncomputable def f74 (call : CallF) (k : Nat) : St :=
  (bSeq (bReg (f74_r0 call))
  (bSeq (bSeq (bReg (f74_r1 call))
  (bCond (.tmp 21)
   (bSeq (bReg (f74_r2 call))
   (bEx .ret))
   (bEx .nrm)))
  (bSeq (bReg (f74_r3 call))
  (bSeq (bReg (f74_r4 call))
  (bSeq (bReg (f74_r5 call))
  (bEx .ret))))))
theorem f74_eq (call : CallF) (k : Nat) : exec cx call 56 f74_an k (Try.f74.body.getD .skip) = f74 call k := by kernel_rfl
/-! ### f75: slices.IsSortedFunc[[]loop.example/g01263/impl.Deal,loop.example/g01263/impl.Deal] -/
def f75_an : Ann := ⟨[(0, ⟨[], [], [], [], [0, 1]⟩), (1, ⟨[], [], [], [], [0, 1, 5]⟩), (2, ⟨[], [], [], [], [0, 1, 5, 10]⟩), (3, ⟨[], [], [], [], [0, 1, 5]⟩), (4, ⟨[], [], [], [], [0, 1, 5, 24]⟩), (5, ⟨[], [], [], [], [4]⟩), (6, ⟨[], [], [], [], [4]⟩)], [(2, [0, 1, 5])]⟩
noncomputable def f75_r0 (call : CallF) : Env → Mem → Option (Env × Mem) := fun e M =>
    (nx (oMv (.bool false)) (some 4) e M fun e M =>
    some (e, M)).map fun q => (prune [0, 1] q.1, q.2)
noncomputable def f75_r1 (call : CallF) : Env → Mem → Option (Env × Mem) := fun e M =>
    (nx (oMv (eget e 0)) (some 6) e M fun e M =>
    nx (oLen cx.P 56 (eget e 6) M) (some 7) e M fun e M =>
    nx (oBin cx.P .sub 3 (eget e 7) (.int .i64 1) M) (some 8) e M fun e M =>
    nx (oMv (eget e 8)) (some 5) e M fun e M =>
    some (e, M)).map fun q => (prune [0, 1, 5] q.1, q.2)
noncomputable def f75_r2 (call : CallF) : Env → Mem → Option (Env × Mem) := fun e M =>
    (nx (oMv (eget e 5)) (some 9) e M fun e M =>
    nx (oBin cx.P .gtr 3 (eget e 9) (.int .i64 0) M) (some 10) e M fun e M =>
    some (e, M)).map fun q => (prune [0, 1, 5, 10] q.1, q.2)
noncomputable def f75_r3 (call : CallF) : Env → Mem → Option (Env × Mem) := fun e M =>
    (nx (oMv (eget e 5)) (some 11) e M fun e M =>
    nx (oBin cx.P .sub 3 (eget e 11) (.int .i64 1) M) (some 12) e M fun e M =>
    nx (oMv (eget e 12)) (some 5) e M fun e M =>
    some (e, M)).map fun q => (prune [0, 1, 5] q.1, q.2)
noncomputable def f75_r4 (call : CallF) : Env → Mem → Option (Env × Mem) := fun e M =>
    rD [0, 1, 5, 24] (fun (C : List Ob) =>
    nf (oMv (eget e 1)) (some 13) false e C fun e C =>
    nf (oMv (eget e 0)) (some 14) false e C fun e C =>
    nf (oMv (eget e 5)) (some 15) false e C fun e C =>
    nf (keep (aIndexS 6 (eget e 14) (eget e 15) M)) (some 16) false e C fun e C =>
    nf (keep (aLoad true 6 (eget e 16) M)) (some 17) false e C fun e C =>
    nf (oMv (eget e 0)) (some 18) false e C fun e C =>
    nf (oMv (eget e 5)) (some 19) false e C fun e C =>
    nf (oBin cx.P .sub 3 (eget e 19) (.int .i64 1) M) (some 20) false e C fun e C =>
    nf (keep (aIndexS 6 (eget e 18) (eget e 20) M)) (some 21) false e C fun e C =>
    nf (keep (aLoad true 6 (eget e 21) M)) (some 22) false e C fun e C =>
    nf (oCall cx call false (M.length + C.length) (eget e 13) [(eget e 17), (eget e 22)] M) (some 23) false e C fun e C =>
    nf (oBin cx.P .lss 3 (eget e 23) (.int .i64 0) M) (some 24) false e C fun e C =>
    some (e, C)) (fun (e : Env) (M : Mem) =>
    some (e, M)) M
noncomputable def f75_r5 (call : CallF) : Env → Mem → Option (Env × Mem) := fun e M =>
    (nx (oMv (.bool false)) (some 4) e M fun e M =>
    some (e, M)).map fun q => (prune [4] q.1, q.2)
noncomputable def f75_r6 (call : CallF) : Env → Mem → Option (Env × Mem) := fun e M =>
    (nx (oMv (.bool true)) (some 4) e M fun e M =>
    some (e, M)).map fun q => (prune [4] q.1, q.2)
noncomputable def f75_l2 (call : CallF) (k : Nat) : St :=
  (bSeq (bSeq (bReg (f75_r2 call))
  (bCond (.tmp 10)
   (bEx .nrm)
   (bEx (.ext 0))))
  (bSeq (bBlock 1 (bSeq (bReg (f75_r4 call))
   (bCond (.tmp 24)
    (bSeq (bReg (f75_r5 call))
    (bEx .ret))
    (bEx .nrm))))
  (bReg (f75_r3 call))))
noncomputable def f75 (call : CallF) (k : Nat) : St :=
  (bSeq (bReg (f75_r0 call))
  (bSeq (bSeq (bReg (f75_r1 call))
  (bBlock 0 (bLoop [0, 1, 5] (f75_l2 call k) k)))
  (bSeq (bReg (f75_r6 call))
  (bEx .ret))))
theorem f75_eq (call : CallF) (k : Nat) : exec cx call 25 f75_an k (Try.f75.body.getD .skip) = f75 call k := by kernel_rfl
/-! ### f76: loop.example/g01263/impl.inOrder$1 -/
def f76_an : Ann := ⟨[(0, ⟨[], [], [], [], [2, 3]⟩), (1, ⟨[], [], [], [], [4]⟩)], []⟩
noncomputable def f76_r0 (call : CallF) : Env → Mem → Option (Env × Mem) := fun e M =>
    (nx (keep (aBox 6 (eget e 0) M)) (some 2) e M fun e M =>
    nx (keep (aBox 6 (eget e 1) M)) (some 3) e M fun e M =>
    nx (oMv (.int .i64 0)) (some 4) e M fun e M =>
    some (e, M)).map fun q => (prune [2, 3] q.1, q.2)
noncomputable def f76_r1 (call : CallF) : Env → Mem → Option (Env × Mem) := fun e M =>
    (nx (keep (aFieldAddr 0 1 (eget e 2) M)) (some 5) e M fun e M =>
    nx (keep (aLoad false 1 (eget e 5) M)) (some 6) e M fun e M =>
    nx (keep (aFieldAddr 0 1 (eget e 3) M)) (some 7) e M fun e M =>
    nx (keep (aLoad false 1 (eget e 7) M)) (some 8) e M fun e M =>
    nx (oBin cx.P .sub 2 (eget e 6) (eget e 8) M) (some 9) e M fun e M =>
    nx (oMv (eget e 9)) (some 4) e M fun e M =>
    some (e, M)).map fun q => (prune [4] q.1, q.2)
noncomputable def f76 (call : CallF) (k : Nat) : St :=
  (bSeq (bReg (f76_r0 call))
  (bSeq (bReg (f76_r1 call))
  (bEx .ret)))
theorem f76_eq (call : CallF) (k : Nat) : exec cx call 10 f76_an k (Try.f76.body.getD .skip) = f76 call k := by kernel_rfl
/-! ### f79: loop.example/g01263/spec.l07Day -/
def f79_an : Ann := ⟨[(0, ⟨[], [], [], [], [0]⟩), (1, ⟨[], [], [], [], [2]⟩)], []⟩
noncomputable def f79_r0 (call : CallF) : Env → Mem → Option (Env × Mem) := fun e M =>
    (nx (oMv (.bool false)) (some 2) e M fun e M =>
    some (e, M)).map fun q => (prune [0] q.1, q.2)
noncomputable def f79_r1 (call : CallF) : Env → Mem → Option (Env × Mem) := fun e M =>
    (nx (oMv (eget e 0)) (some 3) e M fun e M =>
    nx (aCall cx.P.cellsOf cx.rw call false M.length 81 [(eget e 3), (.int .i64 0), (.int .i64 100000)] M) (some 4) e M fun e M =>
    nx (oMv (eget e 4)) (some 2) e M fun e M =>
    some (e, M)).map fun q => (prune [2] q.1, q.2)
noncomputable def f79 (call : CallF) (k : Nat) : St :=
  (bSeq (bReg (f79_r0 call))
  (bSeq (bReg (f79_r1 call))
  (bEx .ret)))
theorem f79_eq (call : CallF) (k : Nat) : exec cx call 5 f79_an k (Try.f79.body.getD .skip) = f79 call k := by kernel_rfl
/-! ### f81: loop.example/g01263/spec.l00In -/
def f81_an : Ann := ⟨[(0, ⟨[], [], [], [], [0, 1, 2]⟩), (1, ⟨[], [], [], [], [6]⟩)], []⟩
noncomputable def f81_r0 (call : CallF) : Env → Mem → Option (Env × Mem) := fun e M =>
    (nx (oMv (.bool false)) (some 6) e M fun e M =>
    some (e, M)).map fun q => (prune [0, 1, 2] q.1, q.2)
noncomputable def f81_r1 (call : CallF) : Env → Mem → Option (Env × Mem) := fun e M =>
    (nx (oMv (eget e 0)) (some 7) e M fun e M =>
    nx (oMv (eget e 1)) (some 8) e M fun e M =>
    nx (oBin cx.P .geq 2 (eget e 7) (eget e 8) M) (some 9) e M fun e M =>
    nx (oMv (eget e 9)) (some 10) e M fun e M =>
    nx (aGuard (some ((eget e 10), true)) (oMv (eget e 0))) (some 11) e M fun e M =>
    nx (aGuard (some ((eget e 10), true)) (oMv (eget e 2))) (some 12) e M fun e M =>
    nx (aGuard (some ((eget e 10), true)) (oBin cx.P .leq 2 (eget e 11) (eget e 12) M)) (some 13) e M fun e M =>
    nx (keep (aPick (eget e 10) (eget e 13) (.bool false))) (some 14) e M fun e M =>
    nx (oMv (eget e 14)) (some 6) e M fun e M =>
    some (e, M)).map fun q => (prune [6] q.1, q.2)
noncomputable def f81 (call : CallF) (k : Nat) : St :=
  (bSeq (bReg (f81_r0 call))
  (bSeq (bReg (f81_r1 call))
  (bEx .ret)))
theorem f81_eq (call : CallF) (k : Nat) : exec cx call 15 f81_an k (Try.f81.body.getD .skip) = f81 call k := by kernel_rfl
/-! ### f82: loop.example/g01263/impl.isBookDay -/
def f82_an : Ann := ⟨[(0, ⟨[], [], [], [], [0]⟩), (1, ⟨[], [], [], [], [2]⟩)], []⟩
noncomputable def f82_r0 (call : CallF) : Env → Mem → Option (Env × Mem) := fun e M =>
    (nx (oMv (.bool false)) (some 2) e M fun e M =>
    some (e, M)).map fun q => (prune [0] q.1, q.2)
noncomputable def f82_r1 (call : CallF) : Env → Mem → Option (Env × Mem) := fun e M =>
    (nx (oMv (eget e 0)) (some 3) e M fun e M =>
    nx (oBin cx.P .geq 2 (eget e 3) (.int .i64 0) M) (some 4) e M fun e M =>
    nx (oMv (eget e 4)) (some 5) e M fun e M =>
    nx (aGuard (some ((eget e 5), true)) (oMv (eget e 0))) (some 6) e M fun e M =>
    nx (aGuard (some ((eget e 5), true)) (oBin cx.P .leq 2 (eget e 6) (.int .i64 100000) M)) (some 7) e M fun e M =>
    nx (keep (aPick (eget e 5) (eget e 7) (.bool false))) (some 8) e M fun e M =>
    nx (oMv (eget e 8)) (some 2) e M fun e M =>
    some (e, M)).map fun q => (prune [2] q.1, q.2)
noncomputable def f82 (call : CallF) (k : Nat) : St :=
  (bSeq (bReg (f82_r0 call))
  (bSeq (bReg (f82_r1 call))
  (bEx .ret)))
theorem f82_eq (call : CallF) (k : Nat) : exec cx call 9 f82_an k (Try.f82.body.getD .skip) = f82 call k := by kernel_rfl
/-! ### f84: loop.example/g01263/impl.ValidDeal$1 -/
def f84_an : Ann := ⟨[(0, ⟨[], [], [], [], [0, 1, 2, 3]⟩), (1, ⟨[], [], [], [], [8]⟩)], []⟩
noncomputable def f84_r0 (call : CallF) : Env → Mem → Option (Env × Mem) := fun e M =>
    (nx (oMv (.bool false)) (some 8) e M fun e M =>
    some (e, M)).map fun q => (prune [0, 1, 2, 3] q.1, q.2)
noncomputable def f84_r1 (call : CallF) : Env → Mem → Option (Env × Mem) := fun e M =>
    (nx (oMv (eget e 0)) (some 9) e M fun e M =>
    nx (oMv (eget e 9)) (some 10) e M fun e M =>
    nx (aGuard (some ((eget e 10), true)) (oMv (eget e 1))) (some 11) e M fun e M =>
    nx (aGuard (some ((eget e 10), true)) (oMv (eget e 2))) (some 12) e M fun e M =>
    nx (aGuard (some ((eget e 10), true)) (oBin cx.P .geq 2 (eget e 11) (eget e 12) M)) (some 13) e M fun e M =>
    nx (keep (aPick (eget e 10) (eget e 13) (.bool false))) (some 14) e M fun e M =>
    nx (oMv (eget e 14)) (some 15) e M fun e M =>
    nx (aGuard (some ((eget e 15), true)) (oMv (eget e 1))) (some 16) e M fun e M =>
    nx (aGuard (some ((eget e 15), true)) (oMv (eget e 3))) (some 17) e M fun e M =>
    nx (aGuard (some ((eget e 15), true)) (oBin cx.P .leq 2 (eget e 16) (eget e 17) M)) (some 18) e M fun e M =>
    nx (keep (aPick (eget e 15) (eget e 18) (.bool false))) (some 19) e M fun e M =>
    nx (oMv (eget e 19)) (some 20) e M fun e M =>
    nx (aGuard (some ((eget e 20), false)) (oMv (eget e 0))) (some 21) e M fun e M =>
    nx (aGuard (some ((eget e 20), false)) (keep (aUn .not (eget e 21)))) (some 22) e M fun e M =>
    nx (aGuard (some ((eget e 20), false)) (oMv (eget e 22))) (some 23) e M fun e M =>
    nx (aGuard (some ((eget e 23), true)) (oMv (eget e 1))) (some 24) e M fun e M =>
    nx (aGuard (some ((eget e 23), true)) (oBin cx.P .eql 2 (eget e 24) (.int .i64 0) M)) (some 25) e M fun e M =>
    nx (aGuard (some ((eget e 20), false)) (keep (aPick (eget e 23) (eget e 25) (.bool false)))) (some 26) e M fun e M =>
    nx (keep (aPick (eget e 20) (.bool true) (eget e 26))) (some 27) e M fun e M =>
    nx (oMv (eget e 27)) (some 8) e M fun e M =>
    some (e, M)).map fun q => (prune [8] q.1, q.2)
noncomputable def f84 (call : CallF) (k : Nat) : St :=
  (bSeq (bReg (f84_r0 call))
  (bSeq (bReg (f84_r1 call))
  (bEx .ret)))
theorem f84_eq (call : CallF) (k : Nat) : exec cx call 28 f84_an k (Try.f84.body.getD .skip) = f84 call k := by kernel_rfl
/-! ### f85: loop.example/g01263/impl.uses -/
def f85_an : Ann := ⟨[(0, ⟨[], [], [], [], [0]⟩), (1, ⟨[], [], [], [], [6]⟩), (2, ⟨[], [], [], [], [6, 7]⟩), (3, ⟨[], [], [], [], [2, 3, 4, 5]⟩), (4, ⟨[], [], [], [], [6, 9]⟩), (5, ⟨[], [], [], [], [2, 3, 4, 5]⟩), (6, ⟨[], [], [], [], [11]⟩), (7, ⟨[], [], [], [], [2, 3, 4, 5]⟩), (8, ⟨[], [], [], [], [2, 3, 4, 5]⟩)], []⟩
noncomputable def f85_r0 (call : CallF) : Env → Mem → Option (Env × Mem) := fun e M =>
    (nx (oMv (.bool false)) (some 2) e M fun e M =>
    nx (oMv (.bool false)) (some 3) e M fun e M =>
    nx (oMv (.bool false)) (some 4) e M fun e M =>
    nx (oMv (.bool false)) (some 5) e M fun e M =>
    some (e, M)).map fun q => (prune [0] q.1, q.2)
noncomputable def f85_r1 (call : CallF) : Env → Mem → Option (Env × Mem) := fun e M =>
    (nx (oMv (eget e 0)) (some 6) e M fun e M =>
    some (e, M)).map fun q => (prune [6] q.1, q.2)
noncomputable def f85_r2 (call : CallF) : Env → Mem → Option (Env × Mem) := fun e M =>
    (nx (oBin cx.P .eql 23 (eget e 6) (.int .i8 1) M) (some 8) e M fun e M =>
    nx (oMv (eget e 8)) (some 7) e M fun e M =>
    some (e, M)).map fun q => (prune [6, 7] q.1, q.2)
noncomputable def f85_r3 (call : CallF) : Env → Mem → Option (Env × Mem) := fun e M =>
    (nx (oMv (.bool false)) (some 2) e M fun e M =>
    nx (oMv (.bool true)) (some 3) e M fun e M =>
    nx (oMv (.bool true)) (some 4) e M fun e M =>
    nx (oMv (.bool true)) (some 5) e M fun e M =>
    some (e, M)).map fun q => (prune [2, 3, 4, 5] q.1, q.2)
noncomputable def f85_r4 (call : CallF) : Env → Mem → Option (Env × Mem) := fun e M =>
    (nx (oBin cx.P .eql 23 (eget e 6) (.int .i8 2) M) (some 10) e M fun e M =>
    nx (oMv (eget e 10)) (some 9) e M fun e M =>
    some (e, M)).map fun q => (prune [6, 9] q.1, q.2)
noncomputable def f85_r5 (call : CallF) : Env → Mem → Option (Env × Mem) := fun e M =>
    (nx (oMv (.bool true)) (some 2) e M fun e M =>
    nx (oMv (.bool true)) (some 3) e M fun e M =>
    nx (oMv (.bool true)) (some 4) e M fun e M =>
    nx (oMv (.bool false)) (some 5) e M fun e M =>
    some (e, M)).map fun q => (prune [2, 3, 4, 5] q.1, q.2)
noncomputable def f85_r6 (call : CallF) : Env → Mem → Option (Env × Mem) := fun e M =>
    (nx (oBin cx.P .eql 23 (eget e 6) (.int .i8 3) M) (some 12) e M fun e M =>
    nx (oMv (eget e 12)) (some 11) e M fun e M =>
    some (e, M)).map fun q => (prune [11] q.1, q.2)
noncomputable def f85_r7 (call : CallF) : Env → Mem → Option (Env × Mem) := fun e M =>
    (nx (oMv (.bool true)) (some 2) e M fun e M =>
    nx (oMv (.bool false)) (some 3) e M fun e M =>
    nx (oMv (.bool false)) (some 4) e M fun e M =>
    nx (oMv (.bool true)) (some 5) e M fun e M =>
    some (e, M)).map fun q => (prune [2, 3, 4, 5] q.1, q.2)
noncomputable def f85_r8 (call : CallF) : Env → Mem → Option (Env × Mem) := fun e M =>
    (nx (oMv (.bool true)) (some 2) e M fun e M =>
    nx (oMv (.bool true)) (some 3) e M fun e M =>
    nx (oMv (.bool false)) (some 4) e M fun e M =>
    nx (oMv (.bool false)) (some 5) e M fun e M =>
    some (e, M)).map fun q => (prune [2, 3, 4, 5] q.1, q.2)
noncomputable def f85 (call : CallF) (k : Nat) : St :=
  (bSeq (bReg (f85_r0 call))
  (bSeq (bSeq (bReg (f85_r1 call))
  (bBlock 0 (bSeq (bReg (f85_r2 call))
   (bCond (.tmp 7)
    (bSeq (bReg (f85_r3 call))
    (bEx .ret))
    (bSeq (bReg (f85_r4 call))
    (bCond (.tmp 9)
     (bSeq (bReg (f85_r5 call))
     (bEx .ret))
     (bSeq (bReg (f85_r6 call))
     (bCond (.tmp 11)
      (bSeq (bReg (f85_r7 call))
      (bEx .ret))
      (bEx .nrm)))))))))
  (bSeq (bReg (f85_r8 call))
  (bEx .ret))))
theorem f85_eq (call : CallF) (k : Nat) : exec cx call 13 f85_an k (Try.f85.body.getD .skip) = f85 call k := by kernel_rfl
def anns : List (Nat × Ann) := [(6, f6_an), (20, f20_an), (21, f21_an), (22, f22_an), (23, f23_an), (24, f24_an), (25, f25_an), (26, f26_an), (49, f49_an), (50, f50_an), (51, f51_an), (52, f52_an), (53, f53_an), (54, f54_an), (73, f73_an), (74, f74_an), (75, f75_an), (76, f76_an), (79, f79_an), (81, f81_an), (82, f82_an), (84, f84_an), (85, f85_an)]
noncomputable def CN0 : Nat → CallF := callN cx (Go.Ab.look anns) (fun _ _ _ => none) (fun _ => false)
def isP (f : Nat) : Bool := has [] f
noncomputable def primF : CallF := splitNil (callN cx (Go.Ab.look anns) (fun _ _ _ => none) (fun _ => false) 3)
noncomputable def CN : Nat → CallF := callN cx (Go.Ab.look anns) primF isP
end Go.Proofs.Ytfabokkhdalbeaa

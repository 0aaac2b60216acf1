/- The program's ReadAccount and the reference's. -/
import Derived.Test.YtbhbmgmnnkcmcaaDoorPsReadAccount
set_option linter.unusedVariables false
set_option linter.unusedSimpArgs false
namespace Go.Proofs.YtbhbmgmnnkcmcaaDoor.Pure
open Go Go.Ab
def mItem (j : Int) : Item := ⟨IntKind.i8.wrap j, j + 1⟩
theorem markItemS_eq (xs : List Item) (k : Int) (hn : xs.length ≤ 100000000000000) (h0 : 0 ≤ k) (hk : k ≤ 1152921504606846976) : laws_markItemS_l xs k = some (k + (2 * xs.length : Nat), marks mItem 2 k xs.length) := by
  unfold laws_markItemS_l
  have key := mark_loop (tb := laws_markItemS_l_b1) mItem 2 xs k (by omega) (by omega) h0 hk
    (by
      intro j i zs hi hz hj hjc
      have w1 : IntKind.i64.wrap (j + 1) = j + 1 := w64 (by omega)
      have w2 : IntKind.i64.wrap (j + 1 + 1) = j + 2 := by rw [w64 (by omega)]; omega
      simp [laws_markItemS_l_b1, rd_coe, hi, List.getElem?_set, w1, w2, w64s hi (show zs.length ≤ 4611686018427387904 by omega), mItem])
    (by intro j zs; simp [laws_markItemS_l_b1])
  rw [key, Option.bind_some]
theorem heldItemS_eq (n : Nat) (k : Int) (hn : n ≤ 100000000000000) (h0 : 0 ≤ k) (hk : k ≤ 1152921504606846976) : laws_heldItemS (marks mItem 2 k n) k = some (k + (2 * n : Nat)) := by
  unfold laws_heldItemS
  have key := held_loop (tb := laws_heldItemS_b1 (marks mItem 2 k n)) mItem 2 n k (by omega) (by omega) h0 hk
    (by
      intro j i hi hg hj hjc
      have w1 : IntKind.i64.wrap (j + 1) = j + 1 := w64 (by omega)
      have w2 : IntKind.i64.wrap (j + 1 + 1) = j + 2 := by rw [w64 (by omega)]; omega
      simp only [laws_heldItemS_b1, rd_coe, hg, marks_len, Option.bind_some, w1, w2, w64s hi (show n ≤ 4611686018427387904 by omega)]
      simp [hi, mItem])
    (by intro j; simp [laws_heldItemS_b1, marks_len])
  rw [key, Option.bind_some]
theorem heldItem0 (k : Int) : laws_heldItemS [] k = some k := by
  unfold laws_heldItemS
  rw [Lw_stop (r := .inr k) (by simp [laws_heldItemS_b1])]
  rfl
theorem eqAcc_self (t : List UInt8) (its : List Item) (v : Int) (h : its.length ≤ 40) : laws_eqAccount ⟨t, its, v⟩ ⟨t, its, v⟩ = some true := by
  unfold laws_eqAccount
  dsimp only
  rw [eqItemS_eq _ _ (by omega)]
  simp
theorem FnExactReadAccount (a0 : List UInt8) (h0 : okS a0) : laws_FnExactReadAccount a0 = some true := by
  unfold laws_FnExactReadAccount
  by_cases hs : (a0.length : Int) > 1048576
  · rw [if_pos (by simpa using hs)]
  rw [if_neg (by simpa using hs)]
  rcases readAccount_same a0 (by omega) with ⟨e1, e2⟩ | ⟨t, its, v, e1, e2, e3⟩
  · have q := eqAcc_self [] [] 0 (by simp)
    have m : laws_markAccount_n [] 0 1 = some 1 := by
      unfold laws_markAccount_n laws_markItemS_n
      rw [Lw_stop (r := (1 : Int)) (by simp [laws_markItemS_n_b1])]
      rfl
    have hd : laws_heldAccount ⟨[], [], 0⟩ 1 = some 1 := by
      unfold laws_heldAccount
      dsimp only
      rw [heldItem0]; rfl
    simp only [e1, e2, q, m, hd, Option.bind_some, if_true, bne_self_eq_false, Bool.false_eq_true, if_false]
    rfl
  · have q := eqAcc_self t its v e3
    have m : laws_markAccount_l t its v 1 = some (1 + ((2 * its.length : Nat) : Int), marks mItem 2 1 its.length) := by
      unfold laws_markAccount_l
      rw [markItemS_eq its 1 (by omega) (by omega) (by omega)]; rfl
    have hd : laws_heldAccount ⟨t, marks mItem 2 1 its.length, v⟩ 1 = some (1 + ((2 * its.length : Nat) : Int)) := by
      unfold laws_heldAccount
      dsimp only
      rw [heldItemS_eq its.length 1 (by omega) (by omega) (by omega), Option.bind_some, if_neg (by simp; omega)]
    have c : decide ((1 : Int) + ((2 * its.length : Nat) : Int) < 0) = false := decide_eq_false (by omega)
    simp only [e1, e2, q, m, hd, c, Option.bind_some, if_true, bne_self_eq_false, Bool.false_eq_true, if_false]
end Go.Proofs.YtbhbmgmnnkcmcaaDoor.Pure

/- Marks put into numbers, and found again. -/
import Derived.Test.YtfabokkhdalbeadPSameDoDeal
set_option linter.unusedVariables false
set_option linter.unusedSimpArgs false
namespace Go.Proofs.Ytfabokkhdalbead
open Go Go.Ab
def iota (k : Int) (n : Nat) : List Int := (List.range n).map fun (i : Nat) => k + (i : Int)
theorem iota_len (k : Int) (n : Nat) : (iota k n).length = n := by simp [iota]
theorem iota_get (k : Int) (n i : Nat) (h : i < n) : (iota k n)[i]? = some (k + i) := by
  simp [iota, h]
theorem iota_succ (k : Int) (n : Nat) : iota k (n + 1) = iota k n ++ [k + n] := by simp [iota, List.range_succ]
theorem markInt64S_eq (xs : List Int) (k : Int) (h : xs.length ≤ 1152921504606846976) (h0 : 0 ≤ k) (hk : k ≤ 1152921504606846976) : laws_markInt64S_l xs k = some (k + xs.length, iota k xs.length) := by
  unfold laws_markInt64S_l
  have key := Lw_run (tb := laws_markInt64S_l_b1) (fun i => (k + (i : Int), (i : Int), iota k i ++ xs.drop i)) xs.length (r := (k + (xs.length : Int), iota k xs.length))
    (by
      intro i hi
      have hl : (iota k i ++ xs.drop i).length = xs.length := by simp [iota_len]; omega
      simp only [laws_markInt64S_l_b1, hl]
      rw [if_pos (by simpa using hi), rd_coe, List.getElem?_eq_getElem (by omega), Option.bind_some, w64 (by omega), w64s hi (by omega)]
      congr 3
      · omega
      · simp only [Int.toNat_natCast, Prod.mk.injEq, true_and]
        rw [List.set_append_right _ _ (by simp [iota_len]), iota_len, Nat.sub_self, List.drop_eq_getElem_cons hi, List.set_cons_zero, iota_succ, List.append_assoc]
        rfl)
    (by
      have hl : (iota k xs.length ++ xs.drop xs.length).length = xs.length := by simp [iota_len]
      simp only [laws_markInt64S_l_b1, hl]
      rw [if_neg (by simp)]
      simp)
  have e : ((k + ((0 : Nat) : Int)), ((0 : Nat) : Int), iota k 0 ++ xs.drop 0) = (k, 0, xs) := by simp [iota]
  rw [e] at key
  rw [key, Option.bind_some]
theorem heldInt64S_eq (n : Nat) (k : Int) (h : n ≤ 1152921504606846976) (h0 : 0 ≤ k) (hk : k ≤ 1152921504606846976) : laws_heldInt64S (iota k n) k = some (k + n) := by
  unfold laws_heldInt64S
  have key := Lw_run (tb := laws_heldInt64S_b1 (iota k n)) (fun i => (k + (i : Int), (i : Int))) n (r := .inr (k + (n : Int)))
    (by
      intro i hi
      simp only [laws_heldInt64S_b1, iota_len]
      rw [if_pos (by simpa using hi), rd_coe, iota_get _ _ _ hi, Option.bind_some, if_neg (by simp), w64 (by omega), w64s hi (by omega)]
      congr 3; omega)
    (by simp [laws_heldInt64S_b1, iota_len])
  have e : ((k + ((0 : Nat) : Int)), ((0 : Nat) : Int)) = (k, 0) := by simp
  rw [e] at key
  rw [key, Option.bind_some]
end Go.Proofs.Ytfabokkhdalbead

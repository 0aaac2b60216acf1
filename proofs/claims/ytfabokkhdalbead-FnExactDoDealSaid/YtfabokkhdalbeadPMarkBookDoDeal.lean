/- Marks put into tallies and books, and found again. -/
import Derived.Test.YtfabokkhdalbeadPBookOkDoDeal
set_option linter.unusedVariables false
set_option linter.unusedSimpArgs false
namespace Go.Proofs.Ytfabokkhdalbead
open Go Go.Ab
def mTally (k : Int) : Tally := ⟨k, k + 1, k + 1 + 1, k + 1 + 1 + 1, k + 1 + 1 + 1 + 1⟩
theorem markTallyS_eq (xs : List Tally) (k : Int) (hn : xs.length ≤ 100000000000000) (h0 : 0 ≤ k) (hk : k ≤ 1152921504606846976) : laws_markTallyS_l xs k = some (k + (5 * xs.length : Nat), marks mTally 5 k xs.length) := by
  unfold laws_markTallyS_l
  have key := mark_loop (tb := laws_markTallyS_l_b1) mTally 5 xs k (by omega) (by omega) h0 hk
    (by
      intro j i zs hi hz hj hjc
      have w1 : IntKind.i64.wrap (j + 1) = j + 1 := w64 (by omega)
      have w2 : IntKind.i64.wrap (j + 1 + 1) = j + 1 + 1 := w64 (by omega)
      have w3 : IntKind.i64.wrap (j + 1 + 1 + 1) = j + 1 + 1 + 1 := w64 (by omega)
      have w4 : IntKind.i64.wrap (j + 1 + 1 + 1 + 1) = j + 1 + 1 + 1 + 1 := w64 (by omega)
      have w5 : IntKind.i64.wrap (j + 1 + 1 + 1 + 1 + 1) = j + 5 := by rw [w64 (by omega)]; omega
      simp [laws_markTallyS_l_b1, rd_coe, hi, List.getElem?_set, w1, w2, w3, w4, w5, w64s hi (show zs.length ≤ 4611686018427387904 by omega), mTally])
    (by intro j zs; simp [laws_markTallyS_l_b1])
  rw [key, Option.bind_some]
theorem markTallyS0 (k : Int) : laws_markTallyS_n k = some k := by
  unfold laws_markTallyS_n
  rw [Lw_stop (r := k) (by simp [laws_markTallyS_n_b1]), Option.bind_some]
theorem heldTallyS_eq (n : Nat) (k : Int) (hn : n ≤ 100000000000000) (h0 : 0 ≤ k) (hk : k ≤ 1152921504606846976) : laws_heldTallyS (marks mTally 5 k n) k = some (k + (5 * n : Nat)) := by
  unfold laws_heldTallyS
  have key := held_loop (tb := laws_heldTallyS_b1 (marks mTally 5 k n)) mTally 5 n k (by omega) (by omega) h0 hk
    (by
      intro j i hi hg hj hjc
      have w1 : IntKind.i64.wrap (j + 1) = j + 1 := w64 (by omega)
      have w2 : IntKind.i64.wrap (j + 1 + 1) = j + 1 + 1 := w64 (by omega)
      have w3 : IntKind.i64.wrap (j + 1 + 1 + 1) = j + 1 + 1 + 1 := w64 (by omega)
      have w4 : IntKind.i64.wrap (j + 1 + 1 + 1 + 1) = j + 1 + 1 + 1 + 1 := w64 (by omega)
      have w5 : IntKind.i64.wrap (j + 1 + 1 + 1 + 1 + 1) = j + 5 := by rw [w64 (by omega)]; omega
      simp only [laws_heldTallyS_b1, rd_coe, hg, marks_len, Option.bind_some, w1, w2, w3, w4, w5, w64s hi (show n ≤ 4611686018427387904 by omega)]
      simp [hi, mTally])
    (by intro j; simp [laws_heldTallyS_b1, marks_len])
  rw [key, Option.bind_some]
theorem markBook_eq (d : Int) (c : List Int) (t : List Tally) (k : Int) (hc : c.length ≤ 100000000000000) (ht : t.length ≤ 100000000000000) (h0 : 0 ≤ k) (hk : k ≤ 152921504606846976) :
    laws_markBook_ll d c t k = some (k + (c.length : Int) + ((5 * t.length : Nat) : Int), iota k c.length, marks mTally 5 (k + c.length) t.length) := by
  unfold laws_markBook_ll
  rw [markInt64S_eq c k (by omega) h0 (by omega)]
  simp only [Option.bind_some]
  rw [markTallyS_eq t _ ht (by omega) (by omega)]
  rfl
theorem heldBook_eq (d : Int) (k : Int) (n m : Nat) (hc : n ≤ 100000000000000) (ht : m ≤ 100000000000000) (h0 : 0 ≤ k) (hk : k ≤ 152921504606846976) :
    laws_heldBook ⟨d, iota k n, marks mTally 5 (k + n) m⟩ k = some (k + (n : Int) + ((5 * m : Nat) : Int)) := by
  unfold laws_heldBook
  simp only
  rw [heldInt64S_eq n k (by omega) h0 (by omega), Option.bind_some, if_neg (by simp; omega), heldTallyS_eq m _ ht (by omega) (by omega), Option.bind_some, if_neg (by simp; omega)]
theorem szBook_bound (b : Book) (hb : b.ok) (r n : Int) (h : laws_szBook b n = some r) (h0 : ¬ r < 0) (hn : n ≤ 1048576) (hm : -4611686018427387904 ≤ n) : r = n - b.Cash.length - b.Tallies.length ∧ (b.Cash.length : Int) + b.Tallies.length ≤ n := by
  have hc := ok_cash hb
  have ht := ok_tallies hb
  unfold laws_szBook at h
  obtain ⟨q, hq⟩ := szI_some b.Cash n
  rw [hq, Option.bind_some] at h
  unfold laws_szInt64S at hq
  rw [w64 (by omega)] at hq
  by_cases hq0 : q < 0
  · rw [if_pos (by simpa using hq0)] at h; cases h; omega
  rw [if_neg (by simpa using hq0)] at h
  obtain ⟨p, hp⟩ := szT_some b.Tallies q
  rw [hp, Option.bind_some] at h
  by_cases hc2 : n - (b.Cash.length : Int) < 0
  · rw [if_pos (by simpa using hc2)] at hq; cases hq; omega
  rw [if_neg (by simpa using hc2)] at hq
  obtain rfl := Option.some.inj hq
  unfold laws_szTallyS at hp
  rw [w64 (by omega)] at hp
  by_cases hp0 : p < 0
  · rw [if_pos (by simpa using hp0)] at h; cases h; omega
  rw [if_neg (by simpa using hp0)] at h
  obtain rfl := Option.some.inj h
  by_cases hc3 : n - (b.Cash.length : Int) - b.Tallies.length < 0
  · rw [if_pos (by simpa using hc3)] at hp; cases hp; omega
  rw [if_neg (by simpa using hc3)] at hp
  obtain rfl := Option.some.inj hp
  exact ⟨by omega, by omega⟩
end Go.Proofs.Ytfabokkhdalbead

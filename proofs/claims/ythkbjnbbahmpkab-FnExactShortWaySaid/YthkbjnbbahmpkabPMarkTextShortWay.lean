/- Marks that are texts; marks in texts and chains. -/
import Derived.Test.YthkbjnbbahmpkabPValidShortWay
set_option linter.unusedVariables false
set_option linter.unusedSimpArgs false
namespace Go.Proofs.Ythkbjnbbahmpkab
open Go Go.Ab
theorem sadd_some {a b : List UInt8} (h : a.length + b.length ≤ 9223372036854775807) : sadd a b = some (a ++ b) := by
  unfold sadd
  rw [if_neg (by have : IntKind.i64.max = 9223372036854775807 := rfl; rw [this]; omega)]
theorem markText_some (k : Int) (h : k ≤ 4611686018427387904) : ∃ t, laws_markText k = some t := by
  unfold laws_markText
  by_cases h0 : k ≤ 0
  · exact ⟨_, by rw [if_pos (by simpa using h0)]⟩
  rw [if_neg (by simpa using h0)]
  have : ∃ r r2 : List UInt8, Lw (laws_markText_b1) (k, []) = some r ∧ Lw (laws_markText_b1) (k, []) = some r2 ∧ r.length ≤ 4611686018427387904 := by
    refine Lw_sim (tb := laws_markText_b1) (tb2 := laws_markText_b1) (fun s => s.1.toNat) (fun s s2 => s = s2 ∧ 0 ≤ s.1 ∧ s.2.length + s.1.toNat ≤ 4611686018427387904) _ ?_ _ _ _ rfl ⟨rfl, by simp only; omega, by simp only [List.length_nil]; omega⟩
    rintro ⟨n, o⟩ s2 ⟨rfl, hn, ho⟩
    simp only at hn ho
    by_cases h1 : n > 0
    · have e1 : rem .i64 n 10 = some (n.tmod 10) := by simp [rem]
      have hd : n.tdiv 10 = n / 10 := Int.tdiv_eq_ediv_of_nonneg hn
      have e2 : quo .i64 n 10 = some (n / 10) := by
        unfold quo
        rw [if_neg (by decide), hd, w64 (by omega)]
      have e3 : sadd (toB [(IntKind.u8.wrap (IntKind.i64.wrap (48 + n.tmod 10)))]) o = some (toB [(IntKind.u8.wrap (IntKind.i64.wrap (48 + n.tmod 10)))] ++ o) := sadd_some (by simp [toB]; omega)
      have : laws_markText_b1 (n, o) = some (.inl (n / 10, toB [(IntKind.u8.wrap (IntKind.i64.wrap (48 + n.tmod 10)))] ++ o)) := by simp [laws_markText_b1, h1, e1, e2, e3]
      exact .inl ⟨_, _, this, this, ⟨rfl, by simp only; omega, by simp [toB]; omega⟩, by simp only; omega⟩
    · have : laws_markText_b1 (n, o) = some (.inr o) := by simp [laws_markText_b1, h1]
      exact .inr ⟨_, _, this, this, by omega⟩
  obtain ⟨r, _, e1, _, e2⟩ := this
  rw [e1, Option.bind_some, sadd_some (by simp; omega)]
  exact ⟨_, rfl⟩
noncomputable def mT (k : Int) : List UInt8 := (laws_markText k).getD []
theorem markText_eq (k : Int) (h : k ≤ 4611686018427387904) : laws_markText k = some (mT k) := by
  obtain ⟨t, ht⟩ := markText_some k h
  unfold mT
  rw [ht]; rfl
theorem markStringS_eq (xs : List (List UInt8)) (k : Int) (hn : xs.length ≤ 100000000000000) (h0 : 0 ≤ k) (hk : k ≤ 1152921504606846976) : laws_markStringS_l xs k = some (k + (1 * xs.length : Nat), marks mT 1 k xs.length) := by
  unfold laws_markStringS_l
  have key := mark_loop (tb := laws_markStringS_l_b1) mT 1 xs k (by omega) (by omega) h0 hk
    (by
      intro j i zs hi hz hj hjc
      have w1 : IntKind.i64.wrap (j + 1) = j + 1 := w64 (by omega)
      simp [laws_markStringS_l_b1, rd_coe, hi, w1, w64s hi (show zs.length ≤ 4611686018427387904 by omega), markText_eq j (by omega)])
    (by intro j zs; simp [laws_markStringS_l_b1])
  rw [key, Option.bind_some]
theorem markStringS0 (k : Int) : laws_markStringS_n k = some k := by
  unfold laws_markStringS_n
  rw [Lw_stop (r := k) (by simp [laws_markStringS_n_b1]), Option.bind_some]
theorem heldStringS_eq (n : Nat) (k : Int) (hn : n ≤ 100000000000000) (h0 : 0 ≤ k) (hk : k ≤ 1152921504606846976) : laws_heldStringS (marks mT 1 k n) k = some (k + (1 * n : Nat)) := by
  unfold laws_heldStringS
  have key := held_loop (tb := laws_heldStringS_b1 (marks mT 1 k n)) mT 1 n k (by omega) (by omega) h0 hk
    (by
      intro j i hi hg hj hjc
      have w1 : IntKind.i64.wrap (j + 1) = j + 1 := w64 (by omega)
      simp only [laws_heldStringS_b1, rd_coe, hg, marks_len, Option.bind_some, w1, w64s hi (show n ≤ 4611686018427387904 by omega), markText_eq j (by omega)]
      simp [hi])
    (by intro j; simp [laws_heldStringS_b1, marks_len])
  rw [key, Option.bind_some]
theorem eqStringS_eq (a b : List (List UInt8)) (h : a.length ≤ 4611686018427387904) : laws_eqStringS a b = some (decide (a = b)) := by
  unfold laws_eqStringS
  by_cases hl : a.length = b.length
  · rw [if_neg (by simp [hl]), eqS_loop a b h hl (fun i h1 h2 => by
      simp only [laws_eqStringS_b1, rd_coe, List.getElem?_eq_getElem h1, List.getElem?_eq_getElem h2, Option.bind_some]
      by_cases he : a[i] = b[i] <;> simp [he, h1]) (by simp [laws_eqStringS_b1])]
    by_cases he : a = b <;> simp [he]
  · rw [if_pos (by simp; omega)]
    have : a ≠ b := fun h => hl (by rw [h])
    simp [this]
/-! chains -/
def mNotch (k : Int) : Notch := ⟨IntKind.i8.wrap k, IntKind.i16.wrap (k + 1)⟩
theorem markNotchS_eq (xs : List Notch) (k : Int) (hn : xs.length ≤ 100000000000000) (h0 : 0 ≤ k) (hk : k ≤ 1152921504606846976) : laws_markNotchS_l xs k = some (k + (2 * xs.length : Nat), marks mNotch 2 k xs.length) := by
  unfold laws_markNotchS_l
  have key := mark_loop (tb := laws_markNotchS_l_b1) mNotch 2 xs k (by omega) (by omega) h0 hk
    (by
      intro j i zs hi hz hj hjc
      have w1 : IntKind.i64.wrap (j + 1) = j + 1 := w64 (by omega)
      have w2 : IntKind.i64.wrap (j + 1 + 1) = j + 2 := by rw [w64 (by omega)]; omega
      simp [laws_markNotchS_l_b1, rd_coe, hi, List.getElem?_set, w1, w2, w64s hi (show zs.length ≤ 4611686018427387904 by omega), mNotch])
    (by intro j zs; simp [laws_markNotchS_l_b1])
  rw [key, Option.bind_some]
noncomputable def mMark (k : Int) : Mark := ⟨mT k, IntKind.u32.wrap (k + 1)⟩
theorem markMarkS_eq (xs : List Mark) (k : Int) (hn : xs.length ≤ 100000000000000) (h0 : 0 ≤ k) (hk : k ≤ 1152921504606846976) : laws_markMarkS_l xs k = some (k + (2 * xs.length : Nat), marks mMark 2 k xs.length) := by
  unfold laws_markMarkS_l
  have key := mark_loop (tb := laws_markMarkS_l_b1) mMark 2 xs k (by omega) (by omega) h0 hk
    (by
      intro j i zs hi hz hj hjc
      have w1 : IntKind.i64.wrap (j + 1) = j + 1 := w64 (by omega)
      have w2 : IntKind.i64.wrap (j + 1 + 1) = j + 2 := by rw [w64 (by omega)]; omega
      simp [laws_markMarkS_l_b1, rd_coe, hi, List.getElem?_set, w1, w2, w64s hi (show zs.length ≤ 4611686018427387904 by omega), mMark, markText_eq j (by omega)])
    (by intro j zs; simp [laws_markMarkS_l_b1])
  rw [key, Option.bind_some]
theorem markChain_eq (d : List UInt8) (s : Bool) (n : List Notch) (g : Ar 16 Int) (m : List Mark) (k : Int) (hn : n.length ≤ 100000000000000) (hm : m.length ≤ 100000000000000) (h0 : 0 ≤ k) (hk : k ≤ 152921504606846976) :
    ∃ n' m', laws_markChain_ll d s n g m k = some (k + (2 * n.length : Nat) + (2 * m.length : Nat), n', m') := by
  unfold laws_markChain_ll laws_markHalf_l
  rw [markNotchS_eq n k hn h0 (by omega)]
  simp only [Option.bind_some]
  rw [markMarkS_eq m _ hm (by omega) (by omega)]
  exact ⟨_, _, rfl⟩
end Go.Proofs.Ythkbjnbbahmpkab

/- The book behind a list of deals, and the book of a day. -/
import Derived.Test.YtpdmcpnabjifhaaPBooksHolderOn
set_option linter.unusedVariables false
set_option linter.unusedSimpArgs false
namespace Go.Proofs.Ytpdmcpnabjifhaa
open Go Go.Ab
theorem find_loop {τ R : Type} {tb : Int → Option (Int ⊕ R)} (p : τ → Bool) (xs : List τ) (hit : Nat → R) (miss : R)
    (h1 : ∀ (i : Nat) (h : i < xs.length), p xs[i] = false → tb (i : Int) = some (.inl ((i + 1 : Nat) : Int))) (h2 : ∀ (i : Nat) (h : i < xs.length), p xs[i] = true → tb (i : Int) = some (.inr (hit i))) (h3 : tb (xs.length : Int) = some (.inr miss)) :
    Lw tb 0 = some (if xs.findIdx p < xs.length then hit (xs.findIdx p) else miss) := by
  have key := Lw_run (tb := tb) (fun i => (i : Int)) (xs.findIdx p) (r := if xs.findIdx p < xs.length then hit (xs.findIdx p) else miss)
    (fun i hi => h1 i (Nat.lt_of_lt_of_le hi List.findIdx_le_length) (by simpa using List.not_of_lt_findIdx hi))
    (by
      by_cases h : xs.findIdx p < xs.length
      · rw [if_pos h]; exact h2 _ h List.findIdx_getElem
      · rw [if_neg h]
        have : xs.findIdx p = xs.length := Nat.le_antisymm List.findIdx_le_length (by omega)
        simp only [this]; exact h3)
  exact key
theorem day_idx (xs : List Deal) (day : Int) (hn : xs.length ≤ 4611686018427387904) :
    slices_IndexFunc_Deal__impl_stateOn_1 xs day = some (if xs.findIdx (fun d => decide (d.Day > day)) < xs.length then ((xs.findIdx fun d => decide (d.Day > day) : Nat) : Int) else -1) := by
  unfold slices_IndexFunc_Deal__impl_stateOn_1
  have key := find_loop (tb := slices_IndexFunc_Deal__impl_stateOn_1_b1 xs day) (fun d => decide (d.Day > day)) xs (fun i => .inl (i : Int)) (.inr ())
    (by
      intro i h hp
      have w := w64s h hn
      simp only [decide_eq_false_iff_not] at hp
      simp [slices_IndexFunc_Deal__impl_stateOn_1_b1, impl_stateOn_1, rd_coe, h, hp, w])
    (by
      intro i h hp
      simp only [decide_eq_true_eq] at hp
      simp [slices_IndexFunc_Deal__impl_stateOn_1_b1, impl_stateOn_1, rd_coe, h, hp])
    (by simp [slices_IndexFunc_Deal__impl_stateOn_1_b1])
  rw [key, Option.bind_some]
  by_cases h : xs.findIdx (fun d => decide (d.Day > day)) < xs.length
  · rw [if_pos h, if_pos h]
  · rw [if_neg h, if_neg h]
theorem day_spec (xs : List Deal) (day : Int) (hn : xs.length ≤ 4611686018427387904) :
    Lw (spec_l07State_b1 xs day) 0 = some ((xs.findIdx fun d => decide (d.Day > day) : Nat) : Int) := by
  have key := find_loop (tb := spec_l07State_b1 xs day) (fun d => decide (d.Day > day)) xs (fun i => (i : Int)) (xs.length : Int)
    (by
      intro i h hp
      have w := w64s h hn
      simp only [decide_eq_false_iff_not] at hp
      have hp' : xs[i].Day ≤ day := by omega
      simp [spec_l07State_b1, rd_coe, h, hp', w])
    (by
      intro i h hp
      simp only [decide_eq_true_eq] at hp
      have hp' : ¬ xs[i].Day ≤ day := by omega
      simp [spec_l07State_b1, rd_coe, h, hp'])
    (by simp [spec_l07State_b1])
  rw [key]
  split
  · rfl
  · have : xs.findIdx (fun d => decide (d.Day > day)) = xs.length := Nat.le_antisymm List.findIdx_le_length (by omega)
    rw [this]
theorem slc0 {τ : Type} (xs : List τ) (n : Nat) (h : n ≤ xs.length) : slc xs 0 (n : Int) = some (xs.take n) := by
  unfold slc
  rw [if_pos ⟨by omega, by omega, by omega⟩]; simp
theorem rd_last {out : List Book} {s : Book} (h : out.getLast? = some s) (hn : out.length ≤ 4611686018427387904) : rd out (IntKind.i64.wrap ((out.length : Int) - 1)) = some s := by
  have h0 : out ≠ [] := fun e => by subst e; cases h
  have hp : 0 < out.length := List.length_pos_iff.2 h0
  rw [w64 (by omega), show ((out.length : Int) - 1) = ((out.length - 1 : Nat) : Int) by omega, rd_coe, ← List.getLast?_eq_getElem?, h]
def BehS (b : Book) (xs : List Deal) : Prop :=
  (∃ c k, c ≠ 0 ∧ impl_behind b xs = some (.inl c) ∧ spec_l07All b xs = some ([], c, k)) ∨
    ∃ s out, BkI s ∧ s.Cash.length = b.Cash.length ∧ impl_behind b xs = some (.inr (s.Day, s.Cash, s.Tallies)) ∧ spec_l07All b xs = some (out, 0, 0) ∧ out.length = xs.length ∧ LastI b s out
theorem behind_same (xs : List Deal) (b : Book) (hb : BkI b) (hx : ∀ d ∈ xs, dealB d = true) (hn : xs.length ≤ 80) : BehS b xs := by
  rcases books_same xs b hb hx hn with ⟨c, out, e1, e2, e3, _⟩ | ⟨s, out, e1, e2, e3, e4, e5, e6, e7⟩
  · exact .inl ⟨c, _, e3, by unfold impl_behind; rw [e1]; simp [e3], e2⟩
  · refine .inr ⟨s, out, e4, e5, ?_, e2, e3, e7⟩
    unfold impl_behind
    rw [e1]
    rcases e7 with ⟨rfl, rfl⟩ | h
    · simp [ownBook_eq s hb]
    · have h0 : out ≠ [] := fun e => by subst e; cases h
      have hr := rd_last h (by omega)
      simp [h0, hr]
def StS (b : Book) (xs : List Deal) (day : Int) : Prop :=
  (∃ c, c ≠ 0 ∧ impl_stateOn b xs day = some (.inl (0, c)) ∧ spec_l07State b xs day = some (.inl c)) ∨
    ∃ s : Book, BkI s ∧ s.Cash.length = b.Cash.length ∧ impl_stateOn b xs day = some (.inr (day, s.Cash, s.Tallies)) ∧ spec_l07State b xs day = some (.inr (day, s.Cash, s.Tallies))
theorem state_same (b : Book) (xs : List Deal) (day : Int) (hb : BkI b) (hx : ∀ d ∈ xs, dealB d = true) (hn : xs.length ≤ 80) : StS b xs day := by
  by_cases h0 : day < b.Day
  · exact .inl ⟨4, by decide, by simp [impl_stateOn, h0], by simp [spec_l07State, h0]⟩
  have i1 := day_idx xs day (by omega)
  have i2 := day_spec xs day (by omega)
  have hle : xs.findIdx (fun d => decide (d.Day > day)) ≤ xs.length := List.findIdx_le_length
  revert i1 i2 hle
  generalize xs.findIdx (fun d => decide (d.Day > day)) = n
  intro i1 i2 hle
  have B := behind_same (xs.take n) b hb (fun d hd => hx d (List.mem_of_mem_take hd)) (by simp; omega)
  have sl := slc0 xs n hle
  have hi : impl_stateOn b xs day = (impl_behind b (xs.take n)).bind fun r => match r with
      | .inl r54 => if (r54 != 0) = true then some (.inl (0, r54)) else some (.inl (day, 0))
      | .inr (r103, r104, r105) => some (.inr (day, r104, r105)) := by
    unfold impl_stateOn
    rw [if_neg (by simpa using h0), i1, Option.bind_some]
    by_cases hlt : n < xs.length
    · rw [if_pos hlt, if_neg (by simp), sl, Option.bind_some]
      rfl
    · have hne : n = xs.length := by omega
      rw [if_neg hlt, if_pos (by simp)]
      rw [slc0 xs xs.length (Nat.le_refl _), Option.bind_some, ← hne]
      rfl
  have hs : spec_l07State b xs day = (spec_l07All b (xs.take n)).bind fun (r101, r102, r103) =>
      if (r102 != 0) = true then some (.inl r102) else
      (spec_l07Copy b).bind fun (r130, r131, r132) =>
      if (decide ((n : Int) > 0)) = true then
        (rd r101 (IntKind.i64.wrap ((n : Int) - 1))).bind fun x159 =>
        (spec_l07Copy x159).bind fun (r162, r163, r164) => some (.inr (day, r163, r164))
      else some (.inr (day, r131, r132)) := by
    unfold spec_l07State
    rw [if_neg (by simpa using h0), i2, Option.bind_some, sl, Option.bind_some]
  unfold StS
  rw [hi, hs]
  rcases B with ⟨c, k, c0, e1, e2⟩ | ⟨s, out, g1, g2, e1, e2, e3, e4⟩
  · exact .inl ⟨c, c0, by simp [e1, c0], by simp [e2, c0]⟩
  · refine .inr ⟨s, g1, g2, by simp [e1], ?_⟩
    rw [e2]
    have hl : out.length = n := by rw [e3]; simp; omega
    rcases e4 with ⟨rfl, rfl⟩ | h
    · have : n = 0 := by simpa using hl.symm
      simp [this, l07Copy_eq s hb]
    · have h0 : out ≠ [] := fun e => by subst e; cases h
      have hp : 0 < out.length := List.length_pos_iff.2 h0
      have hr := rd_last h (by omega)
      rw [hl] at hr hp
      simp [l07Copy_eq b hb, hp, hr, l07Copy_eq s g1]
/-- the book of a day, asked from outside -/
def StA (b : Book) (xs : List Deal) (day : Int) : Prop :=
  (∃ c, c ≠ 0 ∧ impl_StateOn b xs day = some (.inl (0, c)) ∧ spec_StateOn b xs day = some (.inl c)) ∨
    ∃ s : Book, BkI s ∧ s.Cash.length = b.Cash.length ∧ impl_StateOn b xs day = some (.inr (day, s.Cash, s.Tallies)) ∧ spec_StateOn b xs day = some (.inr (day, s.Cash, s.Tallies))
theorem stateOn_same (b : Book) (xs : List Deal) (day : Int) (hc : b.Cash.length ≤ 4611686018427387904) (ht : b.Tallies.length ≤ 4611686018427387904) (hx : xs.length ≤ 4611686018427387904) : StA b xs day := by
  unfold StA impl_StateOn spec_StateOn
  rw [dealsCode_eq b xs hc ht hx, l07Asked_eq b xs hc ht hx, Option.bind_some, Option.bind_some, isBookDay_eq, l07Day_eq]
  by_cases h0 : askC b xs = 0
  · obtain ⟨g1, g2, g3⟩ := asked h0
    cases hd : inB day 0 100000
    · exact .inl ⟨2, by decide, by simp [h0], by simp [h0]⟩
    · rcases state_same b xs day g1 g2 g3 with ⟨c, c0, e1, e2⟩ | ⟨s, k1, k2, e1, e2⟩
      · exact .inl ⟨c, c0, by simp [h0, e1], by simp [h0, e2]⟩
      · exact .inr ⟨s, k1, k2, by simp [h0, e1], by simp [h0, e2]⟩
  · exact .inl ⟨askC b xs, h0, by simp [h0], by simp [h0]⟩
end Go.Proofs.Ytpdmcpnabjifhaa

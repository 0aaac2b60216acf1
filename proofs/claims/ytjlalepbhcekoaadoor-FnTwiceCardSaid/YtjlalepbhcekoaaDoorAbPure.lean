/- Loops on plain data: plain laws. -/
import Derived.Test.YtjlalepbhcekoaaDoorAbLaw
import Derived.IntWalk
set_option linter.unusedVariables false
namespace Go.Ab
open Go
theorem w64 {n : Int} (h : -9223372036854775808 ≤ n ∧ n ≤ 9223372036854775807) : IntKind.i64.wrap n = n := IntWalk.i64_in n h
theorem w64_le (n : Int) : IntKind.i64.wrap n ≤ 9223372036854775807 := by rw [IntKind.wrap_i64]; omega
theorem w64_ge (n : Int) : -9223372036854775808 ≤ IntKind.i64.wrap n := by rw [IntKind.wrap_i64]; omega
theorem w64s {i n : Nat} (h : i < n) (hn : n ≤ 4611686018427387904) : IntKind.i64.wrap ((i : Int) + 1) = ((i + 1 : Nat) : Int) := by rw [w64 (by omega)]; rfl
theorem inR64 {n : Int} : InR .i64 n ↔ -9223372036854775808 ≤ n ∧ n ≤ 9223372036854775807 := by simp [InR, Lit.wf, IntKind.min, IntKind.max, IntKind.signed, IntKind.bits]
theorem inR8 {n : Int} : InR .i8 n ↔ -128 ≤ n ∧ n ≤ 127 := by simp [InR, Lit.wf, IntKind.min, IntKind.max, IntKind.signed, IntKind.bits]
theorem inR16 {n : Int} : InR .i16 n ↔ -32768 ≤ n ∧ n ≤ 32767 := by simp [InR, Lit.wf, IntKind.min, IntKind.max, IntKind.signed, IntKind.bits]
theorem inRu32 {n : Int} : InR .u32 n ↔ 0 ≤ n ∧ n ≤ 4294967295 := by simp [InR, Lit.wf, IntKind.min, IntKind.max, IntKind.signed, IntKind.bits]
theorem rd_coe {τ : Type} (xs : List τ) (i : Nat) : rd xs (i : Int) = xs[i]? := by simp [rd]
theorem rd_zero {τ : Type} (xs : List τ) : rd xs 0 = xs[0]? := by simp [rd]
theorem rd_neg {τ : Type} (xs : List τ) {n : Int} (h : n < 0) : rd xs n = none := by simp [rd]; omega
theorem rd_in {τ : Type} {xs : List τ} {n : Int} (h0 : 0 ≤ n) (h : n < xs.length) : rd xs n = some (xs[n.toNat]'(by omega)) := by
  unfold rd; rw [if_pos h0, List.getElem?_eq_getElem]
theorem rd_lit {τ : Type} {xs : List τ} (n : Nat) : rd xs (no_index (OfNat.ofNat n : Int)) = xs[n]? := rd_coe xs n
section
variable {S R : Type} {tb : S → Option (S ⊕ R)}
theorem Lw_run (st : Nat → S) (n : Nat) {r : R} (h : ∀ i, i < n → tb (st i) = some (.inl (st (i + 1)))) (he : tb (st n) = some (.inr r)) : Lw tb (st 0) = some r := by
  induction n generalizing st with
  | zero => exact Lw_stop he
  | succ n ih =>
    rw [Lw_step (h 0 (by omega))]
    exact ih (fun i => st (i + 1)) (fun i hi => h (i + 1) (by omega)) he
/-- a loop whose rounds are counted by a measure that falls -/
theorem Lw_meas (μ : S → Nat) (I : S → Prop) (Q : R → Prop) (h : ∀ s, I s → (∃ s', tb s = some (.inl s') ∧ I s' ∧ μ s' < μ s) ∨ ∃ r, tb s = some (.inr r) ∧ Q r) : ∀ (n : Nat) (s : S), μ s = n → I s → ∃ r, Lw tb s = some r ∧ Q r := by
  intro n
  induction n using Nat.strongRecOn with
  | _ n ih =>
    intro s hs hi
    rcases h s hi with ⟨s', h1, h2, h3⟩ | ⟨r, h1, h2⟩
    · obtain ⟨r, g1, g2⟩ := ih (μ s') (by omega) s' rfl h2
      exact ⟨r, by rw [Lw_step h1]; exact g1, g2⟩
    · exact ⟨r, Lw_stop h1, h2⟩
theorem lpN_congr {tb2 : S → Option (S ⊕ R)} (I : S → Prop) (h : ∀ s, I s → tb s = tb2 s) (hp : ∀ s s', I s → tb s = some (.inl s') → I s') : ∀ (n : Nat) (s : S), I s → lpN tb n s = lpN tb2 n s
  | 0, _, _ => rfl
  | n + 1, s, hs => by
    unfold lpN
    rw [← h s hs]
    cases ht : tb s with
    | none => rfl
    | some q => cases q with
      | inl s' => exact lpN_congr I h hp n s' (hp s s' hs ht)
      | inr r => rfl
/-- two loops that do the same where they come -/
theorem Lw_congr {tb2 : S → Option (S ⊕ R)} (I : S → Prop) (h : ∀ s, I s → tb s = tb2 s) (hp : ∀ s s', I s → tb s = some (.inl s') → I s') {s : S} (hs : I s) : Lw tb s = Lw tb2 s := by
  have key : ∀ r, Lw tb s = some r ↔ Lw tb2 s = some r := fun r => by
    rw [Lw_iff, Lw_iff]
    constructor <;> rintro ⟨n, hn⟩
    · exact ⟨n, by rw [← lpN_congr I h hp n s hs]; exact hn⟩
    · exact ⟨n, by rw [lpN_congr I h hp n s hs]; exact hn⟩
  cases h1 : Lw tb s with
  | some r => rw [(key r).1 h1]
  | none => cases h2 : Lw tb2 s with
    | none => rfl
    | some r => rw [(key r).2 h2] at h1; cases h1
/-- two loops in step -/
theorem Lw_sim {S2 R2 : Type} {tb2 : S2 → Option (S2 ⊕ R2)} (μ : S → Nat) (I : S → S2 → Prop) (Q : R → R2 → Prop)
    (h : ∀ s s2, I s s2 → (∃ s' s2', tb s = some (.inl s') ∧ tb2 s2 = some (.inl s2') ∧ I s' s2' ∧ μ s' < μ s) ∨ ∃ r r2, tb s = some (.inr r) ∧ tb2 s2 = some (.inr r2) ∧ Q r r2) :
    ∀ (n : Nat) (s : S) (s2 : S2), μ s = n → I s s2 → ∃ r r2, Lw tb s = some r ∧ Lw tb2 s2 = some r2 ∧ Q r r2 := by
  intro n
  induction n using Nat.strongRecOn with
  | _ n ih =>
    intro s s2 hs hi
    rcases h s s2 hi with ⟨s', s2', h1, h2, h3, h4⟩ | ⟨r, r2, h1, h2, h3⟩
    · obtain ⟨r, r2, g1, g2, g3⟩ := ih (μ s') (by omega) s' s2' rfl h3
      exact ⟨r, r2, by rw [Lw_step h1]; exact g1, by rw [Lw_step h2]; exact g2, g3⟩
    · exact ⟨r, r2, Lw_stop h1, Lw_stop h2, h3⟩
end
/-- a look over the numbers below n: the first at which p is false ends it -/
theorem scan_at {A B : Type} {tb : Int → Option (Int ⊕ (A ⊕ B))} (n : Nat) (hn : n ≤ 4611686018427387904) (p : Nat → Bool) (a : Nat → A) (b : B)
    (hs : ∀ i : Nat, i < n → tb (i : Int) = some (if p i = true then .inl (IntKind.i64.wrap ((i : Int) + 1)) else .inr (.inl (a i)))) (he : tb (n : Int) = some (.inr (.inr b))) :
    (∃ m, m < n ∧ p m = false ∧ (∀ i, i < m → p i = true) ∧ Lw tb 0 = some (.inl (a m))) ∨ ((∀ i, i < n → p i = true) ∧ Lw tb 0 = some (.inr b)) := by
  by_cases h : ∃ m, m < n ∧ p m = false
  · obtain ⟨m, h1, h2⟩ := least h
    refine .inl ⟨m, h1.1, h1.2, fun i hi => ?_, ?_⟩
    · cases hp : p i with
      | true => rfl
      | false => have := h2 i ⟨by omega, hp⟩; omega
    · refine Lw_run (fun i => (i : Int)) m (fun i hi => ?_) ?_
      · have hp : p i = true := by
          cases hp : p i with
          | true => rfl
          | false => have := h2 i ⟨by omega, hp⟩; omega
        rw [hs i (by omega), if_pos hp, w64s (show i < n by omega) hn]
      · rw [hs m h1.1, if_neg (by rw [h1.2]; simp)]
  · have hall : ∀ i, i < n → p i = true := fun i hi => by
      cases hp : p i with
      | true => rfl
      | false => exact absurd ⟨i, hi, hp⟩ h
    refine .inr ⟨hall, Lw_run (fun i => (i : Int)) n (fun i hi => ?_) he⟩
    rw [hs i hi, if_pos (hall i hi), w64s hi hn]
theorem scan_all {A B : Type} {tb : Int → Option (Int ⊕ (A ⊕ B))} (n : Nat) (hn : n ≤ 4611686018427387904) (p : Nat → Bool) (a : A) (b : B)
    (hs : ∀ i : Nat, i < n → tb (i : Int) = some (if p i = true then .inl (IntKind.i64.wrap ((i : Int) + 1)) else .inr (.inl a))) (he : tb (n : Int) = some (.inr (.inr b))) :
    Lw tb 0 = some (if (List.range n).all p = true then .inr b else .inl a) := by
  rcases scan_at n hn p (fun _ => a) b hs he with ⟨m, h1, h2, _, h3⟩ | ⟨h1, h2⟩
  · rw [h3, if_neg]
    rw [List.all_eq_true]
    intro h
    rw [h m (by simpa using h1)] at h2
    cases h2
  · rw [h2, if_pos]
    rw [List.all_eq_true]
    intro i hi
    exact h1 i (by simpa using hi)
theorem scan_st {S R : Type} {tb : S → Option (S ⊕ R)} (st : Nat → S) (n : Nat) (p : Nat → Bool) (ra rb : R)
    (hs : ∀ i : Nat, i < n → (∀ j, j < i → p j = true) → tb (st i) = some (if p i = true then .inl (st (i + 1)) else .inr ra)) (he : (∀ j, j < n → p j = true) → tb (st n) = some (.inr rb)) :
    Lw tb (st 0) = some (if (List.range n).all p = true then rb else ra) := by
  by_cases h : ∃ m, m < n ∧ p m = false
  · obtain ⟨m, h1, h2⟩ := least h
    have hp : ∀ i, i < m → p i = true := fun i hi => by
      cases hp : p i with
      | true => rfl
      | false => have := h2 i ⟨by omega, hp⟩; omega
    rw [if_neg]
    · refine Lw_run st m (fun i hi => ?_) ?_
      · rw [hs i (by omega) (fun j hj => hp j (by omega)), if_pos (hp i hi)]
      · rw [hs m h1.1 hp, if_neg (by rw [h1.2]; simp)]
    · rw [List.all_eq_true]
      intro h
      have := h m (by simpa using h1.1)
      rw [h1.2] at this; cases this
  · have hall : ∀ i, i < n → p i = true := fun i hi => by
      cases hp : p i with
      | true => rfl
      | false => exact absurd ⟨i, hi, hp⟩ h
    rw [if_pos]
    · refine Lw_run st n (fun i hi => ?_) (he hall)
      rw [hs i hi (fun j hj => hall j (by omega)), if_pos (hall i hi)]
    · rw [List.all_eq_true]
      intro i hi
      exact hall i (by simpa using hi)
theorem all_get {τ : Type} (q : τ → Bool) (xs : List τ) : (List.range xs.length).all (fun i => (xs[i]?).all q) = xs.all q := by
  rw [Bool.eq_iff_iff, List.all_eq_true, List.all_eq_true]
  constructor
  · intro h x hx
    obtain ⟨i, hi⟩ := List.getElem?_of_mem hx
    have hlt := (List.getElem?_eq_some_iff.1 hi).1
    have := h i (by simpa using hlt)
    rw [hi] at this
    simpa using this
  · intro h i hi
    have hlt : i < xs.length := by simpa using hi
    rw [List.getElem?_eq_getElem hlt]
    simpa using h _ (List.getElem_mem hlt)
theorem all_eq {τ : Type} [DecidableEq τ] {xs ys : List τ} (hl : xs.length = ys.length) : ((List.range xs.length).all fun i => decide (xs[i]? = ys[i]?)) = decide (xs = ys) := by
  rw [Bool.eq_iff_iff, List.all_eq_true, decide_eq_true_eq]
  constructor
  · intro h
    refine List.ext_getElem? fun i => ?_
    by_cases hi : i < xs.length
    · simpa using h i (by simpa using hi)
    · rw [List.getElem?_eq_none (by omega), List.getElem?_eq_none (by omega)]
  · rintro rfl i _; simp
/-- a copy, place by place -/
theorem copy_loop {τ : Type} {tb : Int × List τ → Option ((Int × List τ) ⊕ List τ)} (xs ys : List τ) (hn : xs.length ≤ 4611686018427387904) (hl : ys.length = xs.length)
    (hs : ∀ (i : Nat) (zs : List τ) (hi : i < xs.length), zs.length = xs.length → tb ((i : Int), zs) = some (.inl (IntKind.i64.wrap ((i : Int) + 1), zs.set i xs[i]))) (he : ∀ zs, zs.length = xs.length → tb ((xs.length : Int), zs) = some (.inr zs)) : Lw tb (0, ys) = some xs := by
  have h := Lw_run (tb := tb) (fun i => ((i : Int), xs.take i ++ ys.drop i)) xs.length (r := xs) (fun i hi => ?_) ?_
  · simpa using h
  · rw [hs i _ hi (by simp; omega), w64s hi hn]
    congr 3
    rw [List.set_append_right _ _ (by simp; omega)]
    have : i - (List.take i xs).length = 0 := by simp; omega
    rw [this, List.drop_eq_getElem_cons (by omega)]
    simp only [List.set_cons_zero]
    show xs.take i ++ xs[i] :: ys.drop (i + 1) = xs.take (i + 1) ++ ys.drop (i + 1)
    rw [List.take_succ_eq_append_getElem hi, List.append_assoc]
    rfl
  · rw [he _ (by simp [hl])]
    simp [hl]
theorem mkS_some {τ : Type} {by_ : Nat} {z : τ} {n : Nat} (h : n * by_ ≤ 140737488351232) (hb : 0 < by_) : mkS by_ z (n : Int) = some (List.replicate n z) := by
  have h1 : n ≤ n * by_ := Nat.le_mul_of_pos_right n hb
  unfold mkS
  rw [if_pos ⟨by omega, by simp; omega, by omega⟩]; simp
theorem app_some {τ : Type} {by_ : Nat} {xs ys : List τ} (h : (xs.length + ys.length) * by_ ≤ 140737488355328) (hb : 0 < by_) : app by_ xs ys = some (xs ++ ys) := by
  have h1 := Nat.le_mul_of_pos_right (xs.length + ys.length) hb
  unfold app
  rw [if_pos ⟨h, by omega⟩]
end Go.Ab

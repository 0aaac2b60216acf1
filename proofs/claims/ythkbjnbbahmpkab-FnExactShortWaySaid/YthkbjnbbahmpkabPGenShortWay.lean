/- Loops that compare and weigh lists. -/
import Derived.Test.YthkbjnbbahmpkabOkShortWay
set_option linter.unusedVariables false
set_option linter.unusedSimpArgs false
namespace Go.Proofs.Ythkbjnbbahmpkab
open Go Go.Ab
theorem eqS_loop {τ : Type} [DecidableEq τ] {tb : Int → Option (Int ⊕ (Unit ⊕ Unit))} (a b : List τ) (h : a.length ≤ 4611686018427387904) (hl : a.length = b.length)
    (hs : ∀ (i : Nat) (h1 : i < a.length) (h2 : i < b.length), tb (i : Int) = some (if a[i] = b[i] then .inl (IntKind.i64.wrap ((i : Int) + 1)) else .inr (.inl ()))) (he : tb (a.length : Int) = some (.inr (.inr ()))) :
    Lw tb 0 = some (if a = b then .inr () else .inl ()) := by
  have key := scan_all (tb := tb) a.length h (fun i => decide (a[i]? = b[i]?)) () ()
    (by
      intro i hi
      have hi2 : i < b.length := by omega
      rw [hs i hi hi2, List.getElem?_eq_getElem hi, List.getElem?_eq_getElem hi2]
      by_cases he : a[i] = b[i] <;> simp [he])
    he
  rw [key, all_eq hl]
  by_cases he : a = b <;> simp [he]
theorem sz_loop {tb : Int × Int → Option ((Int × Int) ⊕ (Unit ⊕ Int))} (n : Nat) (hs : ∀ (a : Int) (i : Nat), i < n → (∃ r, tb (a, (i : Int)) = some (.inl (r, ((i + 1 : Nat) : Int)))) ∨ tb (a, (i : Int)) = some (.inr (.inl ()))) (he : ∀ a, tb (a, (n : Int)) = some (.inr (.inr a))) (a : Int) :
    ∃ r, Lw tb (a, 0) = some r := by
  have : ∃ r r2, Lw tb (a, 0) = some r ∧ Lw tb (a, 0) = some r2 ∧ r = r2 := by
    refine Lw_sim (tb := tb) (tb2 := tb) (fun s => n - s.2.toNat) (fun s s2 => s = s2 ∧ ∃ i : Nat, s.2 = i ∧ i ≤ n) _ ?_ _ _ _ rfl ⟨rfl, 0, rfl, by omega⟩
    rintro ⟨a, j⟩ s2 ⟨rfl, i, hi, hl⟩
    simp only at hi
    subst hi
    by_cases hlt : i < n
    · rcases hs a i hlt with ⟨r, hr⟩ | hr
      · exact .inl ⟨_, _, hr, hr, ⟨rfl, i + 1, rfl, by omega⟩, by simp; omega⟩
      · exact .inr ⟨_, _, hr, hr, rfl⟩
    · have : i = n := by omega
      subst this
      exact .inr ⟨_, _, he a, he a, rfl⟩
  obtain ⟨r, _, hr, _, _⟩ := this
  exact ⟨r, hr⟩
theorem find_first {τ R : Type} {tb : Int → Option (Int ⊕ R)} (p : τ → Bool) (xs : List τ) (hit : Nat → R) (miss : R)
    (h1 : ∀ (i : Nat) (h : i < xs.length), p xs[i] = false → tb (i : Int) = some (.inl ((i + 1 : Nat) : Int))) (h2 : ∀ (i : Nat) (h : i < xs.length), p xs[i] = true → tb (i : Int) = some (.inr (hit i))) (h3 : tb (xs.length : Int) = some (.inr miss)) :
    Lw tb 0 = some (if xs.findIdx p < xs.length then hit (xs.findIdx p) else miss) := by
  have key := Lw_run (tb := tb) (fun i => (i : Int)) (xs.findIdx p) (r := if xs.findIdx p < xs.length then hit (xs.findIdx p) else miss)
    (fun i hi => h1 i (Nat.lt_of_lt_of_le hi List.findIdx_le_length) (by simpa using List.not_of_lt_findIdx hi))
    (by
      by_cases h : xs.findIdx p < xs.length
      · rw [if_pos h]; exact h2 _ h List.findIdx_getElem
      · rw [if_neg h]
        have : xs.findIdx p = xs.length := Nat.le_antisymm List.findIdx_le_length (by omega)
        simp only [this]; exact h3)
  exact key
theorem any_find {τ : Type} (p : τ → Bool) (xs : List τ) : xs.any p = decide (xs.findIdx p < xs.length) := by
  rw [Bool.eq_iff_iff, decide_eq_true_eq, List.findIdx_lt_length, List.any_eq_true]
/-! arrays -/
theorem rdA_coe {n : Nat} {τ : Type} (g : Ar n τ) (i : Nat) (h : i < n) : rdA g (i : Int) = some (g.l[i]'(by rw [g.h]; exact h)) := by
  unfold rdA
  rw [if_pos ⟨by omega, by omega⟩, Int.toNat_natCast, List.getElem?_eq_getElem]
theorem ar_ext {n : Nat} {τ : Type} {a b : Ar n τ} : a = b ↔ a.l = b.l := by cases a; cases b; simp
theorem ar_copy {n : Nat} {τ : Type} {tb : Int × Ar n τ → Option ((Int × Ar n τ) ⊕ Ar n τ)} (a z : Ar n τ) (hs : ∀ (i : Nat) (h : i < n) (y : Ar n τ), tb ((i : Int), y) = some (.inl (((i + 1 : Nat) : Int), y.set i (a.l[i]'(by rw [a.h]; exact h))))) (he : ∀ y, tb ((n : Int), y) = some (.inr y)) :
    Lw tb (0, z) = some a := by
  have hz := z.h
  have ha := a.h
  have key := Lw_run (tb := tb) (fun i => ((i : Int), (⟨a.l.take i ++ z.l.drop (min i n), by simp; omega⟩ : Ar n τ))) n (r := a)
    (by
      intro i hi
      rw [hs i hi]
      congr 3
      rw [ar_ext]
      show (a.l.take i ++ z.l.drop (min i n)).set i _ = a.l.take (i + 1) ++ z.l.drop (min (i + 1) n)
      rw [Nat.min_eq_left (by omega), Nat.min_eq_left (by omega), List.set_append_right _ _ (by simp; omega), List.length_take, Nat.min_eq_left (by omega), Nat.sub_self, List.drop_eq_getElem_cons (by omega), List.set_cons_zero, List.take_succ_eq_append_getElem (by omega), List.append_assoc]
      rfl)
    (by
      rw [he]
      congr 2
      rw [ar_ext]
      show a.l.take n ++ z.l.drop (min n n) = a.l
      rw [List.take_of_length_le (by omega), Nat.min_self, List.drop_eq_nil_of_le (by omega), List.append_nil])
  have e : (((0 : Nat) : Int), (⟨a.l.take 0 ++ z.l.drop (min 0 n), by simp; omega⟩ : Ar n τ)) = (0, z) := by
    congr 1
  rw [e] at key
  exact key
theorem foldr_all (p : Nat → Bool) (r : Bool) (l : List Nat) : l.foldr (fun j b => p j && b) r = (l.all p && r) := by
  induction l with
  | nil => simp
  | cons x l ih => simp [ih, Bool.and_assoc]
theorem arB_eq {n : Nat} (g h : Ar n Int) : arB n (fun j => g.get 0 j == h.get 0 j) true = decide (g = h) := by
  unfold arB
  rw [foldr_all, Bool.and_true, Bool.eq_iff_iff, List.all_eq_true, decide_eq_true_eq, ar_ext]
  have hg := g.h
  have hh := h.h
  constructor
  · intro hp
    refine List.ext_getElem (by omega) fun i h1 h2 => ?_
    have := hp i (by simpa [hg] using h1)
    simpa [Ar.get, List.getD_eq_getElem?_getD, h1, h2] using this
  · intro e j _
    simp [Ar.get, e]
end Go.Proofs.Ythkbjnbbahmpkab

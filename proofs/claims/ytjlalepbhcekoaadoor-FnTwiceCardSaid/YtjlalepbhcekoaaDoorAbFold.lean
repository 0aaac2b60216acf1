/- Loops over a list are folds. -/
import Derived.Test.YtjlalepbhcekoaaDoorAbNil
set_option linter.unusedVariables false
namespace Go.Ab
open Go
section
variable {S R τ σ : Type} {tb : S → Option (S ⊕ R)}
theorem Lw_foldI (xs : List τ) (f : σ → τ → σ) (mk : σ → Nat → S) (out : σ → R) (I : σ → Nat → Prop)
    (hs : ∀ (i : Nat) (hi : i < xs.length) (a : σ), I a i → tb (mk a i) = some (.inl (mk (f a xs[i]) (i + 1))) ∧ I (f a xs[i]) (i + 1)) (he : ∀ a, I a xs.length → tb (mk a xs.length) = some (.inr (out a))) (a0 : σ) (h0 : I a0 0) :
    Lw tb (mk a0 0) = some (out (xs.foldl f a0)) ∧ I (xs.foldl f a0) xs.length := by
  have key : ∀ i, i ≤ xs.length → I ((xs.take i).foldl f a0) i := by
    intro i
    induction i with
    | zero => intro _; simpa using h0
    | succ i ih =>
      intro hi
      have := (hs i (by omega) _ (ih (by omega))).2
      rw [List.take_succ_eq_append_getElem (by omega), List.foldl_append]
      exact this
  have hlast := key xs.length (Nat.le_refl _)
  rw [List.take_length] at hlast
  refine ⟨?_, hlast⟩
  have := Lw_run (tb := tb) (fun i => mk ((xs.take i).foldl f a0) i) xs.length (r := out (xs.foldl f a0)) (fun i hi => ?_) ?_
  · simpa using this
  · rw [(hs i hi _ (key i (by omega))).1, List.take_succ_eq_append_getElem hi, List.foldl_append]; rfl
  · rw [List.take_length, he _ hlast]
theorem Lw_fold (xs : List τ) (f : σ → τ → σ) (mk : σ → Nat → S) (out : σ → R)
    (hs : ∀ (i : Nat) (hi : i < xs.length) (a : σ), tb (mk a i) = some (.inl (mk (f a xs[i]) (i + 1)))) (he : ∀ a, tb (mk a xs.length) = some (.inr (out a))) (a0 : σ) :
    Lw tb (mk a0 0) = some (out (xs.foldl f a0)) :=
  (Lw_foldI xs f mk out (fun _ _ => True) (fun i hi a _ => ⟨hs i hi a, trivial⟩) (fun a _ => he a) a0 trivial).1
/-- a fold that may end early -/
def foldE (f : σ → τ → σ ⊕ R) : σ → List τ → σ ⊕ R
  | a, [] => .inl a
  | a, x :: r => match f a x with | .inl b => foldE f b r | .inr z => .inr z
theorem Lw_foldE (xs : List τ) (f : σ → τ → σ ⊕ R) (mk : σ → Nat → S) (out : σ → R)
    (hs : ∀ (i : Nat) (hi : i < xs.length) (a : σ), tb (mk a i) = some (match f a xs[i] with | .inl b => .inl (mk b (i + 1)) | .inr z => .inr z)) (he : ∀ a, tb (mk a xs.length) = some (.inr (out a))) (a0 : σ) :
    Lw tb (mk a0 0) = some (match foldE f a0 xs with | .inl a => out a | .inr z => z) := by
  suffices h : ∀ (ys : List τ) (i : Nat) (a : σ), i + ys.length = xs.length → xs.drop i = ys → Lw tb (mk a i) = some (match foldE f a ys with | .inl a => out a | .inr z => z) from
    h xs 0 a0 (by simp) (by simp)
  intro ys
  induction ys with
  | nil =>
    intro i a hi hd
    have : i = xs.length := by simpa using hi
    subst this
    exact Lw_stop (he a)
  | cons y ys ih =>
    intro i a hi hd
    have hlt : i < xs.length := by simp at hi; omega
    rw [List.drop_eq_getElem_cons hlt] at hd
    injection hd with hy hd
    have h1 := hs i hlt a
    rw [hy] at h1
    unfold foldE
    cases hf : f a y with
    | inl b =>
      rw [hf] at h1
      rw [Lw_step h1]
      exact ih (i + 1) b (by simp at hi; omega) hd
    | inr z =>
      rw [hf] at h1
      exact Lw_stop h1
end
/-! marks -/
section
variable {τ : Type}
/-- what marking writes: the i-th element is m (k + c i) -/
def marks (m : Int → τ) (c : Nat) (k : Int) (n : Nat) : List τ := (List.range n).map fun (i : Nat) => m (k + (c * i : Nat))
theorem marks_len (m : Int → τ) (c : Nat) (k : Int) (n : Nat) : (marks m c k n).length = n := by simp [marks]
theorem marks_get (m : Int → τ) (c : Nat) (k : Int) (n i : Nat) (h : i < n) : (marks m c k n)[i]? = some (m (k + (c * i : Nat))) := by simp [marks, h]
theorem marks_succ (m : Int → τ) (c : Nat) (k : Int) (n : Nat) : marks m c k (n + 1) = marks m c k n ++ [m (k + (c * n : Nat))] := by simp [marks, List.range_succ]
theorem mark_loop {tb : Int × Int × List τ → Option ((Int × Int × List τ) ⊕ (Int × List τ))} (m : Int → τ) (c : Nat) (xs : List τ) (k : Int) (hb : c * xs.length ≤ 1152921504606846976) (hn : xs.length ≤ 1152921504606846976) (h0 : 0 ≤ k) (hk : k ≤ 1152921504606846976)
    (hs : ∀ (j : Int) (i : Nat) (zs : List τ), i < zs.length → zs.length ≤ 1152921504606846976 → 0 ≤ j → j + c ≤ 2305843009213693952 → tb (j, (i : Int), zs) = some (.inl (j + c, ((i + 1 : Nat) : Int), zs.set i (m j))))
    (he : ∀ (j : Int) (zs : List τ), tb (j, (zs.length : Int), zs) = some (.inr (j, zs))) : Lw tb (k, 0, xs) = some (k + (c * xs.length : Nat), marks m c k xs.length) := by
  have key := Lw_run (tb := tb) (fun i => (k + (c * i : Nat), (i : Int), marks m c k i ++ xs.drop i)) xs.length (r := (k + (c * xs.length : Nat), marks m c k xs.length))
    (by
      intro i hi
      have hl : (marks m c k i ++ xs.drop i).length = xs.length := by simp [marks_len]; omega
      have hci : c * (i + 1) ≤ c * xs.length := Nat.mul_le_mul_left c hi
      rw [Nat.mul_succ] at hci
      rw [hs _ i _ (by omega) (by omega) (by omega) (by omega)]
      congr 3
      · rw [Nat.mul_succ]; omega
      · rw [List.set_append_right _ _ (by simp [marks_len]), marks_len, Nat.sub_self, List.drop_eq_getElem_cons hi, List.set_cons_zero, marks_succ, List.append_assoc]
        rfl)
    (by
      have hl : (marks m c k xs.length ++ xs.drop xs.length) = marks m c k xs.length := by simp
      have hl2 : ((xs.length : Nat) : Int) = ((marks m c k xs.length).length : Int) := by rw [marks_len]
      simp only [hl]
      rw [hl2, he])
  have e : ((k + ((c * 0 : Nat) : Int)), ((0 : Nat) : Int), marks m c k 0 ++ xs.drop 0) = (k, 0, xs) := by simp [marks]
  rw [e] at key
  exact key
theorem held_loop {A : Type} {tb : Int × Int → Option ((Int × Int) ⊕ (A ⊕ Int))} (m : Int → τ) (c n : Nat) (k : Int) (hb : c * n ≤ 1152921504606846976) (hn : n ≤ 1152921504606846976) (h0 : 0 ≤ k) (hk : k ≤ 1152921504606846976)
    (hs : ∀ (j : Int) (i : Nat), i < n → (marks m c k n)[i]? = some (m j) → 0 ≤ j → j + c ≤ 2305843009213693952 → tb (j, (i : Int)) = some (.inl (j + c, ((i + 1 : Nat) : Int))))
    (he : ∀ (j : Int), tb (j, (n : Int)) = some (.inr (.inr j))) : Lw tb (k, 0) = some (.inr (k + (c * n : Nat))) := by
  have key := Lw_run (tb := tb) (fun i => (k + (c * i : Nat), (i : Int))) n (r := .inr (k + (c * n : Nat)))
    (by
      intro i hi
      have hci : c * (i + 1) ≤ c * n := Nat.mul_le_mul_left c hi
      rw [Nat.mul_succ] at hci
      rw [hs _ i hi (marks_get m c k n i hi) (by omega) (by omega)]
      congr 3
      rw [Nat.mul_succ]; omega)
    (he _)
  have e : ((k + ((c * 0 : Nat) : Int)), ((0 : Nat) : Int)) = (k, 0) := by simp
  rw [e] at key
  exact key
end
def toB (xs : List Int) : List UInt8 := xs.map fun n => UInt8.ofNat n.toNat
theorem bytesOf_map (xs : List Int) : bytesOf (xs.map (cI .u8)) = some (toB xs) := by
  induction xs with
  | nil => rfl
  | cons x xs ih =>
    show (bytesOf (xs.map (cI .u8))).map _ = _
    rw [ih]; rfl
theorem cvB {x : AV} {M : Mem} {xs : List Int} (h : elems x M = some (xs.map (cI .u8))) : keep (aConvB x M) = some (.str (toB xs), .keep) := by
  unfold aConvB
  rw [h, Option.bind_some, bytesOf_map]; rfl
/-! ### what is made in the front of a drawn region -/
section
variable {β : Type} {K : Nat → Env × List Ob → Option β} {Q : β → Prop} {e : Env} {C : List Ob} {op : Option (AV × Eff)} {v : AV} {d : Option Nat} {cont : Nat → Env → List Ob → Option (Env × List Ob)}
theorem Ev.nfpushE {l : List Ob} (hop : op = some (v, .push l)) (h : Ev (fun k => (cont k (put e d v) (C ++ l)).bind (K k)) Q) : Ev (fun k => (nf op d false e C (cont k)).bind (K k)) Q :=
  Ev.nfpush hop (fun C' hC => by subst hC; exact h)
theorem Ev.nfcpE {opk : Nat → Option (AV × Eff)} {l : List Ob} (hop : Ev opk (fun p => p = (v, .push l))) (h : Ev (fun k => (cont k (put e d v) (C ++ l)).bind (K k)) Q) : Ev (fun k => (nf (opk k) d false e C (cont k)).bind (K k)) Q :=
  Ev.nfcp hop (fun C' hC => by subst hC; exact h)
theorem fendM {M M' : Mem} {C : List Ob} (h : M' = M ++ C.map .live) (l : List Ob) (hl : C = l) : M' = M ++ l.map .live := by subst hl; exact h
end
theorem rd_set {τ : Type} {xs : List τ} {n : Int} {u u' : τ} (h : rd xs n = some u) : rd (xs.set n.toNat u') n = some u' := by
  obtain ⟨h0, h1⟩ := rd_lt h
  unfold rd at h ⊢
  split at h
  · rename_i hn
    rw [if_pos hn, List.getElem?_set_self h0]
  · cases h
end Go.Ab

/- Loops whose rounds are told one by one; rows of places. -/
import Derived.Test.YtjlalepbhcekoaaDoorAbNest
set_option linter.unusedVariables false
set_option linter.unusedSimpArgs false
namespace Go.Ab
open Go
theorem bLoop_mono {l : List Nat} {a : St} : ∀ (n k : Nat) {e : Env} {M : Mem} {q : Out}, n ≤ k → bLoop l a n e M = some q → bLoop l a k e M = some q
  | 0, _, _, _, _, _, h => by simp [bLoop] at h
  | n + 1, 0, _, _, _, hk, _ => by omega
  | n + 1, k + 1, e, M, q, hk, h => by
    unfold bLoop at h ⊢
    cases ha : a (prune l e) M with
    | none => rw [ha] at h; simp at h
    | some p =>
      rw [ha] at h
      obtain ⟨x, e', M'⟩ := p
      cases x with
      | nrm =>
        simp only [Option.bind_some] at h ⊢
        exact bLoop_mono n k (by omega) h
      | _ => exact h
theorem Ev.unroll {β : Type} {K : Nat → Out → Option β} {Q : β → Prop} {e : Env} {M : Mem} {a : Nat → St} {l : List Nat} (n : Nat) (h : Ev (fun k => (bLoop l (a k) n e M).bind (K k)) Q) : Ev (fun k => (bLoop l (a k) k e M).bind (K k)) Q := by
  obtain ⟨y, hy, K0, hK⟩ := h
  refine ⟨y, hy, max K0 n, fun k hk => ?_⟩
  have h1 := hK k (by omega)
  cases hb : bLoop l (a k) n e M with
  | none => simp [hb] at h1
  | some q =>
    show (bLoop l (a k) k e M).bind (K k) = some y
    rw [bLoop_mono n k (by omega) hb]
    simpa [hb] using h1
/-- what follows a round -/
def luK {β : Type} (l : List Nat) (a : Nat → St) (n : Nat) (K : Nat → Out → Option β) : Nat → Out → Option β := fun k q =>
  match q.1 with
  | .nrm => (bLoop l (a k) n q.2.1 q.2.2).bind (K k)
  | _ => K k q
section
variable {β : Type} {K : Nat → Out → Option β} {Q : β → Prop} {e : Env} {M : Mem} {a : Nat → St} {l : List Nat} {n : Nat}
theorem luS (h : ∀ e', e' = prune l e → Ev (fun k => (a k e' M).bind (luK l a n K k)) Q) : Ev (fun k => (bLoop l (a k) (n + 1) e M).bind (K k)) Q := by
  refine Ev.congr (fun k => ?_) (h _ rfl)
  unfold bLoop
  cases a k (prune l e) M with
  | none => rfl
  | some p =>
    obtain ⟨x, e', M'⟩ := p
    cases x <;> rfl
theorem luN (h : Ev (fun k => (bLoop l (a k) n e M).bind (K k)) Q) : Ev (fun k => luK l a n K k (.nrm, e, M)) Q := h
theorem luE {j : Nat} (h : Ev (fun k => K k (.ext j, e, M)) Q) : Ev (fun k => luK l a n K k (.ext j, e, M)) Q := h
theorem luR (h : Ev (fun k => K k (.ret, e, M)) Q) : Ev (fun k => luK l a n K k (.ret, e, M)) Q := h
end
/-! rows of places in one variable -/
def cP (id L : Nat) (o : Nat) : List AV := [.loc id L 0 o]
theorem partsP {M : Mem} {id L : Nat} (h : okRef M id L = true) : ∀ os : List Nat, aParts false M 1 (os.map fun o => .loc id L 0 o) = some (os.map (cP id L))
  | [] => rfl
  | o :: r => by
    have ih := partsP h r
    simp only [List.map_cons, aParts]
    rw [if_pos ⟨rfl, by simp [kcells, vcells, vcells0, stripC, okC, h]⟩, ih]
    rfl
/-! new variables of a callee that writes -/
theorem Nf.call {W W' : List Nat} {M0 M : Mem} {id : Nat} (h : Fr W M0 M) (hn : Nf W' M id) (hw : ∀ j ∈ W', j ≠ id) : Nf W M0 id := fun i y hi h0 => by
  by_cases hm : i ∈ W'
  · exact hw i hm
  · exact hn i y hm (h i y hi h0)
theorem nwN {id : Nat} : ∀ j ∈ ([] : List Nat), j ≠ id := fun j h => by cases h
theorem nwC {a id : Nat} {W : List Nat} (h : a ≠ id) (hr : ∀ j ∈ W, j ≠ id) : ∀ j ∈ a :: W, j ≠ id := fun j hj => (List.mem_cons.1 hj).elim (fun e => e ▸ h) (hr j)
/-! rows that are given up -/
section
variable {τ : Type} {c : τ → List AV} {xs : List τ} {M M' M'' : Mem} {id L t s sz : Nat} {v v' : AV} {r r' cs cs' vs vs' : List AV} {f : AV → Mem → AV × Mem}
theorem frz1_row (ho : M[id]? = some (.live ⟨.grow, t, s, xs.map c⟩)) (hL : L = xs.length) (hf : Fl c sz) : frz1 (.lsl id L 0 L) M = (.sl (some t) (xs.map c), M.set id .dead) := by
  subst hL
  simp only [frz1, getOb_of ho (by simp : _ = xs.length)]
  rw [if_pos ⟨trivial, trivial, trivial, allTree_map hf⟩]
theorem frz1_flat {x : AV} (h : flatC x = true) : frz1 x M = (x, M) := by cases x <;> first | rfl | simp [flatC] at h
theorem fz0 : frzL f [] M = ([], M) := rfl
theorem fz1 (h : f v M = (v', M')) (hr : frzL f r M' = (r', M'')) : frzL f (v :: r) M = (v' :: r', M'') := by simp only [frzL, h, hr]
theorem fzA (h : frzL frz1 cs M = (cs', M')) : frz2 (.agg cs) M = (.agg cs', M') := by simp only [frz2, h]
theorem fzT (h : frzL frz2 vs M = (vs', M')) : frz (.tup vs) M = (.tup vs', M') := by simp only [frz, h]
theorem fzR {n : Nat} {c : τ → List AV} {z : τ} {g : Ar n τ} (h0 : ∀ (x : AV) (M : Mem), flatC x = true → f x M = (x, M)) (hf : FlF c) (hr : frzL f r M = (r', M'')) : frzL f (arC c z g ++ r) M = (arC c z g ++ r', M'') := by
  have h1 := arC_flF hf z g
  generalize arC c z g = l at h1 ⊢
  induction l with
  | nil => exact hr
  | cons x l ih =>
    simp only [List.all_cons, Bool.and_eq_true] at h1
    simp only [List.cons_append, frzL, h0 x M h1.1, ih h1.2]
end
end Go.Ab

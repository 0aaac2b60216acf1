/- A call, as the caller tells it. -/
import Derived.Test.YtbhbmgmnnkcmcaaDoorAbCall2
set_option linter.unusedVariables false
set_option linter.unusedSimpArgs false
namespace Go.Ab
open Go Go.RowKit

/-- What is asked of a callee: told once, for whatever follows. -/
def CallOk (P : Program) (call : CallF) : Prop :=
  ∀ f args M out M', call f args M = some (out, M') → ∀ (B : Nat) (w : World) (ρ : Pm) (vals : Array Value), MR P.cellsOf B w M ρ → args.length = vals.size →
    (∀ (i : Nat) x v, args[i]? = some x → vals[i]? = some v → RV P.cellsOf B w M ρ x v) →
    ∀ (o : Oper) (a : Act) (K : Act → World → Prop) (Q : Exit → Act → World → Prop),
      (∀ v w' ρ', Step w M ρ w' M' ρ' → MR P.cellsOf B w' M' ρ' → RV P.cellsOf B w' M' ρ' out v → K (a.put o.dst v) w') → o.upon P a K Q ((callFunc f vals).run P w)

section
variable {P : Program} {S : TypeId → Nat} {B B' : Nat} {w w' : World} {M A A' : Mem} {ρ ρ' : Pm} {V : Nat → Option Obj} {R' : RefF}

theorem fillP_get : ∀ (l : List Ob) (A : Mem) (n i : Nat), n + l.length ≤ A.length → (fillP A n l)[i]? = if n ≤ i ∧ i < n + l.length then (l[i - n]?).map Ent.live else A[i]?
  | [], A, n, i, _ => by
    rw [if_neg (by simp)]
    rfl
  | o :: l, A, n, i, h => by
    simp only [List.length_cons] at h
    simp only [fillP]
    rw [fillP_get l (A.set n (.live o)) (n + 1) i (by simp; omega)]
    by_cases h1 : i = n
    · subst h1
      rw [if_neg (by omega), if_pos (by simp only [List.length_cons]; omega), List.getElem?_set_self (by omega)]
      simp
    · by_cases h2 : n + 1 ≤ i ∧ i < n + 1 + l.length
      · rw [if_pos h2, if_pos (by simp only [List.length_cons]; omega), show i - n = (i - (n + 1)) + 1 by omega, List.getElem?_cons_succ]
      · rw [if_neg h2, if_neg (by simp only [List.length_cons]; omega), List.getElem?_set_ne (Ne.symm h1)]

/-- The places of the rows that come in. -/
def rputs (ρ : Pm) (n : Nat) (pls : List Pl) : Pm := ⟨fun i => if n ≤ i ∧ i < n + pls.length then pls.getD (i - n) none else ρ i, ρ.hid⟩

theorem apartT_spec : ∀ {l : List Ob} {i j : Nat} {a b : Ob}, apartT l = true → l[i]? = some a → l[j]? = some b → a.t = b.t → i = j
  | [], i, j, a, b, _, h, _, _ => by simp at h
  | o :: l, i, j, a, b, h, hi, hj, ht => by
    simp only [apartT, Bool.and_eq_true, List.all_eq_true] at h
    cases i with
    | zero =>
      simp at hi
      subst hi
      cases j with
      | zero => rfl
      | succ j =>
        have := h.1 b (List.mem_of_getElem? (by simpa using hj))
        rw [ht] at this
        simp at this
    | succ i =>
      cases j with
      | zero =>
        simp at hj
        subst hj
        have := h.1 a (List.mem_of_getElem? (by simpa using hi))
        rw [ht] at this
        simp at this
      | succ j => exact congrArg (· + 1) (apartT_spec h.2 (by simpa using hi) (by simpa using hj) ht)

theorem thaw_step (hA : MR S B w A ρ) (hk : Below w.heap.size w w') {n : Nat} {x : AV × List Ob} {u : Value} (hp : ∀ k, k < x.2.length → A[n + k]? = some .pend) (ht : ThawOk S w.heap.size w' V B n x u) (hap : apartT x.2 = true) (hs0 : (x.2.all fun o => decide (0 < o.s)) = true) :
    ∃ ρ', Step w A ρ w' (fillP A n x.2) ρ' ∧ MR S B w' (fillP A n x.2) ρ' ∧ RV S B w' (fillP A n x.2) ρ' x.1 u := by
  obtain ⟨pls, h1, h2, h3⟩ := ht
  have hlen : n + x.2.length ≤ A.length ∨ x.2.length = 0 := by
    by_cases h0 : x.2.length = 0
    · exact .inr h0
    · have := (List.getElem?_eq_some_iff.1 (hp (x.2.length - 1) (by omega))).1
      exact .inl (by omega)
  have hget : ∀ i, (fillP A n x.2)[i]? = if n ≤ i ∧ i < n + x.2.length then (x.2[i - n]?).map Ent.live else A[i]? := by
    intro i
    rcases hlen with hl | h0
    · exact fillP_get x.2 A n i hl
    · have : x.2 = [] := List.length_eq_zero_iff.1 h0
      rw [this, if_neg (by simp)]
      rfl
  have hplk : ∀ k ob, x.2[k]? = some ob → ∃ p, pls[k]? = some p ∧ (rputs ρ n pls) (n + k) = p ∧ OwnAt S w.heap.size w' ob p := by
    intro k ob hk'
    have hlt := (List.getElem?_eq_some_iff.1 hk').1
    have hlt' : k < pls.length := by omega
    refine ⟨pls[k], List.getElem?_eq_getElem hlt', ?_, h2 k ob _ hk' (List.getElem?_eq_getElem hlt')⟩
    simp [rputs, hlt']
  have hid : ∀ id, ((fillP A n x.2)[id]? = A[id]? ∧ rputs ρ n pls id = ρ id) ∨ (A[id]? = some .pend ∧ ∃ ob, (fillP A n x.2)[id]? = some (.live ob) ∧ ∀ b cap, rputs ρ n pls id = some (b, cap) → w.heap.size ≤ b) := by
    intro id
    by_cases hin : n ≤ id ∧ id < n + x.2.length
    · obtain ⟨k, rfl⟩ : ∃ k, id = n + k := ⟨id - n, by omega⟩
      have hk' : k < x.2.length := by omega
      obtain ⟨p, g1, g2, g3⟩ := hplk k x.2[k] (List.getElem?_eq_getElem hk')
      refine .inr ⟨hp k hk', x.2[k], ?_, fun b cap hb => ?_⟩
      · rw [hget, if_pos hin]; simp [hk']
      · rw [g2] at hb
        subst hb
        exact g3.2.2.1
    · refine .inl ⟨by rw [hget, if_neg hin], ?_⟩
      simp only [rputs]
      rw [if_neg (by omega)]
  have hnew : ∀ id ob, A[id]? = some .pend → (fillP A n x.2)[id]? = some (.live ob) → ∃ k p, id = n + k ∧ x.2[k]? = some ob ∧ pls[k]? = some p ∧ (rputs ρ n pls) id = p ∧ OwnAt S w.heap.size w' ob p := by
    intro id ob g1 g2
    rw [hget] at g2
    by_cases hin : n ≤ id ∧ id < n + x.2.length
    · rw [if_pos hin] at g2
      obtain ⟨o, g3, g4⟩ := Option.map_eq_some_iff.1 g2
      injection g4 with g4
      subst g4
      obtain ⟨p, k1, k2, k3⟩ := hplk (id - n) o g3
      exact ⟨id - n, p, by omega, g3, k1, by rw [show n + (id - n) = id by omega] at k2; exact k2, k3⟩
    · rw [if_neg hin, g1] at g2
      cases g2
  refine ⟨rputs ρ n pls, grow_step hA hk rfl hid, grow_mr hA hk rfl hid (fun id ob g1 g2 => ?_) (fun id id' b c c' g1 g2 g3 g4 g5 g6 => ?_), h3 _ _ (fun k ob p g1 g2 => ?_)⟩
  · obtain ⟨k, p, rfl, k2, k3, k4, k5⟩ := hnew id ob g1 g2
    rw [k4]
    have h0 : 0 < ob.s := by simpa using List.all_eq_true.1 hs0 ob (List.mem_of_getElem? k2)
    obtain ⟨q1, q2, q3⟩ := k5
    cases p with
    | none =>
      simp only at q3
      exact ⟨q1, h0, by rw [q3.2]; simp, by rw [q3.2]; simp, q3⟩
    | some bc =>
      obtain ⟨b, cap⟩ := bc
      obtain ⟨q4, cs, q5, q6, q7, q8, q9, q10⟩ := q3
      exact obr_of_row q1 h0 (fun e he y hy => treeOk_cellOk (flat_tree (q2 e he y hy))) q5 q6 q7 q8 q9 (q10 _ _ _)
  · obtain ⟨ob, g5⟩ := g5
    obtain ⟨ob', g6⟩ := g6
    obtain ⟨k, p, rfl, k2, k3, k4, k5⟩ := hnew id ob g1 g5
    obtain ⟨k', p', rfl, k2', k3', k4', k5'⟩ := hnew id' ob' g2 g6
    rw [k4] at g3
    rw [k4'] at g4
    subst g3
    subst g4
    obtain ⟨_, _, _, cs, q5, _⟩ := k5
    obtain ⟨_, _, _, cs', q5', _⟩ := k5'
    rw [q5] at q5'
    injection q5' with q5'
    injection q5' with e1 e2
    rw [apartT_spec hap k2 k2' e2]
  · have hk' := (List.getElem?_eq_some_iff.1 g1).1
    obtain ⟨p', k1, k2, k3⟩ := hplk k ob g1
    rw [g2] at k1
    obtain rfl := Option.some.inj k1
    have : (fillP A n x.2)[n + k]? = some (.live ob) := by rw [hget, if_pos (by omega), Nat.add_sub_cancel_left, g1]; rfl
    simp only [Ref, this, if_true]
    rw [k2]

/-- May the operation's outcome be put where it belongs? -/
def Rdy (M A : Mem) (n : Nat) : Eff → Prop
  | .keep => True
  | .push l => ∀ k, k < l.length → A[n + k]? = some .pend
  | .put _ => A = M

theorem call_rc {call : CallF} (hcall : CallOk P call) (hm : MExt M A) (hA : MR P.cellsOf B w A ρ) {rw_ : Nat → Bool} {th : Bool} {n f : Nat} {args : List AV} {y : AV} {eff : Eff} (h : aCall P.cellsOf rw_ call th n f args M = some (y, eff)) (hr : Rdy M A n eff)
    {vals : Array Value} (hl : args.length = vals.size) (hv : ∀ (i : Nat) x v, args[i]? = some x → vals[i]? = some v → RV P.cellsOf B w A ρ x v)
    (o : Oper) (a : Act) (K : Act → World → Prop) (Q : Exit → Act → World → Prop)
    (hK : ∀ v w' ρ', Step w A ρ w' (effP A n eff) ρ' → MR P.cellsOf B w' (effP A n eff) ρ' → RV P.cellsOf B w' (effP A n eff) ρ' y v → K (a.put o.dst v) w') : o.upon P a K Q ((callFunc f vals).run P w) := by
  unfold aCall at h
  split at h
  · obtain ⟨p, hp, h⟩ := Option.map_eq_some_iff.1 h
    injection h with e1 e2
    subst e1
    subst e2
    have hAM : A = M := hr
    subst hAM
    exact hcall f args A p.1 p.2 hp B w ρ vals hA hl hv o a K Q hK
  · obtain ⟨p, hp, h⟩ := Option.bind_eq_some_iff.1 h
    split at h
    rotate_left
    · cases h
    rename_i hown
    -- the callee's view
    have hidlt : ∀ b, ρ.hid b → b < w.heap.size := fun b hb => Nat.lt_of_lt_of_le (hA.hid b hb) hA.lo.1
    have key : ∀ H : Nat → Prop, (∀ b, H b → b < w.heap.size) → (∀ b, H b → Held A ρ b ∨ ρ.hid b) → (∀ b, ρ.hid b → H b) → (args.any hasRef = true → ∀ b, Held A ρ b → ¬ H b) → (args.any hasRef = false → ∀ b, Held A ρ b → H b) →
        o.upon P a K Q ((callFunc f vals).run P w) := by
      intro H hH1 hH2 hH3 hH4 hH5
      have hM0 : MR P.cellsOf w.heap.size w [] ⟨fun _ => none, H⟩ := ⟨fun id o h => by simp at h, fun id id' o o' b c c' h => by simp at h, hH1, ⟨Nat.le_refl _, fun id o b c h => by simp at h⟩, hA.fx.mono hA.lo.1 fun _ _ => rfl⟩
      have hnh : ∀ (ρ0 : Pm) b, ¬ Held [] ρ0 b := by rintro ρ0 b ⟨id, o, c, h, _⟩; simp at h
      have hV0 : ∀ b, ¬ H b → View w [] ⟨fun _ => none, H⟩ b = w.heap[b]? := fun b hb => View.of_not (hnh _ b) hb
      have hV1 : VLe (View w A ρ) (View w [] ⟨fun _ => none, H⟩) := by
        intro b ob hb
        obtain ⟨g1, g2⟩ := View.some hb
        have g3 := View.nhid hb
        rw [hV0 b (fun hh => (hH2 b hh).elim g1 g3)]
        exact g2
      refine hcall f (args.map (rArg M)) [] p.1 p.2 hp w.heap.size w ⟨fun _ => none, H⟩ vals hM0 (by simpa using hl) (fun i x v h1 h2 => ?_) o a K Q (fun v w' ρ' s1 s2 s3 => ?_)
      · rw [List.getElem?_map] at h1
        obtain ⟨x0, h3, rfl⟩ := Option.map_eq_some_iff.1 h1
        refine rArg_rc hm hA hV1 (fun href b hb => ?_) (hv i x0 v h3 h2)
        exact hV0 b (hH4 (List.any_eq_true.2 ⟨x0, List.mem_of_getElem? h3, href⟩) b hb)
      · have hbel : Below w.heap.size w w' := ⟨s1.os, s1.tape, s1.output, s1.size, fun b hb => s1.block b hb (hnh _ b)⟩
        have hV3 : ∀ b, w.heap.size ≤ b → View w' A ρ b = w'.heap[b]? := fun b hb => View.of_not (fun hh => by have := held_lt hA hh; omega) (fun hh => by have := hidlt b hh; omega)
        have hV1' : VLe (View w' p.2 ρ') (View w' A ρ) ∨ ownAll (rRes p.2 p.1) = true := by
          cases hq : args.any hasRef with
          | true => exact .inr (hown hq)
          | false =>
            refine .inl (fun b ob hb => ?_)
            have g3 := View.nhid hb
            rw [s1.hid] at g3
            rw [View.of_not (fun hh => g3 (hH5 hq b hh)) (fun hh => g3 (hH3 b hh))]
            exact (View.some hb).2
        have hres := rRes_rc (R' := Ref A ρ) s2 hA.lo.1 hV3 hV1' s3
        split at h
        · rename_i hth
          unfold thawed at h
          split at h
          rotate_left
          · cases h
          rename_i hc
          simp only [Option.some.injEq, Prod.mk.injEq] at h
          obtain ⟨e1, e2⟩ := h
          subst e1
          subst e2
          have hres2 := rRes_rc (B := w.heap.size) (V := View w' A ρ) (R' := Ref A ρ) s2 (Nat.le_refl _) hV3 (.inr hc.1) s3
          have hok := thaw_ok (w := w') (fun b o hb => (View.some hb).2) B n hc.1 hres2
          obtain ⟨ρ2, t1, t2, t3⟩ := thaw_step hA hbel hr hok hc.2.1 hc.2.2
          exact hK v w' ρ2 t1 t2 t3
        · simp only [Option.some.injEq, Prod.mk.injEq] at h
          obtain ⟨e1, e2⟩ := h
          subst e1
          subst e2
          obtain ⟨t1, t2⟩ := kept_step hA hbel
          exact hK v w' ρ t1 t2 hres
    cases hq : args.any hasRef with
    | true =>
      refine key ρ.hid hidlt (fun b hb => .inr hb) (fun b hb => hb) (fun _ b hb hh => ?_) (fun h => by rw [hq] at h; cases h)
      obtain ⟨id, o', c, g1, g2⟩ := hb
      have := hA.lo.2 id o' b c g1 g2
      have := hA.hid b hh
      omega
    | false => exact key (fun b => Held A ρ b ∨ ρ.hid b) (fun b hb => hb.elim (held_lt hA) (hidlt b)) (fun b hb => hb) (fun b hb => .inr hb) (fun h => by rw [hq] at h; cases h) (fun _ b hb => .inl hb)
end
end Go.Ab

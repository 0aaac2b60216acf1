/- Regions in any order: one step, and the whole. -/
import Derived.Test.YtbhbmgmnnkcmcaaDoorAbDraw2
set_option linter.unusedVariables false
set_option linter.unusedSimpArgs false
namespace Go.Ab
open Go Go.RowKit

abbrev In (L : Array Bool) (i : Nat) : Prop := L.getD i false = true
theorem in_set {L : Array Bool} {i k : Nat} (hi : i < L.size) : In (L.setIfInBounds i true) k ↔ In L k ∨ k = i := by
  unfold In
  rw [Array.getD_eq_getD_getElem?, Array.getD_eq_getD_getElem?, Array.getElem?_setIfInBounds]
  by_cases h : i = k
  · subst h; simp [hi]
  · rw [if_neg h]
    constructor
    · exact .inl
    · rintro (h1 | h1)
      · exact h1
      · exact absurd h1.symm h

section
variable {c : Cx} {call : CallF} {ob th calm suf : List Nat} {ops : Array Oper} {B nt : Nat} {M0 : Mem} {e0 : Env} {FT BT : List Tr} {w0 : World} {ρ0 : Pm}

def MemOk (calm : List Nat) (M0 : Mem) (FT BT : List Tr) (L : Array Bool) (A : Mem) : Prop :=
  ∃ s, s ≤ BT.length ∧ (∀ (q : Nat) t, BT[q]? = some t → (In L t.i ↔ q < s)) ∧ A = (if s = 0 then M0 ++ FT.flatMap (seg fun i => L.getD i false) else memA (M0 ++ (FT.flatMap obsOf).map .live) (BT.take s)) ∧ (0 < s → ∀ t ∈ FT, In L t.i ∨ has calm t.i = true)

structure Inv (c : Cx) (calm : List Nat) (ops : Array Oper) (B nt : Nat) (M0 : Mem) (e0 : Env) (FT BT : List Tr) (w0 : World) (ρ0 : Pm) (L : Array Bool) (a : Act) (w : World) (ρ : Pm) (A : Mem) : Prop where
  size : L.size = ops.size
  down : ∀ k o, ops[k]? = some o → In L k → ∀ j ∈ edgesOf o, In L j
  env : ∀ x, (∀ t ∈ FT ++ BT, t.o.dst = some x → In L t.i → RV c.P.cellsOf B w A ρ t.y (a.tmps.getD x Go.undef)) ∧ ((∀ t ∈ FT ++ BT, t.o.dst = some x → ¬ In L t.i) → RV c.P.cellsOf B w A ρ (eget e0 x) (a.tmps.getD x Go.undef))
  mem : MemOk calm M0 FT BT L A
  mr : MR c.P.cellsOf B w A ρ
  nts : nt ≤ a.tmps.size
  defers : a.defers = []
  step : Step w0 M0 ρ0 w A ρ

section
variable (T : Told c call ob th calm suf ops nt M0 e0 FT BT)
include T

theorem Told.same {a b : Tr} (ha : a ∈ FT ++ BT) (hb : b ∈ FT ++ BT) (h : a.i = b.i) : a = b := by
  obtain ⟨p, hp⟩ := List.getElem?_of_mem ha
  obtain ⟨q, hq⟩ := List.getElem?_of_mem hb
  have := T.inj hp hq h
  subst this
  rw [hp] at hq
  exact Option.some.inj hq

theorem dep_env {L : Array Bool} {a : Act} {w : World} {ρ : Pm} {A : Mem} (I : Inv c calm ops B nt M0 e0 FT BT w0 ρ0 L a w ρ A) {q : Nat} {t : Tr} (hq : (FT ++ BT)[q]? = some t) (hn : ¬ In L t.i) (hr : ∀ j ∈ edgesOf t.o, In L j) {x : Nat} (hx : x ∈ rds t.o ++ gds ops t.o) :
    RV c.P.cellsOf B w A ρ (eget t.e x) (a.tmps.getD x Go.undef) := by
  have ht := List.mem_of_getElem? hq
  rw [T.env hq]
  rcases envA_get x ((FT ++ BT).take q) e0 with ⟨t', h1, h2, h3⟩ | ⟨h1, h2⟩
  · rw [h3]
    have hm' := List.mem_of_mem_take h1
    obtain ⟨q', hq'⟩ := List.getElem?_of_mem h1
    rw [List.getElem?_take] at hq'
    split at hq'
    · rename_i hlt
      have hb := T.lt_of hq' hq hlt
      refine (I.env x).1 t' hm' h2 ?_
      rcases T.deps ht hm' hx h2 with h4 | h4 | h4
      · have := T.inj hq hq' h4; omega
      · exact hr _ h4.1
      · exfalso
        rcases hb with ⟨k1, k2⟩ | ⟨k1, k2⟩
        · rcases h4.2.2 with k | k
          · rw [k] at k2; cases k2
          · rw [k] at k1; cases k1
        · omega
    · cases hq'
  · rw [h2]
    refine (I.env x).2 (fun t' hm' h3 hin => ?_)
    rcases T.deps ht hm' hx h3 with h4 | h4 | h4
    · exact hn (by rw [h4]; exact hin)
    · obtain ⟨q', hq'⟩ := List.getElem?_of_mem hm'
      have hb : bef suf t' t := by
        rcases h4.2.2 with k | k
        · cases hs : has suf t'.i with
          | false => exact .inl ⟨hs, k⟩
          | true => exact .inr ⟨by rw [hs, k], h4.2.1⟩
        · cases hs : has suf t.i with
          | false => exact .inr ⟨by rw [hs, k], h4.2.1⟩
          | true => exact .inl ⟨k, hs⟩
      have hlt := T.pos hq' hq hb
      exact h1 t' (List.mem_of_getElem? (i := q') (by rw [List.getElem?_take, if_pos hlt]; exact hq')) h3
    · exact hn (clos (In := In L) I.down _ _ hin h4.1)

theorem Inv.next {L : Array Bool} {a : Act} {w w' : World} {ρ ρ' : Pm} {A A' : Mem} (I : Inv c calm ops B nt M0 e0 FT BT w0 ρ0 L a w ρ A) {t : Tr} (ht : t ∈ FT ++ BT) (hr : ∀ j ∈ edgesOf t.o, In L j) (hn : ¬ In L t.i)
    (hst : Step w A ρ w' A' ρ') (hmr : MR c.P.cellsOf B w' A' ρ') {u : Value} (hu : RV c.P.cellsOf B w' A' ρ' t.y u) (hm : MemOk calm M0 FT BT (L.setIfInBounds t.i true) A') :
    Inv c calm ops B nt M0 e0 FT BT w0 ρ0 (L.setIfInBounds t.i true) (a.put t.o.dst u) w' ρ' A' := by
  have ho := T.at_ ht
  have hlt : t.i < L.size := by rw [I.size]; exact (Array.getElem?_eq_some_iff.1 ho).1
  have hin : ∀ k, In (L.setIfInBounds t.i true) k ↔ In L k ∨ k = t.i := fun k => in_set hlt
  have hd : ∀ x, t.o.dst = some x → x < a.tmps.size := fun x hx => Nat.lt_of_lt_of_le (dstOk_spec (T.dst t.o (by
    have := List.mem_of_getElem? (l := ops.toList) (i := t.i) (by simpa using ho); exact this)) x hx) I.nts
  refine ⟨by simpa using I.size, fun k o hk hi j hj => ?_, fun x => ⟨fun t' ht' hd' hi => ?_, fun hno => ?_⟩, hm, hmr, by rw [(put_tmps 0 hd).1]; exact I.nts, by rw [(put_tmps (u := u) 0 hd).2.1]; exact I.defers, I.step.trans hst⟩
  · rw [hin] at hi ⊢
    rcases hi with hi | hi
    · exact .inl (I.down k o hk hi j hj)
    · subst hi
      rw [ho] at hk
      obtain rfl := Option.some.inj hk
      exact .inl (hr j hj)
  · rw [(put_tmps x hd).2.2]
    by_cases hx : t.o.dst = some x
    · rw [if_pos hx]
      rw [← T.same ht ht' (T.one ht ht' hx hd')]
      exact hu
    · rw [if_neg hx]
      rw [hin] at hi
      rcases hi with hi | hi
      · exact hst.rv ((I.env x).1 t' ht' hd' hi)
      · exfalso
        rw [T.same ht' ht hi] at hd'
        exact hx hd'
  · rw [(put_tmps x hd).2.2]
    by_cases hx : t.o.dst = some x
    · exact absurd ((hin t.i).2 (.inr rfl)) (hno t ht hx)
    · rw [if_neg hx]
      exact hst.rv ((I.env x).2 (fun t' ht' hd' hi => hno t' ht' hd' ((hin _).2 (.inl hi))))

/-- The store after one more operation of the front. -/
theorem mem_front {L : Array Bool} {A : Mem} (hm : MemOk calm M0 FT BT L A) (hL : L.size = ops.size) {q : Nat} {t : Tr} (hq : FT[q]? = some t) (hn : ¬ In L t.i) :
    MExt t.M A ∧ Rdy t.M A t.n t.eff ∧ MemOk calm M0 FT BT (L.setIfInBounds t.i true) (effP A t.n t.eff) := by
  obtain ⟨s, h1, h2, h3, h4⟩ := hm
  obtain ⟨_, _, k3, k4, k5, k6⟩ := T.fr q t hq
  have ht := List.mem_of_getElem? hq
  have hlt : t.i < L.size := by rw [hL]; exact (Array.getElem?_eq_some_iff.1 (T.front ht).1).1
  have hin : ∀ k, In (L.setIfInBounds t.i true) k ↔ In L k ∨ k = t.i := fun k => in_set hlt
  have hbt : ∀ (q : Nat) t', BT[q]? = some t' → (In (L.setIfInBounds t.i true) t'.i ↔ q < s) := by
    intro q' t' hq'
    rw [hin, ← h2 q' t' hq']
    refine ⟨fun h => h.resolve_right (fun e => ?_), .inl⟩
    have k1 := (T.front ht).2
    have k2 := (T.back (List.mem_of_getElem? hq')).2
    rw [e, k1] at k2
    cases k2
  have hfr : 0 < s → ∀ t' ∈ FT, In (L.setIfInBounds t.i true) t'.i ∨ has calm t'.i = true := fun h0 t' ht' => (h4 h0 t' ht').imp (fun h => (hin _).2 (.inl h)) id
  by_cases h0 : s = 0
  · rw [if_pos h0] at h3
    have hs := segs_step (In := fun i => L.getD i false) (In' := fun i => (L.setIfInBounds t.i true).getD i false) hq (Bool.eq_false_iff.2 hn) ((hin t.i).2 (.inr rfl)) (fun t' ht' hne => by
        have := hin t'.i
        unfold In at this
        cases h5 : L.getD t'.i false <;> cases h6 : (L.setIfInBounds t.i true).getD t'.i false <;> simp_all) (fun q' t' hq' e => by
        have e1 : (FT ++ BT)[q']? = some t' := by rw [List.getElem?_append_left (List.getElem?_eq_some_iff.1 hq').1]; exact hq'
        have e2 : (FT ++ BT)[q]? = some t := by rw [List.getElem?_append_left (List.getElem?_eq_some_iff.1 hq).1]; exact hq
        exact T.inj e1 e2 e) M0
    simp only [List.nil_append] at k3
    refine ⟨?_, ?_, s, h1, hbt, ?_, hfr⟩
    · rw [k4]
      split
      · intro id h; simp at h
      · rw [h3]; intro id h; rw [List.getElem?_append_left h]
    · rcases k6 with k6 | ⟨l, k6⟩
      · rw [k6]; trivial
      · rw [k6, h3, k3]; exact (hs.1 l k6).2
    · rw [if_pos h0]
      rcases k6 with k6 | ⟨l, k6⟩
      · rw [k6]
        show A = _
        rw [h3]
        exact hs.2 k6
      · rw [k6, h3, k3]; exact (hs.1 l k6).1
  · rw [if_neg h0] at h3
    have hc : has calm t.i = true := (h4 (by omega) t ht).resolve_left hn
    rw [k5 hc]
    rw [if_pos hc] at k4
    refine ⟨?_, trivial, s, h1, hbt, by rw [if_neg h0]; exact h3, hfr⟩
    rw [k4]
    intro id h; simp at h

/-- .. and of the back. -/
theorem mem_back {L : Array Bool} {A : Mem} (hd : ∀ k o, ops[k]? = some o → In L k → ∀ j ∈ edgesOf o, In L j) (hm : MemOk calm M0 FT BT L A) (hL : L.size = ops.size) {q : Nat} {t : Tr} (hq : BT[q]? = some t) (hn : ¬ In L t.i) (hr : ∀ j ∈ edgesOf t.o, In L j) :
    t.M = A ∧ t.n = A.length ∧ MemOk calm M0 FT BT (L.setIfInBounds t.i true) (t.eff.on A) := by
  obtain ⟨s, h1, h2, h3, h4⟩ := hm
  obtain ⟨_, _, k3, k4⟩ := T.br q t hq
  have ht := List.mem_of_getElem? hq
  have hlt : t.i < L.size := by rw [hL]; exact (Array.getElem?_eq_some_iff.1 (T.back ht).1).1
  have hin : ∀ k, In (L.setIfInBounds t.i true) k ↔ In L k ∨ k = t.i := fun k => in_set hlt
  have hd' : ∀ k o, ops[k]? = some o → In (L.setIfInBounds t.i true) k → ∀ j ∈ edgesOf o, In (L.setIfInBounds t.i true) j := by
    intro k o hk hi j hj
    rw [hin] at hi ⊢
    rcases hi with hi | hi
    · exact .inl (hd k o hk hi j hj)
    · subst hi
      rw [(T.back ht).1] at hk
      obtain rfl := Option.some.inj hk
      exact .inl (hr j hj)
  have cl : ∀ b : Tr, ((masks [] ops.toList).getD t.i 0).testBit b.i = true → b.i ≠ t.i → In L b.i := fun b hb hne => by
    have := clos (In := In (L.setIfInBounds t.i true)) hd' t.i b.i ((hin _).2 (.inr rfl)) hb
    exact ((hin _).1 this).resolve_right hne
  have posB : ∀ (q' : Nat) t', BT[q']? = some t' → (FT ++ BT)[FT.length + q']? = some t' := fun q' t' h => by
    rw [List.getElem?_append_right (by omega), Nat.add_sub_cancel_left]; exact h
  have hpure : ∀ b ∈ FT, In L b.i ∨ has calm b.i = true := by
    intro b hb
    have hne : t.i ≠ b.i := fun e => by
      have := (T.front hb).2; rw [← e, (T.back ht).2] at this; cases this
    rcases (T.suffix ht (List.mem_append_left _ hb) hne).2 (T.front hb).2 with h | h
    · exact .inr h
    · exact .inl (cl b h (Ne.symm hne))
  have hqs : q = s := by
    have hge : s ≤ q := by
      rcases Nat.lt_or_ge q s with h | h
      · exact absurd ((h2 q t hq).2 h) hn
      · exact h
    rcases Nat.eq_or_lt_of_le hge with h | h
    · exact h.symm
    · exfalso
      have hlq := (List.getElem?_eq_some_iff.1 hq).1
      have hs' : BT[s]? = some BT[s] := List.getElem?_eq_getElem (by omega)
      have hm' := List.mem_of_getElem? hs'
      have hlt2 := T.lt_of (posB s _ hs') (posB q t hq) (by omega)
      have hlt3 : BT[s].i < t.i := by
        rcases hlt2 with ⟨e1, e2⟩ | ⟨e1, e2⟩
        · rw [(T.back hm').2] at e1; cases e1
        · exact e2
      rcases (T.suffix ht (List.mem_append_right _ hm') (by omega)).1 (T.back hm').2 with h5 | h5
      · omega
      · have := (h2 s _ hs').1 (cl _ h5 (by omega))
        omega
  subst hqs
  have hA : A = memA (M0 ++ (FT.flatMap obsOf).map .live) (BT.take q) := by
    by_cases h0 : q = 0
    · rw [if_pos h0] at h3
      rw [h3, h0, segs_all (fun t' ht' => (hpure t' ht').imp id (fun hc => by
        obtain ⟨q', hq'⟩ := List.getElem?_of_mem ht'
        exact (T.fr q' t' hq').2.2.2.2.1 hc))]
      rfl
    · rw [if_neg h0] at h3; exact h3
  refine ⟨by rw [k3, hA], by rw [k4, k3, hA], q + 1, (List.getElem?_eq_some_iff.1 hq).1, fun q' t' hq' => ?_, ?_, fun _ t' ht' => (hpure t' ht').imp (fun h => (hin _).2 (.inl h)) id⟩
  · rw [hin, h2 q' t' hq']
    constructor
    · rintro (h | h)
      · omega
      · have := T.inj (posB q' t' hq') (posB q t hq) h
        omega
    · intro h
      rcases Nat.lt_or_ge q' q with h5 | h5
      · exact .inl h5
      · have : q' = q := by omega
        subst this
        rw [hq] at hq'
        obtain rfl := Option.some.inj hq'
        exact .inr rfl
  · rw [if_neg (by omega), memA_take hq, ← hA]

/-- One step. -/
theorem draw_step {L : Array Bool} {a : Act} {w : World} {ρ : Pm} {A : Mem} (I : Inv c calm ops B nt M0 e0 FT BT w0 ρ0 L a w ρ A) {i : Nat} (hi : i ∈ Region.ready .any ops L) {K : Act → World → Prop} {Q : Exit → Act → World → Prop}
    (hK : ∀ a' w' ρ' A', Inv c calm ops B nt M0 e0 FT BT w0 ρ0 (L.setIfInBounds i true) a' w' ρ' A' → K a' w') : wpOp c.P ops Q i K a w := by
  unfold Region.ready at hi
  obtain ⟨hr1, hr2⟩ := List.mem_filter.1 hi
  have hlt : i < ops.size := List.mem_range.1 hr1
  have ho : ops[i]? = some ops[i] := Array.getElem?_eq_getElem hlt
  simp only [ho, Option.map_some, Option.getD_some, Bool.and_eq_true, Bool.not_eq_true'] at hr2
  obtain ⟨t, ht, rfl, hto⟩ := T.all ho
  have hn : ¬ In L t.i := by
    unfold In
    have := hr2.1
    rw [Array.getD_eq_getD_getElem?] at this ⊢
    rw [Array.getElem?_eq_getElem (by rw [I.size]; exact hlt)] at this ⊢
    simp only [Option.getD_some] at this ⊢
    rw [this]; simp
  have hr : ∀ j ∈ edgesOf t.o, In L j := by
    intro j hj
    unfold edgesOf at hj
    obtain ⟨e, he, rfl⟩ := List.mem_map.1 hj
    obtain ⟨he1, he2⟩ := List.mem_filter.1 he
    have := (Array.all_eq_true_iff_forall_mem.1 hr2.2) e (by rw [← hto]; simpa using he1)
    rw [he2] at this
    simp only [Bool.not_true, Bool.false_or] at this
    exact this
  unfold wpOp
  rw [ho, ← hto]
  simp only
  obtain ⟨q, hq⟩ := List.getElem?_of_mem ht
  have htr := T.tr hq
  have hdep := fun x hx => dep_env T I hq hn hr (x := x) hx
  have hs : ∀ x, RV c.P.cellsOf B w A ρ (eget (prune (rds t.o) t.e) x) (a.tmps.getD x Go.undef) := by
    intro x
    rcases eget_prune (rds t.o) t.e x with e1 | e1
    · by_cases hu : eget (prune (rds t.o) t.e) x = .undef
      · rw [hu]; exact .undef _
      · rw [e1]; exact hdep x (List.mem_append_left _ (eget_prune_mem t.e hu))
    · rw [e1]; exact .undef _
  by_cases hf : q < FT.length
  · have hqf : FT[q]? = some t := by rw [List.getElem?_append_left hf] at hq; exact hq
    obtain ⟨m1, m2, m3⟩ := mem_front T I.mem I.size hqf hn
    rcases guard_sound (c := c) (fun x hx => hdep x (List.mem_append_right _ hx)) htr with ⟨g1, g2⟩ | ⟨g1, g2, g3⟩
    · rw [if_pos g1]
      exact .inl (op_sound T.hcall m1 I.mr hs g2 m2 K Q (fun u w' ρ' s1 s2 s3 => hK _ _ _ _ (Inv.next T I ht hr hn s1 s2 s3 m3)))
    · rw [if_neg (by rw [g1]; simp)]
      rw [g3] at m3
      exact hK _ _ _ _ (Inv.next T I ht hr hn (Step.refl _ _ _) I.mr (by rw [g2]; exact .un) m3)
  · have hqb : BT[q - FT.length]? = some t := by rw [List.getElem?_append_right (by omega)] at hq; exact hq
    obtain ⟨m1, m2, m3⟩ := mem_back T I.down I.mem I.size hqb hn hr
    unfold TrOk at htr
    rw [m1, m2] at htr
    rcases guard_sound (c := c) (fun x hx => hdep x (List.mem_append_right _ hx)) htr with ⟨g1, g2⟩ | ⟨g1, g2, g3⟩
    · rw [if_pos g1]
      exact .inl (op_alone T.hcall I.mr hs g2 K Q (fun u w' ρ' s1 s2 s3 => hK _ _ _ _ (Inv.next T I ht hr hn s1 s2 s3 m3)))
    · rw [if_neg (by rw [g1]; simp)]
      rw [g3] at m3
      exact hK _ _ _ _ (Inv.next T I ht hr hn (Step.refl _ _ _) I.mr (by rw [g2]; exact .un) m3)

/-- When nothing is left to do, the state is the one that was told. -/
theorem draw_end {L : Array Bool} {a : Act} {w : World} {ρ : Pm} {A : Mem} (I : Inv c calm ops B nt M0 e0 FT BT w0 ρ0 L a w ρ A) (hr : Region.ready .any ops L = []) :
    ∃ ρ', Step w0 M0 ρ0 w (memA (M0 ++ (FT.flatMap obsOf).map .live) BT) ρ' ∧ SR c.P.cellsOf B nt a w (envA e0 (FT ++ BT)) (memA (M0 ++ (FT.flatMap obsOf).map .live) BT) ρ' := by
  have hall : ∀ i, i < ops.size → In L i := by
    intro i
    induction i using Nat.strongRecOn with
    | _ i ih =>
      intro hi
      have ho : ops[i]? = some ops[i] := Array.getElem?_eq_getElem hi
      cases hL : L.getD i false with
      | true => exact hL
      | false =>
        exfalso
        have : i ∈ Region.ready .any ops L := by
          unfold Region.ready
          refine List.mem_filter.2 ⟨List.mem_range.2 hi, ?_⟩
          simp only [ho, Option.map_some, Option.getD_some, Bool.and_eq_true, Bool.not_eq_true']
          refine ⟨?_, Array.all_eq_true_iff_forall_mem.2 (fun e he => ?_)⟩
          · rw [Array.getD_eq_getD_getElem?, Array.getElem?_eq_getElem (by rw [I.size]; exact hi)] at hL ⊢
            exact hL
          · cases hb : Region.binds .any e with
            | false => rfl
            | true =>
              have hk := T.edge ho (k := e.on) (List.mem_map.2 ⟨e, List.mem_filter.2 ⟨by simpa using he, hb⟩, rfl⟩)
              have := ih e.on hk (by omega)
              simp only [Bool.not_true, Bool.false_or]
              exact this
        rw [hr] at this
        cases this
  have htr : ∀ t ∈ FT ++ BT, In L t.i := fun t ht => hall t.i (Array.getElem?_eq_some_iff.1 (T.at_ ht)).1
  have hA : A = memA (M0 ++ (FT.flatMap obsOf).map .live) BT := by
    obtain ⟨s, h1, h2, h3, h4⟩ := I.mem
    have hs : s = BT.length := by
      rcases Nat.lt_or_ge s BT.length with h | h
      · have := (h2 s BT[s] (List.getElem?_eq_getElem h)).1 (htr _ (List.mem_append_right _ (List.getElem_mem h)))
        omega
      · omega
    by_cases h0 : s = 0
    · rw [if_pos h0] at h3
      have hb : BT = [] := List.length_eq_zero_iff.1 (by omega)
      rw [h3, hb, segs_all (fun t' ht' => .inl (htr t' (List.mem_append_left _ ht')))]
      rfl
    · rw [if_neg h0, hs, List.take_length] at h3
      exact h3
  refine ⟨ρ, by rw [← hA]; exact I.step, by rw [← hA]; exact I.mr, fun x => ?_, I.nts, I.defers⟩
  rw [← hA]
  rcases envA_get x (FT ++ BT) e0 with ⟨t, h1, h2, h3⟩ | ⟨h1, h2⟩
  · rw [h3]; exact (I.env x).1 t h1 h2 (htr t h1)
  · rw [h2]; exact (I.env x).2 (fun t ht hd => absurd hd (h1 t ht))

theorem draw_any {Q : Exit → Act → World → Prop} (hQ : ∀ a w ρ', Step w0 M0 ρ0 w (memA (M0 ++ (FT.flatMap obsOf).map .live) BT) ρ' → SR c.P.cellsOf B nt a w (envA e0 (FT ++ BT)) (memA (M0 ++ (FT.flatMap obsOf).map .live) BT) ρ' → Q .normal a w) :
    ∀ (fuel : Nat) (L : Array Bool) (a : Act) (w : World) (ρ : Pm) (A : Mem), Inv c calm ops B nt M0 e0 FT BT w0 ρ0 L a w ρ A → L.toList.count false ≤ fuel → wpAny c.P .any ops Q fuel L a w
  | 0, L, a, w, ρ, A, I, hc => by
    have hr : Region.ready .any ops L = [] := by
      unfold Region.ready
      refine List.filter_eq_nil_iff.2 (fun i hi => ?_)
      have hlt : i < L.size := by rw [I.size]; exact List.mem_range.1 hi
      have h0 : L.toList.count false = 0 := by omega
      have hne : L[i] ≠ false := fun e => List.count_eq_zero.1 h0 (by rw [← e]; exact Array.mem_toList_iff.2 (Array.getElem_mem hlt))
      simp only [Array.getD_eq_getD_getElem?, Array.getElem?_eq_getElem hlt, Option.getD_some]
      cases hLi : L[i] with
      | true => simp
      | false => exact absurd hLi hne
    refine ⟨hr, ?_⟩
    obtain ⟨ρ', h1, h2⟩ := draw_end T I hr
    exact hQ a w ρ' h1 h2
  | fuel + 1, L, a, w, ρ, A, I, hc => by
    refine ⟨fun hr => ?_, fun i hi => ?_⟩
    · obtain ⟨ρ', h1, h2⟩ := draw_end T I hr
      exact hQ a w ρ' h1 h2
    · refine draw_step T I hi (fun a' w' ρ' A' I' => draw_any hQ fuel _ a' w' ρ' A' I' ?_)
      unfold Region.ready at hi
      obtain ⟨hr1, hr2⟩ := List.mem_filter.1 hi
      have hlt : i < L.size := by rw [I.size]; exact List.mem_range.1 hr1
      simp only [Bool.and_eq_true, Bool.not_eq_true'] at hr2
      have hLi : L[i] = false := by
        have := hr2.1
        rw [Array.getD_eq_getD_getElem?, Array.getElem?_eq_getElem hlt] at this
        simpa using this
      rw [Array.toList_setIfInBounds, List.count_set (by simpa using hlt)]
      have h5 : L.toList.count false - 1 ≤ fuel := by omega
      simpa [hLi] using h5
end
end
end Go.Ab

/- A law's arguments as plain data, and its word. -/
import Derived.Test.YtjlalepbhcekoaaDoorAbCallL2
set_option linter.unusedVariables false
namespace Go.Ab
open Go Go.RowKit Go.ChangeShapes Go.WideShapes
/-- the numbers of a kind -/
def InR (k : IntKind) (n : Int) : Prop := (Lit.int k n).wf = true
def okS (s : List UInt8) : Prop := s.length ≤ 140737488351232
def okLs {τ : Type} (by_ : Nat) (ok : τ → Prop) (xs : List τ) : Prop := xs.length ≤ 9223372036854775807 ∧ xs.length * by_ ≤ 140737488351232 ∧ ∀ x ∈ xs, ok x
def okB (_ : Bool) : Prop := True
section
variable {P : Program} {t e : TypeId} {k : IntKind} {τ : Type} {c : τ → List AV} {ok : τ → Prop}
theorem ty_int (hu : P.underlying t = some (.int k)) : ∀ d xs, Ty P d t xs → ∃ n, xs = cI k n ∧ InR k n
  | 0, xs, h => h.elim
  | d + 1, xs, h => by simp only [Ty, hu] at h; exact h
theorem ty_bool (hu : P.underlying t = some .bool) : ∀ d xs, Ty P d t xs → ∃ b, xs = cB b ∧ okB b
  | 0, xs, h => h.elim
  | d + 1, xs, h => by simp only [Ty, hu] at h; obtain ⟨b, h⟩ := h; exact ⟨b, h, trivial⟩
theorem ty_str (hu : P.underlying t = some .string) : ∀ d xs, Ty P d t xs → ∃ s, xs = cS s ∧ okS s
  | 0, xs, h => h.elim
  | d + 1, xs, h => by simp only [Ty, hu] at h; exact h
theorem lift_rows {Q : List AV → Prop} (he : ∀ xs : List AV, Q xs → ∃ x : τ, xs = c x ∧ ok x) : ∀ es : List (List AV), (∀ r ∈ es, Q r) → ∃ l : List τ, es = l.map c ∧ ∀ x ∈ l, ok x
  | [], _ => ⟨[], rfl, by simp⟩
  | r :: es, h => by
    obtain ⟨x, h1, h2⟩ := he r (h r (by simp))
    obtain ⟨l, h3, h4⟩ := lift_rows he es (fun r hr => h r (by simp [hr]))
    exact ⟨x :: l, by simp [h1, h3], by simp [h2]; exact h4⟩
theorem ty_sl {b : Nat} (hu : P.underlying t = some (.slice e)) (hb : P.bytesOf e = b) (he : ∀ d xs, Ty P d e xs → ∃ x : τ, xs = c x ∧ ok x) : ∀ d xs, Ty P d t xs → ∃ l, xs = cL c l ∧ okLs b ok l
  | 0, xs, h => h.elim
  | d + 1, xs, h => by
    simp only [Ty, hu] at h
    obtain ⟨es, rfl, h1, h2, h3⟩ := h
    obtain ⟨l, rfl, h4⟩ := lift_rows (he d) es h3
    subst hb
    exact ⟨l, rfl, by simpa [maxLen] using h1, by simpa [reachBytes] using h2, h4⟩
theorem tyFs_nil {T : TypeId → List AV → Prop} {xs : List AV} (h : TyFs T [] xs) : xs = [] := h
theorem tyFs_cons {T : TypeId → List AV → Prop} {xs : List AV} {f : Field} {r : List Field} (h : TyFs T (f :: r) xs) : ∃ a b, xs = a ++ b ∧ T f.type a ∧ TyFs T r b := h
theorem tyV_agg {d : Nat} {y : AV} (h : TyV P d t y) (ha : Program.cellsAgg P t = true) (he : ∀ d xs, Ty P d t xs → ∃ x : τ, xs = c x ∧ ok x) : ∃ x : τ, y = .agg (c x) ∧ ok x := by
  unfold TyV at h
  rw [if_pos ha] at h
  obtain ⟨xs, rfl, h⟩ := h
  obtain ⟨x, rfl, h2⟩ := he d xs h
  exact ⟨x, rfl, h2⟩
theorem tyV_one {d : Nat} {y : AV} (h : TyV P d t y) (ha : Program.cellsAgg P t = false) (he : ∀ d xs, Ty P d t xs → ∃ x : τ, xs = c x ∧ ok x) : ∃ x : τ, [y] = c x ∧ ok x := by
  unfold TyV at h
  rw [if_neg (by rw [ha]; simp)] at h
  exact he d [y] h
theorem rRes_bool {M : Mem} {v : AV} {b : Bool} (h : rRes M v = .bool b) : v = .bool b := by
  have one : ∀ d (v : AV), rCell M d v = .bool b → v = .bool b := by
    intro d v h
    cases d with
    | zero => cases h
    | succ d =>
      cases v with
      | lsl id L off n =>
        simp only [rCell] at h
        split at h
        · split at h
          · cases h
          · unfold treeSl at h; split at h <;> cases h
        · cases h
      | _ => first | exact h | cases h
  have one1 : ∀ v : AV, rRes1 M v = .bool b → v = .bool b := by
    intro v h
    cases v with
    | lsl id L off n =>
      simp only [rRes1] at h
      split at h
      · split at h
        · cases h
        · split at h
          · cases h
          · exact absurd (one _ _ h) (by simp)
      · cases h
    | loc id L i j =>
      simp only [rRes1] at h
      split at h
      · split at h
        · split at h <;> cases h
        · cases h
      · cases h
    | sl o es => cases o with
      | none => exact absurd (one _ _ h) (by simp)
      | some t => cases h
    | lit t es => cases h
    | pt o cs => cases o with
      | none => exact absurd (one _ _ h) (by simp)
      | some t => cases h
    | _ => exact one _ _ h
  cases v with
  | tup vs => cases h
  | agg cs => cases h
  | _ => exact one1 _ h
/-- a law that tells true -/
theorem law_true {cx : Cx} {an : Nat → Option Ann} {W : World} {f : Nat} {args : List AV} (hmix : cx.P.follows .mixedOrders = true) (h : Ev (fun k => callN cx an (fun _ _ _ => none) (fun _ => false) k f args []) (fun p => rRes p.2 p.1 = .bool true))
    {vals : Array Value} (hl : args.length = vals.size) (hv : ∀ (i : Nat) x v, args[i]? = some x → vals[i]? = some v → RC cx.P.cellsOf (fun b => W.heap[b]?) W.heap.size (fun _ _ => none) x v) (hfx : FxOk W.heap.size W) :
    Calls cx.P f vals W (fun e W' => e = .returned (.bool true) ∧ Below W.heap.size W W') := by
  obtain ⟨p, hp, K, hK⟩ := h
  have h1 := hK (K + 1) (by omega)
  obtain ⟨v, M'⟩ := p
  simp only at h1 hp
  rw [rRes_bool hp] at h1
  exact law_calls hmix prim_none h1 rfl hl hv hfx
theorem sz_arg {H : Type} {P : Program} {ts : List TypeId} {ds : List (DataW H)} (h : (DataW.weightsEach P ts ds).all (· ≤ reachBytes) = true) (j : Nat) {t : TypeId} {d : DataW H} (h1 : ts[j]? = some t) (h2 : ds[j]? = some d) : ∀ n ∈ d.weights P t, n ≤ reachBytes := fun n hn => by
  have := List.all_eq_true.1 h n (DataW.weights_mem_each (j := j) h1 h2 n hn)
  simpa using this
end
end Go.Ab

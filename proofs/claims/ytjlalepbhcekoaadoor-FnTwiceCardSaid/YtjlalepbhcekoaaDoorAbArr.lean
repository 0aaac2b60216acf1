/- Arrays. -/
import Derived.Test.YtjlalepbhcekoaaDoorAbShort
set_option linter.unusedVariables false
namespace Go.Ab
open Go
structure Ar (n : Nat) (τ : Type) where
  l : List τ
  h : l.length = n
  deriving DecidableEq
section
variable {n : Nat} {τ : Type} {c : τ → List AV} {z : τ} {g : Ar n τ} {u u' : τ} {i : Int} {sz m j L r id : Nat} {k kk : IntKind} {x y v : AV} {M : Mem} {o : Ob} {cs pre post : List AV} {K : τ → AV}
def Ar.get (g : Ar n τ) (z : τ) (j : Nat) : τ := g.l.getD j z
def Ar.set (g : Ar n τ) (j : Nat) (x : τ) : Ar n τ := ⟨g.l.set j x, by simp [g.h]⟩
def Ar.rep (n : Nat) (x : τ) : Ar n τ := ⟨List.replicate n x, by simp⟩
/-- an array's cells -/
def arC (c : τ → List AV) (z : τ) (g : Ar n τ) : List AV := (List.range n).flatMap fun j => c (g.get z j)
def rdA (g : Ar n τ) (i : Int) : Option τ := if 0 ≤ i ∧ i < n then g.l[i.toNat]? else none
theorem rdA_get (h : rdA g i = some u) : (0 ≤ i ∧ i < n) ∧ i.toNat < n ∧ g.l[i.toNat]? = some u := by
  unfold rdA at h
  split at h
  · rename_i hc; exact ⟨hc, by omega, h⟩
  · cases h
theorem arC_eq : arC c z g = (g.l.map c).flatten := by
  unfold arC
  rw [List.flatMap_def]
  congr 1
  refine List.ext_getElem (by simp [g.h]) fun i h1 h2 => ?_
  have hi : i < g.l.length := by rw [g.h]; simpa using h1
  simp [Ar.get, List.getD_eq_getElem?_getD, hi]
theorem arLen : ∀ (R : List (List AV)), (∀ q ∈ R, q.length = sz) → R.flatten.length = R.length * sz
  | [], _ => by simp
  | q :: R, h => by
    rw [List.flatten_cons, List.length_append, arLen R (fun q hq => h q (by simp [hq])), h q (by simp), List.length_cons, Nat.succ_mul]; omega
theorem arBlock : ∀ (R : List (List AV)) (m : Nat) (q : List AV), (∀ q ∈ R, q.length = sz) → R[m]? = some q → (R.flatten.drop (m * sz)).take sz = q
  | [], m, q, _, h => by simp at h
  | p :: R, 0, q, h, hq => by
    simp at hq; subst hq
    have := h p (by simp)
    simp [List.flatten_cons, ← this]
  | p :: R, m + 1, q, h, hq => by
    have hp := h p (by simp)
    rw [List.flatten_cons, Nat.succ_mul, Nat.add_comm (m * sz) sz, ← hp, List.drop_append, List.drop_eq_nil_of_le (by omega)]
    simp only [List.nil_append, Nat.add_sub_cancel_left]
    rw [hp]
    exact arBlock R m q (fun q hq => h q (by simp [hq])) (by simpa using hq)
theorem arSet : ∀ (R : List (List AV)) (m : Nat) (q : List AV), (∀ q ∈ R, q.length = sz) → m < R.length → (R.set m q).flatten = R.flatten.take (m * sz) ++ (q ++ R.flatten.drop (m * sz + sz))
  | [], m, q, _, h => by simp at h
  | p :: R, 0, q, h, _ => by
    have hp := h p (by simp)
    simp [List.flatten_cons, ← hp]
  | p :: R, m + 1, q, h, hm => by
    have hp := h p (by simp)
    rw [List.set_cons_succ, List.flatten_cons, List.flatten_cons, arSet R m q (fun q hq => h q (by simp [hq])) (by simpa using hm)]
    have e1 : (m + 1) * sz = p.length + m * sz := by rw [Nat.succ_mul, hp]; omega
    have e2 : (m + 1) * sz + sz = p.length + (m * sz + sz) := by rw [e1]; omega
    rw [e2, e1, List.take_length_add_append, List.drop_length_add_append, List.append_assoc]
theorem arRows (hl : ∀ x, (c x).length = sz) : ∀ q ∈ g.l.map c, q.length = sz := by intro q hq; obtain ⟨x, _, rfl⟩ := List.mem_map.1 hq; exact hl x
theorem arC_len (hl : ∀ x, (c x).length = sz) : (arC c z g).length = n * sz := by
  rw [arC_eq, arLen _ (arRows hl), List.length_map, g.h]
theorem arC_block (hl : ∀ x, (c x).length = sz) (h : g.l[m]? = some u) : ((arC c z g).drop (m * sz)).take sz = c u := by
  rw [arC_eq]
  exact arBlock _ m _ (arRows hl) (by rw [List.getElem?_map, h]; rfl)
theorem arC_set (hl : ∀ x, (c x).length = sz) (h : m < n) : arC c z (g.set m u) = (arC c z g).take (m * sz) ++ (c u ++ (arC c z g).drop (m * sz + sz)) := by
  rw [arC_eq, arC_eq]
  show ((g.l.set m u).map c).flatten = _
  rw [List.map_set]
  exact arSet _ m _ (arRows hl) (by rw [List.length_map, g.h]; exact h)
theorem arC_all {p : AV → Bool} (h : ∀ x, (c x).all p = true) : (arC c z g).all p = true := by
  rw [arC_eq, List.all_eq_true]
  intro y hy
  obtain ⟨q, hq, hy⟩ := List.mem_flatten.1 hy
  obtain ⟨x, _, rfl⟩ := List.mem_map.1 hq
  exact List.all_eq_true.1 (h x) y hy
theorem arC_fl (hf : Fl c sz) (z : τ) {s : Nat} (hs : n * sz = s) : Fl (arC (n := n) c z) s := fun g => ⟨by rw [arC_len (fun x => (hf x).1), hs], arC_all fun x => (hf x).2⟩
theorem arC_flF (hf : FlF c) (z : τ) : FlF (arC (n := n) c z) := fun g => arC_all hf
/-! operations -/
theorem one_block (hK : ∀ x, c x = [K x]) (h : g.l[m]? = some u) : (arC c z g)[m]? = some (K u) := by
  have := arBlock (sz := 1) (g.l.map c) m (c u) (arRows fun x => by rw [hK]; rfl) (by rw [List.getElem?_map, h]; rfl)
  rw [← arC_eq (z := z), hK, Nat.mul_one] at this
  have h2 := congrArg (fun q => q[0]?) this
  simpa [List.getElem?_take, List.getElem?_drop] using h2
theorem ixA1 (hx : x = .agg (arC c z g)) (hi : y = .int kk i) (h : rdA g i = some u) (hK : ∀ x, c x = [K x]) : keep (aIndexA false n 1 x y) = some (K u, .keep) := by
  obtain ⟨h0, h1, h2⟩ := rdA_get h
  subst hx hi
  simp only [aIndexA, aField, Nat.mul_one, Bool.false_eq_true, if_false]
  rw [if_pos h0, one_block hK h2]; rfl
theorem ixAA (hx : x = .agg (arC c z g)) (hi : y = .int kk i) (h : rdA g i = some u) (hl : ∀ x, (c x).length = sz) : keep (aIndexA true n sz x y) = some (.agg (c u), .keep) := by
  obtain ⟨h0, h1, h2⟩ := rdA_get h
  subst hx hi
  have hle : i.toNat * sz + sz ≤ (arC c z g).length := by rw [arC_len hl, ← Nat.succ_mul]; exact Nat.mul_le_mul_right _ h1
  simp only [aIndexA, aField, if_true]
  rw [if_pos h0, if_pos hle, arC_block hl h2]; rfl
theorem ixPA {oo : Option TypeId} (hx : x = .pt oo (arC c z g)) (hi : y = .int kk i) (h : rdA g i = some u) (hl : ∀ x, (c x).length = sz) : keep (aIndexP n sz x y M) = some (.pt none (c u), .keep) := by
  obtain ⟨h0, h1, h2⟩ := rdA_get h
  subst hx hi
  have hle : i.toNat * sz + sz ≤ (arC c z g).length := by rw [arC_len hl, ← Nat.succ_mul]; exact Nat.mul_le_mul_right _ h1
  simp only [aIndexP]
  rw [if_pos h0, if_pos hle, arC_block hl h2]; rfl
theorem ixLA (hx : x = .loc id L r j) (ho : M[id]? = some (.live o)) (hL : o.es.length = L) (hi : y = .int kk i) (h : rdA g i = some u) : keep (aIndexP n sz x y M) = some (.loc id L r (j + i.toNat * sz), .keep) := by
  obtain ⟨h0, h1, h2⟩ := rdA_get h
  subst hx hi
  simp [aIndexP, h0, okRef, getOb_of ho hL, keep]
theorem ldLA (hx : x = .loc id L r (j + i.toNat * 1)) (ho : M[id]? = some (.live o)) (hL : o.es.length = L) (hr : o.es[r]? = some cs) (hcs : cs = pre ++ (arC c z g ++ post)) (hp : pre.length = j) (hK : ∀ x, c x = [K x]) (h : rdA g i = some u) : keep (aLoad false sz x M) = some (K u, .keep) := by
  obtain ⟨h0, h1, h2⟩ := rdA_get h
  subst hx
  have hl : (arC c z g).length = n := by rw [arC_len (sz := 1) (fun x => by rw [hK]; rfl), Nat.mul_one]
  have : cs[j + i.toNat * 1]? = some (K u) := by
    rw [hcs, Nat.mul_one, ← hp, List.getElem?_append_right (by omega), Nat.add_sub_cancel_left, List.getElem?_append_left (by omega), one_block hK h2]
  exact ldO rfl ho hL hr this
theorem ldLAA (hx : x = .loc id L r (j + i.toNat * sz)) (ho : M[id]? = some (.live o)) (hL : o.es.length = L) (hr : o.es[r]? = some cs) (hcs : cs = pre ++ (arC c z g ++ post)) (hp : pre.length = j) (hl : ∀ x, (c x).length = sz) (h : rdA g i = some u) : keep (aLoad true sz x M) = some (.agg (c u), .keep) := by
  obtain ⟨h0, h1, h2⟩ := rdA_get h
  subst hx
  have hn := arC_len (z := z) (g := g) hl
  have hle : i.toNat * sz + sz ≤ n * sz := by rw [← Nat.succ_mul]; exact Nat.mul_le_mul_right _ h1
  have h3 : j + i.toNat * sz + sz ≤ cs.length := by rw [hcs]; simp only [List.length_append, hn, hp]; omega
  refine ldOA rfl ho hL hr h3 ?_
  rw [hcs, ← hp, List.drop_append, List.drop_eq_nil_of_le (by omega), List.nil_append, Nat.add_sub_cancel_left, List.drop_append_of_le_length (by omega), List.take_append_of_le_length (by simp; omega), arC_block hl h2]
theorem stLA (hx : x = .loc id L r (j + i.toNat * sz)) (hv : y = v) (ho : M[id]? = some (.live o)) (hL : o.es.length = L) (hr : o.es[r]? = some cs) (hcs : cs = pre ++ (arC c z g ++ post)) (hp : pre.length = j) (hl : ∀ x, (c x).length = sz) (hvc : vcells v = c u') (hok : (vcells v).all (okC M) = true) (h : rdA g i = some u) :
    oStore sz x y M = some (.un, .put (M.set id (.live ⟨o.kn, o.t, o.s, o.es.set r (pre ++ (arC c z (g.set i.toNat u') ++ post))⟩))) := by
  obtain ⟨h0, h1, h2⟩ := rdA_get h
  have hn := arC_len (z := z) (g := g) hl
  have hle : i.toNat * sz + sz ≤ n * sz := by rw [← Nat.succ_mul]; exact Nat.mul_le_mul_right _ h1
  have h3 : j + i.toNat * sz + sz ≤ cs.length := by rw [hcs]; simp only [List.length_append, hn, hp]; omega
  refine stO hx hv ho hL hr ⟨by rw [hvc, hl], h3⟩ hok ?_
  rw [hvc, hcs, arC_set hl h1, ← hp, List.take_length_add_append, Nat.add_assoc, List.drop_length_add_append, List.take_append_of_le_length (by omega), List.drop_append_of_le_length (by omega)]
  simp only [List.append_assoc]
/-! parts of parts -/
theorem arC_split (hl : ∀ x, (c x).length = sz) (h : rdA g i = some u) : arC c z g = (arC c z g).take (i.toNat * sz) ++ (c u ++ (arC c z g).drop (i.toNat * sz + sz)) ∧ ((arC c z g).take (i.toNat * sz)).length = i.toNat * sz := by
  obtain ⟨h0, h1, h2⟩ := rdA_get h
  have hn := arC_len (z := z) (g := g) hl
  have hle : i.toNat * sz + sz ≤ n * sz := by rw [← Nat.succ_mul]; exact Nat.mul_le_mul_right _ h1
  refine ⟨?_, by rw [List.length_take]; omega⟩
  rw [← arC_block (z := z) hl h2, ← List.drop_drop, List.take_append_drop, List.take_append_drop]
theorem ldLA2 {m : Nat} {Z : Ar m τ} {G : Ar n (Ar m τ)} {U : Ar m τ} {s1 : Nat} {k2 : Int} {w : τ} (hx : x = .loc id L r (j + i.toNat * s1 + k2.toNat * 1)) (ho : M[id]? = some (.live o)) (hL : o.es.length = L) (hr : o.es[r]? = some cs) (hcs : cs = pre ++ (arC (arC (n := m) c z) Z G ++ post)) (hp : pre.length = j) (hs : m = s1) (hK : ∀ x, c x = [K x]) (h1 : rdA G i = some U) (h2 : rdA U k2 = some w) : keep (aLoad false sz x M) = some (K w, .keep) := by
  have hl : ∀ y : Ar m τ, (arC c z y).length = s1 := fun y => by rw [arC_len (sz := 1) (fun x => by rw [hK]; rfl), Nat.mul_one, hs]
  obtain ⟨e1, e2⟩ := arC_split (z := Z) hl h1
  refine ldLA (c := c) (z := z) (pre := pre ++ (arC (arC (n := m) c z) Z G).take (i.toNat * s1)) (post := (arC (arC (n := m) c z) Z G).drop (i.toNat * s1 + s1) ++ post) hx ho hL hr ?_ (by rw [List.length_append, hp, e2]) hK h2
  rw [hcs]
  conv => lhs; rw [e1]
  simp only [List.append_assoc]
theorem stLA2 {m : Nat} {Z : Ar m τ} {G : Ar n (Ar m τ)} {U : Ar m τ} {s1 : Nat} {k2 : Int} {w w' : τ} (hx : x = .loc id L r (j + i.toNat * s1 + k2.toNat * sz)) (hv : y = v) (ho : M[id]? = some (.live o)) (hL : o.es.length = L) (hr : o.es[r]? = some cs) (hcs : cs = pre ++ (arC (arC (n := m) c z) Z G ++ post)) (hp : pre.length = j) (hs : m * sz = s1) (hl : ∀ x, (c x).length = sz) (hvc : vcells v = c w') (hok : (vcells v).all (okC M) = true) (h1 : rdA G i = some U) (h2 : rdA U k2 = some w) :
    oStore sz x y M = some (.un, .put (M.set id (.live ⟨o.kn, o.t, o.s, o.es.set r (pre ++ (arC (arC (n := m) c z) Z (G.set i.toNat (U.set k2.toNat w')) ++ post))⟩))) := by
  have hl1 : ∀ y : Ar m τ, (arC c z y).length = s1 := fun y => by rw [arC_len hl, hs]
  obtain ⟨e1, e2⟩ := arC_split (z := Z) hl1 h1
  have := stLA (c := c) (z := z) (g := U) (pre := pre ++ (arC (arC (n := m) c z) Z G).take (i.toNat * s1)) (post := (arC (arC (n := m) c z) Z G).drop (i.toNat * s1 + s1) ++ post) hx hv ho hL hr (by
    rw [hcs]
    conv => lhs; rw [e1]
    simp only [List.append_assoc]) (by rw [List.length_append, hp, e2]) hl hvc hok h2
  rw [this, arC_set (z := Z) hl1 (rdA_get h1).2.1]
  simp only [List.append_assoc]
/-! cells, all of them -/
theorem rCell_flat {d : Nat} {x : AV} (h : flatC x = true) : rCell M (d + 1) x = x := by cases x <;> first | rfl | simp [flatC] at h
theorem rArg1_flat {x : AV} (h : flatC x = true) : rArg1 M x = x := by cases x <;> first | rfl | simp [flatC] at h
theorem rRes1_flat {x : AV} (h : flatC x = true) : rRes1 M x = x := by cases x <;> first | rfl | simp [flatC] at h
theorem own1_flat {x : AV} (h : flatC x = true) : own1 x = true := by cases x <;> first | rfl | simp [flatC] at h
theorem okC_flat {x : AV} (h : flatC x = true) : okC M x = true := by cases x <;> first | rfl | simp [flatC] at h
theorem mpA {f : AV → AV} {rest rest' : List AV} (h1 : ∀ x, flatC x = true → f x = x) (hf : FlF c) (h : rest.map f = rest') : (arC c z g ++ rest).map f = arC c z g ++ rest' := by
  rw [List.map_append, h]
  congr 1
  conv => rhs; rw [← List.map_id (arC c z g)]
  exact List.map_congr_left fun y hy => h1 y (List.all_eq_true.1 (arC_all (z := z) (g := g) hf) y hy)
theorem oaA {f : AV → Bool} {rest : List AV} (h1 : ∀ x, flatC x = true → f x = true) (hf : FlF c) (h : rest.all f = true) : (arC c z g ++ rest).all f = true := by
  rw [List.all_append, h, Bool.and_true]
  exact arC_all (fun x => List.all_eq_true.2 fun y hy => h1 y (List.all_eq_true.1 (hf x) y hy))
theorem oaP {rest : List AV} (hf : FlF c) (h : rest.all (okC M) = true) : (arC c z g ++ rest).all (okC M) = true := by
  rw [List.all_append, h, Bool.and_true]
  exact arC_all (fun x => List.all_eq_true.2 fun y hy => okC_flat (List.all_eq_true.1 (hf x) y hy))
theorem oaL {rest : List AV} (hf : FlF c) (h : (rest.map stripL).all (okC M) = true) : ((arC c z g ++ rest).map stripL).all (okC M) = true := by
  rw [List.map_append, List.all_append, h, Bool.and_true]
  have e : (arC c z g).map stripL = arC c z g := by
    conv => rhs; rw [← List.map_id (arC c z g)]
    refine List.map_congr_left fun y hy => ?_
    have := List.all_eq_true.1 (arC_all (z := z) (g := g) hf) y hy
    cases y <;> first | rfl | simp [flatC] at this
  rw [e]
  exact arC_all (fun x => List.all_eq_true.2 fun y hy => okC_flat (List.all_eq_true.1 (hf x) y hy))
theorem oaS {rest : List AV} (hf : FlF c) (h : (rest.map stripC).all (okC M) = true) : ((arC c z g ++ rest).map stripC).all (okC M) = true := by
  rw [List.map_append, List.all_append, h, Bool.and_true]
  have e : (arC c z g).map stripC = arC c z g := by
    conv => rhs; rw [← List.map_id (arC c z g)]
    refine List.map_congr_left fun y hy => ?_
    have := List.all_eq_true.1 (arC_all (z := z) (g := g) hf) y hy
    cases y <;> first | rfl | simp [flatC] at this
  rw [e]
  exact arC_all (fun x => List.all_eq_true.2 fun y hy => okC_flat (List.all_eq_true.1 (hf x) y hy))
/-- arrays compared cell by cell -/
def arB (n : Nat) (p : Nat → Bool) (r : Bool) : Bool := (List.range n).foldr (fun j b => p j && b) r
end
theorem rz {τ : Type} {c : τ → List AV} {xs : List τ} {n : Int} {u : τ} (h : rd xs n = some u) : (xs.map c)[0 + n.toNat]? = some (c u) := by rw [Nat.zero_add]; exact mapg (rd_get h).2
theorem rz2 {τ : Type} {xs : List τ} {n : Int} {u : τ} (h : rd xs n = some u) : xs[0 + n.toNat]? = some u := by rw [Nat.zero_add]; exact (rd_get h).2
theorem thawL_flat {S : TypeId → Nat} {rest : List AV} : ∀ (l : List AV) (m : Nat), l.all flatC = true → thawL (thaw1 S) m (l ++ rest) = (l ++ (thawL (thaw1 S) m rest).1, (thawL (thaw1 S) m rest).2)
  | [], m, _ => rfl
  | x :: l, m, h => by
    simp only [List.all_cons, Bool.and_eq_true] at h
    have hx : thaw1 S m x = (x, []) := by cases x <;> first | rfl | simp [flatC] at h
    rw [List.cons_append]
    show ((thaw1 S m x).1 :: (thawL (thaw1 S) (m + (thaw1 S m x).2.length) (l ++ rest)).1, (thaw1 S m x).2 ++ (thawL (thaw1 S) (m + (thaw1 S m x).2.length) (l ++ rest)).2) = _
    rw [hx]
    simp only [List.length_nil, Nat.add_zero, List.nil_append]
    rw [thawL_flat l m h.2]
    rfl
theorem thA {n : Nat} {τ : Type} {c : τ → List AV} (hf : FlF c) {z : τ} {g : Ar n τ} {S : TypeId → Nat} {m : Nat} {rest : List AV} : thawL (thaw1 S) m (arC c z g ++ rest) = (arC c z g ++ (thawL (thaw1 S) m rest).1, (thawL (thaw1 S) m rest).2) := thawL_flat _ m (arC_all hf)
theorem thA0 {n : Nat} {τ : Type} {c : τ → List AV} (hf : FlF c) {z : τ} {g : Ar n τ} {S : TypeId → Nat} {m : Nat} : thawL (thaw1 S) m (arC c z g) = (arC c z g, []) := by
  have := thA (z := z) (g := g) (S := S) (m := m) (rest := []) hf
  rw [List.append_nil] at this
  rw [this]
  simp [thawL]
theorem si {α : Type} {a b : α} (h : some a = some b) : a = b := Option.some.inj h
theorem rr_box {M : Mem} {id t s : Nat} {cs : List AV} (ho : M[id]? = some (.live ⟨.box, t, s, [cs]⟩)) (h : cs.all treeOk = true) : rRes1 M (.loc id 1 0 0) = .pt (some t) cs := by
  simp [rRes1, getOb, ho, h]
theorem bMax {k k' : IntKind} {a b : Int} {x y : AV} (hx : x = .int k a) (hy : y = .int k' b) : keep (aMax true x y) = some (.int k (max a b), .keep) := by subst hx hy; rfl
theorem bMin {k k' : IntKind} {a b : Int} {x y : AV} (hx : x = .int k a) (hy : y = .int k' b) : keep (aMax false x y) = some (.int k (min a b), .keep) := by subst hx hy; rfl
/-! arguments of a law -/
def okAr {n : Nat} {τ : Type} (ok : τ → Prop) (g : Ar n τ) : Prop := ∀ x ∈ g.l, ok x
theorem tyN_ar {τ : Type} {c : τ → List AV} {ok : τ → Prop} {Q : List AV → Prop} (he : ∀ xs, Q xs → ∃ x : τ, xs = c x ∧ ok x) : ∀ (n : Nat) (xs : List AV), TyN Q n xs → ∃ l : List τ, l.length = n ∧ xs = (l.map c).flatten ∧ ∀ x ∈ l, ok x
  | 0, xs, h => ⟨[], rfl, h, by simp⟩
  | n + 1, xs, h => by
    obtain ⟨a, b, rfl, h1, h2⟩ := h
    obtain ⟨x, rfl, hx⟩ := he a h1
    obtain ⟨l, hl, rfl, hl2⟩ := tyN_ar he n b h2
    exact ⟨x :: l, by simp [hl], by simp, by simp [hx]; exact hl2⟩
theorem ty_arr {P : Program} {t e : TypeId} {n : Nat} {τ : Type} {c : τ → List AV} {ok : τ → Prop} (hu : P.underlying t = some (.array n e)) (he : ∀ d xs, Ty P d e xs → ∃ x : τ, xs = c x ∧ ok x) (z : τ) : ∀ d xs, Ty P d t xs → ∃ g : Ar n τ, xs = arC c z g ∧ okAr ok g
  | 0, xs, h => h.elim
  | d + 1, xs, h => by
    simp only [Ty, hu] at h
    obtain ⟨l, hl, rfl, h2⟩ := tyN_ar (he d) n xs h
    exact ⟨⟨l, hl⟩, by rw [arC_eq], h2⟩
end Go.Ab

/- Rows whose cells hold rows of their own. -/
import Derived.Test.YtjlalepbhcekoaaDoorAbWin
set_option linter.unusedVariables false
namespace Go.Ab
open Go
section
variable {τ : Type} {c : τ → List AV} {xs ys zs : List τ} {M : Mem} {id L t s sz : Nat} {x y d src : AV} {k : IntKind} {n : Int} {u : τ} {cs : List AV} {P : Program} {ty el : TypeId}
def FlC {τ : Type} (c : τ → List AV) (sz : Nat) : Prop := ∀ x, (c x).length = sz ∧ (c x).all cellOk = true ∧ (c x).all nOk = true ∧ (c x).all treeOk = false
theorem cellOk_okC {M : Mem} {x : AV} (h : nOk x = true) : okC M x = true := by
  cases x <;> first | rfl | simp [nOk, treeOk] at h
theorem FlC.fits (h : FlC c sz) (M : Mem) {by_ n : Nat} (ys : List τ) (hs : 0 < sz) (h1 : (n + ys.length) * by_ ≤ 140737488355328) (h2 : n + ys.length ≤ 140737488355328) : fits M sz by_ n (ys.map c) = true := by
  unfold Go.Ab.fits
  simp only [Bool.and_eq_true, List.all_eq_true, List.mem_map, decide_eq_true_eq, List.length_map, beq_iff_eq]
  refine ⟨⟨⟨?_, hs⟩, h1⟩, h2⟩
  rintro r ⟨x, _, rfl⟩
  exact ⟨(h x).1, fun y hy => cellOk_okC (List.all_eq_true.1 (h x).2.2.1 y hy)⟩
theorem apOc {by_ n0 : Nat} (hd : d = .lsl id L 0 L) (ho : M[id]? = some (.live ⟨.grow, t, sz, xs.map c⟩)) (hL : L = xs.length) (hs : elems src M = some (ys.map c)) (h : app by_ xs ys = some zs) (hf : FlC c sz) (h0 : 0 < sz) :
    aAppO n0 t sz by_ d src M = some (.lsl id zs.length 0 zs.length, .put (M.set id (.live ⟨.grow, t, sz, zs.map c⟩))) := by
  subst hd hL
  unfold app at h
  split at h
  · rename_i hc
    cases h
    unfold aAppO
    rw [hs, Option.bind_some]
    simp only [getOb_of ho (by simp : _ = xs.length), Option.bind_some, and_self, if_true]
    rw [if_pos (hf.fits M ys h0 hc.1 hc.2)]
    simp
  · cases h
theorem nOk_map {oo : TypeId} (hf : FlF c) : ((xs.map c).all fun q => q.all fun | AV.int .. | AV.bool _ | AV.str _ => true | _ => false) = true := by
  rw [List.all_eq_true]
  intro e he
  obtain ⟨z, _, rfl⟩ := List.mem_map.1 he
  have := hf z
  rw [List.all_eq_true] at this ⊢
  intro y hy
  have h := this y hy
  cases y <;> first | rfl | simp [flatC] at h
theorem nOk_sl {t : TypeId} (hf : FlF c) : nOk (.sl (some t) (xs.map c)) = true := nOk_map (oo := t) hf
theorem nOk_int {k : IntKind} {n : Int} : nOk (.int k n) = true := rfl
theorem nOk_bool {b : Bool} : nOk (.bool b) = true := rfl
theorem nOk_str {b} : nOk (.str b) = true := rfl
def nslV (t : TypeId) (c : τ → List AV) : List τ → AV
  | [] => .sl (some t) []
  | x :: r => .nsl t ((x :: r).map c)
theorem rr_nsv (ho : M[id]? = some (.live ⟨.grow, t, s, xs.map c⟩)) (hL : L = xs.length) (hf : FlC c sz) : rRes1 M (.lsl id L 0 L) = nslV t c xs := by
  subst hL
  simp only [rRes1, getOb_of ho (by simp : _ = xs.length)]
  cases xs with
  | nil => rfl
  | cons x r =>
    have h1 : allTree ((x :: r).map c) = false := by simp [allTree, (hf x).2.2.2]
    have h2 : allN ((x :: r).map c) = true := by
      unfold allN
      rw [List.all_eq_true]
      intro e he
      obtain ⟨z, _, rfl⟩ := List.mem_map.1 he
      exact (hf z).2.2.1
    rw [if_neg (by rw [h1]; simp), if_pos ⟨trivial, trivial, trivial, h2⟩]
    rfl
theorem lnV (hu : P.underlying ty = some (.slice el)) (hx : x = nslV t c xs) : oLen P ty x M = some (.int .i64 (xs.length : Nat), .keep) := by
  subst hx
  unfold oLen lenTy
  rw [hu]
  cases xs <;> simp [aLen, slLen, nslV, keep]
theorem ixV (hx : x = nslV t c xs) (hi : y = .int k n) (h : rd xs n = some u) (hf : FlC c sz) : keep (aIndexS sz x y M) = some (.npt (c u), .keep) := by
  obtain ⟨h0, h1⟩ := rd_get h
  subst hx hi
  cases xs with
  | nil => simp at h1
  | cons z r => simp only [aIndexS, nslV, h0, if_true, List.getElem?_map, h1, Option.map_some, Option.bind_some, (hf u).1]; rfl
theorem ldN {cs' : List AV} (hx : x = .npt cs) (hl : cs.length = sz) (hc : cs = cs') : keep (aLoad true sz x M) = some (.agg cs', .keep) := by subst hx hc; simp [aLoad, hl, keep]
end
end Go.Ab

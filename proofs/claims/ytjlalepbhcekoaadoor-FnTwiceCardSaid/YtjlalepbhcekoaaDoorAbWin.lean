/- Windows of rows: a slice that leads to the beginning of its row. -/
import Derived.Test.YtjlalepbhcekoaaDoorAbArr
set_option linter.unusedVariables false
namespace Go.Ab
open Go
section
variable {τ : Type} {c : τ → List AV} {xs ys zs : List τ} {n m : Nat} {M : Mem} {id L t s sz : Nat} {kn : Kn} {x y d src : AV} {k : IntKind} {h : Int} {u : τ}
theorem elW (hx : x = .lsl id L 0 n) (ho : M[id]? = some (.live ⟨kn, t, s, xs.map c⟩)) (hL : L = xs.length) (hn : n ≤ xs.length) : elems x M = some ((xs.take n).map c) := by
  subst hx hL
  simp [elems, getOb_of ho (by simp : _ = xs.length), hn, List.map_take]
theorem ra1_win (ho : M[id]? = some (.live ⟨kn, t, s, xs.map c⟩)) (hL : L = xs.length) (hn : n ≤ xs.length) (hf : Fl c sz) : rArg1 M (.lsl id L 0 n) = .sl none ((xs.take n).map c) := by
  have := elW (M := M) (x := .lsl id L 0 n) rfl ho hL hn
  simp only [rArg1, rCell, this, allTree_map hf, if_true]
theorem rd_win (h' : rd (xs.take n) h = some u) : 0 ≤ h ∧ h < n ∧ rd xs h = some u := by
  obtain ⟨h0, h1⟩ := rd_get h'
  rw [List.getElem?_take] at h1
  split at h1
  · refine ⟨h0, by omega, ?_⟩
    unfold rd
    rw [if_pos h0]; exact h1
  · cases h1
/-- how much is left behind 'x[:h]' -/
def slw (n : Nat) (h : Int) : Option Nat := if 0 < h ∧ h ≤ n then some h.toNat else none
theorem slw_le (hs : slw n h = some m) (hn : n ≤ xs.length) : m ≤ xs.length := by
  unfold slw at hs
  split at hs
  · cases hs; omega
  · cases hs
theorem slW (hx : x = .lsl id L 0 n) (ho : M[id]? = some (.live ⟨kn, t, sz, xs.map c⟩)) (hL : xs.length = L) (hy : y = .int k h) (hs : slw n h = some m) : keep (aSlice sz none (some y) x M) = some (.lsl id L 0 m, .keep) := by
  subst hx hy
  unfold slw at hs
  split at hs
  · rename_i hc
    cases hs
    have h0 : ¬ (0 : Int) = h := by omega
    have h1 : 0 ≤ h := by omega
    simp [aSlice, slLen, okRef, getOb_of ho (by simpa using hL), bound, keep, hc.2, h0, h1]
  · cases hs
theorem slW0 (hx : x = .lsl id L 0 n) (ho : M[id]? = some (.live ⟨kn, t, sz, xs.map c⟩)) (hL : xs.length = L) (hy : y = .int k h) (hb : (h == 0) = true) : keep (aSlice sz none (some y) x M) = some (.sl none [], .keep) := by
  subst hx hy
  obtain rfl := eq_of_beq hb
  simp [aSlice, slLen, okRef, getOb_of ho (by simpa using hL), bound, keep]
/-- append to a window -/
def apw (by_ : Nat) (xs : List τ) (n : Nat) (ys : List τ) : Option (List τ × Nat) :=
  if n = xs.length then (app by_ xs ys).bind fun zs => some (zs, zs.length)
  else if n + ys.length ≤ xs.length ∧ (n + ys.length) * by_ ≤ 140737488355328 ∧ n + ys.length ≤ 140737488355328 then some (xs.take n ++ ys ++ xs.drop (n + ys.length), n + ys.length) else none
theorem apw_le {by_ : Nat} (h' : apw by_ xs n ys = some (zs, m)) : m ≤ zs.length := by
  unfold apw at h'
  split at h'
  · obtain ⟨q, _, h'⟩ := bind_some h'
    cases h'; exact Nat.le_refl _
  · split at h'
    · cases h'; simp; omega
    · cases h'
theorem apW {by_ n0 : Nat} (hd : d = .lsl id L 0 n) (ho : M[id]? = some (.live ⟨.grow, t, sz, xs.map c⟩)) (hL : L = xs.length) (hs : elems src M = some (ys.map c)) (h' : apw by_ xs n ys = some (zs, m)) (hf : Fl c sz) (h0 : 0 < sz) :
    aAppO n0 t sz by_ d src M = some (.lsl id zs.length 0 m, .put (M.set id (.live ⟨.grow, t, sz, zs.map c⟩))) := by
  unfold apw at h'
  split at h'
  · rename_i hn
    obtain ⟨q, hq, h'⟩ := bind_some h'
    cases h'
    subst hn
    exact apO (by rw [hd, hL]) ho rfl hs hq hf h0
  · rename_i hn
    split at h'
    · rename_i hc
      cases h'
      subst hd hL
      unfold aAppO
      rw [hs, Option.bind_some]
      simp only [getOb_of ho (by simp : _ = xs.length), Option.bind_some, and_self, if_true]
      rw [if_neg hn, List.length_map, if_pos ⟨hc.1, hf.fits M ys h0 hc.2.1 hc.2.2⟩]
      have e : (xs.take n ++ ys ++ xs.drop (n + ys.length)).length = xs.length := by simp; omega
      rw [e]
      simp [List.map_take, List.map_drop]
    · cases h'
end
end Go.Ab

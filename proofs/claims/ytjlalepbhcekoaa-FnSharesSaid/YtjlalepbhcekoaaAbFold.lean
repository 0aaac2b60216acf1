/- Loops over a list are folds. -/
import Derived.Test.YtjlalepbhcekoaaAbNil
set_option linter.unusedVariables false
namespace Go.Ab
open Go
section
variable {S R τ σ : Type} {tb : S → Option (S ⊕ R)}
end
section
variable {τ : Type}
end
def toB (xs : List Int) : List UInt8 := xs.map fun n => UInt8.ofNat n.toNat
theorem bytesOf_map (xs : List Int) : bytesOf (xs.map (cI .u8)) = some (toB xs) := by
 induction xs with
 | nil => rfl
 | cons x xs ih =>
  show (bytesOf (xs.map (cI .u8))).map _ = _
  rw [ih]; rfl
theorem cvB {x : AV} {M : Mem} {xs : List Int} (h : elems x M = some (xs.map (cI .u8))) : keep (aConvB x M) = some (.str (toB xs), .keep) := by
 unfold aConvB
 rw [h, Option.bind_some, bytesOf_map]; rfl
section
variable {β : Type} {K : Nat → Env × List Ob → Option β} {Q : β → Prop} {e : Env} {C : List Ob} {op : Option (AV × Eff)} {v : AV} {d : Option Nat} {cont : Nat → Env → List Ob → Option (Env × List Ob)}
theorem Ev.nfpushE {l : List Ob} (hop : op = some (v, .push l)) (h : Ev (fun k => (cont k (put e d v) (C ++ l)).bind (K k)) Q) : Ev (fun k => (nf op d false e C (cont k)).bind (K k)) Q :=
 Ev.nfpush hop (fun C' hC => by subst hC; exact h)
theorem fendM {M M' : Mem} {C : List Ob} (h : M' = M ++ C.map .live) (l : List Ob) (hl : C = l) : M' = M ++ l.map .live := by subst hl; exact h
end
theorem rd_set {τ : Type} {xs : List τ} {n : Int} {u u' : τ} (h : rd xs n = some u) : rd (xs.set n.toNat u') n = some u' := by
 obtain ⟨h0, h1⟩ := rd_lt h
 unfold rd at h ⊢
 split at h
 ·rename_i hn
  rw [if_pos hn, List.getElem?_set_self h0]
 ·cases h
end Go.Ab

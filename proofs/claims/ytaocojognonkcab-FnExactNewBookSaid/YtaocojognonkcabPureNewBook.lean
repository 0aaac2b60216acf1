/- The program's NewBook and the reference's. -/
import Derived.Test.YtaocojognonkcabPBookOkNewBook
set_option linter.unusedVariables false
set_option linter.unusedSimpArgs false
namespace Go.Proofs.Ytaocojognonkcab.Pure
open Go Go.Ab
def newB (a : List Int) : Bool := a.all amB && inB a.length 1 16
theorem specNew_eq (a : List Int) (h : a.length * 8 ≤ 140737488351232) : spec_NewBook a = some (if newB a = true then .inl a else .inr ()) := by
  unfold spec_NewBook newB
  rw [cash_spec a (by omega), Option.bind_some]
  split
  · rename_i h1
    rw [app_some (by simp; omega) (by omega)]; simp
  · rfl
theorem clone_eq (a : List Int) (h : a.length * 8 ≤ 140737488351232) : slices_Clone_int64 a = some a := by
  unfold slices_Clone_int64
  rw [app_some (by simp; omega) (by omega)]; simp
theorem implNew_eq (a : List Int) (h : a.length * 8 ≤ 140737488351232) : impl_NewBook a = some (if newB a = true then .inl a else .inr ()) := by
  unfold impl_NewBook newB
  rw [clone_eq a h, Option.bind_some, validBook_eq _ (by simp; omega) (by simp), Option.bind_some]
  have : bookB ⟨0, a, []⟩ = (a.all amB && inB a.length 1 16) := by simp [bookB, talliesB, inB]
  rw [this]
  cases (a.all amB && inB a.length 1 16) <;> simp
theorem markT0 (k : Int) : laws_markTallyS_n k = some k := by
  unfold laws_markTallyS_n
  rw [Lw_stop (r := k) (by simp [laws_markTallyS_n_b1]), Option.bind_some]
theorem heldT0 (k : Int) : laws_heldTallyS [] k = some k := by
  unfold laws_heldTallyS
  rw [Lw_stop (r := .inr k) (by simp [laws_heldTallyS_b1]), Option.bind_some]
theorem FnExactNewBook (a0 : List Int) (h0 : (okLs 8 (InR .i64)) a0) : laws_FnExactNewBook a0 = some true := by
  have hn := h0.2.1
  unfold laws_FnExactNewBook
  split
  · rfl
  rename_i hb
  have hb : a0.length ≤ 1048576 := by simp at hb; omega
  have hc : ∀ k : Nat, ¬ (1 + (k : Int) < 0) := fun k => by omega
  have he : ∀ x y : List Int, x.length ≤ 1048576 → laws_eqBook ⟨0, x, []⟩ ⟨0, y, []⟩ = some (decide (x = y)) := by
    intro x y hx
    unfold laws_eqBook
    rw [eqInt64S_eq _ _ (by simp; omega), eqTallyS_eq _ _ (by simp)]
    by_cases h : x = y <;> simp [h]
  have hh : ∀ k : Nat, k ≤ 1048576 → laws_heldInt64S (iota 1 k) 1 = some (1 + (k : Int)) := fun k hk => heldInt64S_eq k 1 (by omega) (by omega) (by omega)
  have h00 : laws_heldInt64S [] 1 = some 1 := hh 0 (by omega)
  have hm := markInt64S_eq a0 1 (by omega) (by omega) (by omega)
  cases hB : newB a0 with
  | true =>
    simp [toInt64S_eq _ hn, specNew_eq a0 hn, implNew_eq a0 hn, hB, he a0 a0 hb, eqInt64S_eq a0 a0 (by omega), hm, hc, laws_markBook_ln, markT0, laws_heldBook, heldT0, hh a0.length hb]
  | false =>
    simp [toInt64S_eq _ hn, specNew_eq a0 hn, implNew_eq a0 hn, hB, he [] [] (by simp), eqInt64S_eq a0 a0 (by omega), hm, hc, laws_markBook_nn, markT0, markInt64S_2_eq, laws_heldBook, heldT0, h00]
end Go.Proofs.Ytaocojognonkcab.Pure

/- The program's IsHome and the reference's. -/
import Derived.Test.YthkbjnbbahmpkaaPValidIsHome
set_option linter.unusedVariables false
set_option linter.unusedSimpArgs false
namespace Go.Proofs.Ythkbjnbbahmpkaa.Pure
open Go Go.Ab
theorem last_eq (c : Chain) (h : ChI c) : ∃ m : Mark, impl_last c = some (m.Holder, m.Seal) ∧ spec_l06Last c = some (m.Holder, m.Seal) := by
  obtain ⟨h1, h2, _⟩ := h
  have hr : rd c.Marks (IntKind.i64.wrap ((c.Marks.length : Int) - 1)) = some (c.Marks[c.Marks.length - 1]'(by omega)) := by
    rw [w64 (by omega), show ((c.Marks.length : Int) - 1) = ((c.Marks.length - 1 : Nat) : Int) by omega, rd_coe, List.getElem?_eq_getElem]
  exact ⟨_, by unfold impl_last; rw [hr]; rfl, by unfold spec_l06Last; rw [hr]; rfl⟩
theorem home_same (c : Chain) (hc : c.ok) : ∃ r, impl_IsHome c = some r ∧ spec_IsHome c = some r := by
  obtain ⟨b, i1, i2, i3⟩ := validChain_same c hc
  unfold impl_IsHome spec_IsHome
  rw [i1, i2]
  cases b with
  | false => exact ⟨(false, 1), by simp, by simp⟩
  | true =>
    obtain ⟨m, l1, l2⟩ := last_eq c (i3 rfl)
    exact ⟨(m.Holder == c.Debtor, 0), by simp [l1], by simp [l2]⟩
theorem FnExactIsHome (a0 : Chain) (h0 : Chain.ok a0) : laws_FnExactIsHome a0 = some true := by
  have n0 := ok_notches h0
  have m0 := ok_marks h0
  unfold laws_FnExactIsHome
  obtain ⟨r, hr⟩ := szChain_some a0 1048576 h0
  rw [hr, Option.bind_some]
  by_cases hr0 : r < 0
  · rw [if_pos (by simpa using hr0)]
  rw [if_neg (by simpa using hr0)]
  have e0 : (⟨a0.Debtor, ⟨a0.Stock.Stock, a0.Stock.Notches, a0.Stock.Grain⟩, a0.Marks⟩ : Chain) = a0 := rfl
  have s0 := eqChain_eq a0 a0 (by omega) (by omega)
  obtain ⟨⟨x, y⟩, i1, i2⟩ := home_same a0 h0
  simp only [toChain_eq _ h0, Option.bind_some, e0, i1, i2, s0, decide_true, if_true, beq_self_eq_true, bne_self_eq_false, Bool.false_eq_true, if_false]
end Go.Proofs.Ythkbjnbbahmpkaa.Pure

/- The program's WhoPassedTwice and the reference's. -/
import Derived.Test.YthkbjnbbahmpkabPCommonWhoPassedTwice
set_option linter.unusedVariables false
set_option linter.unusedSimpArgs false
namespace Go.Proofs.Ythkbjnbbahmpkab.Pure
open Go Go.Ab
theorem twice_same (x y : Chain) (hx : x.ok) (hy : y.ok) : ∃ r, impl_WhoPassedTwice x y = some r ∧ spec_WhoPassedTwice x y = some r := by
  obtain ⟨r, c, i1, i2, i3⟩ := common_same x y hx hy
  unfold impl_WhoPassedTwice spec_WhoPassedTwice
  rw [i1, i2]
  by_cases h0 : c = 0
  · obtain ⟨g1, g2, g3, g4, g5⟩ := i3 h0
    have g6 := g1.2.1
    by_cases e1 : r = x.Marks.length
    · exact ⟨([], 6), by simp [h0, e1], by simp [h0, e1]⟩
    · by_cases e2 : r = y.Marks.length
      · exact ⟨([], 6), by simp [h0, e2], by simp [h0, e2]⟩
      · by_cases e3 : r = 0
        · have e1' : ¬ (0 : Int) = x.Marks.length := by omega
          have e2' : ¬ (0 : Int) = y.Marks.length := by omega
          exact ⟨(x.Debtor, 0), by simp [h0, e3, e1', e2'], by simp [h0, e3, e1', e2']⟩
        · obtain ⟨i, hi⟩ : ∃ i : Nat, r - 1 = i := ⟨(r - 1).toNat, by omega⟩
          have hlt : i < x.Marks.length := by omega
          have hr : rd x.Marks (IntKind.i64.wrap (r - 1)) = some x.Marks[i] := by rw [w64 (by omega), hi, rd_coe, List.getElem?_eq_getElem hlt]
          exact ⟨(x.Marks[i].Holder, 0), by simp [h0, e1, e2, e3, hr], by simp [h0, e1, e2, e3, hr]⟩
  · exact ⟨([], c), by simp [h0], by simp [h0]⟩
theorem FnExactWhoPassedTwice (a0 : Chain) (h0 : Chain.ok a0) (a1 : Chain) (h1 : Chain.ok a1) : laws_FnExactWhoPassedTwice a0 a1 = some true := by
  have n0 := ok_notches h0
  have m0 := ok_marks h0
  have n1 := ok_notches h1
  have m1 := ok_marks h1
  unfold laws_FnExactWhoPassedTwice
  obtain ⟨r, hr⟩ := szChain_some a0 1048576 h0
  rw [hr, Option.bind_some]
  by_cases hr0 : r < 0
  · rw [if_pos (by simpa using hr0)]
  rw [if_neg (by simpa using hr0)]
  obtain ⟨q, hq⟩ := szChain_some a1 r h1
  rw [hq, Option.bind_some]
  by_cases hq0 : q < 0
  · rw [if_pos (by simpa using hq0)]
  rw [if_neg (by simpa using hq0)]
  have e0 : (⟨a0.Debtor, ⟨a0.Stock.Stock, a0.Stock.Notches, a0.Stock.Grain⟩, a0.Marks⟩ : Chain) = a0 := rfl
  have e1 : (⟨a1.Debtor, ⟨a1.Stock.Stock, a1.Stock.Notches, a1.Stock.Grain⟩, a1.Marks⟩ : Chain) = a1 := rfl
  have s0 := eqChain_eq a0 a0 (by omega) (by omega)
  have s1 := eqChain_eq a1 a1 (by omega) (by omega)
  obtain ⟨⟨x, y⟩, i1, i2⟩ := twice_same a0 a1 h0 h1
  simp only [toChain_eq _ h0, toChain_eq _ h1, Option.bind_some, e0, e1, i1, i2, s0, s1, decide_true, if_true, beq_self_eq_true, bne_self_eq_false, Bool.false_eq_true, if_false]
end Go.Proofs.Ythkbjnbbahmpkab.Pure

/- The program's FirstRefused and the reference's. -/
import Derived.Test.YtpdmcpnabjifhaaPBooksFirstRefused
set_option linter.unusedVariables false
set_option linter.unusedSimpArgs false
namespace Go.Proofs.Ytpdmcpnabjifhaa.Pure
open Go Go.Ab
theorem refused_same (b : Book) (xs : List Deal) (hc : b.Cash.length ≤ 4611686018427387904) (ht : b.Tallies.length ≤ 4611686018427387904) (hx : xs.length ≤ 4611686018427387904) :
    ∃ r, impl_FirstRefused b xs = some r ∧ spec_FirstRefused b xs = some r := by
  unfold impl_FirstRefused spec_FirstRefused
  rw [dealsCode_eq b xs hc ht hx, l07Asked_eq b xs hc ht hx, Option.bind_some, Option.bind_some]
  by_cases h0 : askC b xs = 0
  · obtain ⟨g1, g2, g3⟩ := asked h0
    rcases books_same xs b g1 g2 g3 with ⟨c, out, e1, e2, e3, _⟩ | ⟨s, out, e1, e2, _⟩
    · exact ⟨((out.length : Int), c, 0), by simp [h0, e1, e3], by simp [h0, e2, e3]⟩
    · exact ⟨(0, 0, 6), by simp [h0, e1], by simp [h0, e2]⟩
  · exact ⟨(0, 0, askC b xs), by simp [h0], by simp [h0]⟩
theorem FnExactFirstRefused (a0 : Book) (h0 : Book.ok a0) (a1 : List Deal) (h1 : (okLs 48 Deal.ok) a1) : laws_FnExactFirstRefused a0 a1 = some true := by
  have hc := ok_cash h0
  have ht := ok_tallies h0
  have hn := h1.2.1
  unfold laws_FnExactFirstRefused
  obtain ⟨r, hr⟩ := szBook_some a0 1048576
  rw [hr, Option.bind_some]
  by_cases hr0 : r < 0
  · rw [if_pos (by simpa using hr0)]
  rw [if_neg (by simpa using hr0)]
  obtain ⟨r2, hr2⟩ := szDealS_some a1 r
  rw [hr2, Option.bind_some]
  by_cases hr3 : r2 < 0
  · rw [if_pos (by simpa using hr3)]
  rw [if_neg (by simpa using hr3)]
  have t0 := toBook_eq a0 h0
  have t1 := toDealS_eq a1 (by omega)
  have e0 : (⟨a0.Day, a0.Cash, a0.Tallies⟩ : Book) = a0 := rfl
  have s0 := eqBook_eq a0 a0 h0
  have s1 := eqDealS_eq a1 a1 (by omega)
  obtain ⟨⟨x, y, z⟩, q1, q2⟩ := refused_same a0 a1 (by omega) (by omega) (by omega)
  simp only [t0, t1, e0, q1, q2, s0, s1, Option.bind_some, decide_true, if_true, bne_self_eq_false, Bool.false_eq_true, if_false]
end Go.Proofs.Ytpdmcpnabjifhaa.Pure

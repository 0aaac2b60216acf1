/- The program's DealsText and the reference's. -/
import Derived.Test.YtkkmbehooldmjaaDoorPsDealsText
set_option linter.unusedVariables false
set_option linter.unusedSimpArgs false
namespace Go.Proofs.YtkkmbehooldmjaaDoor.Pure
open Go Go.Ab
theorem FnExactDealsText (a0 : List Deal) (h0 : (okLs 48 Deal.ok) a0) : laws_FnExactDealsText a0 = some true := by
  have hn := h0.2.1
  unfold laws_FnExactDealsText
  obtain ⟨r2, hr2⟩ := szDealS_some a0 1048576
  rw [hr2, Option.bind_some]
  by_cases hr3 : r2 < 0
  · rw [if_pos (by simpa using hr3)]
  rw [if_neg (by simpa using hr3)]
  have t1 := toDealS_eq a0 (by omega)
  have s1 := eqDealS_eq a0 a0 (by omega)
  obtain ⟨t, q1, q2⟩ := dealsText_same a0 (by omega)
  simp only [t1, q1, q2, s1, Option.bind_some, decide_true, if_true, beq_self_eq_true]
end Go.Proofs.YtkkmbehooldmjaaDoor.Pure

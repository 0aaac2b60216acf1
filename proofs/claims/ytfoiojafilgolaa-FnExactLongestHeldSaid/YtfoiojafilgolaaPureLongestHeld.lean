/- The program's LongestHeld and the reference's. -/
import Derived.Test.YtfoiojafilgolaaPsLongestHeld
set_option linter.unusedVariables false
set_option linter.unusedSimpArgs false
namespace Go.Proofs.Ytfoiojafilgolaa.Pure
open Go Go.Ab
theorem FnExactLongestHeld (a0 : Book) (h0 : Book.ok a0) (a1 : List Deal) (h1 : (okLs 48 Deal.ok) a1) (a2 : Int) (h2 : (InR .i64) a2) : laws_FnExactLongestHeld a0 a1 a2 = some true := by
  have hc := ok_cash h0
  have ht := ok_tallies h0
  have hn := h1.2.1
  unfold laws_FnExactLongestHeld
  obtain ⟨r, hr⟩ := szBook_some a0 1048576
  rw [hr, Option.bind_some]
  by_cases hr0 : r < 0
  · rw [if_pos (by simpa using hr0)]
  rw [if_neg (by simpa using hr0)]
  obtain ⟨r2, hr2⟩ := szDealS_some a1 r
  rw [hr2, Option.bind_some]
  by_cases hr3 : r2 < 0
  · rw [if_pos (by simpa using hr3)]
  rw [if_neg (by simpa using hr3)]
  have t0 := toBook_eq a0 h0
  have t1 := toDealS_eq a1 (by omega)
  have e0 : (⟨a0.Day, a0.Cash, a0.Tallies⟩ : Book) = a0 := rfl
  have s0 := eqBook_eq a0 a0 h0
  have s1 := eqDealS_eq a1 a1 (by omega)
  obtain ⟨⟨x, y, z⟩, q1, q2⟩ := long_same a0 a1 a2 (by omega) (by omega) (by omega)
  simp only [t0, t1, e0, q1, q2, s0, s1, Option.bind_some, decide_true, if_true, bne_self_eq_false, Bool.false_eq_true, if_false]
end Go.Proofs.Ytfoiojafilgolaa.Pure

/- The program's ReadDeals and the reference's. -/
import Derived.Test.YtbhbmgmnnkcmcaaDoorPsReadDeals
set_option linter.unusedVariables false
set_option linter.unusedSimpArgs false
namespace Go.Proofs.YtbhbmgmnnkcmcaaDoor.Pure
open Go Go.Ab
theorem FnExactReadDeals (a0 : List UInt8) (h0 : okS a0) : laws_FnExactReadDeals a0 = some true := by
  unfold laws_FnExactReadDeals
  by_cases hs : (a0.length : Int) > 1048576
  · rw [if_pos (by simpa using hs)]
  rw [if_neg (by simpa using hs)]
  rcases readDeals_same a0 (by omega) with ⟨q1, q2⟩ | ⟨ds, q1, q2, q3⟩
  · have z := eqDealS_eq [] [] (by simp)
    have mn := markDealS0 1
    have hh : laws_heldDealS [] 1 = some 1 := heldDealS_eq 0 1 (by omega) (by omega) (by omega)
    have c1 : decide ((1 : Int) < 0) = false := by decide
    simp only [q1, q2, z, mn, hh, c1, Option.bind_some, decide_true, if_true, bne_self_eq_false, Bool.false_eq_true, if_false]
  · have z := eqDealS_eq ds ds (by omega)
    have mm := markDealS_eq ds 1 (by omega) (by omega) (by omega)
    have hh := heldDealS_eq ds.length 1 (by omega) (by omega) (by omega)
    have c1 : decide ((1 : Int) + ((6 * ds.length : Nat) : Int) < 0) = false := by rw [decide_eq_false_iff_not]; omega
    simp only [q1, q2, z, mm, hh, c1, Option.bind_some, decide_true, if_true, bne_self_eq_false, Bool.false_eq_true, if_false]
end Go.Proofs.YtbhbmgmnnkcmcaaDoor.Pure

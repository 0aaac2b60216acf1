/- The program's ReadChain and the reference's. -/
import Derived.Test.YtbhbmgmnnkcmcaaDoorPsReadChain
set_option linter.unusedVariables false
set_option linter.unusedSimpArgs false
namespace Go.Proofs.YtbhbmgmnnkcmcaaDoor.Pure
open Go Go.Ab
theorem FnExactReadChain (a0 : List UInt8) (h0 : okS a0) : laws_FnExactReadChain a0 = some true := by
  unfold laws_FnExactReadChain
  by_cases hs : (a0.length : Int) > 1048576
  · rw [if_pos (by simpa using hs)]
  rw [if_neg (by simpa using hs)]
  rcases chain_same a0 (by omega) with ⟨q1, q2⟩ | ⟨d, st, ns, g, ms, q1, q2, q3, q4⟩
  · have z := eqChain_eq ⟨[], ⟨false, [], Ar.rep 16 0⟩, []⟩ ⟨[], ⟨false, [], Ar.rep 16 0⟩, []⟩ (by simp) (by simp)
    have mn : laws_markChain_nn [] false (Ar.rep 16 0) 1 = some 1 := by unfold laws_markChain_nn laws_markHalf_n; simp [markNotchS0, markMarkS0]
    have hh : laws_heldChain ⟨[], ⟨false, [], Ar.rep 16 0⟩, []⟩ 1 = some 1 := heldChain_eq [] false (Ar.rep 16 0) 0 0 1 (by omega) (by omega) (by omega) (by omega)
    have c1 : decide ((1 : Int) < 0) = false := by decide
    simp only [q1, q2, z, mn, hh, c1, Option.bind_some, decide_true, if_true, bne_self_eq_false, Bool.false_eq_true, if_false]
  · have z := eqChain_eq ⟨d, ⟨st, ns, g⟩, ms⟩ ⟨d, ⟨st, ns, g⟩, ms⟩ (by simp only; omega) (by simp only; omega)
    have mm := markChain_eq2 d st ns g ms 1 (by omega) (by omega) (by omega) (by omega)
    have hh := heldChain_eq d st g ns.length ms.length 1 (by omega) (by omega) (by omega) (by omega)
    have c1 : decide ((1 : Int) + ((2 * ns.length : Nat) : Int) + ((2 * ms.length : Nat) : Int) < 0) = false := by rw [decide_eq_false_iff_not]; omega
    simp only [q1, q2, z, mm, hh, c1, Option.bind_some, decide_true, if_true, bne_self_eq_false, Bool.false_eq_true, if_false]
end Go.Proofs.YtbhbmgmnnkcmcaaDoor.Pure

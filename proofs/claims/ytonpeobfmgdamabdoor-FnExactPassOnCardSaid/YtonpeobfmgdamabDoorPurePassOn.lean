/- The program's PassOn and the reference's. -/
import Derived.Test.YtonpeobfmgdamabDoorPsPassOn
set_option linter.unusedVariables false
set_option linter.unusedSimpArgs false
namespace Go.Proofs.YtonpeobfmgdamabDoor.Pure
open Go Go.Ab
theorem FnExactPassOn (a0 : Chain) (h0 : Chain.ok a0) (a1 : Party) (h1 : Party.ok a1) (a2 : List UInt8) (h2 : okS a2) : laws_FnExactPassOn a0 a1 a2 = some true := by
  have hn := ok_notches h0
  have hm := ok_marks h0
  unfold laws_FnExactPassOn
  by_cases hb : (a2.length : Int) > 1048576
  · rw [if_pos (by simpa using hb)]
  rw [if_neg (by simpa using hb)]
  obtain ⟨r, hr⟩ := szChain_some a0 1048576 h0
  rw [hr, Option.bind_some]
  by_cases hr0 : r < 0
  · rw [if_pos (by simpa using hr0)]
  rw [if_neg (by simpa using hr0)]
  obtain ⟨r2, hr2⟩ := szParty_some a1 r
  rw [hr2, Option.bind_some]
  by_cases hr3 : r2 < 0
  · rw [if_pos (by simpa using hr3)]
  rw [if_neg (by simpa using hr3)]
  have t0 := toChain_eq a0 h0
  have t1 : laws_toParty a1 = some (a1.Name, a1.Secret) := rfl
  have e0 : (⟨a0.Debtor, ⟨a0.Stock.Stock, a0.Stock.Notches, a0.Stock.Grain⟩, a0.Marks⟩ : Chain) = a0 := rfl
  have e1 : (⟨a1.Name, a1.Secret⟩ : Party) = a1 := rfl
  have s0 := eqChain_eq a0 a0 (by omega) (by omega)
  have m0 := markChain_eq2 a0.Debtor a0.Stock.Stock a0.Stock.Notches a0.Stock.Grain a0.Marks 1 (by omega) (by omega) (by omega) (by omega)
  have c0 : decide ((1 : Int) + ((2 * a0.Stock.Notches.length : Nat) : Int) + ((2 * a0.Marks.length : Nat) : Int) < 0) = false := by rw [decide_eq_false_iff_not]; omega
  rcases pass_same a0 a1 a2 h0 h1 h2 with ⟨c, q1, q2⟩ | ⟨s, q1, q2, q3, q4⟩
  · have z := eqChain_eq ⟨[], ⟨false, [], Ar.rep 16 0⟩, []⟩ ⟨[], ⟨false, [], Ar.rep 16 0⟩, []⟩ (by simp) (by simp)
    have mn : laws_markChain_nn [] false (Ar.rep 16 0) 1 = some 1 := by unfold laws_markChain_nn laws_markHalf_n; simp [markNotchS0, markMarkS0]
    have hh : laws_heldChain ⟨[], ⟨false, [], Ar.rep 16 0⟩, []⟩ 1 = some 1 := heldChain_eq [] false (Ar.rep 16 0) 0 0 1 (by omega) (by omega) (by omega) (by omega)
    have c1 : decide ((1 : Int) < 0) = false := by decide
    simp only [t0, t1, e0, e1, q1, q2, s0, z, m0, mn, hh, Option.bind_some, decide_true, if_true, bne_self_eq_false, Bool.false_eq_true, if_false, c0, c1]
  · have hl : (a0.Marks ++ [(⟨a2, s⟩ : Mark)]).length ≤ 31 := by simp; omega
    revert q1 q2 hl
    generalize a0.Marks ++ [(⟨a2, s⟩ : Mark)] = ms
    intro q1 q2 hl
    have z := eqChain_eq ⟨a0.Debtor, ⟨a0.Stock.Stock, a0.Stock.Notches, a0.Stock.Grain⟩, ms⟩ ⟨a0.Debtor, ⟨a0.Stock.Stock, a0.Stock.Notches, a0.Stock.Grain⟩, ms⟩ (by simp only; omega) (by simp only; omega)
    have mm := markChain_eq2 a0.Debtor a0.Stock.Stock a0.Stock.Notches a0.Stock.Grain ms 1 (by omega) (by omega) (by omega) (by omega)
    have hh := heldChain_eq a0.Debtor a0.Stock.Stock a0.Stock.Grain a0.Stock.Notches.length ms.length 1 (by omega) (by omega) (by omega) (by omega)
    have c1 : decide ((1 : Int) + ((2 * a0.Stock.Notches.length : Nat) : Int) + ((2 * ms.length : Nat) : Int) < 0) = false := by rw [decide_eq_false_iff_not]; omega
    simp only [t0, t1, e0, e1, q1, q2, s0, z, m0, mm, hh, Option.bind_some, decide_true, if_true, bne_self_eq_false, Bool.false_eq_true, if_false, c0, c1]
end Go.Proofs.YtonpeobfmgdamabDoor.Pure

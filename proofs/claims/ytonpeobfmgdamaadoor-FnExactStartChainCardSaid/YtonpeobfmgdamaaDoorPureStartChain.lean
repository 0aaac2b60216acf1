/- The program's StartChain and the reference's. -/
import Derived.Test.YtonpeobfmgdamaaDoorPsStartChain
set_option linter.unusedVariables false
set_option linter.unusedSimpArgs false
namespace Go.Proofs.YtonpeobfmgdamaaDoor.Pure
open Go Go.Ab
theorem FnExactStartChain (a0 : Half) (h0 : Half.ok a0) (a1 : Party) (h1 : Party.ok a1) (a2 : List UInt8) (h2 : okS a2) : laws_FnExactStartChain a0 a1 a2 = some true := by
  have hn := h0.2.1.2.1
  unfold laws_FnExactStartChain
  by_cases hb : (a2.length : Int) > 1048576
  · rw [if_pos (by simpa using hb)]
  rw [if_neg (by simpa using hb)]
  have hz : ∃ r, laws_szHalf a0 1048576 = some r := by
    unfold laws_szHalf
    obtain ⟨r, hr⟩ := szNotchS_some a0.Notches 1048576
    rw [hr, Option.bind_some]
    split <;> exact ⟨_, rfl⟩
  obtain ⟨r, hr⟩ := hz
  rw [hr, Option.bind_some]
  by_cases hr0 : r < 0
  · rw [if_pos (by simpa using hr0)]
  rw [if_neg (by simpa using hr0)]
  obtain ⟨r2, hr2⟩ := szParty_some a1 r
  rw [hr2, Option.bind_some]
  by_cases hr3 : r2 < 0
  · rw [if_pos (by simpa using hr3)]
  rw [if_neg (by simpa using hr3)]
  have t0 : laws_toHalf a0 = some (a0.Stock, a0.Notches, a0.Grain) := by
    unfold laws_toHalf
    rw [toNotchS_eq _ hn, toGrain_eq]
    rfl
  have t1 : laws_toParty a1 = some (a1.Name, a1.Secret) := rfl
  have e0 : (⟨a0.Stock, a0.Notches, a0.Grain⟩ : Half) = a0 := rfl
  have e1 : (⟨a1.Name, a1.Secret⟩ : Party) = a1 := rfl
  have s0 := eqHalf_eq a0 a0 (by omega)
  have m0 := markHalf_eq a0.Stock a0.Notches a0.Grain 1 (by omega) (by omega) (by omega)
  have c0 : decide ((1 : Int) + ((2 * a0.Notches.length : Nat) : Int) < 0) = false := by rw [decide_eq_false_iff_not]; omega
  rcases start_same a0 a1 a2 h0 h1 h2 with ⟨c, q1, q2⟩ | ⟨s, q1, q2, q3⟩
  · have z := eqChain_eq ⟨[], ⟨false, [], Ar.rep 16 0⟩, []⟩ ⟨[], ⟨false, [], Ar.rep 16 0⟩, []⟩ (by simp) (by simp)
    have mn : laws_markChain_nn [] false (Ar.rep 16 0) 1 = some 1 := by unfold laws_markChain_nn laws_markHalf_n; simp [markNotchS0, markMarkS0]
    have hh : laws_heldChain ⟨[], ⟨false, [], Ar.rep 16 0⟩, []⟩ 1 = some 1 := heldChain_eq [] false (Ar.rep 16 0) 0 0 1 (by omega) (by omega) (by omega) (by omega)
    have c1 : decide ((1 : Int) < 0) = false := by decide
    simp only [t0, t1, e0, e1, q1, q2, s0, z, m0, mn, hh, Option.bind_some, decide_true, if_true, bne_self_eq_false, Bool.false_eq_true, if_false, c0, c1]
  · have z := eqChain_eq ⟨a1.Name, ⟨true, a0.Notches, a0.Grain⟩, [⟨a2, s⟩]⟩ ⟨a1.Name, ⟨true, a0.Notches, a0.Grain⟩, [⟨a2, s⟩]⟩ (by simp only; omega) (by simp)
    have mm := markChain_eq2 a1.Name true a0.Notches a0.Grain [⟨a2, s⟩] 1 (by omega) (by simp) (by omega) (by omega)
    have hh := heldChain_eq a1.Name true a0.Grain a0.Notches.length [(⟨a2, s⟩ : Mark)].length 1 (by omega) (by simp) (by omega) (by omega)
    have c1 : decide ((1 : Int) + ((2 * a0.Notches.length : Nat) : Int) + ((2 * [(⟨a2, s⟩ : Mark)].length : Nat) : Int) < 0) = false := by rw [decide_eq_false_iff_not]; simp; omega
    simp only [t0, t1, e0, e1, q1, q2, s0, z, m0, mm, hh, Option.bind_some, decide_true, if_true, bne_self_eq_false, Bool.false_eq_true, if_false, c0, c1]
end Go.Proofs.YtonpeobfmgdamaaDoor.Pure

/- The program's CheckChain and the reference's. -/
import Derived.Test.YtonpeobfmgdamaaDoorPsCheckChain
set_option linter.unusedVariables false
set_option linter.unusedSimpArgs false
namespace Go.Proofs.YtonpeobfmgdamaaDoor.Pure
open Go Go.Ab
theorem FnExactCheckChain (a0 : List Party) (h0 : (okLs 24 Party.ok) a0) (a1 : Chain) (h1 : Chain.ok a1) : laws_FnExactCheckChain a0 a1 = some true := by
  have hn := h0.2.1
  have hnn := ok_notches h1
  have hmm := ok_marks h1
  unfold laws_FnExactCheckChain
  obtain ⟨r, hr⟩ := szPartyS_some a0 1048576 (by omega)
  rw [hr, Option.bind_some]
  by_cases hr0 : r < 0
  · rw [if_pos (by simpa using hr0)]
  rw [if_neg (by simpa using hr0)]
  obtain ⟨r2, hr2⟩ := szChain_some a1 r h1
  rw [hr2, Option.bind_some]
  by_cases hr3 : r2 < 0
  · rw [if_pos (by simpa using hr3)]
  rw [if_neg (by simpa using hr3)]
  have t0 := toPartyS_eq a0 hn
  have t1 := toChain_eq a1 h1
  have e1 : (⟨a1.Debtor, ⟨a1.Stock.Stock, a1.Stock.Notches, a1.Stock.Grain⟩, a1.Marks⟩ : Chain) = a1 := rfl
  have s0 := eqPartyS_eq a0 a0 (by omega)
  have s1 := eqChain_eq a1 a1 (by omega) (by omega)
  obtain ⟨⟨u, v⟩, q1, q2⟩ := checkChain_same a0 a1 h0 h1
  simp only [t0, t1, e1, q1, q2, s0, s1, Option.bind_some, decide_true, if_true, bne_self_eq_false, Bool.false_eq_true, if_false]
end Go.Proofs.YtonpeobfmgdamaaDoor.Pure

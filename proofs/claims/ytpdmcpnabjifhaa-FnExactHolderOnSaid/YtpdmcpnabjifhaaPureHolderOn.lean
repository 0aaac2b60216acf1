/- The program's HolderOn and the reference's. -/
import Derived.Test.YtpdmcpnabjifhaaPStateHolderOn
set_option linter.unusedVariables false
set_option linter.unusedSimpArgs false
namespace Go.Proofs.Ytpdmcpnabjifhaa.Pure
open Go Go.Ab
theorem holder_same (b : Book) (xs : List Deal) (t day : Int) (hc : b.Cash.length ≤ 4611686018427387904) (ht : b.Tallies.length ≤ 4611686018427387904) (hx : xs.length ≤ 4611686018427387904) :
    ∃ r, impl_HolderOn b xs t day = some r ∧ spec_HolderOn b xs t day = some r := by
  unfold impl_HolderOn spec_HolderOn
  rcases stateOn_same b xs day hc ht hx with ⟨c, c0, e1, e2⟩ | ⟨s, k1, k2, e1, e2⟩
  · exact ⟨(0, c), by simp [e1, c0], by simp [e2, c0]⟩
  · rw [e1, e2]
    have htn := k1.tn
    have w : IntKind.i64.wrap ((s.Tallies.length : Int) - 1) = (s.Tallies.length : Int) - 1 := w64 (by omega)
    simp only [Option.bind_some, w, l00In_eq]
    by_cases h1 : t < 0
    · have : inB t 0 ((s.Tallies.length : Int) - 1) = false := by unfold inB; simp; omega
      exact ⟨(0, 6), by simp [h1], by simp [this]⟩
    · by_cases h2 : t < s.Tallies.length
      · have : inB t 0 ((s.Tallies.length : Int) - 1) = true := inB_iff.2 ⟨by omega, by omega⟩
        have h2' : ¬ (s.Tallies.length : Int) ≤ t := by omega
        obtain ⟨i, rfl⟩ : ∃ i : Nat, t = i := ⟨t.toNat, by omega⟩
        have hlt : i < s.Tallies.length := by omega
        exact ⟨(s.Tallies[i].Holder, 0), by simp [h1, h2', rd_coe, hlt], by simp [this, rd_coe, hlt]⟩
      · have : inB t 0 ((s.Tallies.length : Int) - 1) = false := by unfold inB; simp; omega
        have h2' : (s.Tallies.length : Int) ≤ t := by omega
        exact ⟨(0, 6), by simp [h1, h2'], by simp [this]⟩
theorem FnExactHolderOn (a0 : Book) (h0 : Book.ok a0) (a1 : List Deal) (h1 : (okLs 48 Deal.ok) a1) (a2 : Int) (h2 : (InR .i64) a2) (a3 : Int) (h3 : (InR .i64) a3) : laws_FnExactHolderOn a0 a1 a2 a3 = some true := by
  have hc := ok_cash h0
  have ht := ok_tallies h0
  have hn := h1.2.1
  unfold laws_FnExactHolderOn
  obtain ⟨r, hr⟩ := szBook_some a0 1048576
  rw [hr, Option.bind_some]
  by_cases hr0 : r < 0
  · rw [if_pos (by simpa using hr0)]
  rw [if_neg (by simpa using hr0)]
  obtain ⟨r2, hr2⟩ := szDealS_some a1 r
  rw [hr2, Option.bind_some]
  by_cases hr3 : r2 < 0
  · rw [if_pos (by simpa using hr3)]
  rw [if_neg (by simpa using hr3)]
  have t0 := toBook_eq a0 h0
  have t1 := toDealS_eq a1 (by omega)
  have e0 : (⟨a0.Day, a0.Cash, a0.Tallies⟩ : Book) = a0 := rfl
  have s0 := eqBook_eq a0 a0 h0
  have s1 := eqDealS_eq a1 a1 (by omega)
  obtain ⟨⟨x, y⟩, q1, q2⟩ := holder_same a0 a1 a2 a3 (by omega) (by omega) (by omega)
  simp only [t0, t1, e0, q1, q2, s0, s1, Option.bind_some, decide_true, if_true, bne_self_eq_false, Bool.false_eq_true, if_false]
end Go.Proofs.Ytpdmcpnabjifhaa.Pure

/- The program's WorstDebtor and the reference's. -/
import Derived.Test.YtonpeobfmgdamaaPRollOkWorstDebtor
set_option linter.unusedVariables false
set_option linter.unusedSimpArgs false
namespace Go.Proofs.Ytonpeobfmgdamaa.Pure
open Go Go.Ab
theorem worst_same (r : Roll) (h : r.ok) : ∃ q, impl_WorstDebtor r = some q ∧ spec_WorstDebtor r = some q := by
  have hn := h.1.2.1
  obtain ⟨b, b1, b2⟩ := roll_same r h
  unfold impl_WorstDebtor spec_WorstDebtor
  rw [b1, b2]
  have : ∃ q q2 : Int, Lw (impl_WorstDebtor_b1 r) (-1, 0, 0) = some q ∧ Lw (spec_WorstDebtor_b1 r) (-1, 0, 0) = some q2 ∧ q = q2 := by
    refine Lw_sim (tb := impl_WorstDebtor_b1 r) (tb2 := spec_WorstDebtor_b1 r) (fun s => r.Accounts.length - s.2.2.toNat) (fun s s2 => s = s2 ∧ ∃ i : Nat, s.2.2 = i ∧ i ≤ r.Accounts.length) _ ?_ _ _ _ rfl ⟨rfl, 0, rfl, by omega⟩
    rintro ⟨a, c, j⟩ s2 ⟨rfl, i, hi, hil⟩
    simp only at hi
    subst hi
    by_cases hlt : i < r.Accounts.length
    · have hr : rd r.Accounts (i : Int) = some r.Accounts[i] := by rw [rd_coe, List.getElem?_eq_getElem hlt]
      have w := w64s hlt (by omega)
      left
      by_cases k0 : r.Accounts[i].Balance > c
      · exact ⟨((i : Int), r.Accounts[i].Balance, ((i + 1 : Nat) : Int)), _, by simp [impl_WorstDebtor_b1, hlt, hr, k0, w], by simp [spec_WorstDebtor_b1, hlt, hr, k0, w], ⟨rfl, i + 1, rfl, by omega⟩, by simp; omega⟩
      · exact ⟨(a, c, ((i + 1 : Nat) : Int)), _, by simp [impl_WorstDebtor_b1, hlt, hr, k0, w], by simp [spec_WorstDebtor_b1, hlt, hr, k0, w], ⟨rfl, i + 1, rfl, by omega⟩, by simp; omega⟩
    · exact .inr ⟨a, a, by simp [impl_WorstDebtor_b1, hlt], by simp [spec_WorstDebtor_b1, hlt], rfl⟩
  obtain ⟨q, _, e1, e2, rfl⟩ := this
  cases b with
  | false => exact ⟨(0, 1), by simp, by simp⟩
  | true =>
    by_cases k : q < 0
    · exact ⟨(0, 6), by simp [e1, k], by simp [e2, k]⟩
    · exact ⟨(q, 0), by simp [e1, k], by simp [e2, k]⟩
theorem FnExactWorstDebtor (a0 : Roll) (h0 : Roll.ok a0) : laws_FnExactWorstDebtor a0 = some true := by
  unfold laws_FnExactWorstDebtor
  obtain ⟨r, hr⟩ := szRoll_some a0 1048576 h0
  rw [hr, Option.bind_some]
  by_cases hr0 : r < 0
  · rw [if_pos (by simpa using hr0)]
  rw [if_neg (by simpa using hr0)]
  have e0 : (⟨a0.Accounts, a0.Owed⟩ : Roll) = a0 := rfl
  have s0 := eqRoll_eq a0 a0 h0
  obtain ⟨⟨x, y⟩, i1, i2⟩ := worst_same a0 h0
  simp only [toRoll_eq _ h0, Option.bind_some, e0, i1, i2, s0, decide_true, if_true, bne_self_eq_false, Bool.false_eq_true, if_false]
end Go.Proofs.Ytonpeobfmgdamaa.Pure

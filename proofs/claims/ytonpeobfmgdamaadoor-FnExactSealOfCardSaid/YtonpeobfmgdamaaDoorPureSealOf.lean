/- The program's SealOf and the reference's. -/
import Derived.Test.YtonpeobfmgdamaaDoorPsSealOf
set_option linter.unusedVariables false
set_option linter.unusedSimpArgs false
namespace Go.Proofs.YtonpeobfmgdamaaDoor.Pure
open Go Go.Ab
theorem sealOf_same (h : Half) (b : Int) (n : List UInt8) (s : Int) (hh : h.ok) (hb : InR .u32 b) (hn : okS n) (hs' : InR .u32 s) : ∃ r, impl_SealOf h b n s = some r ∧ spec_SealOf h b n s = some r := by
  have hn' : n.length ≤ 140737488351232 := hn
  obtain ⟨q, q1, q2, q3⟩ := validHalf_same h (fun x hx => inR8.1 (hh.2.1.2.2 x hx).1)
  have ha : ∀ x ∈ h.Notches, x.At ≤ 32767 := fun x hx => (inR16.1 (hh.2.1.2.2 x hx).2).2
  have rb : 0 ≤ b ∧ b ≤ 4294967295 := by simpa [InR, Lit.wf, IntKind.min, IntKind.max, IntKind.signed, IntKind.bits] using hb
  have rs : 0 ≤ s ∧ s ≤ 4294967295 := by simpa [InR, Lit.wf, IntKind.min, IntKind.max, IntKind.signed, IntKind.bits] using hs'
  unfold impl_SealOf spec_SealOf
  rw [q1, q2, isName_eq _ (by omega), l06Name_eq _ (by omega)]
  simp only [Option.bind_some]
  cases q with
  | false => exact ⟨(0, 1), rfl, rfl⟩
  | true =>
    cases nameB n with
    | false => exact ⟨(0, 2), rfl, rfl⟩
    | true =>
      obtain ⟨e1, e2⟩ := seal_same h b n s (q3 rfl) ha rb rs hn'
      exact ⟨(sealT h b n s, 0), by simp [e1], by simp [e2]⟩
theorem FnExactSealOf (a0 : Half) (h0 : Half.ok a0) (a1 : Int) (h1 : (InR .u32) a1) (a2 : List UInt8) (h2 : okS a2) (a3 : Int) (h3 : (InR .u32) a3) : laws_FnExactSealOf a0 a1 a2 a3 = some true := by
  have hn := h0.2.1.2.1
  unfold laws_FnExactSealOf
  by_cases hb : (a2.length : Int) > 1048576
  · rw [if_pos (by simpa using hb)]
  rw [if_neg (by simpa using hb)]
  have hz : ∃ r, laws_szHalf a0 1048576 = some r := by
    unfold laws_szHalf
    obtain ⟨r, hr⟩ := szNotchS_some a0.Notches 1048576
    rw [hr, Option.bind_some]
    split <;> exact ⟨_, rfl⟩
  obtain ⟨r, hr⟩ := hz
  rw [hr, Option.bind_some]
  by_cases hr0 : r < 0
  · rw [if_pos (by simpa using hr0)]
  rw [if_neg (by simpa using hr0)]
  have t0 : laws_toHalf a0 = some (a0.Stock, a0.Notches, a0.Grain) := by
    unfold laws_toHalf
    rw [toNotchS_eq _ hn, toGrain_eq]
    rfl
  have e0 : (⟨a0.Stock, a0.Notches, a0.Grain⟩ : Half) = a0 := rfl
  have s0 := eqHalf_eq a0 a0 (by omega)
  obtain ⟨⟨u, v⟩, q1, q2⟩ := sealOf_same a0 a1 a2 a3 h0 h1 h2 h3
  simp only [t0, e0, q1, q2, s0, Option.bind_some, decide_true, if_true, bne_self_eq_false, Bool.false_eq_true, if_false]
end Go.Proofs.YtonpeobfmgdamaaDoor.Pure

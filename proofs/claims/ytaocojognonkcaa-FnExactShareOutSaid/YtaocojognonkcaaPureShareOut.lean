/- The program's ShareOut and the reference's do the same. -/
import Derived.Test.YtaocojognonkcaaPShareShareOut
set_option linter.unusedVariables false
set_option linter.unusedSimpArgs false
namespace Go.Proofs.Ytaocojognonkcaa.Pure
open Go Go.Ab
theorem share_same (n : Int) (a : List Int) (hn : a.length * 8 ≤ 140737488351232) :
    (impl_ShareOut n a = some (.inl ()) ∧ spec_ShareOut n a = some ([], 2)) ∨ ∃ o, impl_ShareOut n a = some (.inr o) ∧ spec_ShareOut n a = some (o, 0) ∧ o.length ≤ 20 := by
  unfold impl_ShareOut spec_ShareOut
  rw [isAmount_eq, l01Amount_eq]
  simp only [Option.bind_some, l00In_eq]
  have hs : Lw (spec_ShareOut_b1 a) (false, 0, 0) = some (false, 0) := by
    refine Lw_stop ?_
    simp only [spec_ShareOut_b1]; split <;> simp
  cases hA : inB n 0 100000000 with
  | false =>
    left
    refine ⟨by simp, ?_⟩
    simp only [Bool.false_eq_true, if_false, Option.bind_some, hs, if_true]
  | true =>
    simp only [if_true, Option.bind_some]
    cases hL : inB (a.length : Int) 1 20 with
    | true =>
      obtain ⟨hl1, hl2⟩ := inB_iff.1 hL
      obtain ⟨hA1, hA2⟩ := inB_iff.1 hA
      have c1 : decide ((a.length : Int) < 1) = false := by simp; omega
      have c2 : decide ((a.length : Int) > 20) = false := by simp; omega
      obtain ⟨s, g1, g2⟩ := share_b1_spec a (by omega)
      rw [share_b1_impl a (by omega), g1]
      simp only [c1, c2, Bool.false_eq_true, if_false, Option.bind_some]
      cases hw : a.all wB with
      | false => left; simp
      | true =>
        rw [g2 hw]
        simp only [if_true, Option.bind_some]
        by_cases ht : psum a a.length = 0
        · left; simp [ht]
        · right
          have ht2 : (psum a a.length == 0) = false := by simpa using ht
          obtain ⟨r, out, rests, k1, k2, k3, k4, k5⟩ := share_b2 n a _ ht hn (by omega)
          obtain ⟨o, r', m1, m2, m3⟩ := share_b3 r k5 out rests (by omega) (by omega) (by omega)
          simp only [ht2, Bool.false_eq_true, if_false, k1, k2, Option.bind_some, m1, m2]
          exact ⟨o, rfl, rfl, by omega⟩
    | false =>
      left
      simp only [hs, Option.bind_some, Bool.false_eq_true, if_false, if_true, and_true]
      by_cases h2 : (a.length : Int) < 1
      · simp [h2]
      · have h3 : (a.length : Int) > 20 := by rcases inB_not.1 hL with h | h <;> omega
        simp [h2, h3]
theorem FnExactShareOut (a0 : Int) (h0 : (InR .i64) a0) (a1 : List Int) (h1 : (okLs 8 (InR .i64)) a1) : laws_FnExactShareOut a0 a1 = some true := by
  have hn := h1.2.1
  unfold laws_FnExactShareOut
  split
  · rfl
  rename_i hb
  have hb : a1.length ≤ 1048576 := by simp at hb; omega
  rw [toInt64S_eq _ hn]
  have he : ∀ x y : List Int, x.length ≤ 20 → laws_eqInt64S x y = some (decide (x = y)) := fun x y hx => eqInt64S_eq x y (by omega)
  have hm : ∀ x : List Int, x.length ≤ 1048576 → laws_markInt64S x 1 = some (1 + (x.length : Int), iota 1 x.length) := fun x hx => markInt64S_eq x 1 (by omega) (by omega) (by omega)
  have hh : ∀ k : Nat, k ≤ 1048576 → laws_heldInt64S (iota 1 k) 1 = some (1 + (k : Int)) := fun k hk => heldInt64S_eq k 1 (by omega) (by omega) (by omega)
  have hc : ∀ k : Nat, ¬ (1 + (k : Int) < 0) := fun k => by omega
  have h00 : laws_heldInt64S [] 1 = some 1 := hh 0 (by omega)
  rcases share_same a0 a1 hn with ⟨e1, e2⟩ | ⟨o, e1, e2, hl⟩
  · simp [hc, e1, e2, he, hm a1 hb, markInt64S_2_eq, h00, eqInt64S_eq a1 a1 (by omega)]
  · simp [hc, e1, e2, he o _ hl, hm a1 hb, hm o (by omega), hh o.length (by omega), eqInt64S_eq a1 a1 (by omega)]
end Go.Proofs.Ytaocojognonkcaa.Pure

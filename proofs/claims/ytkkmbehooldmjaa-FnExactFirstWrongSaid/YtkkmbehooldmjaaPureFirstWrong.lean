/- The program's FirstWrong and the reference's. -/
import Derived.Test.YtkkmbehooldmjaaPsFirstWrong
set_option linter.unusedVariables false
set_option linter.unusedSimpArgs false
namespace Go.Proofs.Ytkkmbehooldmjaa.Pure
open Go Go.Ab
theorem wrong_loop (out cl : List Book) (ho : ∀ x ∈ out, BkI x) (hc : okLs 56 Book.ok cl) :
    ∃ r r2, Lw (impl_FirstWrong_b1 cl out) 0 = some r ∧ Lw (spec_FirstWrong_b1 cl out) 0 = some r2 ∧ r = r2 := by
  have hn := hc.2.1
  refine Lw_sim (tb := impl_FirstWrong_b1 cl out) (tb2 := spec_FirstWrong_b1 cl out) (fun s => cl.length - s.toNat) (fun s s2 => s = s2 ∧ ∃ i : Nat, s = i) _ ?_ _ _ _ rfl ⟨rfl, 0, rfl⟩
  rintro j s2 ⟨rfl, i, rfl⟩
  by_cases hlt : i < cl.length
  · have w := w64s hlt (by omega)
    by_cases h2 : i < out.length
    · have k := hc.2.2 _ (List.getElem_mem hlt)
      have k1 := ok_cash k
      have k2 := ok_tallies k
      have g := ho _ (List.getElem_mem h2)
      have g1 := g.cn
      have g2 := g.tn
      have e1 := sameBook_len cl[i] out[i] (by omega) (by omega)
      have e2 := l07Same_len out[i] cl[i] (by omega) (by omega)
      have z : ¬ (out.length : Int) ≤ i := by omega
      by_cases he : cl[i] = out[i]
      · rw [decide_eq_true he] at e1
        rw [decide_eq_true he.symm] at e2
        exact .inl ⟨((i + 1 : Nat) : Int), _, by simp [impl_FirstWrong_b1, rd_coe, hlt, h2, e1, w, z], by simp [spec_FirstWrong_b1, rd_coe, hlt, h2, e2, w, z], ⟨rfl, i + 1, rfl⟩, by simp; omega⟩
      · rw [decide_eq_false he] at e1
        rw [decide_eq_false (fun h => he h.symm)] at e2
        exact .inr ⟨.inl i, .inl i, by simp [impl_FirstWrong_b1, rd_coe, hlt, h2, e1, w, z], by simp [spec_FirstWrong_b1, rd_coe, hlt, h2, e2, w, z], rfl⟩
    · have z : (out.length : Int) ≤ i := by omega
      exact .inr ⟨.inl i, .inl i, by simp [impl_FirstWrong_b1, rd_coe, hlt, z], by simp [spec_FirstWrong_b1, rd_coe, hlt, z], rfl⟩
  · exact .inr ⟨.inr (), .inr (), by simp [impl_FirstWrong_b1, hlt], by simp [spec_FirstWrong_b1, hlt], rfl⟩
theorem wrong_same (b : Book) (xs : List Deal) (cl : List Book) (hcl : okLs 56 Book.ok cl) (hc : b.Cash.length ≤ 4611686018427387904) (ht : b.Tallies.length ≤ 4611686018427387904) (hx : xs.length ≤ 4611686018427387904) :
    ∃ r, impl_FirstWrong b xs cl = some r ∧ spec_FirstWrong b xs cl = some r := by
  unfold impl_FirstWrong spec_FirstWrong
  rw [dealsCode_eq b xs hc ht hx, l07Asked_eq b xs hc ht hx, Option.bind_some, Option.bind_some]
  by_cases h0 : askC b xs = 0
  · obtain ⟨g1, g2, g3⟩ := asked h0
    rcases books_same xs b g1 g2 g3 with ⟨c, out, e1, e2, e3, _⟩ | ⟨s, out, e1, e2, _, _, _, e6, _⟩
    · exact ⟨(0, c), by simp [h0, e1, e3], by simp [h0, e2, e3]⟩
    · obtain ⟨r, r2, q1, q2, rfl⟩ := wrong_loop out cl (fun x hx => (e6 x hx).1) hcl
      rcases r with r | r
      · exact ⟨(r, 0), by simp [h0, e1, q1], by simp [h0, e2, q2]⟩
      · exact ⟨(0, 6), by simp [h0, e1, q1], by simp [h0, e2, q2]⟩
  · exact ⟨(0, askC b xs), by simp [h0], by simp [h0]⟩
theorem FnExactFirstWrong (a0 : Book) (h0 : Book.ok a0) (a1 : List Deal) (h1 : (okLs 48 Deal.ok) a1) (a2 : List Book) (h2 : (okLs 56 Book.ok) a2) : laws_FnExactFirstWrong a0 a1 a2 = some true := by
  have hc := ok_cash h0
  have ht := ok_tallies h0
  have hn := h1.2.1
  have hn2 := h2.2.1
  unfold laws_FnExactFirstWrong
  obtain ⟨r, hr⟩ := szBook_some a0 1048576
  rw [hr, Option.bind_some]
  by_cases hr0 : r < 0
  · rw [if_pos (by simpa using hr0)]
  rw [if_neg (by simpa using hr0)]
  obtain ⟨r2, hr2⟩ := szDealS_some a1 r
  rw [hr2, Option.bind_some]
  by_cases hr3 : r2 < 0
  · rw [if_pos (by simpa using hr3)]
  rw [if_neg (by simpa using hr3)]
  obtain ⟨r4, hr4⟩ := szBookS_some a2 r2 (by omega)
  rw [hr4, Option.bind_some]
  by_cases hr5 : r4 < 0
  · rw [if_pos (by simpa using hr5)]
  rw [if_neg (by simpa using hr5)]
  have t0 := toBook_eq a0 h0
  have t1 := toDealS_eq a1 (by omega)
  have t2 := toBookS_eq a2 h2
  have e0 : (⟨a0.Day, a0.Cash, a0.Tallies⟩ : Book) = a0 := rfl
  have s0 := eqBook_eq a0 a0 h0
  have s1 := eqDealS_eq a1 a1 (by omega)
  have s2 := eqBookS_eq a2 a2 h2
  obtain ⟨⟨x, y⟩, q1, q2⟩ := wrong_same a0 a1 a2 h2 (by omega) (by omega) (by omega)
  simp only [t0, t1, t2, e0, q1, q2, s0, s1, s2, Option.bind_some, decide_true, if_true, bne_self_eq_false, Bool.false_eq_true, if_false]
end Go.Proofs.Ytkkmbehooldmjaa.Pure

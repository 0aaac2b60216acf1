/- Lists of deals done on a book: the program's and the reference's. -/
import Derived.Test.YtpdmcpnabjifhaaPDoHolderOn
set_option linter.unusedVariables false
set_option linter.unusedSimpArgs false
namespace Go.Proofs.Ytpdmcpnabjifhaa
open Go Go.Ab
/-- what is known of the books that have been made -/
def BksI (n : Nat) (out : List Book) : Prop := ∀ x ∈ out, BkI x ∧ x.Cash.length = n
def LastI (b : Book) (s : Book) (out : List Book) : Prop := (out = [] ∧ s = b) ∨ out.getLast? = some s
theorem books_loop (xs : List Deal) (b : Book) (hb : BkI b) (hx : ∀ d ∈ xs, dealB d = true) (hn : xs.length ≤ 80) :
    ∃ r r2, Lw (impl_books_b1 xs) (0, b.Day, b.Cash, b.Tallies, []) = some r ∧ Lw (spec_l07All_b1 xs) (0, b.Day, b.Cash, b.Tallies, []) = some r2 ∧
      ((∃ c out, r = .inl (c, out) ∧ r2 = .inl (c, (out.length : Int)) ∧ c ≠ 0 ∧ out.length ≤ 80 ∧ BksI b.Cash.length out) ∨
        ∃ d cs ts out, r = .inr (d, cs, ts, out) ∧ r2 = .inr (d, cs, ts, out) ∧ out.length = xs.length ∧ BkI ⟨d, cs, ts⟩ ∧ cs.length = b.Cash.length ∧ BksI b.Cash.length out ∧ LastI b ⟨d, cs, ts⟩ out) := by
  refine Lw_sim (tb := impl_books_b1 xs) (tb2 := spec_l07All_b1 xs) (fun s => xs.length - s.1.toNat)
    (fun s s2 => s = s2 ∧ ∃ i : Nat, s.1 = i ∧ i ≤ xs.length ∧ s.2.2.2.2.length = i ∧ BkI ⟨s.2.1, s.2.2.1, s.2.2.2.1⟩ ∧ s.2.2.1.length = b.Cash.length ∧ BksI b.Cash.length s.2.2.2.2 ∧ LastI b ⟨s.2.1, s.2.2.1, s.2.2.2.1⟩ s.2.2.2.2) _ ?_ _ _ _ rfl
    ⟨rfl, 0, rfl, by omega, rfl, hb, rfl, fun x h => (nomatch h), .inl ⟨rfl, rfl⟩⟩
  rintro ⟨j, d, cs, ts, out⟩ s2 ⟨rfl, i, hi, hil, hol, hbk, hcl, hbs, hla⟩
  simp only at hi hol hbk hcl hbs hla
  subst hi
  by_cases hlt : i < xs.length
  · obtain ⟨q, e1, e2, e3⟩ := do_same ⟨d, cs, ts⟩ xs[i] hbk (hx _ (List.getElem_mem hlt))
    have hr : rd xs (i : Int) = some xs[i] := by rw [rd_coe, List.getElem?_eq_getElem hlt]
    rcases q with q | ⟨d', cs', ts'⟩
    · have h0 : q ≠ 0 := e3.1 q rfl
      exact .inr ⟨.inl (q, out), .inl (q, (i : Int)), by simp [impl_books_b1, hr, hlt, e1, h0], by simp [spec_l07All_b1, hr, hlt, e2, h0], .inl ⟨q, out, rfl, by rw [hol], h0, by omega, hbs⟩⟩
    · obtain ⟨g1, g2⟩ := e3.2 _ _ _ rfl
      have ap : app 56 out [⟨d', cs', ts'⟩] = some (out ++ [⟨d', cs', ts'⟩]) := app_some (by simp; omega) (by decide)
      have w := w64s hlt (by omega)
      refine .inl ⟨(((i + 1 : Nat) : Int), d', cs', ts', out ++ [⟨d', cs', ts'⟩]), _, by simp [impl_books_b1, hr, hlt, e1, ap, w], by simp [spec_l07All_b1, hr, hlt, e2, ap, w], ⟨rfl, i + 1, rfl, by omega, by simp [hol], g1, by simpa [hcl] using g2, fun x hx' => ?_, .inr (by simp)⟩, by simp; omega⟩
      rcases List.mem_append.1 hx' with h | h
      · exact hbs x h
      · obtain rfl := List.mem_singleton.1 h
        exact ⟨g1, by simpa [hcl] using g2⟩
  · have hie : i = xs.length := by omega
    exact .inr ⟨.inr (d, cs, ts, out), .inr (d, cs, ts, out), by simp [impl_books_b1, hlt], by simp [spec_l07All_b1, hlt], .inr ⟨d, cs, ts, out, rfl, rfl, by omega, hbk, hcl, hbs, hla⟩⟩
/-- the books behind the deals -/
def BooksS (b : Book) (xs : List Deal) : Prop :=
  (∃ c out, impl_books b xs = some (out, c) ∧ spec_l07All b xs = some ([], c, (out.length : Int)) ∧ c ≠ 0 ∧ out.length ≤ 80 ∧ BksI b.Cash.length out) ∨
    ∃ s out, impl_books b xs = some (out, 0) ∧ spec_l07All b xs = some (out, 0, 0) ∧ out.length = xs.length ∧ BkI s ∧ s.Cash.length = b.Cash.length ∧ BksI b.Cash.length out ∧ LastI b s out
theorem books_same (xs : List Deal) (b : Book) (hb : BkI b) (hx : ∀ d ∈ xs, dealB d = true) (hn : xs.length ≤ 80) : BooksS b xs := by
  obtain ⟨r, r2, e1, e2, h⟩ := books_loop xs b hb hx hn
  rcases h with ⟨c, out, rfl, rfl, h⟩ | ⟨d, cs, ts, out, rfl, rfl, h⟩
  · exact .inl ⟨c, out, by unfold impl_books; rw [e1]; rfl, by unfold spec_l07All; rw [l07Copy_eq b hb, Option.bind_some]; simp only; rw [e2]; rfl, h⟩
  · exact .inr ⟨⟨d, cs, ts⟩, out, by unfold impl_books; rw [e1]; rfl, by unfold spec_l07All; rw [l07Copy_eq b hb, Option.bind_some]; simp only; rw [e2]; rfl, h⟩
def askC (b : Book) (xs : List Deal) : Int := if bookB b && xs.all dealB then if (80 : Int) < (xs.length : Int) then 3 else 0 else 1
theorem dealsCode_eq (b : Book) (xs : List Deal) (hc : b.Cash.length ≤ 4611686018427387904) (ht : b.Tallies.length ≤ 4611686018427387904) (hx : xs.length ≤ 4611686018427387904) : impl_dealsCode b xs = some (askC b xs) := by
  unfold impl_dealsCode askC
  rw [validBook_eq b hc ht, areDeals_eq xs hx]
  cases bookB b <;> cases xs.all dealB <;> simp <;> split <;> rfl
theorem l07Asked_eq (b : Book) (xs : List Deal) (hc : b.Cash.length ≤ 4611686018427387904) (ht : b.Tallies.length ≤ 4611686018427387904) (hx : xs.length ≤ 4611686018427387904) : spec_l07Asked b xs = some (askC b xs) := by
  unfold spec_l07Asked askC
  rw [l07Ok_eq b hc ht, l07Deals_eq xs hx]
  cases bookB b <;> cases xs.all dealB <;> simp <;> split <;> rfl
theorem asked {b : Book} {xs : List Deal} (h : askC b xs = 0) : BkI b ∧ (∀ d ∈ xs, dealB d = true) ∧ xs.length ≤ 80 := by
  unfold askC at h
  split at h
  · rename_i h1
    simp only [Bool.and_eq_true, List.all_eq_true] at h1
    split at h
    · omega
    · exact ⟨.of h1.1, h1.2, by omega⟩
  · omega
end Go.Proofs.Ytpdmcpnabjifhaa

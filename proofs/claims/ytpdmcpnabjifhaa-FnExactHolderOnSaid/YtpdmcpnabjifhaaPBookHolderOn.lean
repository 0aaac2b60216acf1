/- Books: equal, copied, weighed. -/
import Derived.Test.YtpdmcpnabjifhaaPTallyToHolderOn
set_option linter.unusedVariables false
set_option linter.unusedSimpArgs false
namespace Go.Proofs.Ytpdmcpnabjifhaa
open Go Go.Ab
theorem book_eq {x y : Book} : x = y ↔ x.Day = y.Day ∧ x.Cash = y.Cash ∧ x.Tallies = y.Tallies := by
  cases x; cases y; simp
theorem ok_cash {b : Book} (h : b.ok) : b.Cash.length * 8 ≤ 140737488351232 := h.2.1.2.1
theorem ok_tallies {b : Book} (h : b.ok) : b.Tallies.length * 40 ≤ 140737488351232 := h.2.2.2.1
theorem toBook_eq (b : Book) (h : b.ok) : laws_toBook b = some (b.Day, b.Cash, b.Tallies) := by
  unfold laws_toBook
  rw [toInt64S_eq _ (ok_cash h), Option.bind_some, toTallyS_eq _ (ok_tallies h), Option.bind_some]
theorem eqBook_eq (x y : Book) (h : x.ok) : laws_eqBook x y = some (decide (x = y)) := by
  have h1 := (ok_cash h)
  have h2 := (ok_tallies h)
  unfold laws_eqBook
  rw [eqInt64S_eq _ _ (by omega), eqTallyS_eq _ _ (by omega)]
  by_cases e1 : x.Day = y.Day <;> by_cases e2 : x.Cash = y.Cash <;> by_cases e3 : x.Tallies = y.Tallies <;> simp [book_eq, e1, e2, e3]
theorem szI_some (xs : List Int) (n : Int) : ∃ r, laws_szInt64S xs n = some r := by
  unfold laws_szInt64S; split <;> exact ⟨_, rfl⟩
theorem szT_some (xs : List Tally) (n : Int) : ∃ r, laws_szTallyS xs n = some r := by
  unfold laws_szTallyS; split <;> exact ⟨_, rfl⟩
theorem szBook_some (b : Book) (n : Int) : ∃ r, laws_szBook b n = some r := by
  unfold laws_szBook
  obtain ⟨r, hr⟩ := szI_some b.Cash n
  obtain ⟨q, hq⟩ := szT_some b.Tallies r
  rw [hr, Option.bind_some, hq, Option.bind_some]
  repeat' split
  all_goals exact ⟨_, rfl⟩
end Go.Proofs.Ytpdmcpnabjifhaa

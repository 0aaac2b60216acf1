/- The program's AccountText and the reference's. -/
import Derived.Test.YtbhbmgmnnkcmcaaDoorPsAccountText
set_option linter.unusedVariables false
set_option linter.unusedSimpArgs false
namespace Go.Proofs.YtbhbmgmnnkcmcaaDoor.Pure
open Go Go.Ab
theorem FnExactAccountText (a0 : Account) (h0 : Account.ok a0) : laws_FnExactAccountText a0 = some true := by
  unfold laws_FnExactAccountText
  obtain ⟨r, hr⟩ := szAccount_some a0 1048576
  rw [hr, Option.bind_some]
  by_cases hr0 : r < 0
  · rw [if_pos (by simpa using hr0)]
  rw [if_neg (by simpa using hr0)]
  have e0 : (⟨a0.Title, a0.Items, a0.Balance⟩ : Account) = a0 := rfl
  have s0 := eqAccount_eq a0 a0 h0
  obtain ⟨t, t1, p, p1, p2, p3⟩ := accText_same a0 h0
  have t2 : spec_AccountText a0 = some t := by
    unfold spec_AccountText
    rw [p1]
    cases p with
    | true => obtain ⟨rfl, _, q⟩ := p2 rfl; simp [q]
    | false => rw [p3 rfl]; simp
  simp only [toAccount_eq _ h0, Option.bind_some, e0, t1, t2, s0, decide_true, if_true, beq_self_eq_true]
end Go.Proofs.YtbhbmgmnnkcmcaaDoor.Pure

/- Parties: names, finding, valid lists. -/
import Derived.Test.YthkbjnbbahmpkabPChainShortWay
set_option linter.unusedVariables false
set_option linter.unusedSimpArgs false
namespace Go.Proofs.Ythkbjnbbahmpkab
open Go Go.Ab
def letB (c : UInt8) : Bool := decide (97 ≤ c.toNat) && decide (c.toNat ≤ 122)
def lettersB (s : List UInt8) (n : Int) : Bool := s.all letB && decide (1 ≤ s.length) && decide ((s.length : Int) ≤ n)
def nameB (s : List UInt8) : Bool := lettersB s 12
theorem isLetters_loop (s : List UInt8) (hn : s.length ≤ 4611686018427387904) : Lw (impl_isLetters_b1 s) 0 = some (if s.all letB = true then .inr () else .inl ()) := by
  have key := scan_all (tb := impl_isLetters_b1 s) s.length hn (fun i => (s[i]?).all letB) () ()
    (by
      intro i hi
      simp only [impl_isLetters_b1, rd_coe, List.getElem?_eq_getElem hi, Option.bind_some, Option.all_some]
      rw [if_pos (by simpa using hi)]
      by_cases h1 : s[i].toNat < 97
      · rw [if_pos (by simp; omega), if_neg (by simp [letB]; omega)]
      · by_cases h2 : s[i].toNat > 122
        · rw [if_neg (by simp; omega), if_pos (by simp; omega), if_neg (by simp [letB]; omega)]
        · rw [if_neg (by simp; omega), if_neg (by simp; omega), if_pos (by simp [letB]; omega)])
    (by simp [impl_isLetters_b1])
  rw [key, all_get]
theorem isLetters_eq (s : List UInt8) (n : Int) (hn : s.length ≤ 4611686018427387904) : impl_isLetters s n = some (lettersB s n) := by
  unfold impl_isLetters lettersB
  rw [isLetters_loop s hn]
  cases s.all letB with
  | false => simp
  | true =>
    by_cases h : 1 ≤ s.length
    · have : (1 : Int) ≤ (s.length : Int) := by omega
      simp [h, this]
    · have : ¬ (1 : Int) ≤ (s.length : Int) := by omega
      simp [h, this]
theorem isName_eq (s : List UInt8) (hn : s.length ≤ 4611686018427387904) : impl_isName s = some (nameB s) := by
  unfold impl_isName nameB; rw [isLetters_eq s 12 hn, Option.bind_some]
theorem l06Name_eq (s : List UInt8) (hn : s.length ≤ 4611686018427387904) : spec_l06Name s = some (nameB s) := by
  have e : Lw (spec_l06Name_b1 s) 0 = Lw (impl_isLetters_b1 s) 0 := rfl
  unfold spec_l06Name nameB lettersB
  rw [e, isLetters_loop s hn]
  cases s.all letB with
  | false => simp
  | true =>
    cases s with
    | nil => simp
    | cons c r => simp
end Go.Proofs.Ythkbjnbbahmpkab

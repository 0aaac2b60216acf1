/- Lists of deals: equal, copied, marked, valid, in order. -/
import Derived.Test.YtpdmcpnabjifhaaPDealHolderOn
set_option linter.unusedVariables false
set_option linter.unusedSimpArgs false
namespace Go.Proofs.Ytpdmcpnabjifhaa
open Go Go.Ab
theorem deal_eq {x y : Deal} : x = y ↔ x.Day = y.Day ∧ x.Kind = y.Kind ∧ x.Tally = y.Tally ∧ x.From = y.From ∧ x.To = y.To ∧ x.Amount = y.Amount := by
  cases x; cases y; simp
theorem toDeal_eq (d : Deal) : laws_toDeal d = some (d.Day, d.Kind, d.Tally, d.From, d.To, d.Amount) := rfl
theorem eqDeal_eq (x y : Deal) : laws_eqDeal x y = some (decide (x = y)) := by
  unfold laws_eqDeal
  simp only [deal_eq, bne_iff_ne, ne_eq, ite_not]
  repeat' split
  all_goals simp_all
theorem toDealS_eq (a : List Deal) (h : a.length * 48 ≤ 140737488351232) : laws_toDealS a = some a := by
  unfold laws_toDealS
  have key := copy_loop (tb := laws_toDealS_b1 a) a (List.replicate a.length ⟨0, 0, 0, 0, 0, 0⟩) (by omega) (by simp)
    (by intro i zs hi hz; simp [laws_toDealS_b1, laws_toDeal, rd_coe, hi, hz]) (by intro zs hz; simp [laws_toDealS_b1])
  rw [mkS_some h (by omega), Option.bind_some, key, Option.bind_some]
theorem eqDealS_eq (a b : List Deal) (h : a.length ≤ 4611686018427387904) : laws_eqDealS a b = some (decide (a = b)) := by
  unfold laws_eqDealS
  by_cases hl : a.length = b.length
  · have key := scan_all (tb := laws_eqDealS_b1 a b) a.length h (fun i => decide (a[i]? = b[i]?)) () ()
      (by
        intro i hi
        have hi2 : i < b.length := by omega
        simp only [laws_eqDealS_b1, rd_coe, List.getElem?_eq_getElem hi, List.getElem?_eq_getElem hi2, Option.bind_some, eqDeal_eq]
        by_cases he : a[i] = b[i] <;> simp [he, hi])
      (by simp [laws_eqDealS_b1])
    rw [if_neg (by simp [hl]), key, all_eq hl]
    by_cases he : a = b <;> simp [he]
  · rw [if_pos (by simp; omega)]
    have : a ≠ b := fun h => hl (by rw [h])
    simp [this]
theorem szDealS_some (xs : List Deal) (n : Int) : ∃ r, laws_szDealS xs n = some r := by
  unfold laws_szDealS; split <;> exact ⟨_, rfl⟩
theorem szDealS_bound (xs : List Deal) (n r : Int) (h : laws_szDealS xs n = some r) (h0 : ¬ r < 0) (hn : n ≤ 1048576) (hx : xs.length ≤ 140737488351232) (hm : -9223372036854775808 + 140737488351232 ≤ n) : (xs.length : Int) ≤ n ∧ r = n - xs.length := by
  unfold laws_szDealS at h
  rw [w64 (by omega)] at h
  split at h
  · cases h; omega
  · cases h; omega
/-! marks -/
def mDeal (k : Int) : Deal := ⟨k, IntKind.i8.wrap (k + 1), k + 1 + 1, k + 1 + 1 + 1, k + 1 + 1 + 1 + 1, k + 1 + 1 + 1 + 1 + 1⟩
/-! valid ones -/
theorem areDeals_eq (xs : List Deal) (hn : xs.length ≤ 4611686018427387904) : impl_areDeals xs = some (xs.all dealB) := by
  unfold impl_areDeals
  have key := scan_all (tb := impl_areDeals_b1 xs) xs.length hn (fun i => (xs[i]?).all dealB) () ()
    (by
      intro i hi
      simp only [impl_areDeals_b1, rd_coe, List.getElem?_eq_getElem hi, Option.bind_some, validDeal_eq, Option.all_some]
      rw [if_pos (by simpa using hi)]
      cases dealB xs[i] <;> simp)
    (by simp [impl_areDeals_b1])
  rw [key, all_get]
  cases xs.all dealB <;> simp
theorem l07Deals_eq (xs : List Deal) (hn : xs.length ≤ 4611686018427387904) : spec_l07Deals xs = some (xs.all dealB) := by
  unfold spec_l07Deals
  have key := scan_all (tb := spec_l07Deals_b1 xs) xs.length hn (fun i => (xs[i]?).all dealB) () ()
    (by
      intro i hi
      simp only [spec_l07Deals_b1, rd_coe, List.getElem?_eq_getElem hi, Option.bind_some, l07Deal_eq, Option.all_some]
      rw [if_pos (by simpa using hi)]
      cases dealB xs[i] <;> simp)
    (by simp [spec_l07Deals_b1])
  rw [key, all_get]
  cases xs.all dealB <;> simp
end Go.Proofs.Ytpdmcpnabjifhaa

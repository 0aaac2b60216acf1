/- Finding a party. -/
import Derived.Test.YtaocojognonkcaaPPartyValidParties
set_option linter.unusedVariables false
set_option linter.unusedSimpArgs false
namespace Go.Proofs.Ytaocojognonkcaa
open Go Go.Ab
/-- the first place at which q holds -/
def firstI {τ : Type} (q : τ → Bool) (xs : List τ) : Int := match xs.findIdx? q with | some i => (i : Int) | none => -1
theorem firstI_some {τ : Type} {q : τ → Bool} {xs : List τ} {m : Nat} (hm : m < xs.length) (h1 : q xs[m] = true) (h2 : ∀ i (hi : i < xs.length), i < m → q xs[i] = false) : firstI q xs = (m : Int) := by
  unfold firstI
  have : xs.findIdx? q = some m := by
    rw [List.findIdx?_eq_some_iff_getElem]
    exact ⟨hm, h1, fun j hj => by rw [h2 j (by omega) hj]; simp⟩
  rw [this]
theorem firstI_none {τ : Type} {q : τ → Bool} {xs : List τ} (h : ∀ i (hi : i < xs.length), q xs[i] = false) : firstI q xs = -1 := by
  unfold firstI
  have : xs.findIdx? q = none := by
    rw [List.findIdx?_eq_none_iff]
    intro x hx
    obtain ⟨i, hi⟩ := List.getElem?_of_mem hx
    obtain ⟨h1, rfl⟩ := List.getElem?_eq_some_iff.1 hi
    exact h i h1
  rw [this]
def findI (xs : List Party) (nm : List UInt8) : Int := firstI (fun p => p.Name == nm) xs
theorem find_loop {A : Type} {tb : Int → Option (Int ⊕ (Int ⊕ Unit))} (xs : List Party) (nm : List UInt8) (hn : xs.length ≤ 4611686018427387904)
    (hs : ∀ i : Nat, (hi : i < xs.length) → tb (i : Int) = some (if (xs[i].Name == nm) = true then .inr (.inl (i : Int)) else .inl (IntKind.i64.wrap ((i : Int) + 1)))) (he : tb (xs.length : Int) = some (.inr (.inr ()))) :
    (Lw tb 0).bind (fun r => match r with | .inl y => some y | .inr _ => some (-1)) = some (findI xs nm) := by
  rcases scan_at (tb := tb) xs.length hn (fun i => (xs[i]?).all fun p => !(p.Name == nm)) (fun i => (i : Int)) ()
    (by
      intro i hi
      rw [hs i hi, List.getElem?_eq_getElem hi]
      cases h : (xs[i].Name == nm) <;> simp [h]) he with ⟨m, h1, h2, h3, h4⟩ | ⟨h1, h2⟩
  · rw [h4]
    simp only [Option.bind_some]
    rw [findI, firstI_some h1 (by rw [List.getElem?_eq_getElem h1] at h2; simpa using h2) (fun i hi him => by
      have := h3 i him
      rw [List.getElem?_eq_getElem hi] at this; simpa using this)]
  · rw [h2]
    simp only [Option.bind_some]
    rw [findI, firstI_none (fun i hi => by
      have := h1 i hi
      rw [List.getElem?_eq_getElem hi] at this; simpa using this)]
theorem implFind_eq (xs : List Party) (nm : List UInt8) (hn : xs.length ≤ 4611686018427387904) : impl_find xs nm = some (findI xs nm) := by
  unfold impl_find slices_IndexFunc_Party
  have := find_loop (A := Unit) (tb := slices_IndexFunc_Party_b1 xs nm) xs nm hn
    (by
      intro i hi
      simp only [slices_IndexFunc_Party_b1, impl_find_1, rd_coe, List.getElem?_eq_getElem hi, Option.bind_some]
      rw [if_pos (by simpa using hi)]
      cases h : (xs[i].Name == nm) <;> simp)
    (by simp [slices_IndexFunc_Party_b1])
  refine Eq.trans (congrArg (fun z => Option.bind z _) this) rfl
theorem specFind_eq (xs : List Party) (nm : List UInt8) (hn : xs.length ≤ 4611686018427387904) : spec_l06Find xs nm = some (findI xs nm) := by
  unfold spec_l06Find
  exact find_loop (A := Unit) (tb := spec_l06Find_b1 xs nm) xs nm hn
    (by
      intro i hi
      simp only [spec_l06Find_b1, rd_coe, List.getElem?_eq_getElem hi, Option.bind_some]
      rw [if_pos (by simpa using hi)]
      cases h : (xs[i].Name == nm) <;> simp)
    (by simp [spec_l06Find_b1])
/-- an earlier one of that name -/
theorem find_take (xs : List Party) (i : Nat) (hi : i < xs.length) : decide (findI (xs.take i) xs[i].Name ≥ 0) = (findI xs xs[i].Name != (i : Int)) := by
  by_cases h : ∃ m, m < i ∧ ∀ hm : m < xs.length, (xs[m].Name == xs[i].Name) = true
  · obtain ⟨m, ⟨h1, h2⟩, h3⟩ := least h
    have h2 := h2 (by omega)
    have hf : ∀ j (hj : j < xs.length), j < m → (xs[j].Name == xs[i].Name) = false := fun j hj hjm => by
      cases hb : (xs[j].Name == xs[i].Name) with
      | false => rfl
      | true => have := h3 j ⟨by omega, fun _ => hb⟩; omega
    have e1 : findI (xs.take i) xs[i].Name = (m : Int) := firstI_some (by simp; omega) (by simpa using h2) (fun j hj hjm => by simpa using hf j (by simp at hj; omega) hjm)
    have e2 : findI xs xs[i].Name = (m : Int) := firstI_some (by omega) h2 hf
    rw [e1, e2]
    have : (m : Int) ≠ (i : Int) := by omega
    simp [this]
  · have hf : ∀ j (hj : j < xs.length), j < i → (xs[j].Name == xs[i].Name) = false := fun j hj hji => by
      cases hb : (xs[j].Name == xs[i].Name) with
      | false => rfl
      | true => exact absurd ⟨j, hji, fun _ => hb⟩ h
    have e1 : findI (xs.take i) xs[i].Name = -1 := firstI_none (fun j hj => by simpa using hf j (by simp at hj; omega) (by simp at hj; omega))
    have e2 : findI xs xs[i].Name = (i : Int) := firstI_some hi (by simp) hf
    rw [e1, e2]; simp
def partiesB (xs : List Party) : Bool := (List.range xs.length).all (fun i => (xs[i]?).all fun p => nameB p.Name && (findI xs p.Name == (i : Int))) && decide (xs.length ≤ 20)
theorem slc_take {τ : Type} (xs : List τ) (i : Nat) (h : i ≤ xs.length) : slc xs 0 (i : Int) = some (xs.take i) := by
  unfold slc; rw [if_pos ⟨by omega, by omega, by omega⟩]; simp
theorem implParties_eq (xs : List Party) (hn : xs.length ≤ 4611686018427387904) (hs : ∀ p ∈ xs, p.Name.length ≤ 4611686018427387904) : impl_ValidParties xs = some (partiesB xs) := by
  unfold impl_ValidParties partiesB
  have key := scan_all (tb := impl_ValidParties_b1 xs) xs.length hn (fun i => (xs[i]?).all fun p => nameB p.Name && (findI xs p.Name == (i : Int))) () ()
    (by
      intro i hi
      have hm := hs _ (List.getElem_mem hi)
      simp only [impl_ValidParties_b1, rd_coe, List.getElem?_eq_getElem hi, Option.bind_some, isName_eq _ hm, slc_take xs i (by omega), implFind_eq (xs.take i) _ (by simp; omega), find_take xs i hi, Option.all_some]
      rw [if_pos (by simpa using hi)]
      cases nameB xs[i].Name with
      | false => simp
      | true => by_cases hf : findI xs xs[i].Name = (i : Int) <;> simp [hf])
    (by simp [impl_ValidParties_b1])
  rw [key]
  cases ((List.range xs.length).all (fun i => (xs[i]?).all fun p => nameB p.Name && (findI xs p.Name == (i : Int)))) with
  | false => simp
  | true =>
    by_cases h : xs.length ≤ 20
    · have : (xs.length : Int) ≤ 20 := by omega
      simp [h, this]
    · have : ¬ (xs.length : Int) ≤ 20 := by omega
      simp [h, this]
theorem specParties_eq (xs : List Party) (hn : xs.length ≤ 4611686018427387904) (hs : ∀ p ∈ xs, p.Name.length ≤ 4611686018427387904) : spec_l06Parties xs = some (partiesB xs) := by
  unfold spec_l06Parties partiesB
  by_cases h : xs.length ≤ 20
  · have h2 : ¬ (xs.length : Int) > 20 := by omega
    have key := scan_all (tb := spec_l06Parties_b1 xs) xs.length hn (fun i => (xs[i]?).all fun p => nameB p.Name && (findI xs p.Name == (i : Int))) () ()
      (by
        intro i hi
        have hm := hs _ (List.getElem_mem hi)
        simp only [spec_l06Parties_b1, rd_coe, List.getElem?_eq_getElem hi, Option.bind_some, l06Name_eq _ hm, specFind_eq xs _ hn, Option.all_some]
        rw [if_pos (by simpa using hi)]
        cases nameB xs[i].Name with
        | false => simp
        | true => by_cases hf : findI xs xs[i].Name = (i : Int) <;> simp [hf])
      (by simp [spec_l06Parties_b1])
    rw [if_neg (by simpa using h2), key]
    cases ((List.range xs.length).all (fun i => (xs[i]?).all fun p => nameB p.Name && (findI xs p.Name == (i : Int)))) with
    | false => simp
    | true => simp [h]
  · have h2 : (xs.length : Int) > 20 := by omega
    rw [if_pos (by simpa using h2)]
    simp [h]
/-! copies -/
theorem party_eq {x y : Party} : x = y ↔ x.Name = y.Name ∧ x.Secret = y.Secret := by cases x; cases y; simp
theorem eqParty_eq (x y : Party) : laws_eqParty x y = some (decide (x = y)) := by
  unfold laws_eqParty
  by_cases e1 : x.Name = y.Name <;> by_cases e2 : x.Secret = y.Secret <;> simp [party_eq, e1, e2]
theorem toPartyS_eq (a : List Party) (h : a.length * 24 ≤ 140737488351232) : laws_toPartyS a = some a := by
  unfold laws_toPartyS
  have key := copy_loop (tb := laws_toPartyS_b1 a) a (List.replicate a.length ⟨[], 0⟩) (by omega) (by simp)
    (by intro i zs hi hz; simp [laws_toPartyS_b1, laws_toParty, rd_coe, hi, hz]) (by intro zs hz; simp [laws_toPartyS_b1])
  rw [mkS_some h (by omega), Option.bind_some, key, Option.bind_some]
theorem eqPartyS_eq (a b : List Party) (h : a.length ≤ 4611686018427387904) : laws_eqPartyS a b = some (decide (a = b)) := by
  unfold laws_eqPartyS
  by_cases hl : a.length = b.length
  · have key := scan_all (tb := laws_eqPartyS_b1 a b) a.length h (fun i => decide (a[i]? = b[i]?)) () ()
      (by
        intro i hi
        have hi2 : i < b.length := by omega
        simp only [laws_eqPartyS_b1, rd_coe, List.getElem?_eq_getElem hi, List.getElem?_eq_getElem hi2, Option.bind_some, eqParty_eq]
        by_cases he : a[i] = b[i] <;> simp [he, hi])
      (by simp [laws_eqPartyS_b1])
    rw [if_neg (by simp [hl]), key, all_eq hl]
    by_cases he : a = b <;> simp [he]
  · rw [if_pos (by simp; omega)]
    have : a ≠ b := fun h => hl (by rw [h])
    simp [this]
theorem szParty_some (p : Party) (n : Int) : ∃ r, laws_szParty p n = some r := by
  unfold laws_szParty; split <;> exact ⟨_, rfl⟩
theorem szPartyS_some (a : List Party) (n : Int) (h : a.length ≤ 4611686018427387904) : ∃ r, laws_szPartyS a n = some r := by
  unfold laws_szPartyS
  split
  · exact ⟨_, rfl⟩
  obtain ⟨r, h1, _⟩ := Lw_meas (tb := laws_szPartyS_b1 a) (fun s => a.length - s.2.toNat) (fun s => ∃ i : Nat, s.2 = (i : Int) ∧ i ≤ a.length) (fun _ => True) (by
    rintro ⟨k, i'⟩ ⟨i, rfl, hi⟩
    by_cases hlt : i < a.length
    · obtain ⟨q, hq⟩ := szParty_some a[i] k
      by_cases hneg : q < 0
      · right
        refine ⟨.inl (), ?_, trivial⟩
        simp only [laws_szPartyS_b1, rd_coe, List.getElem?_eq_getElem hlt, Option.bind_some, hq]
        rw [if_pos (by simpa using hlt), if_pos (by simpa using hneg)]
      · left
        refine ⟨(q, ((i + 1 : Nat) : Int)), ?_, ⟨i + 1, rfl, by omega⟩, by simp; omega⟩
        simp only [laws_szPartyS_b1, rd_coe, List.getElem?_eq_getElem hlt, Option.bind_some, hq]
        rw [if_pos (by simpa using hlt), if_neg (by simpa using hneg), w64s hlt h]
    · right
      have : i = a.length := by omega
      subst this
      exact ⟨.inr k, by simp [laws_szPartyS_b1], trivial⟩) _ ((IntKind.i64.wrap (n - (a.length : Int))), 0) rfl ⟨0, rfl, by omega⟩
  rw [h1]
  cases r <;> exact ⟨_, rfl⟩
end Go.Proofs.Ytaocojognonkcaa

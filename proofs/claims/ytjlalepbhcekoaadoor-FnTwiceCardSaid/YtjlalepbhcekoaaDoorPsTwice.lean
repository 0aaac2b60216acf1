/- Plain lemmas. -/
import Derived.Test.YtjlalepbhcekoaaDoorOkTwice
set_option linter.unusedVariables false
set_option linter.unusedSimpArgs false
/- Loops that compare and weigh lists. -/
namespace Go.Proofs.YtjlalepbhcekoaaDoor
open Go Go.Ab
theorem eqS_loop {τ : Type} [DecidableEq τ] {tb : Int → Option (Int ⊕ (Unit ⊕ Unit))} (a b : List τ) (h : a.length ≤ 4611686018427387904) (hl : a.length = b.length)
    (hs : ∀ (i : Nat) (h1 : i < a.length) (h2 : i < b.length), tb (i : Int) = some (if a[i] = b[i] then .inl (IntKind.i64.wrap ((i : Int) + 1)) else .inr (.inl ()))) (he : tb (a.length : Int) = some (.inr (.inr ()))) :
    Lw tb 0 = some (if a = b then .inr () else .inl ()) := by
  have key := scan_all (tb := tb) a.length h (fun i => decide (a[i]? = b[i]?)) () ()
    (by
      intro i hi
      have hi2 : i < b.length := by omega
      rw [hs i hi hi2, List.getElem?_eq_getElem hi, List.getElem?_eq_getElem hi2]
      by_cases he : a[i] = b[i] <;> simp [he])
    he
  rw [key, all_eq hl]
  by_cases he : a = b <;> simp [he]
theorem sz_loop {tb : Int × Int → Option ((Int × Int) ⊕ (Unit ⊕ Int))} (n : Nat) (hs : ∀ (a : Int) (i : Nat), i < n → (∃ r, tb (a, (i : Int)) = some (.inl (r, ((i + 1 : Nat) : Int)))) ∨ tb (a, (i : Int)) = some (.inr (.inl ()))) (he : ∀ a, tb (a, (n : Int)) = some (.inr (.inr a))) (a : Int) :
    ∃ r, Lw tb (a, 0) = some r := by
  have : ∃ r r2, Lw tb (a, 0) = some r ∧ Lw tb (a, 0) = some r2 ∧ r = r2 := by
    refine Lw_sim (tb := tb) (tb2 := tb) (fun s => n - s.2.toNat) (fun s s2 => s = s2 ∧ ∃ i : Nat, s.2 = i ∧ i ≤ n) _ ?_ _ _ _ rfl ⟨rfl, 0, rfl, by omega⟩
    rintro ⟨a, j⟩ s2 ⟨rfl, i, hi, hl⟩
    simp only at hi
    subst hi
    by_cases hlt : i < n
    · rcases hs a i hlt with ⟨r, hr⟩ | hr
      · exact .inl ⟨_, _, hr, hr, ⟨rfl, i + 1, rfl, by omega⟩, by simp; omega⟩
      · exact .inr ⟨_, _, hr, hr, rfl⟩
    · have : i = n := by omega
      subst this
      exact .inr ⟨_, _, he a, he a, rfl⟩
  obtain ⟨r, _, hr, _, _⟩ := this
  exact ⟨r, hr⟩
theorem find_first {τ R : Type} {tb : Int → Option (Int ⊕ R)} (p : τ → Bool) (xs : List τ) (hit : Nat → R) (miss : R)
    (h1 : ∀ (i : Nat) (h : i < xs.length), p xs[i] = false → tb (i : Int) = some (.inl ((i + 1 : Nat) : Int))) (h2 : ∀ (i : Nat) (h : i < xs.length), p xs[i] = true → tb (i : Int) = some (.inr (hit i))) (h3 : tb (xs.length : Int) = some (.inr miss)) :
    Lw tb 0 = some (if xs.findIdx p < xs.length then hit (xs.findIdx p) else miss) := by
  have key := Lw_run (tb := tb) (fun i => (i : Int)) (xs.findIdx p) (r := if xs.findIdx p < xs.length then hit (xs.findIdx p) else miss)
    (fun i hi => h1 i (Nat.lt_of_lt_of_le hi List.findIdx_le_length) (by simpa using List.not_of_lt_findIdx hi))
    (by
      by_cases h : xs.findIdx p < xs.length
      · rw [if_pos h]; exact h2 _ h List.findIdx_getElem
      · rw [if_neg h]
        have : xs.findIdx p = xs.length := Nat.le_antisymm List.findIdx_le_length (by omega)
        simp only [this]; exact h3)
  exact key
theorem any_find {τ : Type} (p : τ → Bool) (xs : List τ) : xs.any p = decide (xs.findIdx p < xs.length) := by
  rw [Bool.eq_iff_iff, decide_eq_true_eq, List.findIdx_lt_length, List.any_eq_true]
/-! arrays -/
theorem rdA_coe {n : Nat} {τ : Type} (g : Ar n τ) (i : Nat) (h : i < n) : rdA g (i : Int) = some (g.l[i]'(by rw [g.h]; exact h)) := by
  unfold rdA
  rw [if_pos ⟨by omega, by omega⟩, Int.toNat_natCast, List.getElem?_eq_getElem]
theorem ar_ext {n : Nat} {τ : Type} {a b : Ar n τ} : a = b ↔ a.l = b.l := by cases a; cases b; simp
theorem ar_copy {n : Nat} {τ : Type} {tb : Int × Ar n τ → Option ((Int × Ar n τ) ⊕ Ar n τ)} (a z : Ar n τ) (hs : ∀ (i : Nat) (h : i < n) (y : Ar n τ), tb ((i : Int), y) = some (.inl (((i + 1 : Nat) : Int), y.set i (a.l[i]'(by rw [a.h]; exact h))))) (he : ∀ y, tb ((n : Int), y) = some (.inr y)) :
    Lw tb (0, z) = some a := by
  have hz := z.h
  have ha := a.h
  have key := Lw_run (tb := tb) (fun i => ((i : Int), (⟨a.l.take i ++ z.l.drop (min i n), by simp; omega⟩ : Ar n τ))) n (r := a)
    (by
      intro i hi
      rw [hs i hi]
      congr 3
      rw [ar_ext]
      show (a.l.take i ++ z.l.drop (min i n)).set i _ = a.l.take (i + 1) ++ z.l.drop (min (i + 1) n)
      rw [Nat.min_eq_left (by omega), Nat.min_eq_left (by omega), List.set_append_right _ _ (by simp; omega), List.length_take, Nat.min_eq_left (by omega), Nat.sub_self, List.drop_eq_getElem_cons (by omega), List.set_cons_zero, List.take_succ_eq_append_getElem (by omega), List.append_assoc]
      rfl)
    (by
      rw [he]
      congr 2
      rw [ar_ext]
      show a.l.take n ++ z.l.drop (min n n) = a.l
      rw [List.take_of_length_le (by omega), Nat.min_self, List.drop_eq_nil_of_le (by omega), List.append_nil])
  have e : (((0 : Nat) : Int), (⟨a.l.take 0 ++ z.l.drop (min 0 n), by simp; omega⟩ : Ar n τ)) = (0, z) := by
    congr 1
  rw [e] at key
  exact key
theorem foldr_all (p : Nat → Bool) (r : Bool) (l : List Nat) : l.foldr (fun j b => p j && b) r = (l.all p && r) := by
  induction l with
  | nil => simp
  | cons x l ih => simp [ih, Bool.and_assoc]
theorem arB_eq {n : Nat} (g h : Ar n Int) : arB n (fun j => g.get 0 j == h.get 0 j) true = decide (g = h) := by
  unfold arB
  rw [foldr_all, Bool.and_true, Bool.eq_iff_iff, List.all_eq_true, decide_eq_true_eq, ar_ext]
  have hg := g.h
  have hh := h.h
  constructor
  · intro hp
    refine List.ext_getElem (by omega) fun i h1 h2 => ?_
    have := hp i (by simpa [hg] using h1)
    simpa [Ar.get, List.getD_eq_getElem?_getD, h1, h2] using this
  · intro e j _
    simp [Ar.get, e]
end Go.Proofs.YtjlalepbhcekoaaDoor
/- Numbers within bounds. -/
namespace Go.Proofs.YtjlalepbhcekoaaDoor
open Go Go.Ab
def inB (n lo hi : Int) : Bool := decide (lo ≤ n) && decide (n ≤ hi)
theorem inB_iff {n lo hi : Int} : inB n lo hi = true ↔ lo ≤ n ∧ n ≤ hi := by simp [inB]
theorem inB_not {n lo hi : Int} : inB n lo hi = false ↔ n < lo ∨ hi < n := by rw [← Bool.not_eq_true, inB_iff]; omega
theorem l00In_eq (n lo hi : Int) : spec_l00In n lo hi = some (inB n lo hi) := by
  unfold spec_l00In inB; by_cases h : lo ≤ n <;> simp [h]
theorem some_ite {α : Type} (c : Bool) (a b : α) : (if c = true then some a else some b) = some (if c = true then a else b) := by cases c <;> rfl
theorem ite_false_b (c b : Bool) : (if c = true then b else false) = (c && b) := by cases c <;> simp
theorem ite_true_b (c b : Bool) : (if c = true then true else b) = (c || b) := by cases c <;> simp
end Go.Proofs.YtjlalepbhcekoaaDoor
/- Halves and chains: equal, copied, weighed. -/
namespace Go.Proofs.YtjlalepbhcekoaaDoor
open Go Go.Ab
theorem notch_eq {x y : Notch} : x = y ↔ x.Kind = y.Kind ∧ x.At = y.At := by cases x; cases y; simp
theorem mark_eq {x y : Mark} : x = y ↔ x.Holder = y.Holder ∧ x.Seal = y.Seal := by cases x; cases y; simp
theorem half_eq {x y : Half} : x = y ↔ x.Stock = y.Stock ∧ x.Notches = y.Notches ∧ x.Grain = y.Grain := by cases x; cases y; simp
theorem chain_eq {x y : Chain} : x = y ↔ x.Debtor = y.Debtor ∧ x.Stock = y.Stock ∧ x.Marks = y.Marks := by cases x; cases y; simp
theorem ok_notches {c : Chain} (h : c.ok) : c.Stock.Notches.length * 4 ≤ 140737488351232 := h.2.1.2.1.2.1
theorem ok_marks {c : Chain} (h : c.ok) : c.Marks.length * 24 ≤ 140737488351232 := h.2.2.2.1
theorem ok_debtor {c : Chain} (h : c.ok) : c.Debtor.length ≤ 140737488351232 := h.1
theorem ok_mark {c : Chain} (h : c.ok) (m : Mark) (hm : m ∈ c.Marks) : m.Holder.length ≤ 140737488351232 := (h.2.2.2.2 m hm).1
end Go.Proofs.YtjlalepbhcekoaaDoor
/- Parties: names, finding, valid lists. -/
namespace Go.Proofs.YtjlalepbhcekoaaDoor
open Go Go.Ab
def letB (c : UInt8) : Bool := decide (97 ≤ c.toNat) && decide (c.toNat ≤ 122)
def lettersB (s : List UInt8) (n : Int) : Bool := s.all letB && decide (1 ≤ s.length) && decide ((s.length : Int) ≤ n)
def nameB (s : List UInt8) : Bool := lettersB s 12
theorem isLetters_loop (s : List UInt8) (hn : s.length ≤ 4611686018427387904) : Lw (impl_isLetters_b1 s) 0 = some (if s.all letB = true then .inr () else .inl ()) := by
  have key := scan_all (tb := impl_isLetters_b1 s) s.length hn (fun i => (s[i]?).all letB) () ()
    (by
      intro i hi
      simp only [impl_isLetters_b1, rd_coe, List.getElem?_eq_getElem hi, Option.bind_some, Option.all_some]
      rw [if_pos (by simpa using hi)]
      by_cases h1 : s[i].toNat < 97
      · rw [if_pos (by simp; omega), if_neg (by simp [letB]; omega)]
      · by_cases h2 : s[i].toNat > 122
        · rw [if_neg (by simp; omega), if_pos (by simp; omega), if_neg (by simp [letB]; omega)]
        · rw [if_neg (by simp; omega), if_neg (by simp; omega), if_pos (by simp [letB]; omega)])
    (by simp [impl_isLetters_b1])
  rw [key, all_get]
theorem isLetters_eq (s : List UInt8) (n : Int) (hn : s.length ≤ 4611686018427387904) : impl_isLetters s n = some (lettersB s n) := by
  unfold impl_isLetters lettersB
  rw [isLetters_loop s hn]
  cases s.all letB with
  | false => simp
  | true =>
    by_cases h : 1 ≤ s.length
    · have : (1 : Int) ≤ (s.length : Int) := by omega
      simp [h, this]
    · have : ¬ (1 : Int) ≤ (s.length : Int) := by omega
      simp [h, this]
theorem isName_eq (s : List UInt8) (hn : s.length ≤ 4611686018427387904) : impl_isName s = some (nameB s) := by
  unfold impl_isName nameB; rw [isLetters_eq s 12 hn, Option.bind_some]
theorem l06Name_eq (s : List UInt8) (hn : s.length ≤ 4611686018427387904) : spec_l06Name s = some (nameB s) := by
  have e : Lw (spec_l06Name_b1 s) 0 = Lw (impl_isLetters_b1 s) 0 := rfl
  unfold spec_l06Name nameB lettersB
  rw [e, isLetters_loop s hn]
  cases s.all letB with
  | false => simp
  | true =>
    cases s with
    | nil => simp
    | cons c r => simp
end Go.Proofs.YtjlalepbhcekoaaDoor
/- Finding a party. -/
namespace Go.Proofs.YtjlalepbhcekoaaDoor
open Go Go.Ab
/-- the first place at which q holds -/
def firstI {τ : Type} (q : τ → Bool) (xs : List τ) : Int := match xs.findIdx? q with | some i => (i : Int) | none => -1
theorem firstI_some {τ : Type} {q : τ → Bool} {xs : List τ} {m : Nat} (hm : m < xs.length) (h1 : q xs[m] = true) (h2 : ∀ i (hi : i < xs.length), i < m → q xs[i] = false) : firstI q xs = (m : Int) := by
  unfold firstI
  have : xs.findIdx? q = some m := by
    rw [List.findIdx?_eq_some_iff_getElem]
    exact ⟨hm, h1, fun j hj => by rw [h2 j (by omega) hj]; simp⟩
  rw [this]
theorem firstI_none {τ : Type} {q : τ → Bool} {xs : List τ} (h : ∀ i (hi : i < xs.length), q xs[i] = false) : firstI q xs = -1 := by
  unfold firstI
  have : xs.findIdx? q = none := by
    rw [List.findIdx?_eq_none_iff]
    intro x hx
    obtain ⟨i, hi⟩ := List.getElem?_of_mem hx
    obtain ⟨h1, rfl⟩ := List.getElem?_eq_some_iff.1 hi
    exact h i h1
  rw [this]
def findI (xs : List Party) (nm : List UInt8) : Int := firstI (fun p => p.Name == nm) xs
theorem find_loop {A : Type} {tb : Int → Option (Int ⊕ (Int ⊕ Unit))} (xs : List Party) (nm : List UInt8) (hn : xs.length ≤ 4611686018427387904)
    (hs : ∀ i : Nat, (hi : i < xs.length) → tb (i : Int) = some (if (xs[i].Name == nm) = true then .inr (.inl (i : Int)) else .inl (IntKind.i64.wrap ((i : Int) + 1)))) (he : tb (xs.length : Int) = some (.inr (.inr ()))) :
    (Lw tb 0).bind (fun r => match r with | .inl y => some y | .inr _ => some (-1)) = some (findI xs nm) := by
  rcases scan_at (tb := tb) xs.length hn (fun i => (xs[i]?).all fun p => !(p.Name == nm)) (fun i => (i : Int)) ()
    (by
      intro i hi
      rw [hs i hi, List.getElem?_eq_getElem hi]
      cases h : (xs[i].Name == nm) <;> simp [h]) he with ⟨m, h1, h2, h3, h4⟩ | ⟨h1, h2⟩
  · rw [h4]
    simp only [Option.bind_some]
    rw [findI, firstI_some h1 (by rw [List.getElem?_eq_getElem h1] at h2; simpa using h2) (fun i hi him => by
      have := h3 i him
      rw [List.getElem?_eq_getElem hi] at this; simpa using this)]
  · rw [h2]
    simp only [Option.bind_some]
    rw [findI, firstI_none (fun i hi => by
      have := h1 i hi
      rw [List.getElem?_eq_getElem hi] at this; simpa using this)]
theorem implFind_eq (xs : List Party) (nm : List UInt8) (hn : xs.length ≤ 4611686018427387904) : impl_find xs nm = some (findI xs nm) := by
  unfold impl_find slices_IndexFunc_Party__impl_find_1
  have := find_loop (A := Unit) (tb := slices_IndexFunc_Party__impl_find_1_b1 xs nm) xs nm hn
    (by
      intro i hi
      simp only [slices_IndexFunc_Party__impl_find_1_b1, impl_find_1, rd_coe, List.getElem?_eq_getElem hi, Option.bind_some]
      rw [if_pos (by simpa using hi)]
      cases h : (xs[i].Name == nm) <;> simp)
    (by simp [slices_IndexFunc_Party__impl_find_1_b1])
  refine Eq.trans (congrArg (fun z => Option.bind z _) this) rfl
theorem specFind_eq (xs : List Party) (nm : List UInt8) (hn : xs.length ≤ 4611686018427387904) : spec_l06Find xs nm = some (findI xs nm) := by
  unfold spec_l06Find
  exact find_loop (A := Unit) (tb := spec_l06Find_b1 xs nm) xs nm hn
    (by
      intro i hi
      simp only [spec_l06Find_b1, rd_coe, List.getElem?_eq_getElem hi, Option.bind_some]
      rw [if_pos (by simpa using hi)]
      cases h : (xs[i].Name == nm) <;> simp)
    (by simp [spec_l06Find_b1])
/-- an earlier one of that name -/
theorem find_take (xs : List Party) (i : Nat) (hi : i < xs.length) : decide (findI (xs.take i) xs[i].Name ≥ 0) = (findI xs xs[i].Name != (i : Int)) := by
  by_cases h : ∃ m, m < i ∧ ∀ hm : m < xs.length, (xs[m].Name == xs[i].Name) = true
  · obtain ⟨m, ⟨h1, h2⟩, h3⟩ := least h
    have h2 := h2 (by omega)
    have hf : ∀ j (hj : j < xs.length), j < m → (xs[j].Name == xs[i].Name) = false := fun j hj hjm => by
      cases hb : (xs[j].Name == xs[i].Name) with
      | false => rfl
      | true => have := h3 j ⟨by omega, fun _ => hb⟩; omega
    have e1 : findI (xs.take i) xs[i].Name = (m : Int) := firstI_some (by simp; omega) (by simpa using h2) (fun j hj hjm => by simpa using hf j (by simp at hj; omega) hjm)
    have e2 : findI xs xs[i].Name = (m : Int) := firstI_some (by omega) h2 hf
    rw [e1, e2]
    have : (m : Int) ≠ (i : Int) := by omega
    simp [this]
  · have hf : ∀ j (hj : j < xs.length), j < i → (xs[j].Name == xs[i].Name) = false := fun j hj hji => by
      cases hb : (xs[j].Name == xs[i].Name) with
      | false => rfl
      | true => exact absurd ⟨j, hji, fun _ => hb⟩ h
    have e1 : findI (xs.take i) xs[i].Name = -1 := firstI_none (fun j hj => by simpa using hf j (by simp at hj; omega) (by simp at hj; omega))
    have e2 : findI xs xs[i].Name = (i : Int) := firstI_some hi (by simp) hf
    rw [e1, e2]; simp
def partiesB (xs : List Party) : Bool := (List.range xs.length).all (fun i => (xs[i]?).all fun p => nameB p.Name && (findI xs p.Name == (i : Int))) && decide (xs.length ≤ 20)
theorem slc_take {τ : Type} (xs : List τ) (i : Nat) (h : i ≤ xs.length) : slc xs 0 (i : Int) = some (xs.take i) := by
  unfold slc; rw [if_pos ⟨by omega, by omega, by omega⟩]; simp
theorem implParties_eq (xs : List Party) (hn : xs.length ≤ 4611686018427387904) (hs : ∀ p ∈ xs, p.Name.length ≤ 4611686018427387904) : impl_ValidParties xs = some (partiesB xs) := by
  unfold impl_ValidParties partiesB
  have key := scan_all (tb := impl_ValidParties_b1 xs) xs.length hn (fun i => (xs[i]?).all fun p => nameB p.Name && (findI xs p.Name == (i : Int))) () ()
    (by
      intro i hi
      have hm := hs _ (List.getElem_mem hi)
      simp only [impl_ValidParties_b1, rd_coe, List.getElem?_eq_getElem hi, Option.bind_some, isName_eq _ hm, slc_take xs i (by omega), implFind_eq (xs.take i) _ (by simp; omega), find_take xs i hi, Option.all_some]
      rw [if_pos (by simpa using hi)]
      cases nameB xs[i].Name with
      | false => simp
      | true => by_cases hf : findI xs xs[i].Name = (i : Int) <;> simp [hf])
    (by simp [impl_ValidParties_b1])
  rw [key]
  cases ((List.range xs.length).all (fun i => (xs[i]?).all fun p => nameB p.Name && (findI xs p.Name == (i : Int)))) with
  | false => simp
  | true =>
    by_cases h : xs.length ≤ 20
    · have : (xs.length : Int) ≤ 20 := by omega
      simp [h, this]
    · have : ¬ (xs.length : Int) ≤ 20 := by omega
      simp [h, this]
theorem specParties_eq (xs : List Party) (hn : xs.length ≤ 4611686018427387904) (hs : ∀ p ∈ xs, p.Name.length ≤ 4611686018427387904) : spec_l06Parties xs = some (partiesB xs) := by
  unfold spec_l06Parties partiesB
  by_cases h : xs.length ≤ 20
  · have h2 : ¬ (xs.length : Int) > 20 := by omega
    have key := scan_all (tb := spec_l06Parties_b1 xs) xs.length hn (fun i => (xs[i]?).all fun p => nameB p.Name && (findI xs p.Name == (i : Int))) () ()
      (by
        intro i hi
        have hm := hs _ (List.getElem_mem hi)
        simp only [spec_l06Parties_b1, rd_coe, List.getElem?_eq_getElem hi, Option.bind_some, l06Name_eq _ hm, specFind_eq xs _ hn, Option.all_some]
        rw [if_pos (by simpa using hi)]
        cases nameB xs[i].Name with
        | false => simp
        | true => by_cases hf : findI xs xs[i].Name = (i : Int) <;> simp [hf])
      (by simp [spec_l06Parties_b1])
    rw [if_neg (by simpa using h2), key]
    cases ((List.range xs.length).all (fun i => (xs[i]?).all fun p => nameB p.Name && (findI xs p.Name == (i : Int)))) with
    | false => simp
    | true => simp [h]
  · have h2 : (xs.length : Int) > 20 := by omega
    rw [if_pos (by simpa using h2)]
    simp [h]
/-! copies -/
theorem party_eq {x y : Party} : x = y ↔ x.Name = y.Name ∧ x.Secret = y.Secret := by cases x; cases y; simp
end Go.Proofs.YtjlalepbhcekoaaDoor
/- Halves and chains that are valid: the program's word and the reference's. -/
namespace Go.Proofs.YtjlalepbhcekoaaDoor
open Go Go.Ab
def grainB (g : Ar 16 Int) : Bool := g.l.all fun x => inB x (-3) 3
theorem validGrain_eq (g : Ar 16 Int) : impl_ValidGrain g = some (grainB g) := by
  have hg := g.h
  unfold impl_ValidGrain grainB
  have key := scan_all (tb := impl_ValidGrain_b1 g) g.l.length (by omega) (fun i => (g.l[i]?).all fun x => inB x (-3) 3) () ()
    (by
      intro i hi
      have h16 : (i : Int) < 16 := by omega
      simp only [impl_ValidGrain_b1, rdA_coe g i (by omega), List.getElem?_eq_getElem hi, Option.bind_some, Option.all_some]
      rw [if_pos (by simpa using h16)]
      by_cases h1 : g.l[i] < -3
      · rw [if_pos (by simpa using h1), if_neg (by simp [inB]; omega)]
      · by_cases h2 : g.l[i] > 3
        · rw [if_neg (by simpa using h1), if_pos (by simpa using h2), if_neg (by simp [inB]; omega)]
        · rw [if_neg (by simpa using h1), if_neg (by simpa using h2), if_pos (by simp [inB]; omega)])
    (by simp [impl_ValidGrain_b1, hg])
  rw [key, all_get]
  cases g.l.all fun x => inB x (-3) 3 <;> simp
theorem l01Grain_eq (g : Ar 16 Int) : spec_l01Grain g = some (grainB g) := by
  have hg := g.h
  unfold spec_l01Grain grainB
  have key := scan_all (tb := spec_l01Grain_b1 g) g.l.length (by omega) (fun i => (g.l[i]?).all fun x => inB x (-3) 3) () ()
    (by
      intro i hi
      have h16 : (i : Int) < 16 := by omega
      simp only [spec_l01Grain_b1, rdA_coe g i (by omega), List.getElem?_eq_getElem hi, Option.bind_some, Option.all_some]
      rw [if_pos (by simpa using h16)]
      by_cases h1 : g.l[i] < -3
      · rw [if_pos (by simpa using h1), if_neg (by simp [inB]; omega)]
      · by_cases h2 : g.l[i] > 3
        · rw [if_neg (by simpa using h1), if_pos (by simpa using h2), if_neg (by simp [inB]; omega)]
        · rw [if_neg (by simpa using h1), if_neg (by simpa using h2), if_pos (by simp [inB]; omega)])
    (by simp [spec_l01Grain_b1, hg])
  rw [key, all_get]
  cases g.l.all fun x => inB x (-3) 3 <;> simp
theorem isKind_eq (k : Int) : impl_isKind k = some (inB k 0 5) := by
  unfold impl_isKind inB; by_cases h : 0 ≤ k <;> simp [h]
theorem l01Kind_eq (k : Int) : spec_l01Kind k = some (inB k 0 5) := by
  unfold spec_l01Kind; rw [l00In_eq, Option.bind_some]
theorem ends_eq (n : Notch) (hk : inB n.Kind 0 5 = true) : ∃ e, impl_Notch_end n = some e ∧ spec_l01Ends n = some e := by
  obtain ⟨h0, h1⟩ := inB_iff.1 hk
  have w : IntKind.i64.wrap n.Kind = n.Kind := w64 (by omega)
  obtain ⟨x, hx⟩ : ∃ x, rd ([1, 2, 4, 6, 9, 12] : List Int) n.Kind = some x := ⟨_, rd_in h0 (by simp; omega)⟩
  exact ⟨_, by unfold impl_Notch_end impl_width; rw [w, hx]; rfl, by unfold spec_l01Ends spec_l01Widths; rw [Option.bind_some, hx]; rfl⟩
theorem notch_loop (h : Half) (hn : h.Notches.length ≤ 60) (hk : ∀ n ∈ h.Notches, -128 ≤ n.Kind ∧ n.Kind ≤ 127) :
    ∃ r r2, Lw (impl_ValidHalf_b1 h) 0 = some r ∧ Lw (spec_l01Notches_b1 h.Notches) 0 = some r2 ∧ r = r2 ∧ (r = .inr () → ∀ n ∈ h.Notches, inB n.Kind 0 5 = true ∧ 0 ≤ n.At) := by
  refine Lw_sim (tb := impl_ValidHalf_b1 h) (tb2 := spec_l01Notches_b1 h.Notches) (fun s => h.Notches.length - s.toNat) (fun s s2 => s = s2 ∧ ∃ i : Nat, s = i ∧ i ≤ h.Notches.length ∧ ∀ (j : Nat) (hj : j < h.Notches.length), j < i → inB h.Notches[j].Kind 0 5 = true ∧ 0 ≤ h.Notches[j].At) _ ?_ _ _ _ rfl
    ⟨rfl, 0, rfl, by omega, fun j hj e => by omega⟩
  rintro s s2 ⟨rfl, i, rfl, hil, hprev⟩
  by_cases hlt : i < h.Notches.length
  · have hr : rd h.Notches (i : Int) = some h.Notches[i] := by rw [rd_coe, List.getElem?_eq_getElem hlt]
    have w := w64s hlt (by omega)
    have wk : IntKind.i64.wrap h.Notches[i].Kind = h.Notches[i].Kind := by
      have := hk _ (List.getElem_mem hlt)
      exact w64 (by omega)
    have kI := isKind_eq h.Notches[i].Kind
    have kS := l01Kind_eq h.Notches[i].Kind
    have hlt' : (i : Int) < h.Notches.length := by omega
    cases hkb : inB h.Notches[i].Kind 0 5 with
    | false =>
      rw [hkb] at kI kS
      exact .inr ⟨.inl (), .inl (), by simp [impl_ValidHalf_b1, hlt, hr, wk, kI], by simp [spec_l01Notches_b1, hlt, hr, wk, kS], rfl, fun e => by cases e⟩
    | true =>
      rw [hkb] at kI kS
      by_cases h0 : h.Notches[i].At < 0
      · exact .inr ⟨.inl (), .inl (), by simp [impl_ValidHalf_b1, hlt, hr, wk, kI, h0], by simp [spec_l01Notches_b1, hlt, hr, wk, kS, h0], rfl, fun e => by cases e⟩
      obtain ⟨e, e1, e2⟩ := ends_eq _ hkb
      by_cases h2 : e > 200
      · exact .inr ⟨.inl (), .inl (), by simp [impl_ValidHalf_b1, hlt, hr, wk, kI, h0, e1, h2], by simp [spec_l01Notches_b1, hlt, hr, wk, kS, h0, e2, h2], rfl, fun e => by cases e⟩
      by_cases hi0 : i = 0
      · have hi0' : ¬ 0 < i := by omega
        exact .inl ⟨((i + 1 : Nat) : Int), _, by simp [impl_ValidHalf_b1, hlt, hr, wk, kI, h0, e1, h2, hi0', w], by simp [spec_l01Notches_b1, hlt, hr, wk, kS, h0, e2, h2, hi0', w], ⟨rfl, i + 1, rfl, by omega, fun j hj hji => (if e : j = i then (by subst e; exact ⟨hkb, by omega⟩) else hprev j hj (by omega))⟩, by simp; omega⟩
      · have hi0' : 0 < i := by omega
        have hj : i - 1 < h.Notches.length := by omega
        have hp : rd h.Notches (IntKind.i64.wrap ((i : Int) - 1)) = some h.Notches[i - 1] := by
          rw [w64 (by omega), show ((i : Int) - 1) = ((i - 1 : Nat) : Int) by omega, rd_coe, List.getElem?_eq_getElem hj]
        obtain ⟨e', e1', e2'⟩ := ends_eq _ (hprev (i - 1) hj (by omega)).1
        by_cases c1 : IntKind.i64.wrap h.Notches[i].At ≤ e'
        · by_cases c2 : h.Notches[i].Kind > h.Notches[i - 1].Kind
          · exact .inr ⟨.inl (), .inl (), by simp [impl_ValidHalf_b1, hlt, hr, wk, kI, h0, e1, h2, hi0', hp, e1', c1], by simp [spec_l01Notches_b1, hlt, hr, wk, kS, h0, e2, h2, hi0', hp, c2], rfl, fun e => by cases e⟩
          · have c2' : ¬ h.Notches[i - 1].Kind < h.Notches[i].Kind := c2
            exact .inr ⟨.inl (), .inl (), by simp [impl_ValidHalf_b1, hlt, hr, wk, kI, h0, e1, h2, hi0', hp, e1', c1], by simp [spec_l01Notches_b1, hlt, hr, wk, kS, h0, e2, h2, hi0', hp, c2', e2', c1], rfl, fun e => by cases e⟩
        · by_cases c2 : h.Notches[i].Kind > h.Notches[i - 1].Kind
          · exact .inr ⟨.inl (), .inl (), by simp [impl_ValidHalf_b1, hlt, hr, wk, kI, h0, e1, h2, hi0', hp, e1', c1, c2], by simp [spec_l01Notches_b1, hlt, hr, wk, kS, h0, e2, h2, hi0', hp, c2], rfl, fun e => by cases e⟩
          · have c2' : ¬ h.Notches[i - 1].Kind < h.Notches[i].Kind := c2
            exact .inl ⟨((i + 1 : Nat) : Int), _, by simp [impl_ValidHalf_b1, hlt, hr, wk, kI, h0, e1, h2, hi0', hp, e1', c1, c2', w], by simp [spec_l01Notches_b1, hlt, hr, wk, kS, h0, e2, h2, hi0', hp, c2', e2', c1, w], ⟨rfl, i + 1, rfl, by omega, fun j hj hji => (if e : j = i then (by subst e; exact ⟨hkb, by omega⟩) else hprev j hj (by omega))⟩, by simp; omega⟩
  · exact .inr ⟨.inr (), .inr (), by simp [impl_ValidHalf_b1, hlt], by simp [spec_l01Notches_b1, hlt], rfl, fun _ n hn' => by obtain ⟨j, hj, rfl⟩ := List.getElem_of_mem hn'; exact hprev j hj (by omega)⟩
/-- what is known of a half that is valid -/
def HfI (h : Half) : Prop := h.Notches.length ≤ 60 ∧ grainB h.Grain = true ∧ ∀ n ∈ h.Notches, inB n.Kind 0 5 = true ∧ 0 ≤ n.At
theorem validHalf_same (h : Half) (hk : ∀ n ∈ h.Notches, -128 ≤ n.Kind ∧ n.Kind ≤ 127) : ∃ b, impl_ValidHalf h = some b ∧ spec_l01Ok h = some b ∧ (b = true → HfI h) := by
  unfold impl_ValidHalf spec_l01Ok spec_l01Notches
  rw [validGrain_eq, l01Grain_eq]
  by_cases hn : (h.Notches.length : Int) > 60
  · exact ⟨false, by simp [hn], by simp [hn], fun e => by cases e⟩
  · obtain ⟨r, r2, e1, e2, rfl, e3⟩ := notch_loop h (by omega) hk
    cases hg : grainB h.Grain
    · rcases r with r | r
      · exact ⟨false, by simp [hn], by simp [hn, e2], fun e => by cases e⟩
      · exact ⟨false, by simp [hn], by simp [hn, e2], fun e => by cases e⟩
    · rcases r with r | r
      · exact ⟨false, by simp [hn, e1], by simp [hn, e2], fun e => by cases e⟩
      · exact ⟨true, by simp [hn, e1], by simp [hn, e2], fun _ => ⟨by omega, hg, e3 rfl⟩⟩
/-- what is known of a chain that is valid -/
def ChI (c : Chain) : Prop := 1 ≤ c.Marks.length ∧ c.Marks.length ≤ 30 ∧ c.Stock.Stock = true ∧ nameB c.Debtor = true ∧ ∀ m ∈ c.Marks, nameB m.Holder = true
theorem marks_loop (c : Chain) (hn : c.Marks.length ≤ 30) (hm : ∀ m ∈ c.Marks, m.Holder.length ≤ 4611686018427387904) :
    ∃ r r2, Lw (impl_ValidChain_b1 c) (c.Debtor, 0) = some r ∧ Lw (spec_l06Ok_b1 c) (c.Debtor, 0) = some r2 ∧ r = r2 ∧ (r = .inr () → ∀ m ∈ c.Marks, nameB m.Holder = true) := by
  refine Lw_sim (tb := impl_ValidChain_b1 c) (tb2 := spec_l06Ok_b1 c) (fun s => c.Marks.length - s.2.toNat) (fun s s2 => s = s2 ∧ ∃ i : Nat, s.2 = i ∧ i ≤ c.Marks.length ∧ ∀ (j : Nat) (hj : j < c.Marks.length), j < i → nameB c.Marks[j].Holder = true) _ ?_ _ _ _ rfl
    ⟨rfl, 0, rfl, by omega, fun j hj e => by omega⟩
  rintro ⟨z, s⟩ s2 ⟨rfl, i, hi, hil, hprev⟩
  simp only at hi
  subst hi
  by_cases hlt : i < c.Marks.length
  · have hr : rd c.Marks (i : Int) = some c.Marks[i] := by rw [rd_coe, List.getElem?_eq_getElem hlt]
    have w := w64s hlt (by omega)
    have kI := isName_eq c.Marks[i].Holder (hm _ (List.getElem_mem hlt))
    have kS := l06Name_eq c.Marks[i].Holder (hm _ (List.getElem_mem hlt))
    cases hkb : nameB c.Marks[i].Holder with
    | false =>
      rw [hkb] at kI kS
      exact .inr ⟨.inl (), .inl (), by simp [impl_ValidChain_b1, hlt, hr, kI], by simp [spec_l06Ok_b1, hlt, hr, kS], rfl, fun h => by cases h⟩
    | true =>
      rw [hkb] at kI kS
      by_cases h0 : c.Marks[i].Holder = z
      · subst h0
        exact .inr ⟨.inl (), .inl (), by simp [impl_ValidChain_b1, hlt, hr, kI], by simp [spec_l06Ok_b1, hlt, hr, kS], rfl, fun h => by cases h⟩
      · refine .inl ⟨(c.Marks[i].Holder, ((i + 1 : Nat) : Int)), _, by simp [impl_ValidChain_b1, hlt, hr, kI, h0, w], by simp [spec_l06Ok_b1, hlt, hr, kS, h0, w], ⟨rfl, i + 1, rfl, by omega, fun j hj hji => ?_⟩, by simp; omega⟩
        by_cases hjj : j = i
        · subst hjj; exact hkb
        · exact hprev j hj (by omega)
  · refine .inr ⟨.inr (), .inr (), by simp [impl_ValidChain_b1, hlt], by simp [spec_l06Ok_b1, hlt], rfl, fun _ m hmem => ?_⟩
    obtain ⟨j, hj, rfl⟩ := List.getElem_of_mem hmem
    exact hprev j hj (by omega)
theorem validChain_same (c : Chain) (hc : c.ok) : ∃ b, impl_ValidChain c = some b ∧ spec_l06Ok c = some b ∧ (b = true → ChI c) := by
  have hd := ok_debtor hc
  have hml := ok_marks hc
  have hm := ok_mark hc
  obtain ⟨q, q1, q2, _⟩ := validHalf_same c.Stock (fun n hn => inR8.1 (hc.2.1.2.1.2.2 n hn).1)
  unfold impl_ValidChain spec_l06Ok
  rw [isName_eq _ (by omega), l06Name_eq _ (by omega), q1, q2]
  simp only [Option.bind_some, l00In_eq]
  cases hN : nameB c.Debtor with
  | false => exact ⟨false, by simp, by simp, fun h => by cases h⟩
  | true =>
    cases q with
    | false => exact ⟨false, by simp, by simp, fun h => by cases h⟩
    | true =>
      cases hS : c.Stock.Stock with
      | false => exact ⟨false, by simp, by simp, fun h => by cases h⟩
      | true =>
        by_cases h1 : (c.Marks.length : Int) < 1
        · have z : inB (c.Marks.length : Int) 1 30 = false := by simp [inB]; omega
          exact ⟨false, by simp [h1], by simp [z], fun h => by cases h⟩
        · by_cases h2 : (c.Marks.length : Int) > 30
          · have z : inB (c.Marks.length : Int) 1 30 = false := by simp [inB]; omega
            exact ⟨false, by simp [h1, h2], by simp [z], fun h => by cases h⟩
          · have z : inB (c.Marks.length : Int) 1 30 = true := inB_iff.2 ⟨by omega, by omega⟩
            obtain ⟨r, r2, e1, e2, rfl, e3⟩ := marks_loop c (by omega) (fun m hmm => by have := hm m hmm; omega)
            rcases r with r | r
            · exact ⟨false, by simp [h1, h2, e1], by simp [z, e2], fun h => by cases h⟩
            · exact ⟨true, by simp [h1, h2, e1], by simp [z, e2], fun _ => ⟨by omega, by omega, hS, hN, e3 rfl⟩⟩
end Go.Proofs.YtjlalepbhcekoaaDoor
/- Which halves are valid: told by a formula. -/
namespace Go.Proofs.YtjlalepbhcekoaaDoor
open Go Go.Ab
def widI (k : Int) : Int := ([1, 2, 4, 6, 9, 12] : List Int).getD k.toNat 0
def worI (k : Int) : Int := ([1, 12, 240, 4800, 24000, 240000] : List Int).getD k.toNat 0
def endI (n : Notch) : Int := n.At + widI n.Kind
theorem wid_in (k : Int) : 0 ≤ widI k ∧ widI k ≤ 12 := by
  unfold widI
  rcases h : k.toNat with _ | _ | _ | _ | _ | _ | n <;> simp
theorem kind_cases {k : Int} (h : inB k 0 5 = true) : k = 0 ∨ k = 1 ∨ k = 2 ∨ k = 3 ∨ k = 4 ∨ k = 5 := by
  have := inB_iff.1 h; omega
theorem wid_rd {k : Int} (h : inB k 0 5 = true) : rd ([1, 2, 4, 6, 9, 12] : List Int) k = some (widI k) := by
  rcases kind_cases h with rfl | rfl | rfl | rfl | rfl | rfl <;> rfl
theorem wor_rd {k : Int} (h : inB k 0 5 = true) : rd ([1, 12, 240, 4800, 24000, 240000] : List Int) k = some (worI k) := by
  rcases kind_cases h with rfl | rfl | rfl | rfl | rfl | rfl <;> rfl
theorem wid_pos {k : Int} (h : inB k 0 5 = true) : 1 ≤ widI k := by
  rcases kind_cases h with rfl | rfl | rfl | rfl | rfl | rfl <;> decide
theorem wor_pos {k : Int} (h : inB k 0 5 = true) : 1 ≤ worI k ∧ worI k ≤ 240000 := by
  rcases kind_cases h with rfl | rfl | rfl | rfl | rfl | rfl <;> decide
/-- numbers that fit -/
def NtR (xs : List Notch) : Prop := ∀ n ∈ xs, (-128 ≤ n.Kind ∧ n.Kind ≤ 127) ∧ -32768 ≤ n.At ∧ n.At ≤ 32767
theorem endImpl {n : Notch} (h : inB n.Kind 0 5 = true) (ha : -32768 ≤ n.At ∧ n.At ≤ 32767) : impl_Notch_end n = some (endI n) := by
  have := inB_iff.1 h
  have w := wid_in n.Kind
  have w1 : IntKind.i64.wrap n.Kind = n.Kind := w64 (by omega)
  have w2 : IntKind.i64.wrap n.At = n.At := w64 (by omega)
  have w3 : IntKind.i64.wrap (n.At + widI n.Kind) = n.At + widI n.Kind := w64 (by omega)
  unfold impl_Notch_end impl_width endI
  rw [w1, wid_rd h]
  simp only [Option.bind_some, w2, w3]
theorem endSpec {n : Notch} (h : inB n.Kind 0 5 = true) (ha : -32768 ≤ n.At ∧ n.At ≤ 32767) : spec_l01Ends n = some (endI n) := by
  have := inB_iff.1 h
  have w := wid_in n.Kind
  have w2 : IntKind.i64.wrap n.At = n.At := w64 (by omega)
  have w3 : IntKind.i64.wrap (n.At + widI n.Kind) = n.At + widI n.Kind := w64 (by omega)
  unfold spec_l01Ends spec_l01Widths endI
  rw [Option.bind_some, wid_rd h]
  simp only [Option.bind_some, w2, w3]
def okA (n : Notch) : Bool := inB n.Kind 0 5 && (decide (0 ≤ n.At) && decide (endI n ≤ 200))
def okP (p n : Notch) : Bool := decide (n.Kind ≤ p.Kind) && decide (endI p < n.At)
def okN (xs : List Notch) (i : Nat) : Bool := (xs[i]?).all okA && (decide (i = 0) || (xs[i - 1]?).all fun p => (xs[i]?).all fun n => okP p n)
def ntB (xs : List Notch) : Bool := decide (xs.length ≤ 60) && (List.range xs.length).all (okN xs)
theorem okA_k {n : Notch} (h : okA n = true) : inB n.Kind 0 5 = true ∧ 0 ≤ n.At ∧ endI n ≤ 200 := by
  unfold okA at h
  simpa [Bool.and_eq_true] using h
theorem okN_get {xs : List Notch} {i : Nat} (hi : i < xs.length) (h : okN xs i = true) : okA xs[i] = true ∧ (0 < i → okP (xs[i - 1]'(by omega)) xs[i] = true) := by
  unfold okN at h
  rw [List.getElem?_eq_getElem hi, List.getElem?_eq_getElem (show i - 1 < xs.length by omega)] at h
  simp only [Option.all_some, Bool.and_eq_true, Bool.or_eq_true, decide_eq_true_eq] at h
  exact ⟨h.1, fun h0 => h.2.resolve_left (by omega)⟩
theorem okN_eq {xs : List Notch} {i : Nat} (hi : i < xs.length) (h0 : 0 < i) : okN xs i = (okA xs[i] && okP (xs[i - 1]'(by omega)) xs[i]) := by
  unfold okN
  rw [List.getElem?_eq_getElem hi, List.getElem?_eq_getElem (show i - 1 < xs.length by omega)]
  have : decide (i = 0) = false := by simp; omega
  simp [this]
theorem okN_zero {xs : List Notch} (hi : 0 < xs.length) : okN xs 0 = okA xs[0] := by
  unfold okN
  rw [List.getElem?_eq_getElem hi]
  simp
theorem implNt_step (h : Half) (hn : h.Notches.length ≤ 60) (hR : NtR h.Notches) (i : Nat) (hlt : i < h.Notches.length) (hprev : ∀ j, j < i → okN h.Notches j = true) :
    impl_ValidHalf_b1 h (i : Int) = some (if okN h.Notches i = true then .inl ((i + 1 : Nat) : Int) else .inr (.inl ())) := by
  have hr : rd h.Notches (i : Int) = some h.Notches[i] := by rw [rd_coe, List.getElem?_eq_getElem hlt]
  have w := w64s hlt (by omega)
  obtain ⟨hk, ha⟩ := hR _ (List.getElem_mem hlt)
  have wk : IntKind.i64.wrap h.Notches[i].Kind = h.Notches[i].Kind := w64 (by omega)
  have wa : IntKind.i64.wrap h.Notches[i].At = h.Notches[i].At := w64 (by omega)
  have kI := isKind_eq h.Notches[i].Kind
  have hlt' : (i : Int) < h.Notches.length := by omega
  by_cases hi0 : i = 0
  · subst hi0
    rw [okN_zero hlt]
    unfold okA
    cases hkb : inB h.Notches[0].Kind 0 5 with
    | false => have hr0 : rd h.Notches 0 = some h.Notches[0] := hr
               rw [hkb] at kI; simp [impl_ValidHalf_b1, hlt, hr0, wk, kI]
    | true =>
      rw [hkb] at kI
      have hr0 : rd h.Notches 0 = some h.Notches[0] := hr
      by_cases h0 : h.Notches[0].At < 0
      · have : ¬ (0 : Int) ≤ h.Notches[0].At := by omega
        simp [impl_ValidHalf_b1, hlt, hr0, wk, kI, h0, this]
      · have h0' : (0 : Int) ≤ h.Notches[0].At := by omega
        have e1 := endImpl hkb ha
        by_cases h2 : endI h.Notches[0] > 200
        · have h2' : ¬ endI h.Notches[0] ≤ 200 := by omega
          simp [impl_ValidHalf_b1, hlt, hr0, wk, kI, h0, h0', e1, h2, h2']
        · have h2' : endI h.Notches[0] ≤ 200 := by omega
          have h2'' : ¬ (200 : Int) < endI h.Notches[0] := by omega
          simp [impl_ValidHalf_b1, hlt, hr0, wk, kI, h0, h0', e1, h2', h2'', w64]
  · have hi0' : 0 < i := by omega
    rw [okN_eq hlt hi0']
    unfold okA
    cases hkb : inB h.Notches[i].Kind 0 5 with
    | false => rw [hkb] at kI; simp [impl_ValidHalf_b1, hlt, hr, wk, kI]
    | true =>
      rw [hkb] at kI
      by_cases h0 : h.Notches[i].At < 0
      · have : ¬ 0 ≤ h.Notches[i].At := by omega
        simp [impl_ValidHalf_b1, hlt, hr, wk, kI, h0, this]
      · have h0' : 0 ≤ h.Notches[i].At := by omega
        have e1 := endImpl hkb ha
        by_cases h2 : endI h.Notches[i] > 200
        · have h2' : ¬ endI h.Notches[i] ≤ 200 := by omega
          simp [impl_ValidHalf_b1, hlt, hr, wk, kI, h0, h0', e1, h2, h2']
        · have h2' : endI h.Notches[i] ≤ 200 := by omega
          have h2'' : ¬ 200 < endI h.Notches[i] := by omega
          have hj : i - 1 < h.Notches.length := by omega
          have hp : rd h.Notches (IntKind.i64.wrap ((i : Int) - 1)) = some h.Notches[i - 1] := by
            rw [w64 (by omega), show ((i : Int) - 1) = ((i - 1 : Nat) : Int) by omega, rd_coe, List.getElem?_eq_getElem hj]
          have kp := okA_k (okN_get hj (hprev (i - 1) (by omega))).1
          have e2 := endImpl kp.1 (hR _ (List.getElem_mem hj)).2
          unfold okP
          by_cases c1 : h.Notches[i].At ≤ endI h.Notches[i - 1]
          · have c1' : ¬ endI h.Notches[i - 1] < h.Notches[i].At := by omega
            simp [impl_ValidHalf_b1, hlt, hr, wk, kI, h0, h0', e1, h2', h2'', hi0', hp, e2, wa, c1, c1']
          · have c1' : endI h.Notches[i - 1] < h.Notches[i].At := by omega
            by_cases c2 : h.Notches[i].Kind > h.Notches[i - 1].Kind
            · have c2' : ¬ h.Notches[i].Kind ≤ h.Notches[i - 1].Kind := by omega
              simp [impl_ValidHalf_b1, hlt, hr, wk, kI, h0, h0', e1, h2', h2'', hi0', hp, e2, wa, c1, c1', c2, c2']
            · have c2' : h.Notches[i].Kind ≤ h.Notches[i - 1].Kind := by omega
              have c2'' : ¬ h.Notches[i - 1].Kind < h.Notches[i].Kind := by omega
              simp [impl_ValidHalf_b1, hlt, hr, wk, kI, h0, h0', e1, h2', h2'', hi0', hp, e2, wa, c1, c1', c2', c2'', w]
theorem specNt_step (xs : List Notch) (hn : xs.length ≤ 60) (hR : NtR xs) (i : Nat) (hlt : i < xs.length) (hprev : ∀ j, j < i → okN xs j = true) :
    spec_l01Notches_b1 xs (i : Int) = some (if okN xs i = true then .inl ((i + 1 : Nat) : Int) else .inr (.inl ())) := by
  have hr : rd xs (i : Int) = some xs[i] := by rw [rd_coe, List.getElem?_eq_getElem hlt]
  have w := w64s hlt (by omega)
  obtain ⟨hk, ha⟩ := hR _ (List.getElem_mem hlt)
  have wk : IntKind.i64.wrap xs[i].Kind = xs[i].Kind := w64 (by omega)
  have wa : IntKind.i64.wrap xs[i].At = xs[i].At := w64 (by omega)
  have kI := l01Kind_eq xs[i].Kind
  have hlt' : (i : Int) < xs.length := by omega
  by_cases hi0 : i = 0
  · subst hi0
    rw [okN_zero hlt]
    unfold okA
    cases hkb : inB xs[0].Kind 0 5 with
    | false => have hr0 : rd xs 0 = some xs[0] := hr
               rw [hkb] at kI; simp [spec_l01Notches_b1, hlt, hr0, wk, kI]
    | true =>
      rw [hkb] at kI
      have hr0 : rd xs 0 = some xs[0] := hr
      by_cases h0 : xs[0].At < 0
      · have : ¬ (0 : Int) ≤ xs[0].At := by omega
        simp [spec_l01Notches_b1, hlt, hr0, wk, kI, h0, this]
      · have h0' : (0 : Int) ≤ xs[0].At := by omega
        have e1 := endSpec hkb ha
        by_cases h2 : endI xs[0] > 200
        · have h2' : ¬ endI xs[0] ≤ 200 := by omega
          simp [spec_l01Notches_b1, hlt, hr0, wk, kI, h0, h0', e1, h2, h2']
        · have h2' : endI xs[0] ≤ 200 := by omega
          have h2'' : ¬ (200 : Int) < endI xs[0] := by omega
          simp [spec_l01Notches_b1, hlt, hr0, wk, kI, h0, h0', e1, h2', h2'', w64]
  · have hi0' : 0 < i := by omega
    rw [okN_eq hlt hi0']
    unfold okA
    cases hkb : inB xs[i].Kind 0 5 with
    | false => rw [hkb] at kI; simp [spec_l01Notches_b1, hlt, hr, wk, kI]
    | true =>
      rw [hkb] at kI
      by_cases h0 : xs[i].At < 0
      · have : ¬ 0 ≤ xs[i].At := by omega
        simp [spec_l01Notches_b1, hlt, hr, wk, kI, h0, this]
      · have h0' : 0 ≤ xs[i].At := by omega
        have e1 := endSpec hkb ha
        by_cases h2 : endI xs[i] > 200
        · have h2' : ¬ endI xs[i] ≤ 200 := by omega
          simp [spec_l01Notches_b1, hlt, hr, wk, kI, h0, h0', e1, h2, h2']
        · have h2' : endI xs[i] ≤ 200 := by omega
          have h2'' : ¬ 200 < endI xs[i] := by omega
          have hj : i - 1 < xs.length := by omega
          have hp : rd xs (IntKind.i64.wrap ((i : Int) - 1)) = some xs[i - 1] := by
            rw [w64 (by omega), show ((i : Int) - 1) = ((i - 1 : Nat) : Int) by omega, rd_coe, List.getElem?_eq_getElem hj]
          have kp := okA_k (okN_get hj (hprev (i - 1) (by omega))).1
          have e2 := endSpec kp.1 (hR _ (List.getElem_mem hj)).2
          unfold okP
          by_cases c2 : xs[i].Kind > xs[i - 1].Kind
          · have c2' : ¬ xs[i].Kind ≤ xs[i - 1].Kind := by omega
            simp [spec_l01Notches_b1, hlt, hr, wk, kI, h0, h0', e1, h2', h2'', hi0', hp, c2, c2']
          · have c2' : xs[i].Kind ≤ xs[i - 1].Kind := by omega
            have c2'' : ¬ xs[i - 1].Kind < xs[i].Kind := by omega
            by_cases c1 : xs[i].At ≤ endI xs[i - 1]
            · have c1' : ¬ endI xs[i - 1] < xs[i].At := by omega
              simp [spec_l01Notches_b1, hlt, hr, wk, kI, h0, h0', e1, h2', h2'', hi0', hp, e2, wa, c1, c1', c2', c2'']
            · have c1' : endI xs[i - 1] < xs[i].At := by omega
              simp [spec_l01Notches_b1, hlt, hr, wk, kI, h0, h0', e1, h2', h2'', hi0', hp, e2, wa, c1, c1', c2', c2'', w]
theorem l01Notches_val (xs : List Notch) (hR : NtR xs) : spec_l01Notches xs = some (ntB xs) := by
  unfold spec_l01Notches ntB
  by_cases hn : xs.length ≤ 60
  · have c : ¬ (xs.length : Int) > 60 := by omega
    have key := scan_st (tb := spec_l01Notches_b1 xs) (fun i => (i : Int)) xs.length (okN xs) (.inl ()) (.inr ()) (fun i hi hp => specNt_step xs hn hR i hi hp) (fun _ => by simp [spec_l01Notches_b1])
    have key : Lw (spec_l01Notches_b1 xs) 0 = _ := key
    rw [if_neg (by simpa using c), key]
    cases (List.range xs.length).all (okN xs) <;> simp [hn]
  · have c : (xs.length : Int) > 60 := by omega
    rw [if_pos (by simpa using c)]
    simp [hn]
theorem l01Ok_val (h : Half) (hR : NtR h.Notches) : spec_l01Ok h = some (ntB h.Notches && grainB h.Grain) := by
  unfold spec_l01Ok
  rw [l01Notches_val _ hR, l01Grain_eq]
  cases ntB h.Notches <;> simp
theorem validHalf_val (h : Half) (hR : NtR h.Notches) : impl_ValidHalf h = some (ntB h.Notches && grainB h.Grain) := by
  unfold impl_ValidHalf ntB
  rw [validGrain_eq]
  by_cases hn : h.Notches.length ≤ 60
  · have c : ¬ (h.Notches.length : Int) > 60 := by omega
    have key := scan_st (tb := impl_ValidHalf_b1 h) (fun i => (i : Int)) h.Notches.length (okN h.Notches) (.inl ()) (.inr ()) (fun i hi hp => implNt_step h hn hR i hi hp) (fun _ => by simp [impl_ValidHalf_b1])
    have key : Lw (impl_ValidHalf_b1 h) 0 = _ := key
    rw [if_neg (by simpa using c)]
    cases hg : grainB h.Grain
    · simp
    · simp only [Option.bind_some, Bool.not_true, Bool.false_eq_true, if_false, key]
      cases (List.range h.Notches.length).all (okN h.Notches) <;> simp [hn]
  · have c : (h.Notches.length : Int) > 60 := by omega
    rw [if_pos (by simpa using c)]
    simp [hn]
theorem ntB_len {xs : List Notch} (h : ntB xs = true) : xs.length ≤ 60 := by
  unfold ntB at h
  simp only [Bool.and_eq_true, decide_eq_true_eq] at h
  exact h.1
theorem ntB_get {xs : List Notch} (h : ntB xs = true) (i : Nat) (hi : i < xs.length) : okA xs[i] = true ∧ (0 < i → okP (xs[i - 1]'(by omega)) xs[i] = true) := by
  unfold ntB at h
  simp only [Bool.and_eq_true, List.all_eq_true] at h
  exact okN_get hi (h.2 i (by simpa using hi))
theorem ntB_mem {xs : List Notch} (h : ntB xs = true) (n : Notch) (hn : n ∈ xs) : inB n.Kind 0 5 = true ∧ 0 ≤ n.At ∧ endI n ≤ 200 := by
  obtain ⟨i, hi, rfl⟩ := List.getElem_of_mem hn
  exact okA_k (ntB_get h i hi).1
theorem ntB_hf {h : Half} (hn : ntB h.Notches = true) (hg : grainB h.Grain = true) : HfI h := ⟨ntB_len hn, hg, fun n hm => ⟨(ntB_mem hn n hm).1, (ntB_mem hn n hm).2.1⟩⟩
theorem ntB_nil : ntB [] = true := by decide
theorem ntB_snoc {xs : List Notch} {n : Notch} (h : ntB xs = true) (hl : xs.length < 60) (hn : okA n = true) (hp : ∀ p, xs.getLast? = some p → okP p n = true) : ntB (xs ++ [n]) = true := by
  unfold ntB
  simp only [Bool.and_eq_true, decide_eq_true_eq, List.all_eq_true, List.length_append, List.length_singleton]
  refine ⟨by omega, fun i hi => ?_⟩
  have hi : i < xs.length + 1 := by simpa using hi
  by_cases he : i < xs.length
  · have := ntB_get h i he
    have hi2 : i < (xs ++ [n]).length := by simp; omega
    by_cases h0 : i = 0
    · subst h0
      rw [okN_zero hi2]
      simpa [List.getElem_append_left he] using this.1
    · rw [okN_eq hi2 (by omega)]
      simp only [List.getElem_append_left he, List.getElem_append_left (show i - 1 < xs.length by omega), Bool.and_eq_true]
      exact ⟨this.1, this.2 (by omega)⟩
  · have he : i = xs.length := by omega
    subst he
    have hi2 : xs.length < (xs ++ [n]).length := by simp
    by_cases h0 : xs.length = 0
    · have hx : xs = [] := List.length_eq_zero_iff.1 h0
      subst hx
      rw [show ([] : List Notch).length = 0 from rfl, okN_zero (by simp)]
      simpa using hn
    · rw [okN_eq hi2 (by omega)]
      simp only [List.getElem_append_left (show xs.length - 1 < xs.length by omega), Bool.and_eq_true]
      refine ⟨by simpa using hn, ?_⟩
      have := hp (xs[xs.length - 1]) (by rw [List.getLast?_eq_getElem?, List.getElem?_eq_getElem])
      simpa using this
/-! amounts -/
def wsum (xs : List Notch) : Int := (xs.map fun n => worI n.Kind).sum
theorem wsum_append (a b : List Notch) : wsum (a ++ b) = wsum a + wsum b := by simp [wsum]
theorem wsum_in (xs : List Notch) (hk : ∀ n ∈ xs, inB n.Kind 0 5 = true) : 0 ≤ wsum xs ∧ wsum xs ≤ 240000 * (xs.length : Int) := by
  induction xs with
  | nil => simp [wsum]
  | cons x xs ih =>
    have := ih (fun n hn => hk n (List.mem_cons_of_mem _ hn))
    have := wor_pos (hk x List.mem_cons_self)
    simp only [wsum, List.map_cons, List.sum_cons, List.length_cons] at *
    omega
end Go.Proofs.YtjlalepbhcekoaaDoor
/- The notches for an amount; sticks that are cut. -/
namespace Go.Proofs.YtjlalepbhcekoaaDoor
open Go Go.Ab
/-- n notches of one kind -/
def cutF (k : Int) : Nat → Int → List Notch
  | 0, _ => []
  | n + 1, a => ⟨k, a⟩ :: cutF k n (a + (widI k + 1))
/-- the notches for an amount, from a kind on downwards, with no bound -/
def fullK : Nat → Int → Int → List Notch → List Notch
  | 0, _, _, out => out
  | k + 1, a, at_, out => fullK k (a % worI k) (at_ + (a / worI k) * (widI k + 1)) (out ++ cutF k (a / worI k).toNat at_)
theorem kB {k : Nat} (h : k < 6) : inB (k : Int) 0 5 = true := inB_iff.2 ⟨by omega, by omega⟩
theorem div_step {a w : Int} (hw : 1 ≤ w) (h : w ≤ a) : (a - w) / w = a / w - 1 ∧ (a - w) % w = a % w := by
  constructor
  · have := Int.sub_emod_right
    rw [Int.sub_ediv_of_dvd a (Int.dvd_refl w), Int.ediv_self (by omega)]
  · rw [Int.sub_emod_right]
theorem div_zero {a w : Int} (h0 : 0 ≤ a) (h : a < w) : a / w = 0 ∧ a % w = a := ⟨Int.ediv_eq_zero_of_lt h0 h, Int.emod_eq_of_lt h0 h⟩
theorem div_pos {a w : Int} (hw : 1 ≤ w) (h : w ≤ a) : 1 ≤ a / w := by
  have := Int.ediv_le_ediv (a := w) (b := a) (c := w) (by omega) h
  rwa [Int.ediv_self (by omega)] at this
theorem i8k {k : Nat} (h : k < 6) : IntKind.i8.wrap (k : Int) = k := by simp [IntKind.wrap, IntKind.signed, IntKind.bits]; omega
theorem i16a {a : Int} (h0 : 0 ≤ a) (h : a ≤ 32767) : IntKind.i16.wrap a = a := by simp [IntKind.wrap, IntKind.signed, IntKind.bits]; omega
/-- notches that fit -/
def NtS (m : Int) (xs : List Notch) : Prop := ∀ n ∈ xs, inB n.Kind 0 5 = true ∧ 0 ≤ n.At ∧ n.At ≤ m
theorem NtS.snoc {m : Int} {xs : List Notch} {n : Notch} (h : NtS m xs) (h1 : inB n.Kind 0 5 = true) (h2 : 0 ≤ n.At) (h3 : n.At ≤ m) : NtS m (xs ++ [n]) := by
  intro x hx
  rcases List.mem_append.1 hx with hx | hx
  · exact h x hx
  · rw [List.mem_singleton.1 hx]; exact ⟨h1, h2, h3⟩
theorem NtS.nR {m : Int} {xs : List Notch} (h : NtS m xs) (hm : m ≤ 32767) : NtR xs := fun n hn => by
  obtain ⟨h1, h2, h3⟩ := h n hn
  have := inB_iff.1 h1
  exact ⟨by omega, by omega⟩
theorem fullK_pre : ∀ (k : Nat) (a at_ : Int) (out : List Notch), ∃ z, fullK k a at_ out = out ++ z := by
  intro k
  induction k with
  | zero => intro a at_ out; exact ⟨[], by simp [fullK]⟩
  | succ k ih =>
    intro a at_ out
    obtain ⟨z, hz⟩ := ih (a % worI k) (at_ + (a / worI k) * (widI k + 1)) (out ++ cutF k (a / worI k).toNat at_)
    exact ⟨cutF k (a / worI k).toNat at_ ++ z, by rw [fullK, hz, List.append_assoc]⟩
theorem cutF_len (k : Int) : ∀ (n : Nat) (a : Int), (cutF k n a).length = n
  | 0, _ => rfl
  | n + 1, a => by simp [cutF, cutF_len k n]
/-- the notches for an amount -/
def ntF (a : Int) : List Notch := fullK 6 a 0 []
/-- their code -/
def ntC (a : Int) : Int := if inB a 0 100000000 = true then (if ntB (ntF a) = true then 0 else 3) else 2
theorem ntB_bad {xs : List Notch} (h : ∃ m ∈ xs, m.At > 200) : ntB xs = false := by
  obtain ⟨m, h1, h2⟩ := h
  cases hb : ntB xs with
  | false => rfl
  | true =>
    have := ntB_mem hb m h1
    have := wid_in m.Kind
    unfold endI at *
    omega
theorem wsum_cut (k : Int) : ∀ (n : Nat) (a : Int), wsum (cutF k n a) = n * worI k
  | 0, _ => by simp [cutF, wsum]
  | n + 1, a => by
    have := wsum_cut k n (a + (widI k + 1))
    simp only [cutF, wsum, List.map_cons, List.sum_cons] at *
    rw [this, Int.natCast_add, Int.add_mul]; omega
theorem wsum_full : ∀ (k : Nat), k < 6 → ∀ (a at_ : Int) (out : List Notch), 0 ≤ a → wsum (fullK (k + 1) a at_ out) = wsum out + a := by
  intro k
  induction k with
  | zero =>
    intro _ a at_ out h
    have w1 : worI ((0 : Nat) : Int) = 1 := by decide
    rw [fullK, fullK, wsum_append, wsum_cut, w1, Int.ediv_one]
    omega
  | succ k ih =>
    intro hk a at_ out h
    have hb := kB hk
    have wp := wor_pos hb
    have hm0 := Int.emod_nonneg a (show worI ((k + 1 : Nat) : Int) ≠ 0 by omega)
    have hq : 0 ≤ a / worI ((k + 1 : Nat) : Int) := Int.ediv_nonneg h (by omega)
    have en : ((a / worI ((k + 1 : Nat) : Int)).toNat : Int) = a / worI ((k + 1 : Nat) : Int) := by omega
    rw [fullK, ih (by omega) _ _ _ hm0, wsum_append, wsum_cut, en]
    have := Int.emod_add_ediv_mul a (worI ((k + 1 : Nat) : Int))
    omega
/-- they make the amount -/
theorem wsum_ntF {a : Int} (h : 0 ≤ a) : wsum (ntF a) = a := by
  unfold ntF
  rw [wsum_full 5 (by omega) a 0 [] h]
  simp [wsum]
theorem ntC_zero {a : Int} (h : ntC a = 0) : inB a 0 100000000 = true ∧ ntB (ntF a) = true := by
  unfold ntC at h
  cases hA : inB a 0 100000000 with
  | false => rw [hA] at h; simp at h
  | true =>
    cases hb : ntB (ntF a) with
    | true => exact ⟨rfl, rfl⟩
    | false => rw [hA, hb] at h; simp at h
theorem ntC_in (a : Int) : ntC a = 0 ∨ ntC a = 2 ∨ ntC a = 3 := by
  unfold ntC
  cases inB a 0 100000000 <;> cases ntB (ntF a) <;> simp
theorem ntB_R {xs : List Notch} (h : ntB xs = true) : NtR xs := fun n hn => by
  obtain ⟨h1, h2, h3⟩ := ntB_mem h n hn
  have := inB_iff.1 h1
  have := wid_in n.Kind
  unfold endI at h3
  exact ⟨by omega, by omega⟩
end Go.Proofs.YtjlalepbhcekoaaDoor
/- Two chains are the same: the program's word and the reference's. -/
namespace Go.Proofs.YtjlalepbhcekoaaDoor
open Go Go.Ab
theorem equalN_eq (a b : List Notch) (h : a.length ≤ 4611686018427387904) : slices_Equal_Notch a b = some (decide (a = b)) := by
  unfold slices_Equal_Notch
  by_cases hl : a.length = b.length
  · rw [if_neg (by simp [hl]), eqS_loop a b h hl (fun i h1 h2 => by
      simp only [slices_Equal_Notch_b1, rd_coe, List.getElem?_eq_getElem h1, List.getElem?_eq_getElem h2, Option.bind_some, notch_eq]
      have h1' : (i : Int) < a.length := by omega
      by_cases e1 : a[i].Kind = b[i].Kind <;> by_cases e2 : a[i].At = b[i].At <;> simp [e1, e2, h1]) (by simp [slices_Equal_Notch_b1])]
    by_cases he : a = b <;> simp [he]
  · rw [if_pos (by simp; omega)]
    have : a ≠ b := fun h => hl (by rw [h])
    simp [this]
theorem sameNotches_eq (a b : List Notch) (h : a.length ≤ 4611686018427387904) : spec_l01SameNotches a b = some (decide (a = b)) := equalN_eq a b h
theorem sameHalf_eq (x y : Half) (h : x.Notches.length ≤ 4611686018427387904) : impl_SameHalf x y = some (decide (x = y)) := by
  unfold impl_SameHalf
  rw [equalN_eq _ _ h, arB_eq]
  by_cases e1 : x.Stock = y.Stock <;> by_cases e2 : x.Notches = y.Notches <;> by_cases e3 : x.Grain = y.Grain <;> simp [half_eq, e1, e2, e3]
theorem l01Same_eq (x y : Half) (h : x.Notches.length ≤ 4611686018427387904) : spec_l01Same x y = some (decide (x = y)) := by
  unfold spec_l01Same
  rw [sameNotches_eq _ _ h, arB_eq]
  by_cases e1 : x.Stock = y.Stock <;> by_cases e2 : x.Notches = y.Notches <;> by_cases e3 : x.Grain = y.Grain <;> simp [half_eq, e1, e2, e3]
end Go.Proofs.YtjlalepbhcekoaaDoor
/- Grains; sticks that are cut, and their halves. -/
namespace Go.Proofs.YtjlalepbhcekoaaDoor
open Go Go.Ab
/-- the grain of the other half -/
def oppG (g : Ar 16 Int) : Ar 16 Int := ⟨g.l.map fun x => -x, by simp [g.h]⟩
theorem grain_mem {g : Ar 16 Int} (hg : grainB g = true) (i : Nat) (hi : i < g.l.length) : -3 ≤ g.l[i] ∧ g.l[i] ≤ 3 := inB_iff.1 (List.all_eq_true.1 hg _ (List.getElem_mem hi))
theorem oppG_ok {g : Ar 16 Int} (hg : grainB g = true) : grainB (oppG g) = true := by
  unfold grainB oppG
  simp only [List.all_map, List.all_eq_true, Function.comp_def]
  intro x hx
  have := inB_iff.1 (List.all_eq_true.1 hg x hx)
  exact inB_iff.2 ⟨by omega, by omega⟩
theorem opp_loop {tb : Int × Ar 16 Int → Option ((Int × Ar 16 Int) ⊕ Ar 16 Int)} (g : Ar 16 Int) (hg : grainB g = true)
    (hs : ∀ (i : Nat) (y : Ar 16 Int) (h : i < 16), tb ((i : Int), y) = (rdA y (i : Int)).bind fun x => some (.inl (IntKind.i64.wrap ((i : Int) + 1), y.set i (IntKind.i8.wrap (0 - x))))) (he : ∀ y, tb (16, y) = some (.inr y)) : Lw tb (0, g) = some (oppG g) := by
  have h16 := g.h
  have key := Lw_run (tb := tb) (fun i => ((i : Int), (⟨(g.l.take i).map (fun x => -x) ++ g.l.drop (min i 16), by simp; omega⟩ : Ar 16 Int))) 16 (r := oppG g)
    (by
      intro i hi
      have hm : min i 16 = i := by omega
      have hm1 : min (i + 1) 16 = i + 1 := by omega
      have gl : i < g.l.length := by omega
      have hx := grain_mem hg i gl
      have hr : rdA (⟨(g.l.take i).map (fun x => -x) ++ g.l.drop (min i 16), by simp; omega⟩ : Ar 16 Int) (i : Int) = some g.l[i] := by
        rw [rdA_coe _ i hi]
        congr 1
        show ((g.l.take i).map (fun x => -x) ++ g.l.drop (min i 16))[i]'_ = _
        rw [List.getElem_append_right (by simp; omega)]
        simp [hm]
        congr 1
        omega
      have w8 : IntKind.i8.wrap (0 - g.l[i]) = -g.l[i] := by rw [IntWalk.i8_in _ (by omega)]; omega
      rw [hs i _ hi, hr]
      simp only [Option.bind_some, w8, w64s hi (by decide)]
      congr 3
      rw [ar_ext]
      show ((g.l.take i).map (fun x => -x) ++ g.l.drop (min i 16)).set i (-g.l[i]) = (g.l.take (i + 1)).map (fun x => -x) ++ g.l.drop (min (i + 1) 16)
      rw [hm, hm1, List.set_append_right _ _ (by simp; omega)]
      have e : i - ((g.l.take i).map fun x => -x).length = 0 := by simp; omega
      rw [e, List.drop_eq_getElem_cons gl, List.set_cons_zero, List.take_succ_eq_append_getElem gl, List.map_append, List.append_assoc]
      rfl)
    (by
      rw [show (((16 : Nat) : Int)) = (16 : Int) from rfl, he]
      congr 2
      rw [ar_ext]
      show (g.l.take 16).map (fun x => -x) ++ g.l.drop (min 16 16) = g.l.map fun x => -x
      rw [List.take_of_length_le (by omega), Nat.min_self, List.drop_eq_nil_of_le (by omega), List.append_nil])
  have e : (((0 : Nat) : Int), (⟨(g.l.take 0).map (fun x => -x) ++ g.l.drop (min 0 16), by simp; omega⟩ : Ar 16 Int)) = (0, g) := by
    congr 1
  rw [e] at key
  exact key
/-- the next seed -/
def seedN (s : Int) : Int := IntKind.u32.wrap (IntKind.u32.wrap (1664525 * s) + 1013904223)
theorem seedN_in (s : Int) : 0 ≤ seedN s ∧ seedN s ≤ 4294967295 := by
  unfold seedN
  rw [IntKind.wrap_u32]; omega
theorem grain_step {n : Int} (h0 : 0 ≤ n) (h1 : n ≤ 4294967295) : quo .u32 n 65536 = some (n / 65536) ∧ shr .u32 n 16 = some (n / 65536) ∧ rem .u32 (n / 65536) 7 = some (n / 65536 % 7) ∧ IntKind.i8.wrap (IntKind.i8.wrap (n / 65536 % 7) - 3) = n / 65536 % 7 - 3 ∧ -3 ≤ n / 65536 % 7 - 3 ∧ n / 65536 % 7 - 3 ≤ 3 := by
  have w1 : IntKind.u32.wrap (n / 65536) = n / 65536 := IntWalk.u32_in _ (by omega)
  have w2 : IntKind.i8.wrap (n / 65536 % 7) = n / 65536 % 7 := IntWalk.i8_in _ (by omega)
  have w3 : IntKind.i8.wrap (n / 65536 % 7 - 3) = n / 65536 % 7 - 3 := IntWalk.i8_in _ (by omega)
  refine ⟨?_, ?_, ?_, by rw [w2, w3], by omega, by omega⟩
  · unfold quo
    rw [if_neg (by decide), Int.tdiv_eq_ediv_of_nonneg h0, w1]
  · unfold shr
    rw [if_neg (by decide)]
    have : min ((16 : Int).toNat) IntKind.u32.bits = 16 := by decide
    rw [this, Int.fdiv_eq_ediv_of_nonneg _ (by decide)]
    rfl
  · unfold rem
    rw [if_neg (by decide), Int.tmod_eq_emod_of_nonneg (by omega)]
theorem rep_ok : grainB (Ar.rep 16 0) = true := by decide
theorem grainFrom_s (s : Int) : ∃ g s', spec_GrainFrom s = some (g, s') ∧ grainB g = true := by
  have := Lw_meas (tb := spec_GrainFrom_b1) (fun s => (16 - s.2.1).toNat) (fun s => 0 ≤ s.2.1 ∧ s.2.1 ≤ 16 ∧ grainB s.2.2 = true) (fun r => grainB r.2 = true) (by
      rintro ⟨s, i, g⟩ ⟨i0, i1, hg⟩
      simp only at i0 i1 hg
      by_cases hlt : i < 16
      · obtain ⟨j, rfl⟩ : ∃ j : Nat, i = j := ⟨i.toNat, by omega⟩
        have hj : j < 16 := by omega
        have hsd := seedN_in s
        obtain ⟨q1, q2, q3, q4, q5, q6⟩ := grain_step hsd.1 hsd.2
        have hsn : IntKind.u32.wrap (IntKind.u32.wrap (1664525 * s) + 1013904223) = seedN s := rfl
        have w := w64s hj (by decide)
        refine .inl ⟨(seedN s, ((j + 1 : Nat) : Int), g.set j (seedN s / 65536 % 7 - 3)), ?_, ⟨by simp only; omega, by simp only; omega, ?_⟩, by simp only; omega⟩
        · simp only [spec_GrainFrom_b1, hsn, Option.bind_some, q1, q3, rdA_coe g j hj, q4, w, Int.toNat_natCast]
          rw [if_pos (by simpa using hlt)]
        · unfold grainB
          rw [List.all_eq_true]
          intro x hx
          rcases List.mem_or_eq_of_mem_set (show x ∈ g.l.set j (seedN s / 65536 % 7 - 3) from hx) with hx | rfl
          · exact List.all_eq_true.1 hg x hx
          · exact inB_iff.2 ⟨q5, q6⟩
      · exact .inr ⟨(s, g), by simp [spec_GrainFrom_b1, hlt], hg⟩) _ (s, 0, Ar.rep 16 0) rfl ⟨by simp, by simp, rep_ok⟩
  obtain ⟨⟨s', g⟩, h1, h3⟩ := this
  exact ⟨g, s', by unfold spec_GrainFrom; rw [h1]; rfl, h3⟩
theorem clone_n (xs : List Notch) (h : xs.length ≤ 1000) : slices_Clone_Notch xs = some xs := by
  unfold slices_Clone_Notch
  rw [app_some (by simp only [List.length_nil]; omega) (by decide)]
  simp
theorem copy_n (xs : List Notch) (h : xs.length ≤ 1000) : spec_l01Copy xs = some xs := by
  unfold spec_l01Copy
  rw [app_some (by simp only [List.length_nil]; omega) (by decide)]
  simp
/-- what a stick's halves are -/
def cutT (a : Int) (g : Ar 16 Int) : Bool × List Notch × Ar 16 Int × List Notch × Ar 16 Int × Int :=
  if grainB g = true then (if ntC a = 0 then (true, ntF a, g, ntF a, oppG g, 0) else (false, [], Ar.rep 16 0, [], Ar.rep 16 0, ntC a)) else (false, [], Ar.rep 16 0, [], Ar.rep 16 0, 1)
/-! halves that fit -/
end Go.Proofs.YtjlalepbhcekoaaDoor
/- Texts put together. -/
namespace Go.Proofs.YtjlalepbhcekoaaDoor
open Go Go.Ab
theorem sadd_some {a b : List UInt8} (h : a.length + b.length ≤ 9223372036854775807) : sadd a b = some (a ++ b) := by
  unfold sadd
  rw [if_neg (by have : IntKind.i64.max = 9223372036854775807 := rfl; rw [this]; omega)]
end Go.Proofs.YtjlalepbhcekoaaDoor
/- Numbers written out. -/
namespace Go.Proofs.YtjlalepbhcekoaaDoor
open Go Go.Ab
/-- a number's text -/
noncomputable def tx (n : Int) : List UInt8 := Lib.decDigits n.toNat
theorem decDigits_le : ∀ (k n : Nat), n < 10 ^ (k + 1) → (Lib.decDigits n).length ≤ k + 1
  | 0, n, h => by
    rw [Lib.decDigits, dif_pos (by omega)]
    simp
  | k + 1, n, h => by
    rw [Lib.decDigits]
    split
    · simp
    · have := decDigits_le k (n / 10) (by rw [Nat.pow_succ] at h; omega)
      simp only [List.length_append, List.length_singleton]
      omega
theorem dig_eq {n : Nat} (h : n < 10) : toB [IntKind.u8.wrap (IntKind.i64.wrap (48 + (n : Int)))] = [UInt8.ofNat (48 + n)] := by
  rw [w64 (by omega)]
  have : IntKind.u8.wrap (48 + (n : Int)) = 48 + (n : Int) := by simp [IntKind.wrap, IntKind.signed, IntKind.bits]; omega
  rw [this]
  simp only [toB, List.map_cons, List.map_nil]
  congr 2
theorem decimal_F : ∀ (k n : Nat), n < 10 ^ (k + 1) → n ≤ 9223372036854775807 → k ≤ 100 → spec_Decimal_F (k + 1) (n : Int) = some (Lib.decDigits n)
  | k, n, h, h1, hk => by
    rw [spec_Decimal_F, Lib.decDigits]
    have hr : rem .i64 (n : Int) 10 = some ((n % 10 : Nat) : Int) := by
      unfold rem
      rw [if_neg (by decide)]
      congr 1
    by_cases hn : n < 10
    · rw [if_pos (by simpa using (by omega : (n : Int) < 10)), dif_pos hn, hr, Option.bind_some, dig_eq (by omega), Nat.mod_eq_of_lt hn]
    · rw [if_neg (by simpa using (by omega : ¬ (n : Int) < 10)), dif_neg hn]
      have hq : quo .i64 (n : Int) 10 = some ((n / 10 : Nat) : Int) := by
        unfold quo
        rw [if_neg (by decide)]
        congr 1
        have : ((n : Int).tdiv 10) = ((n / 10 : Nat) : Int) := rfl
        rw [this, w64 (by omega)]
      rw [hq, Option.bind_some]
      cases k with
      | zero => omega
      | succ k =>
        have hlt : n / 10 < 10 ^ (k + 1) := by rw [Nat.pow_succ] at h; omega
        rw [decimal_F k (n / 10) hlt (by omega) (by omega), Option.bind_some, hr, Option.bind_some, dig_eq (by omega)]
        have hl := decDigits_le k (n / 10) hlt
        rw [sadd_some (by simp only [List.length_singleton]; omega), Option.bind_some]
theorem dec_s {n : Int} (h0 : 0 ≤ n) (h1 : n ≤ 9223372036854775807) : spec_Decimal n = some (tx n) := by
  obtain ⟨m, rfl⟩ : ∃ m : Nat, n = m := ⟨n.toNat, by omega⟩
  unfold spec_Decimal tx
  exact decimal_F 63 m (Nat.lt_of_le_of_lt (by omega : m ≤ 9223372036854775807) (by decide)) (by omega) (by omega)
theorem dec_i {n : Int} (h0 : 0 ≤ n) (h1 : n ≤ 9223372036854775807) : impl_decimal n = some (tx n) := by
  obtain ⟨m, rfl⟩ : ∃ m : Nat, n = m := ⟨n.toNat, by omega⟩
  unfold impl_decimal strconv_FormatInt fmtI tx
  rw [if_pos ⟨rfl, by omega, h1⟩, Lib.itoa_nonneg]
  rfl
theorem tx_len {n : Int} (h0 : 0 ≤ n) (h1 : n ≤ 9223372036854775807) : (tx n).length ≤ 19 := by
  unfold tx
  exact decDigits_le 18 _ (by omega)
theorem tx_pos (n : Int) : 0 < (tx n).length := by
  unfold tx
  rw [Lib.decDigits]
  split <;> simp
end Go.Proofs.YtjlalepbhcekoaaDoor
/- Halves written out. -/
namespace Go.Proofs.YtjlalepbhcekoaaDoor
open Go Go.Ab
def letters : List UInt8 := [100, 115, 108, 118, 99, 109]
noncomputable def notT (n : Notch) : List UInt8 := (letters.drop n.Kind.toNat).take 1 ++ tx n.At
def graT (g : Ar 16 Int) : List UInt8 := g.l.map fun x => UInt8.ofNat (100 + x).toNat
noncomputable def halfT (h : Half) : List UInt8 := Lib.join ((if h.Stock = true then [115, 116, 111, 99, 107] else [102, 111, 105, 108]) :: graT h.Grain :: h.Notches.map notT) [32]
theorem wrap_gra {x : Int} (h : inB x (-3) 3 = true) : IntKind.u8.wrap (IntKind.i8.wrap (100 + x)) = 100 + x ∧ IntKind.u8.wrap (IntKind.i64.wrap (100 + IntKind.i64.wrap x)) = 100 + x := by
  obtain ⟨h0, h1⟩ := inB_iff.1 h
  have w : IntKind.i64.wrap x = x := w64 (by omega)
  rw [w, w64 (by omega)]
  constructor
  · simp [IntKind.wrap, IntKind.signed, IntKind.bits]; omega
  · simp [IntKind.wrap, IntKind.signed, IntKind.bits]; omega
theorem let_slc {k : Int} (h : inB k 0 5 = true) : slc ([100, 115, 108, 118, 99, 109] : List UInt8) k (IntKind.i8.wrap (k + 1)) = some ((letters.drop k.toNat).take 1) ∧ ((letters.drop k.toNat).take 1).length = 1 := by
  obtain ⟨h0, h1⟩ := inB_iff.1 h
  have w : IntKind.i8.wrap (k + 1) = k + 1 := by simp [IntKind.wrap, IntKind.signed, IntKind.bits]; omega
  rw [w]
  unfold slc
  rw [if_pos ⟨h0, by omega, by simp only [List.length_cons, List.length_nil]; omega⟩]
  constructor
  · rw [show (k + 1).toNat - k.toNat = 1 by omega]; rfl
  · simp [letters, List.length_take, List.length_drop]; omega
theorem notT_len {n : Notch} (h : inB n.Kind 0 5 = true) (h0 : 0 ≤ n.At) (h1 : n.At ≤ 32767) : (notT n).length ≤ 20 := by
  unfold notT
  rw [List.length_append, (let_slc h).2]
  have := tx_len h0 (by omega)
  omega
theorem tms {α β : Type} (f : α → β) (xs : List α) {i : Nat} (h : i < xs.length) : (xs.take (i + 1)).map f = (xs.take i).map f ++ [f xs[i]] := by
  rw [List.take_add_one, List.getElem?_eq_getElem h]
  simp only [List.map_append, Option.toList_some, List.map_cons, List.map_nil]
theorem gra_i (h : Half) (hg : grainB h.Grain = true) (tb : Int × List Int → Option ((Int × List Int) ⊕ List Int)) (ht : tb = impl_halfText_b1 h ∨ tb = impl_halfText_b3 h) : ∃ y, Lw tb (0, []) = some y ∧ toB y = graT h.Grain := by
  have hl := h.Grain.h
  have hgx : ∀ x ∈ h.Grain.l, inB x (-3) 3 = true := by simpa [grainB, List.all_eq_true] using hg
  have step : ∀ (i : Nat) (hi : i < 16), tb ((i : Int), (h.Grain.l.take i).map fun x => 100 + x) = some (.inl (((i + 1 : Nat) : Int), (h.Grain.l.take (i + 1)).map fun x => 100 + x)) := by
    intro i hi
    have hlt : i < h.Grain.l.length := by omega
    have hx := hgx _ (List.getElem_mem hlt)
    have w := w64s hi (by omega)
    have ap : app 1 ((h.Grain.l.take i).map fun x => 100 + x) [100 + h.Grain.l[i]] = some ((h.Grain.l.take (i + 1)).map fun x => 100 + x) := by
      rw [app_some (by simp; omega) (by decide), tms _ _ hlt]
    have hlt' : (i : Int) < 16 := by omega
    have hr := rdA_coe h.Grain i hi
    rcases ht with rfl | rfl <;> simp only [impl_halfText_b1, impl_halfText_b3, hr, Option.bind_some, (wrap_gra hx).1, ap, w] <;> simp [hlt']
  refine ⟨(h.Grain.l.take 16).map fun x => 100 + x, ?_, ?_⟩
  · exact Lw_run (tb := tb) (fun i => ((i : Int), (h.Grain.l.take i).map fun x => 100 + x)) 16 (fun i hi => step i hi) (by rcases ht with rfl | rfl <;> simp [impl_halfText_b1, impl_halfText_b3])
  · rw [List.take_of_length_le (by omega)]
    simp [toB, graT]
theorem not_i (h : Half) (pre : List (List UInt8)) (hp : pre.length = 2) (hn : h.Notches.length ≤ 60) (hk : ∀ n ∈ h.Notches, inB n.Kind 0 5 = true ∧ 0 ≤ n.At ∧ n.At ≤ 32767) (tb : Int × List (List UInt8) → Option ((Int × List (List UInt8)) ⊕ List (List UInt8))) (ht : tb = impl_halfText_b2 h ∨ tb = impl_halfText_b4 h) :
    Lw tb (0, pre) = some (pre ++ h.Notches.map notT) := by
  have step : ∀ (i : Nat) (hi : i < h.Notches.length), tb ((i : Int), pre ++ (h.Notches.take i).map notT) = some (.inl (((i + 1 : Nat) : Int), pre ++ (h.Notches.take (i + 1)).map notT)) := by
    intro i hi
    obtain ⟨k1, k2, k3⟩ := hk _ (List.getElem_mem hi)
    have w := w64s hi (by omega)
    have wa : IntKind.i64.wrap h.Notches[i].At = h.Notches[i].At := w64 (by omega)
    have hr : rd h.Notches (i : Int) = some h.Notches[i] := by rw [rd_coe, List.getElem?_eq_getElem hi]
    have hd := dec_i k2 (by omega)
    have hs : sadd ((letters.drop h.Notches[i].Kind.toNat).take 1) (tx h.Notches[i].At) = some (notT h.Notches[i]) := sadd_some (by rw [(let_slc k1).2]; have := tx_len k2 (by omega); omega)
    have ap : app 16 (pre ++ (h.Notches.take i).map notT) [notT h.Notches[i]] = some (pre ++ (h.Notches.take (i + 1)).map notT) := by
      rw [app_some (by simp; omega) (by decide), tms _ _ hi, List.append_assoc]
    rcases ht with rfl | rfl <;> simp only [impl_halfText_b2, impl_halfText_b4, hr, Option.bind_some, (let_slc k1).1, wa, hd, hs, ap, w] <;> simp [hi]
  have key := Lw_run (tb := tb) (fun i => ((i : Int), pre ++ (h.Notches.take i).map notT)) h.Notches.length (r := pre ++ h.Notches.map notT) (fun i hi => step i hi) (by rcases ht with rfl | rfl <;> simp [impl_halfText_b2, impl_halfText_b4])
  simpa using key
theorem joinTail_len (k : Nat) : ∀ r : List (List UInt8), (∀ s ∈ r, s.length ≤ k) → (Lib.joinTail [32] r).length ≤ r.length * (k + 1)
  | [], _ => by simp [Lib.joinTail]
  | y :: q, hy => by
    have h1 := joinTail_len k q (fun s hs => hy s (by simp [hs]))
    have h2 := hy y (by simp)
    simp only [Lib.joinTail, List.map_cons, List.flatten_cons, List.length_append, List.length_cons, List.length_nil] at h1 ⊢
    rw [Nat.add_mul]
    omega
theorem halfT_len (h : Half) (hf : HfI h) (ha : ∀ n ∈ h.Notches, n.At ≤ 32767) : (halfT h).length ≤ 1400 := by
  unfold halfT
  rw [Lib.join_cons]
  have hl := h.Grain.h
  have := joinTail_len 20 (graT h.Grain :: h.Notches.map notT) (fun s hs => by
    rcases List.mem_cons.1 hs with rfl | hs
    · simp [graT]; omega
    · obtain ⟨n, hn, rfl⟩ := List.mem_map.1 hs
      exact notT_len (hf.2.2 n hn).1 (hf.2.2 n hn).2 (ha n hn))
  have h60 := hf.1
  simp only [List.length_cons, List.length_map] at this
  have hs : (if h.Stock = true then ([115, 116, 111, 99, 107] : List UInt8) else [102, 111, 105, 108]).length ≤ 5 := by split <;> simp
  rw [List.length_append]
  omega
theorem half_i (h : Half) (hf : HfI h) (ha : ∀ n ∈ h.Notches, n.At ≤ 32767) : impl_halfText h = some (halfT h) := by
  have hk : ∀ n ∈ h.Notches, inB n.Kind 0 5 = true ∧ 0 ≤ n.At ∧ n.At ≤ 32767 := fun n hn => ⟨(hf.2.2 n hn).1, (hf.2.2 n hn).2, ha n hn⟩
  have hlen := halfT_len h hf ha
  have h60 := hf.1
  obtain ⟨y1, e1, e2⟩ := gra_i h hf.2.1 _ (.inl rfl)
  obtain ⟨y3, e3, e4⟩ := gra_i h hf.2.1 _ (.inr rfl)
  unfold impl_halfText
  unfold halfT at hlen ⊢
  cases hs : h.Stock with
  | true =>
    rw [hs, if_pos rfl] at hlen
    rw [if_pos rfl, e1, Option.bind_some, not_i h _ rfl hf.1 hk _ (.inl rfl), Option.bind_some, e2]
    unfold strings_Join joinI
    rw [if_pos ⟨by simp only [List.cons_append, List.nil_append]; omega, by simp; omega⟩]
    rfl
  | false =>
    rw [hs, if_neg (by simp)] at hlen
    rw [if_neg (by simp), e3, Option.bind_some, not_i h _ rfl hf.1 hk _ (.inr rfl), Option.bind_some, e4]
    unfold strings_Join joinI
    rw [if_pos ⟨by simp only [List.cons_append, List.nil_append]; omega, by simp; omega⟩]
    rfl
theorem gra_s (h : Half) (hg : grainB h.Grain = true) (pre : List UInt8) (hp : pre.length ≤ 10) (tb : List UInt8 × Int → Option ((List UInt8 × Int) ⊕ List UInt8)) (ht : tb = spec_l01Text_b1 h ∨ tb = spec_l01Text_b3 h) : Lw tb (pre, 0) = some (pre ++ graT h.Grain) := by
  have hl := h.Grain.h
  have hgx : ∀ x ∈ h.Grain.l, inB x (-3) 3 = true := by simpa [grainB, List.all_eq_true] using hg
  have step : ∀ (i : Nat) (hi : i < 16), tb (pre ++ (h.Grain.l.take i).map (fun x => UInt8.ofNat (100 + x).toNat), (i : Int)) = some (.inl (pre ++ (h.Grain.l.take (i + 1)).map (fun x => UInt8.ofNat (100 + x).toNat), ((i + 1 : Nat) : Int))) := by
    intro i hi
    have hlt : i < h.Grain.l.length := by omega
    have hx := hgx _ (List.getElem_mem hlt)
    have w := w64s hi (by omega)
    have ap : sadd (pre ++ (h.Grain.l.take i).map (fun x => UInt8.ofNat (100 + x).toNat)) (toB [100 + h.Grain.l[i]]) = some (pre ++ (h.Grain.l.take (i + 1)).map (fun x => UInt8.ofNat (100 + x).toNat)) := by
      rw [sadd_some (by simp [toB]; omega), tms _ _ hlt, List.append_assoc]
      rfl
    have hlt' : (i : Int) < 16 := by omega
    have hr := rdA_coe h.Grain i hi
    rcases ht with rfl | rfl <;> simp only [spec_l01Text_b1, spec_l01Text_b3, hr, Option.bind_some, (wrap_gra hx).2, ap, w] <;> simp [hlt']
  have key := Lw_run (tb := tb) (fun i => (pre ++ (h.Grain.l.take i).map (fun x => UInt8.ofNat (100 + x).toNat), (i : Int))) 16 (r := pre ++ graT h.Grain) (fun i hi => step i hi) (by
    have e : (h.Grain.l.take 16).map (fun x => UInt8.ofNat (100 + x).toNat) = graT h.Grain := by rw [List.take_of_length_le (by omega)]; rfl
    rcases ht with rfl | rfl <;> simp [spec_l01Text_b1, spec_l01Text_b3, e])
  simpa using key
theorem not_s (h : Half) (pre : List UInt8) (hp : pre.length ≤ 30) (hn : h.Notches.length ≤ 60) (hk : ∀ n ∈ h.Notches, inB n.Kind 0 5 = true ∧ 0 ≤ n.At ∧ n.At ≤ 32767) (tb : List UInt8 × Int → Option ((List UInt8 × Int) ⊕ List UInt8)) (ht : tb = spec_l01Text_b2 h ∨ tb = spec_l01Text_b4 h) :
    Lw tb (pre, 0) = some (pre ++ Lib.joinTail [32] (h.Notches.map notT)) := by
  have step : ∀ (i : Nat) (hi : i < h.Notches.length), tb (pre ++ Lib.joinTail [32] ((h.Notches.take i).map notT), (i : Int)) = some (.inl (pre ++ Lib.joinTail [32] ((h.Notches.take (i + 1)).map notT), ((i + 1 : Nat) : Int))) := by
    intro i hi
    obtain ⟨k1, k2, k3⟩ := hk _ (List.getElem_mem hi)
    have w := w64s hi (by omega)
    have wa : IntKind.i64.wrap h.Notches[i].At = h.Notches[i].At := w64 (by omega)
    have hr : rd h.Notches (i : Int) = some h.Notches[i] := by rw [rd_coe, List.getElem?_eq_getElem hi]
    have hd := dec_s k2 (by omega)
    have hl1 := (let_slc k1).2
    have htx := tx_len k2 (by omega : h.Notches[i].At ≤ 9223372036854775807)
    have s1 : sadd [32] ((letters.drop h.Notches[i].Kind.toNat).take 1) = some ([32] ++ (letters.drop h.Notches[i].Kind.toNat).take 1) := sadd_some (by rw [hl1]; simp)
    have s2 : sadd ([32] ++ (letters.drop h.Notches[i].Kind.toNat).take 1) (tx h.Notches[i].At) = some ([32] ++ notT h.Notches[i]) := by
      rw [sadd_some (by rw [List.length_append, hl1]; simp; omega), List.append_assoc]; rfl
    have hjl := joinTail_len 20 ((h.Notches.take i).map notT) (fun s hs => by
      obtain ⟨n, hn', rfl⟩ := List.mem_map.1 hs
      have hm := List.mem_of_mem_take hn'
      exact notT_len (hk n hm).1 (hk n hm).2.1 (hk n hm).2.2)
    have hnl := notT_len k1 k2 k3
    rw [List.length_map, List.length_take] at hjl
    have s3 : sadd (pre ++ Lib.joinTail [32] ((h.Notches.take i).map notT)) ([32] ++ notT h.Notches[i]) = some (pre ++ Lib.joinTail [32] ((h.Notches.take (i + 1)).map notT)) := by
      have h60 : min i h.Notches.length * (20 + 1) ≤ 60 * (20 + 1) := Nat.mul_le_mul_right _ (by omega)
      rw [sadd_some (by simp only [List.length_append, List.length_singleton]; omega), tms _ _ hi]
      simp only [Lib.joinTail, List.map_append, List.map_cons, List.map_nil, List.flatten_append, List.flatten_cons, List.flatten_nil, List.append_nil, List.append_assoc]
    rcases ht with rfl | rfl <;> simp only [spec_l01Text_b2, spec_l01Text_b4, spec_l01Letters, hr, Option.bind_some, (let_slc k1).1, wa, hd, s1, s2, s3, w] <;> simp [hi]
  have key := Lw_run (tb := tb) (fun i => (pre ++ Lib.joinTail [32] ((h.Notches.take i).map notT), (i : Int))) h.Notches.length (r := pre ++ Lib.joinTail [32] (h.Notches.map notT)) (fun i hi => step i hi) (by rcases ht with rfl | rfl <;> simp [spec_l01Text_b2, spec_l01Text_b4])
  simpa [Lib.joinTail] using key
theorem half_s (h : Half) (hf : HfI h) (ha : ∀ n ∈ h.Notches, n.At ≤ 32767) : spec_l01Text h = some (halfT h) := by
  have hk : ∀ n ∈ h.Notches, inB n.Kind 0 5 = true ∧ 0 ≤ n.At ∧ n.At ≤ 32767 := fun n hn => ⟨(hf.2.2 n hn).1, (hf.2.2 n hn).2, ha n hn⟩
  have hl := h.Grain.h
  have hgl : (graT h.Grain).length = 16 := by simp [graT, hl]
  unfold spec_l01Text halfT
  rw [Lib.join_cons]
  cases hs : h.Stock with
  | true =>
    rw [if_pos rfl, if_pos rfl, gra_s h hf.2.1 _ (by simp) _ (.inl rfl), Option.bind_some, not_s h _ (by rw [List.length_append, hgl]; simp) hf.1 hk _ (.inl rfl)]
    simp [Lib.joinTail]
  | false =>
    rw [if_neg (by simp), if_neg (by simp), gra_s h hf.2.1 _ (by simp) _ (.inr rfl), Option.bind_some, not_s h _ (by rw [List.length_append, hgl]; simp) hf.1 hk _ (.inr rfl)]
    simp [Lib.joinTail]
end Go.Proofs.YtjlalepbhcekoaaDoor
/- Seals. -/
namespace Go.Proofs.YtjlalepbhcekoaaDoor
open Go Go.Ab
/-- a byte put into a seal -/
def hs (a : Int) (b : UInt8) : Int := IntKind.u32.wrap ((ixor .u32 a (IntKind.u32.wrap (b.toNat : Int))) * 16777619)
theorem fold_gen (w : List UInt8) (hn : w.length ≤ 4611686018427387904) (tb : Int × Int → Option ((Int × Int) ⊕ Int)) (hb : ∀ (a : Int) (i : Nat) (hi : i < w.length), tb (a, (i : Int)) = some (.inl (hs a w[i], IntKind.i64.wrap ((i : Int) + 1)))) (he : ∀ a, tb (a, (w.length : Int)) = some (.inr a)) (a : Int) : Lw tb (a, 0) = some (w.foldl hs a) := by
  have key := Lw_run (tb := tb) (fun i => ((w.take i).foldl hs a, (i : Int))) w.length (r := w.foldl hs a)
    (by
      intro i hi
      have e : (w.take (i + 1)).foldl hs a = hs ((w.take i).foldl hs a) w[i] := by
        rw [List.take_add_one, List.getElem?_eq_getElem hi, List.foldl_append]
        rfl
      rw [hb _ i hi, w64s hi hn, e])
    (by rw [he, List.take_length])
  simpa using key
theorem fold_i (w : List UInt8) (hn : w.length ≤ 4611686018427387904) (a : Int) : Lw (impl_seal_b1 w) (a, 0) = some (w.foldl hs a) := fold_gen w hn _ (fun a i hi => by
  have hr : rd w (i : Int) = some w[i] := by rw [rd_coe, List.getElem?_eq_getElem hi]
  simp only [impl_seal_b1, hr, Option.bind_some]
  simp [hi, hs]) (fun a => by simp [impl_seal_b1]) a
theorem fold_s (w : List UInt8) (hn : w.length ≤ 4611686018427387904) (a : Int) : Lw (spec_l06Text_b1 w) (a, 0) = some (w.foldl hs a) := fold_gen w hn _ (fun a i hi => by
  have hr : rd w (i : Int) = some w[i] := by rw [rd_coe, List.getElem?_eq_getElem hi]
  simp only [spec_l06Text_b1, hr, Option.bind_some]
  simp [hi, hs]) (fun a => by simp [spec_l06Text_b1]) a
theorem text_s (a : Int) (w : List UInt8) (hn : w.length ≤ 4611686018427387904) : spec_l06Text a w = some (w.foldl hs a) := by
  unfold spec_l06Text
  rw [fold_s w hn]
  rfl
/-- a byte of a number -/
def byt (n : Int) (k : Nat) : UInt8 := UInt8.ofNat (n / 2 ^ k % 256).toNat
def four (n : Int) : List UInt8 := [byt n 24, byt n 16, byt n 8, byt n 0]
theorem shr_u32 {n : Int} (k : Nat) (hk : k ≤ 24) : shr .u32 n (k : Int) = some (n / 2 ^ k) := by
  unfold shr
  rw [if_neg (by omega)]
  have : min ((k : Int).toNat) IntKind.u32.bits = k := by simp [IntKind.bits]; omega
  rw [this, Int.fdiv_eq_ediv_of_nonneg _ (Int.le_of_lt (Int.pow_pos (by omega)))]
theorem u8_wrap (x : Int) : IntKind.u8.wrap x = x % 256 := by simp [IntKind.wrap, IntKind.signed, IntKind.bits]
theorem four_i {n : Int} (h0 : 0 ≤ n) (h1 : n ≤ 4294967295) : impl_four n = some (four n) := by
  unfold impl_four
  have s1 : shr .u32 n 24 = some (n / 2 ^ 24) := shr_u32 24 (by omega)
  have s2 : shr .u32 n 16 = some (n / 2 ^ 16) := shr_u32 16 (by omega)
  have s3 : shr .u32 n 8 = some (n / 2 ^ 8) := shr_u32 8 (by omega)
  rw [s1, s2, s3]
  simp only [Option.bind_some, u8_wrap, toB, four, byt, List.map_cons, List.map_nil]
  simp
theorem iand255 {x : Int} (h0 : 0 ≤ x) (h1 : x ≤ 4294967295) : iand .u32 x 255 = x % 256 := by
  obtain ⟨m, rfl⟩ : ∃ m : Nat, x = m := ⟨x.toNat, by omega⟩
  unfold iand
  have e1 : (BitVec.ofInt IntKind.u32.bits (m : Int)).toNat = m := by simp [IntKind.bits, BitVec.toNat_ofInt]; omega
  have e2 : (BitVec.ofInt IntKind.u32.bits (255 : Int)).toNat = 255 := by decide
  have e3 : m &&& 255 = m % 256 := Nat.and_two_pow_sub_one_eq_mod m 8
  rw [BitVec.toNat_and, e1, e2, e3]
  simp [IntKind.wrap, IntKind.signed, IntKind.bits]
  omega
theorem hs_byt (a : Int) {n : Int} (k : Nat) (h0 : 0 ≤ n) (h1 : n ≤ 4294967295) : IntKind.u32.wrap ((ixor .u32 a (iand .u32 (n / 2 ^ k) 255)) * 16777619) = hs a (byt n k) := by
  have hp : (0 : Int) < 2 ^ k := Int.pow_pos (by omega)
  have d0 : 0 ≤ n / 2 ^ k := Int.ediv_nonneg h0 (by omega)
  have d1 : n / 2 ^ k ≤ n := Int.ediv_le_self _ h0
  rw [iand255 d0 (by omega)]
  unfold hs byt
  have hm : 0 ≤ n / 2 ^ k % 256 ∧ n / 2 ^ k % 256 < 256 := by omega
  have hb : ((UInt8.ofNat (n / 2 ^ k % 256).toNat).toNat : Int) = n / 2 ^ k % 256 := by
    rw [UInt8.toNat_ofNat']
    omega
  rw [hb]
  have hw : IntKind.u32.wrap (n / 2 ^ k % 256) = n / 2 ^ k % 256 := by simp [IntKind.wrap, IntKind.signed, IntKind.bits]; omega
  rw [hw]
theorem num_s (a : Int) {n : Int} (h0 : 0 ≤ n) (h1 : n ≤ 4294967295) : spec_l06Number a n = some ((four n).foldl hs a) := by
  have step : ∀ (k : Nat) (a : Int), k ≤ 24 → spec_l06Number_b1 n (a, (k : Int)) = some (.inl (hs a (byt n k), (k : Int) - 8)) := by
    intro k a hk
    have w1 : IntKind.u64.wrap (k : Int) = k := by simp [IntKind.wrap, IntKind.signed, IntKind.bits]; omega
    have w2 : IntKind.i64.wrap ((k : Int) - 8) = (k : Int) - 8 := w64 (by omega)
    simp only [spec_l06Number_b1, w1, w2, shr_u32 k hk, Option.bind_some, hs_byt a k h0 h1]
    rw [if_pos (by simp)]
  have e1 := step 24 a (by omega)
  have e2 := step 16 (hs a (byt n 24)) (by omega)
  have e3 := step 8 (hs (hs a (byt n 24)) (byt n 16)) (by omega)
  have e4 := step 0 (hs (hs (hs a (byt n 24)) (byt n 16)) (byt n 8)) (by omega)
  have e5 : spec_l06Number_b1 n ((four n).foldl hs a, -8) = some (.inr ((four n).foldl hs a)) := by simp [spec_l06Number_b1]
  unfold spec_l06Number
  have : Lw (spec_l06Number_b1 n) (a, 24) = some ((four n).foldl hs a) := (Lw_step e1).trans ((Lw_step e2).trans ((Lw_step e3).trans ((Lw_step e4).trans (Lw_stop e5))))
  rw [this]
  rfl
noncomputable def sealT (h : Half) (before : Int) (holder : List UInt8) (secret : Int) : Int := (halfT h ++ four before ++ holder ++ four secret).foldl hs 2166136261
theorem seal_i (h : Half) (before : Int) (holder : List UInt8) (secret : Int) (hf : HfI h) (ha : ∀ n ∈ h.Notches, n.At ≤ 32767) (b0 : 0 ≤ before ∧ before ≤ 4294967295) (s0 : 0 ≤ secret ∧ secret ≤ 4294967295) (hl : holder.length ≤ 140737488351232) :
    impl_seal h before holder secret = some (sealT h before holder secret) := by
  have hlen := halfT_len h hf ha
  have f1 : (four before).length = 4 := rfl
  have f2 : (four secret).length = 4 := rfl
  unfold impl_seal
  rw [half_i h hf ha, Option.bind_some, four_i b0.1 b0.2, Option.bind_some, sadd_some (by omega), Option.bind_some, sadd_some (by simp only [List.length_append]; omega), Option.bind_some, four_i s0.1 s0.2, Option.bind_some, sadd_some (by simp only [List.length_append]; omega), Option.bind_some, fold_i _ (by simp only [List.length_append]; omega)]
  rfl
theorem seal_s (h : Half) (before : Int) (holder : List UInt8) (secret : Int) (hf : HfI h) (ha : ∀ n ∈ h.Notches, n.At ≤ 32767) (b0 : 0 ≤ before ∧ before ≤ 4294967295) (s0 : 0 ≤ secret ∧ secret ≤ 4294967295) (hl : holder.length ≤ 140737488351232) :
    spec_l06Seal h before holder secret = some (sealT h before holder secret) := by
  have hlen := halfT_len h hf ha
  unfold spec_l06Seal
  rw [half_s h hf ha, Option.bind_some, text_s _ _ (by omega), Option.bind_some, num_s _ b0.1 b0.2, Option.bind_some, text_s _ _ (by omega), Option.bind_some, num_s _ s0.1 s0.2]
  simp only [Option.bind_some, sealT, List.foldl_append]
theorem seal_same (h : Half) (before : Int) (holder : List UInt8) (secret : Int) (hf : HfI h) (ha : ∀ n ∈ h.Notches, n.At ≤ 32767) (b0 : 0 ≤ before ∧ before ≤ 4294967295) (s0 : 0 ≤ secret ∧ secret ≤ 4294967295) (hl : holder.length ≤ 140737488351232) :
    impl_seal h before holder secret = some (sealT h before holder secret) ∧ spec_l06Seal h before holder secret = some (sealT h before holder secret) :=
  ⟨seal_i h before holder secret hf ha b0 s0 hl, seal_s h before holder secret hf ha b0 s0 hl⟩
theorem hs_in (a : Int) (b : UInt8) : 0 ≤ hs a b ∧ hs a b ≤ 4294967295 := by
  unfold hs
  rw [IntKind.wrap_u32]; omega
theorem sealT_in (h : Half) (before : Int) (holder : List UInt8) (secret : Int) : 0 ≤ sealT h before holder secret ∧ sealT h before holder secret ≤ 4294967295 := by
  unfold sealT four
  simp only [List.foldl_append, List.foldl_cons, List.foldl_nil]
  exact hs_in _ _
end Go.Proofs.YtjlalepbhcekoaaDoor
/- Chains of six parties whose seals are right. -/
namespace Go.Proofs.YtjlalepbhcekoaaDoor
open Go Go.Ab
def names6 : List (List UInt8) := [[107, 105, 110, 103], [97, 110, 110], [98, 111, 98], [99, 105, 100], [100, 97, 110], [101, 118, 101]]
def ppl : List Party := [⟨[107, 105, 110, 103], 77⟩, ⟨[97, 110, 110], 1000080⟩, ⟨[98, 111, 98], 2000083⟩, ⟨[99, 105, 100], 3000086⟩, ⟨[100, 97, 110], 4000089⟩, ⟨[101, 118, 101], 5000092⟩]
def nmI (k : Nat) : List UInt8 := (ppl.getD k ⟨[], 0⟩).Name
def scI (k : Nat) : Int := (ppl.getD k ⟨[], 0⟩).Secret
theorem six {k : Nat} (h : k < 6) : k = 0 ∨ k = 1 ∨ k = 2 ∨ k = 3 ∨ k = 4 ∨ k = 5 := by omega
theorem nmI_name {k : Nat} (h : k < 6) : nameB (nmI k) = true := by
  rcases six h with rfl | rfl | rfl | rfl | rfl | rfl <;> decide
theorem nmI_len {k : Nat} (h : k < 6) : 1 ≤ (nmI k).length ∧ (nmI k).length ≤ 4 := by
  rcases six h with rfl | rfl | rfl | rfl | rfl | rfl <;> decide
theorem nmI_inj {j k : Nat} (hj : j < 6) (hk : k < 6) (h : nmI j = nmI k) : j = k := by
  rcases six hj with rfl | rfl | rfl | rfl | rfl | rfl <;> rcases six hk with rfl | rfl | rfl | rfl | rfl | rfl <;> first | rfl | exact absurd h (by decide)
theorem scI_in {k : Nat} (h : k < 6) : 0 ≤ scI k ∧ scI k ≤ 4294967295 := by
  rcases six h with rfl | rfl | rfl | rfl | rfl | rfl <;> decide
theorem ppl_rd {k : Nat} (h : k < 6) : rd ppl (k : Int) = some ⟨nmI k, scI k⟩ := by
  rcases six h with rfl | rfl | rfl | rfl | rfl | rfl <;> rfl
theorem ppl_len : ppl.length = 6 := rfl
theorem people_eq : spec_l06People = some ppl := by
  have st : ∀ i : Nat, i < 6 → spec_l06People_b1 names6 ((i : Int), ppl.take i) = some (.inl (((i + 1 : Nat) : Int), ppl.take (i + 1))) := by
    intro i hi
    rcases six hi with rfl | rfl | rfl | rfl | rfl | rfl <;> rfl
  have key := Lw_run (tb := spec_l06People_b1 names6) (fun i => ((i : Int), ppl.take i)) 6 (r := ppl) st rfl
  have key : Lw (spec_l06People_b1 names6) (0, []) = some ppl := key
  have w : spec_l06Who = some names6 := rfl
  unfold spec_l06People
  rw [w, Option.bind_some, key]
  rfl
/-- marks that have been made one after another: the last holder, the last seal -/
inductive GoodM (h : Half) (j0 : Nat) : List Mark → Nat → Int → Prop
  | nil : GoodM h j0 [] j0 0
  | snoc {ms : List Mark} {j : Nat} {b : Int} (r : GoodM h j0 ms j b) (k : Nat) (hk : k < 6) (ne : k ≠ j) : GoodM h j0 (ms ++ [⟨nmI k, sealT h b (nmI k) (scI j)⟩]) k (sealT h b (nmI k) (scI j))
theorem GoodM.lt {h : Half} {j0 : Nat} {ms : List Mark} {j : Nat} {b : Int} (r : GoodM h j0 ms j b) (h0 : j0 < 6) : j < 6 ∧ 0 ≤ b ∧ b ≤ 4294967295 := by
  induction r with
  | nil => exact ⟨h0, by omega, by omega⟩
  | snoc r k hk ne ih => exact ⟨hk, sealT_in _ _ _ _⟩
theorem GoodM.mem {h : Half} {j0 : Nat} {ms : List Mark} {j : Nat} {b : Int} (r : GoodM h j0 ms j b) : ∀ m ∈ ms, (∃ k, k < 6 ∧ m.Holder = nmI k) ∧ 0 ≤ m.Seal ∧ m.Seal ≤ 4294967295 := by
  induction r with
  | nil => intro m hm; cases hm
  | snoc r k hk ne ih =>
    intro m hm
    rcases List.mem_append.1 hm with hm | hm
    · exact ih m hm
    · rw [List.mem_singleton.1 hm]
      exact ⟨⟨k, hk, rfl⟩, sealT_in _ _ _ _⟩
/-- the last mark tells the holder and the seal -/
theorem GoodM.last {h : Half} {j0 : Nat} {ms : List Mark} {j : Nat} {b : Int} (r : GoodM h j0 ms j b) : ms = [] ∧ j = j0 ∧ b = 0 ∨ ms.getLast? = some ⟨nmI j, b⟩ := by
  cases r with
  | nil => exact .inl ⟨rfl, rfl, rfl⟩
  | snoc r k hk ne => exact .inr (by simp)
/-- fewer marks are right, too -/
theorem GoodM.take {h : Half} {j0 : Nat} {ms : List Mark} {j : Nat} {b : Int} (r : GoodM h j0 ms j b) : ∀ n, ∃ j' b', GoodM h j0 (ms.take n) j' b' := by
  induction r with
  | nil => intro n; exact ⟨j0, 0, by simpa using GoodM.nil⟩
  | @snoc ms j b r k hk ne ih =>
    intro n
    by_cases hn : n ≤ ms.length
    · rw [List.take_append_of_le_length hn]; exact ih n
    · rw [List.take_of_length_le (by simp; omega)]
      exact ⟨_, _, .snoc r k hk ne⟩
/-- a half that is valid, as told by the formula -/
structure OkH (h : Half) : Prop where
  st : h.Stock = true
  nt : ntB h.Notches = true
  gr : grainB h.Grain = true
theorem OkH.hf {h : Half} (o : OkH h) : HfI h := ntB_hf o.nt o.gr
theorem OkH.at' {h : Half} (o : OkH h) : ∀ n ∈ h.Notches, n.At ≤ 32767 := fun n hn => (ntB_R o.nt n hn).2.2
/-- a chain that is right -/
def GoodC (c : Chain) (j0 j : Nat) (b : Int) : Prop := c.Debtor = nmI j0 ∧ j0 < 6 ∧ OkH c.Stock ∧ GoodM c.Stock j0 c.Marks j b
theorem GoodC.ok {c : Chain} {j0 j : Nat} {b : Int} (g : GoodC c j0 j b) (hl : c.Marks.length ≤ 1000) : c.ok := by
  obtain ⟨h1, h2, h3, h4⟩ := g
  have hn := ntB_len h3.nt
  have hR := ntB_R h3.nt
  have g16 := c.Stock.Grain.h
  refine ⟨?_, ⟨trivial, ⟨by omega, by omega, fun n hm => ?_⟩, fun x hx => ?_⟩, ⟨by omega, by omega, fun m hm => ?_⟩⟩
  · have := nmI_len h2
    show c.Debtor.length ≤ 140737488351232
    rw [h1]; omega
  · have := hR n hm
    exact ⟨inR8.2 this.1, inR16.2 this.2⟩
  · have := inB_iff.1 (List.all_eq_true.1 h3.gr x hx)
    exact inR8.2 (by omega)
  · obtain ⟨⟨k, hk, e⟩, s0, s1⟩ := h4.mem m hm
    have := nmI_len hk
    refine ⟨?_, inRu32.2 ⟨s0, s1⟩⟩
    show m.Holder.length ≤ 140737488351232
    rw [e]; omega
theorem l06Name_nm {k : Nat} (h : k < 6) : spec_l06Name (nmI k) = some true := by
  have := nmI_len h
  rw [l06Name_eq _ (by omega), nmI_name h]
theorem isName_nm {k : Nat} (h : k < 6) : impl_isName (nmI k) = some true := by
  have := nmI_len h
  rw [isName_eq _ (by omega), nmI_name h]
theorem okLoop_s {h : Half} {j0 : Nat} {ms : List Mark} {j : Nat} {b : Int} (r : GoodM h j0 ms j b) (h0 : j0 < 6) (d : List UInt8) (hs : Half) : ∀ rest : List Mark, ms.length + rest.length ≤ 1000 →
    Lw (spec_l06Ok_b1 ⟨d, hs, ms ++ rest⟩) (nmI j0, 0) = Lw (spec_l06Ok_b1 ⟨d, hs, ms ++ rest⟩) (nmI j, (ms.length : Int)) := by
  induction r with
  | nil => intro rest _; rfl
  | @snoc ms j b r k hk ne ih =>
    intro rest hl
    simp only [List.length_append, List.length_singleton] at hl
    have e : ms ++ [(⟨nmI k, sealT h b (nmI k) (scI j)⟩ : Mark)] ++ rest = ms ++ ⟨nmI k, sealT h b (nmI k) (scI j)⟩ :: rest := by simp
    rw [e, ih (⟨nmI k, sealT h b (nmI k) (scI j)⟩ :: rest) (by simp only [List.length_cons]; omega)]
    have hr : rd (ms ++ (⟨nmI k, sealT h b (nmI k) (scI j)⟩ : Mark) :: rest) (ms.length : Int) = some ⟨nmI k, sealT h b (nmI k) (scI j)⟩ := by rw [rd_coe]; simp
    have hlt : (ms.length : Int) < ((ms ++ (⟨nmI k, sealT h b (nmI k) (scI j)⟩ : Mark) :: rest).length : Int) := by simp; omega
    have w : IntKind.i64.wrap ((ms.length : Int) + 1) = (ms.length : Int) + 1 := w64 (by omega)
    have hne : (nmI k == nmI j) = false := by
      rw [beq_eq_false_iff_ne]
      exact fun e => ne (nmI_inj hk (r.lt h0).1 e)
    refine (Lw_step (s' := (nmI k, (ms.length : Int) + 1)) ?_).trans ?_
    · simp only [spec_l06Ok_b1, hr, Option.bind_some, l06Name_nm hk, w, hne]
      rw [if_pos (by simpa using hlt)]
      simp
    · simp
theorem goodOk_s {c : Chain} {j0 j : Nat} {b : Int} (g : GoodC c j0 j b) (h1 : 1 ≤ c.Marks.length) (h2 : c.Marks.length ≤ 30) : spec_l06Ok c = some true := by
  obtain ⟨d, s, ms⟩ := c
  obtain ⟨g1, g2, g3, g4⟩ := g
  simp only at g1 g3 g4 h1 h2
  subst g1
  have v := l01Ok_val s (ntB_R g3.nt)
  rw [g3.nt, g3.gr] at v
  have i1 : inB (ms.length : Int) 1 30 = true := inB_iff.2 ⟨by omega, by omega⟩
  have key := okLoop_s g4 g2 (nmI j0) s [] (by simp; omega)
  rw [List.append_nil] at key
  have he : Lw (spec_l06Ok_b1 ⟨nmI j0, s, ms⟩) (nmI j, (ms.length : Int)) = some (.inr ()) := Lw_stop (by simp [spec_l06Ok_b1])
  unfold spec_l06Ok
  rw [l06Name_nm g2, v, l00In_eq]
  simp only [Option.bind_some, g3.st, i1, key, he]
  simp
theorem okLoop_i {h : Half} {j0 : Nat} {ms : List Mark} {j : Nat} {b : Int} (r : GoodM h j0 ms j b) (h0 : j0 < 6) (d : List UInt8) (hs : Half) : ∀ rest : List Mark, ms.length + rest.length ≤ 1000 →
    Lw (impl_ValidChain_b1 ⟨d, hs, ms ++ rest⟩) (nmI j0, 0) = Lw (impl_ValidChain_b1 ⟨d, hs, ms ++ rest⟩) (nmI j, (ms.length : Int)) := by
  induction r with
  | nil => intro rest _; rfl
  | @snoc ms j b r k hk ne ih =>
    intro rest hl
    simp only [List.length_append, List.length_singleton] at hl
    have e : ms ++ [(⟨nmI k, sealT h b (nmI k) (scI j)⟩ : Mark)] ++ rest = ms ++ ⟨nmI k, sealT h b (nmI k) (scI j)⟩ :: rest := by simp
    rw [e, ih (⟨nmI k, sealT h b (nmI k) (scI j)⟩ :: rest) (by simp only [List.length_cons]; omega)]
    have hr : rd (ms ++ (⟨nmI k, sealT h b (nmI k) (scI j)⟩ : Mark) :: rest) (ms.length : Int) = some ⟨nmI k, sealT h b (nmI k) (scI j)⟩ := by rw [rd_coe]; simp
    have hlt : (ms.length : Int) < ((ms ++ (⟨nmI k, sealT h b (nmI k) (scI j)⟩ : Mark) :: rest).length : Int) := by simp; omega
    have w : IntKind.i64.wrap ((ms.length : Int) + 1) = (ms.length : Int) + 1 := w64 (by omega)
    have hne : (nmI k == nmI j) = false := by
      rw [beq_eq_false_iff_ne]
      exact fun e => ne (nmI_inj hk (r.lt h0).1 e)
    refine (Lw_step (s' := (nmI k, (ms.length : Int) + 1)) ?_).trans ?_
    · simp only [impl_ValidChain_b1, hr, Option.bind_some, isName_nm hk, w, hne]
      rw [if_pos (by simpa using hlt)]
      simp
    · simp
theorem goodOk_i {c : Chain} {j0 j : Nat} {b : Int} (g : GoodC c j0 j b) (h1 : 1 ≤ c.Marks.length) (h2 : c.Marks.length ≤ 30) : impl_ValidChain c = some true := by
  obtain ⟨d, s, ms⟩ := c
  obtain ⟨g1, g2, g3, g4⟩ := g
  simp only at g1 g3 g4 h1 h2
  subst g1
  have v := validHalf_val s (ntB_R g3.nt)
  rw [g3.nt, g3.gr] at v
  have c1 : ¬ (ms.length : Int) < 1 := by omega
  have c2 : ¬ (ms.length : Int) > 30 := by omega
  have key := okLoop_i g4 g2 (nmI j0) s [] (by simp; omega)
  rw [List.append_nil] at key
  have he : Lw (impl_ValidChain_b1 ⟨nmI j0, s, ms⟩) (nmI j, (ms.length : Int)) = some (.inr ()) := Lw_stop (by simp [impl_ValidChain_b1])
  unfold impl_ValidChain
  rw [isName_nm g2, v]
  simp only [Option.bind_some, g3.st, c1, c2, key, he]
  simp
theorem GoodC.ne {c : Chain} {j0 j : Nat} {b : Int} (g : GoodC c j0 j b) (h : 1 ≤ c.Marks.length) : c.Marks.getLast? = some ⟨nmI j, b⟩ := by
  rcases g.2.2.2.last with ⟨e, _⟩ | e
  · rw [e] at h; simp at h
  · exact e
theorem rd_getLast {τ : Type} {xs : List τ} {x : τ} (h : xs.getLast? = some x) (hl : xs.length ≤ 4611686018427387904) : rd xs (IntKind.i64.wrap ((xs.length : Int) - 1)) = some x := by
  have h0 : xs.length ≠ 0 := fun e => by rw [List.length_eq_zero_iff.1 e] at h; cases h
  rw [w64 (by omega), show ((xs.length : Int) - 1) = ((xs.length - 1 : Nat) : Int) by omega, rd_coe, ← List.getLast?_eq_getElem?]
  exact h
theorem last_i {c : Chain} {j0 j : Nat} {b : Int} (g : GoodC c j0 j b) (h : 1 ≤ c.Marks.length) (h2 : c.Marks.length ≤ 30) : impl_last c = some (nmI j, b) := by
  unfold impl_last
  rw [rd_getLast (g.ne h) (by omega)]; rfl
theorem last_s {c : Chain} {j0 j : Nat} {b : Int} (g : GoodC c j0 j b) (h : 1 ≤ c.Marks.length) (h2 : c.Marks.length ≤ 30) : spec_l06Last c = some (nmI j, b) := by
  unfold spec_l06Last
  rw [rd_getLast (g.ne h) (by omega)]; rfl
/-- a chain that is begun -/
theorem startGood_s (h : Half) (o : OkH h) (j k : Nat) (hj : j < 6) (hk : k < 6) (ne : k ≠ j) :
    ∃ s, spec_StartChain h ⟨nmI j, scI j⟩ (nmI k) = some (nmI j, true, h.Notches, h.Grain, [⟨nmI k, s⟩], 0) ∧ GoodC ⟨nmI j, ⟨true, h.Notches, h.Grain⟩, [⟨nmI k, s⟩]⟩ j k s := by
  have hl := nmI_len hk
  have v := l01Ok_val h (ntB_R o.nt)
  rw [o.nt, o.gr] at v
  have sl := seal_s h 0 (nmI k) (scI j) o.hf o.at' (by omega) (scI_in hj) (by omega)
  have hc := copy_n h.Notches (by have := ntB_len o.nt; omega)
  have hne : (nmI j == nmI k) = false := by
    rw [beq_eq_false_iff_ne]; exact fun e => ne (nmI_inj hj hk e).symm
  have eh : (⟨true, h.Notches, h.Grain⟩ : Half) = h := half_eq.2 ⟨o.st.symm, rfl, rfl⟩
  refine ⟨sealT h 0 (nmI k) (scI j), ?_, rfl, hj, by rw [eh]; exact o, ?_⟩
  · unfold spec_StartChain
    rw [v]
    simp only [Option.bind_some, o.st, l06Name_nm hj, l06Name_nm hk, hne, sl, spec_l04Copy, hc]
    simp
  · rw [eh]
    exact GoodM.snoc (ms := []) GoodM.nil k hk ne
/-- a chain that is passed on -/
theorem passGood_s (c : Chain) {j0 j : Nat} {b : Int} (g : GoodC c j0 j b) (h1 : 1 ≤ c.Marks.length) (h2 : c.Marks.length < 30) (k : Nat) (hk : k < 6) (ne : k ≠ j) :
    ∃ s, spec_PassOn c ⟨nmI j, scI j⟩ (nmI k) = some (c.Debtor, true, c.Stock.Notches, c.Stock.Grain, c.Marks ++ [⟨nmI k, s⟩], 0) ∧ GoodC ⟨c.Debtor, ⟨true, c.Stock.Notches, c.Stock.Grain⟩, c.Marks ++ [⟨nmI k, s⟩]⟩ j0 k s := by
  have hl := nmI_len hk
  have o := g.2.2.1
  have v := goodOk_s g h1 (by omega)
  have ls := last_s g h1 (by omega)
  have hlt := g.2.2.2.lt g.2.1
  have sl := seal_s c.Stock b (nmI k) (scI j) o.hf o.at' hlt.2 (scI_in hlt.1) (by omega)
  have hc := copy_n c.Stock.Notches (by have := ntB_len o.nt; omega)
  have hne : (nmI k == nmI j) = false := by
    rw [beq_eq_false_iff_ne]; exact fun e => ne (nmI_inj hk hlt.1 e)
  have c30 : ¬ (c.Marks.length : Int) ≥ 30 := by omega
  have a1 : app 24 ([] : List Mark) c.Marks = some c.Marks := by rw [app_some (by simp only [List.length_nil]; omega) (by decide)]; simp
  have a2 : app 24 c.Marks [(⟨nmI k, sealT c.Stock b (nmI k) (scI j)⟩ : Mark)] = some (c.Marks ++ [⟨nmI k, sealT c.Stock b (nmI k) (scI j)⟩]) := app_some (by simp only [List.length_singleton]; omega) (by decide)
  have a0 : app1 24 c.Marks = some c.Marks := by unfold app1; rw [if_pos (by omega), a1]
  have eh : (⟨true, c.Stock.Notches, c.Stock.Grain⟩ : Half) = c.Stock := half_eq.2 ⟨o.st.symm, rfl, rfl⟩
  refine ⟨sealT c.Stock b (nmI k) (scI j), ?_, g.1, g.2.1, by rw [eh]; exact o, ?_⟩
  · unfold spec_PassOn
    rw [v]
    simp only [Option.bind_some, ls, l06Name_nm hk, hne, sl, spec_l04Copy, hc, c30, a0, a1, a2, o.st]
    simp
  · rw [eh]
    exact GoodM.snoc g.2.2.2 k hk ne
theorem startGood_i (h : Half) (o : OkH h) (j k : Nat) (hj : j < 6) (hk : k < 6) (ne : k ≠ j) :
    impl_seal h 0 (nmI k) (scI j) = some (sealT h 0 (nmI k) (scI j)) ∧ impl_ValidHalf h = some true ∧ slices_Clone_Notch h.Notches = some h.Notches := by
  have hl := nmI_len hk
  have v := validHalf_val h (ntB_R o.nt)
  rw [o.nt, o.gr] at v
  exact ⟨seal_i h 0 (nmI k) (scI j) o.hf o.at' (by omega) (scI_in hj) (by omega), v, clone_n h.Notches (by have := ntB_len o.nt; omega)⟩
end Go.Proofs.YtjlalepbhcekoaaDoor
/- Numbers drawn from bytes. -/
namespace Go.Proofs.YtjlalepbhcekoaaDoor
open Go Go.Ab
/-- bytes -/
def Bys (c : List Int) : Prop := c.length ≤ 4611686018427387904 ∧ ∀ x ∈ c, 0 ≤ x ∧ x ≤ 255
theorem iand255_in (n : Int) : 0 ≤ IntKind.i64.wrap (iand .u64 n 255) ∧ IntKind.i64.wrap (iand .u64 n 255) ≤ 255 := by
  have h1 : (BitVec.ofInt IntKind.u64.bits n &&& BitVec.ofInt IntKind.u64.bits 255).toNat ≤ 255 := by
    rw [BitVec.toNat_and]
    exact Nat.le_trans Nat.and_le_right (by decide)
  have h2 : iand .u64 n 255 = ((BitVec.ofInt IntKind.u64.bits n &&& BitVec.ofInt IntKind.u64.bits 255).toNat : Int) := by
    unfold iand
    exact IntWalk.u64_in _ ⟨by omega, by omega⟩
  rw [h2, w64 (by omega)]
  omega
theorem shr40 (n : Int) : ∃ m, shr .u64 n 40 = some m := by
  unfold shr
  rw [if_neg (by decide)]
  exact ⟨_, rfl⟩
theorem next_ok (c : List Int) (hc : Bys c) (a s : Int) (h0 : 0 ≤ a) (h1 : a ≤ 4611686018427387904) : ∃ x s', spec_l00Src_next_p c a s = some (x, c, a + 1, s') ∧ 0 ≤ x ∧ x ≤ 255 := by
  have w : IntKind.i64.wrap (a + 1) = a + 1 := w64 (by omega)
  unfold spec_l00Src_next_p
  by_cases c1 : a < c.length
  · have hr := rd_in (xs := c) h0 c1
    have hx := hc.2 _ (List.getElem_mem (show a.toNat < c.length by omega))
    have wx : IntKind.i64.wrap c[a.toNat] = c[a.toNat] := w64 (by omega)
    by_cases c2 : a + 1 ≤ c.length
    · exact ⟨c[a.toNat], _, by simp only [c1, decide_true, if_true, hr, Option.bind_some, w, c2, wx]; rfl, hx⟩
    · omega
  · by_cases c2 : a + 1 ≤ c.length
    · exact ⟨0, _, by simp only [c1, decide_false, Bool.false_eq_true, if_false, w, c2, decide_true, if_true]; rfl, by omega, by omega⟩
    · obtain ⟨m, hm⟩ := shr40 (IntKind.u64.wrap ((IntKind.u64.wrap ((IntKind.u64.wrap (s * 6364136223846793005)) + 0)) + 1442695040888963407))
      exact ⟨_, _, by simp only [c1, decide_false, Bool.false_eq_true, if_false, w, c2, hm, Option.bind_some]; rfl, iand255_in m⟩
/-- a number drawn: from 0 to n - 1, and the source goes on by two bytes at most -/
theorem pick_ok (c : List Int) (hc : Bys c) (a s n : Int) (h0 : 0 ≤ a) (h1 : a ≤ 1000000000000) (hn : n ≤ 9223372036854775807) :
    ∃ x a' s', spec_l00Src_pick_p c a s n = some (x, c, a', s') ∧ 0 ≤ x ∧ (1 ≤ n → x < n) ∧ x ≤ 65535 ∧ a ≤ a' ∧ a' ≤ a + 2 ∧ (n ≤ 200 → x ≤ 255) := by
  unfold spec_l00Src_pick_p
  by_cases c1 : n ≤ 1
  · exact ⟨0, a, s, by simp [c1], by omega, by omega, by omega, by omega, by omega, by omega⟩
  · obtain ⟨x, s1, e1, g1, g2⟩ := next_ok c hc a s h0 (by omega)
    have n0 : ¬ n = 0 := by omega
    by_cases c2 : n > 200
    · obtain ⟨y, s2, e2, k1, k2⟩ := next_ok c hc (a + 1) s1 (by omega) (by omega)
      have w1 : IntKind.i64.wrap (x * 256) = x * 256 := w64 (by omega)
      have w2 : IntKind.i64.wrap (x * 256 + y) = x * 256 + y := w64 (by omega)
      have hr : rem .i64 (x * 256 + y) n = some ((x * 256 + y).tmod n) := by unfold rem; rw [if_neg n0]
      have hm : (x * 256 + y).tmod n = (x * 256 + y) % n := Int.tmod_eq_emod_of_nonneg (by omega)
      have m1 := Int.emod_nonneg (x * 256 + y) n0
      have m2 := Int.emod_lt_of_pos (x * 256 + y) (show 0 < n by omega)
      have m3 : (x * 256 + y) % n ≤ x * 256 + y := by
        have := Int.emod_add_mul_ediv (x * 256 + y) n
        have h3 : 0 ≤ n * ((x * 256 + y) / n) := Int.mul_nonneg (by omega) (Int.ediv_nonneg (by omega) (by omega))
        omega
      exact ⟨_, a + 1 + 1, s2, by simp only [c1, decide_false, Bool.false_eq_true, if_false, e1, Option.bind_some, c2, decide_true, if_true, e2, w1, w2, hr, hm], m1, fun _ => m2, by omega, by omega, by omega, by omega⟩
    · have hr : rem .i64 x n = some (x.tmod n) := by unfold rem; rw [if_neg n0]
      have hm : x.tmod n = x % n := Int.tmod_eq_emod_of_nonneg g1
      have m1 := Int.emod_nonneg x n0
      have m2 := Int.emod_lt_of_pos x (show 0 < n by omega)
      have m3 : x % n ≤ x := by
        have := Int.emod_add_mul_ediv x n
        have h3 : 0 ≤ n * (x / n) := Int.mul_nonneg (by omega) (Int.ediv_nonneg g1 (by omega))
        omega
      exact ⟨_, a + 1, s1, by simp only [c1, decide_false, Bool.false_eq_true, if_false, e1, Option.bind_some, c2, hr, hm], m1, fun _ => m2, by omega, by omega, by omega, by omega⟩
theorem one_ok (c : List Int) (hc : Bys c) (a s n : Int) (h0 : 0 ≤ a) (h1 : a ≤ 1000000000000) (hn : n ≤ 9223372036854775807) :
    ∃ x a' s', spec_l00Src_one_p c a s n = some (x, c, a', s') ∧ a ≤ a' ∧ a' ≤ a + 2 := by
  obtain ⟨x, a', s', e, _, _, _, h2, h3, _⟩ := pick_ok c hc a s n h0 h1 hn
  exact ⟨x == 0, a', s', by unfold spec_l00Src_one_p; rw [e]; rfl, h2, h3⟩
theorem from_eq (c : List Int) : spec_l00From c = some ⟨c, 0, 0⟩ := rfl
theorem bys_of {c : List Int} (h : (okLs 1 (InR .u8)) c) : Bys c := by
  refine ⟨by have := h.2.1; omega, fun x hx => ?_⟩
  have := h.2.2 x hx
  simpa [InR, Lit.wf, IntKind.min, IntKind.max, IntKind.signed, IntKind.bits] using this
end Go.Proofs.YtjlalepbhcekoaaDoor
/- Chains that are drawn. -/
namespace Go.Proofs.YtjlalepbhcekoaaDoor
open Go Go.Ab
theorem remI {x n : Int} (h : 0 ≤ x) (hn : 0 < n) : rem .i64 x n = some (x % n) := by
  unfold rem; rw [if_neg (by omega), Int.tmod_eq_emod_of_nonneg h]
theorem small_ok (c : List Int) (hc : Bys c) (a s : Int) (h0 : 0 ≤ a) (h1 : a ≤ 1000000000) :
    ∃ (st : Bool) (g : Ar 16 Int) (a' s' : Int) (ns : List Notch), spec_l04Small_p c a s = some (st, g, c, a', s', ns) ∧ ntB ns = true ∧ grainB g = true ∧ a ≤ a' ∧ a' ≤ a + 40 := by
  obtain ⟨st, a1, s1, e1, g1, g2⟩ := one_ok c hc a s 2 h0 (by omega) (by omega)
  obtain ⟨x, a2, s2, e2, x1, x2, x3, g3, g4, _⟩ := pick_ok c hc a1 s1 1073741824 (by omega) (by omega) (by omega)
  obtain ⟨g, s0, e0, hg⟩ := grainFrom_s (IntKind.u32.wrap x)
  obtain ⟨y, a3, s3, e3, y1, y2, y3, g5, g6, _⟩ := pick_ok c hc a2 s2 3 (by omega) (by omega) (by omega)
  have y2 := y2 (by omega)
  obtain ⟨z, a4, s4, e4, z1, z2, z3, g7, g8, _⟩ := pick_ok c hc a3 s3 5 (by omega) (by omega) (by omega)
  have z2 := z2 (by omega)
  obtain ⟨k, a5, s5, e5, k1, k2, k3, g9, g10, _⟩ := pick_ok c hc a4 s4 6 (by omega) (by omega) (by omega)
  have k2 := k2 (by omega)
  have w8 : IntKind.i8.wrap z = z := IntWalk.i8_in _ (by omega)
  have L : ∃ r, Lw spec_l04Small_p_b1 (y, z, k, st, g, ([] : List Notch), c, a5, s5) = some r ∧ ∃ ns a6 s6, r = (st, g, ns, c, a6, s6) ∧ ntB ns = true ∧ a5 ≤ a6 ∧ a6 ≤ a5 + 20 := by
    refine Lw_meas (tb := spec_l04Small_p_b1) (fun s => s.2.2.1.toNat) (fun s => s.2.2.2.1 = st ∧ s.2.2.2.2.1 = g ∧ s.2.2.2.2.2.2.1 = c ∧ 0 ≤ s.2.2.1 ∧ s.2.2.1 + s.2.2.2.2.2.1.length ≤ 5 ∧ ntB s.2.2.2.2.2.1 = true ∧ 0 ≤ s.2.1 ∧ s.2.1 ≤ 4 ∧ 0 ≤ s.1 ∧ s.1 ≤ 2 + 15 * (s.2.2.2.2.2.1.length : Int) ∧ (∀ p, s.2.2.2.2.2.1.getLast? = some p → s.2.1 ≤ p.Kind ∧ endI p < s.1) ∧ a5 ≤ s.2.2.2.2.2.2.2.1 ∧ s.2.2.2.2.2.2.2.1 ≤ a5 + 4 * (s.2.2.2.2.2.1.length : Int)) _ ?_ _ _ rfl
      ⟨rfl, rfl, rfl, k1, by simp; omega, ntB_nil, z1, by simp only; omega, y1, by simp; omega, fun p h => by simp at h, by simp, by simp⟩
    rintro ⟨at_, kd, k, st', g', xs, c', a, s⟩ ⟨rfl, rfl, rfl, hk, hl, hn, d0, d1, t0, t1, hp, ha, ha2⟩
    simp only at hk hl hn d0 d1 t0 t1 hp ha ha2
    by_cases hk0 : k > 0
    · have hb : inB kd 0 5 = true := inB_iff.2 ⟨by omega, by omega⟩
      have wd := wid_in kd
      have wd9 : widI kd ≤ 9 := by
        have : kd = 0 ∨ kd = 1 ∨ kd = 2 ∨ kd = 3 ∨ kd = 4 := by omega
        rcases this with rfl | rfl | rfl | rfl | rfl <;> decide
      obtain ⟨u, a6, s6, e6, u1, u2, u3, g11, g12, _⟩ := pick_ok c' hc a s 6 (by omega) (by omega) (by omega)
      have u2 := u2 (by omega)
      have w16 : IntKind.i16.wrap at_ = at_ := i16a t0 (by omega)
      have ap : app 4 xs [Notch.mk kd (IntKind.i16.wrap at_)] = some (xs ++ [⟨kd, at_⟩]) := by rw [w16]; exact app_some (by simp; omega) (by decide)
      have hw : spec_l01Widths = some [1, 2, 4, 6, 9, 12] := rfl
      have w1 : IntKind.i64.wrap (widI kd + 1) = widI kd + 1 := w64 (by omega)
      have w2 : IntKind.i64.wrap (widI kd + 1 + u) = widI kd + 1 + u := w64 (by omega)
      have w3 : IntKind.i64.wrap (at_ + (widI kd + 1 + u)) = at_ + (widI kd + 1 + u) := w64 (by omega)
      have w4 : IntKind.i64.wrap (k - 1) = k - 1 := w64 (by omega)
      have hn' : ntB (xs ++ [⟨kd, at_⟩]) = true := by
        refine ntB_snoc hn (by omega) ?_ (fun p h => ?_)
        · unfold okA endI
          simp only [hb, Bool.true_and, Bool.and_eq_true, decide_eq_true_eq]
          omega
        · have := hp p h
          unfold okP
          simp only [Bool.and_eq_true, decide_eq_true_eq]
          exact this
      by_cases hd : kd > 0
      · obtain ⟨v, a7, s7, e7, g13, g14⟩ := one_ok c' hc a6 s6 2 (by omega) (by omega) (by omega)
        cases v with
        | true =>
          have w5 : IntKind.i8.wrap (kd - 1) = kd - 1 := IntWalk.i8_in _ (by omega)
          refine .inl ⟨(at_ + (widI kd + 1 + u), kd - 1, k - 1, st', g', xs ++ [⟨kd, at_⟩], c', a7, s7), ?_, ⟨rfl, rfl, rfl, by simp only; omega, by simp; omega, hn', by simp only; omega, by simp only; omega, by simp only; omega, by simp; omega, fun p h => ?_, by simp only; omega, by simp; omega⟩, by simp only; omega⟩
          · simp only [spec_l04Small_p_b1, ap, hw, Option.bind_some, wid_rd hb, e6, e7, w1, w2, w3, w4, w5]
            rw [if_pos (by simpa using hk0), if_pos (by simpa using hd)]
            rfl
          · have : p = ⟨kd, at_⟩ := by simpa using h.symm
            subst this
            unfold endI
            simp only
            omega
        | false =>
          refine .inl ⟨(at_ + (widI kd + 1 + u), kd, k - 1, st', g', xs ++ [⟨kd, at_⟩], c', a7, s7), ?_, ⟨rfl, rfl, rfl, by simp only; omega, by simp; omega, hn', by simp only; omega, by simp only; omega, by simp only; omega, by simp; omega, fun p h => ?_, by simp only; omega, by simp; omega⟩, by simp only; omega⟩
          · simp only [spec_l04Small_p_b1, ap, hw, Option.bind_some, wid_rd hb, e6, e7, w1, w2, w3, w4]
            rw [if_pos (by simpa using hk0), if_pos (by simpa using hd)]
            rfl
          · have : p = ⟨kd, at_⟩ := by simpa using h.symm
            subst this
            unfold endI
            simp only
            omega
      · refine .inl ⟨(at_ + (widI kd + 1 + u), kd, k - 1, st', g', xs ++ [⟨kd, at_⟩], c', a6, s6), ?_, ⟨rfl, rfl, rfl, by simp only; omega, by simp; omega, hn', by simp only; omega, by simp only; omega, by simp only; omega, by simp; omega, fun p h => ?_, by simp only; omega, by simp; omega⟩, by simp only; omega⟩
        · simp only [spec_l04Small_p_b1, ap, hw, Option.bind_some, wid_rd hb, e6, w1, w2, w3, w4]
          rw [if_pos (by simpa using hk0), if_neg (by simpa using hd)]
        · have : p = ⟨kd, at_⟩ := by simpa using h.symm
          subst this
          unfold endI
          simp only
          omega
    · exact .inr ⟨_, by simp only [spec_l04Small_p_b1, hk0, decide_false, Bool.false_eq_true, if_false], xs, a, s, rfl, hn, ha, by omega⟩
  obtain ⟨_, l1, ns, a6, s6, rfl, hn, q1, q2⟩ := L
  refine ⟨st, g, a6, s6, ns, ?_, hn, hg, by omega, by omega⟩
  unfold spec_l04Small_p
  simp only [e1, e2, e0, e3, e4, e5, Option.bind_some, w8, l1]
/-- a chain that is drawn is right -/
theorem chainDrawn_ok (c : List Int) (hc : Bys c) (s : Int) : ∃ (ch : Chain) (j0 j : Nat) (b a' s' : Int), spec_l06Drawn_p c 0 s = some (ch.Debtor, ch.Stock.Stock, ch.Stock.Notches, ch.Stock.Grain, ch.Marks, c, a', s') ∧ GoodC ch j0 j b ∧ 1 ≤ ch.Marks.length ∧ ch.Marks.length ≤ 5 := by
  obtain ⟨st, g, a1, s1, ns, e1, hn, hg, g1, g2⟩ := small_ok c hc 0 s (by omega) (by omega)
  obtain ⟨x, a2, s2, e2, x1, x2, _, g3, g4, _⟩ := pick_ok c hc a1 s1 6 (by omega) (by omega) (by omega)
  have x2 := x2 (by omega)
  obtain ⟨y, a3, s3, e3, y1, y2, _, g5, g6, _⟩ := pick_ok c hc a2 s2 5 (by omega) (by omega) (by omega)
  have y2 := y2 (by omega)
  obtain ⟨p, rfl⟩ : ∃ p : Nat, x = p := ⟨x.toNat, by omega⟩
  have hp : p < 6 := by omega
  have w1 : IntKind.i64.wrap ((p : Int) + 1) = (p : Int) + 1 := w64 (by omega)
  have w2 : IntKind.i64.wrap ((p : Int) + 1 + y) = (p : Int) + 1 + y := w64 (by omega)
  have w5 : IntKind.i64.wrap ((6 : Int) - 1) = 5 := by decide
  have rm := remI (x := (p : Int) + 1 + y) (n := 6) (by omega) (by omega)
  obtain ⟨q, hq⟩ : ∃ q : Nat, ((p : Int) + 1 + y) % 6 = q := ⟨(((p : Int) + 1 + y) % 6).toNat, by omega⟩
  have hq6 : q < 6 := by omega
  have hqp : q ≠ p := by omega
  rw [hq] at rm
  have oh : OkH ⟨true, ns, g⟩ := ⟨rfl, hn, hg⟩
  obtain ⟨sl, e4, gd⟩ := startGood_s ⟨true, ns, g⟩ oh p q hp hq6 hqp
  obtain ⟨z, a4, s4, e5, z1, z2, _, g7, g8, _⟩ := pick_ok c hc a3 s3 5 (by omega) (by omega) (by omega)
  have z2 := z2 (by omega)
  have L : ∃ r, Lw (spec_l06Drawn_p_b1 ppl) ((q : Int), z, nmI p, true, ns, g, [(⟨nmI q, sl⟩ : Mark)], c, a4, s4) = some r ∧ ∃ (ch : Chain) (j0 j : Nat) (b a' s' : Int), r = (ch.Debtor, ch.Stock.Stock, ch.Stock.Notches, ch.Stock.Grain, ch.Marks, c, a', s') ∧ GoodC ch j0 j b ∧ 1 ≤ ch.Marks.length ∧ ch.Marks.length ≤ 5 := by
    refine Lw_meas (tb := spec_l06Drawn_p_b1 ppl) (fun s => s.2.1.toNat) (fun s => s.2.2.2.2.2.2.2.1 = c ∧ 0 ≤ s.2.1 ∧ 1 ≤ s.2.2.2.2.2.2.1.length ∧ s.2.1 + s.2.2.2.2.2.2.1.length ≤ 5 ∧ (∃ (j0 j : Nat) (b : Int), s.1 = (j : Int) ∧ GoodC ⟨s.2.2.1, ⟨s.2.2.2.1, s.2.2.2.2.1, s.2.2.2.2.2.1⟩, s.2.2.2.2.2.2.1⟩ j0 j b) ∧ 0 ≤ s.2.2.2.2.2.2.2.2.1 ∧ s.2.2.2.2.2.2.2.2.1 ≤ 1000 + 2 * (s.2.2.2.2.2.2.1.length : Int)) _ ?_ _ _ rfl
      ⟨rfl, z1, by simp, by simp; omega, ⟨p, q, sl, rfl, gd⟩, by simp only; omega, by simp; omega⟩
    rintro ⟨i, k, d, st, ns, g, ms, c', a, s⟩ ⟨rfl, hk, hm, hl, ⟨j0, j, b, hj, gd⟩, ha, ha2⟩
    simp only at hk hm hl hj gd ha ha2
    subst hj
    by_cases hk0 : k > 0
    · have hlt := gd.2.2.2.lt gd.2.1
      obtain ⟨u, a6, s6, e6, u1, u2, _, g11, g12, _⟩ := pick_ok c' hc a s 5 ha (by omega) (by omega)
      have u2 := u2 (by omega)
      have w1 : IntKind.i64.wrap ((j : Int) + 1) = (j : Int) + 1 := w64 (by omega)
      have w2 : IntKind.i64.wrap ((j : Int) + 1 + u) = (j : Int) + 1 + u := w64 (by omega)
      have w4 : IntKind.i64.wrap (k - 1) = k - 1 := w64 (by omega)
      have rm := remI (x := (j : Int) + 1 + u) (n := 6) (by omega) (by omega)
      obtain ⟨q, hq⟩ : ∃ q : Nat, ((j : Int) + 1 + u) % 6 = q := ⟨(((j : Int) + 1 + u) % 6).toNat, by omega⟩
      have hq6 : q < 6 := by omega
      have hqj : q ≠ j := by omega
      rw [hq] at rm
      obtain ⟨sl, e7, gd'⟩ := passGood_s _ gd hm (show ms.length < 30 by omega) q hq6 hqj
      simp only at e7 gd'
      have e8 : ((ppl.length : Nat) : Int) = 6 := rfl
      refine .inl ⟨((q : Int), k - 1, d, true, ns, g, ms ++ [⟨nmI q, sl⟩], c', a6, s6), ?_, ⟨rfl, by simp only; omega, by simp, by simp; omega, ⟨j0, q, sl, rfl, gd'⟩, by simp only; omega, by simp; omega⟩, by simp only; omega⟩
      simp only [spec_l06Drawn_p_b1, e8, w5, e6, Option.bind_some, w1, w2, rm, ppl_rd hlt.1, ppl_rd hq6, e7, w4]
      rw [if_pos (by simpa using hk0)]
    · exact .inr ⟨_, by simp only [spec_l06Drawn_p_b1, hk0, decide_false, Bool.false_eq_true, if_false], ⟨d, ⟨st, ns, g⟩, ms⟩, j0, j, b, a, s, rfl, gd, hm, show ms.length ≤ 5 by omega⟩
  obtain ⟨_, l1, ch, j0, j, b, a', s', rfl, hG, m1, m2⟩ := L
  have e8 : ((ppl.length : Nat) : Int) = 6 := rfl
  refine ⟨ch, j0, j, b, a', s', ?_, hG, m1, m2⟩
  unfold spec_l06Drawn_p
  rw [people_eq]
  simp only [Option.bind_some, e1, e8, e2, w5, e3, w1, w2, rm, ppl_rd hp, ppl_rd hq6, e4, e5, l1]
theorem p6Chain_ok (c : List Int) (hc : Bys c) : ∃ (ch : Chain) (j0 j : Nat) (b : Int), spec_P6Chain c = some (ch.Debtor, ch.Stock.Stock, ch.Stock.Notches, ch.Stock.Grain, ch.Marks) ∧ GoodC ch j0 j b ∧ 1 ≤ ch.Marks.length ∧ ch.Marks.length ≤ 5 := by
  obtain ⟨ch, j0, j, b, a', s', e, h⟩ := chainDrawn_ok c hc 0
  exact ⟨ch, j0, j, b, by unfold spec_P6Chain; rw [from_eq, Option.bind_some]; simp only; rw [e]; rfl, h⟩
theorem p6Pick_ok (c : List Int) (hc : Bys c) (n : Int) (hn : n ≤ 9223372036854775807) : ∃ x, spec_P6Pick c n = some x ∧ 0 ≤ x ∧ (1 ≤ n → x < n) ∧ x ≤ 65535 := by
  obtain ⟨x, a', s', e, h1, h2, h3, _⟩ := pick_ok c hc 0 0 n (by omega) (by omega) hn
  exact ⟨x, by unfold spec_P6Pick; rw [from_eq, Option.bind_some]; simp only; rw [e]; rfl, h1, h2, h3⟩
end Go.Proofs.YtjlalepbhcekoaaDoor
/- Chains of six parties that are right: what the program says of them. -/
namespace Go.Proofs.YtjlalepbhcekoaaDoor
open Go Go.Ab
theorem findI_nm {k : Nat} (h : k < 6) : findI ppl (nmI k) = (k : Int) := by
  rcases six h with rfl | rfl | rfl | rfl | rfl | rfl <;> decide
theorem ppl_ok : partiesB ppl = true := by decide
theorem ppl_names : ∀ p ∈ ppl, p.Name.length ≤ 4611686018427387904 := by decide
theorem parties_i : impl_ValidParties ppl = some true := by rw [implParties_eq ppl (by decide) ppl_names, ppl_ok]
theorem parties_s : spec_l06Parties ppl = some true := by rw [specParties_eq ppl (by decide) ppl_names, ppl_ok]
theorem find_i {k : Nat} (h : k < 6) : impl_find ppl (nmI k) = some (k : Int) := by rw [implFind_eq ppl _ (by decide), findI_nm h]
theorem find_s {k : Nat} (h : k < 6) : spec_l06Find ppl (nmI k) = some (k : Int) := by rw [specFind_eq ppl _ (by decide), findI_nm h]
theorem findParty_s {k : Nat} (h : k < 6) : spec_FindParty ppl (nmI k) = some ((k : Int), 0) := by
  unfold spec_FindParty
  have : ¬ (k : Int) < 0 := by omega
  simp [parties_s, find_s h, this]
theorem check_good_loop {h : Half} {j0 : Nat} {ms : List Mark} {j : Nat} {b : Int} (r : GoodM h j0 ms j b) (o : OkH h) (h0 : j0 < 6) (d : List UInt8) : ∀ rest : List Mark, ms.length + rest.length ≤ 1000 →
    Lw (impl_CheckChain_b1 ppl ⟨d, h, ms ++ rest⟩) (nmI j0, 0, 0) = Lw (impl_CheckChain_b1 ppl ⟨d, h, ms ++ rest⟩) (nmI j, b, (ms.length : Int)) := by
  induction r with
  | nil => intro rest _; rfl
  | @snoc ms j b r k hk ne ih =>
    intro rest hl
    simp only [List.length_append, List.length_singleton] at hl
    have e : ms ++ [(⟨nmI k, sealT h b (nmI k) (scI j)⟩ : Mark)] ++ rest = ms ++ ⟨nmI k, sealT h b (nmI k) (scI j)⟩ :: rest := by simp
    rw [e, ih (⟨nmI k, sealT h b (nmI k) (scI j)⟩ :: rest) (by simp only [List.length_cons]; omega)]
    have hr : rd (ms ++ (⟨nmI k, sealT h b (nmI k) (scI j)⟩ : Mark) :: rest) (ms.length : Int) = some ⟨nmI k, sealT h b (nmI k) (scI j)⟩ := by rw [rd_coe]; simp
    have hlt : (ms.length : Int) < ((ms ++ (⟨nmI k, sealT h b (nmI k) (scI j)⟩ : Mark) :: rest).length : Int) := by simp; omega
    have w : IntKind.i64.wrap ((ms.length : Int) + 1) = (ms.length : Int) + 1 := w64 (by omega)
    have gl := r.lt h0
    have hl := nmI_len hk
    have sl := seal_i h b (nmI k) (scI j) o.hf o.at' gl.2 (scI_in gl.1) (by omega)
    have hn : ¬ (j : Int) < 0 := by omega
    refine (Lw_step (s' := (nmI k, sealT h b (nmI k) (scI j), (ms.length : Int) + 1)) ?_).trans ?_
    · simp only [impl_CheckChain_b1, hr, Option.bind_some, find_i gl.1, ppl_rd gl.1, sl, w, hn]
      rw [if_pos (by simpa using hlt)]
      simp
    · simp
theorem check_good {c : Chain} {j0 j : Nat} {b : Int} (g : GoodC c j0 j b) (h1 : 1 ≤ c.Marks.length) (h2 : c.Marks.length ≤ 30) : impl_CheckChain ppl c = some (0, 6) := by
  have v := goodOk_i g h1 h2
  obtain ⟨d, s, ms⟩ := c
  obtain ⟨g1, g2, g3, g4⟩ := g
  simp only at g1 g3 g4 h1 h2
  subst g1
  have key := check_good_loop g4 g3 g2 (nmI j0) [] (by simp; omega)
  rw [List.append_nil] at key
  have he : Lw (impl_CheckChain_b1 ppl ⟨nmI j0, s, ms⟩) (nmI j, b, (ms.length : Int)) = some (.inr ()) := Lw_stop (by simp [impl_CheckChain_b1])
  unfold impl_CheckChain
  rw [parties_i, v]
  simp only [Option.bind_some, key, he]
  simp
theorem ownHalf_i (h : Half) (hn : h.Notches.length ≤ 60) : impl_ownHalf h = some (h.Stock, h.Notches, h.Grain) := by
  unfold impl_ownHalf
  rw [clone_n _ (by omega)]; rfl
/-- a chain that is begun -/
theorem startC_i (h : Half) (o : OkH h) (j k : Nat) (hj : j < 6) (hk : k < 6) (ne : k ≠ j) :
    ∃ s, impl_StartChain h ⟨nmI j, scI j⟩ (nmI k) = some (nmI j, true, h.Notches, h.Grain, [⟨nmI k, s⟩], 0) ∧ GoodC ⟨nmI j, ⟨true, h.Notches, h.Grain⟩, [⟨nmI k, s⟩]⟩ j k s := by
  have hl := nmI_len hk
  have v := validHalf_val h (ntB_R o.nt)
  rw [o.nt, o.gr] at v
  have sl := seal_i h 0 (nmI k) (scI j) o.hf o.at' (by omega) (scI_in hj) (by omega)
  have hc := ownHalf_i h (ntB_len o.nt)
  have hne : (nmI j == nmI k) = false := by
    rw [beq_eq_false_iff_ne]; exact fun e => ne (nmI_inj hj hk e).symm
  have eh : (⟨true, h.Notches, h.Grain⟩ : Half) = h := half_eq.2 ⟨o.st.symm, rfl, rfl⟩
  refine ⟨sealT h 0 (nmI k) (scI j), ?_, rfl, hj, by rw [eh]; exact o, ?_⟩
  · unfold impl_StartChain
    rw [v]
    simp only [Option.bind_some, o.st, isName_nm hj, isName_nm hk, hne, sl, hc]
    simp
  · rw [eh]
    exact GoodM.snoc (ms := []) GoodM.nil k hk ne
/-- a chain that is passed on -/
theorem passC_i (c : Chain) {j0 j : Nat} {b : Int} (g : GoodC c j0 j b) (h1 : 1 ≤ c.Marks.length) (h2 : c.Marks.length < 30) (k : Nat) (hk : k < 6) (ne : k ≠ j) :
    ∃ s, impl_PassOn c ⟨nmI j, scI j⟩ (nmI k) = some (c.Debtor, true, c.Stock.Notches, c.Stock.Grain, c.Marks ++ [⟨nmI k, s⟩], 0) ∧ GoodC ⟨c.Debtor, ⟨true, c.Stock.Notches, c.Stock.Grain⟩, c.Marks ++ [⟨nmI k, s⟩]⟩ j0 k s ∧ s = sealT c.Stock b (nmI k) (scI j) := by
  have hl := nmI_len hk
  have o := g.2.2.1
  have v := goodOk_i g h1 (by omega)
  have ls := last_i g h1 (by omega)
  have hlt := g.2.2.2.lt g.2.1
  have sl := seal_i c.Stock b (nmI k) (scI j) o.hf o.at' hlt.2 (scI_in hlt.1) (by omega)
  have hc := ownHalf_i c.Stock (ntB_len o.nt)
  have hne : (nmI k == nmI j) = false := by
    rw [beq_eq_false_iff_ne]; exact fun e => ne (nmI_inj hk hlt.1 e)
  have c30 : ((c.Marks.length : Int) == 30) = false := by rw [beq_eq_false_iff_ne]; omega
  have a1 : app 24 ([] : List Mark) c.Marks = some c.Marks := by rw [app_some (by simp only [List.length_nil]; omega) (by decide)]; simp
  have cl : slices_Clone_Mark c.Marks = some c.Marks := by unfold slices_Clone_Mark; rw [a1]; rfl
  have a2 : app 24 c.Marks [(⟨nmI k, sealT c.Stock b (nmI k) (scI j)⟩ : Mark)] = some (c.Marks ++ [⟨nmI k, sealT c.Stock b (nmI k) (scI j)⟩]) := app_some (by simp only [List.length_singleton]; omega) (by decide)
  have eh : (⟨true, c.Stock.Notches, c.Stock.Grain⟩ : Half) = c.Stock := half_eq.2 ⟨o.st.symm, rfl, rfl⟩
  refine ⟨sealT c.Stock b (nmI k) (scI j), ?_, ⟨g.1, g.2.1, by rw [eh]; exact o, ?_⟩, rfl⟩
  · unfold impl_PassOn
    rw [v]
    simp only [Option.bind_some, ls, isName_nm hk, hne, sl, hc, c30, cl, a2, o.st]
    simp
  · rw [eh]
    exact GoodM.snoc g.2.2.2 k hk ne
/-- how many marks are common -/
theorem common_run (x y : Chain) (k : Nat) (hx : k ≤ x.Marks.length) (hy : k ≤ y.Marks.length) (hl : x.Marks.length ≤ 1000) (he : ∀ i, i < k → x.Marks[i]? = y.Marks[i]?) (hend : k = x.Marks.length ∨ k = y.Marks.length ∨ ∃ m m', x.Marks[k]? = some m ∧ y.Marks[k]? = some m' ∧ m.Holder ≠ m'.Holder) : Lw (impl_common_b1 x y) 0 = some (k : Int) := by
  have key := Lw_run (tb := impl_common_b1 x y) (fun i => (i : Int)) k (r := (k : Int)) (fun i hi => by
    have h1 : i < x.Marks.length := by omega
    have h2 : i < y.Marks.length := by omega
    have e := he i hi
    rw [List.getElem?_eq_getElem h1, List.getElem?_eq_getElem h2] at e
    have e := Option.some.inj e
    have r1 : rd x.Marks (i : Int) = some x.Marks[i] := by rw [rd_coe, List.getElem?_eq_getElem h1]
    have r2 : rd y.Marks (i : Int) = some x.Marks[i] := by rw [rd_coe, List.getElem?_eq_getElem h2, e]
    simp only [impl_common_b1, r1, r2, Option.bind_some, w64s h1 (show x.Marks.length ≤ 4611686018427387904 by omega)]
    rw [if_pos (by simpa using h1), if_pos (by simpa using h2), if_pos (by simp)]) (by
    by_cases c1 : k < x.Marks.length
    · by_cases c2 : k < y.Marks.length
      · obtain ⟨m, m', e1, e2, hne⟩ := (hend.resolve_left (by omega)).resolve_left (by omega)
        have r1 : rd x.Marks (k : Int) = some m := by rw [rd_coe, e1]
        have r2 : rd y.Marks (k : Int) = some m' := by rw [rd_coe, e2]
        simp only [impl_common_b1, r1, r2, Option.bind_some]
        rw [if_pos (by simpa using c1), if_pos (by simpa using c2), if_neg (by simp [hne])]
      · simp [impl_common_b1, c1, c2]
    · simp [impl_common_b1, c1])
  exact key
theorem common_run_s (x y : Chain) (k : Nat) (hx : k ≤ x.Marks.length) (hy : k ≤ y.Marks.length) (hl : x.Marks.length ≤ 1000) (he : ∀ i, i < k → x.Marks[i]? = y.Marks[i]?) (hend : k = x.Marks.length ∨ k = y.Marks.length ∨ ∃ m m', x.Marks[k]? = some m ∧ y.Marks[k]? = some m' ∧ m.Holder ≠ m'.Holder) : Lw (spec_l06Common_b1 x y) 0 = some (k : Int) :=
  common_run x y k hx hy hl he hend
theorem GoodC.cut {c : Chain} {j0 j : Nat} {b : Int} (g : GoodC c j0 j b) (n : Nat) : ∃ j' b', GoodC ⟨c.Debtor, c.Stock, c.Marks.take n⟩ j0 j' b' := by
  obtain ⟨j', b', h⟩ := g.2.2.2.take n
  exact ⟨j', b', g.1, g.2.1, g.2.2.1, h⟩
theorem GoodC.hold {c : Chain} {j0 j : Nat} {b : Int} (g : GoodC c j0 j b) (n : Nat) (hn : n < c.Marks.length) : ∃ k, k < 6 ∧ c.Marks[n].Holder = nmI k := (g.2.2.2.mem _ (List.getElem_mem hn)).1
end Go.Proofs.YtjlalepbhcekoaaDoor

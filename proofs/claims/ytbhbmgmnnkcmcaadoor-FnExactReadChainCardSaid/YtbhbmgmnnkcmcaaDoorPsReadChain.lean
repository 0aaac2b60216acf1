/- Plain lemmas. -/
import Derived.Test.YtbhbmgmnnkcmcaaDoorOkReadChain
set_option linter.unusedVariables false
set_option linter.unusedSimpArgs false
/- Loops that compare and weigh lists. -/
namespace Go.Proofs.YtbhbmgmnnkcmcaaDoor
open Go Go.Ab
theorem eqS_loop {τ : Type} [DecidableEq τ] {tb : Int → Option (Int ⊕ (Unit ⊕ Unit))} (a b : List τ) (h : a.length ≤ 4611686018427387904) (hl : a.length = b.length)
    (hs : ∀ (i : Nat) (h1 : i < a.length) (h2 : i < b.length), tb (i : Int) = some (if a[i] = b[i] then .inl (IntKind.i64.wrap ((i : Int) + 1)) else .inr (.inl ()))) (he : tb (a.length : Int) = some (.inr (.inr ()))) :
    Lw tb 0 = some (if a = b then .inr () else .inl ()) := by
  have key := scan_all (tb := tb) a.length h (fun i => decide (a[i]? = b[i]?)) () ()
    (by
      intro i hi
      have hi2 : i < b.length := by omega
      rw [hs i hi hi2, List.getElem?_eq_getElem hi, List.getElem?_eq_getElem hi2]
      by_cases he : a[i] = b[i] <;> simp [he])
    he
  rw [key, all_eq hl]
  by_cases he : a = b <;> simp [he]
theorem sz_loop {tb : Int × Int → Option ((Int × Int) ⊕ (Unit ⊕ Int))} (n : Nat) (hs : ∀ (a : Int) (i : Nat), i < n → (∃ r, tb (a, (i : Int)) = some (.inl (r, ((i + 1 : Nat) : Int)))) ∨ tb (a, (i : Int)) = some (.inr (.inl ()))) (he : ∀ a, tb (a, (n : Int)) = some (.inr (.inr a))) (a : Int) :
    ∃ r, Lw tb (a, 0) = some r := by
  have : ∃ r r2, Lw tb (a, 0) = some r ∧ Lw tb (a, 0) = some r2 ∧ r = r2 := by
    refine Lw_sim (tb := tb) (tb2 := tb) (fun s => n - s.2.toNat) (fun s s2 => s = s2 ∧ ∃ i : Nat, s.2 = i ∧ i ≤ n) _ ?_ _ _ _ rfl ⟨rfl, 0, rfl, by omega⟩
    rintro ⟨a, j⟩ s2 ⟨rfl, i, hi, hl⟩
    simp only at hi
    subst hi
    by_cases hlt : i < n
    · rcases hs a i hlt with ⟨r, hr⟩ | hr
      · exact .inl ⟨_, _, hr, hr, ⟨rfl, i + 1, rfl, by omega⟩, by simp; omega⟩
      · exact .inr ⟨_, _, hr, hr, rfl⟩
    · have : i = n := by omega
      subst this
      exact .inr ⟨_, _, he a, he a, rfl⟩
  obtain ⟨r, _, hr, _, _⟩ := this
  exact ⟨r, hr⟩
theorem find_first {τ R : Type} {tb : Int → Option (Int ⊕ R)} (p : τ → Bool) (xs : List τ) (hit : Nat → R) (miss : R)
    (h1 : ∀ (i : Nat) (h : i < xs.length), p xs[i] = false → tb (i : Int) = some (.inl ((i + 1 : Nat) : Int))) (h2 : ∀ (i : Nat) (h : i < xs.length), p xs[i] = true → tb (i : Int) = some (.inr (hit i))) (h3 : tb (xs.length : Int) = some (.inr miss)) :
    Lw tb 0 = some (if xs.findIdx p < xs.length then hit (xs.findIdx p) else miss) := by
  have key := Lw_run (tb := tb) (fun i => (i : Int)) (xs.findIdx p) (r := if xs.findIdx p < xs.length then hit (xs.findIdx p) else miss)
    (fun i hi => h1 i (Nat.lt_of_lt_of_le hi List.findIdx_le_length) (by simpa using List.not_of_lt_findIdx hi))
    (by
      by_cases h : xs.findIdx p < xs.length
      · rw [if_pos h]; exact h2 _ h List.findIdx_getElem
      · rw [if_neg h]
        have : xs.findIdx p = xs.length := Nat.le_antisymm List.findIdx_le_length (by omega)
        simp only [this]; exact h3)
  exact key
theorem any_find {τ : Type} (p : τ → Bool) (xs : List τ) : xs.any p = decide (xs.findIdx p < xs.length) := by
  rw [Bool.eq_iff_iff, decide_eq_true_eq, List.findIdx_lt_length, List.any_eq_true]
/-! arrays -/
theorem rdA_coe {n : Nat} {τ : Type} (g : Ar n τ) (i : Nat) (h : i < n) : rdA g (i : Int) = some (g.l[i]'(by rw [g.h]; exact h)) := by
  unfold rdA
  rw [if_pos ⟨by omega, by omega⟩, Int.toNat_natCast, List.getElem?_eq_getElem]
theorem ar_ext {n : Nat} {τ : Type} {a b : Ar n τ} : a = b ↔ a.l = b.l := by cases a; cases b; simp
theorem ar_copy {n : Nat} {τ : Type} {tb : Int × Ar n τ → Option ((Int × Ar n τ) ⊕ Ar n τ)} (a z : Ar n τ) (hs : ∀ (i : Nat) (h : i < n) (y : Ar n τ), tb ((i : Int), y) = some (.inl (((i + 1 : Nat) : Int), y.set i (a.l[i]'(by rw [a.h]; exact h))))) (he : ∀ y, tb ((n : Int), y) = some (.inr y)) :
    Lw tb (0, z) = some a := by
  have hz := z.h
  have ha := a.h
  have key := Lw_run (tb := tb) (fun i => ((i : Int), (⟨a.l.take i ++ z.l.drop (min i n), by simp; omega⟩ : Ar n τ))) n (r := a)
    (by
      intro i hi
      rw [hs i hi]
      congr 3
      rw [ar_ext]
      show (a.l.take i ++ z.l.drop (min i n)).set i _ = a.l.take (i + 1) ++ z.l.drop (min (i + 1) n)
      rw [Nat.min_eq_left (by omega), Nat.min_eq_left (by omega), List.set_append_right _ _ (by simp; omega), List.length_take, Nat.min_eq_left (by omega), Nat.sub_self, List.drop_eq_getElem_cons (by omega), List.set_cons_zero, List.take_succ_eq_append_getElem (by omega), List.append_assoc]
      rfl)
    (by
      rw [he]
      congr 2
      rw [ar_ext]
      show a.l.take n ++ z.l.drop (min n n) = a.l
      rw [List.take_of_length_le (by omega), Nat.min_self, List.drop_eq_nil_of_le (by omega), List.append_nil])
  have e : (((0 : Nat) : Int), (⟨a.l.take 0 ++ z.l.drop (min 0 n), by simp; omega⟩ : Ar n τ)) = (0, z) := by
    congr 1
  rw [e] at key
  exact key
theorem foldr_all (p : Nat → Bool) (r : Bool) (l : List Nat) : l.foldr (fun j b => p j && b) r = (l.all p && r) := by
  induction l with
  | nil => simp
  | cons x l ih => simp [ih, Bool.and_assoc]
theorem arB_eq {n : Nat} (g h : Ar n Int) : arB n (fun j => g.get 0 j == h.get 0 j) true = decide (g = h) := by
  unfold arB
  rw [foldr_all, Bool.and_true, Bool.eq_iff_iff, List.all_eq_true, decide_eq_true_eq, ar_ext]
  have hg := g.h
  have hh := h.h
  constructor
  · intro hp
    refine List.ext_getElem (by omega) fun i h1 h2 => ?_
    have := hp i (by simpa [hg] using h1)
    simpa [Ar.get, List.getD_eq_getElem?_getD, h1, h2] using this
  · intro e j _
    simp [Ar.get, e]
end Go.Proofs.YtbhbmgmnnkcmcaaDoor
/- Marks put into numbers, and found again. -/
namespace Go.Proofs.YtbhbmgmnnkcmcaaDoor
open Go Go.Ab
def iota (k : Int) (n : Nat) : List Int := (List.range n).map fun (i : Nat) => k + (i : Int)
theorem iota_len (k : Int) (n : Nat) : (iota k n).length = n := by simp [iota]
theorem iota_get (k : Int) (n i : Nat) (h : i < n) : (iota k n)[i]? = some (k + i) := by
  simp [iota, h]
theorem iota_succ (k : Int) (n : Nat) : iota k (n + 1) = iota k n ++ [k + n] := by simp [iota, List.range_succ]
end Go.Proofs.YtbhbmgmnnkcmcaaDoor
/- Numbers within bounds. -/
namespace Go.Proofs.YtbhbmgmnnkcmcaaDoor
open Go Go.Ab
def inB (n lo hi : Int) : Bool := decide (lo ≤ n) && decide (n ≤ hi)
theorem inB_iff {n lo hi : Int} : inB n lo hi = true ↔ lo ≤ n ∧ n ≤ hi := by simp [inB]
theorem inB_not {n lo hi : Int} : inB n lo hi = false ↔ n < lo ∨ hi < n := by rw [← Bool.not_eq_true, inB_iff]; omega
theorem l00In_eq (n lo hi : Int) : spec_l00In n lo hi = some (inB n lo hi) := by
  unfold spec_l00In inB; by_cases h : lo ≤ n <;> simp [h]
theorem some_ite {α : Type} (c : Bool) (a b : α) : (if c = true then some a else some b) = some (if c = true then a else b) := by cases c <;> rfl
theorem ite_false_b (c b : Bool) : (if c = true then b else false) = (c && b) := by cases c <;> simp
theorem ite_true_b (c b : Bool) : (if c = true then true else b) = (c || b) := by cases c <;> simp
end Go.Proofs.YtbhbmgmnnkcmcaaDoor
/- Amounts. -/
namespace Go.Proofs.YtbhbmgmnnkcmcaaDoor
open Go Go.Ab
end Go.Proofs.YtbhbmgmnnkcmcaaDoor
/- Halves and chains: equal, copied, weighed. -/
namespace Go.Proofs.YtbhbmgmnnkcmcaaDoor
open Go Go.Ab
theorem notch_eq {x y : Notch} : x = y ↔ x.Kind = y.Kind ∧ x.At = y.At := by cases x; cases y; simp
theorem mark_eq {x y : Mark} : x = y ↔ x.Holder = y.Holder ∧ x.Seal = y.Seal := by cases x; cases y; simp
theorem half_eq {x y : Half} : x = y ↔ x.Stock = y.Stock ∧ x.Notches = y.Notches ∧ x.Grain = y.Grain := by cases x; cases y; simp
theorem chain_eq {x y : Chain} : x = y ↔ x.Debtor = y.Debtor ∧ x.Stock = y.Stock ∧ x.Marks = y.Marks := by cases x; cases y; simp
theorem eqNotch_eq (x y : Notch) : laws_eqNotch x y = some (decide (x = y)) := by
  unfold laws_eqNotch
  simp only [notch_eq, bne_iff_ne, ne_eq, ite_not]
  repeat' split
  all_goals simp_all
theorem eqMark_eq (x y : Mark) : laws_eqMark x y = some (decide (x = y)) := by
  unfold laws_eqMark
  simp only [mark_eq, bne_iff_ne, ne_eq, ite_not]
  repeat' split
  all_goals simp_all
theorem eqNotchS_eq (a b : List Notch) (h : a.length ≤ 4611686018427387904) : laws_eqNotchS a b = some (decide (a = b)) := by
  unfold laws_eqNotchS
  by_cases hl : a.length = b.length
  · rw [if_neg (by simp [hl]), eqS_loop a b h hl (fun i h1 h2 => by
      simp only [laws_eqNotchS_b1, rd_coe, List.getElem?_eq_getElem h1, List.getElem?_eq_getElem h2, Option.bind_some, eqNotch_eq]
      by_cases he : a[i] = b[i] <;> simp [he, h1]) (by simp [laws_eqNotchS_b1])]
    by_cases he : a = b <;> simp [he]
  · rw [if_pos (by simp; omega)]
    have : a ≠ b := fun h => hl (by rw [h])
    simp [this]
theorem eqMarkS_eq (a b : List Mark) (h : a.length ≤ 4611686018427387904) : laws_eqMarkS a b = some (decide (a = b)) := by
  unfold laws_eqMarkS
  by_cases hl : a.length = b.length
  · rw [if_neg (by simp [hl]), eqS_loop a b h hl (fun i h1 h2 => by
      simp only [laws_eqMarkS_b1, rd_coe, List.getElem?_eq_getElem h1, List.getElem?_eq_getElem h2, Option.bind_some, eqMark_eq]
      by_cases he : a[i] = b[i] <;> simp [he, h1]) (by simp [laws_eqMarkS_b1])]
    by_cases he : a = b <;> simp [he]
  · rw [if_pos (by simp; omega)]
    have : a ≠ b := fun h => hl (by rw [h])
    simp [this]
theorem eqGrain_eq (a b : Ar 16 Int) : laws_eqGrain a b = some (decide (a = b)) := by
  unfold laws_eqGrain
  have ha := a.h
  have hb := b.h
  rw [eqS_loop a.l b.l (by omega) (by omega) (fun i h1 h2 => by
      simp only [laws_eqGrain_b1, rdA_coe a i (by omega), rdA_coe b i (by omega), Option.bind_some]
      have h16 : (i : Int) < 16 := by omega
      by_cases he : a.l[i] = b.l[i] <;> simp [he, h16]) (by simp [laws_eqGrain_b1, ha])]
  by_cases he : a.l = b.l
  · simp [he, ar_ext]
  · simp [he, ar_ext]
theorem eqHalf_eq (x y : Half) (h : x.Notches.length ≤ 4611686018427387904) : laws_eqHalf x y = some (decide (x = y)) := by
  unfold laws_eqHalf
  rw [eqNotchS_eq _ _ h, eqGrain_eq]
  by_cases e1 : x.Stock = y.Stock <;> by_cases e2 : x.Notches = y.Notches <;> by_cases e3 : x.Grain = y.Grain <;> simp [half_eq, e1, e2, e3]
theorem eqChain_eq (x y : Chain) (h1 : x.Stock.Notches.length ≤ 4611686018427387904) (h2 : x.Marks.length ≤ 4611686018427387904) : laws_eqChain x y = some (decide (x = y)) := by
  unfold laws_eqChain
  rw [eqHalf_eq _ _ h1, eqMarkS_eq _ _ h2]
  by_cases e1 : x.Debtor = y.Debtor <;> by_cases e2 : x.Stock = y.Stock <;> by_cases e3 : x.Marks = y.Marks <;> simp [chain_eq, e1, e2, e3]
end Go.Proofs.YtbhbmgmnnkcmcaaDoor
/- Parties: names, finding, valid lists. -/
namespace Go.Proofs.YtbhbmgmnnkcmcaaDoor
open Go Go.Ab
def letB (c : UInt8) : Bool := decide (97 ≤ c.toNat) && decide (c.toNat ≤ 122)
def lettersB (s : List UInt8) (n : Int) : Bool := s.all letB && decide (1 ≤ s.length) && decide ((s.length : Int) ≤ n)
def nameB (s : List UInt8) : Bool := lettersB s 12
theorem isLetters_loop (s : List UInt8) (hn : s.length ≤ 4611686018427387904) : Lw (impl_isLetters_b1 s) 0 = some (if s.all letB = true then .inr () else .inl ()) := by
  have key := scan_all (tb := impl_isLetters_b1 s) s.length hn (fun i => (s[i]?).all letB) () ()
    (by
      intro i hi
      simp only [impl_isLetters_b1, rd_coe, List.getElem?_eq_getElem hi, Option.bind_some, Option.all_some]
      rw [if_pos (by simpa using hi)]
      by_cases h1 : s[i].toNat < 97
      · rw [if_pos (by simp; omega), if_neg (by simp [letB]; omega)]
      · by_cases h2 : s[i].toNat > 122
        · rw [if_neg (by simp; omega), if_pos (by simp; omega), if_neg (by simp [letB]; omega)]
        · rw [if_neg (by simp; omega), if_neg (by simp; omega), if_pos (by simp [letB]; omega)])
    (by simp [impl_isLetters_b1])
  rw [key, all_get]
theorem isLetters_eq (s : List UInt8) (n : Int) (hn : s.length ≤ 4611686018427387904) : impl_isLetters s n = some (lettersB s n) := by
  unfold impl_isLetters lettersB
  rw [isLetters_loop s hn]
  cases s.all letB with
  | false => simp
  | true =>
    by_cases h : 1 ≤ s.length
    · have : (1 : Int) ≤ (s.length : Int) := by omega
      simp [h, this]
    · have : ¬ (1 : Int) ≤ (s.length : Int) := by omega
      simp [h, this]
theorem isName_eq (s : List UInt8) (hn : s.length ≤ 4611686018427387904) : impl_isName s = some (nameB s) := by
  unfold impl_isName nameB; rw [isLetters_eq s 12 hn, Option.bind_some]
theorem l06Name_eq (s : List UInt8) (hn : s.length ≤ 4611686018427387904) : spec_l06Name s = some (nameB s) := by
  have e : Lw (spec_l06Name_b1 s) 0 = Lw (impl_isLetters_b1 s) 0 := rfl
  unfold spec_l06Name nameB lettersB
  rw [e, isLetters_loop s hn]
  cases s.all letB with
  | false => simp
  | true =>
    cases s with
    | nil => simp
    | cons c r => simp
end Go.Proofs.YtbhbmgmnnkcmcaaDoor
/- Finding a party. -/
namespace Go.Proofs.YtbhbmgmnnkcmcaaDoor
open Go Go.Ab
/-- the first place at which q holds -/
def firstI {τ : Type} (q : τ → Bool) (xs : List τ) : Int := match xs.findIdx? q with | some i => (i : Int) | none => -1
theorem firstI_some {τ : Type} {q : τ → Bool} {xs : List τ} {m : Nat} (hm : m < xs.length) (h1 : q xs[m] = true) (h2 : ∀ i (hi : i < xs.length), i < m → q xs[i] = false) : firstI q xs = (m : Int) := by
  unfold firstI
  have : xs.findIdx? q = some m := by
    rw [List.findIdx?_eq_some_iff_getElem]
    exact ⟨hm, h1, fun j hj => by rw [h2 j (by omega) hj]; simp⟩
  rw [this]
theorem firstI_none {τ : Type} {q : τ → Bool} {xs : List τ} (h : ∀ i (hi : i < xs.length), q xs[i] = false) : firstI q xs = -1 := by
  unfold firstI
  have : xs.findIdx? q = none := by
    rw [List.findIdx?_eq_none_iff]
    intro x hx
    obtain ⟨i, hi⟩ := List.getElem?_of_mem hx
    obtain ⟨h1, rfl⟩ := List.getElem?_eq_some_iff.1 hi
    exact h i h1
  rw [this]
theorem slc_take {τ : Type} (xs : List τ) (i : Nat) (h : i ≤ xs.length) : slc xs 0 (i : Int) = some (xs.take i) := by
  unfold slc; rw [if_pos ⟨by omega, by omega, by omega⟩]; simp
/-! copies -/
end Go.Proofs.YtbhbmgmnnkcmcaaDoor
/- Halves and chains that are valid: the program's word and the reference's. -/
namespace Go.Proofs.YtbhbmgmnnkcmcaaDoor
open Go Go.Ab
def grainB (g : Ar 16 Int) : Bool := g.l.all fun x => inB x (-3) 3
theorem validGrain_eq (g : Ar 16 Int) : impl_ValidGrain g = some (grainB g) := by
  have hg := g.h
  unfold impl_ValidGrain grainB
  have key := scan_all (tb := impl_ValidGrain_b1 g) g.l.length (by omega) (fun i => (g.l[i]?).all fun x => inB x (-3) 3) () ()
    (by
      intro i hi
      have h16 : (i : Int) < 16 := by omega
      simp only [impl_ValidGrain_b1, rdA_coe g i (by omega), List.getElem?_eq_getElem hi, Option.bind_some, Option.all_some]
      rw [if_pos (by simpa using h16)]
      by_cases h1 : g.l[i] < -3
      · rw [if_pos (by simpa using h1), if_neg (by simp [inB]; omega)]
      · by_cases h2 : g.l[i] > 3
        · rw [if_neg (by simpa using h1), if_pos (by simpa using h2), if_neg (by simp [inB]; omega)]
        · rw [if_neg (by simpa using h1), if_neg (by simpa using h2), if_pos (by simp [inB]; omega)])
    (by simp [impl_ValidGrain_b1, hg])
  rw [key, all_get]
  cases g.l.all fun x => inB x (-3) 3 <;> simp
theorem l01Grain_eq (g : Ar 16 Int) : spec_l01Grain g = some (grainB g) := by
  have hg := g.h
  unfold spec_l01Grain grainB
  have key := scan_all (tb := spec_l01Grain_b1 g) g.l.length (by omega) (fun i => (g.l[i]?).all fun x => inB x (-3) 3) () ()
    (by
      intro i hi
      have h16 : (i : Int) < 16 := by omega
      simp only [spec_l01Grain_b1, rdA_coe g i (by omega), List.getElem?_eq_getElem hi, Option.bind_some, Option.all_some]
      rw [if_pos (by simpa using h16)]
      by_cases h1 : g.l[i] < -3
      · rw [if_pos (by simpa using h1), if_neg (by simp [inB]; omega)]
      · by_cases h2 : g.l[i] > 3
        · rw [if_neg (by simpa using h1), if_pos (by simpa using h2), if_neg (by simp [inB]; omega)]
        · rw [if_neg (by simpa using h1), if_neg (by simpa using h2), if_pos (by simp [inB]; omega)])
    (by simp [spec_l01Grain_b1, hg])
  rw [key, all_get]
  cases g.l.all fun x => inB x (-3) 3 <;> simp
theorem isKind_eq (k : Int) : impl_isKind k = some (inB k 0 5) := by
  unfold impl_isKind inB; by_cases h : 0 ≤ k <;> simp [h]
theorem l01Kind_eq (k : Int) : spec_l01Kind k = some (inB k 0 5) := by
  unfold spec_l01Kind; rw [l00In_eq, Option.bind_some]
theorem ends_eq (n : Notch) (hk : inB n.Kind 0 5 = true) : ∃ e, impl_Notch_end n = some e ∧ spec_l01Ends n = some e := by
  obtain ⟨h0, h1⟩ := inB_iff.1 hk
  have w : IntKind.i64.wrap n.Kind = n.Kind := w64 (by omega)
  obtain ⟨x, hx⟩ : ∃ x, rd ([1, 2, 4, 6, 9, 12] : List Int) n.Kind = some x := ⟨_, rd_in h0 (by simp; omega)⟩
  exact ⟨_, by unfold impl_Notch_end impl_width; rw [w, hx]; rfl, by unfold spec_l01Ends spec_l01Widths; rw [Option.bind_some, hx]; rfl⟩
theorem notch_loop (h : Half) (hn : h.Notches.length ≤ 60) (hk : ∀ n ∈ h.Notches, -128 ≤ n.Kind ∧ n.Kind ≤ 127) :
    ∃ r r2, Lw (impl_ValidHalf_b1 h) 0 = some r ∧ Lw (spec_l01Notches_b1 h.Notches) 0 = some r2 ∧ r = r2 ∧ (r = .inr () → ∀ n ∈ h.Notches, inB n.Kind 0 5 = true ∧ 0 ≤ n.At) := by
  refine Lw_sim (tb := impl_ValidHalf_b1 h) (tb2 := spec_l01Notches_b1 h.Notches) (fun s => h.Notches.length - s.toNat) (fun s s2 => s = s2 ∧ ∃ i : Nat, s = i ∧ i ≤ h.Notches.length ∧ ∀ (j : Nat) (hj : j < h.Notches.length), j < i → inB h.Notches[j].Kind 0 5 = true ∧ 0 ≤ h.Notches[j].At) _ ?_ _ _ _ rfl
    ⟨rfl, 0, rfl, by omega, fun j hj e => by omega⟩
  rintro s s2 ⟨rfl, i, rfl, hil, hprev⟩
  by_cases hlt : i < h.Notches.length
  · have hr : rd h.Notches (i : Int) = some h.Notches[i] := by rw [rd_coe, List.getElem?_eq_getElem hlt]
    have w := w64s hlt (by omega)
    have wk : IntKind.i64.wrap h.Notches[i].Kind = h.Notches[i].Kind := by
      have := hk _ (List.getElem_mem hlt)
      exact w64 (by omega)
    have kI := isKind_eq h.Notches[i].Kind
    have kS := l01Kind_eq h.Notches[i].Kind
    have hlt' : (i : Int) < h.Notches.length := by omega
    cases hkb : inB h.Notches[i].Kind 0 5 with
    | false =>
      rw [hkb] at kI kS
      exact .inr ⟨.inl (), .inl (), by simp [impl_ValidHalf_b1, hlt, hr, wk, kI], by simp [spec_l01Notches_b1, hlt, hr, wk, kS], rfl, fun e => by cases e⟩
    | true =>
      rw [hkb] at kI kS
      by_cases h0 : h.Notches[i].At < 0
      · exact .inr ⟨.inl (), .inl (), by simp [impl_ValidHalf_b1, hlt, hr, wk, kI, h0], by simp [spec_l01Notches_b1, hlt, hr, wk, kS, h0], rfl, fun e => by cases e⟩
      obtain ⟨e, e1, e2⟩ := ends_eq _ hkb
      by_cases h2 : e > 200
      · exact .inr ⟨.inl (), .inl (), by simp [impl_ValidHalf_b1, hlt, hr, wk, kI, h0, e1, h2], by simp [spec_l01Notches_b1, hlt, hr, wk, kS, h0, e2, h2], rfl, fun e => by cases e⟩
      by_cases hi0 : i = 0
      · have hi0' : ¬ 0 < i := by omega
        exact .inl ⟨((i + 1 : Nat) : Int), _, by simp [impl_ValidHalf_b1, hlt, hr, wk, kI, h0, e1, h2, hi0', w], by simp [spec_l01Notches_b1, hlt, hr, wk, kS, h0, e2, h2, hi0', w], ⟨rfl, i + 1, rfl, by omega, fun j hj hji => (if e : j = i then (by subst e; exact ⟨hkb, by omega⟩) else hprev j hj (by omega))⟩, by simp; omega⟩
      · have hi0' : 0 < i := by omega
        have hj : i - 1 < h.Notches.length := by omega
        have hp : rd h.Notches (IntKind.i64.wrap ((i : Int) - 1)) = some h.Notches[i - 1] := by
          rw [w64 (by omega), show ((i : Int) - 1) = ((i - 1 : Nat) : Int) by omega, rd_coe, List.getElem?_eq_getElem hj]
        obtain ⟨e', e1', e2'⟩ := ends_eq _ (hprev (i - 1) hj (by omega)).1
        by_cases c1 : IntKind.i64.wrap h.Notches[i].At ≤ e'
        · by_cases c2 : h.Notches[i].Kind > h.Notches[i - 1].Kind
          · exact .inr ⟨.inl (), .inl (), by simp [impl_ValidHalf_b1, hlt, hr, wk, kI, h0, e1, h2, hi0', hp, e1', c1], by simp [spec_l01Notches_b1, hlt, hr, wk, kS, h0, e2, h2, hi0', hp, c2], rfl, fun e => by cases e⟩
          · have c2' : ¬ h.Notches[i - 1].Kind < h.Notches[i].Kind := c2
            exact .inr ⟨.inl (), .inl (), by simp [impl_ValidHalf_b1, hlt, hr, wk, kI, h0, e1, h2, hi0', hp, e1', c1], by simp [spec_l01Notches_b1, hlt, hr, wk, kS, h0, e2, h2, hi0', hp, c2', e2', c1], rfl, fun e => by cases e⟩
        · by_cases c2 : h.Notches[i].Kind > h.Notches[i - 1].Kind
          · exact .inr ⟨.inl (), .inl (), by simp [impl_ValidHalf_b1, hlt, hr, wk, kI, h0, e1, h2, hi0', hp, e1', c1, c2], by simp [spec_l01Notches_b1, hlt, hr, wk, kS, h0, e2, h2, hi0', hp, c2], rfl, fun e => by cases e⟩
          · have c2' : ¬ h.Notches[i - 1].Kind < h.Notches[i].Kind := c2
            exact .inl ⟨((i + 1 : Nat) : Int), _, by simp [impl_ValidHalf_b1, hlt, hr, wk, kI, h0, e1, h2, hi0', hp, e1', c1, c2', w], by simp [spec_l01Notches_b1, hlt, hr, wk, kS, h0, e2, h2, hi0', hp, c2', e2', c1, w], ⟨rfl, i + 1, rfl, by omega, fun j hj hji => (if e : j = i then (by subst e; exact ⟨hkb, by omega⟩) else hprev j hj (by omega))⟩, by simp; omega⟩
  · exact .inr ⟨.inr (), .inr (), by simp [impl_ValidHalf_b1, hlt], by simp [spec_l01Notches_b1, hlt], rfl, fun _ n hn' => by obtain ⟨j, hj, rfl⟩ := List.getElem_of_mem hn'; exact hprev j hj (by omega)⟩
/-- what is known of a half that is valid -/
def HfI (h : Half) : Prop := h.Notches.length ≤ 60 ∧ grainB h.Grain = true ∧ ∀ n ∈ h.Notches, inB n.Kind 0 5 = true ∧ 0 ≤ n.At
theorem validHalf_same (h : Half) (hk : ∀ n ∈ h.Notches, -128 ≤ n.Kind ∧ n.Kind ≤ 127) : ∃ b, impl_ValidHalf h = some b ∧ spec_l01Ok h = some b ∧ (b = true → HfI h) := by
  unfold impl_ValidHalf spec_l01Ok spec_l01Notches
  rw [validGrain_eq, l01Grain_eq]
  by_cases hn : (h.Notches.length : Int) > 60
  · exact ⟨false, by simp [hn], by simp [hn], fun e => by cases e⟩
  · obtain ⟨r, r2, e1, e2, rfl, e3⟩ := notch_loop h (by omega) hk
    cases hg : grainB h.Grain
    · rcases r with r | r
      · exact ⟨false, by simp [hn], by simp [hn, e2], fun e => by cases e⟩
      · exact ⟨false, by simp [hn], by simp [hn, e2], fun e => by cases e⟩
    · rcases r with r | r
      · exact ⟨false, by simp [hn, e1], by simp [hn, e2], fun e => by cases e⟩
      · exact ⟨true, by simp [hn, e1], by simp [hn, e2], fun _ => ⟨by omega, hg, e3 rfl⟩⟩
/-- what is known of a chain that is valid -/
def ChI (c : Chain) : Prop := 1 ≤ c.Marks.length ∧ c.Marks.length ≤ 30 ∧ c.Stock.Stock = true ∧ nameB c.Debtor = true ∧ ∀ m ∈ c.Marks, nameB m.Holder = true
theorem marks_loop (c : Chain) (hn : c.Marks.length ≤ 30) (hm : ∀ m ∈ c.Marks, m.Holder.length ≤ 4611686018427387904) :
    ∃ r r2, Lw (impl_ValidChain_b1 c) (c.Debtor, 0) = some r ∧ Lw (spec_l06Ok_b1 c) (c.Debtor, 0) = some r2 ∧ r = r2 ∧ (r = .inr () → ∀ m ∈ c.Marks, nameB m.Holder = true) := by
  refine Lw_sim (tb := impl_ValidChain_b1 c) (tb2 := spec_l06Ok_b1 c) (fun s => c.Marks.length - s.2.toNat) (fun s s2 => s = s2 ∧ ∃ i : Nat, s.2 = i ∧ i ≤ c.Marks.length ∧ ∀ (j : Nat) (hj : j < c.Marks.length), j < i → nameB c.Marks[j].Holder = true) _ ?_ _ _ _ rfl
    ⟨rfl, 0, rfl, by omega, fun j hj e => by omega⟩
  rintro ⟨z, s⟩ s2 ⟨rfl, i, hi, hil, hprev⟩
  simp only at hi
  subst hi
  by_cases hlt : i < c.Marks.length
  · have hr : rd c.Marks (i : Int) = some c.Marks[i] := by rw [rd_coe, List.getElem?_eq_getElem hlt]
    have w := w64s hlt (by omega)
    have kI := isName_eq c.Marks[i].Holder (hm _ (List.getElem_mem hlt))
    have kS := l06Name_eq c.Marks[i].Holder (hm _ (List.getElem_mem hlt))
    cases hkb : nameB c.Marks[i].Holder with
    | false =>
      rw [hkb] at kI kS
      exact .inr ⟨.inl (), .inl (), by simp [impl_ValidChain_b1, hlt, hr, kI], by simp [spec_l06Ok_b1, hlt, hr, kS], rfl, fun h => by cases h⟩
    | true =>
      rw [hkb] at kI kS
      by_cases h0 : c.Marks[i].Holder = z
      · subst h0
        exact .inr ⟨.inl (), .inl (), by simp [impl_ValidChain_b1, hlt, hr, kI], by simp [spec_l06Ok_b1, hlt, hr, kS], rfl, fun h => by cases h⟩
      · refine .inl ⟨(c.Marks[i].Holder, ((i + 1 : Nat) : Int)), _, by simp [impl_ValidChain_b1, hlt, hr, kI, h0, w], by simp [spec_l06Ok_b1, hlt, hr, kS, h0, w], ⟨rfl, i + 1, rfl, by omega, fun j hj hji => ?_⟩, by simp; omega⟩
        by_cases hjj : j = i
        · subst hjj; exact hkb
        · exact hprev j hj (by omega)
  · refine .inr ⟨.inr (), .inr (), by simp [impl_ValidChain_b1, hlt], by simp [spec_l06Ok_b1, hlt], rfl, fun _ m hmem => ?_⟩
    obtain ⟨j, hj, rfl⟩ := List.getElem_of_mem hmem
    exact hprev j hj (by omega)
end Go.Proofs.YtbhbmgmnnkcmcaaDoor
/- Texts put together. -/
namespace Go.Proofs.YtbhbmgmnnkcmcaaDoor
open Go Go.Ab
theorem sadd_some {a b : List UInt8} (h : a.length + b.length ≤ 9223372036854775807) : sadd a b = some (a ++ b) := by
  unfold sadd
  rw [if_neg (by have : IntKind.i64.max = 9223372036854775807 := rfl; rw [this]; omega)]
end Go.Proofs.YtbhbmgmnnkcmcaaDoor
/- Marks that are texts; marks in texts and chains. -/
namespace Go.Proofs.YtbhbmgmnnkcmcaaDoor
open Go Go.Ab
theorem markText_some (k : Int) (h : k ≤ 4611686018427387904) : ∃ t, laws_markText k = some t := by
  unfold laws_markText
  by_cases h0 : k ≤ 0
  · exact ⟨_, by rw [if_pos (by simpa using h0)]⟩
  rw [if_neg (by simpa using h0)]
  have : ∃ r r2 : List UInt8, Lw (laws_markText_b1) (k, []) = some r ∧ Lw (laws_markText_b1) (k, []) = some r2 ∧ r.length ≤ 4611686018427387904 := by
    refine Lw_sim (tb := laws_markText_b1) (tb2 := laws_markText_b1) (fun s => s.1.toNat) (fun s s2 => s = s2 ∧ 0 ≤ s.1 ∧ s.2.length + s.1.toNat ≤ 4611686018427387904) _ ?_ _ _ _ rfl ⟨rfl, by simp only; omega, by simp only [List.length_nil]; omega⟩
    rintro ⟨n, o⟩ s2 ⟨rfl, hn, ho⟩
    simp only at hn ho
    by_cases h1 : n > 0
    · have e1 : rem .i64 n 10 = some (n.tmod 10) := by simp [rem]
      have hd : n.tdiv 10 = n / 10 := Int.tdiv_eq_ediv_of_nonneg hn
      have e2 : quo .i64 n 10 = some (n / 10) := by
        unfold quo
        rw [if_neg (by decide), hd, w64 (by omega)]
      have e3 : sadd (toB [(IntKind.u8.wrap (IntKind.i64.wrap (48 + n.tmod 10)))]) o = some (toB [(IntKind.u8.wrap (IntKind.i64.wrap (48 + n.tmod 10)))] ++ o) := sadd_some (by simp [toB]; omega)
      have : laws_markText_b1 (n, o) = some (.inl (n / 10, toB [(IntKind.u8.wrap (IntKind.i64.wrap (48 + n.tmod 10)))] ++ o)) := by simp [laws_markText_b1, h1, e1, e2, e3]
      exact .inl ⟨_, _, this, this, ⟨rfl, by simp only; omega, by simp [toB]; omega⟩, by simp only; omega⟩
    · have : laws_markText_b1 (n, o) = some (.inr o) := by simp [laws_markText_b1, h1]
      exact .inr ⟨_, _, this, this, by omega⟩
  obtain ⟨r, _, e1, _, e2⟩ := this
  rw [e1, Option.bind_some, sadd_some (by simp; omega)]
  exact ⟨_, rfl⟩
noncomputable def mT (k : Int) : List UInt8 := (laws_markText k).getD []
theorem markText_eq (k : Int) (h : k ≤ 4611686018427387904) : laws_markText k = some (mT k) := by
  obtain ⟨t, ht⟩ := markText_some k h
  unfold mT
  rw [ht]; rfl
/-! chains -/
def mNotch (k : Int) : Notch := ⟨IntKind.i8.wrap k, IntKind.i16.wrap (k + 1)⟩
theorem markNotchS_eq (xs : List Notch) (k : Int) (hn : xs.length ≤ 100000000000000) (h0 : 0 ≤ k) (hk : k ≤ 1152921504606846976) : laws_markNotchS_l xs k = some (k + (2 * xs.length : Nat), marks mNotch 2 k xs.length) := by
  unfold laws_markNotchS_l
  have key := mark_loop (tb := laws_markNotchS_l_b1) mNotch 2 xs k (by omega) (by omega) h0 hk
    (by
      intro j i zs hi hz hj hjc
      have w1 : IntKind.i64.wrap (j + 1) = j + 1 := w64 (by omega)
      have w2 : IntKind.i64.wrap (j + 1 + 1) = j + 2 := by rw [w64 (by omega)]; omega
      simp [laws_markNotchS_l_b1, rd_coe, hi, List.getElem?_set, w1, w2, w64s hi (show zs.length ≤ 4611686018427387904 by omega), mNotch])
    (by intro j zs; simp [laws_markNotchS_l_b1])
  rw [key, Option.bind_some]
noncomputable def mMark (k : Int) : Mark := ⟨mT k, IntKind.u32.wrap (k + 1)⟩
theorem markMarkS_eq (xs : List Mark) (k : Int) (hn : xs.length ≤ 100000000000000) (h0 : 0 ≤ k) (hk : k ≤ 1152921504606846976) : laws_markMarkS_l xs k = some (k + (2 * xs.length : Nat), marks mMark 2 k xs.length) := by
  unfold laws_markMarkS_l
  have key := mark_loop (tb := laws_markMarkS_l_b1) mMark 2 xs k (by omega) (by omega) h0 hk
    (by
      intro j i zs hi hz hj hjc
      have w1 : IntKind.i64.wrap (j + 1) = j + 1 := w64 (by omega)
      have w2 : IntKind.i64.wrap (j + 1 + 1) = j + 2 := by rw [w64 (by omega)]; omega
      simp [laws_markMarkS_l_b1, rd_coe, hi, List.getElem?_set, w1, w2, w64s hi (show zs.length ≤ 4611686018427387904 by omega), mMark, markText_eq j (by omega)])
    (by intro j zs; simp [laws_markMarkS_l_b1])
  rw [key, Option.bind_some]
theorem markChain_eq (d : List UInt8) (s : Bool) (n : List Notch) (g : Ar 16 Int) (m : List Mark) (k : Int) (hn : n.length ≤ 100000000000000) (hm : m.length ≤ 100000000000000) (h0 : 0 ≤ k) (hk : k ≤ 152921504606846976) :
    ∃ n' m', laws_markChain_ll d s n g m k = some (k + (2 * n.length : Nat) + (2 * m.length : Nat), n', m') := by
  unfold laws_markChain_ll laws_markHalf_l
  rw [markNotchS_eq n k hn h0 (by omega)]
  simp only [Option.bind_some]
  rw [markMarkS_eq m _ hm (by omega) (by omega)]
  exact ⟨_, _, rfl⟩
end Go.Proofs.YtbhbmgmnnkcmcaaDoor
/- Marks in chains, found again. -/
namespace Go.Proofs.YtbhbmgmnnkcmcaaDoor
open Go Go.Ab
theorem heldNotchS_eq (n : Nat) (k : Int) (hn : n ≤ 100000000000000) (h0 : 0 ≤ k) (hk : k ≤ 1152921504606846976) : laws_heldNotchS (marks mNotch 2 k n) k = some (k + (2 * n : Nat)) := by
  unfold laws_heldNotchS
  have key := held_loop (tb := laws_heldNotchS_b1 (marks mNotch 2 k n)) mNotch 2 n k (by omega) (by omega) h0 hk
    (by
      intro j i hi hg hj hjc
      have w1 : IntKind.i64.wrap (j + 1) = j + 1 := w64 (by omega)
      have w2 : IntKind.i64.wrap (j + 1 + 1) = j + 2 := by rw [w64 (by omega)]; omega
      simp only [laws_heldNotchS_b1, rd_coe, hg, marks_len, Option.bind_some, w1, w2, w64s hi (show n ≤ 4611686018427387904 by omega)]
      simp [hi, mNotch])
    (by intro j; simp [laws_heldNotchS_b1, marks_len])
  rw [key, Option.bind_some]
theorem heldMarkS_eq (n : Nat) (k : Int) (hn : n ≤ 100000000000000) (h0 : 0 ≤ k) (hk : k ≤ 1152921504606846976) : laws_heldMarkS (marks mMark 2 k n) k = some (k + (2 * n : Nat)) := by
  unfold laws_heldMarkS
  have key := held_loop (tb := laws_heldMarkS_b1 (marks mMark 2 k n)) mMark 2 n k (by omega) (by omega) h0 hk
    (by
      intro j i hi hg hj hjc
      have w1 : IntKind.i64.wrap (j + 1) = j + 1 := w64 (by omega)
      have w2 : IntKind.i64.wrap (j + 1 + 1) = j + 2 := by rw [w64 (by omega)]; omega
      simp only [laws_heldMarkS_b1, rd_coe, hg, marks_len, Option.bind_some, w1, w2, w64s hi (show n ≤ 4611686018427387904 by omega), markText_eq j (by omega)]
      simp [hi, mMark])
    (by intro j; simp [laws_heldMarkS_b1, marks_len])
  rw [key, Option.bind_some]
theorem markNotchS0 (k : Int) : laws_markNotchS_n k = some k := by
  unfold laws_markNotchS_n
  rw [Lw_stop (r := k) (by simp [laws_markNotchS_n_b1]), Option.bind_some]
theorem markMarkS0 (k : Int) : laws_markMarkS_n k = some k := by
  unfold laws_markMarkS_n
  rw [Lw_stop (r := k) (by simp [laws_markMarkS_n_b1]), Option.bind_some]
theorem markHalf_eq (s : Bool) (n : List Notch) (g : Ar 16 Int) (k : Int) (hn : n.length ≤ 100000000000000) (h0 : 0 ≤ k) (hk : k ≤ 152921504606846976) : laws_markHalf_l s n g k = some (k + (2 * n.length : Nat), marks mNotch 2 k n.length) := by
  unfold laws_markHalf_l
  rw [markNotchS_eq n k hn h0 (by omega)]
  rfl
theorem markChain_eq2 (d : List UInt8) (s : Bool) (n : List Notch) (g : Ar 16 Int) (m : List Mark) (k : Int) (hn : n.length ≤ 100000000000000) (hm : m.length ≤ 100000000000000) (h0 : 0 ≤ k) (hk : k ≤ 152921504606846976) :
    laws_markChain_ll d s n g m k = some (k + (2 * n.length : Nat) + (2 * m.length : Nat), marks mNotch 2 k n.length, marks mMark 2 (k + (2 * n.length : Nat)) m.length) := by
  unfold laws_markChain_ll
  rw [markHalf_eq s n g k hn h0 hk]
  simp only [Option.bind_some]
  rw [markMarkS_eq m _ hm (by omega) (by omega)]
  rfl
theorem heldChain_eq (d : List UInt8) (s : Bool) (g : Ar 16 Int) (n m : Nat) (k : Int) (hn : n ≤ 100000000000000) (hm : m ≤ 100000000000000) (h0 : 0 ≤ k) (hk : k ≤ 152921504606846976) :
    laws_heldChain ⟨d, ⟨s, marks mNotch 2 k n, g⟩, marks mMark 2 (k + (2 * n : Nat)) m⟩ k = some (k + (2 * n : Nat) + (2 * m : Nat)) := by
  unfold laws_heldChain laws_heldHalf
  simp only
  rw [heldNotchS_eq n k hn h0 (by omega), Option.bind_some, if_neg (by simp; omega), Option.bind_some, if_neg (by simp; omega), heldMarkS_eq m _ hm (by omega) (by omega), Option.bind_some, if_neg (by simp; omega)]
end Go.Proofs.YtbhbmgmnnkcmcaaDoor
/- Numbers written out. -/
namespace Go.Proofs.YtbhbmgmnnkcmcaaDoor
open Go Go.Ab
/-- a number's text -/
noncomputable def tx (n : Int) : List UInt8 := Lib.decDigits n.toNat
theorem decDigits_le : ∀ (k n : Nat), n < 10 ^ (k + 1) → (Lib.decDigits n).length ≤ k + 1
  | 0, n, h => by
    rw [Lib.decDigits, dif_pos (by omega)]
    simp
  | k + 1, n, h => by
    rw [Lib.decDigits]
    split
    · simp
    · have := decDigits_le k (n / 10) (by rw [Nat.pow_succ] at h; omega)
      simp only [List.length_append, List.length_singleton]
      omega
theorem dig_eq {n : Nat} (h : n < 10) : toB [IntKind.u8.wrap (IntKind.i64.wrap (48 + (n : Int)))] = [UInt8.ofNat (48 + n)] := by
  rw [w64 (by omega)]
  have : IntKind.u8.wrap (48 + (n : Int)) = 48 + (n : Int) := by simp [IntKind.wrap, IntKind.signed, IntKind.bits]; omega
  rw [this]
  simp only [toB, List.map_cons, List.map_nil]
  congr 2
theorem tx_len {n : Int} (h0 : 0 ≤ n) (h1 : n ≤ 9223372036854775807) : (tx n).length ≤ 19 := by
  unfold tx
  exact decDigits_le 18 _ (by omega)
theorem tx_pos (n : Int) : 0 < (tx n).length := by
  unfold tx
  rw [Lib.decDigits]
  split <;> simp
end Go.Proofs.YtbhbmgmnnkcmcaaDoor
/- A text cut at a byte. -/
namespace Go.Proofs.YtbhbmgmnnkcmcaaDoor
open Go Go.Ab
def consH (b : UInt8) : List (List UInt8) → List (List UInt8)
  | [] => [[b]]
  | p :: r => (b :: p) :: r
/-- the pieces of a text between the bytes c -/
def pcs (c : UInt8) : List UInt8 → List (List UInt8)
  | [] => [[]]
  | b :: l => if b = c then [] :: pcs c l else consH b (pcs c l)
theorem pcs_ne (c : UInt8) (s : List UInt8) : pcs c s ≠ [] := by
  cases s with
  | nil => simp [pcs]
  | cons b l =>
    unfold pcs
    split
    · simp
    · cases pcs c l <;> simp [consH]
theorem pcs_no {c : UInt8} : ∀ {p : List UInt8}, c ∉ p → pcs c p = [p]
  | [], _ => rfl
  | b :: l, h => by
    have h1 : ¬ b = c := fun e => h (by simp [e])
    have h2 : c ∉ l := fun e => h (by simp [e])
    rw [pcs, if_neg h1, pcs_no h2]; rfl
theorem pcs_app {c : UInt8} (q : List UInt8) : ∀ (p : List UInt8), pcs c (p ++ c :: q) = pcs c p ++ pcs c q
  | [] => by simp [pcs]
  | b :: l => by
    rw [List.cons_append, pcs, pcs, pcs_app q l]
    split
    · rfl
    · cases h : pcs c l with
      | nil => exact absurd h (pcs_ne c l)
      | cons x r => rfl
theorem pcs_mem {c : UInt8} : ∀ {s p : List UInt8}, p ∈ pcs c s → c ∉ p
  | [], p, h => by simp [pcs] at h; simp [h]
  | b :: l, p, h => by
    rw [pcs] at h
    split at h
    · rcases List.mem_cons.1 h with rfl | h
      · simp
      · exact pcs_mem h
    · rename_i hb
      cases hp : pcs c l with
      | nil => exact absurd hp (pcs_ne c l)
      | cons x r =>
        rw [hp] at h
        have ih : ∀ q, q ∈ x :: r → c ∉ q := fun q hq => pcs_mem (hp ▸ hq)
        rcases List.mem_cons.1 h with rfl | h
        · intro hc
          rcases List.mem_cons.1 hc with e | e
          · exact hb e.symm
          · exact ih x (by simp) e
        · exact ih p (by simp [h])
theorem pcs_join {c : UInt8} : ∀ (s : List UInt8), Lib.join (pcs c s) [c] = s
  | [] => by simp [pcs, Lib.join]
  | b :: l => by
    have ih := pcs_join (c := c) l
    rw [pcs]
    split
    · rename_i hb
      cases hp : pcs c l with
      | nil => exact absurd hp (pcs_ne c l)
      | cons x r =>
        rw [hp] at ih
        rw [Lib.join_cons] at ih ⊢
        simp only [Lib.joinTail, List.map_cons, List.flatten_cons, List.nil_append, List.cons_append] at ih ⊢
        rw [hb, ih]
    · cases hp : pcs c l with
      | nil => exact absurd hp (pcs_ne c l)
      | cons x r =>
        rw [hp] at ih
        unfold consH
        rw [Lib.join_cons] at ih ⊢
        rw [List.cons_append, ih]
theorem pcs_len {c : UInt8} : ∀ (s : List UInt8), (pcs c s).length ≤ s.length + 1
  | [] => by simp [pcs]
  | b :: l => by
    have ih := pcs_len (c := c) l
    rw [pcs]
    split
    · simpa using ih
    · cases hp : pcs c l with
      | nil => simp [consH]
      | cons x r => rw [hp] at ih; simp only [consH, List.length_cons] at ih ⊢; omega
theorem pcs_sub {c : UInt8} : ∀ {s p : List UInt8}, p ∈ pcs c s → p.length ≤ s.length
  | [], p, h => by simp [pcs] at h; simp [h]
  | b :: l, p, h => by
    rw [pcs] at h
    split at h
    · rcases List.mem_cons.1 h with rfl | h
      · simp
      · have := pcs_sub h; simp; omega
    · cases hp : pcs c l with
      | nil => exact absurd hp (pcs_ne c l)
      | cons x r =>
        rw [hp] at h
        rcases List.mem_cons.1 h with rfl | h
        · have := pcs_sub (c := c) (s := l) (p := x) (by simp [hp]); simp; omega
        · have := pcs_sub (c := c) (s := l) (p := p) (by simp [hp, h]); simp; omega
theorem splitK_pcs (c : UInt8) : ∀ (s : List UInt8), Lib.splitK [c] 0 (Lib.count s [c]) s = pcs c s
  | [] => by
    rw [Lib.count_miss (by simp [Lib.index])]; rfl
  | b :: l => by
    have ih := splitK_pcs c l
    by_cases hb : b = c
    · subst hb
      have hix : Lib.index (b :: l) [b] = 0 := by rw [Lib.index]; simp [List.isPrefixOf]
      rw [Lib.count_cons_eq, Nat.add_comm, Lib.splitK, hix, pcs, if_pos rfl, ← ih]
      simp
    · have hp : ([c] : List UInt8).isPrefixOf (b :: l) = false := by simp [List.isPrefixOf, Ne.symm hb]
      have hix : Lib.index (b :: l) [c] = if Lib.index l [c] == -1 then -1 else Lib.index l [c] + 1 := by rw [Lib.index, hp]; simp
      rw [Lib.count_cons_ne b c l hb, pcs, if_neg hb, ← ih]
      by_cases hm : Lib.index l [c] = -1
      · rw [Lib.count_miss hm]; rfl
      · have hge := Lib.index_ge l [c]
        obtain ⟨j, hj⟩ : ∃ j : Nat, Lib.index l [c] = j := ⟨(Lib.index l [c]).toNat, by omega⟩
        have hix' : Lib.index (b :: l) [c] = ((j + 1 : Nat) : Int) := by rw [hix, if_neg (fun e => hm (beq_iff_eq.1 e)), hj]; omega
        rw [Lib.count_hit (by simp) hj, Nat.add_comm, Lib.splitK, Lib.splitK, hix', hj, if_neg (fun e => by have := beq_iff_eq.1 e; omega), if_neg (fun e => by have := beq_iff_eq.1 e; omega)]
        simp only [Int.toNat_natCast, Nat.add_zero, List.length_singleton, consH, List.take_succ_cons]
        simp
theorem split_i {s : List UInt8} (c : UInt8) (h : s.length ≤ 1048576) : splitI s [c] = some (pcs c s) := by
  unfold splitI
  rw [if_pos ⟨by omega, by simp⟩, Lib.splitB_data]
  congr 1
  exact splitK_pcs c s
theorem slc_some {τ : Type} {xs : List τ} {a b : Nat} (h1 : a ≤ b) (h2 : b ≤ xs.length) : slc xs (a : Int) (b : Int) = some ((xs.drop a).take (b - a)) := by
  unfold slc
  rw [if_pos ⟨by omega, by omega, by omega⟩, Int.toNat_natCast, Int.toNat_natCast]
theorem split_s {s : List UInt8} (c : UInt8) (h : s.length ≤ 1048576) : spec_l01Split s (c.toNat : Int) = some (pcs c s) := by
  obtain ⟨r, r1, a, r2, r3, r4, r5⟩ := Lw_meas (tb := spec_l01Split_b1 s (c.toNat : Int)) (fun x => s.length - x.2.1.toNat)
    (fun x => ∃ a i : Nat, x.1 = a ∧ x.2.1 = i ∧ a ≤ i ∧ i ≤ s.length ∧ x.2.2.length ≤ i ∧ c ∉ (s.drop a).take (i - a) ∧ x.2.2 ++ pcs c (s.drop a) = pcs c s)
    (fun r => ∃ a : Nat, r.1 = a ∧ a ≤ s.length ∧ r.2.length ≤ s.length ∧ r.2 ++ [s.drop a] = pcs c s)
    (by
      rintro ⟨a', i', o⟩ ⟨a, i, e1, e2, h1, h2, h3, h4, h5⟩
      simp only at e1 e2 h3 h5
      subst e1 e2
      by_cases hi : i < s.length
      · have hr : rd s (i : Int) = some s[i] := by rw [rd_coe, List.getElem?_eq_getElem hi]
        have w := w64s hi (by omega)
        have hd : (s.drop a).drop (i - a) = s[i] :: s.drop (i + 1) := by rw [List.drop_drop, show a + (i - a) = i by omega, List.drop_eq_getElem_cons hi]
        have hsp : s.drop a = (s.drop a).take (i - a) ++ s[i] :: s.drop (i + 1) := by rw [← hd, List.take_append_drop]
        left
        by_cases hc : s[i] = c
        · have hs := slc_some (xs := s) h1 (Nat.le_of_lt hi)
          have ap : app 16 o [(s.drop a).take (i - a)] = some (o ++ [(s.drop a).take (i - a)]) := app_some (by simp; omega) (by decide)
          refine ⟨(((i + 1 : Nat) : Int), ((i + 1 : Nat) : Int), o ++ [(s.drop a).take (i - a)]), ?_, ⟨i + 1, i + 1, rfl, rfl, Nat.le_refl _, hi, by simp; omega, by simp, ?_⟩, by simp; omega⟩
          · simp only [spec_l01Split_b1, hr, hs, ap, w, Option.bind_some]
            rw [if_pos (by simpa using hi), if_pos (by simp [hc])]
          · have e := congrArg (pcs c) hsp
            rw [hc, pcs_app, pcs_no h4] at e
            rw [← h5, e, List.append_assoc]
        · have hc2 : ¬ ((s[i].toNat : Int) = (c.toNat : Int)) := fun e => hc (UInt8.toNat_inj.1 (by omega))
          refine ⟨((a : Int), ((i + 1 : Nat) : Int), o), ?_, ⟨a, i + 1, rfl, rfl, by omega, hi, by simp only; omega, ?_, h5⟩, by simp; omega⟩
          · simp only [spec_l01Split_b1, hr, w, Option.bind_some]
            rw [if_pos (by simpa using hi), if_neg (by simpa using hc2)]
          · have e : (s.drop a).take (i + 1 - a) = (s.drop a).take (i - a) ++ [s[i]] := by
              have hl : i - a < (s.drop a).length := by simp; omega
              rw [show i + 1 - a = (i - a) + 1 by omega, List.take_succ_eq_append_getElem hl]
              congr 2
              rw [List.getElem_drop]; congr 1; omega
            rw [e, List.mem_append, List.mem_singleton]
            rintro (g | g)
            · exact h4 g
            · exact hc g.symm
      · have hie : i = s.length := by omega
        subst hie
        refine .inr ⟨((a : Int), o), by simp [spec_l01Split_b1], a, rfl, h1, h3, ?_⟩
        have e : (s.drop a).take (s.length - a) = s.drop a := List.take_of_length_le (by simp)
        rw [e] at h4
        rw [← h5, pcs_no h4])
    _ (0, 0, []) rfl ⟨0, 0, rfl, rfl, Nat.le_refl _, by omega, by simp, by simp, by simp⟩
  unfold spec_l01Split
  rw [r1, Option.bind_some]
  dsimp only
  rw [r2, slc_some r3 (Nat.le_refl _), Option.bind_some, List.take_of_length_le (by simp), app_some (by simp; omega) (by decide), r5]
  rfl
theorem index_no {c : UInt8} : ∀ {s : List UInt8}, c ∉ s → Lib.indexByte s c = -1
  | [], _ => rfl
  | b :: l, h => by
    have h1 : ¬ b = c := fun e => h (by simp [e])
    have h2 : c ∉ l := fun e => h (by simp [e])
    rw [Lib.indexByte, if_neg (by simpa using h1), index_no h2]; rfl
theorem index_at {c : UInt8} (b : List UInt8) : ∀ {a : List UInt8}, c ∉ a → Lib.indexByte (a ++ c :: b) c = (a.length : Int)
  | [], _ => by simp [Lib.indexByte]
  | x :: l, h => by
    have h1 : ¬ x = c := fun e => h (by simp [e])
    have h2 : c ∉ l := fun e => h (by simp [e])
    rw [List.cons_append, Lib.indexByte, if_neg (by simpa using h1), index_at b h2, if_neg (fun e => by have := beq_iff_eq.1 e; omega)]
    simp
theorem cut_only {s : List UInt8} (h : s.length ≤ 1048576) : ∃ a b f, cutI s [32] = some (a, b, f) ∧ b.length ≤ s.length ∧ ((f = true ∧ s = a ++ 32 :: b ∧ 32 ∉ a) ∨ (f = false ∧ a = s ∧ b = [] ∧ 32 ∉ a)) := by
  unfold cutI Lib.cut
  rw [if_pos (by omega), Lib.index_one]
  by_cases hm : (32 : UInt8) ∈ s
  · obtain ⟨a, b, rfl, ha⟩ := List.eq_append_cons_of_mem hm
    rw [index_at b ha, if_pos (by omega)]
    exact ⟨a, b, true, by simp, by simp; omega, .inl ⟨rfl, rfl, ha⟩⟩
  · rw [index_no hm, if_neg (by omega)]
    exact ⟨s, [], false, rfl, by simp, .inr ⟨rfl, rfl, rfl, hm⟩⟩
end Go.Proofs.YtbhbmgmnnkcmcaaDoor
/- Numbers and amounts read. -/
namespace Go.Proofs.YtbhbmgmnnkcmcaaDoor
open Go Go.Ab
def val (l : List UInt8) : Nat := l.foldl (fun a b => 10 * a + (b.toNat - 48)) 0
theorem val_snoc (l : List UInt8) (b : UInt8) : val (l ++ [b]) = 10 * val l + (b.toNat - 48) := by unfold val; rw [List.foldl_append]; rfl
theorem dig_nat {n : Nat} (h : n < 10) : (UInt8.ofNat (48 + n)).toNat = 48 + n := by rw [UInt8.toNat_ofNat']; omega
theorem val_dec (n : Nat) : val (Lib.decDigits n) = n := by
  induction n using Nat.strongRecOn with
  | _ n ih =>
    rw [Lib.decDigits]
    by_cases h : n < 10
    · rw [dif_pos h]
      show 10 * 0 + ((UInt8.ofNat (48 + n)).toNat - 48) = n
      rw [dig_nat h]; omega
    · rw [dif_neg h, val_snoc, ih (n / 10) (by omega), dig_nat (by omega)]; omega
theorem dig_dec (n : Nat) : ∀ b ∈ Lib.decDigits n, 48 ≤ b.toNat ∧ b.toNat ≤ 57 := by
  induction n using Nat.strongRecOn with
  | _ n ih =>
    rw [Lib.decDigits]
    by_cases h : n < 10
    · rw [dif_pos h]
      intro b hb
      rw [List.mem_singleton.1 hb, dig_nat h]; omega
    · rw [dif_neg h]
      intro b hb
      rcases List.mem_append.1 hb with hb | hb
      · exact ih (n / 10) (by omega) b hb
      · rw [List.mem_singleton.1 hb, dig_nat (by omega)]; omega
theorem head_dec (n : Nat) (h1 : 1 ≤ n) : ∀ b, (Lib.decDigits n)[0]? = some b → b.toNat ≠ 48 := by
  induction n using Nat.strongRecOn with
  | _ n ih =>
    rw [Lib.decDigits]
    by_cases h : n < 10
    · rw [dif_pos h]
      intro b hb
      have : UInt8.ofNat (48 + n) = b := by simpa using hb
      rw [← this, dig_nat h]; omega
    · rw [dif_neg h]
      intro b hb
      have hl : 0 < (Lib.decDigits (n / 10)).length := by have := tx_pos ((n / 10 : Nat) : Int); unfold tx at this; rw [Int.toNat_natCast] at this; exact this
      rw [List.getElem?_append_left hl] at hb
      exact ih (n / 10) (by omega) (by omega) b hb
theorem val_take (l : List UInt8) (h : ∀ b ∈ l, 48 ≤ b.toNat ∧ b.toNat ≤ 57) : ∀ k, k ≤ l.length → val (l.take k) < 10 ^ k
  | 0, _ => by simp [val]
  | k + 1, hk => by
    have ih := val_take l h k (by omega)
    have hb := h _ (List.getElem_mem (show k < l.length by omega))
    rw [List.take_succ_eq_append_getElem (by omega), val_snoc, Nat.pow_succ]
    omega
theorem u8_dig {b : UInt8} (h : 48 ≤ b.toNat ∧ b.toNat ≤ 57) : IntKind.i64.wrap (IntKind.u8.wrap ((b.toNat : Int) - 48)) = ((b.toNat - 48 : Nat) : Int) := by
  have : IntKind.u8.wrap ((b.toNat : Int) - 48) = (b.toNat : Int) - 48 := by simp [IntKind.wrap, IntKind.signed, IntKind.bits]; omega
  rw [this, w64 (by omega)]; omega
theorem num_loop (l : List UInt8) (h : ∀ b ∈ l, 48 ≤ b.toNat ∧ b.toNat ≤ 57) (hl : l.length ≤ 10) :
    Lw (impl_number_b1 l) (0, 0) = some (.inr (val l : Int)) ∧ Lw (spec_l01Number_b1 l) (0, 0) = some (.inr (val l : Int)) := by
  have step : ∀ k (hk : k < l.length), impl_number_b1 l ((val (l.take k) : Int), (k : Int)) = some (.inl ((val (l.take (k + 1)) : Int), ((k + 1 : Nat) : Int))) ∧ spec_l01Number_b1 l ((val (l.take k) : Int), (k : Int)) = some (.inl ((val (l.take (k + 1)) : Int), ((k + 1 : Nat) : Int))) := by
    intro k hk
    have hb := h _ (List.getElem_mem hk)
    have hv := val_take l h k (by omega)
    have hp : 10 ^ k ≤ 10 ^ 9 := Nat.pow_le_pow_right (by decide) (by omega)
    have hr : rd l (k : Int) = some l[k] := by rw [rd_coe, List.getElem?_eq_getElem hk]
    have w := w64s hk (by omega)
    have u := u8_dig hb
    have hs : val (l.take (k + 1)) = 10 * val (l.take k) + (l[k].toNat - 48) := by rw [List.take_succ_eq_append_getElem hk, val_snoc]
    have c0 : decide ((k : Int) < (l.length : Int)) = true := decide_eq_true (by omega)
    have c1 : decide ((l[k].toNat : Int) < 48) = false := decide_eq_false (by omega)
    have c2 : decide ((l[k].toNat : Int) > 57) = false := decide_eq_false (by omega)
    have m1 : IntKind.i64.wrap ((val (l.take k) : Int) * 10) = ((10 * val (l.take k) : Nat) : Int) := by rw [w64 (by omega)]; omega
    have m2 : IntKind.i64.wrap (10 * (val (l.take k) : Int)) = ((10 * val (l.take k) : Nat) : Int) := by rw [w64 (by omega)]; omega
    have m3 : IntKind.i64.wrap (((10 * val (l.take k) : Nat) : Int) + ((l[k].toNat - 48 : Nat) : Int)) = ((val (l.take (k + 1)) : Nat) : Int) := by rw [hs, w64 (by omega)]; omega
    constructor
    · simp only [impl_number_b1, hr, Option.bind_some, c0, c1, c2, if_true, Bool.false_eq_true, if_false, u, m1, m3, w]
    · simp only [spec_l01Number_b1, hr, Option.bind_some, c0, c1, c2, if_true, Bool.false_eq_true, if_false, u, m2, m3, w]
  have e1 := Lw_run (tb := impl_number_b1 l) (fun k => ((val (l.take k) : Int), (k : Int))) l.length (r := .inr (val l : Int)) (fun k hk => (step k hk).1) (by rw [List.take_length]; simp [impl_number_b1])
  have e2 := Lw_run (tb := spec_l01Number_b1 l) (fun k => ((val (l.take k) : Int), (k : Int))) l.length (r := .inr (val l : Int)) (fun k hk => (step k hk).2) (by rw [List.take_length]; simp [spec_l01Number_b1])
  exact ⟨e1, e2⟩
theorem num_ok {m : Int} (h0 : 0 ≤ m) (h1 : m ≤ 1000000) : impl_number (tx m) = some (m, true) ∧ spec_l01Number (tx m) = some (m, true) := by
  obtain ⟨n, rfl⟩ : ∃ n : Nat, m = n := ⟨m.toNat, by omega⟩
  have hp := tx_pos (n : Int)
  have hl : (tx (n : Int)).length ≤ 7 := decDigits_le 6 _ (by simp; omega)
  have hd : ∀ b ∈ tx (n : Int), 48 ≤ b.toNat ∧ b.toNat ≤ 57 := dig_dec _
  obtain ⟨l1, l2⟩ := num_loop (tx (n : Int)) hd (by omega)
  have hv : val (tx (n : Int)) = n := val_dec n
  rw [hv] at l1 l2
  have hne : tx (n : Int) ≠ [] := fun e => by rw [e] at hp; simp at hp
  have hr : rd (tx (n : Int)) 0 = some ((tx (n : Int))[0]'hp) := by rw [rd_zero, List.getElem?_eq_getElem hp]
  have hz : ((tx (n : Int))[0]'hp).toNat = 48 → (tx (n : Int)).length ≤ 1 := by
    intro e
    by_cases hn : 1 ≤ n
    · exact absurd e (head_dec n hn _ (List.getElem?_eq_getElem hp))
    · obtain rfl : n = 0 := by omega
      unfold tx; rw [Lib.decDigits, dif_pos (by decide)]; simp
  constructor
  · unfold impl_number
    rw [if_neg (by simpa using hne), if_neg (by simp; omega), hr, Option.bind_some]
    by_cases c : ((tx (n : Int))[0]'hp).toNat = 48
    · have := hz c
      rw [if_pos (by simp [c]), if_neg (by simp; omega)]
      simp only [Option.bind_some, l1]
    · rw [if_neg (by simp; omega)]
      simp only [Option.bind_some, l1]
  · unfold spec_l01Number
    rw [if_neg (by simpa using hne), if_neg (by simp; omega), hr, Option.bind_some]
    by_cases c : ((tx (n : Int))[0]'hp).toNat = 48
    · have := hz c
      rw [if_pos (by simp [c]), if_neg (by simp; omega)]
      simp only [Option.bind_some, l2]
    · rw [if_neg (by simp; omega)]
      simp only [Option.bind_some, l2]
theorem num_tot (t : List UInt8) (ht : t.length ≤ 1048576) : (∃ r, impl_number t = some r) ∧ ∃ r, spec_l01Number t = some r := by
  obtain ⟨r1, e1, _⟩ := Lw_meas (tb := impl_number_b1 t) (fun s => t.length - s.2.toNat) (fun s => ∃ i : Nat, s.2 = i ∧ i ≤ t.length) (fun _ => True)
    (by
      rintro ⟨a, j⟩ ⟨i, hi, hl⟩
      simp only at hi
      subst hi
      by_cases hlt : i < t.length
      · have hr : rd t (i : Int) = some t[i] := by rw [rd_coe, List.getElem?_eq_getElem hlt]
        have w := w64s hlt (by omega)
        by_cases c1 : (t[i].toNat : Int) < 48
        · exact .inr ⟨.inl (), by simp [impl_number_b1, hr, hlt, c1], trivial⟩
        · by_cases c2 : (t[i].toNat : Int) > 57
          · exact .inr ⟨.inl (), by simp [impl_number_b1, hr, hlt, c1, c2], trivial⟩
          · exact .inl ⟨_, by simp only [impl_number_b1, hr, Option.bind_some, w]; rw [if_pos (decide_eq_true (by omega)), if_neg (by simpa using c1), if_neg (by simpa using c2)], ⟨i + 1, rfl, hlt⟩, by simp; omega⟩
      · have : i = t.length := by omega
        subst this
        exact .inr ⟨.inr a, by simp [impl_number_b1], trivial⟩) _ (0, 0) rfl ⟨0, rfl, by omega⟩
  obtain ⟨r2, e2, _⟩ := Lw_meas (tb := spec_l01Number_b1 t) (fun s => t.length - s.2.toNat) (fun s => ∃ i : Nat, s.2 = i ∧ i ≤ t.length) (fun _ => True)
    (by
      rintro ⟨a, j⟩ ⟨i, hi, hl⟩
      simp only at hi
      subst hi
      by_cases hlt : i < t.length
      · have hr : rd t (i : Int) = some t[i] := by rw [rd_coe, List.getElem?_eq_getElem hlt]
        have w := w64s hlt (by omega)
        by_cases c1 : (t[i].toNat : Int) < 48
        · exact .inr ⟨.inl (), by simp [spec_l01Number_b1, hr, hlt, c1], trivial⟩
        · by_cases c2 : (t[i].toNat : Int) > 57
          · exact .inr ⟨.inl (), by simp [spec_l01Number_b1, hr, hlt, c1, c2], trivial⟩
          · exact .inl ⟨_, by simp only [spec_l01Number_b1, hr, Option.bind_some, w]; rw [if_pos (decide_eq_true (by omega)), if_neg (by simpa using c1), if_neg (by simpa using c2)], ⟨i + 1, rfl, hlt⟩, by simp; omega⟩
      · have : i = t.length := by omega
        subst this
        exact .inr ⟨.inr a, by simp [spec_l01Number_b1], trivial⟩) _ (0, 0) rfl ⟨0, rfl, by omega⟩
  constructor
  · unfold impl_number
    rw [e1]
    by_cases hn : t = []
    · exact ⟨_, by rw [if_pos (by simpa using hn)]; rfl⟩
    · have hp : 0 < t.length := List.length_pos_iff.2 hn
      have hr : rd t 0 = some t[0] := by rw [rd_zero, List.getElem?_eq_getElem hp]
      rw [if_neg (by simpa using hn), hr]
      rcases r1 with r1 | r1 <;> (repeat' split) <;> simp only [Option.bind_some] <;> (repeat' split) <;> first | exact ⟨_, rfl⟩ | simp_all
  · unfold spec_l01Number
    rw [e2]
    by_cases hn : t = []
    · exact ⟨_, by rw [if_pos (by simpa using hn)]; rfl⟩
    · have hp : 0 < t.length := List.length_pos_iff.2 hn
      have hr : rd t 0 = some t[0] := by rw [rd_zero, List.getElem?_eq_getElem hp]
      rw [if_neg (by simpa using hn), hr]
      rcases r2 with r2 | r2 <;> (repeat' split) <;> simp only [Option.bind_some] <;> (repeat' split) <;> first | exact ⟨_, rfl⟩ | simp_all
end Go.Proofs.YtbhbmgmnnkcmcaaDoor
/- Numbers read, whatever the text. -/
namespace Go.Proofs.YtbhbmgmnnkcmcaaDoor
open Go Go.Ab
def DG (t : List UInt8) : Prop := ∀ b ∈ t, 48 ≤ b.toNat ∧ b.toNat ≤ 57
theorem fold_ge : ∀ (l : List UInt8) (a : Nat), a * 10 ^ l.length ≤ l.foldl (fun a b => 10 * a + (b.toNat - 48)) a
  | [], a => by simp
  | b :: l, a => by
    have ih := fold_ge l (10 * a + (b.toNat - 48))
    rw [List.foldl_cons, List.length_cons, Nat.pow_succ]
    have : a * (10 ^ l.length * 10) ≤ (10 * a + (b.toNat - 48)) * 10 ^ l.length := by
      rw [Nat.add_mul]
      have e : a * (10 ^ l.length * 10) = 10 * a * 10 ^ l.length := by
        rw [Nat.mul_comm (10 ^ l.length) 10, ← Nat.mul_assoc, Nat.mul_comm a 10]
      omega
    omega
theorem num_bad (t : List UInt8) (ht : t.length ≤ 1048576) (h : ¬ DG t) : Lw (impl_number_b1 t) (0, 0) = some (.inl ()) ∧ Lw (spec_l01Number_b1 t) (0, 0) = some (.inl ()) := by
  constructor
  · obtain ⟨r, e, q⟩ := Lw_meas (tb := impl_number_b1 t) (fun s => t.length - s.2.toNat) (fun s => ∃ i : Nat, s.2 = i ∧ i ≤ t.length ∧ DG (t.take i)) (fun r => r = .inl ())
      (by
        rintro ⟨a, j⟩ ⟨i, hi, hl, hd⟩
        simp only at hi
        subst hi
        by_cases hlt : i < t.length
        · have hr : rd t (i : Int) = some t[i] := by rw [rd_coe, List.getElem?_eq_getElem hlt]
          have w := w64s hlt (by omega)
          have c0 : decide ((i : Int) < (t.length : Int)) = true := decide_eq_true (by omega)
          by_cases c1 : (t[i].toNat : Int) < 48
          · exact .inr ⟨.inl (), by simp only [impl_number_b1, hr, c0, Option.bind_some, if_true]; rw [if_pos (decide_eq_true c1)], rfl⟩
          · by_cases c2 : (t[i].toNat : Int) > 57
            · exact .inr ⟨.inl (), by simp only [impl_number_b1, hr, c0, Option.bind_some, if_true]; rw [if_neg (by simpa using c1), if_pos (decide_eq_true c2)], rfl⟩
            · refine .inl ⟨_, by simp only [impl_number_b1, hr, c0, Option.bind_some, if_true, w]; rw [if_neg (by simpa using c1), if_neg (by simpa using c2)], ⟨i + 1, rfl, hlt, ?_⟩, by simp; omega⟩
              rw [List.take_succ_eq_append_getElem hlt]
              intro b hb
              rcases List.mem_append.1 hb with hb | hb
              · exact hd b hb
              · rw [List.mem_singleton.1 hb]; omega
        · exact absurd (by rw [List.take_of_length_le (by omega)] at hd; exact hd) h) _ (0, 0) rfl ⟨0, rfl, by omega, fun b hb => by simp at hb⟩
    rw [e, q]
  · obtain ⟨r, e, q⟩ := Lw_meas (tb := spec_l01Number_b1 t) (fun s => t.length - s.2.toNat) (fun s => ∃ i : Nat, s.2 = i ∧ i ≤ t.length ∧ DG (t.take i)) (fun r => r = .inl ())
      (by
        rintro ⟨a, j⟩ ⟨i, hi, hl, hd⟩
        simp only at hi
        subst hi
        by_cases hlt : i < t.length
        · have hr : rd t (i : Int) = some t[i] := by rw [rd_coe, List.getElem?_eq_getElem hlt]
          have w := w64s hlt (by omega)
          have c0 : decide ((i : Int) < (t.length : Int)) = true := decide_eq_true (by omega)
          by_cases c1 : (t[i].toNat : Int) < 48
          · exact .inr ⟨.inl (), by simp only [spec_l01Number_b1, hr, c0, Option.bind_some, if_true]; rw [if_pos (decide_eq_true c1)], rfl⟩
          · by_cases c2 : (t[i].toNat : Int) > 57
            · exact .inr ⟨.inl (), by simp only [spec_l01Number_b1, hr, c0, Option.bind_some, if_true]; rw [if_neg (by simpa using c1), if_pos (decide_eq_true c2)], rfl⟩
            · refine .inl ⟨_, by simp only [spec_l01Number_b1, hr, c0, Option.bind_some, if_true, w]; rw [if_neg (by simpa using c1), if_neg (by simpa using c2)], ⟨i + 1, rfl, hlt, ?_⟩, by simp; omega⟩
              rw [List.take_succ_eq_append_getElem hlt]
              intro b hb
              rcases List.mem_append.1 hb with hb | hb
              · exact hd b hb
              · rw [List.mem_singleton.1 hb]; omega
        · exact absurd (by rw [List.take_of_length_le (by omega)] at hd; exact hd) h) _ (0, 0) rfl ⟨0, rfl, by omega, fun b hb => by simp at hb⟩
    rw [e, q]
theorem num_rel (t : List UInt8) (ht : t.length ≤ 1048576) : (∃ v : Int, 0 ≤ v ∧ impl_number t = some (v, true) ∧ spec_l01Number t = some (v, true)) ∨ (∃ w : Int, w > 200 ∧ impl_number t = some (0, false) ∧ spec_l01Number t = some (w, true)) ∨ (impl_number t = some (0, false) ∧ spec_l01Number t = some (0, false)) := by
  by_cases hn : t = []
  · subst hn; exact .inr (.inr ⟨rfl, rfl⟩)
  have hp : 0 < t.length := List.length_pos_iff.2 hn
  have ne : (t == ([] : List UInt8)) = false := by simpa using hn
  have hr : rd t 0 = some t[0] := by rw [rd_zero, List.getElem?_eq_getElem hp]
  by_cases h10 : t.length > 10
  · have c1 : decide ((t.length : Int) > 9) = true := decide_eq_true (by omega)
    have c2 : decide ((t.length : Int) > 10) = true := decide_eq_true (by omega)
    right; right
    constructor
    · unfold impl_number; simp only [ne, c1, Bool.false_eq_true, if_false, if_true, Option.bind_some]
    · unfold spec_l01Number; simp only [ne, c2, Bool.false_eq_true, if_false, if_true, Option.bind_some]
  have c2 : decide ((t.length : Int) > 10) = false := decide_eq_false (by omega)
  by_cases hz : t[0].toNat = 48 ∧ t.length > 1
  · have z1 : ((t[0].toNat : Int) == 48) = true := by rw [beq_iff_eq]; omega
    have z2 : decide ((t.length : Int) > 1) = true := decide_eq_true (by omega)
    right; right
    constructor
    · unfold impl_number
      by_cases h9 : t.length > 9
      · have c1 : decide ((t.length : Int) > 9) = true := decide_eq_true (by omega)
        simp only [ne, c1, Bool.false_eq_true, if_false, if_true, Option.bind_some]
      · have c1 : decide ((t.length : Int) > 9) = false := decide_eq_false (by omega)
        simp only [ne, c1, hr, z1, z2, Bool.false_eq_true, if_false, if_true, Option.bind_some]
    · unfold spec_l01Number; simp only [ne, c2, hr, z1, z2, Bool.false_eq_true, if_false, if_true, Option.bind_some]
  have key : ((if ((t[0].toNat : Int) == 48) = true then
      if (decide ((t.length : Int) > 1)) = true then some (.inl ()) else some (.inr (decide ((t.length : Int) > 1)))
     else some (.inr false) : Option (Unit ⊕ Bool))) = some (.inr false) := by
    by_cases z1 : t[0].toNat = 48
    · have z2 : decide ((t.length : Int) > 1) = false := decide_eq_false (by omega)
      rw [if_pos (by rw [beq_iff_eq]; omega), if_neg (by simp [z2]), z2]
    · rw [if_neg (by rw [beq_iff_eq]; omega)]
  by_cases hd : DG t
  · obtain ⟨l1, l2⟩ := num_loop t hd (by omega)
    have sp : spec_l01Number t = some ((val t : Int), true) := by
      unfold spec_l01Number; simp only [ne, c2, hr, key, l2, Bool.false_eq_true, if_false, Option.bind_some]
    by_cases h9 : t.length > 9
    · have c1 : decide ((t.length : Int) > 9) = true := decide_eq_true (by omega)
      right; left
      refine ⟨_, ?_, by unfold impl_number; simp only [ne, c1, Bool.false_eq_true, if_false, if_true, Option.bind_some], sp⟩
      obtain ⟨b, l, rfl⟩ : ∃ b l, t = b :: l := by cases t with | nil => exact absurd rfl hn | cons b l => exact ⟨b, l, rfl⟩
      have hb := hd b (by simp)
      have hb2 : b.toNat ≠ 48 := fun e => hz ⟨e, by omega⟩
      have g := fold_ge l (10 * 0 + (b.toNat - 48))
      have hl : l.length = 9 := by simp at h9 h10; omega
      rw [hl] at g
      have : val (b :: l) = l.foldl (fun a b => 10 * a + (b.toNat - 48)) (10 * 0 + (b.toNat - 48)) := rfl
      rw [this]
      omega
    · have c1 : decide ((t.length : Int) > 9) = false := decide_eq_false (by omega)
      exact .inl ⟨_, by omega, by unfold impl_number; simp only [ne, c1, hr, key, l1, Bool.false_eq_true, if_false, Option.bind_some], sp⟩
  · obtain ⟨l1, l2⟩ := num_bad t ht hd
    right; right
    constructor
    · unfold impl_number
      by_cases h9 : t.length > 9
      · have c1 : decide ((t.length : Int) > 9) = true := decide_eq_true (by omega)
        simp only [ne, c1, Bool.false_eq_true, if_false, if_true, Option.bind_some]
      · have c1 : decide ((t.length : Int) > 9) = false := decide_eq_false (by omega)
        simp only [ne, c1, hr, key, l1, Bool.false_eq_true, if_false, Option.bind_some]
    · unfold spec_l01Number; simp only [ne, c2, hr, key, l2, Bool.false_eq_true, if_false, Option.bind_some]
end Go.Proofs.YtbhbmgmnnkcmcaaDoor
/- Notches read. -/
namespace Go.Proofs.YtbhbmgmnnkcmcaaDoor
open Go Go.Ab
theorem Lw_inv {S R : Type} {tb : S → Option (S ⊕ R)} (I : S → Prop) (Q : R → Prop) (h1 : ∀ s s', I s → tb s = some (.inl s') → I s') (h2 : ∀ s r, I s → tb s = some (.inr r) → Q r) {s : S} {r : R} (h : Lw tb s = some r) (hi : I s) : Q r := by
  obtain ⟨n, hn⟩ := Lw_iff.1 h
  clear h
  induction n generalizing s with
  | zero => simp [lpN] at hn
  | succ n ih =>
    unfold lpN at hn
    cases ht : tb s with
    | none => rw [ht] at hn; simp at hn
    | some q =>
      rw [ht] at hn
      cases q with
      | inl s' => exact ih (h1 s s' hi ht) hn
      | inr r' => cases hn; exact h2 s _ hi ht
theorem nb_cases {xs : List Notch} {s : Int} {q : Int ⊕ (Unit ⊕ Unit)} (h : spec_l01Notches_b1 xs s = some q) : q = .inr (.inl ()) ∨ q = .inl (IntKind.i64.wrap (s + 1)) ∨ (q = .inr (.inr ()) ∧ ¬ s < xs.length) := by
  unfold spec_l01Notches_b1 at h
  by_cases c : s < xs.length
  · rw [if_pos (decide_eq_true c)] at h
    obtain ⟨x, _, h⟩ := bind_some h
    obtain ⟨y, _, h⟩ := bind_some h
    by_cases c1 : y = true
    · rw [if_pos c1] at h; cases h; exact .inl rfl
    · rw [if_neg c1] at h
      by_cases c2 : s > 0
      · rw [if_pos (decide_eq_true c2)] at h
        obtain ⟨x2, _, h⟩ := bind_some h
        by_cases c3 : x.Kind > x2.Kind
        · rw [if_pos (decide_eq_true c3)] at h; cases h; exact .inl rfl
        · rw [if_neg (by simpa using c3)] at h
          obtain ⟨x3, _, h⟩ := bind_some h
          obtain ⟨e, _, h⟩ := bind_some h
          by_cases c4 : IntKind.i64.wrap x.At ≤ e
          · rw [if_pos (decide_eq_true c4)] at h; cases h; exact .inl rfl
          · rw [if_neg (by simpa using c4)] at h; cases h; exact .inr (.inl rfl)
      · rw [if_neg (by simpa using c2)] at h; cases h; exact .inr (.inl rfl)
  · rw [if_neg (by simpa using c)] at h
    cases h
    exact .inr (.inr ⟨rfl, c⟩)
theorem nb_far {xs : List Notch} {i : Nat} (hi : i < xs.length) (hk : -128 ≤ xs[i].Kind ∧ xs[i].Kind ≤ 127) (ha : 200 < xs[i].At ∧ xs[i].At ≤ 32767) : spec_l01Notches_b1 xs (i : Int) = some (.inr (.inl ())) := by
  have hr : rd xs (i : Int) = some xs[i] := by rw [rd_coe, List.getElem?_eq_getElem hi]
  have wk : IntKind.i64.wrap xs[i].Kind = xs[i].Kind := w64 (by omega)
  have wa : IntKind.i64.wrap xs[i].At = xs[i].At := w64 (by omega)
  have c0 : decide ((i : Int) < (xs.length : Int)) = true := decide_eq_true (by omega)
  have c1 : decide (xs[i].At < 0) = false := decide_eq_false (by omega)
  unfold spec_l01Notches_b1
  simp only [c0, hr, wk, l01Kind_eq, Option.bind_some, if_true]
  cases hb : inB xs[i].Kind 0 5 with
  | false => simp
  | true =>
    obtain ⟨k0, k1⟩ := inB_iff.1 hb
    obtain ⟨x, hx, x0⟩ : ∃ x : Int, rd ([1, 2, 4, 6, 9, 12] : List Int) xs[i].Kind = some x ∧ 1 ≤ x ∧ x ≤ 12 := by
      have : xs[i].Kind = 0 ∨ xs[i].Kind = 1 ∨ xs[i].Kind = 2 ∨ xs[i].Kind = 3 ∨ xs[i].Kind = 4 ∨ xs[i].Kind = 5 := by omega
      rcases this with e | e | e | e | e | e <;> rw [e] <;> exact ⟨_, rfl, by decide, by decide⟩
    have en : spec_l01Ends xs[i] = some (xs[i].At + x) := by
      unfold spec_l01Ends spec_l01Widths
      rw [Option.bind_some, hx, Option.bind_some, wa, w64 (by omega)]
    have c2 : decide (xs[i].At + x > 200) = true := decide_eq_true (by omega)
    simp only [c1, en, c2, Option.bind_some, if_true, Bool.false_eq_true, if_false]
theorem half_far (h : Half) (hk : ∀ n ∈ h.Notches, -128 ≤ n.Kind ∧ n.Kind ≤ 127) {i : Nat} (hi : i < h.Notches.length) (ha : 200 < h.Notches[i].At ∧ h.Notches[i].At ≤ 32767) : spec_l01Ok h = some false := by
  unfold spec_l01Ok spec_l01Notches
  by_cases hn : (h.Notches.length : Int) > 60
  · simp [hn]
  · obtain ⟨r, r2, _, e2, _, _⟩ := notch_loop h (by omega) hk
    have hq : r2 = .inl () := Lw_inv (tb := spec_l01Notches_b1 h.Notches) (fun s => ∃ j : Nat, s = j ∧ j ≤ i) (fun r => r = .inl ())
      (by
        rintro s s' ⟨j, rfl, hj⟩ ht
        by_cases e : j = i
        · subst e
          rw [nb_far hi (hk _ (List.getElem_mem hi)) ha] at ht
          cases ht
        · rcases nb_cases ht with q | q | ⟨q, _⟩
          · cases q
          · cases q
            exact ⟨j + 1, by rw [w64 (by omega)]; rfl, by omega⟩
          · cases q)
      (by
        rintro s r ⟨j, rfl, hj⟩ ht
        rcases nb_cases ht with q | q | ⟨q, q2⟩
        · cases q; rfl
        · cases q
        · exact absurd (by omega) q2) e2 ⟨0, rfl, by omega⟩
    subst hq
    simp [hn, e2]
/-! a notch's word -/
def LT : List UInt8 := [100, 115, 108, 118, 99, 109]
theorem idx_char (l : List UInt8) (c : UInt8) : (∃ (k : Nat) (h : k < l.length), Lib.indexByte l c = (k : Int) ∧ l[k] = c ∧ ∀ i (hi : i < l.length), i < k → l[i] ≠ c) ∨ (Lib.indexByte l c = -1 ∧ ∀ i (hi : i < l.length), l[i] ≠ c) := by
  by_cases hm : c ∈ l
  · obtain ⟨a, b, rfl, ha⟩ := List.eq_append_cons_of_mem hm
    refine .inl ⟨a.length, by simp, index_at b ha, by simp, fun i hi hia e => ha ?_⟩
    rw [List.getElem_append_left hia] at e
    rw [← e]; exact List.getElem_mem hia
  · exact .inr ⟨index_no hm, fun i hi e => hm (by rw [← e]; exact List.getElem_mem hi)⟩
theorem coe_byte (c : UInt8) : ((c.toNat : Int)).toNat.toUInt8 = c := by simp
theorem readNotch_short {w : List UInt8} (h : ¬ w.length > 1) : spec_l01ReadNotch w = some (0, 0, false) := by
  have c : decide ((w.length : Int) > 1) = false := decide_eq_false (by omega)
  have key : Lw (spec_l01ReadNotch_b1 w) (0, 0, 0) = some (.inr (0, 0)) := Lw_stop (by simp [spec_l01ReadNotch_b1, c])
  unfold spec_l01ReadNotch
  rw [key]; rfl
theorem rdLT (i : Nat) (h : i < 6) : rd ([100, 115, 108, 118, 99, 109] : List UInt8) (i : Int) = some (LT[i]'(by simpa [LT] using h)) := by
  rw [rd_coe]
  exact List.getElem?_eq_getElem (l := LT) (by simpa [LT] using h)
theorem readNotch_long {w : List UInt8} (h : w.length > 1) (hw : w.length ≤ 1048576) {v : Int} {f : Bool} (hn : spec_l01Number (w.drop 1) = some (v, f)) :
    (∀ (k : Nat) (hk : k < 6), LT[k]'(by simpa [LT] using hk) = w[0] → (∀ (i : Nat) (hi : i < 6), i < k → LT[i]'(by simpa [LT] using hi) ≠ w[0]) → spec_l01ReadNotch w = some ((k : Int), IntKind.i16.wrap (if v < 1000 then v else 1000), f)) ∧
    ((∀ (i : Nat) (hi : i < 6), LT[i]'(by simpa [LT] using hi) ≠ w[0]) → spec_l01ReadNotch w = some (0, 0, false)) := by
  have c : decide ((w.length : Int) > 1) = true := decide_eq_true (by omega)
  have hr : rd w 0 = some w[0] := by rw [rd_zero, List.getElem?_eq_getElem (by omega)]
  have sl : slc w 1 (w.length : Int) = some (w.drop 1) := by
    have := slc_some (xs := w) (a := 1) (b := w.length) (by omega) (by omega)
    rw [show (1 : Int) = ((1 : Nat) : Int) from rfl, this, List.take_of_length_le (by simp)]
  have mn : spec_l00Min v 1000 = some (if v < 1000 then v else 1000) := by
    unfold spec_l00Min
    by_cases g : v < 1000 <;> simp [g]
  have miss : ∀ (i : Nat) (hi : i < 6), LT[i]'(by simpa [LT] using hi) ≠ w[0] → spec_l01ReadNotch_b1 w ((i : Int), 0, 0) = some (.inl (((i + 1 : Nat) : Int), 0, 0)) := by
    intro i hi he
    have c0 : decide ((i : Int) < 6) = true := decide_eq_true (by omega)
    have w1 := w64s (n := 6) hi (by decide)
    have ne : (((LT[i]'(by simpa [LT] using hi)).toNat : Int) == (w[0].toNat : Int)) = false := by
      rw [beq_eq_false_iff_ne]
      exact fun e => he (UInt8.toNat_inj.1 (by omega))
    simp only [spec_l01ReadNotch_b1, spec_l01Letters, c0, c, rdLT i hi, hr, ne, w1, Option.bind_some, if_true, Bool.false_eq_true, if_false]
  constructor
  · intro k hk he hb
    have c0 : decide ((k : Int) < 6) = true := decide_eq_true (by omega)
    have i8 : IntKind.i8.wrap (k : Int) = (k : Int) := by simp [IntKind.wrap, IntKind.signed, IntKind.bits]; omega
    have eq : (((LT[k]'(by simpa [LT] using hk)).toNat : Int) == (w[0].toNat : Int)) = true := by rw [beq_iff_eq, he]
    have key := Lw_run (tb := spec_l01ReadNotch_b1 w) (fun i => ((i : Int), 0, 0)) k (r := .inl (f, (k : Int), IntKind.i16.wrap (if v < 1000 then v else 1000)))
      (fun i hi => miss i (by omega) (hb i (by omega) hi))
      (by simp only [spec_l01ReadNotch_b1, spec_l01Letters, c0, c, rdLT k hk, hr, eq, sl, hn, mn, i8, Option.bind_some, if_true])
    have key' : Lw (spec_l01ReadNotch_b1 w) (0, 0, 0) = _ := key
    unfold spec_l01ReadNotch
    rw [key']; rfl
  · intro hb
    have key := Lw_run (tb := spec_l01ReadNotch_b1 w) (fun i => ((i : Int), 0, 0)) 6 (r := .inr (0, 0))
      (fun i hi => miss i hi (hb i hi))
      (by simp [spec_l01ReadNotch_b1])
    have key' : Lw (spec_l01ReadNotch_b1 w) (0, 0, 0) = _ := key
    unfold spec_l01ReadNotch
    rw [key']; rfl
def NG (w : List UInt8) (n : Notch) : Prop := (0 ≤ n.Kind ∧ n.Kind ≤ 5) ∧ (0 ≤ n.At ∧ n.At ≤ 200) ∧ (∃ h : 0 < w.length, Lib.indexByte LT w[0] = n.Kind) ∧ impl_number (w.drop 1) = some (n.At, true) ∧ spec_l01ReadNotch w = some (n.Kind, n.At, true)
def NB (w : List UInt8) : Prop := (∀ h : 0 < w.length, ∃ v f, impl_number (w.drop 1) = some (v, f) ∧ (Lib.indexByte LT w[0] < 0 ∨ f = false ∨ v > 200)) ∧
  ((∃ x y, spec_l01ReadNotch w = some (x, y, false)) ∨ ∃ k a : Int, spec_l01ReadNotch w = some (k, a, true) ∧ (0 ≤ k ∧ k ≤ 5) ∧ 200 < a ∧ a ≤ 1000)
theorem word_cases (w : List UInt8) (hw : w.length ≤ 1048576) : (∃ n, NG w n) ∨ NB w := by
  by_cases h1 : w.length > 1
  · have i16 : ∀ v : Int, 0 ≤ v → v ≤ 1000 → IntKind.i16.wrap v = v := fun v h0 h1 => by simp [IntKind.wrap, IntKind.signed, IntKind.bits]; omega
    rcases idx_char LT w[0] with ⟨k, hk, e1, e2, e3⟩ | ⟨e1, e2⟩
    · have hk6 : k < 6 := by simpa [LT] using hk
      rcases num_rel (w.drop 1) (by simp; omega) with ⟨v, v0, n1, n2⟩ | ⟨v, v0, n1, n2⟩ | ⟨n1, n2⟩
      · have rn := (readNotch_long h1 hw n2).1 k hk6 e2 (fun i hi => e3 i (by simpa [LT] using hi))
        by_cases hv : v ≤ 200
        · left
          rw [if_pos (by omega), i16 v v0 (by omega)] at rn
          exact ⟨⟨(k : Int), v⟩, ⟨by simp only; omega, by simp only; omega⟩, ⟨v0, hv⟩, ⟨by omega, e1⟩, n1, rn⟩
        · right
          refine ⟨fun h => ⟨v, true, n1, .inr (.inr (by omega))⟩, .inr ⟨_, _, rn, ⟨by omega, by omega⟩, ?_⟩⟩
          by_cases h1000 : v < 1000
          · rw [if_pos h1000, i16 v v0 (by omega)]; omega
          · rw [if_neg h1000, i16 1000 (by omega) (by omega)]; omega
      · have rn := (readNotch_long h1 hw n2).1 k hk6 e2 (fun i hi => e3 i (by simpa [LT] using hi))
        right
        refine ⟨fun h => ⟨0, false, n1, .inr (.inl rfl)⟩, .inr ⟨_, _, rn, ⟨by omega, by omega⟩, ?_⟩⟩
        by_cases h1000 : v < 1000
        · rw [if_pos h1000, i16 v (by omega) (by omega)]; omega
        · rw [if_neg h1000, i16 1000 (by omega) (by omega)]; omega
      · have rn := (readNotch_long h1 hw n2).1 k hk6 e2 (fun i hi => e3 i (by simpa [LT] using hi))
        right
        exact ⟨fun h => ⟨0, false, n1, .inr (.inl rfl)⟩, .inl ⟨_, _, rn⟩⟩
    · obtain ⟨⟨⟨v, f⟩, n1⟩, ⟨v', f'⟩, n2⟩ := num_tot (w.drop 1) (by simp; omega)
      have rn := (readNotch_long h1 hw n2).2 (fun i hi => e2 i (by simpa [LT] using hi))
      right
      exact ⟨fun h => ⟨v, f, n1, .inl (by omega)⟩, .inl ⟨_, _, rn⟩⟩
  · right
    refine ⟨fun h => ?_, .inl ⟨_, _, readNotch_short h1⟩⟩
    have : w.drop 1 = [] := List.drop_eq_nil_of_le (by omega)
    rw [this]
    exact ⟨0, false, rfl, .inr (.inl rfl)⟩
end Go.Proofs.YtbhbmgmnnkcmcaaDoor
/- Halves of sticks read. -/
namespace Go.Proofs.YtbhbmgmnnkcmcaaDoor
open Go Go.Ab
theorem grain_same (W : List (List UInt8)) (w1 : List UInt8) (h1 : rd W 1 = some w1) (hl : w1.length = 16) (st : Bool) :
    ∃ r r2, Lw (impl_ReadHalf_b1 W) (0, st, Ar.rep 16 0) = some r ∧ Lw (spec_l01ReadHalf_b1 W) (0, false, Ar.rep 16 0, st, Ar.rep 16 0) = some r2 ∧
      ((r = .inl () ∧ ∃ x, r2 = .inl x) ∨ ∃ g, r = .inr (st, g) ∧ r2 = .inr (false, Ar.rep 16 0, st, g)) := by
  refine Lw_sim (tb := impl_ReadHalf_b1 W) (tb2 := spec_l01ReadHalf_b1 W) (fun s => 16 - s.1.toNat) (fun s s2 => ∃ (i : Nat) (g : Ar 16 Int), s = ((i : Int), st, g) ∧ s2 = ((i : Int), false, Ar.rep 16 0, st, g) ∧ i ≤ 16) _ ?_ _ _ _ rfl ⟨0, _, rfl, rfl, by omega⟩
  rintro s s2 ⟨i, g, rfl, rfl, hi⟩
  by_cases hlt : i < 16
  · have c0 : decide ((i : Int) < 16) = true := decide_eq_true (by omega)
    have hr : rd w1 (i : Int) = some w1[i] := by rw [rd_coe, List.getElem?_eq_getElem (by omega)]
    have ha := rdA_coe g i hlt
    have w := w64s (n := 16) hlt (by decide)
    by_cases c1 : (w1[i].toNat : Int) < 97
    · have d1 : decide ((w1[i].toNat : Int) < 97) = true := decide_eq_true c1
      exact .inr ⟨.inl (), .inl (st, g), by simp only [impl_ReadHalf_b1, c0, h1, hr, d1, Option.bind_some, if_true], by simp only [spec_l01ReadHalf_b1, c0, h1, hr, d1, Option.bind_some, if_true], .inl ⟨rfl, _, rfl⟩⟩
    · have d1 : decide ((w1[i].toNat : Int) < 97) = false := decide_eq_false c1
      by_cases c2 : (w1[i].toNat : Int) > 103
      · have d2 : decide ((w1[i].toNat : Int) > 103) = true := decide_eq_true c2
        exact .inr ⟨.inl (), .inl (st, g), by simp only [impl_ReadHalf_b1, c0, h1, hr, d1, d2, Option.bind_some, if_true, Bool.false_eq_true, if_false], by simp only [spec_l01ReadHalf_b1, c0, h1, hr, d1, d2, Option.bind_some, if_true, Bool.false_eq_true, if_false], .inl ⟨rfl, _, rfl⟩⟩
      · have d2 : decide ((w1[i].toNat : Int) > 103) = false := decide_eq_false c2
        exact .inl ⟨(((i + 1 : Nat) : Int), st, g.set (i : Int).toNat (IntKind.i8.wrap (IntKind.i8.wrap (w1[i].toNat : Int) - 100))), (((i + 1 : Nat) : Int), false, Ar.rep 16 0, st, g.set (i : Int).toNat (IntKind.i8.wrap (IntKind.i8.wrap (w1[i].toNat : Int) - 100))), by simp only [impl_ReadHalf_b1, c0, h1, hr, d1, d2, ha, w, Option.bind_some, if_true, Bool.false_eq_true, if_false], by simp only [spec_l01ReadHalf_b1, c0, h1, hr, d1, d2, ha, w, Option.bind_some, if_true, Bool.false_eq_true, if_false], ⟨i + 1, _, rfl, rfl, by omega⟩, by simp; omega⟩
  · have : i = 16 := by omega
    subst this
    exact .inr ⟨.inr (st, g), .inr (false, Ar.rep 16 0, st, g), by simp [impl_ReadHalf_b1], by simp [spec_l01ReadHalf_b1], .inr ⟨g, rfl, rfl⟩⟩
theorem notches_i (X : List (List UInt8)) (hn : X.length ≤ 1048577) (hx : ∀ w ∈ X, w.length ≤ 1048576) (st : Bool) (g : Ar 16 Int) :
    ∃ r, Lw (impl_ReadHalf_b2 X) (0, st, g, []) = some r ∧ ((r = .inl () ∧ ∃ (q : Nat) (h : q < X.length), NB X[q]) ∨ ∃ ns : List Notch, r = .inr (st, g, ns) ∧ ns.length = X.length ∧ ∀ q (h : q < X.length) (h2 : q < ns.length), NG X[q] ns[q]) := by
  refine Lw_meas (tb := impl_ReadHalf_b2 X) (fun s => X.length - s.1.toNat) (fun s => ∃ (i : Nat) (ns : List Notch), s = ((i : Int), st, g, ns) ∧ i ≤ X.length ∧ ns.length = i ∧ ∀ q (h : q < X.length) (h2 : q < ns.length), NG X[q] ns[q]) _ ?_ _ _ rfl ⟨0, [], rfl, by omega, rfl, fun q _ h2 => by simp at h2⟩
  rintro s ⟨i, ns, rfl, hi, hl, hg⟩
  by_cases hlt : i < X.length
  · have c0 : decide ((i : Int) < (X.length : Int)) = true := decide_eq_true (by omega)
    have hr : rd X (i : Int) = some X[i] := by rw [rd_coe, List.getElem?_eq_getElem hlt]
    have hxl := hx _ (List.getElem_mem hlt)
    have w := w64s hlt (by omega)
    have com : ∀ h : 0 < X[i].length, (X[i] == ([] : List UInt8)) = false ∧ rd X[i] 0 = some X[i][0] ∧ slc X[i] 1 (X[i].length : Int) = some (X[i].drop 1) ∧ strings_IndexByte [100, 115, 108, 118, 99, 109] (X[i][0].toNat : Int) = some (Lib.indexByte LT X[i][0]) := by
      intro h
      refine ⟨?_, by rw [rd_zero, List.getElem?_eq_getElem h], ?_, ?_⟩
      · rw [beq_eq_false_iff_ne]; intro e; rw [e] at h; simp at h
      · have := slc_some (xs := X[i]) (a := 1) (b := X[i].length) (by omega) (by omega)
        rw [show (1 : Int) = ((1 : Nat) : Int) from rfl, this, List.take_of_length_le (by simp)]
      · unfold strings_IndexByte idxI
        rw [coe_byte]; rfl
    rcases word_cases X[i] hxl with ⟨n, g1, g2, ⟨g3, g4⟩, g5, g6⟩ | ⟨b1, b2⟩
    · obtain ⟨k1, k2, k3, k4⟩ := com g3
      have i8 : IntKind.i8.wrap n.Kind = n.Kind := by simp [IntKind.wrap, IntKind.signed, IntKind.bits]; omega
      have i16 : IntKind.i16.wrap n.At = n.At := by simp [IntKind.wrap, IntKind.signed, IntKind.bits]; omega
      have d1 : decide (n.Kind < 0) = false := decide_eq_false (by omega)
      have d2 : decide (n.At > 200) = false := decide_eq_false (by omega)
      have ap : app 4 ns [n] = some (ns ++ [n]) := app_some (by simp; omega) (by decide)
      have eN : (⟨n.Kind, n.At⟩ : Notch) = n := rfl
      refine .inl ⟨(((i + 1 : Nat) : Int), st, g, ns ++ [n]), by simp only [impl_ReadHalf_b2, c0, hr, k1, k2, k3, k4, g4, g5, d1, d2, i8, i16, eN, ap, w, Option.bind_some, if_true, Bool.false_eq_true, if_false], ⟨i + 1, ns ++ [n], rfl, hlt, by simp [hl], fun q h h2 => ?_⟩, by simp; omega⟩
      by_cases e : q < i
      · rw [List.getElem_append_left (by omega)]
        exact hg q h (by omega)
      · have e2 : q = i := by simp at h2; omega
        subst e2
        rw [List.getElem_append_right (by omega)]
        simp only [hl, Nat.sub_self, List.getElem_cons_zero]
        exact ⟨g1, g2, ⟨g3, g4⟩, g5, g6⟩
    · right
      refine ⟨.inl (), ?_, .inl ⟨rfl, i, hlt, b1, b2⟩⟩
      by_cases he : X[i] = []
      · have k1 : (X[i] == ([] : List UInt8)) = true := by rw [he]; rfl
        simp only [impl_ReadHalf_b2, c0, hr, k1, Option.bind_some, if_true]
      · have h := List.length_pos_iff.2 he
        obtain ⟨k1, k2, k3, k4⟩ := com h
        obtain ⟨v, f, n1, n2⟩ := b1 h
        by_cases d : Lib.indexByte LT X[i][0] < 0
        · have d1 : decide (Lib.indexByte LT X[i][0] < 0) = true := decide_eq_true d
          simp only [impl_ReadHalf_b2, c0, hr, k1, k2, k3, k4, n1, d1, Option.bind_some, if_true, Bool.false_eq_true, if_false]
        · have d1 : decide (Lib.indexByte LT X[i][0] < 0) = false := decide_eq_false d
          cases f with
          | false => simp only [impl_ReadHalf_b2, c0, hr, k1, k2, k3, k4, n1, d1, Option.bind_some, if_true, Bool.false_eq_true, if_false]
          | true =>
            have hv : v > 200 := by rcases n2 with n2 | n2 | n2
                                    · exact absurd n2 d
                                    · cases n2
                                    · exact n2
            have d2 : decide (v > 200) = true := decide_eq_true hv
            simp only [impl_ReadHalf_b2, c0, hr, k1, k2, k3, k4, n1, d1, d2, Option.bind_some, if_true, Bool.false_eq_true, if_false]
  · have : i = X.length := by omega
    subst this
    have c0 : decide ((X.length : Int) < (X.length : Int)) = false := decide_eq_false (by omega)
    exact .inr ⟨.inr (st, g, ns), by simp only [impl_ReadHalf_b2, c0, Bool.false_eq_true, if_false], .inr ⟨ns, rfl, hl, hg⟩⟩
theorem notches_s (w0 w1 : List UInt8) (X : List (List UInt8)) (hn : X.length ≤ 1048577) (hx : ∀ w ∈ X, w.length ≤ 1048576) (st : Bool) (g : Ar 16 Int) :
    ∃ r, Lw (spec_l01ReadHalf_b2 (w0 :: w1 :: X)) (2, false, Ar.rep 16 0, [], st, g) = some r ∧ ((∃ a b c, r = .inl (a, b, c) ∧ ∃ (q : Nat) (h : q < X.length), ∃ x y, spec_l01ReadNotch X[q] = some (x, y, false)) ∨ ∃ ns : List Notch, r = .inr (false, Ar.rep 16 0, ns, st, g) ∧ ns.length = X.length ∧ ∀ q (h : q < X.length) (h2 : q < ns.length), spec_l01ReadNotch X[q] = some (ns[q].Kind, ns[q].At, true)) := by
  refine Lw_meas (tb := spec_l01ReadHalf_b2 (w0 :: w1 :: X)) (fun s => X.length + 2 - s.1.toNat) (fun s => ∃ (i : Nat) (ns : List Notch), s = (((i + 2 : Nat) : Int), false, Ar.rep 16 0, ns, st, g) ∧ i ≤ X.length ∧ ns.length = i ∧ ∀ q (h : q < X.length) (h2 : q < ns.length), spec_l01ReadNotch X[q] = some (ns[q].Kind, ns[q].At, true)) _ ?_ _ _ rfl ⟨0, [], rfl, by omega, rfl, fun q _ h2 => by simp at h2⟩
  rintro s ⟨i, ns, rfl, hi, hl, hg⟩
  by_cases hlt : i < X.length
  · have c0 : decide (((i + 2 : Nat) : Int) < ((w0 :: w1 :: X).length : Int)) = true := decide_eq_true (by simp only [List.length_cons]; omega)
    have hr : rd (w0 :: w1 :: X) ((i + 2 : Nat) : Int) = some X[i] := by rw [rd_coe, List.getElem?_cons_succ, List.getElem?_cons_succ, List.getElem?_eq_getElem hlt]
    have hxl := hx _ (List.getElem_mem hlt)
    have w : IntKind.i64.wrap (((i + 2 : Nat) : Int) + 1) = ((i + 1 + 2 : Nat) : Int) := by rw [w64 (by omega)]; omega
    have good : ∀ k a : Int, spec_l01ReadNotch X[i] = some (k, a, true) → spec_l01ReadHalf_b2 (w0 :: w1 :: X) (((i + 2 : Nat) : Int), false, Ar.rep 16 0, ns, st, g) = some (.inl (((i + 1 + 2 : Nat) : Int), false, Ar.rep 16 0, ns ++ [⟨k, a⟩], st, g)) ∧ ∀ q (h : q < X.length) (h2 : q < (ns ++ [(⟨k, a⟩ : Notch)]).length), spec_l01ReadNotch X[q] = some ((ns ++ [(⟨k, a⟩ : Notch)])[q].Kind, (ns ++ [(⟨k, a⟩ : Notch)])[q].At, true) := by
      intro k a e
      have ap : app 4 ns [(⟨k, a⟩ : Notch)] = some (ns ++ [⟨k, a⟩]) := app_some (by simp; omega) (by decide)
      refine ⟨by simp only [spec_l01ReadHalf_b2, c0, hr, e, ap, w, Option.bind_some, if_true], fun q h h2 => ?_⟩
      by_cases e3 : q < i
      · rw [List.getElem_append_left (by omega)]
        exact hg q h (by omega)
      · have e2 : q = i := by simp at h2; omega
        subst e2
        rw [List.getElem_append_right (by omega)]
        simp only [hl, Nat.sub_self, List.getElem_cons_zero]
        exact e
    rcases word_cases X[i] hxl with ⟨n, g1, g2, ⟨g3, g4⟩, g5, g6⟩ | ⟨_, ⟨x, y, e⟩ | ⟨k, a, e, _, _⟩⟩
    · obtain ⟨q1, q2⟩ := good _ _ g6
      exact .inl ⟨_, q1, ⟨i + 1, _, rfl, hlt, by simp [hl], q2⟩, by simp; omega⟩
    · exact .inr ⟨.inl (st, g, ns), by simp only [spec_l01ReadHalf_b2, c0, hr, e, Option.bind_some, if_true, Bool.false_eq_true, if_false], .inl ⟨_, _, _, rfl, i, hlt, x, y, e⟩⟩
    · obtain ⟨q1, q2⟩ := good _ _ e
      exact .inl ⟨_, q1, ⟨i + 1, _, rfl, hlt, by simp [hl], q2⟩, by simp; omega⟩
  · have : i = X.length := by omega
    subst this
    have c0 : decide (((X.length + 2 : Nat) : Int) < ((w0 :: w1 :: X).length : Int)) = false := decide_eq_false (by simp only [List.length_cons]; omega)
    exact .inr ⟨.inr (false, Ar.rep 16 0, ns, st, g), by simp only [spec_l01ReadHalf_b2, c0, Bool.false_eq_true, if_false], .inr ⟨ns, rfl, hl, hg⟩⟩
theorem half_same (a : List UInt8) (ha : a.length ≤ 1048576) : (∃ g g2, impl_ReadHalf a = some (.inl g) ∧ spec_ReadHalf a = some (.inl g2)) ∨ ∃ st ns g, impl_ReadHalf a = some (.inr (st, ns, g)) ∧ spec_ReadHalf a = some (.inr (st, ns, g)) ∧ HfI ⟨st, ns, g⟩ := by
  have si : strings_Split a [32] = some (pcs 32 a) := split_i (s := a) 32 ha
  have ss : spec_l01Split a 32 = some (pcs 32 a) := split_s (s := a) 32 ha
  have pn := pcs_len (c := 32) a
  have hne := pcs_ne 32 a
  have hsub : ∀ l ∈ pcs 32 a, l.length ≤ 1048576 := fun l hl => by have := pcs_sub hl; omega
  unfold spec_ReadHalf impl_ReadHalf spec_l01ReadHalf
  rw [si, ss]
  generalize pcs 32 a = W at *
  simp only [Option.bind_some]
  match W, hne, pn, hsub with
  | [], hne, _, _ => exact absurd rfl hne
  | [w0], _, _, _ => exact .inl ⟨_, _, rfl, rfl⟩
  | w0 :: w1 :: X, _, pn, hsub =>
    have hX : X.length ≤ 1048577 := by simp at pn; omega
    have hx : ∀ w ∈ X, w.length ≤ 1048576 := fun w hw => hsub w (by simp [hw])
    have c2 : decide (((w0 :: w1 :: X).length : Int) < 2) = false := decide_eq_false (by simp only [List.length_cons]; omega)
    have r0 : rd (w0 :: w1 :: X) 0 = some w0 := by rw [rd_zero]; rfl
    have r1 : rd (w0 :: w1 :: X) 1 = some w1 := rfl
    have sl : slc (w0 :: w1 :: X) 2 ((w0 :: w1 :: X).length : Int) = some X := by
      have := slc_some (xs := w0 :: w1 :: X) (a := 2) (b := (w0 :: w1 :: X).length) (by simp) (by simp)
      rw [show (2 : Int) = ((2 : Nat) : Int) from rfl, this]
      simp
    by_cases hH : (w0 = [115, 116, 111, 99, 107] ∨ w0 = [102, 111, 105, 108]) ∧ w1.length = 16
    · obtain ⟨h0, h16⟩ := hH
      have l16 : ((w1.length : Int) != 16) = false := by rw [h16]; rfl
      obtain ⟨r, r2, e1, e2, e3⟩ := grain_same (w0 :: w1 :: X) w1 r1 h16 (w0 == ([115, 116, 111, 99, 107] : List UInt8))
      have hd : (if (w0 == ([115, 116, 111, 99, 107] : List UInt8)) = true then (some (.inr false) : Option (Unit ⊕ Bool)) else if (w0 == ([102, 111, 105, 108] : List UInt8)) = true then some (.inr false) else some (.inl ())) = some (.inr false) := by
        rcases h0 with h0 | h0 <;> subst h0 <;> rfl
      rcases e3 with ⟨rfl, x, rfl⟩ | ⟨g, rfl, rfl⟩
      · left
        obtain ⟨x1, x2⟩ := x
        refine ⟨Ar.rep 16 0, Ar.rep 16 0, ?_, ?_⟩
        · by_cases h62 : ((w0 :: w1 :: X).length : Int) > 62
          · simp only [c2, decide_eq_true h62, Option.bind_some, if_true, Bool.false_eq_true, if_false]
          · simp only [c2, decide_eq_false h62, r0, r1, l16, hd, e1, Option.bind_some, Bool.false_eq_true, if_false]
        · simp only [c2, r0, r1, l16, hd, e2, Option.bind_some, Bool.false_eq_true, if_false]
      · obtain ⟨ri, f1, f2⟩ := notches_i X hX hx (w0 == ([115, 116, 111, 99, 107] : List UInt8)) g
        obtain ⟨rs, f3, f4⟩ := notches_s w0 w1 X hX hx (w0 == ([115, 116, 111, 99, 107] : List UInt8)) g
        have hkS : ∀ ns : List Notch, ns.length = X.length → (∀ q (h : q < X.length) (h2 : q < ns.length), spec_l01ReadNotch X[q] = some (ns[q].Kind, ns[q].At, true)) → ∀ n ∈ ns, -128 ≤ n.Kind ∧ n.Kind ≤ 127 := by
          intro ns hl hg n hn
          obtain ⟨q, hq, rfl⟩ := List.getElem_of_mem hn
          have e := hg q (by omega) hq
          rcases word_cases X[q] (hx _ (List.getElem_mem (by omega))) with ⟨n', g1, _, _, _, g6⟩ | ⟨_, ⟨x, y, e'⟩ | ⟨k, a, e', g1, _⟩⟩
          · rw [e] at g6; have := congrArg (·.1) (Option.some.inj g6); simp only at this; omega
          · rw [e] at e'; have := congrArg (·.2.2) (Option.some.inj e'); simp at this
          · rw [e] at e'; have := congrArg (·.1) (Option.some.inj e'); simp only at this; omega
        rcases f2 with ⟨rfl, q, hq, hb⟩ | ⟨ns, rfl, n1, n2⟩
        · left
          refine ⟨Ar.rep 16 0, Ar.rep 16 0, ?_, ?_⟩
          · by_cases h62 : ((w0 :: w1 :: X).length : Int) > 62
            · simp only [c2, decide_eq_true h62, Option.bind_some, if_true, Bool.false_eq_true, if_false]
            · simp only [c2, decide_eq_false h62, r0, r1, l16, hd, e1, sl, f1, Option.bind_some, Bool.false_eq_true, if_false]
          · rcases f4 with ⟨a, b, c, rfl, _⟩ | ⟨ns, rfl, n1, n2⟩
            · simp only [c2, r0, r1, l16, hd, e2, f3, Option.bind_some, Bool.false_eq_true, if_false]
            · have e := n2 q hq (by omega)
              have ok : spec_l01Ok ⟨w0 == ([115, 116, 111, 99, 107] : List UInt8), ns, g⟩ = some false := by
                rcases hb.2 with ⟨x, y, e'⟩ | ⟨k, a, e', _, ha⟩
                · rw [e] at e'; have := congrArg (·.2.2) (Option.some.inj e'); simp at this
                · rw [e] at e'
                  have := congrArg (·.2.1) (Option.some.inj e')
                  simp only at this
                  exact half_far _ (hkS ns n1 n2) (i := q) (by show q < ns.length; omega) (by show 200 < ns[q].At ∧ ns[q].At ≤ 32767; omega)
              simp only [c2, r0, r1, l16, hd, e2, f3, ok, Option.bind_some, Bool.false_eq_true, if_false]
        · -- all the words are notches
          have f4' : ∃ ns2 : List Notch, rs = .inr (false, Ar.rep 16 0, ns2, w0 == ([115, 116, 111, 99, 107] : List UInt8), g) ∧ ns2 = ns := by
            rcases f4 with ⟨a, b, c, rfl, q, hq, x, y, e⟩ | ⟨ns2, rfl, m1, m2⟩
            · obtain ⟨_, _, _, _, g6⟩ := n2 q hq (by omega)
              rw [e] at g6; have := congrArg (·.2.2) (Option.some.inj g6); simp at this
            · refine ⟨ns2, rfl, List.ext_getElem (by omega) fun q h h' => ?_⟩
              obtain ⟨_, _, _, _, g6⟩ := n2 q (by omega) h'
              rw [m2 q (by omega) h] at g6
              have g7 := Option.some.inj g6
              have k1 := congrArg (·.1) g7
              have k2 := congrArg (·.2.1) g7
              simp only at k1 k2
              exact notch_eq.2 ⟨k1, k2⟩
          obtain ⟨ns2, rfl, rfl⟩ := f4'
          have hk : ∀ n ∈ ns2, -128 ≤ n.Kind ∧ n.Kind ≤ 127 := by
            intro n hn
            obtain ⟨q, hq, rfl⟩ := List.getElem_of_mem hn
            have := (n2 q (by omega) hq).1
            omega
          obtain ⟨b, b1, b2, b3⟩ := validHalf_same ⟨w0 == ([115, 116, 111, 99, 107] : List UInt8), ns2, g⟩ hk
          by_cases h62 : ((w0 :: w1 :: X).length : Int) > 62
          · left
            have ok : spec_l01Ok ⟨w0 == ([115, 116, 111, 99, 107] : List UInt8), ns2, g⟩ = some false := by
              have c : decide ((ns2.length : Int) > 60) = true := decide_eq_true (by simp only [List.length_cons] at h62; omega)
              unfold spec_l01Ok spec_l01Notches
              simp only [c, Option.bind_some, if_true, Bool.false_eq_true, if_false]
            exact ⟨Ar.rep 16 0, Ar.rep 16 0, by simp only [c2, decide_eq_true h62, Option.bind_some, if_true, Bool.false_eq_true, if_false], by simp only [c2, r0, r1, l16, hd, e2, f3, ok, Option.bind_some, Bool.false_eq_true, if_false]⟩
          · cases b with
            | false =>
              left
              exact ⟨Ar.rep 16 0, Ar.rep 16 0, by simp only [c2, decide_eq_false h62, r0, r1, l16, hd, e1, sl, f1, b1, Option.bind_some, Bool.false_eq_true, if_false], by simp only [c2, r0, r1, l16, hd, e2, f3, b2, Option.bind_some, Bool.false_eq_true, if_false]⟩
            | true =>
              right
              exact ⟨_, ns2, g, by simp only [c2, decide_eq_false h62, r0, r1, l16, hd, e1, sl, f1, b1, Option.bind_some, Bool.false_eq_true, if_false, if_true], by simp only [c2, r0, r1, l16, hd, e2, f3, b2, Option.bind_some, Bool.false_eq_true, if_false, if_true], b3 rfl⟩
    · left
      have hd : (if (w0 == ([115, 116, 111, 99, 107] : List UInt8)) = true then (if ((w1.length : Int) != 16) = true then (some (.inl ()) : Option (Unit ⊕ Bool)) else some (.inr ((w1.length : Int) != 16))) else if (w0 == ([102, 111, 105, 108] : List UInt8)) = true then (if ((w1.length : Int) != 16) = true then some (.inl ()) else some (.inr ((w1.length : Int) != 16))) else some (.inl ())) = some (.inl ()) := by
        by_cases h16 : w1.length = 16
        · have n1 : ¬ w0 = [115, 116, 111, 99, 107] := fun e => hH ⟨.inl e, h16⟩
          have n2 : ¬ w0 = [102, 111, 105, 108] := fun e => hH ⟨.inr e, h16⟩
          rw [if_neg (by simpa using n1), if_neg (by simpa using n2)]
        · have l16 : ((w1.length : Int) != 16) = true := by rw [bne_iff_ne]; omega
          rw [l16]
          simp
      refine ⟨Ar.rep 16 0, Ar.rep 16 0, ?_, ?_⟩
      · by_cases h62 : ((w0 :: w1 :: X).length : Int) > 62
        · simp only [c2, decide_eq_true h62, Option.bind_some, if_true, Bool.false_eq_true, if_false]
        · simp only [c2, decide_eq_false h62, r0, r1, hd, Option.bind_some, Bool.false_eq_true, if_false]
      · simp only [c2, r0, r1, hd, Option.bind_some, Bool.false_eq_true, if_false]
end Go.Proofs.YtbhbmgmnnkcmcaaDoor
/- Numbers in eight digits read. -/
namespace Go.Proofs.YtbhbmgmnnkcmcaaDoor
open Go Go.Ab
def H16 : List UInt8 := [48, 49, 50, 51, 52, 53, 54, 55, 56, 57, 97, 98, 99, 100, 101, 102]
theorem hexN : ∀ n, n < 256 → Lib.indexByte H16 (UInt8.ofNat n) = if 48 ≤ n ∧ n ≤ 57 then (n : Int) - 48 else if 97 ≤ n ∧ n ≤ 102 then (n : Int) - 87 else -1 := by decide +kernel
theorem hex_idx (c : UInt8) : strings_IndexByte [48, 49, 50, 51, 52, 53, 54, 55, 56, 57, 97, 98, 99, 100, 101, 102] (c.toNat : Int) = some (if 48 ≤ c.toNat ∧ c.toNat ≤ 57 then (c.toNat : Int) - 48 else if 97 ≤ c.toNat ∧ c.toNat ≤ 102 then (c.toNat : Int) - 87 else -1) := by
  have h := hexN c.toNat (UInt8.toNat_lt c)
  rw [UInt8.ofNat_toNat] at h
  rw [← h]
  unfold strings_IndexByte idxI
  rw [coe_byte]; rfl
theorem shl4 {s : Int} (h0 : 0 ≤ s) : ∃ m : Nat, m < 2 ^ 28 ∧ shl .u32 s 4 = some ((16 * m : Nat) : Int) := by
  obtain ⟨n, rfl⟩ : ∃ n : Nat, s = n := ⟨s.toNat, by omega⟩
  refine ⟨n % 2 ^ 28, Nat.mod_lt _ (by decide), ?_⟩
  unfold shl
  rw [if_neg (by decide)]
  congr 1
  have : min ((4 : Int).toNat) IntKind.u32.bits = 4 := by decide
  rw [this]
  simp [IntKind.wrap, IntKind.signed, IntKind.bits]
  omega
theorem ior16 {m x : Nat} (hm : m < 2 ^ 28) (hx : x < 16) : ior .u32 ((16 * m : Nat) : Int) (x : Int) = ((16 * m + x : Nat) : Int) := by
  unfold ior
  have e1 : (BitVec.ofInt IntKind.u32.bits ((16 * m : Nat) : Int)).toNat = 16 * m := by simp [IntKind.bits, BitVec.toNat_ofInt]; omega
  have e2 : (BitVec.ofInt IntKind.u32.bits (x : Int)).toNat = x := by simp [IntKind.bits, BitVec.toNat_ofInt]; omega
  have e3 : 16 * m ||| x = 16 * m + x := (Nat.two_pow_add_eq_or_of_lt (i := 4) hx m).symm
  rw [BitVec.toNat_or, e1, e2, e3]
  simp [IntKind.wrap, IntKind.signed, IntKind.bits]
  omega
theorem unhex_same (t : List UInt8) (ht : t.length ≤ 1048576) : ∃ v f, impl_unhex t = some (v, f) ∧ spec_l06Unhex t = some (v, f) ∧ (f = true → (32 : UInt8) ∉ t ∧ t ≠ []) := by
  have key : ∃ r r2, Lw (impl_unhex_b1 t) (0, 0) = some r ∧ Lw (spec_l06Unhex_b1 t) (0, 0) = some r2 ∧ r = r2 ∧ ∀ v, r = .inr v → (32 : UInt8) ∉ t := by
    refine Lw_sim (tb := impl_unhex_b1 t) (tb2 := spec_l06Unhex_b1 t) (fun s => t.length - s.2.toNat) (fun s s2 => s = s2 ∧ 0 ≤ s.1 ∧ ∃ i : Nat, s.2 = i ∧ i ≤ t.length ∧ (32 : UInt8) ∉ t.take i) (fun r r2 => r = r2 ∧ ∀ v, r = .inr v → (32 : UInt8) ∉ t) ?_ _ _ _ rfl ⟨rfl, Int.le_refl _, 0, rfl, by omega, by simp⟩
    rintro ⟨a, j⟩ s2 ⟨rfl, h0, i, hi, hl, hno⟩
    simp only at hi h0
    subst hi
    by_cases hlt : i < t.length
    · have hr : rd t (i : Int) = some t[i] := by rw [rd_coe, List.getElem?_eq_getElem hlt]
      have w := w64s hlt (by omega)
      have c0 : decide ((i : Int) < (t.length : Int)) = true := decide_eq_true (by omega)
      have hx := hex_idx t[i]
      obtain ⟨m, hm, hs⟩ := shl4 h0
      have hb := UInt8.toNat_lt t[i]
      have next : ∀ _ : t[i].toNat ≠ 32, (32 : UInt8) ∉ t.take (i + 1) := by
        intro h32
        rw [List.take_succ_eq_append_getElem hlt, List.mem_append, List.mem_singleton]
        rintro (g | g)
        · exact hno g
        · rw [← g] at h32; exact h32 rfl
      by_cases d1 : 48 ≤ t[i].toNat ∧ t[i].toNat ≤ 57
      · rw [if_pos d1] at hx
        have k1 : decide ((t[i].toNat : Int) - 48 < 0) = false := decide_eq_false (by omega)
        have k2 : IntKind.u32.wrap ((t[i].toNat : Int) - 48) = ((t[i].toNat - 48 : Nat) : Int) := by simp [IntKind.wrap, IntKind.signed, IntKind.bits]; omega
        have k3 : IntKind.u32.wrap (IntKind.u8.wrap ((t[i].toNat : Int) - 48)) = ((t[i].toNat - 48 : Nat) : Int) := by simp [IntKind.wrap, IntKind.signed, IntKind.bits]; omega
        have io := ior16 hm (show t[i].toNat - 48 < 16 by omega)
        have q1 : decide ((t[i].toNat : Int) ≥ 48) = true := decide_eq_true (by omega)
        have q2 : decide ((t[i].toNat : Int) ≤ 57) = true := decide_eq_true (by omega)
        exact .inl ⟨(((16 * m + (t[i].toNat - 48) : Nat) : Int), ((i + 1 : Nat) : Int)), _, by simp only [impl_unhex_b1, c0, hr, hx, k1, hs, k2, io, w, Option.bind_some, if_true, Bool.false_eq_true, if_false], by simp only [spec_l06Unhex_b1, c0, hr, q1, q2, hs, k3, io, w, Option.bind_some, if_true], ⟨rfl, by simp only; omega, i + 1, rfl, hlt, next (by omega)⟩, by simp; omega⟩
      · rw [if_neg d1] at hx
        have y : (if decide ((t[i].toNat : Int) ≥ 48) = true then some (decide ((t[i].toNat : Int) ≤ 57)) else some false) = some false := by
          by_cases g : (t[i].toNat : Int) ≥ 48
          · rw [if_pos (decide_eq_true g), decide_eq_false (by omega)]
          · rw [if_neg (by simpa using g)]
        by_cases d2 : 97 ≤ t[i].toNat ∧ t[i].toNat ≤ 102
        · rw [if_pos d2] at hx
          have k1 : decide ((t[i].toNat : Int) - 87 < 0) = false := decide_eq_false (by omega)
          have k2 : IntKind.u32.wrap ((t[i].toNat : Int) - 87) = ((t[i].toNat - 87 : Nat) : Int) := by simp [IntKind.wrap, IntKind.signed, IntKind.bits]; omega
          have k3 : IntKind.u32.wrap (IntKind.u8.wrap ((t[i].toNat : Int) - 97)) = ((t[i].toNat - 97 : Nat) : Int) := by simp [IntKind.wrap, IntKind.signed, IntKind.bits]; omega
          have io := ior16 hm (show t[i].toNat - 87 < 16 by omega)
          have io2 := ior16 hm (show t[i].toNat - 97 < 16 by omega)
          have k4 : IntKind.u32.wrap (((16 * m + (t[i].toNat - 97) : Nat) : Int) + 10) = ((16 * m + (t[i].toNat - 87) : Nat) : Int) := by simp [IntKind.wrap, IntKind.signed, IntKind.bits]; omega
          have q1 : decide ((t[i].toNat : Int) ≥ 97) = true := decide_eq_true (by omega)
          have q2 : decide ((t[i].toNat : Int) ≤ 102) = true := decide_eq_true (by omega)
          exact .inl ⟨(((16 * m + (t[i].toNat - 87) : Nat) : Int), ((i + 1 : Nat) : Int)), _, by simp only [impl_unhex_b1, c0, hr, hx, k1, hs, k2, io, w, Option.bind_some, if_true, Bool.false_eq_true, if_false], by simp only [spec_l06Unhex_b1, c0, hr, y, q1, q2, hs, k3, io2, k4, w, Option.bind_some, if_true, Bool.false_eq_true, if_false], ⟨rfl, by simp only; omega, i + 1, rfl, hlt, next (by omega)⟩, by simp; omega⟩
        · rw [if_neg d2] at hx
          refine .inr ⟨.inl (), .inl (), by simp only [impl_unhex_b1, c0, hr, hx, Option.bind_some, if_true]; rw [if_pos (by decide)], ?_, rfl, fun v e => by cases e⟩
          simp only [spec_l06Unhex_b1, c0, hr, y, Option.bind_some, if_true, Bool.false_eq_true, if_false]
          by_cases g : (t[i].toNat : Int) ≥ 97
          · rw [if_pos (decide_eq_true g), if_neg (by simp; omega)]
          · rw [if_neg (by simpa using g)]
    · have : i = t.length := by omega
      subst this
      rw [List.take_of_length_le (Nat.le_refl _)] at hno
      exact .inr ⟨.inr a, .inr a, by simp [impl_unhex_b1], by simp [spec_l06Unhex_b1], rfl, fun _ _ => hno⟩
  obtain ⟨r, r2, e1, e2, rfl, e3⟩ := key
  unfold impl_unhex spec_l06Unhex
  rw [e1, e2]
  rcases r with u | v
  · exact ⟨0, false, rfl, rfl, fun e => by cases e⟩
  · refine ⟨v, (t.length : Int) == 8, rfl, rfl, fun e => ⟨e3 v rfl, fun h => ?_⟩⟩
    rw [h] at e
    simp at e
end Go.Proofs.YtbhbmgmnnkcmcaaDoor
/- Chains read. -/
namespace Go.Proofs.YtbhbmgmnnkcmcaaDoor
open Go Go.Ab
theorem chain_b (c : Chain) (hd : c.Debtor.length ≤ 1048576) (hk : ∀ n ∈ c.Stock.Notches, -128 ≤ n.Kind ∧ n.Kind ≤ 127) (hm : ∀ m ∈ c.Marks, m.Holder.length ≤ 1048576) : ∃ b, impl_ValidChain c = some b ∧ spec_l06Ok c = some b := by
  obtain ⟨q, q1, q2, _⟩ := validHalf_same c.Stock hk
  unfold impl_ValidChain spec_l06Ok
  rw [isName_eq _ (by omega), l06Name_eq _ (by omega), q1, q2]
  simp only [Option.bind_some, l00In_eq]
  cases hN : nameB c.Debtor with
  | false => exact ⟨false, by simp, by simp⟩
  | true =>
    cases q with
    | false => exact ⟨false, by simp, by simp⟩
    | true =>
      cases hS : c.Stock.Stock with
      | false => exact ⟨false, by simp, by simp⟩
      | true =>
        by_cases h1 : (c.Marks.length : Int) < 1
        · have z : inB (c.Marks.length : Int) 1 30 = false := by simp [inB]; omega
          exact ⟨false, by simp [h1], by simp [z]⟩
        · by_cases h2 : (c.Marks.length : Int) > 30
          · have z : inB (c.Marks.length : Int) 1 30 = false := by simp [inB]; omega
            exact ⟨false, by simp [h1, h2], by simp [z]⟩
          · have z : inB (c.Marks.length : Int) 1 30 = true := inB_iff.2 ⟨by omega, by omega⟩
            obtain ⟨r, r2, e1, e2, rfl, e3⟩ := marks_loop c (by omega) (fun m hmm => by have := hm m hmm; omega)
            rcases r with r | r
            · exact ⟨false, by simp [h1, h2, e1], by simp [z, e2]⟩
            · exact ⟨true, by simp [h1, h2, e1], by simp [z, e2]⟩
theorem cut_len {s a b : List UInt8} {f : Bool} (h : (f = true ∧ s = a ++ 32 :: b ∧ (32 : UInt8) ∉ a) ∨ (f = false ∧ a = s ∧ b = [] ∧ (32 : UInt8) ∉ a)) : a.length ≤ s.length := by
  rcases h with ⟨_, e, _⟩ | ⟨_, e, _⟩
  · rw [e]; simp
  · rw [e]; exact Nat.le_refl _
theorem marks_read (t0 last : List UInt8) (ls : List (List UInt8)) (hn : ls.length ≤ 40) (hx : ∀ l ∈ ls, l.length ≤ 1048576) (nm : List UInt8) (st : Bool) (g : Ar 16 Int) :
    ∃ r r2, Lw (impl_ReadChain_b1 ls) (0, nm, st, g, []) = some r ∧ Lw (spec_ReadChain_b2 (t0 :: (ls ++ [last]))) (1, nm, st, g, []) = some r2 ∧
      ((r = .inl () ∧ r2 = .inl ()) ∨ ∃ ms : List Mark, r = .inr (nm, st, g, ms) ∧ r2 = .inr (nm, st, g, ms) ∧ ms.length ≤ ls.length ∧ ∀ m ∈ ms, m.Holder.length ≤ 1048576) := by
  refine Lw_sim (tb := impl_ReadChain_b1 ls) (tb2 := spec_ReadChain_b2 (t0 :: (ls ++ [last]))) (fun s => ls.length - s.1.toNat) (fun s s2 => ∃ (i : Nat) (ms : List Mark), s = ((i : Int), nm, st, g, ms) ∧ s2 = (((i + 1 : Nat) : Int), nm, st, g, ms) ∧ i ≤ ls.length ∧ ms.length = i ∧ ∀ m ∈ ms, m.Holder.length ≤ 1048576) _ ?_ _ _ _ rfl ⟨0, [], rfl, rfl, by omega, rfl, by simp⟩
  rintro s s2 ⟨i, ms, rfl, rfl, hi, hl, hh⟩
  have wl : IntKind.i64.wrap (((t0 :: (ls ++ [last])).length : Int) - 1) = ((ls.length + 1 : Nat) : Int) := by
    simp only [List.length_cons, List.length_append, List.length_nil]
    rw [w64 (by omega)]; omega
  by_cases hlt : i < ls.length
  · have c0 : decide ((i : Int) < (ls.length : Int)) = true := decide_eq_true (by omega)
    have c1 : decide (((i + 1 : Nat) : Int) < ((ls.length + 1 : Nat) : Int)) = true := decide_eq_true (by omega)
    have hr : rd ls (i : Int) = some ls[i] := by rw [rd_coe, List.getElem?_eq_getElem hlt]
    have hr2 : rd (t0 :: (ls ++ [last])) ((i + 1 : Nat) : Int) = some ls[i] := by rw [rd_coe, List.getElem?_cons_succ, List.getElem?_append_left hlt, List.getElem?_eq_getElem hlt]
    have hxl := hx _ (List.getElem_mem hlt)
    have w := w64s hlt (by omega)
    have w2 : IntKind.i64.wrap (((i + 1 : Nat) : Int) + 1) = ((i + 1 + 1 : Nat) : Int) := by rw [w64 (by omega)]; omega
    obtain ⟨a, b, f, k1, k3, k4⟩ := cut_only hxl
    have hal := cut_len k4
    obtain ⟨v, f2, u1, u2, u3⟩ := unhex_same b (by omega)
    have ss : spec_l01Split ls[i] 32 = some (pcs 32 ls[i]) := split_s (s := ls[i]) 32 hxl
    have fail_i : f2 = false → impl_ReadChain_b1 ls ((i : Int), nm, st, g, ms) = some (.inr (.inl ())) := by
      rintro rfl
      simp only [impl_ReadChain_b1, strings_Cut, c0, hr, k1, u1, Option.bind_some, if_true, Bool.false_eq_true, if_false]
    rcases k4 with ⟨_, e, ha⟩ | ⟨_, e, eb, ha⟩
    · rw [e, pcs_app, pcs_no ha] at ss
      by_cases hb : (32 : UInt8) ∈ b
      · have hf : f2 = false := by
          cases f2 with
          | false => rfl
          | true => exact absurd hb (u3 rfl).1
        obtain ⟨x, y, e2, hx2⟩ := List.eq_append_cons_of_mem hb
        rw [e2, pcs_app, pcs_no hx2] at ss
        have hy := List.length_pos_iff.2 (pcs_ne 32 y)
        have l2 : ((([a] ++ ([x] ++ pcs 32 y)).length : Int) != 2) = true := by rw [bne_iff_ne]; simp; omega
        refine .inr ⟨_, .inl (), fail_i hf, ?_, .inl ⟨rfl, rfl⟩⟩
        have e3 : ls[i] = a ++ 32 :: (x ++ 32 :: y) := by rw [e, e2]
        rw [← e2, ← e] at ss
        simp only [spec_ReadChain_b2, wl, c1, hr2, ss, l2, Option.bind_some, if_true]
      · rw [pcs_no hb, ← e] at ss
        have l2 : ((([a] ++ [b] : List (List UInt8)).length : Int) != 2) = false := rfl
        have r1 : rd ([a] ++ [b]) 1 = some b := rfl
        have r0 : rd ([a] ++ [b]) 0 = some a := rfl
        cases f2 with
        | false =>
          refine .inr ⟨_, .inl (), fail_i rfl, ?_, .inl ⟨rfl, rfl⟩⟩
          simp only [spec_ReadChain_b2, wl, c1, hr2, ss, l2, r1, u2, Option.bind_some, if_true, Bool.false_eq_true, if_false]
        | true =>
          have ap : app 24 ms [(⟨a, v⟩ : Mark)] = some (ms ++ [⟨a, v⟩]) := app_some (by simp; omega) (by decide)
          refine .inl ⟨(((i + 1 : Nat) : Int), nm, st, g, ms ++ [⟨a, v⟩]), _, by simp only [impl_ReadChain_b1, strings_Cut, c0, hr, k1, u1, ap, w, Option.bind_some, if_true], by simp only [spec_ReadChain_b2, wl, c1, hr2, ss, l2, r1, r0, u2, ap, w2, Option.bind_some, if_true, Bool.false_eq_true, if_false], ⟨i + 1, ms ++ [⟨a, v⟩], rfl, rfl, hlt, by simp [hl], fun m hm => ?_⟩, by simp; omega⟩
          rcases List.mem_append.1 hm with hm | hm
          · exact hh m hm
          · rw [List.mem_singleton.1 hm]; simp only; omega
    · have hf : f2 = false := by
        cases f2 with
        | false => rfl
        | true => exact absurd eb (u3 rfl).2
      rw [← e, pcs_no ha] at ss
      have l2 : ((([a] : List (List UInt8)).length : Int) != 2) = true := rfl
      refine .inr ⟨_, .inl (), fail_i hf, ?_, .inl ⟨rfl, rfl⟩⟩
      rw [e] at ss
      simp only [spec_ReadChain_b2, wl, c1, hr2, ss, Option.bind_some, if_true]
      rw [if_pos (by rfl)]
  · have : i = ls.length := by omega
    subst this
    have c0 : decide ((ls.length : Int) < (ls.length : Int)) = false := decide_eq_false (by omega)
    have c1 : decide (((ls.length + 1 : Nat) : Int) < ((ls.length + 1 : Nat) : Int)) = false := decide_eq_false (by omega)
    exact .inr ⟨.inr (nm, st, g, ms), .inr (nm, st, g, ms), by simp only [impl_ReadChain_b1, c0, Bool.false_eq_true, if_false], by simp only [spec_ReadChain_b2, wl, c1, Bool.false_eq_true, if_false], .inr ⟨ms, rfl, rfl, by omega, hh⟩⟩
theorem blank_at (r10 : List (List UInt8)) {t0 a b : List UInt8} (hr : rd r10 0 = some t0) (ht : t0.length ≤ 1048576) {f : Bool} (h : (f = true ∧ t0 = a ++ 32 :: b ∧ (32 : UInt8) ∉ a) ∨ (f = false ∧ a = t0 ∧ b = [] ∧ (32 : UInt8) ∉ a)) : Lw (spec_ReadChain_b1 r10) 0 = some (a.length : Int) := by
  have hal := cut_len h
  have hno : (32 : UInt8) ∉ a := h.elim (fun h => h.2.2) (fun h => h.2.2.2)
  have hget : ∀ i (hi : i < a.length), rd t0 (i : Int) = some a[i] := by
    intro i hi
    rw [rd_coe]
    rcases h with ⟨_, e, _⟩ | ⟨_, e, _⟩
    · rw [e, List.getElem?_append_left hi, List.getElem?_eq_getElem hi]
    · rw [← e, List.getElem?_eq_getElem hi]
  have key := Lw_run (tb := spec_ReadChain_b1 r10) (fun i => (i : Int)) a.length (r := (a.length : Int))
    (by
      intro i hi
      have w := w64s hi (by omega)
      have c0 : decide ((i : Int) < (t0.length : Int)) = true := decide_eq_true (by omega)
      have hc : ((a[i].toNat : Int) != 32) = true := by
        rw [bne_iff_ne]
        intro e
        refine hno ?_
        have : a[i] = 32 := UInt8.toNat_inj.1 (by simpa using (by omega : a[i].toNat = 32))
        rw [← this]; exact List.getElem_mem hi
      simp only [spec_ReadChain_b1, hr, c0, hget i hi, hc, w, Option.bind_some, if_true])
    (by
      rcases h with ⟨_, e, _⟩ | ⟨_, e, _⟩
      · have hl : a.length < t0.length := by rw [e]; simp
        have c0 : decide ((a.length : Int) < (t0.length : Int)) = true := decide_eq_true (by omega)
        have hg : rd t0 (a.length : Int) = some 32 := by rw [rd_coe, e]; simp
        have hc : (((32 : UInt8).toNat : Int) != 32) = false := rfl
        simp only [spec_ReadChain_b1, hr, c0, hg, hc, Option.bind_some, if_true, Bool.false_eq_true, if_false]
      · have c0 : decide ((a.length : Int) < (t0.length : Int)) = false := decide_eq_false (by rw [e]; omega)
        simp only [spec_ReadChain_b1, hr, c0, Option.bind_some, Bool.false_eq_true, if_false])
  exact key
def CS (s : List UInt8) : Prop :=
  (impl_ReadChain s = some (.inl (Ar.rep 16 0)) ∧ spec_ReadChain s = some (.inl (Ar.rep 16 0))) ∨
    ∃ d st ns g ms, impl_ReadChain s = some (.inr (d, st, ns, g, ms)) ∧ spec_ReadChain s = some (.inr (d, st, ns, g, ms)) ∧ ns.length ≤ 60 ∧ ms.length ≤ 40
theorem chain_same (s : List UInt8) (h : s.length ≤ 1048576) : CS s := by
  have si : strings_Split s [10] = some (pcs 10 s) := split_i (s := s) 10 h
  have ss : spec_l01Split s 10 = some (pcs 10 s) := split_s (s := s) 10 h
  have pn := pcs_len (c := 10) s
  have hne := pcs_ne 10 s
  have hsub : ∀ l ∈ pcs 10 s, l.length ≤ 1048576 := fun l hl => by have := pcs_sub hl; omega
  by_cases hs : s = []
  · subst hs
    left
    constructor
    · unfold impl_ReadChain impl_linesOf; rfl
    · unfold spec_ReadChain
      rw [ss]; rfl
  generalize pcs 10 s = P at *
  have hp : 0 < P.length := List.length_pos_iff.2 hne
  have w : IntKind.i64.wrap ((P.length : Int) - 1) = ((P.length - 1 : Nat) : Int) := by rw [w64 (by omega)]; omega
  have sl : slc P 0 ((P.length - 1 : Nat) : Int) = some (P.take (P.length - 1)) := by
    have := slc_some (xs := P) (a := 0) (b := P.length - 1) (by omega) (by omega)
    rw [show (0 : Int) = ((0 : Nat) : Int) from rfl, this]; simp
  have hlt : P.length - 1 < P.length := by omega
  have rl : rd P ((P.length - 1 : Nat) : Int) = some P[P.length - 1] := by rw [rd_coe, List.getElem?_eq_getElem hlt]
  have li : impl_linesOf s = some (.inr (P.take (P.length - 1), P[P.length - 1] == ([] : List UInt8))) := by
    unfold impl_linesOf
    rw [if_neg (by simpa using hs), si, Option.bind_some, w, sl, Option.bind_some, rl, Option.bind_some]
  have Ln : (P.take (P.length - 1)).length = P.length - 1 := by rw [List.length_take]; omega
  unfold CS impl_ReadChain spec_ReadChain
  rw [li, ss, Option.bind_some, Option.bind_some, w, rl]
  dsimp only
  rw [Ln]
  by_cases b1 : P.length < 3
  · left
    have d1 : decide ((P.length : Int) < 3) = true := decide_eq_true (by omega)
    have d2 : decide (((P.length - 1 : Nat) : Int) < 2) = true := decide_eq_true (by omega)
    constructor
    · cases P[P.length - 1] == ([] : List UInt8) <;> simp only [d2, if_true, Bool.false_eq_true, if_false]
    · simp only [d1, if_true, Option.bind_some]
  have d1 : decide ((P.length : Int) < 3) = false := decide_eq_false (by omega)
  have d2 : decide (((P.length - 1 : Nat) : Int) < 2) = false := decide_eq_false (by omega)
  by_cases b2 : P.length > 32
  · left
    have d3 : decide ((P.length : Int) > 32) = true := decide_eq_true (by omega)
    have d4 : decide (((P.length - 1 : Nat) : Int) > 31) = true := decide_eq_true (by omega)
    constructor
    · cases P[P.length - 1] == ([] : List UInt8) <;> simp only [d2, d4, if_true, Bool.false_eq_true, if_false]
    · simp only [d1, d3, if_true, Bool.false_eq_true, if_false, Option.bind_some]
  have d3 : decide ((P.length : Int) > 32) = false := decide_eq_false (by omega)
  have d4 : decide (((P.length - 1 : Nat) : Int) > 31) = false := decide_eq_false (by omega)
  cases b3 : P[P.length - 1] == ([] : List UInt8) with
  | false =>
    left
    constructor
    · simp only [Bool.false_eq_true, if_false]
    · simp only [d1, d3, b3, Option.bind_some, Bool.not_false, if_true, Bool.false_eq_true, if_false]
  | true =>
    obtain ⟨t0, ls, last, rfl⟩ : ∃ t0 ls last, P = t0 :: (ls ++ [last]) := by
      match P, b1 with
      | t0 :: x :: q, _ =>
        refine ⟨t0, (x :: q).dropLast, (x :: q).getLast (by simp), ?_⟩
        rw [List.dropLast_concat_getLast]
      | [_], b => exact absurd (by simp) b
      | [], b => exact absurd (by simp) b
    have eL : (t0 :: (ls ++ [last])).take ((t0 :: (ls ++ [last])).length - 1) = t0 :: ls := by simp
    rw [eL]
    have hl40 : ls.length ≤ 40 := by simp at b2; omega
    have hr0 : rd (t0 :: (ls ++ [last])) 0 = some t0 := by rw [rd_zero]; rfl
    have hr0' : rd (t0 :: ls) 0 = some t0 := by rw [rd_zero]; rfl
    have ht0 := hsub t0 (by simp)
    obtain ⟨a, b, f, k1, k3, k4⟩ := cut_only ht0
    have hal := cut_len k4
    have ba := blank_at (t0 :: (ls ++ [last])) hr0 ht0 k4
    have s1 : slc (t0 :: ls) 1 (((t0 :: (ls ++ [last])).length - 1 : Nat) : Int) = some ls := by
      have := slc_some (xs := t0 :: ls) (a := 1) (b := (t0 :: (ls ++ [last])).length - 1) (by simp) (by simp)
      rw [show (1 : Int) = ((1 : Nat) : Int) from rfl, this]
      simp
    simp only [d1, d2, d3, d4, b3, if_true, Bool.false_eq_true, if_false, Option.bind_some, Bool.not_true, strings_Cut, hr0, hr0', k1, ba]
    rcases k4 with ⟨_, e, ha⟩ | ⟨_, e, eb, ha⟩
    · have hl : a.length + 1 ≤ t0.length := by rw [e]; simp
      have c0 : ((a.length : Int) == (t0.length : Int)) = false := by rw [beq_eq_false_iff_ne]; omega
      have w1 := w64s (i := a.length) (n := t0.length) (by omega) (by omega)
      have s2 : slc t0 ((a.length + 1 : Nat) : Int) (t0.length : Int) = some b := by
        rw [slc_some hl (Nat.le_refl _), e]
        simp
        exact List.take_of_length_le (by omega)
      have s3 : slc t0 0 (a.length : Int) = some a := by
        have := slc_some (xs := t0) (a := 0) (b := a.length) (by omega) (by omega)
        rw [show (0 : Int) = ((0 : Nat) : Int) from rfl, this, e]; simp
      rcases half_same b (by omega) with ⟨g1, g2, q1, q2⟩ | ⟨st, ns, g, q1, q2, q3⟩
      · left
        simp only [c0, w1, s2, q1, q2, Option.bind_some, Bool.false_eq_true, if_false, and_self]
      · have hx : ∀ l ∈ ls, l.length ≤ 1048576 := fun l hl => hsub l (by simp [hl])
        obtain ⟨r, r2, m1, m2, m3⟩ := marks_read t0 last ls hl40 hx a st g
        have hk : ∀ n ∈ ns, -128 ≤ n.Kind ∧ n.Kind ≤ 127 := fun n hn => by
          have := inB_iff.1 (q3.2.2 n hn).1
          omega
        rcases m3 with ⟨rfl, rfl⟩ | ⟨ms, rfl, rfl, m4, m5⟩
        · left
          simp only [c0, w1, s2, s3, s1, q1, q2, m1, m2, Option.bind_some, Bool.false_eq_true, if_false, and_self]
        · obtain ⟨bb, v1, v2⟩ := chain_b ⟨a, ⟨st, ns, g⟩, ms⟩ (by simp only; omega) hk m5
          cases bb with
          | false =>
            left
            simp only [c0, w1, s2, s3, s1, q1, q2, m1, m2, v1, v2, Option.bind_some, Bool.false_eq_true, if_false, and_self]
          | true =>
            right
            refine ⟨a, st, ns, g, ms, ?_, ?_, q3.1, by omega⟩
            · simp only [s1, q1, m1, v1, Option.bind_some, if_true]
            · simp only [c0, w1, s2, s3, q2, m2, v2, Option.bind_some, Bool.false_eq_true, if_false, if_true]
    · left
      have c0 : ((a.length : Int) == (t0.length : Int)) = true := by rw [beq_iff_eq, e]
      have hz : impl_ReadHalf b = some (.inl (Ar.rep 16 0)) := by
        rw [eb]
        unfold impl_ReadHalf strings_Split
        rw [split_i 32 (by simp)]
        rfl
      simp only [c0, hz, Option.bind_some, if_true, and_self]
end Go.Proofs.YtbhbmgmnnkcmcaaDoor

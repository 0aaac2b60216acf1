/- Plain lemmas. -/
import Derived.Test.YtbhbmgmnnkcmcaaDoorOkChainText
set_option linter.unusedVariables false
set_option linter.unusedSimpArgs false
/- Loops that compare and weigh lists. -/
namespace Go.Proofs.YtbhbmgmnnkcmcaaDoor
open Go Go.Ab
theorem eqS_loop {τ : Type} [DecidableEq τ] {tb : Int → Option (Int ⊕ (Unit ⊕ Unit))} (a b : List τ) (h : a.length ≤ 4611686018427387904) (hl : a.length = b.length)
    (hs : ∀ (i : Nat) (h1 : i < a.length) (h2 : i < b.length), tb (i : Int) = some (if a[i] = b[i] then .inl (IntKind.i64.wrap ((i : Int) + 1)) else .inr (.inl ()))) (he : tb (a.length : Int) = some (.inr (.inr ()))) :
    Lw tb 0 = some (if a = b then .inr () else .inl ()) := by
  have key := scan_all (tb := tb) a.length h (fun i => decide (a[i]? = b[i]?)) () ()
    (by
      intro i hi
      have hi2 : i < b.length := by omega
      rw [hs i hi hi2, List.getElem?_eq_getElem hi, List.getElem?_eq_getElem hi2]
      by_cases he : a[i] = b[i] <;> simp [he])
    he
  rw [key, all_eq hl]
  by_cases he : a = b <;> simp [he]
theorem sz_loop {tb : Int × Int → Option ((Int × Int) ⊕ (Unit ⊕ Int))} (n : Nat) (hs : ∀ (a : Int) (i : Nat), i < n → (∃ r, tb (a, (i : Int)) = some (.inl (r, ((i + 1 : Nat) : Int)))) ∨ tb (a, (i : Int)) = some (.inr (.inl ()))) (he : ∀ a, tb (a, (n : Int)) = some (.inr (.inr a))) (a : Int) :
    ∃ r, Lw tb (a, 0) = some r := by
  have : ∃ r r2, Lw tb (a, 0) = some r ∧ Lw tb (a, 0) = some r2 ∧ r = r2 := by
    refine Lw_sim (tb := tb) (tb2 := tb) (fun s => n - s.2.toNat) (fun s s2 => s = s2 ∧ ∃ i : Nat, s.2 = i ∧ i ≤ n) _ ?_ _ _ _ rfl ⟨rfl, 0, rfl, by omega⟩
    rintro ⟨a, j⟩ s2 ⟨rfl, i, hi, hl⟩
    simp only at hi
    subst hi
    by_cases hlt : i < n
    · rcases hs a i hlt with ⟨r, hr⟩ | hr
      · exact .inl ⟨_, _, hr, hr, ⟨rfl, i + 1, rfl, by omega⟩, by simp; omega⟩
      · exact .inr ⟨_, _, hr, hr, rfl⟩
    · have : i = n := by omega
      subst this
      exact .inr ⟨_, _, he a, he a, rfl⟩
  obtain ⟨r, _, hr, _, _⟩ := this
  exact ⟨r, hr⟩
theorem find_first {τ R : Type} {tb : Int → Option (Int ⊕ R)} (p : τ → Bool) (xs : List τ) (hit : Nat → R) (miss : R)
    (h1 : ∀ (i : Nat) (h : i < xs.length), p xs[i] = false → tb (i : Int) = some (.inl ((i + 1 : Nat) : Int))) (h2 : ∀ (i : Nat) (h : i < xs.length), p xs[i] = true → tb (i : Int) = some (.inr (hit i))) (h3 : tb (xs.length : Int) = some (.inr miss)) :
    Lw tb 0 = some (if xs.findIdx p < xs.length then hit (xs.findIdx p) else miss) := by
  have key := Lw_run (tb := tb) (fun i => (i : Int)) (xs.findIdx p) (r := if xs.findIdx p < xs.length then hit (xs.findIdx p) else miss)
    (fun i hi => h1 i (Nat.lt_of_lt_of_le hi List.findIdx_le_length) (by simpa using List.not_of_lt_findIdx hi))
    (by
      by_cases h : xs.findIdx p < xs.length
      · rw [if_pos h]; exact h2 _ h List.findIdx_getElem
      · rw [if_neg h]
        have : xs.findIdx p = xs.length := Nat.le_antisymm List.findIdx_le_length (by omega)
        simp only [this]; exact h3)
  exact key
theorem any_find {τ : Type} (p : τ → Bool) (xs : List τ) : xs.any p = decide (xs.findIdx p < xs.length) := by
  rw [Bool.eq_iff_iff, decide_eq_true_eq, List.findIdx_lt_length, List.any_eq_true]
/-! arrays -/
theorem rdA_coe {n : Nat} {τ : Type} (g : Ar n τ) (i : Nat) (h : i < n) : rdA g (i : Int) = some (g.l[i]'(by rw [g.h]; exact h)) := by
  unfold rdA
  rw [if_pos ⟨by omega, by omega⟩, Int.toNat_natCast, List.getElem?_eq_getElem]
theorem ar_ext {n : Nat} {τ : Type} {a b : Ar n τ} : a = b ↔ a.l = b.l := by cases a; cases b; simp
theorem ar_copy {n : Nat} {τ : Type} {tb : Int × Ar n τ → Option ((Int × Ar n τ) ⊕ Ar n τ)} (a z : Ar n τ) (hs : ∀ (i : Nat) (h : i < n) (y : Ar n τ), tb ((i : Int), y) = some (.inl (((i + 1 : Nat) : Int), y.set i (a.l[i]'(by rw [a.h]; exact h))))) (he : ∀ y, tb ((n : Int), y) = some (.inr y)) :
    Lw tb (0, z) = some a := by
  have hz := z.h
  have ha := a.h
  have key := Lw_run (tb := tb) (fun i => ((i : Int), (⟨a.l.take i ++ z.l.drop (min i n), by simp; omega⟩ : Ar n τ))) n (r := a)
    (by
      intro i hi
      rw [hs i hi]
      congr 3
      rw [ar_ext]
      show (a.l.take i ++ z.l.drop (min i n)).set i _ = a.l.take (i + 1) ++ z.l.drop (min (i + 1) n)
      rw [Nat.min_eq_left (by omega), Nat.min_eq_left (by omega), List.set_append_right _ _ (by simp; omega), List.length_take, Nat.min_eq_left (by omega), Nat.sub_self, List.drop_eq_getElem_cons (by omega), List.set_cons_zero, List.take_succ_eq_append_getElem (by omega), List.append_assoc]
      rfl)
    (by
      rw [he]
      congr 2
      rw [ar_ext]
      show a.l.take n ++ z.l.drop (min n n) = a.l
      rw [List.take_of_length_le (by omega), Nat.min_self, List.drop_eq_nil_of_le (by omega), List.append_nil])
  have e : (((0 : Nat) : Int), (⟨a.l.take 0 ++ z.l.drop (min 0 n), by simp; omega⟩ : Ar n τ)) = (0, z) := by
    congr 1
  rw [e] at key
  exact key
theorem foldr_all (p : Nat → Bool) (r : Bool) (l : List Nat) : l.foldr (fun j b => p j && b) r = (l.all p && r) := by
  induction l with
  | nil => simp
  | cons x l ih => simp [ih, Bool.and_assoc]
theorem arB_eq {n : Nat} (g h : Ar n Int) : arB n (fun j => g.get 0 j == h.get 0 j) true = decide (g = h) := by
  unfold arB
  rw [foldr_all, Bool.and_true, Bool.eq_iff_iff, List.all_eq_true, decide_eq_true_eq, ar_ext]
  have hg := g.h
  have hh := h.h
  constructor
  · intro hp
    refine List.ext_getElem (by omega) fun i h1 h2 => ?_
    have := hp i (by simpa [hg] using h1)
    simpa [Ar.get, List.getD_eq_getElem?_getD, h1, h2] using this
  · intro e j _
    simp [Ar.get, e]
end Go.Proofs.YtbhbmgmnnkcmcaaDoor
/- Numbers within bounds. -/
namespace Go.Proofs.YtbhbmgmnnkcmcaaDoor
open Go Go.Ab
def inB (n lo hi : Int) : Bool := decide (lo ≤ n) && decide (n ≤ hi)
theorem inB_iff {n lo hi : Int} : inB n lo hi = true ↔ lo ≤ n ∧ n ≤ hi := by simp [inB]
theorem inB_not {n lo hi : Int} : inB n lo hi = false ↔ n < lo ∨ hi < n := by rw [← Bool.not_eq_true, inB_iff]; omega
theorem l00In_eq (n lo hi : Int) : spec_l00In n lo hi = some (inB n lo hi) := by
  unfold spec_l00In inB; by_cases h : lo ≤ n <;> simp [h]
theorem some_ite {α : Type} (c : Bool) (a b : α) : (if c = true then some a else some b) = some (if c = true then a else b) := by cases c <;> rfl
theorem ite_false_b (c b : Bool) : (if c = true then b else false) = (c && b) := by cases c <;> simp
theorem ite_true_b (c b : Bool) : (if c = true then true else b) = (c || b) := by cases c <;> simp
end Go.Proofs.YtbhbmgmnnkcmcaaDoor
/- Halves and chains: equal, copied, weighed. -/
namespace Go.Proofs.YtbhbmgmnnkcmcaaDoor
open Go Go.Ab
theorem notch_eq {x y : Notch} : x = y ↔ x.Kind = y.Kind ∧ x.At = y.At := by cases x; cases y; simp
theorem mark_eq {x y : Mark} : x = y ↔ x.Holder = y.Holder ∧ x.Seal = y.Seal := by cases x; cases y; simp
theorem half_eq {x y : Half} : x = y ↔ x.Stock = y.Stock ∧ x.Notches = y.Notches ∧ x.Grain = y.Grain := by cases x; cases y; simp
theorem chain_eq {x y : Chain} : x = y ↔ x.Debtor = y.Debtor ∧ x.Stock = y.Stock ∧ x.Marks = y.Marks := by cases x; cases y; simp
theorem eqNotch_eq (x y : Notch) : laws_eqNotch x y = some (decide (x = y)) := by
  unfold laws_eqNotch
  simp only [notch_eq, bne_iff_ne, ne_eq, ite_not]
  repeat' split
  all_goals simp_all
theorem eqMark_eq (x y : Mark) : laws_eqMark x y = some (decide (x = y)) := by
  unfold laws_eqMark
  simp only [mark_eq, bne_iff_ne, ne_eq, ite_not]
  repeat' split
  all_goals simp_all
theorem eqNotchS_eq (a b : List Notch) (h : a.length ≤ 4611686018427387904) : laws_eqNotchS a b = some (decide (a = b)) := by
  unfold laws_eqNotchS
  by_cases hl : a.length = b.length
  · rw [if_neg (by simp [hl]), eqS_loop a b h hl (fun i h1 h2 => by
      simp only [laws_eqNotchS_b1, rd_coe, List.getElem?_eq_getElem h1, List.getElem?_eq_getElem h2, Option.bind_some, eqNotch_eq]
      by_cases he : a[i] = b[i] <;> simp [he, h1]) (by simp [laws_eqNotchS_b1])]
    by_cases he : a = b <;> simp [he]
  · rw [if_pos (by simp; omega)]
    have : a ≠ b := fun h => hl (by rw [h])
    simp [this]
theorem eqMarkS_eq (a b : List Mark) (h : a.length ≤ 4611686018427387904) : laws_eqMarkS a b = some (decide (a = b)) := by
  unfold laws_eqMarkS
  by_cases hl : a.length = b.length
  · rw [if_neg (by simp [hl]), eqS_loop a b h hl (fun i h1 h2 => by
      simp only [laws_eqMarkS_b1, rd_coe, List.getElem?_eq_getElem h1, List.getElem?_eq_getElem h2, Option.bind_some, eqMark_eq]
      by_cases he : a[i] = b[i] <;> simp [he, h1]) (by simp [laws_eqMarkS_b1])]
    by_cases he : a = b <;> simp [he]
  · rw [if_pos (by simp; omega)]
    have : a ≠ b := fun h => hl (by rw [h])
    simp [this]
theorem eqGrain_eq (a b : Ar 16 Int) : laws_eqGrain a b = some (decide (a = b)) := by
  unfold laws_eqGrain
  have ha := a.h
  have hb := b.h
  rw [eqS_loop a.l b.l (by omega) (by omega) (fun i h1 h2 => by
      simp only [laws_eqGrain_b1, rdA_coe a i (by omega), rdA_coe b i (by omega), Option.bind_some]
      have h16 : (i : Int) < 16 := by omega
      by_cases he : a.l[i] = b.l[i] <;> simp [he, h16]) (by simp [laws_eqGrain_b1, ha])]
  by_cases he : a.l = b.l
  · simp [he, ar_ext]
  · simp [he, ar_ext]
theorem toGrain_eq (a : Ar 16 Int) : laws_toGrain a = some a := by
  unfold laws_toGrain
  rw [ar_copy a (Ar.rep 16 0) (fun i h y => by
    have h16 : (i : Int) < 16 := by omega
    simp [laws_toGrain_b1, h16, rdA_coe a i h, rdA_coe y i h, w64s (show i < 16 by omega) (by omega)]) (fun y => by simp [laws_toGrain_b1])]
  rfl
theorem toNotchS_eq (a : List Notch) (h : a.length * 4 ≤ 140737488351232) : laws_toNotchS a = some a := by
  unfold laws_toNotchS
  have key := copy_loop (tb := laws_toNotchS_b1 a) a (List.replicate a.length ⟨0, 0⟩) (by omega) (by simp)
    (by intro i zs hi hz; simp [laws_toNotchS_b1, laws_toNotch, rd_coe, hi, hz]) (by intro zs hz; simp [laws_toNotchS_b1])
  rw [mkS_some h (by omega), Option.bind_some, key, Option.bind_some]
theorem toMarkS_eq (a : List Mark) (h : a.length * 24 ≤ 140737488351232) : laws_toMarkS a = some a := by
  unfold laws_toMarkS
  have key := copy_loop (tb := laws_toMarkS_b1 a) a (List.replicate a.length ⟨[], 0⟩) (by omega) (by simp)
    (by intro i zs hi hz; simp [laws_toMarkS_b1, laws_toMark, rd_coe, hi, hz]) (by intro zs hz; simp [laws_toMarkS_b1])
  rw [mkS_some h (by omega), Option.bind_some, key, Option.bind_some]
theorem ok_notches {c : Chain} (h : c.ok) : c.Stock.Notches.length * 4 ≤ 140737488351232 := h.2.1.2.1.2.1
theorem ok_marks {c : Chain} (h : c.ok) : c.Marks.length * 24 ≤ 140737488351232 := h.2.2.2.1
theorem ok_debtor {c : Chain} (h : c.ok) : c.Debtor.length ≤ 140737488351232 := h.1
theorem ok_mark {c : Chain} (h : c.ok) (m : Mark) (hm : m ∈ c.Marks) : m.Holder.length ≤ 140737488351232 := (h.2.2.2.2 m hm).1
theorem toChain_eq (c : Chain) (h : c.ok) : laws_toChain c = some (c.Debtor, c.Stock.Stock, c.Stock.Notches, c.Stock.Grain, c.Marks) := by
  unfold laws_toChain laws_toHalf
  rw [toNotchS_eq _ (ok_notches h), toGrain_eq, toMarkS_eq _ (ok_marks h)]
  rfl
theorem eqHalf_eq (x y : Half) (h : x.Notches.length ≤ 4611686018427387904) : laws_eqHalf x y = some (decide (x = y)) := by
  unfold laws_eqHalf
  rw [eqNotchS_eq _ _ h, eqGrain_eq]
  by_cases e1 : x.Stock = y.Stock <;> by_cases e2 : x.Notches = y.Notches <;> by_cases e3 : x.Grain = y.Grain <;> simp [half_eq, e1, e2, e3]
theorem eqChain_eq (x y : Chain) (h1 : x.Stock.Notches.length ≤ 4611686018427387904) (h2 : x.Marks.length ≤ 4611686018427387904) : laws_eqChain x y = some (decide (x = y)) := by
  unfold laws_eqChain
  rw [eqHalf_eq _ _ h1, eqMarkS_eq _ _ h2]
  by_cases e1 : x.Debtor = y.Debtor <;> by_cases e2 : x.Stock = y.Stock <;> by_cases e3 : x.Marks = y.Marks <;> simp [chain_eq, e1, e2, e3]
theorem szMarkS_some (xs : List Mark) (n : Int) (hn : xs.length ≤ 4611686018427387904) : ∃ r, laws_szMarkS xs n = some r := by
  unfold laws_szMarkS
  split
  · exact ⟨_, rfl⟩
  obtain ⟨r, hr⟩ := sz_loop (tb := laws_szMarkS_b1 xs) xs.length (fun a i hi => by
    have w := w64s hi hn
    by_cases h0 : IntKind.i64.wrap (a - (xs[i].Holder.length : Int)) < 0
    · exact .inr (by simp [laws_szMarkS_b1, rd_coe, hi, laws_szMark, h0])
    · exact .inl ⟨_, by simp [laws_szMarkS_b1, rd_coe, hi, laws_szMark, h0, w]; rfl⟩) (fun a => by simp [laws_szMarkS_b1]) (IntKind.i64.wrap (n - (xs.length : Int)))
  rw [hr, Option.bind_some]
  rcases r with r | r <;> exact ⟨_, rfl⟩
theorem szNotchS_some (xs : List Notch) (n : Int) : ∃ r, laws_szNotchS xs n = some r := by
  unfold laws_szNotchS; split <;> exact ⟨_, rfl⟩
theorem szChain_some (c : Chain) (n : Int) (h : c.ok) : ∃ r, laws_szChain c n = some r := by
  have hm := ok_marks h
  unfold laws_szChain
  split
  · exact ⟨_, rfl⟩
  unfold laws_szHalf
  obtain ⟨r, hr⟩ := szNotchS_some c.Stock.Notches (IntKind.i64.wrap (n - (c.Debtor.length : Int)))
  rw [hr]
  obtain ⟨q, hq⟩ := szMarkS_some c.Marks r (by omega)
  simp only [Option.bind_some]
  by_cases h0 : r < 0
  · exact ⟨-1, by simp [h0]⟩
  · simp only [h0, decide_false, Bool.false_eq_true, if_false, Option.bind_some, hq]
    split <;> exact ⟨_, rfl⟩
end Go.Proofs.YtbhbmgmnnkcmcaaDoor
/- Parties: names, finding, valid lists. -/
namespace Go.Proofs.YtbhbmgmnnkcmcaaDoor
open Go Go.Ab
def letB (c : UInt8) : Bool := decide (97 ≤ c.toNat) && decide (c.toNat ≤ 122)
def lettersB (s : List UInt8) (n : Int) : Bool := s.all letB && decide (1 ≤ s.length) && decide ((s.length : Int) ≤ n)
def nameB (s : List UInt8) : Bool := lettersB s 12
theorem isLetters_loop (s : List UInt8) (hn : s.length ≤ 4611686018427387904) : Lw (impl_isLetters_b1 s) 0 = some (if s.all letB = true then .inr () else .inl ()) := by
  have key := scan_all (tb := impl_isLetters_b1 s) s.length hn (fun i => (s[i]?).all letB) () ()
    (by
      intro i hi
      simp only [impl_isLetters_b1, rd_coe, List.getElem?_eq_getElem hi, Option.bind_some, Option.all_some]
      rw [if_pos (by simpa using hi)]
      by_cases h1 : s[i].toNat < 97
      · rw [if_pos (by simp; omega), if_neg (by simp [letB]; omega)]
      · by_cases h2 : s[i].toNat > 122
        · rw [if_neg (by simp; omega), if_pos (by simp; omega), if_neg (by simp [letB]; omega)]
        · rw [if_neg (by simp; omega), if_neg (by simp; omega), if_pos (by simp [letB]; omega)])
    (by simp [impl_isLetters_b1])
  rw [key, all_get]
theorem isLetters_eq (s : List UInt8) (n : Int) (hn : s.length ≤ 4611686018427387904) : impl_isLetters s n = some (lettersB s n) := by
  unfold impl_isLetters lettersB
  rw [isLetters_loop s hn]
  cases s.all letB with
  | false => simp
  | true =>
    by_cases h : 1 ≤ s.length
    · have : (1 : Int) ≤ (s.length : Int) := by omega
      simp [h, this]
    · have : ¬ (1 : Int) ≤ (s.length : Int) := by omega
      simp [h, this]
theorem isName_eq (s : List UInt8) (hn : s.length ≤ 4611686018427387904) : impl_isName s = some (nameB s) := by
  unfold impl_isName nameB; rw [isLetters_eq s 12 hn, Option.bind_some]
theorem l06Name_eq (s : List UInt8) (hn : s.length ≤ 4611686018427387904) : spec_l06Name s = some (nameB s) := by
  have e : Lw (spec_l06Name_b1 s) 0 = Lw (impl_isLetters_b1 s) 0 := rfl
  unfold spec_l06Name nameB lettersB
  rw [e, isLetters_loop s hn]
  cases s.all letB with
  | false => simp
  | true =>
    cases s with
    | nil => simp
    | cons c r => simp
end Go.Proofs.YtbhbmgmnnkcmcaaDoor
/- Halves and chains that are valid: the program's word and the reference's. -/
namespace Go.Proofs.YtbhbmgmnnkcmcaaDoor
open Go Go.Ab
def grainB (g : Ar 16 Int) : Bool := g.l.all fun x => inB x (-3) 3
theorem validGrain_eq (g : Ar 16 Int) : impl_ValidGrain g = some (grainB g) := by
  have hg := g.h
  unfold impl_ValidGrain grainB
  have key := scan_all (tb := impl_ValidGrain_b1 g) g.l.length (by omega) (fun i => (g.l[i]?).all fun x => inB x (-3) 3) () ()
    (by
      intro i hi
      have h16 : (i : Int) < 16 := by omega
      simp only [impl_ValidGrain_b1, rdA_coe g i (by omega), List.getElem?_eq_getElem hi, Option.bind_some, Option.all_some]
      rw [if_pos (by simpa using h16)]
      by_cases h1 : g.l[i] < -3
      · rw [if_pos (by simpa using h1), if_neg (by simp [inB]; omega)]
      · by_cases h2 : g.l[i] > 3
        · rw [if_neg (by simpa using h1), if_pos (by simpa using h2), if_neg (by simp [inB]; omega)]
        · rw [if_neg (by simpa using h1), if_neg (by simpa using h2), if_pos (by simp [inB]; omega)])
    (by simp [impl_ValidGrain_b1, hg])
  rw [key, all_get]
  cases g.l.all fun x => inB x (-3) 3 <;> simp
theorem l01Grain_eq (g : Ar 16 Int) : spec_l01Grain g = some (grainB g) := by
  have hg := g.h
  unfold spec_l01Grain grainB
  have key := scan_all (tb := spec_l01Grain_b1 g) g.l.length (by omega) (fun i => (g.l[i]?).all fun x => inB x (-3) 3) () ()
    (by
      intro i hi
      have h16 : (i : Int) < 16 := by omega
      simp only [spec_l01Grain_b1, rdA_coe g i (by omega), List.getElem?_eq_getElem hi, Option.bind_some, Option.all_some]
      rw [if_pos (by simpa using h16)]
      by_cases h1 : g.l[i] < -3
      · rw [if_pos (by simpa using h1), if_neg (by simp [inB]; omega)]
      · by_cases h2 : g.l[i] > 3
        · rw [if_neg (by simpa using h1), if_pos (by simpa using h2), if_neg (by simp [inB]; omega)]
        · rw [if_neg (by simpa using h1), if_neg (by simpa using h2), if_pos (by simp [inB]; omega)])
    (by simp [spec_l01Grain_b1, hg])
  rw [key, all_get]
  cases g.l.all fun x => inB x (-3) 3 <;> simp
theorem isKind_eq (k : Int) : impl_isKind k = some (inB k 0 5) := by
  unfold impl_isKind inB; by_cases h : 0 ≤ k <;> simp [h]
theorem l01Kind_eq (k : Int) : spec_l01Kind k = some (inB k 0 5) := by
  unfold spec_l01Kind; rw [l00In_eq, Option.bind_some]
theorem ends_eq (n : Notch) (hk : inB n.Kind 0 5 = true) : ∃ e, impl_Notch_end n = some e ∧ spec_l01Ends n = some e := by
  obtain ⟨h0, h1⟩ := inB_iff.1 hk
  have w : IntKind.i64.wrap n.Kind = n.Kind := w64 (by omega)
  obtain ⟨x, hx⟩ : ∃ x, rd ([1, 2, 4, 6, 9, 12] : List Int) n.Kind = some x := ⟨_, rd_in h0 (by simp; omega)⟩
  exact ⟨_, by unfold impl_Notch_end impl_width; rw [w, hx]; rfl, by unfold spec_l01Ends spec_l01Widths; rw [Option.bind_some, hx]; rfl⟩
theorem notch_loop (h : Half) (hn : h.Notches.length ≤ 60) (hk : ∀ n ∈ h.Notches, -128 ≤ n.Kind ∧ n.Kind ≤ 127) :
    ∃ r r2, Lw (impl_ValidHalf_b1 h) 0 = some r ∧ Lw (spec_l01Notches_b1 h.Notches) 0 = some r2 ∧ r = r2 ∧ (r = .inr () → ∀ n ∈ h.Notches, inB n.Kind 0 5 = true ∧ 0 ≤ n.At) := by
  refine Lw_sim (tb := impl_ValidHalf_b1 h) (tb2 := spec_l01Notches_b1 h.Notches) (fun s => h.Notches.length - s.toNat) (fun s s2 => s = s2 ∧ ∃ i : Nat, s = i ∧ i ≤ h.Notches.length ∧ ∀ (j : Nat) (hj : j < h.Notches.length), j < i → inB h.Notches[j].Kind 0 5 = true ∧ 0 ≤ h.Notches[j].At) _ ?_ _ _ _ rfl
    ⟨rfl, 0, rfl, by omega, fun j hj e => by omega⟩
  rintro s s2 ⟨rfl, i, rfl, hil, hprev⟩
  by_cases hlt : i < h.Notches.length
  · have hr : rd h.Notches (i : Int) = some h.Notches[i] := by rw [rd_coe, List.getElem?_eq_getElem hlt]
    have w := w64s hlt (by omega)
    have wk : IntKind.i64.wrap h.Notches[i].Kind = h.Notches[i].Kind := by
      have := hk _ (List.getElem_mem hlt)
      exact w64 (by omega)
    have kI := isKind_eq h.Notches[i].Kind
    have kS := l01Kind_eq h.Notches[i].Kind
    have hlt' : (i : Int) < h.Notches.length := by omega
    cases hkb : inB h.Notches[i].Kind 0 5 with
    | false =>
      rw [hkb] at kI kS
      exact .inr ⟨.inl (), .inl (), by simp [impl_ValidHalf_b1, hlt, hr, wk, kI], by simp [spec_l01Notches_b1, hlt, hr, wk, kS], rfl, fun e => by cases e⟩
    | true =>
      rw [hkb] at kI kS
      by_cases h0 : h.Notches[i].At < 0
      · exact .inr ⟨.inl (), .inl (), by simp [impl_ValidHalf_b1, hlt, hr, wk, kI, h0], by simp [spec_l01Notches_b1, hlt, hr, wk, kS, h0], rfl, fun e => by cases e⟩
      obtain ⟨e, e1, e2⟩ := ends_eq _ hkb
      by_cases h2 : e > 200
      · exact .inr ⟨.inl (), .inl (), by simp [impl_ValidHalf_b1, hlt, hr, wk, kI, h0, e1, h2], by simp [spec_l01Notches_b1, hlt, hr, wk, kS, h0, e2, h2], rfl, fun e => by cases e⟩
      by_cases hi0 : i = 0
      · have hi0' : ¬ 0 < i := by omega
        exact .inl ⟨((i + 1 : Nat) : Int), _, by simp [impl_ValidHalf_b1, hlt, hr, wk, kI, h0, e1, h2, hi0', w], by simp [spec_l01Notches_b1, hlt, hr, wk, kS, h0, e2, h2, hi0', w], ⟨rfl, i + 1, rfl, by omega, fun j hj hji => (if e : j = i then (by subst e; exact ⟨hkb, by omega⟩) else hprev j hj (by omega))⟩, by simp; omega⟩
      · have hi0' : 0 < i := by omega
        have hj : i - 1 < h.Notches.length := by omega
        have hp : rd h.Notches (IntKind.i64.wrap ((i : Int) - 1)) = some h.Notches[i - 1] := by
          rw [w64 (by omega), show ((i : Int) - 1) = ((i - 1 : Nat) : Int) by omega, rd_coe, List.getElem?_eq_getElem hj]
        obtain ⟨e', e1', e2'⟩ := ends_eq _ (hprev (i - 1) hj (by omega)).1
        by_cases c1 : IntKind.i64.wrap h.Notches[i].At ≤ e'
        · by_cases c2 : h.Notches[i].Kind > h.Notches[i - 1].Kind
          · exact .inr ⟨.inl (), .inl (), by simp [impl_ValidHalf_b1, hlt, hr, wk, kI, h0, e1, h2, hi0', hp, e1', c1], by simp [spec_l01Notches_b1, hlt, hr, wk, kS, h0, e2, h2, hi0', hp, c2], rfl, fun e => by cases e⟩
          · have c2' : ¬ h.Notches[i - 1].Kind < h.Notches[i].Kind := c2
            exact .inr ⟨.inl (), .inl (), by simp [impl_ValidHalf_b1, hlt, hr, wk, kI, h0, e1, h2, hi0', hp, e1', c1], by simp [spec_l01Notches_b1, hlt, hr, wk, kS, h0, e2, h2, hi0', hp, c2', e2', c1], rfl, fun e => by cases e⟩
        · by_cases c2 : h.Notches[i].Kind > h.Notches[i - 1].Kind
          · exact .inr ⟨.inl (), .inl (), by simp [impl_ValidHalf_b1, hlt, hr, wk, kI, h0, e1, h2, hi0', hp, e1', c1, c2], by simp [spec_l01Notches_b1, hlt, hr, wk, kS, h0, e2, h2, hi0', hp, c2], rfl, fun e => by cases e⟩
          · have c2' : ¬ h.Notches[i - 1].Kind < h.Notches[i].Kind := c2
            exact .inl ⟨((i + 1 : Nat) : Int), _, by simp [impl_ValidHalf_b1, hlt, hr, wk, kI, h0, e1, h2, hi0', hp, e1', c1, c2', w], by simp [spec_l01Notches_b1, hlt, hr, wk, kS, h0, e2, h2, hi0', hp, c2', e2', c1, w], ⟨rfl, i + 1, rfl, by omega, fun j hj hji => (if e : j = i then (by subst e; exact ⟨hkb, by omega⟩) else hprev j hj (by omega))⟩, by simp; omega⟩
  · exact .inr ⟨.inr (), .inr (), by simp [impl_ValidHalf_b1, hlt], by simp [spec_l01Notches_b1, hlt], rfl, fun _ n hn' => by obtain ⟨j, hj, rfl⟩ := List.getElem_of_mem hn'; exact hprev j hj (by omega)⟩
/-- what is known of a half that is valid -/
def HfI (h : Half) : Prop := h.Notches.length ≤ 60 ∧ grainB h.Grain = true ∧ ∀ n ∈ h.Notches, inB n.Kind 0 5 = true ∧ 0 ≤ n.At
theorem validHalf_same (h : Half) (hk : ∀ n ∈ h.Notches, -128 ≤ n.Kind ∧ n.Kind ≤ 127) : ∃ b, impl_ValidHalf h = some b ∧ spec_l01Ok h = some b ∧ (b = true → HfI h) := by
  unfold impl_ValidHalf spec_l01Ok spec_l01Notches
  rw [validGrain_eq, l01Grain_eq]
  by_cases hn : (h.Notches.length : Int) > 60
  · exact ⟨false, by simp [hn], by simp [hn], fun e => by cases e⟩
  · obtain ⟨r, r2, e1, e2, rfl, e3⟩ := notch_loop h (by omega) hk
    cases hg : grainB h.Grain
    · rcases r with r | r
      · exact ⟨false, by simp [hn], by simp [hn, e2], fun e => by cases e⟩
      · exact ⟨false, by simp [hn], by simp [hn, e2], fun e => by cases e⟩
    · rcases r with r | r
      · exact ⟨false, by simp [hn, e1], by simp [hn, e2], fun e => by cases e⟩
      · exact ⟨true, by simp [hn, e1], by simp [hn, e2], fun _ => ⟨by omega, hg, e3 rfl⟩⟩
/-- what is known of a chain that is valid -/
def ChI (c : Chain) : Prop := 1 ≤ c.Marks.length ∧ c.Marks.length ≤ 30 ∧ c.Stock.Stock = true ∧ nameB c.Debtor = true ∧ ∀ m ∈ c.Marks, nameB m.Holder = true
theorem marks_loop (c : Chain) (hn : c.Marks.length ≤ 30) (hm : ∀ m ∈ c.Marks, m.Holder.length ≤ 4611686018427387904) :
    ∃ r r2, Lw (impl_ValidChain_b1 c) (c.Debtor, 0) = some r ∧ Lw (spec_l06Ok_b1 c) (c.Debtor, 0) = some r2 ∧ r = r2 ∧ (r = .inr () → ∀ m ∈ c.Marks, nameB m.Holder = true) := by
  refine Lw_sim (tb := impl_ValidChain_b1 c) (tb2 := spec_l06Ok_b1 c) (fun s => c.Marks.length - s.2.toNat) (fun s s2 => s = s2 ∧ ∃ i : Nat, s.2 = i ∧ i ≤ c.Marks.length ∧ ∀ (j : Nat) (hj : j < c.Marks.length), j < i → nameB c.Marks[j].Holder = true) _ ?_ _ _ _ rfl
    ⟨rfl, 0, rfl, by omega, fun j hj e => by omega⟩
  rintro ⟨z, s⟩ s2 ⟨rfl, i, hi, hil, hprev⟩
  simp only at hi
  subst hi
  by_cases hlt : i < c.Marks.length
  · have hr : rd c.Marks (i : Int) = some c.Marks[i] := by rw [rd_coe, List.getElem?_eq_getElem hlt]
    have w := w64s hlt (by omega)
    have kI := isName_eq c.Marks[i].Holder (hm _ (List.getElem_mem hlt))
    have kS := l06Name_eq c.Marks[i].Holder (hm _ (List.getElem_mem hlt))
    cases hkb : nameB c.Marks[i].Holder with
    | false =>
      rw [hkb] at kI kS
      exact .inr ⟨.inl (), .inl (), by simp [impl_ValidChain_b1, hlt, hr, kI], by simp [spec_l06Ok_b1, hlt, hr, kS], rfl, fun h => by cases h⟩
    | true =>
      rw [hkb] at kI kS
      by_cases h0 : c.Marks[i].Holder = z
      · subst h0
        exact .inr ⟨.inl (), .inl (), by simp [impl_ValidChain_b1, hlt, hr, kI], by simp [spec_l06Ok_b1, hlt, hr, kS], rfl, fun h => by cases h⟩
      · refine .inl ⟨(c.Marks[i].Holder, ((i + 1 : Nat) : Int)), _, by simp [impl_ValidChain_b1, hlt, hr, kI, h0, w], by simp [spec_l06Ok_b1, hlt, hr, kS, h0, w], ⟨rfl, i + 1, rfl, by omega, fun j hj hji => ?_⟩, by simp; omega⟩
        by_cases hjj : j = i
        · subst hjj; exact hkb
        · exact hprev j hj (by omega)
  · refine .inr ⟨.inr (), .inr (), by simp [impl_ValidChain_b1, hlt], by simp [spec_l06Ok_b1, hlt], rfl, fun _ m hmem => ?_⟩
    obtain ⟨j, hj, rfl⟩ := List.getElem_of_mem hmem
    exact hprev j hj (by omega)
theorem validChain_same (c : Chain) (hc : c.ok) : ∃ b, impl_ValidChain c = some b ∧ spec_l06Ok c = some b ∧ (b = true → ChI c) := by
  have hd := ok_debtor hc
  have hml := ok_marks hc
  have hm := ok_mark hc
  obtain ⟨q, q1, q2, _⟩ := validHalf_same c.Stock (fun n hn => inR8.1 (hc.2.1.2.1.2.2 n hn).1)
  unfold impl_ValidChain spec_l06Ok
  rw [isName_eq _ (by omega), l06Name_eq _ (by omega), q1, q2]
  simp only [Option.bind_some, l00In_eq]
  cases hN : nameB c.Debtor with
  | false => exact ⟨false, by simp, by simp, fun h => by cases h⟩
  | true =>
    cases q with
    | false => exact ⟨false, by simp, by simp, fun h => by cases h⟩
    | true =>
      cases hS : c.Stock.Stock with
      | false => exact ⟨false, by simp, by simp, fun h => by cases h⟩
      | true =>
        by_cases h1 : (c.Marks.length : Int) < 1
        · have z : inB (c.Marks.length : Int) 1 30 = false := by simp [inB]; omega
          exact ⟨false, by simp [h1], by simp [z], fun h => by cases h⟩
        · by_cases h2 : (c.Marks.length : Int) > 30
          · have z : inB (c.Marks.length : Int) 1 30 = false := by simp [inB]; omega
            exact ⟨false, by simp [h1, h2], by simp [z], fun h => by cases h⟩
          · have z : inB (c.Marks.length : Int) 1 30 = true := inB_iff.2 ⟨by omega, by omega⟩
            obtain ⟨r, r2, e1, e2, rfl, e3⟩ := marks_loop c (by omega) (fun m hmm => by have := hm m hmm; omega)
            rcases r with r | r
            · exact ⟨false, by simp [h1, h2, e1], by simp [z, e2], fun h => by cases h⟩
            · exact ⟨true, by simp [h1, h2, e1], by simp [z, e2], fun _ => ⟨by omega, by omega, hS, hN, e3 rfl⟩⟩
end Go.Proofs.YtbhbmgmnnkcmcaaDoor
/- Texts put together. -/
namespace Go.Proofs.YtbhbmgmnnkcmcaaDoor
open Go Go.Ab
theorem sadd_some {a b : List UInt8} (h : a.length + b.length ≤ 9223372036854775807) : sadd a b = some (a ++ b) := by
  unfold sadd
  rw [if_neg (by have : IntKind.i64.max = 9223372036854775807 := rfl; rw [this]; omega)]
end Go.Proofs.YtbhbmgmnnkcmcaaDoor
/- Numbers written out. -/
namespace Go.Proofs.YtbhbmgmnnkcmcaaDoor
open Go Go.Ab
/-- a number's text -/
noncomputable def tx (n : Int) : List UInt8 := Lib.decDigits n.toNat
theorem decDigits_le : ∀ (k n : Nat), n < 10 ^ (k + 1) → (Lib.decDigits n).length ≤ k + 1
  | 0, n, h => by
    rw [Lib.decDigits, dif_pos (by omega)]
    simp
  | k + 1, n, h => by
    rw [Lib.decDigits]
    split
    · simp
    · have := decDigits_le k (n / 10) (by rw [Nat.pow_succ] at h; omega)
      simp only [List.length_append, List.length_singleton]
      omega
theorem dig_eq {n : Nat} (h : n < 10) : toB [IntKind.u8.wrap (IntKind.i64.wrap (48 + (n : Int)))] = [UInt8.ofNat (48 + n)] := by
  rw [w64 (by omega)]
  have : IntKind.u8.wrap (48 + (n : Int)) = 48 + (n : Int) := by simp [IntKind.wrap, IntKind.signed, IntKind.bits]; omega
  rw [this]
  simp only [toB, List.map_cons, List.map_nil]
  congr 2
theorem decimal_F : ∀ (k n : Nat), n < 10 ^ (k + 1) → n ≤ 9223372036854775807 → k ≤ 100 → spec_Decimal_F (k + 1) (n : Int) = some (Lib.decDigits n)
  | k, n, h, h1, hk => by
    rw [spec_Decimal_F, Lib.decDigits]
    have hr : rem .i64 (n : Int) 10 = some ((n % 10 : Nat) : Int) := by
      unfold rem
      rw [if_neg (by decide)]
      congr 1
    by_cases hn : n < 10
    · rw [if_pos (by simpa using (by omega : (n : Int) < 10)), dif_pos hn, hr, Option.bind_some, dig_eq (by omega), Nat.mod_eq_of_lt hn]
    · rw [if_neg (by simpa using (by omega : ¬ (n : Int) < 10)), dif_neg hn]
      have hq : quo .i64 (n : Int) 10 = some ((n / 10 : Nat) : Int) := by
        unfold quo
        rw [if_neg (by decide)]
        congr 1
        have : ((n : Int).tdiv 10) = ((n / 10 : Nat) : Int) := rfl
        rw [this, w64 (by omega)]
      rw [hq, Option.bind_some]
      cases k with
      | zero => omega
      | succ k =>
        have hlt : n / 10 < 10 ^ (k + 1) := by rw [Nat.pow_succ] at h; omega
        rw [decimal_F k (n / 10) hlt (by omega) (by omega), Option.bind_some, hr, Option.bind_some, dig_eq (by omega)]
        have hl := decDigits_le k (n / 10) hlt
        rw [sadd_some (by simp only [List.length_singleton]; omega), Option.bind_some]
theorem dec_s {n : Int} (h0 : 0 ≤ n) (h1 : n ≤ 9223372036854775807) : spec_Decimal n = some (tx n) := by
  obtain ⟨m, rfl⟩ : ∃ m : Nat, n = m := ⟨n.toNat, by omega⟩
  unfold spec_Decimal tx
  exact decimal_F 63 m (Nat.lt_of_le_of_lt (by omega : m ≤ 9223372036854775807) (by decide)) (by omega) (by omega)
theorem dec_i {n : Int} (h0 : 0 ≤ n) (h1 : n ≤ 9223372036854775807) : impl_decimal n = some (tx n) := by
  obtain ⟨m, rfl⟩ : ∃ m : Nat, n = m := ⟨n.toNat, by omega⟩
  unfold impl_decimal strconv_FormatInt fmtI tx
  rw [if_pos ⟨rfl, by omega, h1⟩, Lib.itoa_nonneg]
  rfl
theorem tx_len {n : Int} (h0 : 0 ≤ n) (h1 : n ≤ 9223372036854775807) : (tx n).length ≤ 19 := by
  unfold tx
  exact decDigits_le 18 _ (by omega)
theorem tx_pos (n : Int) : 0 < (tx n).length := by
  unfold tx
  rw [Lib.decDigits]
  split <;> simp
end Go.Proofs.YtbhbmgmnnkcmcaaDoor
/- Halves written out. -/
namespace Go.Proofs.YtbhbmgmnnkcmcaaDoor
open Go Go.Ab
def letters : List UInt8 := [100, 115, 108, 118, 99, 109]
noncomputable def notT (n : Notch) : List UInt8 := (letters.drop n.Kind.toNat).take 1 ++ tx n.At
def graT (g : Ar 16 Int) : List UInt8 := g.l.map fun x => UInt8.ofNat (100 + x).toNat
noncomputable def halfT (h : Half) : List UInt8 := Lib.join ((if h.Stock = true then [115, 116, 111, 99, 107] else [102, 111, 105, 108]) :: graT h.Grain :: h.Notches.map notT) [32]
theorem wrap_gra {x : Int} (h : inB x (-3) 3 = true) : IntKind.u8.wrap (IntKind.i8.wrap (100 + x)) = 100 + x ∧ IntKind.u8.wrap (IntKind.i64.wrap (100 + IntKind.i64.wrap x)) = 100 + x := by
  obtain ⟨h0, h1⟩ := inB_iff.1 h
  have w : IntKind.i64.wrap x = x := w64 (by omega)
  rw [w, w64 (by omega)]
  constructor
  · simp [IntKind.wrap, IntKind.signed, IntKind.bits]; omega
  · simp [IntKind.wrap, IntKind.signed, IntKind.bits]; omega
theorem let_slc {k : Int} (h : inB k 0 5 = true) : slc ([100, 115, 108, 118, 99, 109] : List UInt8) k (IntKind.i8.wrap (k + 1)) = some ((letters.drop k.toNat).take 1) ∧ ((letters.drop k.toNat).take 1).length = 1 := by
  obtain ⟨h0, h1⟩ := inB_iff.1 h
  have w : IntKind.i8.wrap (k + 1) = k + 1 := by simp [IntKind.wrap, IntKind.signed, IntKind.bits]; omega
  rw [w]
  unfold slc
  rw [if_pos ⟨h0, by omega, by simp only [List.length_cons, List.length_nil]; omega⟩]
  constructor
  · rw [show (k + 1).toNat - k.toNat = 1 by omega]; rfl
  · simp [letters, List.length_take, List.length_drop]; omega
theorem notT_len {n : Notch} (h : inB n.Kind 0 5 = true) (h0 : 0 ≤ n.At) (h1 : n.At ≤ 32767) : (notT n).length ≤ 20 := by
  unfold notT
  rw [List.length_append, (let_slc h).2]
  have := tx_len h0 (by omega)
  omega
theorem tms {α β : Type} (f : α → β) (xs : List α) {i : Nat} (h : i < xs.length) : (xs.take (i + 1)).map f = (xs.take i).map f ++ [f xs[i]] := by
  rw [List.take_add_one, List.getElem?_eq_getElem h]
  simp only [List.map_append, Option.toList_some, List.map_cons, List.map_nil]
theorem gra_i (h : Half) (hg : grainB h.Grain = true) (tb : Int × List Int → Option ((Int × List Int) ⊕ List Int)) (ht : tb = impl_halfText_b1 h ∨ tb = impl_halfText_b3 h) : ∃ y, Lw tb (0, []) = some y ∧ toB y = graT h.Grain := by
  have hl := h.Grain.h
  have hgx : ∀ x ∈ h.Grain.l, inB x (-3) 3 = true := by simpa [grainB, List.all_eq_true] using hg
  have step : ∀ (i : Nat) (hi : i < 16), tb ((i : Int), (h.Grain.l.take i).map fun x => 100 + x) = some (.inl (((i + 1 : Nat) : Int), (h.Grain.l.take (i + 1)).map fun x => 100 + x)) := by
    intro i hi
    have hlt : i < h.Grain.l.length := by omega
    have hx := hgx _ (List.getElem_mem hlt)
    have w := w64s hi (by omega)
    have ap : app 1 ((h.Grain.l.take i).map fun x => 100 + x) [100 + h.Grain.l[i]] = some ((h.Grain.l.take (i + 1)).map fun x => 100 + x) := by
      rw [app_some (by simp; omega) (by decide), tms _ _ hlt]
    have hlt' : (i : Int) < 16 := by omega
    have hr := rdA_coe h.Grain i hi
    rcases ht with rfl | rfl <;> simp only [impl_halfText_b1, impl_halfText_b3, hr, Option.bind_some, (wrap_gra hx).1, ap, w] <;> simp [hlt']
  refine ⟨(h.Grain.l.take 16).map fun x => 100 + x, ?_, ?_⟩
  · exact Lw_run (tb := tb) (fun i => ((i : Int), (h.Grain.l.take i).map fun x => 100 + x)) 16 (fun i hi => step i hi) (by rcases ht with rfl | rfl <;> simp [impl_halfText_b1, impl_halfText_b3])
  · rw [List.take_of_length_le (by omega)]
    simp [toB, graT]
theorem not_i (h : Half) (pre : List (List UInt8)) (hp : pre.length = 2) (hn : h.Notches.length ≤ 60) (hk : ∀ n ∈ h.Notches, inB n.Kind 0 5 = true ∧ 0 ≤ n.At ∧ n.At ≤ 32767) (tb : Int × List (List UInt8) → Option ((Int × List (List UInt8)) ⊕ List (List UInt8))) (ht : tb = impl_halfText_b2 h ∨ tb = impl_halfText_b4 h) :
    Lw tb (0, pre) = some (pre ++ h.Notches.map notT) := by
  have step : ∀ (i : Nat) (hi : i < h.Notches.length), tb ((i : Int), pre ++ (h.Notches.take i).map notT) = some (.inl (((i + 1 : Nat) : Int), pre ++ (h.Notches.take (i + 1)).map notT)) := by
    intro i hi
    obtain ⟨k1, k2, k3⟩ := hk _ (List.getElem_mem hi)
    have w := w64s hi (by omega)
    have wa : IntKind.i64.wrap h.Notches[i].At = h.Notches[i].At := w64 (by omega)
    have hr : rd h.Notches (i : Int) = some h.Notches[i] := by rw [rd_coe, List.getElem?_eq_getElem hi]
    have hd := dec_i k2 (by omega)
    have hs : sadd ((letters.drop h.Notches[i].Kind.toNat).take 1) (tx h.Notches[i].At) = some (notT h.Notches[i]) := sadd_some (by rw [(let_slc k1).2]; have := tx_len k2 (by omega); omega)
    have ap : app 16 (pre ++ (h.Notches.take i).map notT) [notT h.Notches[i]] = some (pre ++ (h.Notches.take (i + 1)).map notT) := by
      rw [app_some (by simp; omega) (by decide), tms _ _ hi, List.append_assoc]
    rcases ht with rfl | rfl <;> simp only [impl_halfText_b2, impl_halfText_b4, hr, Option.bind_some, (let_slc k1).1, wa, hd, hs, ap, w] <;> simp [hi]
  have key := Lw_run (tb := tb) (fun i => ((i : Int), pre ++ (h.Notches.take i).map notT)) h.Notches.length (r := pre ++ h.Notches.map notT) (fun i hi => step i hi) (by rcases ht with rfl | rfl <;> simp [impl_halfText_b2, impl_halfText_b4])
  simpa using key
theorem joinTail_len (k : Nat) : ∀ r : List (List UInt8), (∀ s ∈ r, s.length ≤ k) → (Lib.joinTail [32] r).length ≤ r.length * (k + 1)
  | [], _ => by simp [Lib.joinTail]
  | y :: q, hy => by
    have h1 := joinTail_len k q (fun s hs => hy s (by simp [hs]))
    have h2 := hy y (by simp)
    simp only [Lib.joinTail, List.map_cons, List.flatten_cons, List.length_append, List.length_cons, List.length_nil] at h1 ⊢
    rw [Nat.add_mul]
    omega
theorem halfT_len (h : Half) (hf : HfI h) (ha : ∀ n ∈ h.Notches, n.At ≤ 32767) : (halfT h).length ≤ 1400 := by
  unfold halfT
  rw [Lib.join_cons]
  have hl := h.Grain.h
  have := joinTail_len 20 (graT h.Grain :: h.Notches.map notT) (fun s hs => by
    rcases List.mem_cons.1 hs with rfl | hs
    · simp [graT]; omega
    · obtain ⟨n, hn, rfl⟩ := List.mem_map.1 hs
      exact notT_len (hf.2.2 n hn).1 (hf.2.2 n hn).2 (ha n hn))
  have h60 := hf.1
  simp only [List.length_cons, List.length_map] at this
  have hs : (if h.Stock = true then ([115, 116, 111, 99, 107] : List UInt8) else [102, 111, 105, 108]).length ≤ 5 := by split <;> simp
  rw [List.length_append]
  omega
theorem half_i (h : Half) (hf : HfI h) (ha : ∀ n ∈ h.Notches, n.At ≤ 32767) : impl_halfText h = some (halfT h) := by
  have hk : ∀ n ∈ h.Notches, inB n.Kind 0 5 = true ∧ 0 ≤ n.At ∧ n.At ≤ 32767 := fun n hn => ⟨(hf.2.2 n hn).1, (hf.2.2 n hn).2, ha n hn⟩
  have hlen := halfT_len h hf ha
  have h60 := hf.1
  obtain ⟨y1, e1, e2⟩ := gra_i h hf.2.1 _ (.inl rfl)
  obtain ⟨y3, e3, e4⟩ := gra_i h hf.2.1 _ (.inr rfl)
  unfold impl_halfText
  unfold halfT at hlen ⊢
  cases hs : h.Stock with
  | true =>
    rw [hs, if_pos rfl] at hlen
    rw [if_pos rfl, e1, Option.bind_some, not_i h _ rfl hf.1 hk _ (.inl rfl), Option.bind_some, e2]
    unfold strings_Join joinI
    rw [if_pos ⟨by simp only [List.cons_append, List.nil_append]; omega, by simp; omega⟩]
    rfl
  | false =>
    rw [hs, if_neg (by simp)] at hlen
    rw [if_neg (by simp), e3, Option.bind_some, not_i h _ rfl hf.1 hk _ (.inr rfl), Option.bind_some, e4]
    unfold strings_Join joinI
    rw [if_pos ⟨by simp only [List.cons_append, List.nil_append]; omega, by simp; omega⟩]
    rfl
theorem gra_s (h : Half) (hg : grainB h.Grain = true) (pre : List UInt8) (hp : pre.length ≤ 10) (tb : List UInt8 × Int → Option ((List UInt8 × Int) ⊕ List UInt8)) (ht : tb = spec_l01Text_b1 h ∨ tb = spec_l01Text_b3 h) : Lw tb (pre, 0) = some (pre ++ graT h.Grain) := by
  have hl := h.Grain.h
  have hgx : ∀ x ∈ h.Grain.l, inB x (-3) 3 = true := by simpa [grainB, List.all_eq_true] using hg
  have step : ∀ (i : Nat) (hi : i < 16), tb (pre ++ (h.Grain.l.take i).map (fun x => UInt8.ofNat (100 + x).toNat), (i : Int)) = some (.inl (pre ++ (h.Grain.l.take (i + 1)).map (fun x => UInt8.ofNat (100 + x).toNat), ((i + 1 : Nat) : Int))) := by
    intro i hi
    have hlt : i < h.Grain.l.length := by omega
    have hx := hgx _ (List.getElem_mem hlt)
    have w := w64s hi (by omega)
    have ap : sadd (pre ++ (h.Grain.l.take i).map (fun x => UInt8.ofNat (100 + x).toNat)) (toB [100 + h.Grain.l[i]]) = some (pre ++ (h.Grain.l.take (i + 1)).map (fun x => UInt8.ofNat (100 + x).toNat)) := by
      rw [sadd_some (by simp [toB]; omega), tms _ _ hlt, List.append_assoc]
      rfl
    have hlt' : (i : Int) < 16 := by omega
    have hr := rdA_coe h.Grain i hi
    rcases ht with rfl | rfl <;> simp only [spec_l01Text_b1, spec_l01Text_b3, hr, Option.bind_some, (wrap_gra hx).2, ap, w] <;> simp [hlt']
  have key := Lw_run (tb := tb) (fun i => (pre ++ (h.Grain.l.take i).map (fun x => UInt8.ofNat (100 + x).toNat), (i : Int))) 16 (r := pre ++ graT h.Grain) (fun i hi => step i hi) (by
    have e : (h.Grain.l.take 16).map (fun x => UInt8.ofNat (100 + x).toNat) = graT h.Grain := by rw [List.take_of_length_le (by omega)]; rfl
    rcases ht with rfl | rfl <;> simp [spec_l01Text_b1, spec_l01Text_b3, e])
  simpa using key
theorem not_s (h : Half) (pre : List UInt8) (hp : pre.length ≤ 30) (hn : h.Notches.length ≤ 60) (hk : ∀ n ∈ h.Notches, inB n.Kind 0 5 = true ∧ 0 ≤ n.At ∧ n.At ≤ 32767) (tb : List UInt8 × Int → Option ((List UInt8 × Int) ⊕ List UInt8)) (ht : tb = spec_l01Text_b2 h ∨ tb = spec_l01Text_b4 h) :
    Lw tb (pre, 0) = some (pre ++ Lib.joinTail [32] (h.Notches.map notT)) := by
  have step : ∀ (i : Nat) (hi : i < h.Notches.length), tb (pre ++ Lib.joinTail [32] ((h.Notches.take i).map notT), (i : Int)) = some (.inl (pre ++ Lib.joinTail [32] ((h.Notches.take (i + 1)).map notT), ((i + 1 : Nat) : Int))) := by
    intro i hi
    obtain ⟨k1, k2, k3⟩ := hk _ (List.getElem_mem hi)
    have w := w64s hi (by omega)
    have wa : IntKind.i64.wrap h.Notches[i].At = h.Notches[i].At := w64 (by omega)
    have hr : rd h.Notches (i : Int) = some h.Notches[i] := by rw [rd_coe, List.getElem?_eq_getElem hi]
    have hd := dec_s k2 (by omega)
    have hl1 := (let_slc k1).2
    have htx := tx_len k2 (by omega : h.Notches[i].At ≤ 9223372036854775807)
    have s1 : sadd [32] ((letters.drop h.Notches[i].Kind.toNat).take 1) = some ([32] ++ (letters.drop h.Notches[i].Kind.toNat).take 1) := sadd_some (by rw [hl1]; simp)
    have s2 : sadd ([32] ++ (letters.drop h.Notches[i].Kind.toNat).take 1) (tx h.Notches[i].At) = some ([32] ++ notT h.Notches[i]) := by
      rw [sadd_some (by rw [List.length_append, hl1]; simp; omega), List.append_assoc]; rfl
    have hjl := joinTail_len 20 ((h.Notches.take i).map notT) (fun s hs => by
      obtain ⟨n, hn', rfl⟩ := List.mem_map.1 hs
      have hm := List.mem_of_mem_take hn'
      exact notT_len (hk n hm).1 (hk n hm).2.1 (hk n hm).2.2)
    have hnl := notT_len k1 k2 k3
    rw [List.length_map, List.length_take] at hjl
    have s3 : sadd (pre ++ Lib.joinTail [32] ((h.Notches.take i).map notT)) ([32] ++ notT h.Notches[i]) = some (pre ++ Lib.joinTail [32] ((h.Notches.take (i + 1)).map notT)) := by
      have h60 : min i h.Notches.length * (20 + 1) ≤ 60 * (20 + 1) := Nat.mul_le_mul_right _ (by omega)
      rw [sadd_some (by simp only [List.length_append, List.length_singleton]; omega), tms _ _ hi]
      simp only [Lib.joinTail, List.map_append, List.map_cons, List.map_nil, List.flatten_append, List.flatten_cons, List.flatten_nil, List.append_nil, List.append_assoc]
    rcases ht with rfl | rfl <;> simp only [spec_l01Text_b2, spec_l01Text_b4, spec_l01Letters, hr, Option.bind_some, (let_slc k1).1, wa, hd, s1, s2, s3, w] <;> simp [hi]
  have key := Lw_run (tb := tb) (fun i => (pre ++ Lib.joinTail [32] ((h.Notches.take i).map notT), (i : Int))) h.Notches.length (r := pre ++ Lib.joinTail [32] (h.Notches.map notT)) (fun i hi => step i hi) (by rcases ht with rfl | rfl <;> simp [spec_l01Text_b2, spec_l01Text_b4])
  simpa [Lib.joinTail] using key
theorem half_s (h : Half) (hf : HfI h) (ha : ∀ n ∈ h.Notches, n.At ≤ 32767) : spec_l01Text h = some (halfT h) := by
  have hk : ∀ n ∈ h.Notches, inB n.Kind 0 5 = true ∧ 0 ≤ n.At ∧ n.At ≤ 32767 := fun n hn => ⟨(hf.2.2 n hn).1, (hf.2.2 n hn).2, ha n hn⟩
  have hl := h.Grain.h
  have hgl : (graT h.Grain).length = 16 := by simp [graT, hl]
  unfold spec_l01Text halfT
  rw [Lib.join_cons]
  cases hs : h.Stock with
  | true =>
    rw [if_pos rfl, if_pos rfl, gra_s h hf.2.1 _ (by simp) _ (.inl rfl), Option.bind_some, not_s h _ (by rw [List.length_append, hgl]; simp) hf.1 hk _ (.inl rfl)]
    simp [Lib.joinTail]
  | false =>
    rw [if_neg (by simp), if_neg (by simp), gra_s h hf.2.1 _ (by simp) _ (.inr rfl), Option.bind_some, not_s h _ (by rw [List.length_append, hgl]; simp) hf.1 hk _ (.inr rfl)]
    simp [Lib.joinTail]
end Go.Proofs.YtbhbmgmnnkcmcaaDoor
/- Texts put together line by line. -/
namespace Go.Proofs.YtbhbmgmnnkcmcaaDoor
open Go Go.Ab
theorem text_loop {τ : Type} {tb : List UInt8 × Int → Option ((List UInt8 × Int) ⊕ List UInt8)} (xs : List τ) (f : τ → List UInt8) (pre : List UInt8)
    (hs : ∀ (i : Nat) (hi : i < xs.length) (o : List UInt8), o = pre ++ ((xs.take i).map f).flatten → tb (o, (i : Int)) = some (.inl (o ++ f xs[i], ((i + 1 : Nat) : Int)))) (he : ∀ o, tb (o, (xs.length : Int)) = some (.inr o)) :
    Lw tb (pre, 0) = some (pre ++ (xs.map f).flatten) := by
  have key := Lw_run (tb := tb) (fun i => (pre ++ ((xs.take i).map f).flatten, (i : Int))) xs.length (r := pre ++ (xs.map f).flatten)
    (fun i hi => by
      rw [hs i hi _ rfl, List.take_succ_eq_append_getElem hi]
      simp only [List.map_append, List.map_cons, List.map_nil, List.flatten_append, List.flatten_cons, List.flatten_nil, List.append_nil, List.append_assoc])
    (by rw [he, List.take_length])
  simpa using key
theorem flat_len {τ : Type} (f : τ → List UInt8) (k : Nat) : ∀ (xs : List τ), (∀ x ∈ xs, (f x).length ≤ k) → ((xs.map f).flatten).length ≤ xs.length * k
  | [], _ => by simp
  | x :: r, h => by
    have h1 := h x (by simp)
    have h2 := flat_len f k r (fun y hy => h y (by simp [hy]))
    simp only [List.map_cons, List.flatten_cons, List.length_append, List.length_cons]
    rw [Nat.add_mul]; omega
theorem flat_take {τ : Type} (f : τ → List UInt8) (k : Nat) (xs : List τ) (h : ∀ x ∈ xs, (f x).length ≤ k) (i : Nat) : (((xs.take i).map f).flatten).length ≤ xs.length * k := by
  have := flat_len f k (xs.take i) (fun x hx => h x (List.mem_of_mem_take hx))
  have h2 : (xs.take i).length * k ≤ xs.length * k := Nat.mul_le_mul_right _ (by simp; omega)
  omega
end Go.Proofs.YtbhbmgmnnkcmcaaDoor
/- Numbers in eight digits; chains written out. -/
namespace Go.Proofs.YtbhbmgmnnkcmcaaDoor
open Go Go.Ab
def hexDig : List UInt8 := [48, 49, 50, 51, 52, 53, 54, 55, 56, 57, 97, 98, 99, 100, 101, 102]
def hx (n : Int) (k : Nat) : UInt8 := hexDig.getD (n / 2 ^ k % 16).toNat 0
def hexT (n : Int) : List UInt8 := [hx n 28, hx n 24, hx n 20, hx n 16, hx n 12, hx n 8, hx n 4, hx n 0]
theorem shr32 {n : Int} (k : Nat) (hk : k ≤ 32) : shr .u32 n (k : Int) = some (n / 2 ^ k) := by
  unfold shr
  rw [if_neg (by omega)]
  have : min ((k : Int).toNat) IntKind.u32.bits = k := by simp [IntKind.bits]; omega
  rw [this, Int.fdiv_eq_ediv_of_nonneg _ (Int.le_of_lt (Int.pow_pos (by omega)))]
theorem iand15 {x : Int} (h0 : 0 ≤ x) (h1 : x ≤ 4294967295) : iand .u32 x 15 = x % 16 := by
  obtain ⟨m, rfl⟩ : ∃ m : Nat, x = m := ⟨x.toNat, by omega⟩
  unfold iand
  have e1 : (BitVec.ofInt IntKind.u32.bits (m : Int)).toNat = m := by simp [IntKind.bits, BitVec.toNat_ofInt]; omega
  have e2 : (BitVec.ofInt IntKind.u32.bits (15 : Int)).toNat = 15 := by decide
  have e3 : m &&& 15 = m % 16 := Nat.and_two_pow_sub_one_eq_mod m 4
  rw [BitVec.toNat_and, e1, e2, e3]
  simp [IntKind.wrap, IntKind.signed, IntKind.bits]
  omega
theorem hex_rd {n : Int} (h0 : 0 ≤ n) (h1 : n ≤ 4294967295) (k : Nat) : rd ([48, 49, 50, 51, 52, 53, 54, 55, 56, 57, 97, 98, 99, 100, 101, 102] : List UInt8) (iand .u32 (n / 2 ^ k) 15) = some (hx n k) := by
  have hp : (0 : Int) < 2 ^ k := Int.pow_pos (by omega)
  have d0 : 0 ≤ n / 2 ^ k := Int.ediv_nonneg h0 (by omega)
  have d1 : n / 2 ^ k ≤ n := Int.ediv_le_self _ h0
  rw [iand15 d0 (by omega)]
  unfold hx
  generalize n / 2 ^ k = q at d0 d1
  have hm : 0 ≤ q % 16 ∧ q % 16 < 16 := by omega
  unfold rd
  rw [if_pos hm.1]
  have hl : (q % 16).toNat < hexDig.length := by simp [hexDig]; omega
  show hexDig[(q % 16).toNat]? = some (hexDig.getD (q % 16).toNat 0)
  rw [List.getElem?_eq_getElem hl, List.getD_eq_getElem?_getD, List.getElem?_eq_getElem hl]
  rfl
theorem hex_i {n : Int} (h0 : 0 ≤ n) (h1 : n ≤ 4294967295) : impl_hex n = some (hexT n) := by
  unfold impl_hex
  rw [show (8 : Int) = ((8 : Nat) : Int) from rfl, mkS_some (by omega) (by omega), Option.bind_some]
  have step : ∀ (i : Nat) (xs : List Int), i < 8 → xs.length = 8 → impl_hex_b1 n (List.replicate 8 0) ((i : Int), xs) = some (.inl (((i + 1 : Nat) : Int), xs.set i ((hx n (28 - 4 * i)).toNat : Int))) := by
    intro i xs hi hl
    have w1 : IntKind.i64.wrap (4 * (i : Int)) = 4 * (i : Int) := w64 (by omega)
    have w2 : IntKind.i64.wrap (28 - 4 * (i : Int)) = ((28 - 4 * i : Nat) : Int) := by rw [w64 (by omega)]; omega
    have w3 : IntKind.i64.wrap ((i : Int) + 1) = ((i + 1 : Nat) : Int) := by rw [w64 (by omega)]; rfl
    have hr : rd xs (i : Int) = some xs[i] := by rw [rd_coe, List.getElem?_eq_getElem (by omega)]
    have hh := hex_rd h0 h1 (28 - 4 * i)
    unfold impl_hex_b1
    simp only [w1, w2, w3, shr32 (28 - 4 * i) (by omega), Option.bind_some, hh, hr, Int.toNat_natCast]
    rw [if_pos (by simp; omega)]
  have fin : ∀ xs : List Int, impl_hex_b1 n (List.replicate 8 0) (8, xs) = some (.inr xs) := fun xs => by simp [impl_hex_b1]
  have key : Lw (impl_hex_b1 n (List.replicate 8 0)) (0, List.replicate 8 0) = some [((hx n 28).toNat : Int), ((hx n 24).toNat : Int), ((hx n 20).toNat : Int), ((hx n 16).toNat : Int), ((hx n 12).toNat : Int), ((hx n 8).toNat : Int), ((hx n 4).toNat : Int), ((hx n 0).toNat : Int)] :=
    (Lw_step (step 0 _ (by omega) (by simp))).trans <| (Lw_step (step 1 _ (by omega) (by simp))).trans <| (Lw_step (step 2 _ (by omega) (by simp))).trans <| (Lw_step (step 3 _ (by omega) (by simp))).trans <|
      (Lw_step (step 4 _ (by omega) (by simp))).trans <| (Lw_step (step 5 _ (by omega) (by simp))).trans <| (Lw_step (step 6 _ (by omega) (by simp))).trans <| (Lw_step (step 7 _ (by omega) (by simp))).trans <| Lw_stop (fin _)
  rw [key]
  simp [toB, hexT]
theorem hex_s {n : Int} (h0 : 0 ≤ n) (h1 : n ≤ 4294967295) : spec_l06Hex n = some (hexT n) := by
  unfold spec_l06Hex
  have step : ∀ (k : Nat) (xs : List Int), k ≤ 28 → xs.length ≤ 8 → spec_l06Hex_b1 n ((k : Int), xs) = some (.inl ((k : Int) - 4, xs ++ [((hx n k).toNat : Int)])) := by
    intro k xs hk hl
    have w1 : IntKind.u64.wrap (k : Int) = (k : Int) := by simp [IntKind.wrap, IntKind.signed, IntKind.bits]; omega
    have w2 : IntKind.i64.wrap ((k : Int) - 4) = (k : Int) - 4 := w64 (by omega)
    have hh := hex_rd h0 h1 k
    unfold spec_l06Hex_b1
    simp only [w1, w2, shr32 k (by omega), Option.bind_some, hh, app_some (xs := xs) (ys := [((hx n k).toNat : Int)]) (by_ := 1) (by simp; omega) (by decide)]
    rw [if_pos (by simp)]
  have fin : ∀ xs : List Int, spec_l06Hex_b1 n (-4, xs) = some (.inr xs) := fun xs => by simp [spec_l06Hex_b1]
  have key : Lw (spec_l06Hex_b1 n) (28, []) = some [((hx n 28).toNat : Int), ((hx n 24).toNat : Int), ((hx n 20).toNat : Int), ((hx n 16).toNat : Int), ((hx n 12).toNat : Int), ((hx n 8).toNat : Int), ((hx n 4).toNat : Int), ((hx n 0).toNat : Int)] :=
    (Lw_step (step 28 _ (by omega) (by simp))).trans <| (Lw_step (step 24 _ (by omega) (by simp))).trans <| (Lw_step (step 20 _ (by omega) (by simp))).trans <| (Lw_step (step 16 _ (by omega) (by simp))).trans <|
      (Lw_step (step 12 _ (by omega) (by simp))).trans <| (Lw_step (step 8 _ (by omega) (by simp))).trans <| (Lw_step (step 4 _ (by omega) (by simp))).trans <| (Lw_step (step 0 _ (by omega) (by simp))).trans <| Lw_stop (fin _)
  rw [key]
  simp [toB, hexT]
def markT (m : Mark) : List UInt8 := m.Holder ++ [32] ++ hexT m.Seal ++ [10]
noncomputable def chainT (c : Chain) : List UInt8 := c.Debtor ++ [32] ++ halfT c.Stock ++ [10] ++ (c.Marks.map markT).flatten
theorem nameB_len {s : List UInt8} (h : nameB s = true) : 1 ≤ s.length ∧ s.length ≤ 12 := by
  unfold nameB lettersB at h
  simp only [Bool.and_eq_true, decide_eq_true_eq] at h
  omega
theorem markT_len {m : Mark} (h : nameB m.Holder = true) : (markT m).length ≤ 22 := by
  have := (nameB_len h).2
  unfold markT hexT
  simp only [List.length_append, List.length_cons, List.length_nil]
  omega
theorem hx_ok {c : Chain} (hc : c.ok) : (∀ n ∈ c.Stock.Notches, n.At ≤ 32767) ∧ ∀ m ∈ c.Marks, 0 ≤ m.Seal ∧ m.Seal ≤ 4294967295 :=
  ⟨fun n hn => (inR16.1 (hc.2.1.2.1.2.2 n hn).2).2, fun m hm => by
    have := (hc.2.2.2.2 m hm).2
    simpa [InR, Lit.wf, IntKind.min, IntKind.max, IntKind.signed, IntKind.bits] using this⟩
theorem hx_half (c : Chain) (hc : c.ok) (h : impl_ValidChain c = some true) : HfI c.Stock := by
  have hd := ok_debtor hc
  obtain ⟨q, q1, q2, q3⟩ := validHalf_same c.Stock (fun n hn => inR8.1 (hc.2.1.2.1.2.2 n hn).1)
  cases q with
  | true => exact q3 rfl
  | false =>
    exfalso
    unfold impl_ValidChain at h
    rw [isName_eq _ (by omega), q1] at h
    cases hN : nameB c.Debtor <;> simp [hN] at h
theorem marksT_loop (c : Chain) (hi : ChI c) (hs : ∀ m ∈ c.Marks, 0 ≤ m.Seal ∧ m.Seal ≤ 4294967295) (pre : List UInt8) (hp : pre.length ≤ 2000) :
    Lw (impl_ChainText_b1 c) (pre, 0) = some (pre ++ (c.Marks.map markT).flatten) ∧ Lw (spec_l06Chain_b1 c) (pre, 0) = some (pre ++ (c.Marks.map markT).flatten) := by
  obtain ⟨k1, k2, k3, k4, k5⟩ := hi
  have step : ∀ (i : Nat) (hi : i < c.Marks.length) (o : List UInt8), o = pre ++ ((c.Marks.take i).map markT).flatten →
      impl_ChainText_b1 c (o, (i : Int)) = some (.inl (o ++ markT c.Marks[i], ((i + 1 : Nat) : Int))) ∧ spec_l06Chain_b1 c (o, (i : Int)) = some (.inl (o ++ markT c.Marks[i], ((i + 1 : Nat) : Int))) := by
    intro i hi o ho
    have hm := List.getElem_mem hi
    have w := w64s hi (by omega)
    have hr : rd c.Marks (i : Int) = some c.Marks[i] := by rw [rd_coe, List.getElem?_eq_getElem hi]
    have hl := markT_len (k5 _ hm)
    have hn := (nameB_len (k5 _ hm)).2
    have hx8 : (hexT c.Marks[i].Seal).length = 8 := rfl
    have ol : o.length ≤ 2000 + 30 * 22 := by
      have := flat_take markT 22 c.Marks (fun x hx => markT_len (k5 x hx)) i
      have h2 : c.Marks.length * 22 ≤ 30 * 22 := Nat.mul_le_mul_right _ k2
      rw [ho]
      simp only [List.length_append]
      omega
    have s1 : sadd c.Marks[i].Holder [32] = some (c.Marks[i].Holder ++ [32]) := sadd_some (by simp only [List.length_singleton]; omega)
    have s2 : sadd (c.Marks[i].Holder ++ [32]) (hexT c.Marks[i].Seal) = some (c.Marks[i].Holder ++ [32] ++ hexT c.Marks[i].Seal) := sadd_some (by simp only [List.length_append, List.length_singleton]; omega)
    have s3 : sadd (c.Marks[i].Holder ++ [32] ++ hexT c.Marks[i].Seal) [10] = some (markT c.Marks[i]) := sadd_some (by simp only [List.length_append, List.length_singleton]; omega)
    have s4 : sadd o (markT c.Marks[i]) = some (o ++ markT c.Marks[i]) := sadd_some (by omega)
    obtain ⟨b0, b1⟩ := hs _ hm
    have e1 := hex_i b0 b1
    have e2 := hex_s b0 b1
    constructor
    · unfold impl_ChainText_b1
      simp only [hr, Option.bind_some, s1, e1, s2, s3, s4, w]
      rw [if_pos (by simpa using hi)]
    · unfold spec_l06Chain_b1
      simp only [hr, Option.bind_some, s1, e2, s2, s3, s4, w]
      rw [if_pos (by simpa using hi)]
  exact ⟨text_loop c.Marks markT _ (fun i hi o ho => (step i hi o ho).1) (fun o => by simp [impl_ChainText_b1]), text_loop c.Marks markT _ (fun i hi o ho => (step i hi o ho).2) (fun o => by simp [spec_l06Chain_b1])⟩
theorem chainText_same (c : Chain) (hc : c.ok) : ∃ t, impl_ChainText c = some t ∧ spec_ChainText c = some t := by
  obtain ⟨b, c1, c2, c3⟩ := validChain_same c hc
  obtain ⟨ha, hs⟩ := hx_ok hc
  unfold impl_ChainText spec_ChainText
  rw [c1, c2]
  cases b with
  | false => exact ⟨[], by simp, by simp⟩
  | true =>
    have hi := c3 rfl
    have hf := hx_half c hc c1
    have hd := (nameB_len hi.2.2.2.1).2
    have hl := halfT_len c.Stock hf ha
    have e1 := half_i c.Stock hf ha
    have e2 := half_s c.Stock hf ha
    have s1 : sadd c.Debtor [32] = some (c.Debtor ++ [32]) := sadd_some (by simp only [List.length_singleton]; omega)
    have s2 : sadd (c.Debtor ++ [32]) (halfT c.Stock) = some (c.Debtor ++ [32] ++ halfT c.Stock) := sadd_some (by simp only [List.length_append, List.length_singleton]; omega)
    have s3 : sadd (c.Debtor ++ [32] ++ halfT c.Stock) [10] = some (c.Debtor ++ [32] ++ halfT c.Stock ++ [10]) := sadd_some (by simp only [List.length_append, List.length_singleton]; omega)
    obtain ⟨l1, l2⟩ := marksT_loop c hi hs (c.Debtor ++ [32] ++ halfT c.Stock ++ [10]) (by simp only [List.length_append, List.length_singleton]; omega)
    refine ⟨chainT c, ?_, ?_⟩
    · simp only [Option.bind_some, if_true, s1, e1, s2, s3, l1]
      rfl
    · unfold spec_l06Chain
      simp only [Option.bind_some, if_true, s1, e2, s2, s3, l2]
      rfl
end Go.Proofs.YtbhbmgmnnkcmcaaDoor

/- Plain lemmas. -/
import Derived.Test.YtkkmbehooldmjaaOkAskOrder
set_option linter.unusedVariables false
set_option linter.unusedSimpArgs false
/- Loops that compare and weigh lists. -/
namespace Go.Proofs.Ytkkmbehooldmjaa
open Go Go.Ab
theorem eqS_loop {τ : Type} [DecidableEq τ] {tb : Int → Option (Int ⊕ (Unit ⊕ Unit))} (a b : List τ) (h : a.length ≤ 4611686018427387904) (hl : a.length = b.length)
    (hs : ∀ (i : Nat) (h1 : i < a.length) (h2 : i < b.length), tb (i : Int) = some (if a[i] = b[i] then .inl (IntKind.i64.wrap ((i : Int) + 1)) else .inr (.inl ()))) (he : tb (a.length : Int) = some (.inr (.inr ()))) :
    Lw tb 0 = some (if a = b then .inr () else .inl ()) := by
  have key := scan_all (tb := tb) a.length h (fun i => decide (a[i]? = b[i]?)) () ()
    (by
      intro i hi
      have hi2 : i < b.length := by omega
      rw [hs i hi hi2, List.getElem?_eq_getElem hi, List.getElem?_eq_getElem hi2]
      by_cases he : a[i] = b[i] <;> simp [he])
    he
  rw [key, all_eq hl]
  by_cases he : a = b <;> simp [he]
theorem sz_loop {tb : Int × Int → Option ((Int × Int) ⊕ (Unit ⊕ Int))} (n : Nat) (hs : ∀ (a : Int) (i : Nat), i < n → (∃ r, tb (a, (i : Int)) = some (.inl (r, ((i + 1 : Nat) : Int)))) ∨ tb (a, (i : Int)) = some (.inr (.inl ()))) (he : ∀ a, tb (a, (n : Int)) = some (.inr (.inr a))) (a : Int) :
    ∃ r, Lw tb (a, 0) = some r := by
  have : ∃ r r2, Lw tb (a, 0) = some r ∧ Lw tb (a, 0) = some r2 ∧ r = r2 := by
    refine Lw_sim (tb := tb) (tb2 := tb) (fun s => n - s.2.toNat) (fun s s2 => s = s2 ∧ ∃ i : Nat, s.2 = i ∧ i ≤ n) _ ?_ _ _ _ rfl ⟨rfl, 0, rfl, by omega⟩
    rintro ⟨a, j⟩ s2 ⟨rfl, i, hi, hl⟩
    simp only at hi
    subst hi
    by_cases hlt : i < n
    · rcases hs a i hlt with ⟨r, hr⟩ | hr
      · exact .inl ⟨_, _, hr, hr, ⟨rfl, i + 1, rfl, by omega⟩, by simp; omega⟩
      · exact .inr ⟨_, _, hr, hr, rfl⟩
    · have : i = n := by omega
      subst this
      exact .inr ⟨_, _, he a, he a, rfl⟩
  obtain ⟨r, _, hr, _, _⟩ := this
  exact ⟨r, hr⟩
/-! arrays -/
theorem rdA_coe {n : Nat} {τ : Type} (g : Ar n τ) (i : Nat) (h : i < n) : rdA g (i : Int) = some (g.l[i]'(by rw [g.h]; exact h)) := by
  unfold rdA
  rw [if_pos ⟨by omega, by omega⟩, Int.toNat_natCast, List.getElem?_eq_getElem]
theorem ar_ext {n : Nat} {τ : Type} {a b : Ar n τ} : a = b ↔ a.l = b.l := by cases a; cases b; simp
theorem ar_copy {n : Nat} {τ : Type} {tb : Int × Ar n τ → Option ((Int × Ar n τ) ⊕ Ar n τ)} (a z : Ar n τ) (hs : ∀ (i : Nat) (h : i < n) (y : Ar n τ), tb ((i : Int), y) = some (.inl (((i + 1 : Nat) : Int), y.set i (a.l[i]'(by rw [a.h]; exact h))))) (he : ∀ y, tb ((n : Int), y) = some (.inr y)) :
    Lw tb (0, z) = some a := by
  have hz := z.h
  have ha := a.h
  have key := Lw_run (tb := tb) (fun i => ((i : Int), (⟨a.l.take i ++ z.l.drop (min i n), by simp; omega⟩ : Ar n τ))) n (r := a)
    (by
      intro i hi
      rw [hs i hi]
      congr 3
      rw [ar_ext]
      show (a.l.take i ++ z.l.drop (min i n)).set i _ = a.l.take (i + 1) ++ z.l.drop (min (i + 1) n)
      rw [Nat.min_eq_left (by omega), Nat.min_eq_left (by omega), List.set_append_right _ _ (by simp; omega), List.length_take, Nat.min_eq_left (by omega), Nat.sub_self, List.drop_eq_getElem_cons (by omega), List.set_cons_zero, List.take_succ_eq_append_getElem (by omega), List.append_assoc]
      rfl)
    (by
      rw [he]
      congr 2
      rw [ar_ext]
      show a.l.take n ++ z.l.drop (min n n) = a.l
      rw [List.take_of_length_le (by omega), Nat.min_self, List.drop_eq_nil_of_le (by omega), List.append_nil])
  have e : (((0 : Nat) : Int), (⟨a.l.take 0 ++ z.l.drop (min 0 n), by simp; omega⟩ : Ar n τ)) = (0, z) := by
    congr 1
  rw [e] at key
  exact key
theorem foldr_all (p : Nat → Bool) (r : Bool) (l : List Nat) : l.foldr (fun j b => p j && b) r = (l.all p && r) := by
  induction l with
  | nil => simp
  | cons x l ih => simp [ih, Bool.and_assoc]
theorem arB_eq {n : Nat} (g h : Ar n Int) : arB n (fun j => g.get 0 j == h.get 0 j) true = decide (g = h) := by
  unfold arB
  rw [foldr_all, Bool.and_true, Bool.eq_iff_iff, List.all_eq_true, decide_eq_true_eq, ar_ext]
  have hg := g.h
  have hh := h.h
  constructor
  · intro hp
    refine List.ext_getElem (by omega) fun i h1 h2 => ?_
    have := hp i (by simpa [hg] using h1)
    simpa [Ar.get, List.getD_eq_getElem?_getD, h1, h2] using this
  · intro e j _
    simp [Ar.get, e]
end Go.Proofs.Ytkkmbehooldmjaa
/- Numbers within bounds. -/
namespace Go.Proofs.Ytkkmbehooldmjaa
open Go Go.Ab
def inB (n lo hi : Int) : Bool := decide (lo ≤ n) && decide (n ≤ hi)
theorem inB_iff {n lo hi : Int} : inB n lo hi = true ↔ lo ≤ n ∧ n ≤ hi := by simp [inB]
theorem inB_not {n lo hi : Int} : inB n lo hi = false ↔ n < lo ∨ hi < n := by rw [← Bool.not_eq_true, inB_iff]; omega
theorem l00In_eq (n lo hi : Int) : spec_l00In n lo hi = some (inB n lo hi) := by
  unfold spec_l00In inB; by_cases h : lo ≤ n <;> simp [h]
theorem some_ite {α : Type} (c : Bool) (a b : α) : (if c = true then some a else some b) = some (if c = true then a else b) := by cases c <;> rfl
theorem ite_false_b (c b : Bool) : (if c = true then b else false) = (c && b) := by cases c <;> simp
theorem ite_true_b (c b : Bool) : (if c = true then true else b) = (c || b) := by cases c <;> simp
end Go.Proofs.Ytkkmbehooldmjaa
/- Halves and chains: equal, copied, weighed. -/
namespace Go.Proofs.Ytkkmbehooldmjaa
open Go Go.Ab
theorem notch_eq {x y : Notch} : x = y ↔ x.Kind = y.Kind ∧ x.At = y.At := by cases x; cases y; simp
theorem mark_eq {x y : Mark} : x = y ↔ x.Holder = y.Holder ∧ x.Seal = y.Seal := by cases x; cases y; simp
theorem half_eq {x y : Half} : x = y ↔ x.Stock = y.Stock ∧ x.Notches = y.Notches ∧ x.Grain = y.Grain := by cases x; cases y; simp
theorem chain_eq {x y : Chain} : x = y ↔ x.Debtor = y.Debtor ∧ x.Stock = y.Stock ∧ x.Marks = y.Marks := by cases x; cases y; simp
theorem eqNotch_eq (x y : Notch) : laws_eqNotch x y = some (decide (x = y)) := by
  unfold laws_eqNotch
  simp only [notch_eq, bne_iff_ne, ne_eq, ite_not]
  repeat' split
  all_goals simp_all
theorem eqMark_eq (x y : Mark) : laws_eqMark x y = some (decide (x = y)) := by
  unfold laws_eqMark
  simp only [mark_eq, bne_iff_ne, ne_eq, ite_not]
  repeat' split
  all_goals simp_all
theorem eqNotchS_eq (a b : List Notch) (h : a.length ≤ 4611686018427387904) : laws_eqNotchS a b = some (decide (a = b)) := by
  unfold laws_eqNotchS
  by_cases hl : a.length = b.length
  · rw [if_neg (by simp [hl]), eqS_loop a b h hl (fun i h1 h2 => by
      simp only [laws_eqNotchS_b1, rd_coe, List.getElem?_eq_getElem h1, List.getElem?_eq_getElem h2, Option.bind_some, eqNotch_eq]
      by_cases he : a[i] = b[i] <;> simp [he, h1]) (by simp [laws_eqNotchS_b1])]
    by_cases he : a = b <;> simp [he]
  · rw [if_pos (by simp; omega)]
    have : a ≠ b := fun h => hl (by rw [h])
    simp [this]
theorem eqMarkS_eq (a b : List Mark) (h : a.length ≤ 4611686018427387904) : laws_eqMarkS a b = some (decide (a = b)) := by
  unfold laws_eqMarkS
  by_cases hl : a.length = b.length
  · rw [if_neg (by simp [hl]), eqS_loop a b h hl (fun i h1 h2 => by
      simp only [laws_eqMarkS_b1, rd_coe, List.getElem?_eq_getElem h1, List.getElem?_eq_getElem h2, Option.bind_some, eqMark_eq]
      by_cases he : a[i] = b[i] <;> simp [he, h1]) (by simp [laws_eqMarkS_b1])]
    by_cases he : a = b <;> simp [he]
  · rw [if_pos (by simp; omega)]
    have : a ≠ b := fun h => hl (by rw [h])
    simp [this]
theorem eqGrain_eq (a b : Ar 16 Int) : laws_eqGrain a b = some (decide (a = b)) := by
  unfold laws_eqGrain
  have ha := a.h
  have hb := b.h
  rw [eqS_loop a.l b.l (by omega) (by omega) (fun i h1 h2 => by
      simp only [laws_eqGrain_b1, rdA_coe a i (by omega), rdA_coe b i (by omega), Option.bind_some]
      have h16 : (i : Int) < 16 := by omega
      by_cases he : a.l[i] = b.l[i] <;> simp [he, h16]) (by simp [laws_eqGrain_b1, ha])]
  by_cases he : a.l = b.l
  · simp [he, ar_ext]
  · simp [he, ar_ext]
theorem toGrain_eq (a : Ar 16 Int) : laws_toGrain a = some a := by
  unfold laws_toGrain
  rw [ar_copy a (Ar.rep 16 0) (fun i h y => by
    have h16 : (i : Int) < 16 := by omega
    simp [laws_toGrain_b1, h16, rdA_coe a i h, rdA_coe y i h, w64s (show i < 16 by omega) (by omega)]) (fun y => by simp [laws_toGrain_b1])]
  rfl
theorem toNotchS_eq (a : List Notch) (h : a.length * 4 ≤ 140737488351232) : laws_toNotchS a = some a := by
  unfold laws_toNotchS
  have key := copy_loop (tb := laws_toNotchS_b1 a) a (List.replicate a.length ⟨0, 0⟩) (by omega) (by simp)
    (by intro i zs hi hz; simp [laws_toNotchS_b1, laws_toNotch, rd_coe, hi, hz]) (by intro zs hz; simp [laws_toNotchS_b1])
  rw [mkS_some h (by omega), Option.bind_some, key, Option.bind_some]
theorem toMarkS_eq (a : List Mark) (h : a.length * 24 ≤ 140737488351232) : laws_toMarkS a = some a := by
  unfold laws_toMarkS
  have key := copy_loop (tb := laws_toMarkS_b1 a) a (List.replicate a.length ⟨[], 0⟩) (by omega) (by simp)
    (by intro i zs hi hz; simp [laws_toMarkS_b1, laws_toMark, rd_coe, hi, hz]) (by intro zs hz; simp [laws_toMarkS_b1])
  rw [mkS_some h (by omega), Option.bind_some, key, Option.bind_some]
theorem ok_notches {c : Chain} (h : c.ok) : c.Stock.Notches.length * 4 ≤ 140737488351232 := h.2.1.2.1.2.1
theorem ok_marks {c : Chain} (h : c.ok) : c.Marks.length * 24 ≤ 140737488351232 := h.2.2.2.1
theorem ok_debtor {c : Chain} (h : c.ok) : c.Debtor.length ≤ 140737488351232 := h.1
theorem ok_mark {c : Chain} (h : c.ok) (m : Mark) (hm : m ∈ c.Marks) : m.Holder.length ≤ 140737488351232 := (h.2.2.2.2 m hm).1
theorem toChain_eq (c : Chain) (h : c.ok) : laws_toChain c = some (c.Debtor, c.Stock.Stock, c.Stock.Notches, c.Stock.Grain, c.Marks) := by
  unfold laws_toChain laws_toHalf
  rw [toNotchS_eq _ (ok_notches h), toGrain_eq, toMarkS_eq _ (ok_marks h)]
  rfl
theorem eqHalf_eq (x y : Half) (h : x.Notches.length ≤ 4611686018427387904) : laws_eqHalf x y = some (decide (x = y)) := by
  unfold laws_eqHalf
  rw [eqNotchS_eq _ _ h, eqGrain_eq]
  by_cases e1 : x.Stock = y.Stock <;> by_cases e2 : x.Notches = y.Notches <;> by_cases e3 : x.Grain = y.Grain <;> simp [half_eq, e1, e2, e3]
theorem eqChain_eq (x y : Chain) (h1 : x.Stock.Notches.length ≤ 4611686018427387904) (h2 : x.Marks.length ≤ 4611686018427387904) : laws_eqChain x y = some (decide (x = y)) := by
  unfold laws_eqChain
  rw [eqHalf_eq _ _ h1, eqMarkS_eq _ _ h2]
  by_cases e1 : x.Debtor = y.Debtor <;> by_cases e2 : x.Stock = y.Stock <;> by_cases e3 : x.Marks = y.Marks <;> simp [chain_eq, e1, e2, e3]
theorem szMarkS_some (xs : List Mark) (n : Int) (hn : xs.length ≤ 4611686018427387904) : ∃ r, laws_szMarkS xs n = some r := by
  unfold laws_szMarkS
  split
  · exact ⟨_, rfl⟩
  obtain ⟨r, hr⟩ := sz_loop (tb := laws_szMarkS_b1 xs) xs.length (fun a i hi => by
    have w := w64s hi hn
    by_cases h0 : IntKind.i64.wrap (a - (xs[i].Holder.length : Int)) < 0
    · exact .inr (by simp [laws_szMarkS_b1, rd_coe, hi, laws_szMark, h0])
    · exact .inl ⟨_, by simp [laws_szMarkS_b1, rd_coe, hi, laws_szMark, h0, w]; rfl⟩) (fun a => by simp [laws_szMarkS_b1]) (IntKind.i64.wrap (n - (xs.length : Int)))
  rw [hr, Option.bind_some]
  rcases r with r | r <;> exact ⟨_, rfl⟩
theorem szNotchS_some (xs : List Notch) (n : Int) : ∃ r, laws_szNotchS xs n = some r := by
  unfold laws_szNotchS; split <;> exact ⟨_, rfl⟩
theorem szChain_some (c : Chain) (n : Int) (h : c.ok) : ∃ r, laws_szChain c n = some r := by
  have hm := ok_marks h
  unfold laws_szChain
  split
  · exact ⟨_, rfl⟩
  unfold laws_szHalf
  obtain ⟨r, hr⟩ := szNotchS_some c.Stock.Notches (IntKind.i64.wrap (n - (c.Debtor.length : Int)))
  rw [hr]
  obtain ⟨q, hq⟩ := szMarkS_some c.Marks r (by omega)
  simp only [Option.bind_some]
  by_cases h0 : r < 0
  · exact ⟨-1, by simp [h0]⟩
  · simp only [h0, decide_false, Bool.false_eq_true, if_false, Option.bind_some, hq]
    split <;> exact ⟨_, rfl⟩
end Go.Proofs.Ytkkmbehooldmjaa
/- Parties: names, finding, valid lists. -/
namespace Go.Proofs.Ytkkmbehooldmjaa
open Go Go.Ab
def letB (c : UInt8) : Bool := decide (97 ≤ c.toNat) && decide (c.toNat ≤ 122)
def lettersB (s : List UInt8) (n : Int) : Bool := s.all letB && decide (1 ≤ s.length) && decide ((s.length : Int) ≤ n)
def nameB (s : List UInt8) : Bool := lettersB s 12
theorem isLetters_loop (s : List UInt8) (hn : s.length ≤ 4611686018427387904) : Lw (impl_isLetters_b1 s) 0 = some (if s.all letB = true then .inr () else .inl ()) := by
  have key := scan_all (tb := impl_isLetters_b1 s) s.length hn (fun i => (s[i]?).all letB) () ()
    (by
      intro i hi
      simp only [impl_isLetters_b1, rd_coe, List.getElem?_eq_getElem hi, Option.bind_some, Option.all_some]
      rw [if_pos (by simpa using hi)]
      by_cases h1 : s[i].toNat < 97
      · rw [if_pos (by simp; omega), if_neg (by simp [letB]; omega)]
      · by_cases h2 : s[i].toNat > 122
        · rw [if_neg (by simp; omega), if_pos (by simp; omega), if_neg (by simp [letB]; omega)]
        · rw [if_neg (by simp; omega), if_neg (by simp; omega), if_pos (by simp [letB]; omega)])
    (by simp [impl_isLetters_b1])
  rw [key, all_get]
theorem isLetters_eq (s : List UInt8) (n : Int) (hn : s.length ≤ 4611686018427387904) : impl_isLetters s n = some (lettersB s n) := by
  unfold impl_isLetters lettersB
  rw [isLetters_loop s hn]
  cases s.all letB with
  | false => simp
  | true =>
    by_cases h : 1 ≤ s.length
    · have : (1 : Int) ≤ (s.length : Int) := by omega
      simp [h, this]
    · have : ¬ (1 : Int) ≤ (s.length : Int) := by omega
      simp [h, this]
theorem isName_eq (s : List UInt8) (hn : s.length ≤ 4611686018427387904) : impl_isName s = some (nameB s) := by
  unfold impl_isName nameB; rw [isLetters_eq s 12 hn, Option.bind_some]
theorem l06Name_eq (s : List UInt8) (hn : s.length ≤ 4611686018427387904) : spec_l06Name s = some (nameB s) := by
  have e : Lw (spec_l06Name_b1 s) 0 = Lw (impl_isLetters_b1 s) 0 := rfl
  unfold spec_l06Name nameB lettersB
  rw [e, isLetters_loop s hn]
  cases s.all letB with
  | false => simp
  | true =>
    cases s with
    | nil => simp
    | cons c r => simp
end Go.Proofs.Ytkkmbehooldmjaa
/- Halves and chains that are valid: the program's word and the reference's. -/
namespace Go.Proofs.Ytkkmbehooldmjaa
open Go Go.Ab
def grainB (g : Ar 16 Int) : Bool := g.l.all fun x => inB x (-3) 3
theorem validGrain_eq (g : Ar 16 Int) : impl_ValidGrain g = some (grainB g) := by
  have hg := g.h
  unfold impl_ValidGrain grainB
  have key := scan_all (tb := impl_ValidGrain_b1 g) g.l.length (by omega) (fun i => (g.l[i]?).all fun x => inB x (-3) 3) () ()
    (by
      intro i hi
      have h16 : (i : Int) < 16 := by omega
      simp only [impl_ValidGrain_b1, rdA_coe g i (by omega), List.getElem?_eq_getElem hi, Option.bind_some, Option.all_some]
      rw [if_pos (by simpa using h16)]
      by_cases h1 : g.l[i] < -3
      · rw [if_pos (by simpa using h1), if_neg (by simp [inB]; omega)]
      · by_cases h2 : g.l[i] > 3
        · rw [if_neg (by simpa using h1), if_pos (by simpa using h2), if_neg (by simp [inB]; omega)]
        · rw [if_neg (by simpa using h1), if_neg (by simpa using h2), if_pos (by simp [inB]; omega)])
    (by simp [impl_ValidGrain_b1, hg])
  rw [key, all_get]
  cases g.l.all fun x => inB x (-3) 3 <;> simp
theorem l01Grain_eq (g : Ar 16 Int) : spec_l01Grain g = some (grainB g) := by
  have hg := g.h
  unfold spec_l01Grain grainB
  have key := scan_all (tb := spec_l01Grain_b1 g) g.l.length (by omega) (fun i => (g.l[i]?).all fun x => inB x (-3) 3) () ()
    (by
      intro i hi
      have h16 : (i : Int) < 16 := by omega
      simp only [spec_l01Grain_b1, rdA_coe g i (by omega), List.getElem?_eq_getElem hi, Option.bind_some, Option.all_some]
      rw [if_pos (by simpa using h16)]
      by_cases h1 : g.l[i] < -3
      · rw [if_pos (by simpa using h1), if_neg (by simp [inB]; omega)]
      · by_cases h2 : g.l[i] > 3
        · rw [if_neg (by simpa using h1), if_pos (by simpa using h2), if_neg (by simp [inB]; omega)]
        · rw [if_neg (by simpa using h1), if_neg (by simpa using h2), if_pos (by simp [inB]; omega)])
    (by simp [spec_l01Grain_b1, hg])
  rw [key, all_get]
  cases g.l.all fun x => inB x (-3) 3 <;> simp
theorem isKind_eq (k : Int) : impl_isKind k = some (inB k 0 5) := by
  unfold impl_isKind inB; by_cases h : 0 ≤ k <;> simp [h]
theorem l01Kind_eq (k : Int) : spec_l01Kind k = some (inB k 0 5) := by
  unfold spec_l01Kind; rw [l00In_eq, Option.bind_some]
theorem ends_eq (n : Notch) (hk : inB n.Kind 0 5 = true) : ∃ e, impl_Notch_end n = some e ∧ spec_l01Ends n = some e := by
  obtain ⟨h0, h1⟩ := inB_iff.1 hk
  have w : IntKind.i64.wrap n.Kind = n.Kind := w64 (by omega)
  obtain ⟨x, hx⟩ : ∃ x, rd ([1, 2, 4, 6, 9, 12] : List Int) n.Kind = some x := ⟨_, rd_in h0 (by simp; omega)⟩
  exact ⟨_, by unfold impl_Notch_end impl_width; rw [w, hx]; rfl, by unfold spec_l01Ends spec_l01Widths; rw [Option.bind_some, hx]; rfl⟩
theorem notch_loop (h : Half) (hn : h.Notches.length ≤ 60) (hk : ∀ n ∈ h.Notches, -128 ≤ n.Kind ∧ n.Kind ≤ 127) :
    ∃ r r2, Lw (impl_ValidHalf_b1 h) 0 = some r ∧ Lw (spec_l01Notches_b1 h.Notches) 0 = some r2 ∧ r = r2 := by
  refine Lw_sim (tb := impl_ValidHalf_b1 h) (tb2 := spec_l01Notches_b1 h.Notches) (fun s => h.Notches.length - s.toNat) (fun s s2 => s = s2 ∧ ∃ i : Nat, s = i ∧ i ≤ h.Notches.length ∧ ∀ (j : Nat) (hj : j < h.Notches.length), j + 1 = i → inB h.Notches[j].Kind 0 5 = true) _ ?_ _ _ _ rfl
    ⟨rfl, 0, rfl, by omega, fun j hj e => by omega⟩
  rintro s s2 ⟨rfl, i, rfl, hil, hprev⟩
  by_cases hlt : i < h.Notches.length
  · have hr : rd h.Notches (i : Int) = some h.Notches[i] := by rw [rd_coe, List.getElem?_eq_getElem hlt]
    have w := w64s hlt (by omega)
    have wk : IntKind.i64.wrap h.Notches[i].Kind = h.Notches[i].Kind := by
      have := hk _ (List.getElem_mem hlt)
      exact w64 (by omega)
    have kI := isKind_eq h.Notches[i].Kind
    have kS := l01Kind_eq h.Notches[i].Kind
    have hlt' : (i : Int) < h.Notches.length := by omega
    cases hkb : inB h.Notches[i].Kind 0 5 with
    | false =>
      rw [hkb] at kI kS
      exact .inr ⟨.inl (), .inl (), by simp [impl_ValidHalf_b1, hlt, hr, wk, kI], by simp [spec_l01Notches_b1, hlt, hr, wk, kS], rfl⟩
    | true =>
      rw [hkb] at kI kS
      by_cases h0 : h.Notches[i].At < 0
      · exact .inr ⟨.inl (), .inl (), by simp [impl_ValidHalf_b1, hlt, hr, wk, kI, h0], by simp [spec_l01Notches_b1, hlt, hr, wk, kS, h0], rfl⟩
      obtain ⟨e, e1, e2⟩ := ends_eq _ hkb
      by_cases h2 : e > 200
      · exact .inr ⟨.inl (), .inl (), by simp [impl_ValidHalf_b1, hlt, hr, wk, kI, h0, e1, h2], by simp [spec_l01Notches_b1, hlt, hr, wk, kS, h0, e2, h2], rfl⟩
      by_cases hi0 : i = 0
      · have hi0' : ¬ 0 < i := by omega
        exact .inl ⟨((i + 1 : Nat) : Int), _, by simp [impl_ValidHalf_b1, hlt, hr, wk, kI, h0, e1, h2, hi0', w], by simp [spec_l01Notches_b1, hlt, hr, wk, kS, h0, e2, h2, hi0', w], ⟨rfl, i + 1, rfl, by omega, fun j hj hji => (by have e : j = i := (by omega); simp only [e, hkb])⟩, by simp; omega⟩
      · have hi0' : 0 < i := by omega
        have hj : i - 1 < h.Notches.length := by omega
        have hp : rd h.Notches (IntKind.i64.wrap ((i : Int) - 1)) = some h.Notches[i - 1] := by
          rw [w64 (by omega), show ((i : Int) - 1) = ((i - 1 : Nat) : Int) by omega, rd_coe, List.getElem?_eq_getElem hj]
        obtain ⟨e', e1', e2'⟩ := ends_eq _ (hprev (i - 1) hj (by omega))
        by_cases c1 : IntKind.i64.wrap h.Notches[i].At ≤ e'
        · by_cases c2 : h.Notches[i].Kind > h.Notches[i - 1].Kind
          · exact .inr ⟨.inl (), .inl (), by simp [impl_ValidHalf_b1, hlt, hr, wk, kI, h0, e1, h2, hi0', hp, e1', c1], by simp [spec_l01Notches_b1, hlt, hr, wk, kS, h0, e2, h2, hi0', hp, c2], rfl⟩
          · have c2' : ¬ h.Notches[i - 1].Kind < h.Notches[i].Kind := c2
            exact .inr ⟨.inl (), .inl (), by simp [impl_ValidHalf_b1, hlt, hr, wk, kI, h0, e1, h2, hi0', hp, e1', c1], by simp [spec_l01Notches_b1, hlt, hr, wk, kS, h0, e2, h2, hi0', hp, c2', e2', c1], rfl⟩
        · by_cases c2 : h.Notches[i].Kind > h.Notches[i - 1].Kind
          · exact .inr ⟨.inl (), .inl (), by simp [impl_ValidHalf_b1, hlt, hr, wk, kI, h0, e1, h2, hi0', hp, e1', c1, c2], by simp [spec_l01Notches_b1, hlt, hr, wk, kS, h0, e2, h2, hi0', hp, c2], rfl⟩
          · have c2' : ¬ h.Notches[i - 1].Kind < h.Notches[i].Kind := c2
            exact .inl ⟨((i + 1 : Nat) : Int), _, by simp [impl_ValidHalf_b1, hlt, hr, wk, kI, h0, e1, h2, hi0', hp, e1', c1, c2', w], by simp [spec_l01Notches_b1, hlt, hr, wk, kS, h0, e2, h2, hi0', hp, c2', e2', c1, w], ⟨rfl, i + 1, rfl, by omega, fun j hj hji => (by have e : j = i := (by omega); simp only [e, hkb])⟩, by simp; omega⟩
  · exact .inr ⟨.inr (), .inr (), by simp [impl_ValidHalf_b1, hlt], by simp [spec_l01Notches_b1, hlt], rfl⟩
theorem validHalf_same (h : Half) (hk : ∀ n ∈ h.Notches, -128 ≤ n.Kind ∧ n.Kind ≤ 127) : ∃ b, impl_ValidHalf h = some b ∧ spec_l01Ok h = some b := by
  unfold impl_ValidHalf spec_l01Ok spec_l01Notches
  rw [validGrain_eq, l01Grain_eq]
  by_cases hn : (h.Notches.length : Int) > 60
  · exact ⟨false, by simp [hn], by simp [hn]⟩
  · obtain ⟨r, r2, e1, e2, rfl⟩ := notch_loop h (by omega) hk
    cases hg : grainB h.Grain
    · rcases r with r | r
      · exact ⟨false, by simp [hn], by simp [hn, e2]⟩
      · exact ⟨false, by simp [hn], by simp [hn, e2]⟩
    · rcases r with r | r
      · exact ⟨false, by simp [hn, e1], by simp [hn, e2]⟩
      · exact ⟨true, by simp [hn, e1], by simp [hn, e2]⟩
/-- what is known of a chain that is valid -/
def ChI (c : Chain) : Prop := 1 ≤ c.Marks.length ∧ c.Marks.length ≤ 30 ∧ c.Stock.Stock = true ∧ nameB c.Debtor = true ∧ ∀ m ∈ c.Marks, nameB m.Holder = true
theorem marks_loop (c : Chain) (hn : c.Marks.length ≤ 30) (hm : ∀ m ∈ c.Marks, m.Holder.length ≤ 4611686018427387904) :
    ∃ r r2, Lw (impl_ValidChain_b1 c) (c.Debtor, 0) = some r ∧ Lw (spec_l06Ok_b1 c) (c.Debtor, 0) = some r2 ∧ r = r2 ∧ (r = .inr () → ∀ m ∈ c.Marks, nameB m.Holder = true) := by
  refine Lw_sim (tb := impl_ValidChain_b1 c) (tb2 := spec_l06Ok_b1 c) (fun s => c.Marks.length - s.2.toNat) (fun s s2 => s = s2 ∧ ∃ i : Nat, s.2 = i ∧ i ≤ c.Marks.length ∧ ∀ (j : Nat) (hj : j < c.Marks.length), j < i → nameB c.Marks[j].Holder = true) _ ?_ _ _ _ rfl
    ⟨rfl, 0, rfl, by omega, fun j hj e => by omega⟩
  rintro ⟨z, s⟩ s2 ⟨rfl, i, hi, hil, hprev⟩
  simp only at hi
  subst hi
  by_cases hlt : i < c.Marks.length
  · have hr : rd c.Marks (i : Int) = some c.Marks[i] := by rw [rd_coe, List.getElem?_eq_getElem hlt]
    have w := w64s hlt (by omega)
    have kI := isName_eq c.Marks[i].Holder (hm _ (List.getElem_mem hlt))
    have kS := l06Name_eq c.Marks[i].Holder (hm _ (List.getElem_mem hlt))
    cases hkb : nameB c.Marks[i].Holder with
    | false =>
      rw [hkb] at kI kS
      exact .inr ⟨.inl (), .inl (), by simp [impl_ValidChain_b1, hlt, hr, kI], by simp [spec_l06Ok_b1, hlt, hr, kS], rfl, fun h => by cases h⟩
    | true =>
      rw [hkb] at kI kS
      by_cases h0 : c.Marks[i].Holder = z
      · subst h0
        exact .inr ⟨.inl (), .inl (), by simp [impl_ValidChain_b1, hlt, hr, kI], by simp [spec_l06Ok_b1, hlt, hr, kS], rfl, fun h => by cases h⟩
      · refine .inl ⟨(c.Marks[i].Holder, ((i + 1 : Nat) : Int)), _, by simp [impl_ValidChain_b1, hlt, hr, kI, h0, w], by simp [spec_l06Ok_b1, hlt, hr, kS, h0, w], ⟨rfl, i + 1, rfl, by omega, fun j hj hji => ?_⟩, by simp; omega⟩
        by_cases hjj : j = i
        · subst hjj; exact hkb
        · exact hprev j hj (by omega)
  · refine .inr ⟨.inr (), .inr (), by simp [impl_ValidChain_b1, hlt], by simp [spec_l06Ok_b1, hlt], rfl, fun _ m hmem => ?_⟩
    obtain ⟨j, hj, rfl⟩ := List.getElem_of_mem hmem
    exact hprev j hj (by omega)
theorem validChain_same (c : Chain) (hc : c.ok) : ∃ b, impl_ValidChain c = some b ∧ spec_l06Ok c = some b ∧ (b = true → ChI c) := by
  have hd := ok_debtor hc
  have hml := ok_marks hc
  have hm := ok_mark hc
  obtain ⟨q, q1, q2⟩ := validHalf_same c.Stock (fun n hn => inR8.1 (hc.2.1.2.1.2.2 n hn).1)
  unfold impl_ValidChain spec_l06Ok
  rw [isName_eq _ (by omega), l06Name_eq _ (by omega), q1, q2]
  simp only [Option.bind_some, l00In_eq]
  cases hN : nameB c.Debtor with
  | false => exact ⟨false, by simp, by simp, fun h => by cases h⟩
  | true =>
    cases q with
    | false => exact ⟨false, by simp, by simp, fun h => by cases h⟩
    | true =>
      cases hS : c.Stock.Stock with
      | false => exact ⟨false, by simp, by simp, fun h => by cases h⟩
      | true =>
        by_cases h1 : (c.Marks.length : Int) < 1
        · have z : inB (c.Marks.length : Int) 1 30 = false := by simp [inB]; omega
          exact ⟨false, by simp [h1], by simp [z], fun h => by cases h⟩
        · by_cases h2 : (c.Marks.length : Int) > 30
          · have z : inB (c.Marks.length : Int) 1 30 = false := by simp [inB]; omega
            exact ⟨false, by simp [h1, h2], by simp [z], fun h => by cases h⟩
          · have z : inB (c.Marks.length : Int) 1 30 = true := inB_iff.2 ⟨by omega, by omega⟩
            obtain ⟨r, r2, e1, e2, rfl, e3⟩ := marks_loop c (by omega) (fun m hmm => by have := hm m hmm; omega)
            rcases r with r | r
            · exact ⟨false, by simp [h1, h2, e1], by simp [z, e2], fun h => by cases h⟩
            · exact ⟨true, by simp [h1, h2, e1], by simp [z, e2], fun _ => ⟨by omega, by omega, hS, hN, e3 rfl⟩⟩
end Go.Proofs.Ytkkmbehooldmjaa
/- Marks that are texts; marks in texts and chains. -/
namespace Go.Proofs.Ytkkmbehooldmjaa
open Go Go.Ab
theorem sadd_some {a b : List UInt8} (h : a.length + b.length ≤ 9223372036854775807) : sadd a b = some (a ++ b) := by
  unfold sadd
  rw [if_neg (by have : IntKind.i64.max = 9223372036854775807 := rfl; rw [this]; omega)]
theorem markText_some (k : Int) (h : k ≤ 4611686018427387904) : ∃ t, laws_markText k = some t := by
  unfold laws_markText
  by_cases h0 : k ≤ 0
  · exact ⟨_, by rw [if_pos (by simpa using h0)]⟩
  rw [if_neg (by simpa using h0)]
  have : ∃ r r2 : List UInt8, Lw (laws_markText_b1) (k, []) = some r ∧ Lw (laws_markText_b1) (k, []) = some r2 ∧ r.length ≤ 4611686018427387904 := by
    refine Lw_sim (tb := laws_markText_b1) (tb2 := laws_markText_b1) (fun s => s.1.toNat) (fun s s2 => s = s2 ∧ 0 ≤ s.1 ∧ s.2.length + s.1.toNat ≤ 4611686018427387904) _ ?_ _ _ _ rfl ⟨rfl, by simp only; omega, by simp only [List.length_nil]; omega⟩
    rintro ⟨n, o⟩ s2 ⟨rfl, hn, ho⟩
    simp only at hn ho
    by_cases h1 : n > 0
    · have e1 : rem .i64 n 10 = some (n.tmod 10) := by simp [rem]
      have hd : n.tdiv 10 = n / 10 := Int.tdiv_eq_ediv_of_nonneg hn
      have e2 : quo .i64 n 10 = some (n / 10) := by
        unfold quo
        rw [if_neg (by decide), hd, w64 (by omega)]
      have e3 : sadd (toB [(IntKind.u8.wrap (IntKind.i64.wrap (48 + n.tmod 10)))]) o = some (toB [(IntKind.u8.wrap (IntKind.i64.wrap (48 + n.tmod 10)))] ++ o) := sadd_some (by simp [toB]; omega)
      have : laws_markText_b1 (n, o) = some (.inl (n / 10, toB [(IntKind.u8.wrap (IntKind.i64.wrap (48 + n.tmod 10)))] ++ o)) := by simp [laws_markText_b1, h1, e1, e2, e3]
      exact .inl ⟨_, _, this, this, ⟨rfl, by simp only; omega, by simp [toB]; omega⟩, by simp only; omega⟩
    · have : laws_markText_b1 (n, o) = some (.inr o) := by simp [laws_markText_b1, h1]
      exact .inr ⟨_, _, this, this, by omega⟩
  obtain ⟨r, _, e1, _, e2⟩ := this
  rw [e1, Option.bind_some, sadd_some (by simp; omega)]
  exact ⟨_, rfl⟩
noncomputable def mT (k : Int) : List UInt8 := (laws_markText k).getD []
theorem markText_eq (k : Int) (h : k ≤ 4611686018427387904) : laws_markText k = some (mT k) := by
  obtain ⟨t, ht⟩ := markText_some k h
  unfold mT
  rw [ht]; rfl
theorem markStringS_eq (xs : List (List UInt8)) (k : Int) (hn : xs.length ≤ 100000000000000) (h0 : 0 ≤ k) (hk : k ≤ 1152921504606846976) : laws_markStringS_l xs k = some (k + (1 * xs.length : Nat), marks mT 1 k xs.length) := by
  unfold laws_markStringS_l
  have key := mark_loop (tb := laws_markStringS_l_b1) mT 1 xs k (by omega) (by omega) h0 hk
    (by
      intro j i zs hi hz hj hjc
      have w1 : IntKind.i64.wrap (j + 1) = j + 1 := w64 (by omega)
      simp [laws_markStringS_l_b1, rd_coe, hi, w1, w64s hi (show zs.length ≤ 4611686018427387904 by omega), markText_eq j (by omega)])
    (by intro j zs; simp [laws_markStringS_l_b1])
  rw [key, Option.bind_some]
theorem markStringS0 (k : Int) : laws_markStringS_n k = some k := by
  unfold laws_markStringS_n
  rw [Lw_stop (r := k) (by simp [laws_markStringS_n_b1]), Option.bind_some]
theorem heldStringS_eq (n : Nat) (k : Int) (hn : n ≤ 100000000000000) (h0 : 0 ≤ k) (hk : k ≤ 1152921504606846976) : laws_heldStringS (marks mT 1 k n) k = some (k + (1 * n : Nat)) := by
  unfold laws_heldStringS
  have key := held_loop (tb := laws_heldStringS_b1 (marks mT 1 k n)) mT 1 n k (by omega) (by omega) h0 hk
    (by
      intro j i hi hg hj hjc
      have w1 : IntKind.i64.wrap (j + 1) = j + 1 := w64 (by omega)
      simp only [laws_heldStringS_b1, rd_coe, hg, marks_len, Option.bind_some, w1, w64s hi (show n ≤ 4611686018427387904 by omega), markText_eq j (by omega)]
      simp [hi])
    (by intro j; simp [laws_heldStringS_b1, marks_len])
  rw [key, Option.bind_some]
theorem eqStringS_eq (a b : List (List UInt8)) (h : a.length ≤ 4611686018427387904) : laws_eqStringS a b = some (decide (a = b)) := by
  unfold laws_eqStringS
  by_cases hl : a.length = b.length
  · rw [if_neg (by simp [hl]), eqS_loop a b h hl (fun i h1 h2 => by
      simp only [laws_eqStringS_b1, rd_coe, List.getElem?_eq_getElem h1, List.getElem?_eq_getElem h2, Option.bind_some]
      by_cases he : a[i] = b[i] <;> simp [he, h1]) (by simp [laws_eqStringS_b1])]
    by_cases he : a = b <;> simp [he]
  · rw [if_pos (by simp; omega)]
    have : a ≠ b := fun h => hl (by rw [h])
    simp [this]
/-! chains -/
def mNotch (k : Int) : Notch := ⟨IntKind.i8.wrap k, IntKind.i16.wrap (k + 1)⟩
theorem markNotchS_eq (xs : List Notch) (k : Int) (hn : xs.length ≤ 100000000000000) (h0 : 0 ≤ k) (hk : k ≤ 1152921504606846976) : laws_markNotchS_l xs k = some (k + (2 * xs.length : Nat), marks mNotch 2 k xs.length) := by
  unfold laws_markNotchS_l
  have key := mark_loop (tb := laws_markNotchS_l_b1) mNotch 2 xs k (by omega) (by omega) h0 hk
    (by
      intro j i zs hi hz hj hjc
      have w1 : IntKind.i64.wrap (j + 1) = j + 1 := w64 (by omega)
      have w2 : IntKind.i64.wrap (j + 1 + 1) = j + 2 := by rw [w64 (by omega)]; omega
      simp [laws_markNotchS_l_b1, rd_coe, hi, List.getElem?_set, w1, w2, w64s hi (show zs.length ≤ 4611686018427387904 by omega), mNotch])
    (by intro j zs; simp [laws_markNotchS_l_b1])
  rw [key, Option.bind_some]
noncomputable def mMark (k : Int) : Mark := ⟨mT k, IntKind.u32.wrap (k + 1)⟩
theorem markMarkS_eq (xs : List Mark) (k : Int) (hn : xs.length ≤ 100000000000000) (h0 : 0 ≤ k) (hk : k ≤ 1152921504606846976) : laws_markMarkS_l xs k = some (k + (2 * xs.length : Nat), marks mMark 2 k xs.length) := by
  unfold laws_markMarkS_l
  have key := mark_loop (tb := laws_markMarkS_l_b1) mMark 2 xs k (by omega) (by omega) h0 hk
    (by
      intro j i zs hi hz hj hjc
      have w1 : IntKind.i64.wrap (j + 1) = j + 1 := w64 (by omega)
      have w2 : IntKind.i64.wrap (j + 1 + 1) = j + 2 := by rw [w64 (by omega)]; omega
      simp [laws_markMarkS_l_b1, rd_coe, hi, List.getElem?_set, w1, w2, w64s hi (show zs.length ≤ 4611686018427387904 by omega), mMark, markText_eq j (by omega)])
    (by intro j zs; simp [laws_markMarkS_l_b1])
  rw [key, Option.bind_some]
theorem markChain_eq (d : List UInt8) (s : Bool) (n : List Notch) (g : Ar 16 Int) (m : List Mark) (k : Int) (hn : n.length ≤ 100000000000000) (hm : m.length ≤ 100000000000000) (h0 : 0 ≤ k) (hk : k ≤ 152921504606846976) :
    ∃ n' m', laws_markChain_ll d s n g m k = some (k + (2 * n.length : Nat) + (2 * m.length : Nat), n', m') := by
  unfold laws_markChain_ll laws_markHalf_l
  rw [markNotchS_eq n k hn h0 (by omega)]
  simp only [Option.bind_some]
  rw [markMarkS_eq m _ hm (by omega) (by omega)]
  exact ⟨_, _, rfl⟩
end Go.Proofs.Ytkkmbehooldmjaa

/- Functions of the library that are met by their contracts. -/
import Derived.Test.YtjlalepbhcekoaaDoorAbGhL
import Derived.Lib.AppendIntMem
import Derived.Lib.ItoaMem
import Derived.Lib.Join
import Derived.Lib.SplitLaws
import Derived.Lib.IndexMore
import Derived.Lib.IndexBytes
set_option linter.unusedVariables false
namespace Go.Ab
open Go Go.RowKit Go.Sort
/-- a number's text, in base 10 -/
noncomputable def fmtI (n b : Int) : Option (List UInt8) := if b = 10 ∧ -9223372036854775808 ≤ n ∧ n ≤ 9223372036854775807 then some (Lib.itoa n) else none
/-- texts joined -/
noncomputable def joinI (xs : List (List UInt8)) (sep : List UInt8) : Option (List UInt8) := if (Lib.join xs sep).length ≤ 140737488355328 ∧ xs.length ≤ 140737488355328 then some (Lib.join xs sep) else none
/-- a text's pieces between separators -/
noncomputable def splitI (s sep : List UInt8) : Option (List (List UInt8)) := if s.length < 4294967281 ∧ 1 ≤ sep.length then some ((Lib.splitB ⟨sep.toArray⟩ 0 (Lib.countB ⟨s.toArray⟩ ⟨sep.toArray⟩) ⟨s.toArray⟩).map (·.data.toList)) else none
/-- a text, cut at the first separator -/
noncomputable def cutI (s sep : List UInt8) : Option (List UInt8 × List UInt8 × Bool) := if s.length < 4294967281 then some (Lib.cut s sep) else none
/-- the first place of a byte -/
noncomputable def idxI (s : List UInt8) (c : Int) : Option Int := some (Lib.indexByte s c.toNat.toUInt8)
def strsOf : List (List AV) → Option (List (List UInt8))
  | [] => some []
  | [.str s] :: r => (strsOf r).map fun q => s :: q
  | _ => none
theorem strsOf_map : ∀ xs : List (List UInt8), strsOf (xs.map cS) = some xs
  | [] => rfl
  | x :: r => by simp [strsOf, cS, strsOf_map r]
theorem strsOf_get : ∀ {es : List (List AV)} {xs : List (List UInt8)}, strsOf es = some xs → es = xs.map fun x => [AV.str x]
  | [], xs, h => by cases h; rfl
  | [.str s] :: r, xs, h => by
    simp only [strsOf, Option.map_eq_some_iff] at h
    obtain ⟨q, h1, rfl⟩ := h
    simp [strsOf_get h1]
  | [] :: r, xs, h => by simp [strsOf] at h
  | [.undef] :: r, xs, h | [.un] :: r, xs, h | [.int ..] :: r, xs, h | [.bool _] :: r, xs, h | [.ub] :: r, xs, h | [.agg _] :: r, xs, h | [.nils] :: r, xs, h | [.sle] :: r, xs, h | [.nilp] :: r, xs, h | [.sl ..] :: r, xs, h | [.lit ..] :: r, xs, h | [.pt ..] :: r, xs, h | [.loc ..] :: r, xs, h | [.lsl ..] :: r, xs, h | [.fn ..] :: r, xs, h | [.tup _] :: r, xs, h | [.nsl ..] :: r, xs, h | [.npt _] :: r, xs, h => by simp [strsOf] at h
  | (a :: b :: c) :: r, xs, h => by simp [strsOf] at h
noncomputable def libOf (q : Nat) (args : List AV) (M : Mem) : Option (AV × Mem) :=
  match q % 16 with
  | 0 => (match args with
    | [.int .i64 n, .int .i64 b] => (fmtI n b).map fun s => (.str s, M)
    | _ => none)
  | 1 => (match args with
    | [.sl none es, .str sep] => (strsOf es).bind fun xs => (joinI xs sep).map fun s => (.str s, M)
    | _ => none)
  | 2 => (match args with
    | [.str s, .str sep] => (splitI s sep).map fun xs => (.sl (some (q / 16)) (xs.map cS), M)
    | _ => none)
  | 3 => (match args with
    | [.str s, .str sep] => (cutI s sep).map fun r => (.tup [.str r.1, .str r.2.1, .bool r.2.2], M)
    | _ => none)
  | 4 => (match args with
    | [.str s, .int .u8 c] => (idxI s c).map fun r => (.int .i64 r, M)
    | _ => none)
  | _ => none
noncomputable def withLib (T : List (Nat × Nat)) (C : CallF) : CallF := fun f args M => match look T f with | some k => libOf k args M | none => C f args M
theorem look_mem {α : Type} : ∀ {T : List (Nat × α)} {f : Nat} {k : α}, look T f = some k → (f, k) ∈ T
  | [], f, k, h => by cases h
  | (j, x) :: r, f, k, h => by
    unfold look at h
    split at h
    · rename_i hj; cases h; rw [Nat.eq_of_beq_eq_true hj]; simp
    · exact List.mem_cons_of_mem _ (look_mem h)
def LibOk (P : Program) (f k : Nat) : Prop := ∀ args M out M', libOf k args M = some (out, M') → M' = M ∧ ∀ (B : Nat) (w : World) (ρ : Pm) (vals : Array Value), MR P.cellsOf B w M ρ → args.length = vals.size →
  (∀ (i : Nat) x v, args[i]? = some x → vals[i]? = some v → RV P.cellsOf B w M ρ x v) → Calls P f vals w (fun e w' => ∃ v, e = .returned v ∧ Below w.heap.size w w' ∧ RV P.cellsOf B w' M ρ out v)
theorem primOk_lib {P : Program} {T : List (Nat × Nat)} {C : CallF} {isP : Nat → Bool} (hT : ∀ p ∈ T, LibOk P p.1 p.2 ∧ ∀ args w, (callFunc p.1 args).run P w = .ok (.enter p.1 args) w) (hC : PrimOk P C isP) : PrimOk P (withLib T C) isP := by
  intro f args M out M' hh B w ρ vals hM hl hv o a K Q hK
  simp only at hh
  split at hh
  rotate_left
  · cases hh
  rename_i hp
  unfold withLib at hh
  split at hh
  · rename_i k hk
    obtain ⟨h1, h2⟩ := hT _ (look_mem hk)
    obtain ⟨rfl, hc⟩ := h1 args M out M' hh
    rw [h2, Oper.upon_enter]
    refine (hc B w ρ vals hM hl hv).mono ?_
    rintro e w' ⟨v, rfl, hbel, hrc⟩
    obtain ⟨t1, t2⟩ := kept_step hM hbel
    exact hK v w' ρ t1 t2 hrc
  · exact hC f args M out M' (by simp only [hp, if_true]; exact hh) B w ρ vals hM hl hv o a K Q hK
theorem vals2 {P : Program} {vals : Array Value} {x y : AV} {R : AV → Value → Prop} (hl : [x, y].length = vals.size) (hv : ∀ (i : Nat) z v, [x, y][i]? = some z → vals[i]? = some v → R z v) : ∃ u v, vals = #[u, v] ∧ R x u ∧ R y v := by
  obtain ⟨l⟩ := vals
  match l, hl with
  | [u, v], _ => exact ⟨u, v, rfl, hv 0 x u rfl rfl, hv 1 y v rfl rfl⟩
theorem libOk_fmt {P : Program} {f : Nat} (hfx : ∀ B w, FxOk B w → Lib.TabIs P w "internal/strconv.uint64pow10" .u64 Lib.pow10Tab)
    (hc : ∀ (n : Int) (h0 : -9223372036854775808 ≤ n) (h1 : n ≤ 9223372036854775807) (w : World) (htab : Lib.TabIs P w "internal/strconv.uint64pow10" .u64 Lib.pow10Tab), Calls P f #[.int .i64 n, .int .i64 10] w fun e w' => e = .returned (.string ⟨(Lib.itoa n).toArray⟩) ∧ ∃ k os, w' = grow (w.drewN k) os) : LibOk P f 0 := by
  intro args M out M' h
  simp only [libOf] at h
  split at h
  rotate_left
  · cases h
  rename_i n b
  obtain ⟨s, h1, h2⟩ := Option.map_eq_some_iff.1 h
  injection h2 with h2 h3
  subst h2 h3
  unfold fmtI at h1
  split at h1
  rotate_left
  · cases h1
  rename_i hb
  obtain ⟨rfl, b0, b1⟩ := hb
  cases h1
  refine ⟨rfl, fun B w ρ vals hM hl hv => ?_⟩
  obtain ⟨u, v, rfl, g1, g2⟩ := vals2 (P := P) hl hv
  cases g1
  cases g2
  refine (hc n b0 b1 w (hfx B w hM.fx)).mono ?_
  rintro e w' ⟨rfl, k, os, rfl⟩
  exact ⟨_, rfl, Lib.below_grow _ _ (Nat.le_refl _) _ _, .str _ _ (by simp)⟩
theorem libOk_join {P : Program} {f : Nat}
    (h0 : ∀ (a : Option Addr) (c : Nat) (sep : ByteArray) (w : World), Calls P f #[.slice a 0 c, .string sep] w fun e w' => e = .returned (.string ⟨#[]⟩) ∧ w' = w)
    (hc : ∀ (bk o c : Nat) (xs : List ByteArray) (sep : ByteArray) (w : World) (hcells : ∀ (j : Nat) x, xs[j]? = some x → w.cell? ⟨bk, o + j, none⟩ = some (.string x)) (hbk : bk < w.heap.size) (hN : xs.length ≤ 140737488355328) (hcap : xs.length ≤ c) (hlen : (Lib.join (xs.map (·.data.toList)) sep.data.toList).length ≤ 140737488355328),
      Calls P f #[.slice (some ⟨bk, o, none⟩) xs.length c, .string sep] w fun e w' => e = .returned (.string ⟨(Lib.join (xs.map (·.data.toList)) sep.data.toList).toArray⟩) ∧ Below w.heap.size w w') : LibOk P f 1 := by
  intro args M out M' h
  simp only [libOf] at h
  split at h
  rotate_left
  · cases h
  rename_i es sep
  obtain ⟨xs, hx, h⟩ := Option.bind_eq_some_iff.1 h
  obtain ⟨s, h1, h2⟩ := Option.map_eq_some_iff.1 h
  injection h2 with h2 h3
  subst h2 h3
  unfold joinI at h1
  split at h1
  rotate_left
  · cases h1
  rename_i hb
  cases h1
  refine ⟨rfl, fun B w ρ vals hM hl hv => ?_⟩
  obtain ⟨u, v, rfl, g1, g2⟩ := vals2 (P := P) hl hv
  obtain rfl := strsOf_get hx
  have key : ∀ (b : ByteArray), b.data.toList = sep → ∀ u, RV P.cellsOf B w M ρ (.sl none (xs.map fun x => [AV.str x])) u → Calls P f #[u, .string b] w (fun e w' => ∃ v, e = .returned v ∧ Below w.heap.size w w' ∧ RV P.cellsOf B w' M ρ (.str (Lib.join xs sep)) v) := by
    intro b hbs u g1
    generalize hes : (xs.map fun x => [AV.str x]) = es at g1
    cases g1 with
    | slN a c hn =>
      have : xs = [] := by simpa using hes
      subst this
      refine (h0 a c b w).mono ?_
      rintro e w' ⟨rfl, rfl⟩
      exact ⟨_, rfl, Below.refl _ _, .str _ _ (by simp [Lib.join])⟩
    | slB es b' off c s f' he hs hl' hcc hr hcap htr =>
      subst hes
      have hs1 : s = 1 := by
        obtain ⟨x, r, rfl⟩ := List.exists_cons_of_ne_nil (fun e : xs = [] => he (by simp [e]))
        exact (hl' [AV.str x] (by simp)).symm
      subst hs1
      have hval : ∀ (j : Nat) x, xs[j]? = some x → ∃ q : ByteArray, q.data.toList = x ∧ cellV (View w M ρ) b' (off + j) = some (.string q) := by
        intro j x hj
        have hlt : j < xs.length := (List.getElem?_eq_some_iff.1 hj).1
        have r1 := hr j 0 [.str x] (.str x) (by simp [hj]) rfl
        have r2 := hcc j 0 (by simpa using hlt) (by omega)
        generalize hq : f' j 0 = q at r1 r2
        cases r1 with
        | str _ q hqq => exact ⟨q, hqq, by simpa using r2⟩
      have hchoose : ∀ (l : List (List UInt8)) (n : Nat), (∀ (j : Nat) x, l[j]? = some x → ∃ q : ByteArray, q.data.toList = x ∧ cellV (View w M ρ) b' (off + (n + j)) = some (.string q)) → ∃ qs : List ByteArray, qs.map (·.data.toList) = l ∧ ∀ (j : Nat) q, qs[j]? = some q → cellV (View w M ρ) b' (off + (n + j)) = some (.string q) := by
        intro l
        induction l with
        | nil => intro n _; exact ⟨[], rfl, fun j q h => by simp at h⟩
        | cons x r ih =>
          intro n hh
          obtain ⟨q, q1, q2⟩ := hh 0 x rfl
          obtain ⟨qs, p1, p2⟩ := ih (n + 1) (fun j y hj => by have := hh (j + 1) y hj; rw [show n + 1 + j = n + (j + 1) by omega]; exact this)
          refine ⟨q :: qs, by simp [q1, p1], fun j q' hj => ?_⟩
          cases j with
          | zero => cases hj; exact q2
          | succ j => have := p2 j q' hj; rw [show n + (j + 1) = n + 1 + j by omega]; exact this
      obtain ⟨qs, p1, p2⟩ := hchoose xs 0 (fun j x hj => by rw [Nat.zero_add]; exact hval j x hj)
      have hlen : qs.length = xs.length := by rw [← p1]; simp
      have hcell : ∀ (j : Nat) q, qs[j]? = some q → w.cell? ⟨b', off + j, none⟩ = some (.string q) ∧ b' < w.heap.size := by
        intro j q hj
        have := p2 j q hj
        rw [Nat.zero_add] at this
        unfold cellV at this
        split at this
        · rename_i c' t' z' hv'
          obtain ⟨k1, k2⟩ := View.some hv'
          exact ⟨by simp [World.cell?, k2, this], View.lt hv'⟩
        · cases this
      have hpos : 0 < qs.length := by rw [hlen]; exact List.length_pos_iff.2 (fun e => he (by simp [e]))
      have hbk := (hcell 0 qs[0] (List.getElem?_eq_getElem hpos)).2
      have := hc b' off c qs b w (fun j q hj => (hcell j q hj).1) hbk (by rw [hlen]; exact hb.2) (by rw [hlen]; simpa using hcap) (by rw [p1, hbs]; exact hb.1)
      rw [p1, hbs, hlen] at this
      simp only [List.length_map]
      refine this.mono ?_
      rintro e w' ⟨rfl, hbel⟩
      exact ⟨_, rfl, hbel, .str _ _ (by simp)⟩
  cases g2 with
  | str _ b hbs => exact key b hbs u g1
theorem maxLen_of_fx {g B : Nat} {w : World} (hg : g ∈ FXI) (h : FxOk B w) : ∃ m, w.cell? ⟨g, 0, none⟩ = some (.int .i64 m) := by
  obtain ⟨_, cs, t, z, m, h1, h2⟩ := h.2 g hg
  exact ⟨m, by simp [World.cell?, h1, h2]⟩
theorem below_drewN (w : World) (k : Nat) : Below w.heap.size w (w.drewN k) := ⟨rfl, rfl, rfl, Nat.le_refl _, fun _ _ => rfl⟩
theorem libOk_split {P : Program} {f g t q : Nat} (hq : q % 16 = 2 ∧ q / 16 = t) (hg : g ∈ FXI) (hS : P.cellsOf t = 1)
    (hc : ∀ (s sep : ByteArray) (m : Int) (w : World) (hs : s.size < 4294967281) (hm : w.cell? ⟨g, 0, none⟩ = some (.int .i64 m)) (h1 : 1 ≤ sep.size), Calls P f #[.string s, .string sep] w fun e w' =>
      e = .returned (.slice (some ⟨w.heap.size, 0, none⟩) (Lib.countB s sep + 1) (Lib.countB s sep + 1)) ∧ w' = w.alloc (.cells ((Lib.splitB sep 0 (Lib.countB s sep) s).map Value.string).toArray t)) : LibOk P f q := by
  intro args M out M' h
  simp only [libOf, hq.1] at h
  split at h
  rotate_left
  · cases h
  rename_i s sep
  obtain ⟨xs, h1, h2⟩ := Option.map_eq_some_iff.1 h
  injection h2 with h2 h3
  subst h2 h3
  unfold splitI at h1
  split at h1
  rotate_left
  · cases h1
  rename_i hb
  cases h1
  refine ⟨rfl, fun B w ρ vals hM hl hv => ?_⟩
  obtain ⟨u, v, rfl, g1, g2⟩ := vals2 (P := P) hl hv
  cases g1 with
  | str _ bs hbs =>
  cases g2 with
  | str _ bp hbp =>
  obtain rfl : bs = ⟨s.toArray⟩ := by cases bs; simp at hbs; simp [← hbs]
  obtain rfl : bp = ⟨sep.toArray⟩ := by cases bp; simp at hbp; simp [← hbp]
  obtain ⟨m, hm⟩ := maxLen_of_fx hg hM.fx
  have z1 : (⟨s.toArray⟩ : ByteArray).size = s.length := by simp [ByteArray.size]
  have z2 : (⟨sep.toArray⟩ : ByteArray).size = sep.length := by simp [ByteArray.size]
  refine (hc ⟨s.toArray⟩ ⟨sep.toArray⟩ m w (by rw [z1]; exact hb.1) hm (by rw [z2]; exact hb.2)).mono ?_
  rintro e w' ⟨rfl, rfl⟩
  have hle := Lib.countB_le ⟨sep.toArray⟩ (by rw [z2]; exact hb.2) (⟨s.toArray⟩ : ByteArray).size ⟨s.toArray⟩ (Nat.le_refl _)
  have hlen := Lib.splitB_all ⟨sep.toArray⟩ (by rw [z2]; exact hb.2) 0 (Lib.countB ⟨s.toArray⟩ ⟨sep.toArray⟩) ⟨s.toArray⟩ rfl
  revert hlen hle
  generalize Lib.splitB ⟨sep.toArray⟩ 0 (Lib.countB ⟨s.toArray⟩ ⟨sep.toArray⟩) ⟨s.toArray⟩ = ys
  intro hle hlen
  refine ⟨_, rfl, below_alloc1 w _, ?_⟩
  have e1 : ((ys.map (·.data.toList)).map cS).length = Lib.countB ⟨s.toArray⟩ ⟨sep.toArray⟩ + 1 := by simpa using hlen
  have key := RC.slO (S := P.cellsOf) (V := View (w.alloc (.cells (ys.map Value.string).toArray t)) M ρ) (B := B) (R := Ref M ρ) t ((ys.map (·.data.toList)).map cS) w.heap.size (Lib.countB ⟨s.toArray⟩ ⟨sep.toArray⟩ + 1) (ys.map Value.string).toArray (fun i _ => .string (ys.getD i ByteArray.empty))
    (view_new hM _) hM.lo.1 (by rw [hS]; simp; omega) (by rw [hS]; omega) (by rw [e1]; exact Nat.le_refl _) (by unfold maxLen; rw [z1] at hle; omega) (fun e he => by
      obtain ⟨y, _, rfl⟩ := List.mem_map.1 he
      rw [hS]; rfl)
    (fun i j hi hj => by
      rw [hS] at hj ⊢
      have hj0 : j = 0 := by omega
      subst hj0
      have hi' : i < ys.length := by simpa using hi
      simp [hi'])
    (fun i j e x he hx => by
      rw [List.getElem?_map, List.getElem?_map] at he
      obtain ⟨y, hy, rfl⟩ := Option.map_eq_some_iff.1 he
      obtain ⟨b, hb', rfl⟩ := Option.map_eq_some_iff.1 hy
      cases j with
      | zero =>
        cases hx
        have : ys.getD i ByteArray.empty = b := by simp [hb']
        rw [this]
        exact .str _ _ rfl
      | succ j => simp [cS] at hx)
    (fun e he x hx => by
      obtain ⟨y, _, rfl⟩ := List.mem_map.1 he
      simp [cS] at hx
      subst hx; rfl)
  rw [e1] at key
  rw [hq.2]
  exact key
theorem libOk_cut {P : Program} {f g q : Nat} (hq : q % 16 = 3) (hg : g ∈ FXI)
    (hc : ∀ (s sep : ByteArray) (m : Int) (w : World) (hs : s.size < 4294967281) (hm : w.cell? ⟨g, 0, none⟩ = some (.int .i64 m)), Calls P f #[.string s, .string sep] w fun e w' =>
      e = .returned (.tuple #[.string ⟨(Lib.cut s.data.toList sep.data.toList).1.toArray⟩, .string ⟨(Lib.cut s.data.toList sep.data.toList).2.1.toArray⟩, .bool (Lib.cut s.data.toList sep.data.toList).2.2]) ∧ ∃ n, w' = w.drewN n) : LibOk P f q := by
  intro args M out M' h
  simp only [libOf, hq] at h
  split at h
  rotate_left
  · cases h
  rename_i s sep
  obtain ⟨r, h1, h2⟩ := Option.map_eq_some_iff.1 h
  injection h2 with h2 h3
  subst h2 h3
  unfold cutI at h1
  split at h1
  rotate_left
  · cases h1
  rename_i hb
  cases h1
  refine ⟨rfl, fun B w ρ vals hM hl hv => ?_⟩
  obtain ⟨u, v, rfl, g1, g2⟩ := vals2 (P := P) hl hv
  cases g1 with
  | str _ bs hbs =>
  cases g2 with
  | str _ bp hbp =>
  obtain ⟨m, hm⟩ := maxLen_of_fx hg hM.fx
  have z1 : bs.size = s.length := by rw [ba_size, hbs]
  refine (hc bs bp m w (by rw [z1]; exact hb) hm).mono ?_
  rintro e w' ⟨rfl, n, rfl⟩
  rw [hbs, hbp]
  refine ⟨_, rfl, below_drewN _ _, .tup _ _ rfl fun i x v h1 h2 => ?_⟩
  match i, h1, h2 with
  | 0, h1, h2 => cases h1; cases h2; exact .str _ _ (by simp)
  | 1, h1, h2 => cases h1; cases h2; exact .str _ _ (by simp)
  | 2, h1, h2 => cases h1; cases h2; exact .bool _
  | i + 3, h1, h2 => simp at h1
theorem libOk_idx {P : Program} {f q : Nat} (hq : q % 16 = 4)
    (hc : ∀ (s : ByteArray) (c : Int) (w : World), Calls P f #[.string s, .int .u8 c] w fun e w' => e = .returned (.int .i64 (Lib.indexByte s.data.toList c.toNat.toUInt8)) ∧ w' = w) : LibOk P f q := by
  intro args M out M' h
  simp only [libOf, hq] at h
  split at h
  rotate_left
  · cases h
  rename_i s c
  obtain ⟨r, h1, h2⟩ := Option.map_eq_some_iff.1 h
  injection h2 with h2 h3
  subst h2 h3
  cases h1
  refine ⟨rfl, fun B w ρ vals hM hl hv => ?_⟩
  obtain ⟨u, v, rfl, g1, g2⟩ := vals2 (P := P) hl hv
  cases g1 with
  | str _ bs hbs =>
  cases g2
  refine (hc bs c w).mono ?_
  rintro e w' ⟨rfl, rfl⟩
  rw [hbs]
  exact ⟨_, rfl, Below.refl _ _, .int _ _⟩
theorem Ev.lib {c : Cx} {an : Nat → Option Ann} {C : CallF} {T : List (Nat × Nat)} {isP : Nat → Bool} {f k : Nat} {args : List AV} {M : Mem} {p : AV × Mem} {Q : AV × Mem → Prop} (hp : isP f = true) (hT : look T f = some k) (h : libOf k args M = some p) (hq : Q p) : Ev (fun n => callN c an (withLib T C) isP n f args M) Q := by
  refine Ev.prim hp ?_
  have : withLib T C f args M = some p := by unfold withLib; rw [hT]; exact h
  rw [this]
  exact Ev.ret hq
theorem Ev.notLib {C : CallF} {T : List (Nat × Nat)} {f : Nat} {args : List AV} {M : Mem} {Q : AV × Mem → Prop} (h : look T f = none) (hh : Ev (fun _ : Nat => C f args M) Q) : Ev (fun _ : Nat => withLib T C f args M) Q := by
  have : withLib T C f args M = C f args M := by unfold withLib; rw [h]
  rw [this]; exact hh
theorem lib_fmt {n b : Int} {s : List UInt8} {M : Mem} (h : fmtI n b = some s) : libOf 0 [.int .i64 n, .int .i64 b] M = some (.str s, M) := by simp [libOf, h]
theorem lib_join {xs : List (List UInt8)} {sep s : List UInt8} {M : Mem} (h : joinI xs sep = some s) : libOf 1 [.sl none (xs.map cS), .str sep] M = some (.str s, M) := by simp [libOf, h, strsOf_map]
theorem lib_split {q : Nat} {s sep : List UInt8} {xs : List (List UInt8)} {M : Mem} (hq : q % 16 = 2) (h : splitI s sep = some xs) : libOf q [.str s, .str sep] M = some (.sl (some (q / 16)) (xs.map cS), M) := by simp [libOf, hq, h]
theorem lib_cut {s sep a b : List UInt8} {c : Bool} {M : Mem} (h : cutI s sep = some (a, b, c)) : libOf 3 [.str s, .str sep] M = some (.tup [.str a, .str b, .bool c], M) := by simp [libOf, h]
theorem lib_idx {s : List UInt8} {c r : Int} {M : Mem} (h : idxI s c = some r) : libOf 4 [.str s, .int .u8 c] M = some (.int .i64 r, M) := by simp [libOf, h]
end Go.Ab

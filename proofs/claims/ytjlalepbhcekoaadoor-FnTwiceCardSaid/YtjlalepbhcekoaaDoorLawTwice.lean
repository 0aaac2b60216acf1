/- The law 'FnTwice' of the given program: it tells true for all arguments. No condition. -/
import Derived.Test.YtjlalepbhcekoaaDoorRows
import Derived.Test.YtjlalepbhcekoaaDoorTie
import Derived.Test.YtjlalepbhcekoaaDoorCards
import Derived.SevenTiedAt
import Derived.LaidMore
import Derived.Lay
import Derived.Lib.LaidTab
import Derived.MakeChecks
import Derived.Stop.Joined
import Derived.Test.YtjlalepbhcekoaaDoorAbShp
import Derived.Test.YtjlalepbhcekoaaDoorPureTwice
import Derived.Test.YtjlalepbhcekoaaDoorOkTwice
import Derived.WalkKit
import Derived.ProofKit
import Derived.OpenShut
import Derived.ShutString
import Derived.ChangeOld
import Derived.Below
import Derived.SizedLaws
import Derived.Carry
set_option linter.unusedVariables false
namespace Go.Proofs.YtjlalepbhcekoaaDoor.fnTwice
open Go Go.Ab Go.ChangeShapes Go.WideShapes Go.ChangeAt Go.RowKit
theorem own : ownKnob Tryd.prog.godebug = none := by kernel_rfl
theorem laidOut : laidOutB Tryd.prog = true := by kernel_rfl
theorem door_met (os : Os) (args : Array Value) : laidMetH Tryd.prog Rows.fnTwiceRow.laid ((World.laidAll Tryd.prog os Rows.fnTwiceRow.laid).forCall (fun _ _ => 0) ⟨#[], args, []⟩).memory := by
  rw [MakeChecks.laidMetH_plain _ _ _ (by kernel_rfl)]
  exact laidMet_laidAll _ (by kernel_rfl) (by kernel_rfl)
theorem fx_of_laid {W : World} (h : laidMetH Tryd.prog Rows.fnTwiceRow.laid W) (hs : W.ShapedOpen Tryd.prog) : FxOk W.heap.size W := by
  refine ⟨?_, ?_⟩
  · rw [MakeChecks.laidMetH_plain _ _ _ (by kernel_rfl)] at h
    obtain ⟨ps, ⟨g0, t0, cs0, f0, p0, q0, hg0, ht0, hv0, hd0, ⟨g1, t1, cs1, f1, p1, q1, hg1, ht1, hv1, hd1, ⟨g2, t2, cs2, f2, p2, q2, hg2, ht2, hv2, hd2, _, _⟩, _⟩, _⟩, _, _⟩ := h
    obtain rfl := Option.some.inj ((show Tryd.prog.globalNamed "internal/strconv.uint64pow10" = some 1 by kernel_rfl).symm.trans hg2)
    obtain rfl := Option.some.inj ((show (Tryd.prog.globals[1]?).map (·.type) = some 200 by kernel_rfl).symm.trans ht2)
    have hc := Lib.cells_of_tab (k := .u64) (zs := Lib.pow10Tab) Tryd.underlying200 Tryd.underlying123 (by kernel_rfl) (by kernel_rfl) (show DataW.trod _ _ _ _ _ _ _ _ _ = some (Lib.tabData .u64 Lib.pow10Tab, _) from hd2)
    intro p hp
    obtain rfl := List.mem_singleton.1 hp
    have hv := hv2
    unfold World.var? at hv
    rw [show Tryd.prog.globalNamed "internal/strconv.uint64pow10" = some 1 by kernel_rfl, Option.bind_some] at hv
    split at hv
    · rename_i cs t z hh
      cases hv
      refine ⟨(Array.getElem?_eq_some_iff.1 hh).1, t, z, ?_⟩
      rw [hh]
      congr 2
      exact Array.ext' (by simpa using hc)
    · cases hv
  · intro g hg
    obtain rfl := List.mem_singleton.1 hg
    obtain ⟨m, hm⟩ := Go.Proofs.cell_of_shapedOpen_int (g := 0) (zero := #[.int .i64 0]) (t := 3) (k := .i64) hs (of_decide_eq_true (by kernel_rfl)) (by kernel_rfl) rfl (by kernel_rfl) (by kernel_rfl) (by kernel_rfl)
    unfold World.cell? at hm
    simp only at hm
    split at hm
    · rename_i cs t z hh
      exact ⟨(Array.getElem?_eq_some_iff.1 hh).1, cs, t, z, m, hh, hm⟩
    · cases hm
set_option maxRecDepth 100000 in
theorem lifted (os : Os) (started : os.Started) (H : Type) (enc : TypeId × Value → H) :
    ReturnsInHanded {} Tryd.checked os 4 .any (fun w args => (Rows.fnTwiceSpec.pre enc Tryd.prog Tryd.f4 Rows.fnTwiceRow.domain false w args ∧ laidMetH Tryd.prog Rows.fnTwiceRow.laid w) ∧ sizedMet enc Tryd.prog Tryd.f4 (OpenSpec.ofChange Rows.fnTwiceSpec) false w args) (Rows.fnTwiceSpec.post enc Tryd.prog Tryd.f4 false true false false) := by
  refine rh_and_shaped (C := Tryd.checked) (X := fun w _ => laidMetH Tryd.prog Rows.fnTwiceRow.laid w) (fun _ _ _ hh h => h.of_heap hh) own started (by kernel_rfl) Tryd.func4
    (ChangeSpec.witness_shaped (enc := enc) (C := Tryd.checked) (os := os) (X := fun w _ => laidMetH Tryd.prog Rows.fnTwiceRow.laid w) false (World.laidAll Tryd.prog os Rows.fnTwiceRow.laid) #[.slice none 0 0, .slice none 0 0] 8 (World.laidAll_os _ _ _) (World.shaped_of_ZipB (by kernel_rfl) (by kernel_rfl)) (by kernel_rfl) (by kernel_rfl) (by kernel_rfl) (door_met os _)) ?_
  intro W base args ds gs before hval0 hW _ hsz0 hL hSh _
  have hsz : (DataW.weightsEach Tryd.prog (Tryd.f4.params.toList ++ Rows.fnTwiceSpec.plain.varTypes Tryd.prog) (ds ++ gs)).all (· ≤ reachBytes) = true := hsz0
  have hval : ∀ (j : Nat) t v, Tryd.f4.params[j]? = some t → args[j]? = some v → Value.okWide Tryd.prog W .any base t v := hval0
  have hW' := hW
  obtain ⟨p, q, hA0, hV, rfl, hfz, hnd⟩ := hW
  have hA : DataW.TrodAll enc Tryd.prog W 0 (fun _ => true) true Tryd.f4.params.toList args.toList ds p := hA0
  rw [Tryd.params4] at hA hval hsz
  obtain ⟨v0, vs0, d0, ds0, p0, q0, hargs, rfl, rfl, h0, r0⟩ := trodAll_cons hA
  obtain ⟨v1, vs1, d1, ds1, p1, q1, rfl, rfl, rfl, h1, r1⟩ := trodAll_cons r0
  obtain ⟨rfl, rfl, rfl⟩ := trodAll_nil r1
  obtain rfl : args = #[v0, v1] := by cases args; simp_all
  obtain ⟨rfl, rfl⟩ := trodVars_none hV
  have k0 := h0
  have lt0 : ∀ x ∈ p0, x.block < W.heap.size := by obtain ⟨m, hm⟩ := k0; exact DataW.trod_lt m _ _ _ hm
  obtain ⟨y0, tz0, rc0⟩ := open_arg (d := 8) (B := W.heap.size) (R := fun _ _ => none) (b0 := base) (by kernel_rfl) (hval 0 22 v0 rfl rfl) h0 (sz_arg hsz 0 rfl rfl)
  obtain ⟨a0, e0, ok0⟩ := tyV_one tz0 (by kernel_rfl) ty22
  obtain rfl : y0 = .sl none (a0.map (cI .u8)) := List.head_eq_of_cons_eq e0
  have k1 := h1
  have lt1 : ∀ x ∈ p1, x.block < W.heap.size := by obtain ⟨m, hm⟩ := k1; exact DataW.trod_lt m _ _ _ hm
  obtain ⟨y1, tz1, rc1⟩ := open_arg (d := 8) (B := W.heap.size) (R := fun _ _ => none) (b0 := base) (by kernel_rfl) (hval 1 22 v1 rfl rfl) h1 (sz_arg hsz 1 rfl rfl)
  obtain ⟨a1, e1, ok1⟩ := tyV_one tz1 (by kernel_rfl) ty22
  obtain rfl : y1 = .sl none (a1.map (cI .u8)) := List.head_eq_of_cons_eq e1
  clear hA0 hval0 hsz0 hsz
  have hp := Pure.FnTwice a0 ok0 a1 ok1
  have hc := law_true2 (cx := cx) (W := W) (vals := #[v0, v1]) (by kernel_rfl) (primOk_lib libT_ok (primOk_split (by kernel_rfl) 3)) rfl (laws_FnTwice_ok a0 a1 _ hp) rfl (fun i x v g1 g2 => ?_) (fx_of_laid hL hSh)
  · refine hc.mono fun e W' ⟨he, bel⟩ => ?_
    subst he
    exact ⟨_, rfl, _, _, _, [], _, [], hW', trodAll_mk1 (shut_bool Tryd.underlying4 _), (trodAll_cons_mk (Below.trod laidOut (by kernel_rfl) (of_decide_eq_true (by kernel_rfl)) k0 bel lt0) (trodAll_cons_mk (Below.trod laidOut (by kernel_rfl) (of_decide_eq_true (by kernel_rfl)) k1 bel lt1) trodAll_mk0)), rfl, bel.frame _, fun h => by cases h⟩
  · match i, g1, g2 with
    | 0, g1, g2 => cases g1; cases g2; exact rc0
    | 1, g1, g2 => cases g1; cases g2; exact rc1
    | i + 2, g1, g2 => cases g1
theorem over : Rows.fnTwiceRow.holds Tryd.pinned (OpenSpec.ofChange Rows.fnTwiceSpec) :=
  OpenClaim.holds_of_wide 4 Tryd.f4 rfl rfl rfl rfl rfl rfl rfl ⟨rfl, rfl, rfl, rfl, rfl⟩ rfl rfl rfl rfl rfl (by kernel_rfl) Tryd.func4 (by kernel_rfl)
    (of_decide_eq_true (by kernel_rfl)) (by unfold Func.isWrapper; first | (rw [if_pos (by decide +kernel)]; kernel_rfl) | (rw [if_neg (by decide +kernel)]; exact ⟨rfl, rfl⟩))
    (fun os started H enc _ => lifted os started H enc)
set_option maxRecDepth 100000 in
theorem row_holds : Rows.FnTwiceSaid := over
theorem proved : Rows.FnTwiceCardSaid :=
  Claim7.holds_tied_plain_at .later [] [.data, .data, .data] true (true, "530b010c93b624494c26544b6b0d844cd5d8a386b1a348d94f980c0c2dca852b") false
    row_holds (fun _ h => by cases h) (by kernel_rfl) (fun _ h => by cases h) fnTwice_row_tie rfl ⟨rfl, rfl⟩ (by kernel_rfl) rfl
    (fun f fn hf hfn => by
      obtain rfl : f = 4 := Option.some.inj ((show Tryd.prog.funcNamed "loop.example/g01263/laws.FnTwice" = some 4 by kernel_rfl).symm.trans hf) |>.symm
      obtain rfl : fn = Tryd.f4 := (Option.some.inj (Tryd.func4.symm.trans hfn)).symm
      exact ⟨by kernel_rfl, fun j t ht => by
        rw [Tryd.params4] at ht
        have hm : t ∈ [22, 22] := by simpa using Array.mem_of_getElem? ht
        have hall : ([22, 22].all fun u => !Tryd.prog.wantsStandIn u) = true := by kernel_rfl
        exact (show Tryd.prog.wantsStandIn t = false by simpa using List.all_eq_true.1 hall t hm)⟩)
    (by kernel_rfl)
#print axioms proved
end Go.Proofs.YtjlalepbhcekoaaDoor.fnTwice
namespace Go.Proofs.YtjlalepbhcekoaaDoor
/-- The row, under a short name, for the claim. -/
theorem fnTwice_holds : Rows.FnTwiceCardSaid := fnTwice.proved
end Go.Proofs.YtjlalepbhcekoaaDoor

/- The law 'FnTop' of the given program: it tells true for all arguments. No condition. -/
import Derived.Test.YtkdinadmheomfaaGreatRows
import Derived.Test.YtkdinadmheomfaaGreatPureTop
import Derived.Test.YtkdinadmheomfaaGreatOkTop
import Derived.WalkKit
import Derived.ProofKit
import Derived.OpenShut
import Derived.ShutString
import Derived.ChangeOld
import Derived.Below
import Derived.SizedLaws
import Derived.Carry
set_option linter.unusedVariables false
namespace Go.Proofs.YtkdinadmheomfaaGreat.fnTop
open Go Go.Ab Go.ChangeShapes Go.WideShapes Go.ChangeAt Go.RowKit
theorem own : ownKnob Tryz.prog.godebug = none := by kernel_rfl
theorem laidOut : laidOutB Tryz.prog = true := by kernel_rfl
set_option maxRecDepth 100000 in
theorem lifted (os : Os) (started : os.Started) (H : Type) (enc : TypeId × Value -> H) :
  ReturnsInHanded {} Tryz.checked os 3 .any (Rows.fnTopSpec.pre6 enc Tryz.prog Tryz.f3 Rows.fnTopRow.domain false) (Rows.fnTopSpec.post enc Tryz.prog Tryz.f3 false true false false) := by
 refine returnsInHanded_of_change_sized (C := Tryz.checked) own started (by kernel_rfl) Tryz.func3
  (ChangeSpec.witness6 (enc := enc) (C := Tryz.checked) false ⟨#[], #[.slice none 0 0, .slice none 0 0], []⟩ 8 (by kernel_rfl) (by kernel_rfl) (by kernel_rfl) (by kernel_rfl)) ?_
 intro W base args ds gs before hval0 hW hcnd hsz0 _
 have hsz : (DataW.weightsEach Tryz.prog (Tryz.f3.params.toList ++ Rows.fnTopSpec.plain.varTypes Tryz.prog) (ds ++ gs)).all (· <= reachBytes) = true := hsz0
 have hval : ∀ (j : Nat) t v, Tryz.f3.params[j]? = some t -> args[j]? = some v -> Value.okWide Tryz.prog W .any base t v := hval0
 have hW' := hW
 obtain ⟨p, q, hA0, hV, rfl, hfz, hnd⟩ := hW
 have hA : DataW.TrodAll enc Tryz.prog W 0 (fun _ => true) true Tryz.f3.params.toList args.toList ds p := hA0
 rw [Tryz.params3] at hA hval hsz
 obtain ⟨v0, Ou, d0, ds0, p0, q0, hargs, rfl, rfl, h0, r0⟩ := trodAll_cons hA
 obtain ⟨v1, vs1, d1, ds1, p1, q1, rfl, rfl, rfl, h1, r1⟩ := trodAll_cons r0
 obtain ⟨rfl, rfl, rfl⟩ := trodAll_nil r1
 obtain rfl : args = #[v0, v1] := by cases args; simp_all
 obtain ⟨rfl, rfl⟩ := trodVars_none hV
 have k0 := h0
 have lt0 : ∀ x ∈ p0, x.block < W.heap.size := by obtain ⟨m, hm⟩ := k0; exact DataW.trod_lt m _ _ _ hm
 obtain ⟨y0, tz0, rc0⟩ := C4 (d := 8) (B := W.heap.size) (R := fun _ _ => none) (b0 := base) (by kernel_rfl) (hval 0 22 v0 rfl rfl) h0 (HT hsz 0 rfl rfl)
 obtain ⟨a0, e0, ok0⟩ := Eu tz0 (by kernel_rfl) N9
 obtain rfl : y0 = .sl none (a0.map (cI .u8)) := List.head_eq_of_cons_eq e0
 have k1 := h1
 have lt1 : ∀ x ∈ p1, x.block < W.heap.size := by obtain ⟨m, hm⟩ := k1; exact DataW.trod_lt m _ _ _ hm
 obtain ⟨y1, tz1, rc1⟩ := C4 (d := 8) (B := W.heap.size) (R := fun _ _ => none) (b0 := base) (by kernel_rfl) (hval 1 22 v1 rfl rfl) h1 (HT hsz 1 rfl rfl)
 obtain ⟨a1, e1, ok1⟩ := Eu tz1 (by kernel_rfl) N9
 obtain rfl : y1 = .sl none (a1.map (cI .u8)) := List.head_eq_of_cons_eq e1
 clear hA0 hval0 hsz0 hsz
 have hp := Pure.FnTop a0 ok0 a1 ok1
 have hc := Ga (cx := cx) (W := W) (vals := #[v0, v1]) (by kernel_rfl) (B7 (by kernel_rfl) 3) rfl (Ap a0 a1 _ hp) rfl (fun i x v g1 g2 => ?_) ⟨fun p hp => by simp [FX] at hp, fun g hg => by simp [OP] at hg⟩
 ·refine hc.mono fun e W' ⟨he, bel⟩ => ?_
  subst he
  exact ⟨_, rfl, _, _, _, [], _, [], hW', trodAll_mk1 (shut_bool Tryz.underlying4 _), (trodAll_cons_mk (Below.trod laidOut (by kernel_rfl) (of_decide_eq_true (by kernel_rfl)) k0 bel lt0) (trodAll_cons_mk (Below.trod laidOut (by kernel_rfl) (of_decide_eq_true (by kernel_rfl)) k1 bel lt1) trodAll_mk0)), rfl, bel.frame _, fun h => by cases h⟩
 ·match i, g1, g2 with
  | 0, g1, g2 => cases g1; cases g2; exact rc0
  | 1, g1, g2 => cases g1; cases g2; exact rc1
  | i + 2, g1, g2 => cases g1
theorem over : Rows.fnTopRow.holds Tryz.pinned (OpenSpec.ofChange Rows.fnTopSpec) :=
 OpenClaim.holds_of_wide 3 Tryz.f3 rfl rfl rfl rfl rfl rfl rfl ⟨rfl, rfl, rfl, rfl, rfl⟩ rfl rfl rfl rfl rfl (by kernel_rfl) Tryz.func3 (by kernel_rfl)
  (of_decide_eq_true (by kernel_rfl)) (by unfold Func.isWrapper; first | (rw [if_pos (by decide +kernel)]; kernel_rfl) | (rw [if_neg (by decide +kernel)]; exact ⟨rfl, rfl⟩))
  (fun os started H enc _ => lifted os started H enc)
theorem proved : Rows.FnTopSaid := over
#print axioms proved
end Go.Proofs.YtkdinadmheomfaaGreat.fnTop
namespace Go.Proofs.YtkdinadmheomfaaGreat
theorem fnTop_holds : Rows.FnTopSaid := fnTop.proved
end Go.Proofs.YtkdinadmheomfaaGreat

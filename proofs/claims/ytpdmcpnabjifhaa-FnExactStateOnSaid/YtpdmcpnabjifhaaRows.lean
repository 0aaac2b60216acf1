/-
  No cell of these rows narrows 'for every input' (looked for: loops, veiled, ifaces, maps, wideKeys, modest, calm, conditions, laid).
  DERIVED. THE GIVEN ROWS OF THIS SEAT. 6 by the template 'for every input the law returns true; each argument reads behind the call as it read before'; 0 by the template 'total and deterministic' (their statements: YtpdmcpnabjifhaaTotals.lean).
  GIVEN WITH THE SEED: the statements are not yours to turn. If you find one false, say at which input.
  Laid BY PROGRAM, IN A SANDBOX (cutbox-rows.mjs): the forced cells as the released guide's own fill.sh prints them over the translation c97b166cfcc45d7e… (all of the seat's roots in one cut). By AI agents, Wed Nov 11 2026. No macro, syntax, notation, axiom, sorry.
-/
import Derived.Test.YtpdmcpnabjifhaaChecked
import GoSem.Claim
import GoSem.ClaimJoined
import GoSem.ClaimMapViews
import Derived.JoinedTies
import Derived.KernelRfl
namespace Go.Proofs.Ytpdmcpnabjifhaa
/- THE CELL 'sum', in the pinned program and in every row, IS THE sha256 OF THE DUMP (.gsa) THAT YtpdmcpnabjifhaaProg.lean LOADS. Nothing in Lean hashes anything: it is a label: what it is worth is what the hold of that sum in a sandbox is worth. -/
noncomputable def Try.pinned : Pinned := { name := "ytpdmcpnabjifhaa", sum := "c97b166cfcc45d7e235787dd8f95420da8c06ddf8c01cde31ed31637a7599ad4", checked := Try.checked }
namespace Rows
def none {H : Type} : Left H := { results := [], args := [] }

/-- 'laws.FnExactFirstRefused': WHATEVER THE INPUT: true; the input reads as it did. -/
def fnExactFirstRefusedSpec : ChangeSpec := { name := "fnExactFirstRefused", fn := fun _ => fun
  | [d1, d2] => { results := [.lit (.bool true)], args := [d1, d2] }
  | _ => none }
def fnExactFirstRefusedRow : OpenClaim := { program := "ytpdmcpnabjifhaa", sum := "c97b166cfcc45d7e235787dd8f95420da8c06ddf8c01cde31ed31637a7599ad4", func := "loop.example/g01263/laws.FnExactFirstRefused", spec := "fnExactFirstRefused", unfollowed := true, recurses := true, apart := false }
def FnExactFirstRefusedSaid : Prop := fnExactFirstRefusedRow.holds Try.pinned (OpenSpec.ofChange fnExactFirstRefusedSpec)

/-- ITS FALSE NEIGHBOUR: 'it returns false'. Refute it at one input. -/
def fnExactFirstRefusedWrong : ChangeSpec := { name := "fnExactFirstRefused", fn := fun _ => fun
  | [d1, d2] => { results := [.lit (.bool false)], args := [d1, d2] }
  | _ => none }
def FnExactFirstRefusedWrongFalsely : Prop := fnExactFirstRefusedRow.holds Try.pinned (OpenSpec.ofChange fnExactFirstRefusedWrong)

/-- 'laws.FnExactHolderOn': WHATEVER THE INPUT: true; the input reads as it did. -/
def fnExactHolderOnSpec : ChangeSpec := { name := "fnExactHolderOn", fn := fun _ => fun
  | [d1, d2, d3, d4] => { results := [.lit (.bool true)], args := [d1, d2, d3, d4] }
  | _ => none }
def fnExactHolderOnRow : OpenClaim := { program := "ytpdmcpnabjifhaa", sum := "c97b166cfcc45d7e235787dd8f95420da8c06ddf8c01cde31ed31637a7599ad4", func := "loop.example/g01263/laws.FnExactHolderOn", spec := "fnExactHolderOn", unfollowed := true, recurses := true, apart := false }
def FnExactHolderOnSaid : Prop := fnExactHolderOnRow.holds Try.pinned (OpenSpec.ofChange fnExactHolderOnSpec)

/-- ITS FALSE NEIGHBOUR: 'it returns false'. Refute it at one input. -/
def fnExactHolderOnWrong : ChangeSpec := { name := "fnExactHolderOn", fn := fun _ => fun
  | [d1, d2, d3, d4] => { results := [.lit (.bool false)], args := [d1, d2, d3, d4] }
  | _ => none }
def FnExactHolderOnWrongFalsely : Prop := fnExactHolderOnRow.holds Try.pinned (OpenSpec.ofChange fnExactHolderOnWrong)

/-- 'laws.FnExactDoDeals': WHATEVER THE INPUT: true; the input reads as it did. -/
def fnExactDoDealsSpec : ChangeSpec := { name := "fnExactDoDeals", fn := fun _ => fun
  | [d1, d2] => { results := [.lit (.bool true)], args := [d1, d2] }
  | _ => none }
def fnExactDoDealsRow : OpenClaim := { program := "ytpdmcpnabjifhaa", sum := "c97b166cfcc45d7e235787dd8f95420da8c06ddf8c01cde31ed31637a7599ad4", func := "loop.example/g01263/laws.FnExactDoDeals", spec := "fnExactDoDeals", unfollowed := true, recurses := true, apart := false }
def FnExactDoDealsSaid : Prop := fnExactDoDealsRow.holds Try.pinned (OpenSpec.ofChange fnExactDoDealsSpec)

/-- ITS FALSE NEIGHBOUR: 'it returns false'. Refute it at one input. -/
def fnExactDoDealsWrong : ChangeSpec := { name := "fnExactDoDeals", fn := fun _ => fun
  | [d1, d2] => { results := [.lit (.bool false)], args := [d1, d2] }
  | _ => none }
def FnExactDoDealsWrongFalsely : Prop := fnExactDoDealsRow.holds Try.pinned (OpenSpec.ofChange fnExactDoDealsWrong)

/-- 'laws.FnExactHistoryOf': WHATEVER THE INPUT: true; the input reads as it did. -/
def fnExactHistoryOfSpec : ChangeSpec := { name := "fnExactHistoryOf", fn := fun _ => fun
  | [d1, d2, d3] => { results := [.lit (.bool true)], args := [d1, d2, d3] }
  | _ => none }
def fnExactHistoryOfRow : OpenClaim := { program := "ytpdmcpnabjifhaa", sum := "c97b166cfcc45d7e235787dd8f95420da8c06ddf8c01cde31ed31637a7599ad4", func := "loop.example/g01263/laws.FnExactHistoryOf", spec := "fnExactHistoryOf", unfollowed := true, recurses := true, apart := false }
def FnExactHistoryOfSaid : Prop := fnExactHistoryOfRow.holds Try.pinned (OpenSpec.ofChange fnExactHistoryOfSpec)

/-- ITS FALSE NEIGHBOUR: 'it returns false'. Refute it at one input. -/
def fnExactHistoryOfWrong : ChangeSpec := { name := "fnExactHistoryOf", fn := fun _ => fun
  | [d1, d2, d3] => { results := [.lit (.bool false)], args := [d1, d2, d3] }
  | _ => none }
def FnExactHistoryOfWrongFalsely : Prop := fnExactHistoryOfRow.holds Try.pinned (OpenSpec.ofChange fnExactHistoryOfWrong)

/-- 'laws.FnExactStateOn': WHATEVER THE INPUT: true; the input reads as it did. -/
def fnExactStateOnSpec : ChangeSpec := { name := "fnExactStateOn", fn := fun _ => fun
  | [d1, d2, d3] => { results := [.lit (.bool true)], args := [d1, d2, d3] }
  | _ => none }
def fnExactStateOnRow : OpenClaim := { program := "ytpdmcpnabjifhaa", sum := "c97b166cfcc45d7e235787dd8f95420da8c06ddf8c01cde31ed31637a7599ad4", func := "loop.example/g01263/laws.FnExactStateOn", spec := "fnExactStateOn", unfollowed := true, recurses := true, apart := false }
def FnExactStateOnSaid : Prop := fnExactStateOnRow.holds Try.pinned (OpenSpec.ofChange fnExactStateOnSpec)

/-- ITS FALSE NEIGHBOUR: 'it returns false'. Refute it at one input. -/
def fnExactStateOnWrong : ChangeSpec := { name := "fnExactStateOn", fn := fun _ => fun
  | [d1, d2, d3] => { results := [.lit (.bool false)], args := [d1, d2, d3] }
  | _ => none }
def FnExactStateOnWrongFalsely : Prop := fnExactStateOnRow.holds Try.pinned (OpenSpec.ofChange fnExactStateOnWrong)

/-- 'laws.FnExactWorthsOn': WHATEVER THE INPUT: true; the input reads as it did. -/
def fnExactWorthsOnSpec : ChangeSpec := { name := "fnExactWorthsOn", fn := fun _ => fun
  | [d1, d2, d3, d4] => { results := [.lit (.bool true)], args := [d1, d2, d3, d4] }
  | _ => none }
def fnExactWorthsOnRow : OpenClaim := { program := "ytpdmcpnabjifhaa", sum := "c97b166cfcc45d7e235787dd8f95420da8c06ddf8c01cde31ed31637a7599ad4", func := "loop.example/g01263/laws.FnExactWorthsOn", spec := "fnExactWorthsOn", unfollowed := true, recurses := true, apart := false }
def FnExactWorthsOnSaid : Prop := fnExactWorthsOnRow.holds Try.pinned (OpenSpec.ofChange fnExactWorthsOnSpec)

/-- ITS FALSE NEIGHBOUR: 'it returns false'. Refute it at one input. -/
def fnExactWorthsOnWrong : ChangeSpec := { name := "fnExactWorthsOn", fn := fun _ => fun
  | [d1, d2, d3, d4] => { results := [.lit (.bool false)], args := [d1, d2, d3, d4] }
  | _ => none }
def FnExactWorthsOnWrongFalsely : Prop := fnExactWorthsOnRow.holds Try.pinned (OpenSpec.ofChange fnExactWorthsOnWrong)

/- THE SECOND FORM. 'bulk': how many values and letters a reading holds, each counted each time it is reached (what is shared counts as often as it is met; a slice's spare places count too). A statement '..UptoSaid' is the law's where the arguments, and the package variables that the reading takes, are together of bulk at most 1048576: NARROWER than '..Said'. Prove '..Said' where nothing that the law and all that it calls make is longer than what came in: it says more and counts as full. Else prove '..UptoSaid'. A law counts once. -/
mutual
def uptoBulk {H : Type} : DataW H → Nat
  | .lit (.string bytes) => bytes.length + 1
  | .lit _ => 1
  | .nil => 1
  | .ptr d => uptoBulk d + 1
  | .slice elems spare => uptoBulkAll elems + uptoBulkAll spare + 1
  | .agg parts => uptoBulkAll parts + 1
  | .iface _ d => uptoBulk d + 1
  | .map entries => uptoBulkEntries entries + 1
  | .held _ => 1
def uptoBulkAll {H : Type} : List (DataW H) → Nat
  | [] => 0
  | d :: r => uptoBulk d + uptoBulkAll r
def uptoBulkEntries {H : Type} : List (Lit × DataW H) → Nat
  | [] => 0
  | x :: r => uptoBulkEntry x + uptoBulkEntries r
def uptoBulkEntry {H : Type} : Lit × DataW H → Nat
  | (.string bytes, d) => bytes.length + uptoBulk d + 1
  | (_, d) => uptoBulk d + 1
 end
def uptoSmall : (H : Type) → List (DataW H) → Bool := fun _ ds => decide (uptoBulkAll ds ≤ 1048576)
def OpenSpec.upto (s : _root_.Go.ChangeSpec) : _root_.Go.OpenSpec := { _root_.Go.OpenSpec.ofChange s with cond := some uptoSmall }

/-- 'laws.FnExactFirstRefused', WHERE WHAT IT READS IS OF BULK AT MOST 1048576: true; the input reads as it did. -/
def fnExactFirstRefusedUptoRow : OpenClaim := { program := "ytpdmcpnabjifhaa", sum := "c97b166cfcc45d7e235787dd8f95420da8c06ddf8c01cde31ed31637a7599ad4", func := "loop.example/g01263/laws.FnExactFirstRefused", spec := "fnExactFirstRefused", unfollowed := true, recurses := true, apart := false, narrowed := true }
def FnExactFirstRefusedUptoSaid : Prop := fnExactFirstRefusedUptoRow.holds Try.pinned (OpenSpec.upto fnExactFirstRefusedSpec)

/-- 'laws.FnExactHolderOn', WHERE WHAT IT READS IS OF BULK AT MOST 1048576: true; the input reads as it did. -/
def fnExactHolderOnUptoRow : OpenClaim := { program := "ytpdmcpnabjifhaa", sum := "c97b166cfcc45d7e235787dd8f95420da8c06ddf8c01cde31ed31637a7599ad4", func := "loop.example/g01263/laws.FnExactHolderOn", spec := "fnExactHolderOn", unfollowed := true, recurses := true, apart := false, narrowed := true }
def FnExactHolderOnUptoSaid : Prop := fnExactHolderOnUptoRow.holds Try.pinned (OpenSpec.upto fnExactHolderOnSpec)

/-- 'laws.FnExactDoDeals', WHERE WHAT IT READS IS OF BULK AT MOST 1048576: true; the input reads as it did. -/
def fnExactDoDealsUptoRow : OpenClaim := { program := "ytpdmcpnabjifhaa", sum := "c97b166cfcc45d7e235787dd8f95420da8c06ddf8c01cde31ed31637a7599ad4", func := "loop.example/g01263/laws.FnExactDoDeals", spec := "fnExactDoDeals", unfollowed := true, recurses := true, apart := false, narrowed := true }
def FnExactDoDealsUptoSaid : Prop := fnExactDoDealsUptoRow.holds Try.pinned (OpenSpec.upto fnExactDoDealsSpec)

/-- 'laws.FnExactHistoryOf', WHERE WHAT IT READS IS OF BULK AT MOST 1048576: true; the input reads as it did. -/
def fnExactHistoryOfUptoRow : OpenClaim := { program := "ytpdmcpnabjifhaa", sum := "c97b166cfcc45d7e235787dd8f95420da8c06ddf8c01cde31ed31637a7599ad4", func := "loop.example/g01263/laws.FnExactHistoryOf", spec := "fnExactHistoryOf", unfollowed := true, recurses := true, apart := false, narrowed := true }
def FnExactHistoryOfUptoSaid : Prop := fnExactHistoryOfUptoRow.holds Try.pinned (OpenSpec.upto fnExactHistoryOfSpec)

/-- 'laws.FnExactStateOn', WHERE WHAT IT READS IS OF BULK AT MOST 1048576: true; the input reads as it did. -/
def fnExactStateOnUptoRow : OpenClaim := { program := "ytpdmcpnabjifhaa", sum := "c97b166cfcc45d7e235787dd8f95420da8c06ddf8c01cde31ed31637a7599ad4", func := "loop.example/g01263/laws.FnExactStateOn", spec := "fnExactStateOn", unfollowed := true, recurses := true, apart := false, narrowed := true }
def FnExactStateOnUptoSaid : Prop := fnExactStateOnUptoRow.holds Try.pinned (OpenSpec.upto fnExactStateOnSpec)

/-- 'laws.FnExactWorthsOn', WHERE WHAT IT READS IS OF BULK AT MOST 1048576: true; the input reads as it did. -/
def fnExactWorthsOnUptoRow : OpenClaim := { program := "ytpdmcpnabjifhaa", sum := "c97b166cfcc45d7e235787dd8f95420da8c06ddf8c01cde31ed31637a7599ad4", func := "loop.example/g01263/laws.FnExactWorthsOn", spec := "fnExactWorthsOn", unfollowed := true, recurses := true, apart := false, narrowed := true }
def FnExactWorthsOnUptoSaid : Prop := fnExactWorthsOnUptoRow.holds Try.pinned (OpenSpec.upto fnExactWorthsOnSpec)

end Rows
end Go.Proofs.Ytpdmcpnabjifhaa

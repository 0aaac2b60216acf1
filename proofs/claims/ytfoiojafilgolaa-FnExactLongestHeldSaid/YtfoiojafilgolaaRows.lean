/-
  No cell of these rows narrows 'for every input' (looked for: loops, veiled, ifaces, maps, wideKeys, modest, calm, conditions, laid).
  DERIVED. THE GIVEN ROWS OF THIS SEAT. 5 by the template 'for every input the law returns true; each argument reads behind the call as it read before'; 0 by the template 'total and deterministic' (their statements: YtfoiojafilgolaaTotals.lean).
  GIVEN WITH THE SEED: the statements are not yours to turn. If you find one false, say at which input.
  Laid BY PROGRAM, IN A SANDBOX (cutbox-rows.mjs): the forced cells as the released guide's own fill.sh prints them over the translation d083ec1b67dde3d0… (all of the seat's roots in one cut). By AI agents, Wed Nov 11 2026. No macro, syntax, notation, axiom, sorry.
-/
import Derived.Test.YtfoiojafilgolaaChecked
import GoSem.Claim
import GoSem.ClaimJoined
import GoSem.ClaimMapViews
import Derived.JoinedTies
import Derived.KernelRfl
namespace Go.Proofs.Ytfoiojafilgolaa
/- THE CELL 'sum', in the pinned program and in every row, IS THE sha256 OF THE DUMP (.gsa) THAT YtfoiojafilgolaaProg.lean LOADS. Nothing in Lean hashes anything: it is a label: what it is worth is what the hold of that sum in a sandbox is worth. -/
noncomputable def Try.pinned : Pinned := { name := "ytfoiojafilgolaa", sum := "d083ec1b67dde3d0e3cb2abcdc35fc80ae12c052131c9b5a867cc5a226adae4c", checked := Try.checked }
namespace Rows
def none {H : Type} : Left H := { results := [], args := [] }

/-- 'laws.FnExactHeldBy': WHATEVER THE INPUT: true; the input reads as it did. -/
def fnExactHeldBySpec : ChangeSpec := { name := "fnExactHeldBy", fn := fun _ => fun
  | [d1, d2] => { results := [.lit (.bool true)], args := [d1, d2] }
  | _ => none }
def fnExactHeldByRow : OpenClaim := { program := "ytfoiojafilgolaa", sum := "d083ec1b67dde3d0e3cb2abcdc35fc80ae12c052131c9b5a867cc5a226adae4c", func := "loop.example/g01263/laws.FnExactHeldBy", spec := "fnExactHeldBy", apart := false }
def FnExactHeldBySaid : Prop := fnExactHeldByRow.holds Try.pinned (OpenSpec.ofChange fnExactHeldBySpec)

/-- ITS FALSE NEIGHBOUR: 'it returns false'. Refute it at one input. -/
def fnExactHeldByWrong : ChangeSpec := { name := "fnExactHeldBy", fn := fun _ => fun
  | [d1, d2] => { results := [.lit (.bool false)], args := [d1, d2] }
  | _ => none }
def FnExactHeldByWrongFalsely : Prop := fnExactHeldByRow.holds Try.pinned (OpenSpec.ofChange fnExactHeldByWrong)

/-- 'laws.FnExactSetAgainst': WHATEVER THE INPUT: true; the input reads as it did. -/
def fnExactSetAgainstSpec : ChangeSpec := { name := "fnExactSetAgainst", fn := fun _ => fun
  | [d] => { results := [.lit (.bool true)], args := [d] }
  | _ => none }
def fnExactSetAgainstRow : OpenClaim := { program := "ytfoiojafilgolaa", sum := "d083ec1b67dde3d0e3cb2abcdc35fc80ae12c052131c9b5a867cc5a226adae4c", func := "loop.example/g01263/laws.FnExactSetAgainst", spec := "fnExactSetAgainst", apart := false }
def FnExactSetAgainstSaid : Prop := fnExactSetAgainstRow.holds Try.pinned (OpenSpec.ofChange fnExactSetAgainstSpec)

/-- ITS FALSE NEIGHBOUR: 'it returns false'. Refute it at one input. -/
def fnExactSetAgainstWrong : ChangeSpec := { name := "fnExactSetAgainst", fn := fun _ => fun
  | [d] => { results := [.lit (.bool false)], args := [d] }
  | _ => none }
def FnExactSetAgainstWrongFalsely : Prop := fnExactSetAgainstRow.holds Try.pinned (OpenSpec.ofChange fnExactSetAgainstWrong)

/-- 'laws.FnExactLongestHeld': WHATEVER THE INPUT: true; the input reads as it did. -/
def fnExactLongestHeldSpec : ChangeSpec := { name := "fnExactLongestHeld", fn := fun _ => fun
  | [d1, d2, d3] => { results := [.lit (.bool true)], args := [d1, d2, d3] }
  | _ => none }
def fnExactLongestHeldRow : OpenClaim := { program := "ytfoiojafilgolaa", sum := "d083ec1b67dde3d0e3cb2abcdc35fc80ae12c052131c9b5a867cc5a226adae4c", func := "loop.example/g01263/laws.FnExactLongestHeld", spec := "fnExactLongestHeld", unfollowed := true, recurses := true, apart := false }
def FnExactLongestHeldSaid : Prop := fnExactLongestHeldRow.holds Try.pinned (OpenSpec.ofChange fnExactLongestHeldSpec)

/-- ITS FALSE NEIGHBOUR: 'it returns false'. Refute it at one input. -/
def fnExactLongestHeldWrong : ChangeSpec := { name := "fnExactLongestHeld", fn := fun _ => fun
  | [d1, d2, d3] => { results := [.lit (.bool false)], args := [d1, d2, d3] }
  | _ => none }
def FnExactLongestHeldWrongFalsely : Prop := fnExactLongestHeldRow.holds Try.pinned (OpenSpec.ofChange fnExactLongestHeldWrong)

/-- 'laws.FnExactSplitChain': WHATEVER THE INPUT: true; the input reads as it did. -/
def fnExactSplitChainSpec : ChangeSpec := { name := "fnExactSplitChain", fn := fun _ => fun
  | [d1, d2, d3] => { results := [.lit (.bool true)], args := [d1, d2, d3] }
  | _ => none }
def fnExactSplitChainRow : OpenClaim := { program := "ytfoiojafilgolaa", sum := "d083ec1b67dde3d0e3cb2abcdc35fc80ae12c052131c9b5a867cc5a226adae4c", func := "loop.example/g01263/laws.FnExactSplitChain", spec := "fnExactSplitChain", apart := false }
def FnExactSplitChainSaid : Prop := fnExactSplitChainRow.holds Try.pinned (OpenSpec.ofChange fnExactSplitChainSpec)

/-- ITS FALSE NEIGHBOUR: 'it returns false'. Refute it at one input. -/
def fnExactSplitChainWrong : ChangeSpec := { name := "fnExactSplitChain", fn := fun _ => fun
  | [d1, d2, d3] => { results := [.lit (.bool false)], args := [d1, d2, d3] }
  | _ => none }
def FnExactSplitChainWrongFalsely : Prop := fnExactSplitChainRow.holds Try.pinned (OpenSpec.ofChange fnExactSplitChainWrong)

/-- 'laws.FnExactOwedTo': WHATEVER THE INPUT: true; the input reads as it did. -/
def fnExactOwedToSpec : ChangeSpec := { name := "fnExactOwedTo", fn := fun _ => fun
  | [d] => { results := [.lit (.bool true)], args := [d] }
  | _ => none }
def fnExactOwedToRow : OpenClaim := { program := "ytfoiojafilgolaa", sum := "d083ec1b67dde3d0e3cb2abcdc35fc80ae12c052131c9b5a867cc5a226adae4c", func := "loop.example/g01263/laws.FnExactOwedTo", spec := "fnExactOwedTo", recurses := true, apart := false }
def FnExactOwedToSaid : Prop := fnExactOwedToRow.holds Try.pinned (OpenSpec.ofChange fnExactOwedToSpec)

/-- ITS FALSE NEIGHBOUR: 'it returns false'. Refute it at one input. -/
def fnExactOwedToWrong : ChangeSpec := { name := "fnExactOwedTo", fn := fun _ => fun
  | [d] => { results := [.lit (.bool false)], args := [d] }
  | _ => none }
def FnExactOwedToWrongFalsely : Prop := fnExactOwedToRow.holds Try.pinned (OpenSpec.ofChange fnExactOwedToWrong)

/- THE SECOND FORM. 'bulk': how many values and letters a reading holds, each counted each time it is reached (what is shared counts as often as it is met; a slice's spare places count too). A statement '..UptoSaid' is the law's where the arguments, and the package variables that the reading takes, are together of bulk at most 1048576: NARROWER than '..Said'. Prove '..Said' where nothing that the law and all that it calls make is longer than what came in: it says more and counts as full. Else prove '..UptoSaid'. A law counts once. -/
mutual
def uptoBulk {H : Type} : DataW H → Nat
  | .lit (.string bytes) => bytes.length + 1
  | .lit _ => 1
  | .nil => 1
  | .ptr d => uptoBulk d + 1
  | .slice elems spare => uptoBulkAll elems + uptoBulkAll spare + 1
  | .agg parts => uptoBulkAll parts + 1
  | .iface _ d => uptoBulk d + 1
  | .map entries => uptoBulkEntries entries + 1
  | .held _ => 1
def uptoBulkAll {H : Type} : List (DataW H) → Nat
  | [] => 0
  | d :: r => uptoBulk d + uptoBulkAll r
def uptoBulkEntries {H : Type} : List (Lit × DataW H) → Nat
  | [] => 0
  | x :: r => uptoBulkEntry x + uptoBulkEntries r
def uptoBulkEntry {H : Type} : Lit × DataW H → Nat
  | (.string bytes, d) => bytes.length + uptoBulk d + 1
  | (_, d) => uptoBulk d + 1
 end
def uptoSmall : (H : Type) → List (DataW H) → Bool := fun _ ds => decide (uptoBulkAll ds ≤ 1048576)
def OpenSpec.upto (s : _root_.Go.ChangeSpec) : _root_.Go.OpenSpec := { _root_.Go.OpenSpec.ofChange s with cond := some uptoSmall }

/-- 'laws.FnExactHeldBy', WHERE WHAT IT READS IS OF BULK AT MOST 1048576: true; the input reads as it did. -/
def fnExactHeldByUptoRow : OpenClaim := { program := "ytfoiojafilgolaa", sum := "d083ec1b67dde3d0e3cb2abcdc35fc80ae12c052131c9b5a867cc5a226adae4c", func := "loop.example/g01263/laws.FnExactHeldBy", spec := "fnExactHeldBy", apart := false, narrowed := true }
def FnExactHeldByUptoSaid : Prop := fnExactHeldByUptoRow.holds Try.pinned (OpenSpec.upto fnExactHeldBySpec)

/-- 'laws.FnExactSetAgainst', WHERE WHAT IT READS IS OF BULK AT MOST 1048576: true; the input reads as it did. -/
def fnExactSetAgainstUptoRow : OpenClaim := { program := "ytfoiojafilgolaa", sum := "d083ec1b67dde3d0e3cb2abcdc35fc80ae12c052131c9b5a867cc5a226adae4c", func := "loop.example/g01263/laws.FnExactSetAgainst", spec := "fnExactSetAgainst", apart := false, narrowed := true }
def FnExactSetAgainstUptoSaid : Prop := fnExactSetAgainstUptoRow.holds Try.pinned (OpenSpec.upto fnExactSetAgainstSpec)

/-- 'laws.FnExactLongestHeld', WHERE WHAT IT READS IS OF BULK AT MOST 1048576: true; the input reads as it did. -/
def fnExactLongestHeldUptoRow : OpenClaim := { program := "ytfoiojafilgolaa", sum := "d083ec1b67dde3d0e3cb2abcdc35fc80ae12c052131c9b5a867cc5a226adae4c", func := "loop.example/g01263/laws.FnExactLongestHeld", spec := "fnExactLongestHeld", unfollowed := true, recurses := true, apart := false, narrowed := true }
def FnExactLongestHeldUptoSaid : Prop := fnExactLongestHeldUptoRow.holds Try.pinned (OpenSpec.upto fnExactLongestHeldSpec)

/-- 'laws.FnExactSplitChain', WHERE WHAT IT READS IS OF BULK AT MOST 1048576: true; the input reads as it did. -/
def fnExactSplitChainUptoRow : OpenClaim := { program := "ytfoiojafilgolaa", sum := "d083ec1b67dde3d0e3cb2abcdc35fc80ae12c052131c9b5a867cc5a226adae4c", func := "loop.example/g01263/laws.FnExactSplitChain", spec := "fnExactSplitChain", apart := false, narrowed := true }
def FnExactSplitChainUptoSaid : Prop := fnExactSplitChainUptoRow.holds Try.pinned (OpenSpec.upto fnExactSplitChainSpec)

/-- 'laws.FnExactOwedTo', WHERE WHAT IT READS IS OF BULK AT MOST 1048576: true; the input reads as it did. -/
def fnExactOwedToUptoRow : OpenClaim := { program := "ytfoiojafilgolaa", sum := "d083ec1b67dde3d0e3cb2abcdc35fc80ae12c052131c9b5a867cc5a226adae4c", func := "loop.example/g01263/laws.FnExactOwedTo", spec := "fnExactOwedTo", recurses := true, apart := false, narrowed := true }
def FnExactOwedToUptoSaid : Prop := fnExactOwedToUptoRow.holds Try.pinned (OpenSpec.upto fnExactOwedToSpec)

end Rows
end Go.Proofs.Ytfoiojafilgolaa

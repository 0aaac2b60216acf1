/-
  No cell of these rows narrows 'for every input' (looked for: loops, veiled, ifaces, maps, wideKeys, modest, calm, conditions, laid).
  DERIVED. THE GIVEN ROWS OF THIS SEAT. 5 by the template 'for every input the law returns true; each argument reads behind the call as it read before'; 0 by the template 'total and deterministic' (their statements: YtfabokkhdalbeaaTotals.lean).
  GIVEN WITH THE SEED: the statements are not yours to turn. If you find one false, say at which input.
  Laid BY PROGRAM, IN A SANDBOX (cutbox-rows.mjs): the forced cells as the released guide's own fill.sh prints them over the translation 737289247b81c886… (all of the seat's roots in one cut). By AI agents, Wed Nov 11 2026. No macro, syntax, notation, axiom, sorry.
-/
import Derived.Test.YtfabokkhdalbeaaChecked
import GoSem.Claim
import GoSem.ClaimJoined
import GoSem.ClaimMapViews
import Derived.JoinedTies
import Derived.KernelRfl
namespace Go.Proofs.Ytfabokkhdalbeaa
/- THE CELL 'sum', in the pinned program and in every row, IS THE sha256 OF THE DUMP (.gsa) THAT YtfabokkhdalbeaaProg.lean LOADS. Nothing in Lean hashes anything: it is a label: what it is worth is what the hold of that sum in a sandbox is worth. -/
noncomputable def Try.pinned : Pinned := { name := "ytfabokkhdalbeaa", sum := "737289247b81c886e9a39eb783df4d71bed9b9cd2176de95b1354566ef5d4de3", checked := Try.checked }
namespace Rows
def none {H : Type} : Left H := { results := [], args := [] }

/-- 'laws.FnExactSameChain': WHATEVER THE INPUT: true; the input reads as it did. -/
def fnExactSameChainSpec : ChangeSpec := { name := "fnExactSameChain", fn := fun _ => fun
  | [d1, d2] => { results := [.lit (.bool true)], args := [d1, d2] }
  | _ => none }
def fnExactSameChainRow : OpenClaim := { program := "ytfabokkhdalbeaa", sum := "737289247b81c886e9a39eb783df4d71bed9b9cd2176de95b1354566ef5d4de3", func := "loop.example/g01263/laws.FnExactSameChain", spec := "fnExactSameChain", apart := false }
def FnExactSameChainSaid : Prop := fnExactSameChainRow.holds Try.pinned (OpenSpec.ofChange fnExactSameChainSpec)

/-- ITS FALSE NEIGHBOUR: 'it returns false'. Refute it at one input. -/
def fnExactSameChainWrong : ChangeSpec := { name := "fnExactSameChain", fn := fun _ => fun
  | [d1, d2] => { results := [.lit (.bool false)], args := [d1, d2] }
  | _ => none }
def FnExactSameChainWrongFalsely : Prop := fnExactSameChainRow.holds Try.pinned (OpenSpec.ofChange fnExactSameChainWrong)

/-- 'laws.FnExactGetsInAll': WHATEVER THE INPUT: true; the input reads as it did. -/
def fnExactGetsInAllSpec : ChangeSpec := { name := "fnExactGetsInAll", fn := fun _ => fun
  | [d1, d2] => { results := [.lit (.bool true)], args := [d1, d2] }
  | _ => none }
def fnExactGetsInAllRow : OpenClaim := { program := "ytfabokkhdalbeaa", sum := "737289247b81c886e9a39eb783df4d71bed9b9cd2176de95b1354566ef5d4de3", func := "loop.example/g01263/laws.FnExactGetsInAll", spec := "fnExactGetsInAll", apart := false }
def FnExactGetsInAllSaid : Prop := fnExactGetsInAllRow.holds Try.pinned (OpenSpec.ofChange fnExactGetsInAllSpec)

/-- ITS FALSE NEIGHBOUR: 'it returns false'. Refute it at one input. -/
def fnExactGetsInAllWrong : ChangeSpec := { name := "fnExactGetsInAll", fn := fun _ => fun
  | [d1, d2] => { results := [.lit (.bool false)], args := [d1, d2] }
  | _ => none }
def FnExactGetsInAllWrongFalsely : Prop := fnExactGetsInAllRow.holds Try.pinned (OpenSpec.ofChange fnExactGetsInAllWrong)

/-- 'laws.FnExactOwesInAll': WHATEVER THE INPUT: true; the input reads as it did. -/
def fnExactOwesInAllSpec : ChangeSpec := { name := "fnExactOwesInAll", fn := fun _ => fun
  | [d1, d2] => { results := [.lit (.bool true)], args := [d1, d2] }
  | _ => none }
def fnExactOwesInAllRow : OpenClaim := { program := "ytfabokkhdalbeaa", sum := "737289247b81c886e9a39eb783df4d71bed9b9cd2176de95b1354566ef5d4de3", func := "loop.example/g01263/laws.FnExactOwesInAll", spec := "fnExactOwesInAll", apart := false }
def FnExactOwesInAllSaid : Prop := fnExactOwesInAllRow.holds Try.pinned (OpenSpec.ofChange fnExactOwesInAllSpec)

/-- ITS FALSE NEIGHBOUR: 'it returns false'. Refute it at one input. -/
def fnExactOwesInAllWrong : ChangeSpec := { name := "fnExactOwesInAll", fn := fun _ => fun
  | [d1, d2] => { results := [.lit (.bool false)], args := [d1, d2] }
  | _ => none }
def FnExactOwesInAllWrongFalsely : Prop := fnExactOwesInAllRow.holds Try.pinned (OpenSpec.ofChange fnExactOwesInAllWrong)

/-- 'laws.FnExactPutTogether': WHATEVER THE INPUT: true; the input reads as it did. -/
def fnExactPutTogetherSpec : ChangeSpec := { name := "fnExactPutTogether", fn := fun _ => fun
  | [d1, d2] => { results := [.lit (.bool true)], args := [d1, d2] }
  | _ => none }
def fnExactPutTogetherRow : OpenClaim := { program := "ytfabokkhdalbeaa", sum := "737289247b81c886e9a39eb783df4d71bed9b9cd2176de95b1354566ef5d4de3", func := "loop.example/g01263/laws.FnExactPutTogether", spec := "fnExactPutTogether", unfollowed := true, recurses := true, apart := false }
def FnExactPutTogetherSaid : Prop := fnExactPutTogetherRow.holds Try.pinned (OpenSpec.ofChange fnExactPutTogetherSpec)

/-- ITS FALSE NEIGHBOUR: 'it returns false'. Refute it at one input. -/
def fnExactPutTogetherWrong : ChangeSpec := { name := "fnExactPutTogether", fn := fun _ => fun
  | [d1, d2] => { results := [.lit (.bool false)], args := [d1, d2] }
  | _ => none }
def FnExactPutTogetherWrongFalsely : Prop := fnExactPutTogetherRow.holds Try.pinned (OpenSpec.ofChange fnExactPutTogetherWrong)

/-- 'laws.FnExactWorthOfPerson': WHATEVER THE INPUT: true; the input reads as it did. -/
def fnExactWorthOfPersonSpec : ChangeSpec := { name := "fnExactWorthOfPerson", fn := fun _ => fun
  | [d1, d2] => { results := [.lit (.bool true)], args := [d1, d2] }
  | _ => none }
def fnExactWorthOfPersonRow : OpenClaim := { program := "ytfabokkhdalbeaa", sum := "737289247b81c886e9a39eb783df4d71bed9b9cd2176de95b1354566ef5d4de3", func := "loop.example/g01263/laws.FnExactWorthOfPerson", spec := "fnExactWorthOfPerson", apart := false }
def FnExactWorthOfPersonSaid : Prop := fnExactWorthOfPersonRow.holds Try.pinned (OpenSpec.ofChange fnExactWorthOfPersonSpec)

/-- ITS FALSE NEIGHBOUR: 'it returns false'. Refute it at one input. -/
def fnExactWorthOfPersonWrong : ChangeSpec := { name := "fnExactWorthOfPerson", fn := fun _ => fun
  | [d1, d2] => { results := [.lit (.bool false)], args := [d1, d2] }
  | _ => none }
def FnExactWorthOfPersonWrongFalsely : Prop := fnExactWorthOfPersonRow.holds Try.pinned (OpenSpec.ofChange fnExactWorthOfPersonWrong)

/- THE SECOND FORM. 'bulk': how many values and letters a reading holds, each counted each time it is reached (what is shared counts as often as it is met; a slice's spare places count too). A statement '..UptoSaid' is the law's where the arguments, and the package variables that the reading takes, are together of bulk at most 1048576: NARROWER than '..Said'. Prove '..Said' where nothing that the law and all that it calls make is longer than what came in: it says more and counts as full. Else prove '..UptoSaid'. A law counts once. -/
mutual
def uptoBulk {H : Type} : DataW H → Nat
  | .lit (.string bytes) => bytes.length + 1
  | .lit _ => 1
  | .nil => 1
  | .ptr d => uptoBulk d + 1
  | .slice elems spare => uptoBulkAll elems + uptoBulkAll spare + 1
  | .agg parts => uptoBulkAll parts + 1
  | .iface _ d => uptoBulk d + 1
  | .map entries => uptoBulkEntries entries + 1
  | .held _ => 1
def uptoBulkAll {H : Type} : List (DataW H) → Nat
  | [] => 0
  | d :: r => uptoBulk d + uptoBulkAll r
def uptoBulkEntries {H : Type} : List (Lit × DataW H) → Nat
  | [] => 0
  | x :: r => uptoBulkEntry x + uptoBulkEntries r
def uptoBulkEntry {H : Type} : Lit × DataW H → Nat
  | (.string bytes, d) => bytes.length + uptoBulk d + 1
  | (_, d) => uptoBulk d + 1
 end
def uptoSmall : (H : Type) → List (DataW H) → Bool := fun _ ds => decide (uptoBulkAll ds ≤ 1048576)
def OpenSpec.upto (s : _root_.Go.ChangeSpec) : _root_.Go.OpenSpec := { _root_.Go.OpenSpec.ofChange s with cond := some uptoSmall }

/-- 'laws.FnExactSameChain', WHERE WHAT IT READS IS OF BULK AT MOST 1048576: true; the input reads as it did. -/
def fnExactSameChainUptoRow : OpenClaim := { program := "ytfabokkhdalbeaa", sum := "737289247b81c886e9a39eb783df4d71bed9b9cd2176de95b1354566ef5d4de3", func := "loop.example/g01263/laws.FnExactSameChain", spec := "fnExactSameChain", apart := false, narrowed := true }
def FnExactSameChainUptoSaid : Prop := fnExactSameChainUptoRow.holds Try.pinned (OpenSpec.upto fnExactSameChainSpec)

/-- 'laws.FnExactGetsInAll', WHERE WHAT IT READS IS OF BULK AT MOST 1048576: true; the input reads as it did. -/
def fnExactGetsInAllUptoRow : OpenClaim := { program := "ytfabokkhdalbeaa", sum := "737289247b81c886e9a39eb783df4d71bed9b9cd2176de95b1354566ef5d4de3", func := "loop.example/g01263/laws.FnExactGetsInAll", spec := "fnExactGetsInAll", apart := false, narrowed := true }
def FnExactGetsInAllUptoSaid : Prop := fnExactGetsInAllUptoRow.holds Try.pinned (OpenSpec.upto fnExactGetsInAllSpec)

/-- 'laws.FnExactOwesInAll', WHERE WHAT IT READS IS OF BULK AT MOST 1048576: true; the input reads as it did. -/
def fnExactOwesInAllUptoRow : OpenClaim := { program := "ytfabokkhdalbeaa", sum := "737289247b81c886e9a39eb783df4d71bed9b9cd2176de95b1354566ef5d4de3", func := "loop.example/g01263/laws.FnExactOwesInAll", spec := "fnExactOwesInAll", apart := false, narrowed := true }
def FnExactOwesInAllUptoSaid : Prop := fnExactOwesInAllUptoRow.holds Try.pinned (OpenSpec.upto fnExactOwesInAllSpec)

/-- 'laws.FnExactPutTogether', WHERE WHAT IT READS IS OF BULK AT MOST 1048576: true; the input reads as it did. -/
def fnExactPutTogetherUptoRow : OpenClaim := { program := "ytfabokkhdalbeaa", sum := "737289247b81c886e9a39eb783df4d71bed9b9cd2176de95b1354566ef5d4de3", func := "loop.example/g01263/laws.FnExactPutTogether", spec := "fnExactPutTogether", unfollowed := true, recurses := true, apart := false, narrowed := true }
def FnExactPutTogetherUptoSaid : Prop := fnExactPutTogetherUptoRow.holds Try.pinned (OpenSpec.upto fnExactPutTogetherSpec)

/-- 'laws.FnExactWorthOfPerson', WHERE WHAT IT READS IS OF BULK AT MOST 1048576: true; the input reads as it did. -/
def fnExactWorthOfPersonUptoRow : OpenClaim := { program := "ytfabokkhdalbeaa", sum := "737289247b81c886e9a39eb783df4d71bed9b9cd2176de95b1354566ef5d4de3", func := "loop.example/g01263/laws.FnExactWorthOfPerson", spec := "fnExactWorthOfPerson", apart := false, narrowed := true }
def FnExactWorthOfPersonUptoSaid : Prop := fnExactWorthOfPersonUptoRow.holds Try.pinned (OpenSpec.upto fnExactWorthOfPersonSpec)

end Rows
end Go.Proofs.Ytfabokkhdalbeaa

/-
  No cell of these rows narrows 'for every input' (looked for: loops, veiled, ifaces, maps, wideKeys, modest, calm, conditions, laid).
  DERIVED. THE GIVEN ROWS OF THIS SEAT. 6 by the template 'for every input the law returns true; each argument reads behind the call as it read before'; 0 by the template 'total and deterministic' (their statements: YthkbjnbbahmpkaaTotals.lean).
  GIVEN WITH THE SEED: the statements are not yours to turn. If you find one false, say at which input.
  Laid BY PROGRAM, IN A SANDBOX (cutbox-rows.mjs): the forced cells as the released guide's own fill.sh prints them over the translation 2217568188444bed… (all of the seat's roots in one cut). By AI agents, Wed Nov 11 2026. No macro, syntax, notation, axiom, sorry.
-/
import Derived.Test.YthkbjnbbahmpkaaChecked
import GoSem.Claim
import GoSem.ClaimJoined
import GoSem.ClaimMapViews
import Derived.JoinedTies
import Derived.KernelRfl
namespace Go.Proofs.Ythkbjnbbahmpkaa
/- THE CELL 'sum', in the pinned program and in every row, IS THE sha256 OF THE DUMP (.gsa) THAT YthkbjnbbahmpkaaProg.lean LOADS. Nothing in Lean hashes anything: it is a label: what it is worth is what the hold of that sum in a sandbox is worth. -/
noncomputable def Try.pinned : Pinned := { name := "ythkbjnbbahmpkaa", sum := "2217568188444bed5c44d148c8ba2123512373172a95b6c95b0008e5d5a07c59", checked := Try.checked }
namespace Rows
def none {H : Type} : Left H := { results := [], args := [] }

/-- 'laws.FnExactSameChain': WHATEVER THE INPUT: true; the input reads as it did. -/
def fnExactSameChainSpec : ChangeSpec := { name := "fnExactSameChain", fn := fun _ => fun
  | [d1, d2] => { results := [.lit (.bool true)], args := [d1, d2] }
  | _ => none }
def fnExactSameChainRow : OpenClaim := { program := "ythkbjnbbahmpkaa", sum := "2217568188444bed5c44d148c8ba2123512373172a95b6c95b0008e5d5a07c59", func := "loop.example/g01263/laws.FnExactSameChain", spec := "fnExactSameChain", apart := false }
def FnExactSameChainSaid : Prop := fnExactSameChainRow.holds Try.pinned (OpenSpec.ofChange fnExactSameChainSpec)

/-- ITS FALSE NEIGHBOUR: 'it returns false'. Refute it at one input. -/
def fnExactSameChainWrong : ChangeSpec := { name := "fnExactSameChain", fn := fun _ => fun
  | [d1, d2] => { results := [.lit (.bool false)], args := [d1, d2] }
  | _ => none }
def FnExactSameChainWrongFalsely : Prop := fnExactSameChainRow.holds Try.pinned (OpenSpec.ofChange fnExactSameChainWrong)

/-- 'laws.FnExactValidChain': WHATEVER THE INPUT: true; the input reads as it did. -/
def fnExactValidChainSpec : ChangeSpec := { name := "fnExactValidChain", fn := fun _ => fun
  | [d] => { results := [.lit (.bool true)], args := [d] }
  | _ => none }
def fnExactValidChainRow : OpenClaim := { program := "ythkbjnbbahmpkaa", sum := "2217568188444bed5c44d148c8ba2123512373172a95b6c95b0008e5d5a07c59", func := "loop.example/g01263/laws.FnExactValidChain", spec := "fnExactValidChain", apart := false }
def FnExactValidChainSaid : Prop := fnExactValidChainRow.holds Try.pinned (OpenSpec.ofChange fnExactValidChainSpec)

/-- ITS FALSE NEIGHBOUR: 'it returns false'. Refute it at one input. -/
def fnExactValidChainWrong : ChangeSpec := { name := "fnExactValidChain", fn := fun _ => fun
  | [d] => { results := [.lit (.bool false)], args := [d] }
  | _ => none }
def FnExactValidChainWrongFalsely : Prop := fnExactValidChainRow.holds Try.pinned (OpenSpec.ofChange fnExactValidChainWrong)

/-- 'laws.FnExactHolderOf': WHATEVER THE INPUT: true; the input reads as it did. -/
def fnExactHolderOfSpec : ChangeSpec := { name := "fnExactHolderOf", fn := fun _ => fun
  | [d] => { results := [.lit (.bool true)], args := [d] }
  | _ => none }
def fnExactHolderOfRow : OpenClaim := { program := "ythkbjnbbahmpkaa", sum := "2217568188444bed5c44d148c8ba2123512373172a95b6c95b0008e5d5a07c59", func := "loop.example/g01263/laws.FnExactHolderOf", spec := "fnExactHolderOf", apart := false }
def FnExactHolderOfSaid : Prop := fnExactHolderOfRow.holds Try.pinned (OpenSpec.ofChange fnExactHolderOfSpec)

/-- ITS FALSE NEIGHBOUR: 'it returns false'. Refute it at one input. -/
def fnExactHolderOfWrong : ChangeSpec := { name := "fnExactHolderOf", fn := fun _ => fun
  | [d] => { results := [.lit (.bool false)], args := [d] }
  | _ => none }
def FnExactHolderOfWrongFalsely : Prop := fnExactHolderOfRow.holds Try.pinned (OpenSpec.ofChange fnExactHolderOfWrong)

/-- 'laws.FnExactIsHome': WHATEVER THE INPUT: true; the input reads as it did. -/
def fnExactIsHomeSpec : ChangeSpec := { name := "fnExactIsHome", fn := fun _ => fun
  | [d] => { results := [.lit (.bool true)], args := [d] }
  | _ => none }
def fnExactIsHomeRow : OpenClaim := { program := "ythkbjnbbahmpkaa", sum := "2217568188444bed5c44d148c8ba2123512373172a95b6c95b0008e5d5a07c59", func := "loop.example/g01263/laws.FnExactIsHome", spec := "fnExactIsHome", apart := false }
def FnExactIsHomeSaid : Prop := fnExactIsHomeRow.holds Try.pinned (OpenSpec.ofChange fnExactIsHomeSpec)

/-- ITS FALSE NEIGHBOUR: 'it returns false'. Refute it at one input. -/
def fnExactIsHomeWrong : ChangeSpec := { name := "fnExactIsHome", fn := fun _ => fun
  | [d] => { results := [.lit (.bool false)], args := [d] }
  | _ => none }
def FnExactIsHomeWrongFalsely : Prop := fnExactIsHomeRow.holds Try.pinned (OpenSpec.ofChange fnExactIsHomeWrong)

/-- 'laws.FnExactCommonMarks': WHATEVER THE INPUT: true; the input reads as it did. -/
def fnExactCommonMarksSpec : ChangeSpec := { name := "fnExactCommonMarks", fn := fun _ => fun
  | [d1, d2] => { results := [.lit (.bool true)], args := [d1, d2] }
  | _ => none }
def fnExactCommonMarksRow : OpenClaim := { program := "ythkbjnbbahmpkaa", sum := "2217568188444bed5c44d148c8ba2123512373172a95b6c95b0008e5d5a07c59", func := "loop.example/g01263/laws.FnExactCommonMarks", spec := "fnExactCommonMarks", apart := false }
def FnExactCommonMarksSaid : Prop := fnExactCommonMarksRow.holds Try.pinned (OpenSpec.ofChange fnExactCommonMarksSpec)

/-- ITS FALSE NEIGHBOUR: 'it returns false'. Refute it at one input. -/
def fnExactCommonMarksWrong : ChangeSpec := { name := "fnExactCommonMarks", fn := fun _ => fun
  | [d1, d2] => { results := [.lit (.bool false)], args := [d1, d2] }
  | _ => none }
def FnExactCommonMarksWrongFalsely : Prop := fnExactCommonMarksRow.holds Try.pinned (OpenSpec.ofChange fnExactCommonMarksWrong)

/-- 'laws.FnExactDebtsIn': WHATEVER THE INPUT: true; the input reads as it did. -/
def fnExactDebtsInSpec : ChangeSpec := { name := "fnExactDebtsIn", fn := fun _ => fun
  | [d] => { results := [.lit (.bool true)], args := [d] }
  | _ => none }
def fnExactDebtsInRow : OpenClaim := { program := "ythkbjnbbahmpkaa", sum := "2217568188444bed5c44d148c8ba2123512373172a95b6c95b0008e5d5a07c59", func := "loop.example/g01263/laws.FnExactDebtsIn", spec := "fnExactDebtsIn", apart := false }
def FnExactDebtsInSaid : Prop := fnExactDebtsInRow.holds Try.pinned (OpenSpec.ofChange fnExactDebtsInSpec)

/-- ITS FALSE NEIGHBOUR: 'it returns false'. Refute it at one input. -/
def fnExactDebtsInWrong : ChangeSpec := { name := "fnExactDebtsIn", fn := fun _ => fun
  | [d] => { results := [.lit (.bool false)], args := [d] }
  | _ => none }
def FnExactDebtsInWrongFalsely : Prop := fnExactDebtsInRow.holds Try.pinned (OpenSpec.ofChange fnExactDebtsInWrong)

/- THE SECOND FORM. 'bulk': how many values and letters a reading holds, each counted each time it is reached (what is shared counts as often as it is met; a slice's spare places count too). A statement '..UptoSaid' is the law's where the arguments, and the package variables that the reading takes, are together of bulk at most 1048576: NARROWER than '..Said'. Prove '..Said' where nothing that the law and all that it calls make is longer than what came in: it says more and counts as full. Else prove '..UptoSaid'. A law counts once. -/
mutual
def uptoBulk {H : Type} : DataW H → Nat
  | .lit (.string bytes) => bytes.length + 1
  | .lit _ => 1
  | .nil => 1
  | .ptr d => uptoBulk d + 1
  | .slice elems spare => uptoBulkAll elems + uptoBulkAll spare + 1
  | .agg parts => uptoBulkAll parts + 1
  | .iface _ d => uptoBulk d + 1
  | .map entries => uptoBulkEntries entries + 1
  | .held _ => 1
def uptoBulkAll {H : Type} : List (DataW H) → Nat
  | [] => 0
  | d :: r => uptoBulk d + uptoBulkAll r
def uptoBulkEntries {H : Type} : List (Lit × DataW H) → Nat
  | [] => 0
  | x :: r => uptoBulkEntry x + uptoBulkEntries r
def uptoBulkEntry {H : Type} : Lit × DataW H → Nat
  | (.string bytes, d) => bytes.length + uptoBulk d + 1
  | (_, d) => uptoBulk d + 1
 end
def uptoSmall : (H : Type) → List (DataW H) → Bool := fun _ ds => decide (uptoBulkAll ds ≤ 1048576)
def OpenSpec.upto (s : _root_.Go.ChangeSpec) : _root_.Go.OpenSpec := { _root_.Go.OpenSpec.ofChange s with cond := some uptoSmall }

/-- 'laws.FnExactSameChain', WHERE WHAT IT READS IS OF BULK AT MOST 1048576: true; the input reads as it did. -/
def fnExactSameChainUptoRow : OpenClaim := { program := "ythkbjnbbahmpkaa", sum := "2217568188444bed5c44d148c8ba2123512373172a95b6c95b0008e5d5a07c59", func := "loop.example/g01263/laws.FnExactSameChain", spec := "fnExactSameChain", apart := false, narrowed := true }
def FnExactSameChainUptoSaid : Prop := fnExactSameChainUptoRow.holds Try.pinned (OpenSpec.upto fnExactSameChainSpec)

/-- 'laws.FnExactValidChain', WHERE WHAT IT READS IS OF BULK AT MOST 1048576: true; the input reads as it did. -/
def fnExactValidChainUptoRow : OpenClaim := { program := "ythkbjnbbahmpkaa", sum := "2217568188444bed5c44d148c8ba2123512373172a95b6c95b0008e5d5a07c59", func := "loop.example/g01263/laws.FnExactValidChain", spec := "fnExactValidChain", apart := false, narrowed := true }
def FnExactValidChainUptoSaid : Prop := fnExactValidChainUptoRow.holds Try.pinned (OpenSpec.upto fnExactValidChainSpec)

/-- 'laws.FnExactHolderOf', WHERE WHAT IT READS IS OF BULK AT MOST 1048576: true; the input reads as it did. -/
def fnExactHolderOfUptoRow : OpenClaim := { program := "ythkbjnbbahmpkaa", sum := "2217568188444bed5c44d148c8ba2123512373172a95b6c95b0008e5d5a07c59", func := "loop.example/g01263/laws.FnExactHolderOf", spec := "fnExactHolderOf", apart := false, narrowed := true }
def FnExactHolderOfUptoSaid : Prop := fnExactHolderOfUptoRow.holds Try.pinned (OpenSpec.upto fnExactHolderOfSpec)

/-- 'laws.FnExactIsHome', WHERE WHAT IT READS IS OF BULK AT MOST 1048576: true; the input reads as it did. -/
def fnExactIsHomeUptoRow : OpenClaim := { program := "ythkbjnbbahmpkaa", sum := "2217568188444bed5c44d148c8ba2123512373172a95b6c95b0008e5d5a07c59", func := "loop.example/g01263/laws.FnExactIsHome", spec := "fnExactIsHome", apart := false, narrowed := true }
def FnExactIsHomeUptoSaid : Prop := fnExactIsHomeUptoRow.holds Try.pinned (OpenSpec.upto fnExactIsHomeSpec)

/-- 'laws.FnExactCommonMarks', WHERE WHAT IT READS IS OF BULK AT MOST 1048576: true; the input reads as it did. -/
def fnExactCommonMarksUptoRow : OpenClaim := { program := "ythkbjnbbahmpkaa", sum := "2217568188444bed5c44d148c8ba2123512373172a95b6c95b0008e5d5a07c59", func := "loop.example/g01263/laws.FnExactCommonMarks", spec := "fnExactCommonMarks", apart := false, narrowed := true }
def FnExactCommonMarksUptoSaid : Prop := fnExactCommonMarksUptoRow.holds Try.pinned (OpenSpec.upto fnExactCommonMarksSpec)

/-- 'laws.FnExactDebtsIn', WHERE WHAT IT READS IS OF BULK AT MOST 1048576: true; the input reads as it did. -/
def fnExactDebtsInUptoRow : OpenClaim := { program := "ythkbjnbbahmpkaa", sum := "2217568188444bed5c44d148c8ba2123512373172a95b6c95b0008e5d5a07c59", func := "loop.example/g01263/laws.FnExactDebtsIn", spec := "fnExactDebtsIn", apart := false, narrowed := true }
def FnExactDebtsInUptoSaid : Prop := fnExactDebtsInUptoRow.holds Try.pinned (OpenSpec.upto fnExactDebtsInSpec)

end Rows
end Go.Proofs.Ythkbjnbbahmpkaa

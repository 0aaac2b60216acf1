/-
  No cell of these rows narrows 'for every input' (looked for: loops, veiled, ifaces, maps, wideKeys, modest, calm, conditions, laid).
  DERIVED. THE GIVEN ROWS OF THIS SEAT. 6 by the template 'for every input the law returns true; each argument reads behind the call as it read before'; 0 by the template 'total and deterministic' (their statements: YtaocojognonkcaaTotals.lean).
  GIVEN WITH THE SEED: the statements are not yours to turn. If you find one false, say at which input.
  Laid BY PROGRAM, IN A SANDBOX (cutbox-rows.mjs): the forced cells as the released guide's own fill.sh prints them over the translation f0d2e0cd2b307b82… (all of the seat's roots in one cut). By AI agents, Wed Nov 11 2026. No macro, syntax, notation, axiom, sorry.
-/
import Derived.Test.YtaocojognonkcaaChecked
import GoSem.Claim
import GoSem.ClaimJoined
import GoSem.ClaimMapViews
import Derived.JoinedTies
import Derived.KernelRfl
namespace Go.Proofs.Ytaocojognonkcaa
/- THE CELL 'sum', in the pinned program and in every row, IS THE sha256 OF THE DUMP (.gsa) THAT YtaocojognonkcaaProg.lean LOADS. Nothing in Lean hashes anything: it is a label: what it is worth is what the hold of that sum in a sandbox is worth. -/
noncomputable def Try.pinned : Pinned := { name := "ytaocojognonkcaa", sum := "f0d2e0cd2b307b8260a80d2479e1e6d83b9d0af34e781ab30347572bb8adbb5a", checked := Try.checked }
namespace Rows
def none {H : Type} : Left H := { results := [], args := [] }

/-- 'laws.FnExactValidDeal': WHATEVER THE INPUT: true; the input reads as it did. -/
def fnExactValidDealSpec : ChangeSpec := { name := "fnExactValidDeal", fn := fun _ => fun
  | [d] => { results := [.lit (.bool true)], args := [d] }
  | _ => none }
def fnExactValidDealRow : OpenClaim := { program := "ytaocojognonkcaa", sum := "f0d2e0cd2b307b8260a80d2479e1e6d83b9d0af34e781ab30347572bb8adbb5a", func := "loop.example/g01263/laws.FnExactValidDeal", spec := "fnExactValidDeal", unfollowed := true, recurses := true, apart := false }
def FnExactValidDealSaid : Prop := fnExactValidDealRow.holds Try.pinned (OpenSpec.ofChange fnExactValidDealSpec)

/-- ITS FALSE NEIGHBOUR: 'it returns false'. Refute it at one input. -/
def fnExactValidDealWrong : ChangeSpec := { name := "fnExactValidDeal", fn := fun _ => fun
  | [d] => { results := [.lit (.bool false)], args := [d] }
  | _ => none }
def FnExactValidDealWrongFalsely : Prop := fnExactValidDealRow.holds Try.pinned (OpenSpec.ofChange fnExactValidDealWrong)

/-- 'laws.FnExactShareOut': WHATEVER THE INPUT: true; the input reads as it did. -/
def fnExactShareOutSpec : ChangeSpec := { name := "fnExactShareOut", fn := fun _ => fun
  | [d1, d2] => { results := [.lit (.bool true)], args := [d1, d2] }
  | _ => none }
def fnExactShareOutRow : OpenClaim := { program := "ytaocojognonkcaa", sum := "f0d2e0cd2b307b8260a80d2479e1e6d83b9d0af34e781ab30347572bb8adbb5a", func := "loop.example/g01263/laws.FnExactShareOut", spec := "fnExactShareOut", apart := false }
def FnExactShareOutSaid : Prop := fnExactShareOutRow.holds Try.pinned (OpenSpec.ofChange fnExactShareOutSpec)

/-- ITS FALSE NEIGHBOUR: 'it returns false'. Refute it at one input. -/
def fnExactShareOutWrong : ChangeSpec := { name := "fnExactShareOut", fn := fun _ => fun
  | [d1, d2] => { results := [.lit (.bool false)], args := [d1, d2] }
  | _ => none }
def FnExactShareOutWrongFalsely : Prop := fnExactShareOutRow.holds Try.pinned (OpenSpec.ofChange fnExactShareOutWrong)

/-- 'laws.FnExactValidParties': WHATEVER THE INPUT: true; the input reads as it did. -/
def fnExactValidPartiesSpec : ChangeSpec := { name := "fnExactValidParties", fn := fun _ => fun
  | [d] => { results := [.lit (.bool true)], args := [d] }
  | _ => none }
def fnExactValidPartiesRow : OpenClaim := { program := "ytaocojognonkcaa", sum := "f0d2e0cd2b307b8260a80d2479e1e6d83b9d0af34e781ab30347572bb8adbb5a", func := "loop.example/g01263/laws.FnExactValidParties", spec := "fnExactValidParties", unfollowed := true, recurses := true, apart := false }
def FnExactValidPartiesSaid : Prop := fnExactValidPartiesRow.holds Try.pinned (OpenSpec.ofChange fnExactValidPartiesSpec)

/-- ITS FALSE NEIGHBOUR: 'it returns false'. Refute it at one input. -/
def fnExactValidPartiesWrong : ChangeSpec := { name := "fnExactValidParties", fn := fun _ => fun
  | [d] => { results := [.lit (.bool false)], args := [d] }
  | _ => none }
def FnExactValidPartiesWrongFalsely : Prop := fnExactValidPartiesRow.holds Try.pinned (OpenSpec.ofChange fnExactValidPartiesWrong)

/-- 'laws.FnExactFindParty': WHATEVER THE INPUT: true; the input reads as it did. -/
def fnExactFindPartySpec : ChangeSpec := { name := "fnExactFindParty", fn := fun _ => fun
  | [d1, d2] => { results := [.lit (.bool true)], args := [d1, d2] }
  | _ => none }
def fnExactFindPartyRow : OpenClaim := { program := "ytaocojognonkcaa", sum := "f0d2e0cd2b307b8260a80d2479e1e6d83b9d0af34e781ab30347572bb8adbb5a", func := "loop.example/g01263/laws.FnExactFindParty", spec := "fnExactFindParty", unfollowed := true, recurses := true, apart := false }
def FnExactFindPartySaid : Prop := fnExactFindPartyRow.holds Try.pinned (OpenSpec.ofChange fnExactFindPartySpec)

/-- ITS FALSE NEIGHBOUR: 'it returns false'. Refute it at one input. -/
def fnExactFindPartyWrong : ChangeSpec := { name := "fnExactFindParty", fn := fun _ => fun
  | [d1, d2] => { results := [.lit (.bool false)], args := [d1, d2] }
  | _ => none }
def FnExactFindPartyWrongFalsely : Prop := fnExactFindPartyRow.holds Try.pinned (OpenSpec.ofChange fnExactFindPartyWrong)

/-- 'laws.FnExactSameBook': WHATEVER THE INPUT: true; the input reads as it did. -/
def fnExactSameBookSpec : ChangeSpec := { name := "fnExactSameBook", fn := fun _ => fun
  | [d1, d2] => { results := [.lit (.bool true)], args := [d1, d2] }
  | _ => none }
def fnExactSameBookRow : OpenClaim := { program := "ytaocojognonkcaa", sum := "f0d2e0cd2b307b8260a80d2479e1e6d83b9d0af34e781ab30347572bb8adbb5a", func := "loop.example/g01263/laws.FnExactSameBook", spec := "fnExactSameBook", apart := false }
def FnExactSameBookSaid : Prop := fnExactSameBookRow.holds Try.pinned (OpenSpec.ofChange fnExactSameBookSpec)

/-- ITS FALSE NEIGHBOUR: 'it returns false'. Refute it at one input. -/
def fnExactSameBookWrong : ChangeSpec := { name := "fnExactSameBook", fn := fun _ => fun
  | [d1, d2] => { results := [.lit (.bool false)], args := [d1, d2] }
  | _ => none }
def FnExactSameBookWrongFalsely : Prop := fnExactSameBookRow.holds Try.pinned (OpenSpec.ofChange fnExactSameBookWrong)

/-- 'laws.FnExactValidBook': WHATEVER THE INPUT: true; the input reads as it did. -/
def fnExactValidBookSpec : ChangeSpec := { name := "fnExactValidBook", fn := fun _ => fun
  | [d] => { results := [.lit (.bool true)], args := [d] }
  | _ => none }
def fnExactValidBookRow : OpenClaim := { program := "ytaocojognonkcaa", sum := "f0d2e0cd2b307b8260a80d2479e1e6d83b9d0af34e781ab30347572bb8adbb5a", func := "loop.example/g01263/laws.FnExactValidBook", spec := "fnExactValidBook", apart := false }
def FnExactValidBookSaid : Prop := fnExactValidBookRow.holds Try.pinned (OpenSpec.ofChange fnExactValidBookSpec)

/-- ITS FALSE NEIGHBOUR: 'it returns false'. Refute it at one input. -/
def fnExactValidBookWrong : ChangeSpec := { name := "fnExactValidBook", fn := fun _ => fun
  | [d] => { results := [.lit (.bool false)], args := [d] }
  | _ => none }
def FnExactValidBookWrongFalsely : Prop := fnExactValidBookRow.holds Try.pinned (OpenSpec.ofChange fnExactValidBookWrong)

/- THE SECOND FORM. 'bulk': how many values and letters a reading holds, each counted each time it is reached (what is shared counts as often as it is met; a slice's spare places count too). A statement '..UptoSaid' is the law's where the arguments, and the package variables that the reading takes, are together of bulk at most 1048576: NARROWER than '..Said'. Prove '..Said' where nothing that the law and all that it calls make is longer than what came in: it says more and counts as full. Else prove '..UptoSaid'. A law counts once. -/
mutual
def uptoBulk {H : Type} : DataW H → Nat
  | .lit (.string bytes) => bytes.length + 1
  | .lit _ => 1
  | .nil => 1
  | .ptr d => uptoBulk d + 1
  | .slice elems spare => uptoBulkAll elems + uptoBulkAll spare + 1
  | .agg parts => uptoBulkAll parts + 1
  | .iface _ d => uptoBulk d + 1
  | .map entries => uptoBulkEntries entries + 1
  | .held _ => 1
def uptoBulkAll {H : Type} : List (DataW H) → Nat
  | [] => 0
  | d :: r => uptoBulk d + uptoBulkAll r
def uptoBulkEntries {H : Type} : List (Lit × DataW H) → Nat
  | [] => 0
  | x :: r => uptoBulkEntry x + uptoBulkEntries r
def uptoBulkEntry {H : Type} : Lit × DataW H → Nat
  | (.string bytes, d) => bytes.length + uptoBulk d + 1
  | (_, d) => uptoBulk d + 1
 end
def uptoSmall : (H : Type) → List (DataW H) → Bool := fun _ ds => decide (uptoBulkAll ds ≤ 1048576)
def OpenSpec.upto (s : _root_.Go.ChangeSpec) : _root_.Go.OpenSpec := { _root_.Go.OpenSpec.ofChange s with cond := some uptoSmall }

/-- 'laws.FnExactValidDeal', WHERE WHAT IT READS IS OF BULK AT MOST 1048576: true; the input reads as it did. -/
def fnExactValidDealUptoRow : OpenClaim := { program := "ytaocojognonkcaa", sum := "f0d2e0cd2b307b8260a80d2479e1e6d83b9d0af34e781ab30347572bb8adbb5a", func := "loop.example/g01263/laws.FnExactValidDeal", spec := "fnExactValidDeal", unfollowed := true, recurses := true, apart := false, narrowed := true }
def FnExactValidDealUptoSaid : Prop := fnExactValidDealUptoRow.holds Try.pinned (OpenSpec.upto fnExactValidDealSpec)

/-- 'laws.FnExactShareOut', WHERE WHAT IT READS IS OF BULK AT MOST 1048576: true; the input reads as it did. -/
def fnExactShareOutUptoRow : OpenClaim := { program := "ytaocojognonkcaa", sum := "f0d2e0cd2b307b8260a80d2479e1e6d83b9d0af34e781ab30347572bb8adbb5a", func := "loop.example/g01263/laws.FnExactShareOut", spec := "fnExactShareOut", apart := false, narrowed := true }
def FnExactShareOutUptoSaid : Prop := fnExactShareOutUptoRow.holds Try.pinned (OpenSpec.upto fnExactShareOutSpec)

/-- 'laws.FnExactValidParties', WHERE WHAT IT READS IS OF BULK AT MOST 1048576: true; the input reads as it did. -/
def fnExactValidPartiesUptoRow : OpenClaim := { program := "ytaocojognonkcaa", sum := "f0d2e0cd2b307b8260a80d2479e1e6d83b9d0af34e781ab30347572bb8adbb5a", func := "loop.example/g01263/laws.FnExactValidParties", spec := "fnExactValidParties", unfollowed := true, recurses := true, apart := false, narrowed := true }
def FnExactValidPartiesUptoSaid : Prop := fnExactValidPartiesUptoRow.holds Try.pinned (OpenSpec.upto fnExactValidPartiesSpec)

/-- 'laws.FnExactFindParty', WHERE WHAT IT READS IS OF BULK AT MOST 1048576: true; the input reads as it did. -/
def fnExactFindPartyUptoRow : OpenClaim := { program := "ytaocojognonkcaa", sum := "f0d2e0cd2b307b8260a80d2479e1e6d83b9d0af34e781ab30347572bb8adbb5a", func := "loop.example/g01263/laws.FnExactFindParty", spec := "fnExactFindParty", unfollowed := true, recurses := true, apart := false, narrowed := true }
def FnExactFindPartyUptoSaid : Prop := fnExactFindPartyUptoRow.holds Try.pinned (OpenSpec.upto fnExactFindPartySpec)

/-- 'laws.FnExactSameBook', WHERE WHAT IT READS IS OF BULK AT MOST 1048576: true; the input reads as it did. -/
def fnExactSameBookUptoRow : OpenClaim := { program := "ytaocojognonkcaa", sum := "f0d2e0cd2b307b8260a80d2479e1e6d83b9d0af34e781ab30347572bb8adbb5a", func := "loop.example/g01263/laws.FnExactSameBook", spec := "fnExactSameBook", apart := false, narrowed := true }
def FnExactSameBookUptoSaid : Prop := fnExactSameBookUptoRow.holds Try.pinned (OpenSpec.upto fnExactSameBookSpec)

/-- 'laws.FnExactValidBook', WHERE WHAT IT READS IS OF BULK AT MOST 1048576: true; the input reads as it did. -/
def fnExactValidBookUptoRow : OpenClaim := { program := "ytaocojognonkcaa", sum := "f0d2e0cd2b307b8260a80d2479e1e6d83b9d0af34e781ab30347572bb8adbb5a", func := "loop.example/g01263/laws.FnExactValidBook", spec := "fnExactValidBook", apart := false, narrowed := true }
def FnExactValidBookUptoSaid : Prop := fnExactValidBookUptoRow.holds Try.pinned (OpenSpec.upto fnExactValidBookSpec)

end Rows
end Go.Proofs.Ytaocojognonkcaa

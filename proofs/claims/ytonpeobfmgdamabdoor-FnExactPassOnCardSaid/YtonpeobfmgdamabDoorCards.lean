/-
  DERIVED. GIVEN WITH THE SEED: THE CARDS: each row of YtonpeobfmgdamabDoorRows.lean that lists a variable, with what it lists TIED to the program's text (the seventh form; the later family's looks); each row that meets fmt, with fmt's text TOLD by the authors' own Lean function (tested against real Go, not proved from fmt's source: count such statements apart). THE CARD IS WHAT COUNTS. Prove the row's statement (the work); the ties are given (YtonpeobfmgdamabDoorTie.lean); close each card by the builder's one call (the guide's Derived/Test/ToyasCard.lean, 'card_holds'). Laid BY PROGRAM, IN A SANDBOX (cutbox-door.mjs). By AI agents, Wed Nov 11 2026. No macro, syntax, notation, axiom, sorry.
-/
import Derived.Test.YtonpeobfmgdamabDoorRows
import GoSem.ClaimSeven
namespace Go.Proofs.YtonpeobfmgdamabDoor
namespace Rows

/-- THE TIED CARD OF 'laws.FnTwice'. -/
def fnTwiceCard : Claim7 := { stood := { row := fnTwiceRow, standIns := [], harness := (true, "765e44feece0a97afc1d4b2e46b3b2654b4716cbe04e21668d9a8da33ba98376"), looks := false }, kinds := [], alts := [], laidByText := true, laidKinds := [.data, .data, .data], laidTests := true, laidLooks := .later }
def FnTwiceCardSaid : Prop := Claim7.holds Tryd.pinned (.plain (OpenSpec.ofChange fnTwiceSpec)) fnTwiceCard

/-- THE TIED CARD OF 'laws.FnExactPassOn'. -/
def fnExactPassOnCard : Claim7 := { stood := { row := fnExactPassOnRow, standIns := [], harness := (true, "765e44feece0a97afc1d4b2e46b3b2654b4716cbe04e21668d9a8da33ba98376"), looks := false }, kinds := [], alts := [], laidByText := true, laidKinds := [.data, .data, .data], laidTests := true, laidLooks := .later }
def FnExactPassOnCardSaid : Prop := Claim7.holds Tryd.pinned (.plain (OpenSpec.ofChange fnExactPassOnSpec)) fnExactPassOnCard

/-- THE SECOND FORM's CARD OF 'laws.FnTwice'. -/
def fnTwiceUptoCard : Claim7 := { stood := { row := fnTwiceUptoRow, standIns := [], harness := (true, "765e44feece0a97afc1d4b2e46b3b2654b4716cbe04e21668d9a8da33ba98376"), looks := false }, kinds := [], alts := [], laidByText := true, laidKinds := [.data, .data, .data], laidTests := true, laidLooks := .later }
def FnTwiceUptoCardSaid : Prop := Claim7.holds Tryd.pinned (.plain (OpenSpec.upto fnTwiceSpec)) fnTwiceUptoCard

/-- THE SECOND FORM's CARD OF 'laws.FnExactPassOn'. -/
def fnExactPassOnUptoCard : Claim7 := { stood := { row := fnExactPassOnUptoRow, standIns := [], harness := (true, "765e44feece0a97afc1d4b2e46b3b2654b4716cbe04e21668d9a8da33ba98376"), looks := false }, kinds := [], alts := [], laidByText := true, laidKinds := [.data, .data, .data], laidTests := true, laidLooks := .later }
def FnExactPassOnUptoCardSaid : Prop := Claim7.holds Tryd.pinned (.plain (OpenSpec.upto fnExactPassOnSpec)) fnExactPassOnUptoCard
end Rows
end Go.Proofs.YtonpeobfmgdamabDoor

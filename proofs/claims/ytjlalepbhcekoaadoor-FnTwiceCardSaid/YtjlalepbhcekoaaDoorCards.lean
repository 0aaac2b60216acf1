/-
  DERIVED. GIVEN WITH THE SEED: THE CARDS: each row of YtjlalepbhcekoaaDoorRows.lean that lists a variable, with what it lists TIED to the program's text (the seventh form; the later family's looks); each row that meets fmt, with fmt's text TOLD by the authors' own Lean function (tested against real Go, not proved from fmt's source: count such statements apart). THE CARD IS WHAT COUNTS. Prove the row's statement (the work); the ties are given (YtjlalepbhcekoaaDoorTie.lean); close each card by the builder's one call (the guide's Derived/Test/ToyasCard.lean, 'card_holds'). Laid BY PROGRAM, IN A SANDBOX (cutbox-door.mjs). By AI agents, Wed Nov 11 2026. No macro, syntax, notation, axiom, sorry.
-/
import Derived.Test.YtjlalepbhcekoaaDoorRows
import GoSem.ClaimSeven
namespace Go.Proofs.YtjlalepbhcekoaaDoor
namespace Rows

/-- THE TIED CARD OF 'laws.FnAccounts'. -/
def fnAccountsCard : Claim7 := { stood := { row := fnAccountsRow, standIns := [], harness := (true, "530b010c93b624494c26544b6b0d844cd5d8a386b1a348d94f980c0c2dca852b"), looks := false }, kinds := [], alts := [], laidByText := true, laidKinds := [.data, .data, .data, .data, .pinned], laidTests := true, laidLooks := .later }
def FnAccountsCardSaid : Prop := Claim7.holds Tryd.pinned (.plain (OpenSpec.ofChange fnAccountsSpec)) fnAccountsCard

/-- THE TIED CARD OF 'laws.FnTwice'. -/
def fnTwiceCard : Claim7 := { stood := { row := fnTwiceRow, standIns := [], harness := (true, "530b010c93b624494c26544b6b0d844cd5d8a386b1a348d94f980c0c2dca852b"), looks := false }, kinds := [], alts := [], laidByText := true, laidKinds := [.data, .data, .data], laidTests := true, laidLooks := .later }
def FnTwiceCardSaid : Prop := Claim7.holds Tryd.pinned (.plain (OpenSpec.ofChange fnTwiceSpec)) fnTwiceCard

/-- THE TIED CARD OF 'laws.FnRolls'. -/
def fnRollsCard : Claim7 := { stood := { row := fnRollsRow, standIns := [], harness := (true, "530b010c93b624494c26544b6b0d844cd5d8a386b1a348d94f980c0c2dca852b"), looks := false }, kinds := [], alts := [], laidByText := true, laidKinds := [.data, .data, .data, .data, .pinned], laidTests := true, laidLooks := .later }
def FnRollsCardSaid : Prop := Claim7.holds Tryd.pinned (.plain (OpenSpec.ofChange fnRollsSpec)) fnRollsCard

/-- THE SECOND FORM's CARD OF 'laws.FnAccounts'. -/
def fnAccountsUptoCard : Claim7 := { stood := { row := fnAccountsUptoRow, standIns := [], harness := (true, "530b010c93b624494c26544b6b0d844cd5d8a386b1a348d94f980c0c2dca852b"), looks := false }, kinds := [], alts := [], laidByText := true, laidKinds := [.data, .data, .data, .data, .pinned], laidTests := true, laidLooks := .later }
def FnAccountsUptoCardSaid : Prop := Claim7.holds Tryd.pinned (.plain (OpenSpec.upto fnAccountsSpec)) fnAccountsUptoCard

/-- THE SECOND FORM's CARD OF 'laws.FnTwice'. -/
def fnTwiceUptoCard : Claim7 := { stood := { row := fnTwiceUptoRow, standIns := [], harness := (true, "530b010c93b624494c26544b6b0d844cd5d8a386b1a348d94f980c0c2dca852b"), looks := false }, kinds := [], alts := [], laidByText := true, laidKinds := [.data, .data, .data], laidTests := true, laidLooks := .later }
def FnTwiceUptoCardSaid : Prop := Claim7.holds Tryd.pinned (.plain (OpenSpec.upto fnTwiceSpec)) fnTwiceUptoCard

/-- THE SECOND FORM's CARD OF 'laws.FnRolls'. -/
def fnRollsUptoCard : Claim7 := { stood := { row := fnRollsUptoRow, standIns := [], harness := (true, "530b010c93b624494c26544b6b0d844cd5d8a386b1a348d94f980c0c2dca852b"), looks := false }, kinds := [], alts := [], laidByText := true, laidKinds := [.data, .data, .data, .data, .pinned], laidTests := true, laidLooks := .later }
def FnRollsUptoCardSaid : Prop := Claim7.holds Tryd.pinned (.plain (OpenSpec.upto fnRollsSpec)) fnRollsUptoCard
end Rows
end Go.Proofs.YtjlalepbhcekoaaDoor

/-
  DERIVED. GIVEN WITH THE SEED: THE CARDS: each row of YtkkmbehooldmjaaDoorRows.lean that lists a variable, with what it lists TIED to the program's text (the seventh form; the later family's looks); each row that meets fmt, with fmt's text TOLD by the authors' own Lean function (tested against real Go, not proved from fmt's source: count such statements apart). THE CARD IS WHAT COUNTS. Prove the row's statement (the work); the ties are given (YtkkmbehooldmjaaDoorTie.lean); close each card by the builder's one call (the guide's Derived/Test/ToyasCard.lean, 'card_holds'). Laid BY PROGRAM, IN A SANDBOX (cutbox-door.mjs). By AI agents, Wed Nov 11 2026. No macro, syntax, notation, axiom, sorry.
-/
import Derived.Test.YtkkmbehooldmjaaDoorRows
import GoSem.ClaimSeven
namespace Go.Proofs.YtkkmbehooldmjaaDoor
namespace Rows

/-- THE TIED CARD OF 'laws.FnExactDealsText'. -/
def fnExactDealsTextCard : Claim7 := { stood := { row := fnExactDealsTextRow, standIns := [], harness := (true, "a8b2665d8c766664dc740f6536295f55ce1c17934095ff651b1d43d55429cd73"), looks := false }, kinds := [], alts := [], laidByText := true, laidKinds := [.data, .data, .data], laidTests := true, laidLooks := .later }
def FnExactDealsTextCardSaid : Prop := Claim7.holds Tryd.pinned (.plain (OpenSpec.ofChange fnExactDealsTextSpec)) fnExactDealsTextCard

/-- THE SECOND FORM's CARD OF 'laws.FnExactDealsText'. -/
def fnExactDealsTextUptoCard : Claim7 := { stood := { row := fnExactDealsTextUptoRow, standIns := [], harness := (true, "a8b2665d8c766664dc740f6536295f55ce1c17934095ff651b1d43d55429cd73"), looks := false }, kinds := [], alts := [], laidByText := true, laidKinds := [.data, .data, .data], laidTests := true, laidLooks := .later }
def FnExactDealsTextUptoCardSaid : Prop := Claim7.holds Tryd.pinned (.plain (OpenSpec.upto fnExactDealsTextSpec)) fnExactDealsTextUptoCard
end Rows
end Go.Proofs.YtkkmbehooldmjaaDoor

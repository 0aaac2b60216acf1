/-
  DERIVED. GIVEN WITH THE SEED: THE CARDS: each row of YtonpeobfmgdamaaDoorRows.lean that lists a variable, with what it lists TIED to the program's text (the seventh form; the later family's looks); each row that meets fmt, with fmt's text TOLD by the authors' own Lean function (tested against real Go, not proved from fmt's source: count such statements apart). THE CARD IS WHAT COUNTS. Prove the row's statement (the work); the ties are given (YtonpeobfmgdamaaDoorTie.lean); close each card by the builder's one call (the guide's Derived/Test/ToyasCard.lean, 'card_holds'). Laid BY PROGRAM, IN A SANDBOX (cutbox-door.mjs). By AI agents, Wed Nov 11 2026. No macro, syntax, notation, axiom, sorry.
-/
import Derived.Test.YtonpeobfmgdamaaDoorRows
import GoSem.ClaimSeven
namespace Go.Proofs.YtonpeobfmgdamaaDoor
namespace Rows

/-- THE TIED CARD OF 'laws.FnExactSealOf'. -/
def fnExactSealOfCard : Claim7 := { stood := { row := fnExactSealOfRow, standIns := [], harness := (true, "60e6410162c165da480484ea81d64d81f87152a73bce713a9ed509a34dc94e4d"), looks := false }, kinds := [], alts := [], laidByText := true, laidKinds := [.data, .data, .data], laidTests := true, laidLooks := .later }
def FnExactSealOfCardSaid : Prop := Claim7.holds Tryd.pinned (.plain (OpenSpec.ofChange fnExactSealOfSpec)) fnExactSealOfCard

/-- THE TIED CARD OF 'laws.FnExactStartChain'. -/
def fnExactStartChainCard : Claim7 := { stood := { row := fnExactStartChainRow, standIns := [], harness := (true, "60e6410162c165da480484ea81d64d81f87152a73bce713a9ed509a34dc94e4d"), looks := false }, kinds := [], alts := [], laidByText := true, laidKinds := [.data, .data, .data], laidTests := true, laidLooks := .later }
def FnExactStartChainCardSaid : Prop := Claim7.holds Tryd.pinned (.plain (OpenSpec.ofChange fnExactStartChainSpec)) fnExactStartChainCard

/-- THE TIED CARD OF 'laws.FnExactCheckChain'. -/
def fnExactCheckChainCard : Claim7 := { stood := { row := fnExactCheckChainRow, standIns := [], harness := (true, "60e6410162c165da480484ea81d64d81f87152a73bce713a9ed509a34dc94e4d"), looks := false }, kinds := [], alts := [], laidByText := true, laidKinds := [.data, .data, .data], laidTests := true, laidLooks := .later }
def FnExactCheckChainCardSaid : Prop := Claim7.holds Tryd.pinned (.plain (OpenSpec.ofChange fnExactCheckChainSpec)) fnExactCheckChainCard

/-- THE SECOND FORM's CARD OF 'laws.FnExactSealOf'. -/
def fnExactSealOfUptoCard : Claim7 := { stood := { row := fnExactSealOfUptoRow, standIns := [], harness := (true, "60e6410162c165da480484ea81d64d81f87152a73bce713a9ed509a34dc94e4d"), looks := false }, kinds := [], alts := [], laidByText := true, laidKinds := [.data, .data, .data], laidTests := true, laidLooks := .later }
def FnExactSealOfUptoCardSaid : Prop := Claim7.holds Tryd.pinned (.plain (OpenSpec.upto fnExactSealOfSpec)) fnExactSealOfUptoCard

/-- THE SECOND FORM's CARD OF 'laws.FnExactStartChain'. -/
def fnExactStartChainUptoCard : Claim7 := { stood := { row := fnExactStartChainUptoRow, standIns := [], harness := (true, "60e6410162c165da480484ea81d64d81f87152a73bce713a9ed509a34dc94e4d"), looks := false }, kinds := [], alts := [], laidByText := true, laidKinds := [.data, .data, .data], laidTests := true, laidLooks := .later }
def FnExactStartChainUptoCardSaid : Prop := Claim7.holds Tryd.pinned (.plain (OpenSpec.upto fnExactStartChainSpec)) fnExactStartChainUptoCard

/-- THE SECOND FORM's CARD OF 'laws.FnExactCheckChain'. -/
def fnExactCheckChainUptoCard : Claim7 := { stood := { row := fnExactCheckChainUptoRow, standIns := [], harness := (true, "60e6410162c165da480484ea81d64d81f87152a73bce713a9ed509a34dc94e4d"), looks := false }, kinds := [], alts := [], laidByText := true, laidKinds := [.data, .data, .data], laidTests := true, laidLooks := .later }
def FnExactCheckChainUptoCardSaid : Prop := Claim7.holds Tryd.pinned (.plain (OpenSpec.upto fnExactCheckChainSpec)) fnExactCheckChainUptoCard
end Rows
end Go.Proofs.YtonpeobfmgdamaaDoor

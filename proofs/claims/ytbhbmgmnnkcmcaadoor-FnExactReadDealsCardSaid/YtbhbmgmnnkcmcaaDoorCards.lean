/-
  DERIVED. GIVEN WITH THE SEED: THE CARDS: each row of YtbhbmgmnnkcmcaaDoorRows.lean that lists a variable, with what it lists TIED to the program's text (the seventh form; the later family's looks); each row that meets fmt, with fmt's text TOLD by the authors' own Lean function (tested against real Go, not proved from fmt's source: count such statements apart). THE CARD IS WHAT COUNTS. Prove the row's statement (the work); the ties are given (YtbhbmgmnnkcmcaaDoorTie.lean); close each card by the builder's one call (the guide's Derived/Test/ToyasCard.lean, 'card_holds'). Laid BY PROGRAM, IN A SANDBOX (cutbox-door.mjs). By AI agents, Wed Nov 11 2026. No macro, syntax, notation, axiom, sorry.
-/
import Derived.Test.YtbhbmgmnnkcmcaaDoorRows
import GoSem.ClaimSeven
namespace Go.Proofs.YtbhbmgmnnkcmcaaDoor
namespace Rows

/-- THE TIED CARD OF 'laws.FnExactAccountText'. -/
def fnExactAccountTextCard : Claim7 := { stood := { row := fnExactAccountTextRow, standIns := [], harness := (true, "531bd1badf9109d097f93b48088944e58386fc37538869dc7687b4cb8d9f15c5"), looks := false }, kinds := [], alts := [], laidByText := true, laidKinds := [.data, .data, .data], laidTests := true, laidLooks := .later }
def FnExactAccountTextCardSaid : Prop := Claim7.holds Tryd.pinned (.plain (OpenSpec.ofChange fnExactAccountTextSpec)) fnExactAccountTextCard

/-- THE TIED CARD OF 'laws.FnExactRollText'. -/
def fnExactRollTextCard : Claim7 := { stood := { row := fnExactRollTextRow, standIns := [], harness := (true, "531bd1badf9109d097f93b48088944e58386fc37538869dc7687b4cb8d9f15c5"), looks := false }, kinds := [], alts := [], laidByText := true, laidKinds := [.data, .data, .data], laidTests := true, laidLooks := .later }
def FnExactRollTextCardSaid : Prop := Claim7.holds Tryd.pinned (.plain (OpenSpec.ofChange fnExactRollTextSpec)) fnExactRollTextCard

/-- THE TIED CARD OF 'laws.FnExactChainText'. -/
def fnExactChainTextCard : Claim7 := { stood := { row := fnExactChainTextRow, standIns := [], harness := (true, "531bd1badf9109d097f93b48088944e58386fc37538869dc7687b4cb8d9f15c5"), looks := false }, kinds := [], alts := [], laidByText := true, laidKinds := [.data, .data, .data], laidTests := true, laidLooks := .later }
def FnExactChainTextCardSaid : Prop := Claim7.holds Tryd.pinned (.plain (OpenSpec.ofChange fnExactChainTextSpec)) fnExactChainTextCard

/-- THE TIED CARD OF 'laws.FnExactReadAccount'. -/
def fnExactReadAccountCard : Claim7 := { stood := { row := fnExactReadAccountRow, standIns := [], harness := (true, "531bd1badf9109d097f93b48088944e58386fc37538869dc7687b4cb8d9f15c5"), looks := false }, kinds := [], alts := [], laidByText := true, laidKinds := [.data, .data, .data, .data, .pinned], laidTests := true, laidLooks := .later }
def FnExactReadAccountCardSaid : Prop := Claim7.holds Tryd.pinned (.plain (OpenSpec.ofChange fnExactReadAccountSpec)) fnExactReadAccountCard

/-- THE TIED CARD OF 'laws.FnExactReadChain'. -/
def fnExactReadChainCard : Claim7 := { stood := { row := fnExactReadChainRow, standIns := [], harness := (true, "531bd1badf9109d097f93b48088944e58386fc37538869dc7687b4cb8d9f15c5"), looks := false }, kinds := [], alts := [], laidByText := true, laidKinds := [.data, .pinned], laidTests := true, laidLooks := .later }
def FnExactReadChainCardSaid : Prop := Claim7.holds Tryd.pinned (.plain (OpenSpec.ofChange fnExactReadChainSpec)) fnExactReadChainCard

/-- THE TIED CARD OF 'laws.FnExactReadDeals'. -/
def fnExactReadDealsCard : Claim7 := { stood := { row := fnExactReadDealsRow, standIns := [], harness := (true, "531bd1badf9109d097f93b48088944e58386fc37538869dc7687b4cb8d9f15c5"), looks := false }, kinds := [], alts := [], laidByText := true, laidKinds := [.data, .data, .data, .data, .pinned], laidTests := true, laidLooks := .later }
def FnExactReadDealsCardSaid : Prop := Claim7.holds Tryd.pinned (.plain (OpenSpec.ofChange fnExactReadDealsSpec)) fnExactReadDealsCard

/-- THE SECOND FORM's CARD OF 'laws.FnExactAccountText'. -/
def fnExactAccountTextUptoCard : Claim7 := { stood := { row := fnExactAccountTextUptoRow, standIns := [], harness := (true, "531bd1badf9109d097f93b48088944e58386fc37538869dc7687b4cb8d9f15c5"), looks := false }, kinds := [], alts := [], laidByText := true, laidKinds := [.data, .data, .data], laidTests := true, laidLooks := .later }
def FnExactAccountTextUptoCardSaid : Prop := Claim7.holds Tryd.pinned (.plain (OpenSpec.upto fnExactAccountTextSpec)) fnExactAccountTextUptoCard

/-- THE SECOND FORM's CARD OF 'laws.FnExactRollText'. -/
def fnExactRollTextUptoCard : Claim7 := { stood := { row := fnExactRollTextUptoRow, standIns := [], harness := (true, "531bd1badf9109d097f93b48088944e58386fc37538869dc7687b4cb8d9f15c5"), looks := false }, kinds := [], alts := [], laidByText := true, laidKinds := [.data, .data, .data], laidTests := true, laidLooks := .later }
def FnExactRollTextUptoCardSaid : Prop := Claim7.holds Tryd.pinned (.plain (OpenSpec.upto fnExactRollTextSpec)) fnExactRollTextUptoCard

/-- THE SECOND FORM's CARD OF 'laws.FnExactChainText'. -/
def fnExactChainTextUptoCard : Claim7 := { stood := { row := fnExactChainTextUptoRow, standIns := [], harness := (true, "531bd1badf9109d097f93b48088944e58386fc37538869dc7687b4cb8d9f15c5"), looks := false }, kinds := [], alts := [], laidByText := true, laidKinds := [.data, .data, .data], laidTests := true, laidLooks := .later }
def FnExactChainTextUptoCardSaid : Prop := Claim7.holds Tryd.pinned (.plain (OpenSpec.upto fnExactChainTextSpec)) fnExactChainTextUptoCard

/-- THE SECOND FORM's CARD OF 'laws.FnExactReadAccount'. -/
def fnExactReadAccountUptoCard : Claim7 := { stood := { row := fnExactReadAccountUptoRow, standIns := [], harness := (true, "531bd1badf9109d097f93b48088944e58386fc37538869dc7687b4cb8d9f15c5"), looks := false }, kinds := [], alts := [], laidByText := true, laidKinds := [.data, .data, .data, .data, .pinned], laidTests := true, laidLooks := .later }
def FnExactReadAccountUptoCardSaid : Prop := Claim7.holds Tryd.pinned (.plain (OpenSpec.upto fnExactReadAccountSpec)) fnExactReadAccountUptoCard

/-- THE SECOND FORM's CARD OF 'laws.FnExactReadChain'. -/
def fnExactReadChainUptoCard : Claim7 := { stood := { row := fnExactReadChainUptoRow, standIns := [], harness := (true, "531bd1badf9109d097f93b48088944e58386fc37538869dc7687b4cb8d9f15c5"), looks := false }, kinds := [], alts := [], laidByText := true, laidKinds := [.data, .pinned], laidTests := true, laidLooks := .later }
def FnExactReadChainUptoCardSaid : Prop := Claim7.holds Tryd.pinned (.plain (OpenSpec.upto fnExactReadChainSpec)) fnExactReadChainUptoCard

/-- THE SECOND FORM's CARD OF 'laws.FnExactReadDeals'. -/
def fnExactReadDealsUptoCard : Claim7 := { stood := { row := fnExactReadDealsUptoRow, standIns := [], harness := (true, "531bd1badf9109d097f93b48088944e58386fc37538869dc7687b4cb8d9f15c5"), looks := false }, kinds := [], alts := [], laidByText := true, laidKinds := [.data, .data, .data, .data, .pinned], laidTests := true, laidLooks := .later }
def FnExactReadDealsUptoCardSaid : Prop := Claim7.holds Tryd.pinned (.plain (OpenSpec.upto fnExactReadDealsSpec)) fnExactReadDealsUptoCard
end Rows
end Go.Proofs.YtbhbmgmnnkcmcaaDoor

/-
  DERIVED. GIVEN WITH THE SEED: THE CARDS: each row of YtlcpigkgbihebaaDoorRows.lean that lists a variable, with what it lists TIED to the program's text (the seventh form; the later family's looks); each row that meets fmt, with fmt's text TOLD by the authors' own Lean function (tested against real Go, not proved from fmt's source: count such statements apart). THE CARD IS WHAT COUNTS. Prove the row's statement (the work); the ties are given (YtlcpigkgbihebaaDoorTie.lean); close each card by the builder's one call (the guide's Derived/Test/ToyasCard.lean, 'card_holds'). Laid BY PROGRAM, IN A SANDBOX (cutbox-door.mjs). By AI agents, Wed Nov 11 2026. No macro, syntax, notation, axiom, sorry.
-/
import Derived.Test.YtlcpigkgbihebaaDoorRows
import GoSem.ClaimSeven
namespace Go.Proofs.YtlcpigkgbihebaaDoor
namespace Rows

/-- THE TIED CARD OF 'aviarylaw04.LabelParses'. -/
def labelParsesCard : Claim7 := { stood := { row := labelParsesRow, standIns := [], harness := (true, "2610007e7813a4b8ca0fd1346b161d4a2ff1389dacd556f5d421956741049365"), looks := true }, kinds := [], alts := [], laidByText := true, laidKinds := [.data, .pinned], laidTests := true, laidLooks := .later }
def LabelParsesCardSaid : Prop := Claim7.holds Tryd.pinned (.plain (OpenSpec.ofChange labelParsesSpec)) labelParsesCard

/-- THE TIED CARD OF 'aviarylaw04.LabelBack'. -/
def labelBackCard : Claim7 := { stood := { row := labelBackRow, standIns := [], harness := (true, "2610007e7813a4b8ca0fd1346b161d4a2ff1389dacd556f5d421956741049365"), looks := true }, kinds := [], alts := [], laidByText := true, laidKinds := [.data, .pinned], laidTests := true, laidLooks := .later }
def LabelBackCardSaid : Prop := Claim7.holds Tryd.pinned (.plain (OpenSpec.ofChange labelBackSpec)) labelBackCard

/-- THE TIED CARD OF 'aviarylaw04.LabelTurns'. -/
def labelTurnsCard : Claim7 := { stood := { row := labelTurnsRow, standIns := [], harness := (true, "2610007e7813a4b8ca0fd1346b161d4a2ff1389dacd556f5d421956741049365"), looks := true }, kinds := [], alts := [], laidByText := true, laidKinds := [.data, .pinned], laidTests := true, laidLooks := .later }
def LabelTurnsCardSaid : Prop := Claim7.holds Tryd.pinned (.plain (OpenSpec.ofChange labelTurnsSpec)) labelTurnsCard

/-- THE TIED CARD OF 'aviarylaw04.LabelRunes'. -/
def labelRunesCard : Claim7 := { stood := { row := labelRunesRow, standIns := [], harness := (true, "2610007e7813a4b8ca0fd1346b161d4a2ff1389dacd556f5d421956741049365"), looks := true }, kinds := [], alts := [], laidByText := true, laidKinds := [.data, .pinned], laidTests := true, laidLooks := .later }
def LabelRunesCardSaid : Prop := Claim7.holds Tryd.pinned (.plain (OpenSpec.ofChange labelRunesSpec)) labelRunesCard

/-- THE TIED CARD OF 'aviarylaw04.LabelTexts'. -/
def labelTextsCard : Claim7 := { stood := { row := labelTextsRow, standIns := [], harness := (true, "2610007e7813a4b8ca0fd1346b161d4a2ff1389dacd556f5d421956741049365"), looks := true }, kinds := [], alts := [], laidByText := true, laidKinds := [.data, .pinned], laidTests := true, laidLooks := .later }
def LabelTextsCardSaid : Prop := Claim7.holds Tryd.pinned (.plain (OpenSpec.ofChange labelTextsSpec)) labelTextsCard

/-- THE TIED CARD OF 'aviarylaw04.LabelGets'. -/
def labelGetsCard : Claim7 := { stood := { row := labelGetsRow, standIns := [], harness := (true, "2610007e7813a4b8ca0fd1346b161d4a2ff1389dacd556f5d421956741049365"), looks := true }, kinds := [], alts := [], laidByText := true, laidKinds := [.data, .pinned], laidTests := true, laidLooks := .later }
def LabelGetsCardSaid : Prop := Claim7.holds Tryd.pinned (.plain (OpenSpec.ofChange labelGetsSpec)) labelGetsCard

/-- THE TIED CARD OF 'aviarylaw04.LabelOrders'. -/
def labelOrdersCard : Claim7 := { stood := { row := labelOrdersRow, standIns := [], harness := (true, "2610007e7813a4b8ca0fd1346b161d4a2ff1389dacd556f5d421956741049365"), looks := true }, kinds := [], alts := [], laidByText := true, laidKinds := [.data, .pinned], laidTests := true, laidLooks := .later }
def LabelOrdersCardSaid : Prop := Claim7.holds Tryd.pinned (.plain (OpenSpec.ofChange labelOrdersSpec)) labelOrdersCard

/-- THE SECOND FORM's CARD OF 'aviarylaw04.LabelParses'. -/
def labelParsesUptoCard : Claim7 := { stood := { row := labelParsesUptoRow, standIns := [], harness := (true, "2610007e7813a4b8ca0fd1346b161d4a2ff1389dacd556f5d421956741049365"), looks := true }, kinds := [], alts := [], laidByText := true, laidKinds := [.data, .pinned], laidTests := true, laidLooks := .later }
def LabelParsesUptoCardSaid : Prop := Claim7.holds Tryd.pinned (.plain (OpenSpec.upto labelParsesSpec)) labelParsesUptoCard

/-- THE SECOND FORM's CARD OF 'aviarylaw04.LabelBack'. -/
def labelBackUptoCard : Claim7 := { stood := { row := labelBackUptoRow, standIns := [], harness := (true, "2610007e7813a4b8ca0fd1346b161d4a2ff1389dacd556f5d421956741049365"), looks := true }, kinds := [], alts := [], laidByText := true, laidKinds := [.data, .pinned], laidTests := true, laidLooks := .later }
def LabelBackUptoCardSaid : Prop := Claim7.holds Tryd.pinned (.plain (OpenSpec.upto labelBackSpec)) labelBackUptoCard

/-- THE SECOND FORM's CARD OF 'aviarylaw04.LabelTurns'. -/
def labelTurnsUptoCard : Claim7 := { stood := { row := labelTurnsUptoRow, standIns := [], harness := (true, "2610007e7813a4b8ca0fd1346b161d4a2ff1389dacd556f5d421956741049365"), looks := true }, kinds := [], alts := [], laidByText := true, laidKinds := [.data, .pinned], laidTests := true, laidLooks := .later }
def LabelTurnsUptoCardSaid : Prop := Claim7.holds Tryd.pinned (.plain (OpenSpec.upto labelTurnsSpec)) labelTurnsUptoCard

/-- THE SECOND FORM's CARD OF 'aviarylaw04.LabelRunes'. -/
def labelRunesUptoCard : Claim7 := { stood := { row := labelRunesUptoRow, standIns := [], harness := (true, "2610007e7813a4b8ca0fd1346b161d4a2ff1389dacd556f5d421956741049365"), looks := true }, kinds := [], alts := [], laidByText := true, laidKinds := [.data, .pinned], laidTests := true, laidLooks := .later }
def LabelRunesUptoCardSaid : Prop := Claim7.holds Tryd.pinned (.plain (OpenSpec.upto labelRunesSpec)) labelRunesUptoCard

/-- THE SECOND FORM's CARD OF 'aviarylaw04.LabelTexts'. -/
def labelTextsUptoCard : Claim7 := { stood := { row := labelTextsUptoRow, standIns := [], harness := (true, "2610007e7813a4b8ca0fd1346b161d4a2ff1389dacd556f5d421956741049365"), looks := true }, kinds := [], alts := [], laidByText := true, laidKinds := [.data, .pinned], laidTests := true, laidLooks := .later }
def LabelTextsUptoCardSaid : Prop := Claim7.holds Tryd.pinned (.plain (OpenSpec.upto labelTextsSpec)) labelTextsUptoCard

/-- THE SECOND FORM's CARD OF 'aviarylaw04.LabelGets'. -/
def labelGetsUptoCard : Claim7 := { stood := { row := labelGetsUptoRow, standIns := [], harness := (true, "2610007e7813a4b8ca0fd1346b161d4a2ff1389dacd556f5d421956741049365"), looks := true }, kinds := [], alts := [], laidByText := true, laidKinds := [.data, .pinned], laidTests := true, laidLooks := .later }
def LabelGetsUptoCardSaid : Prop := Claim7.holds Tryd.pinned (.plain (OpenSpec.upto labelGetsSpec)) labelGetsUptoCard

/-- THE SECOND FORM's CARD OF 'aviarylaw04.LabelOrders'. -/
def labelOrdersUptoCard : Claim7 := { stood := { row := labelOrdersUptoRow, standIns := [], harness := (true, "2610007e7813a4b8ca0fd1346b161d4a2ff1389dacd556f5d421956741049365"), looks := true }, kinds := [], alts := [], laidByText := true, laidKinds := [.data, .pinned], laidTests := true, laidLooks := .later }
def LabelOrdersUptoCardSaid : Prop := Claim7.holds Tryd.pinned (.plain (OpenSpec.upto labelOrdersSpec)) labelOrdersUptoCard
end Rows
end Go.Proofs.YtlcpigkgbihebaaDoor

/-
  DERIVED. GIVEN WITH THE SEED: THE CARDS: each row of YtfcnedcahoifoaaGreatDoorRows.lean that lists a variable, with what it lists TIED to the program's text (the seventh form; the later family's looks); each row that meets fmt, with fmt's text TOLD by the authors' own Lean function (tested against real Go, not proved from fmt's source: count such statements apart). THE CARD IS WHAT COUNTS. Prove the row's statement (the work); the ties are given (YtfcnedcahoifoaaGreatDoorTie.lean); close each card by the builder's one call (the guide's Derived/Test/ToyasCard.lean, 'card_holds'). Laid BY PROGRAM, IN A SANDBOX (cutbox-door.mjs). By AI agents, Wed Nov 11 2026. No macro, syntax, notation, axiom, sorry.
-/
import Derived.Test.YtfcnedcahoifoaaGreatDoorRows
import GoSem.ClaimSeven
namespace Go.Proofs.YtfcnedcahoifoaaGreatDoor
namespace Rows

/-- THE TIED CARD OF 'aviarytop.TopGrants'. -/
def topGrantsCard : Claim7 := { stood := { row := topGrantsRow, standIns := [], harness := (true, "590579a3bc5809b41440ab92f94bec5c18431ec64991877586c4a6a7da7d6eb2"), looks := true }, kinds := [], alts := [], laidByText := true, laidKinds := [.data, .handle, .pinned], laidTests := true, laidLooks := .later }
def TopGrantsCardSaid : Prop := Claim7.holds Tryz.pinned (.plain (OpenSpec.ofChange topGrantsSpec)) topGrantsCard

/-- THE TIED CARD OF 'aviarytop.TopRefuses'. -/
def topRefusesCard : Claim7 := { stood := { row := topRefusesRow, standIns := [], harness := (true, "590579a3bc5809b41440ab92f94bec5c18431ec64991877586c4a6a7da7d6eb2"), looks := true }, kinds := [], alts := [], laidByText := true, laidKinds := [.data, .handle, .pinned], laidTests := true, laidLooks := .later }
def TopRefusesCardSaid : Prop := Claim7.holds Tryz.pinned (.plain (OpenSpec.ofChange topRefusesSpec)) topRefusesCard

/-- THE TIED CARD OF 'aviarytop.TopUnion'. -/
def topUnionCard : Claim7 := { stood := { row := topUnionRow, standIns := [], harness := (true, "590579a3bc5809b41440ab92f94bec5c18431ec64991877586c4a6a7da7d6eb2"), looks := true }, kinds := [], alts := [], laidByText := true, laidKinds := [.data, .handle, .pinned], laidTests := true, laidLooks := .later }
def TopUnionCardSaid : Prop := Claim7.holds Tryz.pinned (.plain (OpenSpec.ofChange topUnionSpec)) topUnionCard

/-- THE TIED CARD OF 'aviarytop.TopRevoked'. -/
def topRevokedCard : Claim7 := { stood := { row := topRevokedRow, standIns := [], harness := (true, "590579a3bc5809b41440ab92f94bec5c18431ec64991877586c4a6a7da7d6eb2"), looks := true }, kinds := [], alts := [], laidByText := true, laidKinds := [.data, .handle, .pinned], laidTests := true, laidLooks := .later }
def TopRevokedCardSaid : Prop := Claim7.holds Tryz.pinned (.plain (OpenSpec.ofChange topRevokedSpec)) topRevokedCard

/-- THE SECOND FORM's CARD OF 'aviarytop.TopGrants'. -/
def topGrantsUptoCard : Claim7 := { stood := { row := topGrantsUptoRow, standIns := [], harness := (true, "590579a3bc5809b41440ab92f94bec5c18431ec64991877586c4a6a7da7d6eb2"), looks := true }, kinds := [], alts := [], laidByText := true, laidKinds := [.data, .handle, .pinned], laidTests := true, laidLooks := .later }
def TopGrantsUptoCardSaid : Prop := Claim7.holds Tryz.pinned (.plain (OpenSpec.upto topGrantsSpec)) topGrantsUptoCard

/-- THE SECOND FORM's CARD OF 'aviarytop.TopRefuses'. -/
def topRefusesUptoCard : Claim7 := { stood := { row := topRefusesUptoRow, standIns := [], harness := (true, "590579a3bc5809b41440ab92f94bec5c18431ec64991877586c4a6a7da7d6eb2"), looks := true }, kinds := [], alts := [], laidByText := true, laidKinds := [.data, .handle, .pinned], laidTests := true, laidLooks := .later }
def TopRefusesUptoCardSaid : Prop := Claim7.holds Tryz.pinned (.plain (OpenSpec.upto topRefusesSpec)) topRefusesUptoCard

/-- THE SECOND FORM's CARD OF 'aviarytop.TopUnion'. -/
def topUnionUptoCard : Claim7 := { stood := { row := topUnionUptoRow, standIns := [], harness := (true, "590579a3bc5809b41440ab92f94bec5c18431ec64991877586c4a6a7da7d6eb2"), looks := true }, kinds := [], alts := [], laidByText := true, laidKinds := [.data, .handle, .pinned], laidTests := true, laidLooks := .later }
def TopUnionUptoCardSaid : Prop := Claim7.holds Tryz.pinned (.plain (OpenSpec.upto topUnionSpec)) topUnionUptoCard

/-- THE SECOND FORM's CARD OF 'aviarytop.TopRevoked'. -/
def topRevokedUptoCard : Claim7 := { stood := { row := topRevokedUptoRow, standIns := [], harness := (true, "590579a3bc5809b41440ab92f94bec5c18431ec64991877586c4a6a7da7d6eb2"), looks := true }, kinds := [], alts := [], laidByText := true, laidKinds := [.data, .handle, .pinned], laidTests := true, laidLooks := .later }
def TopRevokedUptoCardSaid : Prop := Claim7.holds Tryz.pinned (.plain (OpenSpec.upto topRevokedSpec)) topRevokedUptoCard
end Rows
end Go.Proofs.YtfcnedcahoifoaaGreatDoor

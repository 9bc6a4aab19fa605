/-
  DERIVED. GIVEN WITH THE SEED: THE CARDS: each row of YtoffmclbnobllaaGreatDoorRows.lean that lists a variable, with what it lists TIED to the program's text (the seventh form; the later family's looks); each row that meets fmt, with fmt's text TOLD by the authors' own Lean function (tested against real Go, not proved from fmt's source: count such statements apart). THE CARD IS WHAT COUNTS. Prove the row's statement (the work); the ties are given (YtoffmclbnobllaaGreatDoorTie.lean); close each card by the builder's one call (the guide's Derived/Test/ToyasCard.lean, 'card_holds'). Laid BY PROGRAM, IN A SANDBOX (cutbox-door.mjs). By AI agents, Wed Nov 11 2026. No macro, syntax, notation, axiom, sorry.
-/
import Derived.Test.YtoffmclbnobllaaGreatDoorRows
import GoSem.ClaimSeven
namespace Go.Proofs.YtoffmclbnobllaaGreatDoor
namespace Rows

/-- THE TIED CARD OF 'aviarylaw14.ClockTells'. -/
def clockTellsCard : Claim7 := { stood := { row := clockTellsRow, standIns := [], harness := (true, "ddf10544d774d1124843427b9429a1a8c25445536a47ba2398f2c767f069966e"), looks := true }, kinds := [], alts := [], laidByText := true, laidKinds := [.data, .pinned], laidTests := true, laidLooks := .later }
def ClockTellsCardSaid : Prop := Claim7.holds Tryz.pinned (.plain (OpenSpec.ofChange clockTellsSpec)) clockTellsCard

/-- THE SECOND FORM's CARD OF 'aviarylaw14.ClockTells'. -/
def clockTellsUptoCard : Claim7 := { stood := { row := clockTellsUptoRow, standIns := [], harness := (true, "ddf10544d774d1124843427b9429a1a8c25445536a47ba2398f2c767f069966e"), looks := true }, kinds := [], alts := [], laidByText := true, laidKinds := [.data, .pinned], laidTests := true, laidLooks := .later }
def ClockTellsUptoCardSaid : Prop := Claim7.holds Tryz.pinned (.plain (OpenSpec.upto clockTellsSpec)) clockTellsUptoCard
end Rows
end Go.Proofs.YtoffmclbnobllaaGreatDoor

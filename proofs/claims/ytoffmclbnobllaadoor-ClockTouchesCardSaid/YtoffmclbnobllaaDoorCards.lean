/-
  DERIVED. GIVEN WITH THE SEED: THE CARDS: each row of YtoffmclbnobllaaDoorRows.lean that lists a variable, with what it lists TIED to the program's text (the seventh form; the later family's looks); each row that meets fmt, with fmt's text TOLD by the authors' own Lean function (tested against real Go, not proved from fmt's source: count such statements apart). THE CARD IS WHAT COUNTS. Prove the row's statement (the work); the ties are given (YtoffmclbnobllaaDoorTie.lean); close each card by the builder's one call (the guide's Derived/Test/ToyasCard.lean, 'card_holds'). Laid BY PROGRAM, IN A SANDBOX (cutbox-door.mjs). By AI agents, Wed Nov 11 2026. No macro, syntax, notation, axiom, sorry.
-/
import Derived.Test.YtoffmclbnobllaaDoorRows
import GoSem.ClaimSeven
namespace Go.Proofs.YtoffmclbnobllaaDoor
namespace Rows

/-- THE TIED CARD OF 'aviarylaw14.ClockTouches'. -/
def clockTouchesCard : Claim7 := { stood := { row := clockTouchesRow, standIns := [], harness := (true, "72f0a10e7fd82fbfa5f34e68e88a3caaa1b07b733b57166b8bad38def063f65f"), looks := true }, kinds := [], alts := [], laidByText := true, laidKinds := [.data, .pinned], laidTests := true, laidLooks := .later }
def ClockTouchesCardSaid : Prop := Claim7.holds Tryd.pinned (.plain (OpenSpec.ofChange clockTouchesSpec)) clockTouchesCard

/-- THE TIED CARD OF 'aviarylaw14.ClockLater'. -/
def clockLaterCard : Claim7 := { stood := { row := clockLaterRow, standIns := [], harness := (true, "72f0a10e7fd82fbfa5f34e68e88a3caaa1b07b733b57166b8bad38def063f65f"), looks := true }, kinds := [], alts := [], laidByText := true, laidKinds := [.data, .pinned], laidTests := true, laidLooks := .later }
def ClockLaterCardSaid : Prop := Claim7.holds Tryd.pinned (.plain (OpenSpec.ofChange clockLaterSpec)) clockLaterCard

/-- THE TIED CARD OF 'aviarylaw14.ClockNext'. -/
def clockNextCard : Claim7 := { stood := { row := clockNextRow, standIns := [], harness := (true, "72f0a10e7fd82fbfa5f34e68e88a3caaa1b07b733b57166b8bad38def063f65f"), looks := true }, kinds := [], alts := [], laidByText := true, laidKinds := [.data, .pinned], laidTests := true, laidLooks := .later }
def ClockNextCardSaid : Prop := Claim7.holds Tryd.pinned (.plain (OpenSpec.ofChange clockNextSpec)) clockNextCard

/-- THE TIED CARD OF 'aviarylaw14.ClockOnce'. -/
def clockOnceCard : Claim7 := { stood := { row := clockOnceRow, standIns := [], harness := (true, "72f0a10e7fd82fbfa5f34e68e88a3caaa1b07b733b57166b8bad38def063f65f"), looks := true }, kinds := [], alts := [], laidByText := true, laidKinds := [.data, .pinned], laidTests := true, laidLooks := .later }
def ClockOnceCardSaid : Prop := Claim7.holds Tryd.pinned (.plain (OpenSpec.ofChange clockOnceSpec)) clockOnceCard

/-- THE TIED CARD OF 'aviarylaw14.ClockParts'. -/
def clockPartsCard : Claim7 := { stood := { row := clockPartsRow, standIns := [], harness := (true, "72f0a10e7fd82fbfa5f34e68e88a3caaa1b07b733b57166b8bad38def063f65f"), looks := true }, kinds := [], alts := [], laidByText := true, laidKinds := [.data, .pinned], laidTests := true, laidLooks := .later }
def ClockPartsCardSaid : Prop := Claim7.holds Tryd.pinned (.plain (OpenSpec.ofChange clockPartsSpec)) clockPartsCard

/-- THE SECOND FORM's CARD OF 'aviarylaw14.ClockTouches'. -/
def clockTouchesUptoCard : Claim7 := { stood := { row := clockTouchesUptoRow, standIns := [], harness := (true, "72f0a10e7fd82fbfa5f34e68e88a3caaa1b07b733b57166b8bad38def063f65f"), looks := true }, kinds := [], alts := [], laidByText := true, laidKinds := [.data, .pinned], laidTests := true, laidLooks := .later }
def ClockTouchesUptoCardSaid : Prop := Claim7.holds Tryd.pinned (.plain (OpenSpec.upto clockTouchesSpec)) clockTouchesUptoCard

/-- THE SECOND FORM's CARD OF 'aviarylaw14.ClockLater'. -/
def clockLaterUptoCard : Claim7 := { stood := { row := clockLaterUptoRow, standIns := [], harness := (true, "72f0a10e7fd82fbfa5f34e68e88a3caaa1b07b733b57166b8bad38def063f65f"), looks := true }, kinds := [], alts := [], laidByText := true, laidKinds := [.data, .pinned], laidTests := true, laidLooks := .later }
def ClockLaterUptoCardSaid : Prop := Claim7.holds Tryd.pinned (.plain (OpenSpec.upto clockLaterSpec)) clockLaterUptoCard

/-- THE SECOND FORM's CARD OF 'aviarylaw14.ClockNext'. -/
def clockNextUptoCard : Claim7 := { stood := { row := clockNextUptoRow, standIns := [], harness := (true, "72f0a10e7fd82fbfa5f34e68e88a3caaa1b07b733b57166b8bad38def063f65f"), looks := true }, kinds := [], alts := [], laidByText := true, laidKinds := [.data, .pinned], laidTests := true, laidLooks := .later }
def ClockNextUptoCardSaid : Prop := Claim7.holds Tryd.pinned (.plain (OpenSpec.upto clockNextSpec)) clockNextUptoCard

/-- THE SECOND FORM's CARD OF 'aviarylaw14.ClockOnce'. -/
def clockOnceUptoCard : Claim7 := { stood := { row := clockOnceUptoRow, standIns := [], harness := (true, "72f0a10e7fd82fbfa5f34e68e88a3caaa1b07b733b57166b8bad38def063f65f"), looks := true }, kinds := [], alts := [], laidByText := true, laidKinds := [.data, .pinned], laidTests := true, laidLooks := .later }
def ClockOnceUptoCardSaid : Prop := Claim7.holds Tryd.pinned (.plain (OpenSpec.upto clockOnceSpec)) clockOnceUptoCard

/-- THE SECOND FORM's CARD OF 'aviarylaw14.ClockParts'. -/
def clockPartsUptoCard : Claim7 := { stood := { row := clockPartsUptoRow, standIns := [], harness := (true, "72f0a10e7fd82fbfa5f34e68e88a3caaa1b07b733b57166b8bad38def063f65f"), looks := true }, kinds := [], alts := [], laidByText := true, laidKinds := [.data, .pinned], laidTests := true, laidLooks := .later }
def ClockPartsUptoCardSaid : Prop := Claim7.holds Tryd.pinned (.plain (OpenSpec.upto clockPartsSpec)) clockPartsUptoCard
end Rows
end Go.Proofs.YtoffmclbnobllaaDoor

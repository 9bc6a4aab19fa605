/-
  NARROWER THAN 'FOR EVERY INPUT', by the rows' own cells (each row's printed sentence says how): ClockTouches: laid · ClockLater: laid · ClockNext: laid · ClockOnce: laid · ClockParts: laid.
  DERIVED. THE GIVEN ROWS OF THIS SEAT. 5 by the template 'for every input the law returns true; each argument reads behind the call as it read before'; 0 by the template 'total and deterministic' (their statements: YtoffmclbnobllaaDoorTotals.lean).
  GIVEN WITH THE SEED: the statements are not yours to turn. If you find one false, say at which input.
  Laid BY PROGRAM, IN A SANDBOX (cutbox-rows.mjs): the forced cells as the released guide's own fill.sh prints them over the translation 01ea1cc161b2fa95… (all of the seat's roots in one cut). By AI agents, Wed Nov 11 2026. No macro, syntax, notation, axiom, sorry.
-/
import Derived.Test.YtoffmclbnobllaaDoorChecked
import GoSem.PinnedTables
import GoSem.Claim
import GoSem.ClaimJoined
import GoSem.ClaimMapViews
import Derived.JoinedTies
import Derived.KernelRfl
namespace Go.Proofs.YtoffmclbnobllaaDoor
/- THE CELL 'sum', in the pinned program and in every row, IS THE sha256 OF THE DUMP (.gsa) THAT YtoffmclbnobllaaDoorProg.lean LOADS. Nothing in Lean hashes anything: it is a label: what it is worth is what the hold of that sum in a sandbox is worth. -/
noncomputable def Tryd.pinned : Pinned := { name := "ytoffmclbnobllaadoor", sum := "01ea1cc161b2fa958fafc2f83f6484d975a0a6ec7f44bb3449d339d32e82cd3b", checked := Tryd.checked }
namespace Rows
def none {H : Type} : Left H := { results := [], args := [] }

/- WHAT THE LISTED PACKAGE-LEVEL VARIABLES READ AS WHEN THE CALL BEGINS. Each datum BY PROGRAM (the guide's laid-datum.mjs) off the statement by which the dump's own 'gosem.cut.vars' lays the variable. In a bare row this is a premise. The card (YtoffmclbnobllaaDoorCards.lean) ties it to the program's text. -/
def laid_unicode_utf8_acceptRanges {H : Type} : DataW H := .agg [.agg [.lit (.int .u8 128), .lit (.int .u8 191)], .agg [.lit (.int .u8 160), .lit (.int .u8 191)], .agg [.lit (.int .u8 128), .lit (.int .u8 159)], .agg [.lit (.int .u8 144), .lit (.int .u8 191)], .agg [.lit (.int .u8 128), .lit (.int .u8 143)], .agg [.lit (.int .u8 0), .lit (.int .u8 0)], .agg [.lit (.int .u8 0), .lit (.int .u8 0)], .agg [.lit (.int .u8 0), .lit (.int .u8 0)], .agg [.lit (.int .u8 0), .lit (.int .u8 0)], .agg [.lit (.int .u8 0), .lit (.int .u8 0)], .agg [.lit (.int .u8 0), .lit (.int .u8 0)], .agg [.lit (.int .u8 0), .lit (.int .u8 0)], .agg [.lit (.int .u8 0), .lit (.int .u8 0)], .agg [.lit (.int .u8 0), .lit (.int .u8 0)], .agg [.lit (.int .u8 0), .lit (.int .u8 0)], .agg [.lit (.int .u8 0), .lit (.int .u8 0)]]
/-- One of Go's own tables, pinned by name: the form's constant. -/
def laid_unicode_utf8_first : DataW Unit := Go.Pinned.utf8First

/-- 'aviarylaw14.ClockTouches': WHATEVER THE INPUT: true; the input reads as it did. -/
def clockTouchesSpec : ChangeSpec := { name := "clockTouches", fn := fun _ => fun
  | [d1, d2, d3, d4] => { results := [.lit (.bool true)], args := [d1, d2, d3, d4] }
  | _ => none }
def clockTouchesRow : OpenClaim := { program := "ytoffmclbnobllaadoor", sum := "01ea1cc161b2fa958fafc2f83f6484d975a0a6ec7f44bb3449d339d32e82cd3b", func := "aviary/aviarylaw14.ClockTouches", spec := "clockTouches", unfollowed := true, recurses := true, named := ["unicode/utf8.first", "unicode/utf8.acceptRanges"], apart := false, laid := [("unicode/utf8.acceptRanges", laid_unicode_utf8_acceptRanges), ("unicode/utf8.first", laid_unicode_utf8_first)] }
def ClockTouchesSaid : Prop := clockTouchesRow.holds Tryd.pinned (OpenSpec.ofChange clockTouchesSpec)

/-- ITS FALSE NEIGHBOUR: 'it returns false'. Refute it at one input. -/
def clockTouchesWrong : ChangeSpec := { name := "clockTouches", fn := fun _ => fun
  | [d1, d2, d3, d4] => { results := [.lit (.bool false)], args := [d1, d2, d3, d4] }
  | _ => none }
def ClockTouchesWrongFalsely : Prop := clockTouchesRow.holds Tryd.pinned (OpenSpec.ofChange clockTouchesWrong)

/-- 'aviarylaw14.ClockLater': WHATEVER THE INPUT: true; the input reads as it did. -/
def clockLaterSpec : ChangeSpec := { name := "clockLater", fn := fun _ => fun
  | [d1, d2, d3, d4, d5] => { results := [.lit (.bool true)], args := [d1, d2, d3, d4, d5] }
  | _ => none }
def clockLaterRow : OpenClaim := { program := "ytoffmclbnobllaadoor", sum := "01ea1cc161b2fa958fafc2f83f6484d975a0a6ec7f44bb3449d339d32e82cd3b", func := "aviary/aviarylaw14.ClockLater", spec := "clockLater", unfollowed := true, recurses := true, named := ["unicode/utf8.first", "unicode/utf8.acceptRanges"], apart := false, laid := [("unicode/utf8.acceptRanges", laid_unicode_utf8_acceptRanges), ("unicode/utf8.first", laid_unicode_utf8_first)] }
def ClockLaterSaid : Prop := clockLaterRow.holds Tryd.pinned (OpenSpec.ofChange clockLaterSpec)

/-- ITS FALSE NEIGHBOUR: 'it returns false'. Refute it at one input. -/
def clockLaterWrong : ChangeSpec := { name := "clockLater", fn := fun _ => fun
  | [d1, d2, d3, d4, d5] => { results := [.lit (.bool false)], args := [d1, d2, d3, d4, d5] }
  | _ => none }
def ClockLaterWrongFalsely : Prop := clockLaterRow.holds Tryd.pinned (OpenSpec.ofChange clockLaterWrong)

/-- 'aviarylaw14.ClockNext': WHATEVER THE INPUT: true; the input reads as it did. -/
def clockNextSpec : ChangeSpec := { name := "clockNext", fn := fun _ => fun
  | [d1, d2, d3] => { results := [.lit (.bool true)], args := [d1, d2, d3] }
  | _ => none }
def clockNextRow : OpenClaim := { program := "ytoffmclbnobllaadoor", sum := "01ea1cc161b2fa958fafc2f83f6484d975a0a6ec7f44bb3449d339d32e82cd3b", func := "aviary/aviarylaw14.ClockNext", spec := "clockNext", unfollowed := true, recurses := true, named := ["unicode/utf8.first", "unicode/utf8.acceptRanges"], apart := false, laid := [("unicode/utf8.acceptRanges", laid_unicode_utf8_acceptRanges), ("unicode/utf8.first", laid_unicode_utf8_first)] }
def ClockNextSaid : Prop := clockNextRow.holds Tryd.pinned (OpenSpec.ofChange clockNextSpec)

/-- ITS FALSE NEIGHBOUR: 'it returns false'. Refute it at one input. -/
def clockNextWrong : ChangeSpec := { name := "clockNext", fn := fun _ => fun
  | [d1, d2, d3] => { results := [.lit (.bool false)], args := [d1, d2, d3] }
  | _ => none }
def ClockNextWrongFalsely : Prop := clockNextRow.holds Tryd.pinned (OpenSpec.ofChange clockNextWrong)

/-- 'aviarylaw14.ClockOnce': WHATEVER THE INPUT: true; the input reads as it did. -/
def clockOnceSpec : ChangeSpec := { name := "clockOnce", fn := fun _ => fun
  | [d1, d2, d3] => { results := [.lit (.bool true)], args := [d1, d2, d3] }
  | _ => none }
def clockOnceRow : OpenClaim := { program := "ytoffmclbnobllaadoor", sum := "01ea1cc161b2fa958fafc2f83f6484d975a0a6ec7f44bb3449d339d32e82cd3b", func := "aviary/aviarylaw14.ClockOnce", spec := "clockOnce", unfollowed := true, recurses := true, named := ["unicode/utf8.first", "unicode/utf8.acceptRanges"], apart := false, laid := [("unicode/utf8.acceptRanges", laid_unicode_utf8_acceptRanges), ("unicode/utf8.first", laid_unicode_utf8_first)] }
def ClockOnceSaid : Prop := clockOnceRow.holds Tryd.pinned (OpenSpec.ofChange clockOnceSpec)

/-- ITS FALSE NEIGHBOUR: 'it returns false'. Refute it at one input. -/
def clockOnceWrong : ChangeSpec := { name := "clockOnce", fn := fun _ => fun
  | [d1, d2, d3] => { results := [.lit (.bool false)], args := [d1, d2, d3] }
  | _ => none }
def ClockOnceWrongFalsely : Prop := clockOnceRow.holds Tryd.pinned (OpenSpec.ofChange clockOnceWrong)

/-- 'aviarylaw14.ClockParts': WHATEVER THE INPUT: true; the input reads as it did. -/
def clockPartsSpec : ChangeSpec := { name := "clockParts", fn := fun _ => fun
  | [d1, d2, d3, d4] => { results := [.lit (.bool true)], args := [d1, d2, d3, d4] }
  | _ => none }
def clockPartsRow : OpenClaim := { program := "ytoffmclbnobllaadoor", sum := "01ea1cc161b2fa958fafc2f83f6484d975a0a6ec7f44bb3449d339d32e82cd3b", func := "aviary/aviarylaw14.ClockParts", spec := "clockParts", unfollowed := true, recurses := true, named := ["unicode/utf8.first", "unicode/utf8.acceptRanges"], apart := false, laid := [("unicode/utf8.acceptRanges", laid_unicode_utf8_acceptRanges), ("unicode/utf8.first", laid_unicode_utf8_first)] }
def ClockPartsSaid : Prop := clockPartsRow.holds Tryd.pinned (OpenSpec.ofChange clockPartsSpec)

/-- ITS FALSE NEIGHBOUR: 'it returns false'. Refute it at one input. -/
def clockPartsWrong : ChangeSpec := { name := "clockParts", fn := fun _ => fun
  | [d1, d2, d3, d4] => { results := [.lit (.bool false)], args := [d1, d2, d3, d4] }
  | _ => none }
def ClockPartsWrongFalsely : Prop := clockPartsRow.holds Tryd.pinned (OpenSpec.ofChange clockPartsWrong)

/- THE SECOND FORM. 'bulk': how many values and letters a reading holds, each counted each time it is reached (what is shared counts as often as it is met; a slice's spare places count too). A statement '..UptoSaid' is the law's where the arguments, and the package variables that the reading takes, are together of bulk at most 1048576: NARROWER than '..Said'. Prove '..Said' where nothing that the law and all that it calls make is longer than what came in: it says more and counts as full. Else prove '..UptoSaid'. A law counts once. -/
mutual
def uptoBulk {H : Type} : DataW H → Nat
  | .lit (.string bytes) => bytes.length + 1
  | .lit _ => 1
  | .nil => 1
  | .ptr d => uptoBulk d + 1
  | .slice elems spare => uptoBulkAll elems + uptoBulkAll spare + 1
  | .agg parts => uptoBulkAll parts + 1
  | .iface _ d => uptoBulk d + 1
  | .map entries => uptoBulkEntries entries + 1
  | .held _ => 1
def uptoBulkAll {H : Type} : List (DataW H) → Nat
  | [] => 0
  | d :: r => uptoBulk d + uptoBulkAll r
def uptoBulkEntries {H : Type} : List (Lit × DataW H) → Nat
  | [] => 0
  | x :: r => uptoBulkEntry x + uptoBulkEntries r
def uptoBulkEntry {H : Type} : Lit × DataW H → Nat
  | (.string bytes, d) => bytes.length + uptoBulk d + 1
  | (_, d) => uptoBulk d + 1
 end
def uptoSmall : (H : Type) → List (DataW H) → Bool := fun _ ds => decide (uptoBulkAll ds ≤ 1048576)
def OpenSpec.upto (s : _root_.Go.ChangeSpec) : _root_.Go.OpenSpec := { _root_.Go.OpenSpec.ofChange s with cond := some uptoSmall }

/-- 'aviarylaw14.ClockTouches', WHERE WHAT IT READS IS OF BULK AT MOST 1048576: true; the input reads as it did. -/
def clockTouchesUptoRow : OpenClaim := { program := "ytoffmclbnobllaadoor", sum := "01ea1cc161b2fa958fafc2f83f6484d975a0a6ec7f44bb3449d339d32e82cd3b", func := "aviary/aviarylaw14.ClockTouches", spec := "clockTouches", unfollowed := true, recurses := true, named := ["unicode/utf8.first", "unicode/utf8.acceptRanges"], apart := false, laid := [("unicode/utf8.acceptRanges", laid_unicode_utf8_acceptRanges), ("unicode/utf8.first", laid_unicode_utf8_first)], narrowed := true }
def ClockTouchesUptoSaid : Prop := clockTouchesUptoRow.holds Tryd.pinned (OpenSpec.upto clockTouchesSpec)

/-- 'aviarylaw14.ClockLater', WHERE WHAT IT READS IS OF BULK AT MOST 1048576: true; the input reads as it did. -/
def clockLaterUptoRow : OpenClaim := { program := "ytoffmclbnobllaadoor", sum := "01ea1cc161b2fa958fafc2f83f6484d975a0a6ec7f44bb3449d339d32e82cd3b", func := "aviary/aviarylaw14.ClockLater", spec := "clockLater", unfollowed := true, recurses := true, named := ["unicode/utf8.first", "unicode/utf8.acceptRanges"], apart := false, laid := [("unicode/utf8.acceptRanges", laid_unicode_utf8_acceptRanges), ("unicode/utf8.first", laid_unicode_utf8_first)], narrowed := true }
def ClockLaterUptoSaid : Prop := clockLaterUptoRow.holds Tryd.pinned (OpenSpec.upto clockLaterSpec)

/-- 'aviarylaw14.ClockNext', WHERE WHAT IT READS IS OF BULK AT MOST 1048576: true; the input reads as it did. -/
def clockNextUptoRow : OpenClaim := { program := "ytoffmclbnobllaadoor", sum := "01ea1cc161b2fa958fafc2f83f6484d975a0a6ec7f44bb3449d339d32e82cd3b", func := "aviary/aviarylaw14.ClockNext", spec := "clockNext", unfollowed := true, recurses := true, named := ["unicode/utf8.first", "unicode/utf8.acceptRanges"], apart := false, laid := [("unicode/utf8.acceptRanges", laid_unicode_utf8_acceptRanges), ("unicode/utf8.first", laid_unicode_utf8_first)], narrowed := true }
def ClockNextUptoSaid : Prop := clockNextUptoRow.holds Tryd.pinned (OpenSpec.upto clockNextSpec)

/-- 'aviarylaw14.ClockOnce', WHERE WHAT IT READS IS OF BULK AT MOST 1048576: true; the input reads as it did. -/
def clockOnceUptoRow : OpenClaim := { program := "ytoffmclbnobllaadoor", sum := "01ea1cc161b2fa958fafc2f83f6484d975a0a6ec7f44bb3449d339d32e82cd3b", func := "aviary/aviarylaw14.ClockOnce", spec := "clockOnce", unfollowed := true, recurses := true, named := ["unicode/utf8.first", "unicode/utf8.acceptRanges"], apart := false, laid := [("unicode/utf8.acceptRanges", laid_unicode_utf8_acceptRanges), ("unicode/utf8.first", laid_unicode_utf8_first)], narrowed := true }
def ClockOnceUptoSaid : Prop := clockOnceUptoRow.holds Tryd.pinned (OpenSpec.upto clockOnceSpec)

/-- 'aviarylaw14.ClockParts', WHERE WHAT IT READS IS OF BULK AT MOST 1048576: true; the input reads as it did. -/
def clockPartsUptoRow : OpenClaim := { program := "ytoffmclbnobllaadoor", sum := "01ea1cc161b2fa958fafc2f83f6484d975a0a6ec7f44bb3449d339d32e82cd3b", func := "aviary/aviarylaw14.ClockParts", spec := "clockParts", unfollowed := true, recurses := true, named := ["unicode/utf8.first", "unicode/utf8.acceptRanges"], apart := false, laid := [("unicode/utf8.acceptRanges", laid_unicode_utf8_acceptRanges), ("unicode/utf8.first", laid_unicode_utf8_first)], narrowed := true }
def ClockPartsUptoSaid : Prop := clockPartsUptoRow.holds Tryd.pinned (OpenSpec.upto clockPartsSpec)

end Rows
end Go.Proofs.YtoffmclbnobllaaDoor

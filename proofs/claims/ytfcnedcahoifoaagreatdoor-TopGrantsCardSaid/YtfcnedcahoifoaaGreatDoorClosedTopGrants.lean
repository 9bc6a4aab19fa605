/-
  The closed facts of the row, one by one.
-/
import Derived.Test.YtfcnedcahoifoaaGreatDoorRows
import Derived.Test.YtfcnedcahoifoaaGreatDoorCards
import Derived.Test.YtfcnedcahoifoaaGreatDoorTie
import Derived.ProofKit
import Derived.JoinedOf
namespace Go.Proofs.YtfcnedcahoifoaaGreatDoor.topGrants
theorem closed0 : ((Rows.topGrantsRow).wf (OpenSpec.ofChange Rows.topGrantsSpec)) = true := by kernel_rfl
theorem closed1 : (laidOutB Tryz.prog) = true := by kernel_rfl
theorem closed2 : (mapsRowed Tryz.prog) = true := by kernel_rfl
theorem closed3 : ((Tryz.f3).params.all ((Tryz.prog).readableRec ·)) = true := by kernel_rfl
theorem closed4 : (namedTie Tryz.prog (Rows.topGrantsRow).named (Rows.topGrantsSpec).vars) = true := by kernel_rfl
theorem closed5 : (((Rows.topGrantsRow).stops == [])) = true := by kernel_rfl
theorem closed6 : (((Tryz.prog).stops == [])) = true := by kernel_rfl
theorem closed7 : (((Rows.topGrantsRow).knobs == [])) = true := by kernel_rfl
theorem closed8 : (((Tryz.prog).stopKnobs == [])) = true := by kernel_rfl
theorem closed9 : (((Rows.topGrantsRow).inPlace == (Tryz.prog).inPlace 3)) = true := by kernel_rfl
theorem closed10 : (((Rows.topGrantsRow).unfollowed == (Tryz.prog).unfollowed 3)) = true := by kernel_rfl
theorem closed11 : (((Rows.topGrantsRow).recurses == (Tryz.prog).recurses 3)) = true := by kernel_rfl
theorem closed12 : (((Rows.topGrantsRow).named == (Tryz.prog).varsNamed 3)) = true := by kernel_rfl
theorem closed13 : (((Rows.topGrantsRow).maps == ((Tryz.f3).params.toList ++ (Rows.topGrantsSpec).plain.varTypes Tryz.prog).any ((Tryz.prog).mapsRec ·))) = true := by kernel_rfl
theorem closed14 : (((Rows.topGrantsRow).ifaces == ((Tryz.f3).params.toList ++ (Rows.topGrantsSpec).plain.varTypes Tryz.prog).any ((Tryz.prog).ifacesRec ·))) = true := by kernel_rfl
theorem closed15 : (((Rows.topGrantsRow).mapsOut == (Tryz.prog).mapsAmong (Tryz.f3).resultTypes.toList)) = true := by kernel_rfl
theorem closed16 : (((Rows.topGrantsRow).loops == ((Tryz.f3).params.toList ++ (Rows.topGrantsSpec).plain.varTypes Tryz.prog).any ((Tryz.prog).loopsFrom ·))) = true := by kernel_rfl
theorem closed17 : (((Rows.topGrantsRow).wideKeys == (((Tryz.f3).params.toList ++ (Rows.topGrantsSpec).plain.varTypes Tryz.prog) ++ (Tryz.f3).resultTypes.toList).any ((Tryz.prog).wideKeysFrom ·))) = true := by kernel_rfl
theorem closed18 : ((Rows.topGrantsSpec).vars.all ((Tryz.prog).varReadable ·)) = true := by kernel_rfl
theorem closed19 : ((Tryz.f3).resultTypes.all (fun t => (Tryz.prog).readableRec t && decide (t < (Tryz.prog).types.size))) = true := by kernel_rfl
theorem closed20 : (((Rows.topGrantsRow).ifacesOut == (Tryz.f3).resultTypes.toList.any ((Tryz.prog).ifacesRec ·))) = true := by kernel_rfl
theorem closed21 : (((Rows.topGrantsRow).loopsOut == (Tryz.f3).resultTypes.toList.any ((Tryz.prog).loopsFrom ·))) = true := by kernel_rfl
theorem closed22 : (((Rows.topGrantsRow).plainKeys == (Tryz.prog).plainKeys)) = true := by kernel_rfl
theorem closed23 : ((Rows.topGrantsRow).shortTexts.isNone) = true := by kernel_rfl
theorem closed24 : ((Tryz.prog).stopsHeard) = true := by kernel_rfl
theorem closed25 : ((Tryz.prog).mayEnter) = true := by kernel_rfl
theorem closed26 : (((Rows.topGrantsRow).lifted == (Tryz.prog).liftsFinal)) = true := by kernel_rfl
theorem closed27 : (((Tryz.prog).make == some (Rows.topGrantsRow).make)) = true := by kernel_rfl
theorem closed28 : (((Rows.topGrantsRow).kinds == (if (Rows.topGrantsRow).domain.isEmpty then [] else (Tryz.f3).params.toList.map fun t => match (Tryz.prog).underlying t with | some (.int k) => some k | _ => none))) = true := by kernel_rfl
theorem closed29 : (((Rows.topGrantsRow).pinned == (Rows.topGrantsRow).pinnedBy)) = true := by kernel_rfl
theorem closed30 : (((Rows.topGrantsRow).veiled == (((Tryz.f3).params.toList ++ (Rows.topGrantsSpec).plain.varTypes Tryz.prog) ++ (Tryz.f3).resultTypes.toList).any ((Tryz.prog).veiledRec ·))) = true := by kernel_rfl
theorem closed31 : ((Rows.topGrantsRow).veiledFits Tryz.prog (Tryz.f3).params.toList (((Tryz.f3).params.toList ++ (Rows.topGrantsSpec).plain.varTypes Tryz.prog) ++ (Tryz.f3).resultTypes.toList)) = true := by kernel_rfl
theorem and2 {a b : Bool} (h : a = true) (k : b = true) : (a && b) = true := by rw [h, k]; rfl
set_option maxRecDepth 100000 in
theorem closed : joinedFacts Tryz.prog 3 Tryz.f3 Rows.topGrantsSpec Rows.topGrantsRow = true := by
  unfold joinedFacts
  exact and2 (and2 (and2 (and2 (and2 (and2 (and2 (and2 (and2 (and2 (and2 (and2 (and2 (and2 (and2 (and2 (and2 (and2 (and2 (and2 (and2 (and2 (and2 (and2 (and2 (and2 (and2 (and2 (and2 (and2 (and2 (closed0) closed1) closed2) closed3) closed4) closed5) closed6) closed7) closed8) closed9) closed10) closed11) closed12) closed13) closed14) closed15) closed16) closed17) closed18) closed19) closed20) closed21) closed22) closed23) closed24) closed25) closed26) closed27) closed28) closed29) closed30) closed31
end Go.Proofs.YtfcnedcahoifoaaGreatDoor.topGrants

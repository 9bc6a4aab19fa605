/-
  The closed facts of the row, one by one.
-/
import Derived.Test.YtfcnedcahoifoaaGreatDoorRows
import Derived.Test.YtfcnedcahoifoaaGreatDoorCards
import Derived.Test.YtfcnedcahoifoaaGreatDoorTie
import Derived.ProofKit
import Derived.JoinedOf
namespace Go.Proofs.YtfcnedcahoifoaaGreatDoor.topUnion
theorem closed0 : ((Rows.topUnionRow).wf (OpenSpec.ofChange Rows.topUnionSpec)) = true := by kernel_rfl
theorem closed1 : (laidOutB Tryz.prog) = true := by kernel_rfl
theorem closed2 : (mapsRowed Tryz.prog) = true := by kernel_rfl
theorem closed3 : ((Tryz.f5).params.all ((Tryz.prog).readableRec ·)) = true := by kernel_rfl
theorem closed4 : (namedTie Tryz.prog (Rows.topUnionRow).named (Rows.topUnionSpec).vars) = true := by kernel_rfl
theorem closed5 : (((Rows.topUnionRow).stops == [])) = true := by kernel_rfl
theorem closed6 : (((Tryz.prog).stops == [])) = true := by kernel_rfl
theorem closed7 : (((Rows.topUnionRow).knobs == [])) = true := by kernel_rfl
theorem closed8 : (((Tryz.prog).stopKnobs == [])) = true := by kernel_rfl
theorem closed9 : (((Rows.topUnionRow).inPlace == (Tryz.prog).inPlace 5)) = true := by kernel_rfl
theorem closed10 : (((Rows.topUnionRow).unfollowed == (Tryz.prog).unfollowed 5)) = true := by kernel_rfl
theorem closed11 : (((Rows.topUnionRow).recurses == (Tryz.prog).recurses 5)) = true := by kernel_rfl
theorem closed12 : (((Rows.topUnionRow).named == (Tryz.prog).varsNamed 5)) = true := by kernel_rfl
theorem closed13 : (((Rows.topUnionRow).maps == ((Tryz.f5).params.toList ++ (Rows.topUnionSpec).plain.varTypes Tryz.prog).any ((Tryz.prog).mapsRec ·))) = true := by kernel_rfl
theorem closed14 : (((Rows.topUnionRow).ifaces == ((Tryz.f5).params.toList ++ (Rows.topUnionSpec).plain.varTypes Tryz.prog).any ((Tryz.prog).ifacesRec ·))) = true := by kernel_rfl
theorem closed15 : (((Rows.topUnionRow).mapsOut == (Tryz.prog).mapsAmong (Tryz.f5).resultTypes.toList)) = true := by kernel_rfl
theorem closed16 : (((Rows.topUnionRow).loops == ((Tryz.f5).params.toList ++ (Rows.topUnionSpec).plain.varTypes Tryz.prog).any ((Tryz.prog).loopsFrom ·))) = true := by kernel_rfl
theorem closed17 : (((Rows.topUnionRow).wideKeys == (((Tryz.f5).params.toList ++ (Rows.topUnionSpec).plain.varTypes Tryz.prog) ++ (Tryz.f5).resultTypes.toList).any ((Tryz.prog).wideKeysFrom ·))) = true := by kernel_rfl
theorem closed18 : ((Rows.topUnionSpec).vars.all ((Tryz.prog).varReadable ·)) = true := by kernel_rfl
theorem closed19 : ((Tryz.f5).resultTypes.all (fun t => (Tryz.prog).readableRec t && decide (t < (Tryz.prog).types.size))) = true := by kernel_rfl
theorem closed20 : (((Rows.topUnionRow).ifacesOut == (Tryz.f5).resultTypes.toList.any ((Tryz.prog).ifacesRec ·))) = true := by kernel_rfl
theorem closed21 : (((Rows.topUnionRow).loopsOut == (Tryz.f5).resultTypes.toList.any ((Tryz.prog).loopsFrom ·))) = true := by kernel_rfl
theorem closed22 : (((Rows.topUnionRow).plainKeys == (Tryz.prog).plainKeys)) = true := by kernel_rfl
theorem closed23 : ((Rows.topUnionRow).shortTexts.isNone) = true := by kernel_rfl
theorem closed24 : ((Tryz.prog).stopsHeard) = true := by kernel_rfl
theorem closed25 : ((Tryz.prog).mayEnter) = true := by kernel_rfl
theorem closed26 : (((Rows.topUnionRow).lifted == (Tryz.prog).liftsFinal)) = true := by kernel_rfl
theorem closed27 : (((Tryz.prog).make == some (Rows.topUnionRow).make)) = true := by kernel_rfl
theorem closed28 : (((Rows.topUnionRow).kinds == (if (Rows.topUnionRow).domain.isEmpty then [] else (Tryz.f5).params.toList.map fun t => match (Tryz.prog).underlying t with | some (.int k) => some k | _ => none))) = true := by kernel_rfl
theorem closed29 : (((Rows.topUnionRow).pinned == (Rows.topUnionRow).pinnedBy)) = true := by kernel_rfl
theorem closed30 : (((Rows.topUnionRow).veiled == (((Tryz.f5).params.toList ++ (Rows.topUnionSpec).plain.varTypes Tryz.prog) ++ (Tryz.f5).resultTypes.toList).any ((Tryz.prog).veiledRec ·))) = true := by kernel_rfl
theorem closed31 : ((Rows.topUnionRow).veiledFits Tryz.prog (Tryz.f5).params.toList (((Tryz.f5).params.toList ++ (Rows.topUnionSpec).plain.varTypes Tryz.prog) ++ (Tryz.f5).resultTypes.toList)) = true := by kernel_rfl
theorem and2 {a b : Bool} (h : a = true) (k : b = true) : (a && b) = true := by rw [h, k]; rfl
set_option maxRecDepth 100000 in
theorem closed : joinedFacts Tryz.prog 5 Tryz.f5 Rows.topUnionSpec Rows.topUnionRow = true := by
  unfold joinedFacts
  exact and2 (and2 (and2 (and2 (and2 (and2 (and2 (and2 (and2 (and2 (and2 (and2 (and2 (and2 (and2 (and2 (and2 (and2 (and2 (and2 (and2 (and2 (and2 (and2 (and2 (and2 (and2 (and2 (and2 (and2 (and2 (closed0) closed1) closed2) closed3) closed4) closed5) closed6) closed7) closed8) closed9) closed10) closed11) closed12) closed13) closed14) closed15) closed16) closed17) closed18) closed19) closed20) closed21) closed22) closed23) closed24) closed25) closed26) closed27) closed28) closed29) closed30) closed31
end Go.Proofs.YtfcnedcahoifoaaGreatDoor.topUnion

/-
  The closed facts of the row, one by one.
-/
import Derived.Test.YtfcnedcahoifoaaGreatDoorRows
import Derived.Test.YtfcnedcahoifoaaGreatDoorCards
import Derived.Test.YtfcnedcahoifoaaGreatDoorTie
import Derived.ProofKit
import Derived.JoinedOf
namespace Go.Proofs.YtfcnedcahoifoaaGreatDoor.topRevoked
theorem closed0 : ((Rows.topRevokedRow).wf (OpenSpec.ofChange Rows.topRevokedSpec)) = true := by kernel_rfl
theorem closed1 : (laidOutB Tryz.prog) = true := by kernel_rfl
theorem closed2 : (mapsRowed Tryz.prog) = true := by kernel_rfl
theorem closed3 : ((Tryz.f6).params.all ((Tryz.prog).readableRec ·)) = true := by kernel_rfl
theorem closed4 : (namedTie Tryz.prog (Rows.topRevokedRow).named (Rows.topRevokedSpec).vars) = true := by kernel_rfl
theorem closed5 : (((Rows.topRevokedRow).stops == [])) = true := by kernel_rfl
theorem closed6 : (((Tryz.prog).stops == [])) = true := by kernel_rfl
theorem closed7 : (((Rows.topRevokedRow).knobs == [])) = true := by kernel_rfl
theorem closed8 : (((Tryz.prog).stopKnobs == [])) = true := by kernel_rfl
theorem closed9 : (((Rows.topRevokedRow).inPlace == (Tryz.prog).inPlace 6)) = true := by kernel_rfl
theorem closed10 : (((Rows.topRevokedRow).unfollowed == (Tryz.prog).unfollowed 6)) = true := by kernel_rfl
theorem closed11 : (((Rows.topRevokedRow).recurses == (Tryz.prog).recurses 6)) = true := by kernel_rfl
theorem closed12 : (((Rows.topRevokedRow).named == (Tryz.prog).varsNamed 6)) = true := by kernel_rfl
theorem closed13 : (((Rows.topRevokedRow).maps == ((Tryz.f6).params.toList ++ (Rows.topRevokedSpec).plain.varTypes Tryz.prog).any ((Tryz.prog).mapsRec ·))) = true := by kernel_rfl
theorem closed14 : (((Rows.topRevokedRow).ifaces == ((Tryz.f6).params.toList ++ (Rows.topRevokedSpec).plain.varTypes Tryz.prog).any ((Tryz.prog).ifacesRec ·))) = true := by kernel_rfl
theorem closed15 : (((Rows.topRevokedRow).mapsOut == (Tryz.prog).mapsAmong (Tryz.f6).resultTypes.toList)) = true := by kernel_rfl
theorem closed16 : (((Rows.topRevokedRow).loops == ((Tryz.f6).params.toList ++ (Rows.topRevokedSpec).plain.varTypes Tryz.prog).any ((Tryz.prog).loopsFrom ·))) = true := by kernel_rfl
theorem closed17 : (((Rows.topRevokedRow).wideKeys == (((Tryz.f6).params.toList ++ (Rows.topRevokedSpec).plain.varTypes Tryz.prog) ++ (Tryz.f6).resultTypes.toList).any ((Tryz.prog).wideKeysFrom ·))) = true := by kernel_rfl
theorem closed18 : ((Rows.topRevokedSpec).vars.all ((Tryz.prog).varReadable ·)) = true := by kernel_rfl
theorem closed19 : ((Tryz.f6).resultTypes.all (fun t => (Tryz.prog).readableRec t && decide (t < (Tryz.prog).types.size))) = true := by kernel_rfl
theorem closed20 : (((Rows.topRevokedRow).ifacesOut == (Tryz.f6).resultTypes.toList.any ((Tryz.prog).ifacesRec ·))) = true := by kernel_rfl
theorem closed21 : (((Rows.topRevokedRow).loopsOut == (Tryz.f6).resultTypes.toList.any ((Tryz.prog).loopsFrom ·))) = true := by kernel_rfl
theorem closed22 : (((Rows.topRevokedRow).plainKeys == (Tryz.prog).plainKeys)) = true := by kernel_rfl
theorem closed23 : ((Rows.topRevokedRow).shortTexts.isNone) = true := by kernel_rfl
theorem closed24 : ((Tryz.prog).stopsHeard) = true := by kernel_rfl
theorem closed25 : ((Tryz.prog).mayEnter) = true := by kernel_rfl
theorem closed26 : (((Rows.topRevokedRow).lifted == (Tryz.prog).liftsFinal)) = true := by kernel_rfl
theorem closed27 : (((Tryz.prog).make == some (Rows.topRevokedRow).make)) = true := by kernel_rfl
theorem closed28 : (((Rows.topRevokedRow).kinds == (if (Rows.topRevokedRow).domain.isEmpty then [] else (Tryz.f6).params.toList.map fun t => match (Tryz.prog).underlying t with | some (.int k) => some k | _ => none))) = true := by kernel_rfl
theorem closed29 : (((Rows.topRevokedRow).pinned == (Rows.topRevokedRow).pinnedBy)) = true := by kernel_rfl
theorem closed30 : (((Rows.topRevokedRow).veiled == (((Tryz.f6).params.toList ++ (Rows.topRevokedSpec).plain.varTypes Tryz.prog) ++ (Tryz.f6).resultTypes.toList).any ((Tryz.prog).veiledRec ·))) = true := by kernel_rfl
theorem closed31 : ((Rows.topRevokedRow).veiledFits Tryz.prog (Tryz.f6).params.toList (((Tryz.f6).params.toList ++ (Rows.topRevokedSpec).plain.varTypes Tryz.prog) ++ (Tryz.f6).resultTypes.toList)) = true := by kernel_rfl
theorem and2 {a b : Bool} (h : a = true) (k : b = true) : (a && b) = true := by rw [h, k]; rfl
set_option maxRecDepth 100000 in
theorem closed : joinedFacts Tryz.prog 6 Tryz.f6 Rows.topRevokedSpec Rows.topRevokedRow = true := by
  unfold joinedFacts
  exact and2 (and2 (and2 (and2 (and2 (and2 (and2 (and2 (and2 (and2 (and2 (and2 (and2 (and2 (and2 (and2 (and2 (and2 (and2 (and2 (and2 (and2 (and2 (and2 (and2 (and2 (and2 (and2 (and2 (and2 (and2 (closed0) closed1) closed2) closed3) closed4) closed5) closed6) closed7) closed8) closed9) closed10) closed11) closed12) closed13) closed14) closed15) closed16) closed17) closed18) closed19) closed20) closed21) closed22) closed23) closed24) closed25) closed26) closed27) closed28) closed29) closed30) closed31
end Go.Proofs.YtfcnedcahoifoaaGreatDoor.topRevoked

/-
  aviarylaw05.shown is true.
-/
import Derived.Test.YtgfoeicfigfepaaDoorScMeans
namespace Go.Proofs.YtgfoeicfigfepaaDoor
open Go.RowKit
set_option linter.unusedVariables false
set_option linter.unusedSimpArgs false
def setA1 : List Lab := [(⟨#[97]⟩, ⟨#[97, 120, 120, 195, 169, 121]⟩)]
theorem setA1_ok : setB setA1 = true := by decide +kernel
theorem readA1 : readSc [97, 61, 97, 42, 195, 169, 63] = some [(⟨#[97]⟩, ⟨#[97, 42, 195, 169, 63]⟩)] := by decide +kernel
theorem readA2 : readSc [98, 61, 42] = some [(⟨#[98]⟩, ⟨#[42]⟩)] := by decide +kernel
theorem signsA1 : signsF [97, 42, 195, 169, 63] = some [.that 97, .any, .that 233, .one] := by decide +kernel
theorem signsA3 : signsF [126, 42] = some [.that 42] := by decide +kernel
theorem rnA1 : rn [97, 120, 120, 195, 169, 121] = [97, 120, 120, 233, 121] := by decide +kernel
theorem fitsA1 : fitsF [97, 42, 195, 169, 63] [97, 120, 120, 195, 169, 121] = true := by
  rw [fitsF_some signsA1 (by decide +kernel), rnA1]
  exact .for_ (.that 97) _ 97 _ rfl (.any _ [120, 120] _ (.for_ (.that 233) _ 233 _ rfl (.for_ .one _ 121 _ rfl .nil)))
theorem fitsA3 : fitsF [126, 42] [42] = true := by
  rw [fitsF_some signsA3 (by decide +kernel), show rn [42] = [42] by decide +kernel]
  exact .for_ (.that 42) _ 42 _ rfl .nil
theorem fitsA4 : fitsF [126, 42] [120] = false := by
  cases e : fitsF [126, 42] [120] with
  | false => rfl
  | true =>
    rw [fitsF_some signsA3 (by decide +kernel), show rn [120] = [120] by decide +kernel, Mt.one_iff (by simp)] at e
    obtain ⟨c, h1, h2⟩ := e
    obtain rfl : 120 = c := by simpa using h1
    cases h2
theorem meansA1 : meansE [97, 61, 97, 42, 195, 169, 63] setA1 = .returned (.tuple #[.bool true, .int .i64 0]) :=
  means_is readA1 setA1_ok (by
    have h1 : getL setA1 ⟨#[97]⟩ = (⟨#[97, 120, 120, 195, 169, 121]⟩, true) := by decide +kernel
    unfold allM
    simp only [List.all_cons, List.all_nil, h1, Bool.and_true, Bool.true_and]
    exact fitsA1)
theorem meansA2 : meansE [98, 61, 42] setA1 = .returned (.tuple #[.bool false, .int .i64 0]) :=
  means_is readA2 setA1_ok (by
    have h1 : getL setA1 ⟨#[98]⟩ = (⟨#[]⟩, false) := by decide +kernel
    unfold allM
    simp only [List.all_cons, List.all_nil, h1, Bool.and_true, Bool.false_and])
set_option maxRecDepth 100000 in
set_option maxHeartbeats 1000000 in
theorem shown_any (w : World) (hT : Tb w) : Calls Tryd.prog 5 #[] w fun e w' => e = .returned (.bool true) ∧ Below w.heap.size w w' := by
  have HT := Lib.hid hT
  have hba := below_al (below_0 w) (.cells #[.string ⟨#[97]⟩, .string ⟨#[97, 120, 120, 195, 169, 121]⟩] 37)
  have HL := Lib.hid (Blk.new w 37 #[.string ⟨#[97]⟩, .string ⟨#[97, 120, 120, 195, 169, 121]⟩]).lab
  have HB := Lib.hid hba
  have QM : Hid (∀ w1, Below (w.alloc (.cells #[.string ⟨#[97]⟩, .string ⟨#[97, 120, 120, 195, 169, 121]⟩] 37)).heap.size (w.alloc (.cells #[.string ⟨#[97]⟩, .string ⟨#[97, 120, 120, 195, 169, 121]⟩] 37)) w1 → ∀ s : ByteArray, s.size ≤ 100 → Calls Tryd.prog 10 #[.string s, .slice (some ⟨w.heap.size, 0, none⟩) 1 1] w1 fun e w' => e = meansE (tx s) setA1 ∧ Below w1.heap.size w1 w') := fun w1 hb s hs =>
    means_any s (by omega) _ setA1 1 (by decide) (by decide) w1 (HT.out.later (HB.out.trans (hb.mono HB.out.size))) (ls_later HL.out hb)
  clear hT hba HL
  go_enter Tryd.func5, Tryd.ntmps5
  go_wp2_with fail
  generalize w.alloc (.cells #[.string ⟨#[97]⟩, .string ⟨#[97, 120, 120, 195, 169, 121]⟩] 37) = w1 at *
  refine (QM.out w1 (Below.refl _ _) ⟨#[97, 61, 97, 42, 195, 169, 63]⟩ (by decide)).mono ?_
  rintro e w2 ⟨h2, hb2⟩
  obtain rfl := h2.trans meansA1
  have QM2 := Lib.hid (QM.out w2 hb2 ⟨#[98, 61, 42]⟩ (by decide))
  have HB2 : Hid (Below w.heap.size w w2) := HB.out.trans (hb2.mono HB.out.size)
  clear QM hb2 HB h2
  go_wp2_with fail
  refine QM2.out.mono ?_
  rintro e w3 ⟨h3, hb3⟩
  obtain rfl := h3.trans meansA2
  have HB3 : Hid (Below w.heap.size w w3) := HB2.out.trans (hb3.mono HB2.out.size)
  have Q3 := Lib.hid (fits_any ⟨#[126, 42]⟩ ⟨#[42]⟩ w3 (by decide) (by decide) (HT.out.later HB3.out))
  rw [show fitsF (tx ⟨#[126, 42]⟩) (tx ⟨#[42]⟩) = true from fitsA3] at Q3
  clear QM2 hb3 HB2 h3
  go_wp2_with fail
  refine Q3.out.mono ?_
  rintro e w4 ⟨rfl, hb4⟩
  have HB4 : Hid (Below w.heap.size w w4) := HB3.out.trans (hb4.mono HB3.out.size)
  have Q4 := Lib.hid (fits_any ⟨#[126, 42]⟩ ⟨#[120]⟩ w4 (by decide) (by decide) (HT.out.later HB4.out))
  rw [show fitsF (tx ⟨#[126, 42]⟩) (tx ⟨#[120]⟩) = false from fitsA4] at Q4
  clear Q3 hb4 HB3
  go_wp2_with fail
  refine Q4.out.mono ?_
  rintro e w5 ⟨rfl, hb5⟩
  go_wp2_with fail
  go_ret
  exact ⟨rfl, HB4.out.trans (hb5.mono HB4.out.size)⟩
end Go.Proofs.YtgfoeicfigfepaaDoor

/-
  Walks of the reference of chapter 6: Of, Add.
-/
import Derived.Test.YtdobgfadnenhaaaExactPut
import Derived.Test.YtdobgfadnenhaaaExactApi
namespace Go.Proofs.Ytdobgfadnenhaaa
open Go.RowKit
set_option linter.unusedVariables false
/-- What the reference's Of, Add, Merge hand back. -/
def RfRes (w : World) (r : List Int × Int) (e : Ending) (w' : World) : Prop :=
  Below w.heap.size w w' ∧ ∃ A c, e = .returned (.tuple #[.agg #[.slice A r.1.length c], .int .i64 r.2]) ∧ Sl w' w'.heap.size A r.1
set_option maxHeartbeats 1000000 in
theorem rof_any (w : World) (c : Nat) (A : Option Addr) (l : List Int) (hS : Sl w w.heap.size A l) (hl : l.length ≤ 65536) :
    Calls Try.prog 21 #[.slice A l.length c] w (RfRes w (ofF l)) := by
  have HB := Lib.hid (Boxed.new w 24 (.slice none 0 0))
  have HS1 := Lib.hid (hS.later (below_al (below_0 _) (.cells #[.slice none 0 0] 24)))
  have DA : Below w.heap.size w (w.alloc (.cells #[.slice none 0 0] 24)) := below_al (below_0 _) _
  clear hS
  go_enter Try.func21, Try.ntmps21
  go_wp2_with fail
  obtain ⟨W0, hW0⟩ : ∃ W0, w.alloc (.cells #[.slice none 0 0] 24) = W0 := ⟨_, rfl⟩
  rw [hW0] at HB HS1 DA ⊢
  clear hW0
  go_loopw [4, 5] (fun v i wr => ∃ (k : Nat) (A' : Option Addr) (c' : Nat), k ≤ l.length ∧ i = .int .i64 k ∧ v = .slice A' (insAll [] (l.take k)).length c' ∧ (insAll [] (l.take k)).length ≤ c' ∧ (A' = none → c' = 0) ∧ Sl wr wr.heap.size A' (insAll [] (l.take k)) ∧ Below W0.heap.size W0 wr) (fun _ i _ => l.length - (intOf i).toNat)
  case atStart => exact ⟨0, none, 0, Nat.zero_le _, rfl, rfl, Nat.le_refl _, fun _ => rfl, Sl.nil, Below.refl _ _⟩
  case round =>
    obtain ⟨k, A', c', hk, rfl, rfl, hc', hA', hS', hbw⟩ := hrel
    have hle := length_insAll_le rises_nil (l.take k)
    have hlt2 : (l.take k).length ≤ k := List.length_take_le _ _
    simp only [List.length_nil] at hle
    have HLE : Hid ((insAll [] (l.take k)).length ≤ 65536) := by show _ ≤ _; omega
    have HS' := Lib.hid hS'
    have HA' := Lib.hid hA'
    have HBW := Lib.hid hbw
    clear hle hlt2 hS' hA'
    by_cases hlt : k < l.length
    · obtain ⟨b, off, rfl, hb, hcc⟩ := (HS1.out.later hbw).at_ (by omega)
      have h1 := hcc k hlt
      have hi : (k : Int) < (l.length : Int) := by omega
      have HE : Hid (insAll [] (l.take (k + 1)) = ins (insAll [] (l.take k)) (nth l k)) := by
        show _ = _
        rw [← insAll_snoc, List.take_succ_eq_append_getElem hlt]; simp [nth, hlt]
      clear hcc hbw
      go_wp2_with fail
      refine (put_any _ c' A' (insAll [] (l.take k)) (nth l k) (rises_insAll rises_nil _) (by exact HS'.out) hc' HA'.out HLE.out).mono ?_
      rintro e w1 ⟨A1, c1, rfl, hc1, hA1, hS1, hb1⟩
      rw [← HE.out] at hc1 hS1 ⊢
      have HS2 := Lib.hid hS1
      have HA2 := Lib.hid hA1
      clear hA1 hS1
      go_wp2_with fail
      go_roundw
      case rel => exact ⟨k + 1, A1, c1, by omega, by go_num, rfl, hc1, HA2.out, HS2.out, Below.two HBW.out hb1⟩
      case measure => simp [intOf]; omega
    · obtain rfl : k = l.length := by omega
      have HT : Hid (l.take l.length = l) := List.take_length
      have hx := boxed_below HB.out hbw
      have hcx := hx.cell
      have hfx := hx.frozen
      have hz := hx.lt
      have TW := Below.two DA hbw
      rw [HT.out] at hc' HS' HLE ⊢
      clear hbw
      by_cases h64 : 64 < (insAll [] l).length
      · have d64 : decide (64 < ((insAll [] l).length : Int)) = true := by simp; omega
        have HO : Hid (ofF l = ([], 60)) := by show ofF l = _; rw [ofF, cut64, if_neg (by omega)]
        have hcs := (hx.set (.slice none 0 0)).cell
        go_wp2_with fail
        exact bodyPost_ret (v := .tuple #[.agg #[.slice none 0 0], .int .i64 60]) (by simp [results, Try.results21, go_sem, hcs]) rfl ⟨TW.setCell (Nat.le_refl _) _, none, 0, by rw [HO.out]; rfl, by rw [HO.out]; exact Sl.nil⟩
      · have d64 : decide (64 < ((insAll [] l).length : Int)) = false := by simp; omega
        have HO : Hid (ofF l = (insAll [] l, 0)) := by show ofF l = _; rw [ofF, cut64, if_pos (by omega)]
        have hcs := (hx.set (.slice A' (insAll [] l).length c')).cell
        go_wp2_with fail
        refine bodyPost_ret (v := .tuple #[.agg #[.slice A' (insAll [] l).length c'], .int .i64 0]) (by simp [results, Try.results21, go_sem, hcs]) rfl ⟨TW.setCell (Nat.le_refl _) _, A', c', by rw [HO.out], ?_⟩
        rw [HO.out]
        have := sl_box HS'.out hx (fun n e => by cases e) (.slice A' (insAll [] l).length c')
        simpa [World.setCell] using this
end Go.Proofs.Ytdobgfadnenhaaa

/-
  Right and Means of a scope.
-/
import Derived.Test.YtgfoeicfigfepaaDoorScRead
namespace Go.Proofs.YtgfoeicfigfepaaDoor
open Go.RowKit
set_option linter.unusedVariables false
set_option linter.unusedSimpArgs false
set_option maxRecDepth 100000 in
theorem rightS_any (s : ByteArray) (hs : s.size ≤ 4294967296) (w : World) (hT : Tb w) :
    Calls Tryd.prog 11 #[.string s] w fun e w' => e = .returned (.bool (readSc (tx s)).isSome) ∧ Below w.heap.size w w' := by
  have Q := Lib.hid (read_any s hs w hT)
  clear hT
  go_enter Tryd.func11, Tryd.ntmps11
  go_wp2_with fail
  refine Q.out.mono ?_
  rintro e w1 ⟨hb1, h⟩
  cases hp : readSc (tx s) with
  | none =>
    rw [hp] at h
    subst h
    go_wp2_with fail
    go_ret
    exact ⟨ret_bool (by rw [hp]; rfl), hb1⟩
  | some l =>
    rw [hp] at h
    obtain ⟨A, c, rfl, _⟩ := h
    go_wp2_with fail
    go_ret
    exact ⟨ret_bool (by rw [hp]; rfl), hb1⟩
theorem allM_take {L set : List Lab} {k : Nat} (h : k < L.length) : allM (L.take (k + 1)) set = (allM (L.take k) set && ((getL set (lth L k).1).2 && fitsF (tx (lth L k).2) (tx (getL set (lth L k).1).1))) := by
  rw [take_lth_succ h, allM_append]
  unfold allM
  simp
theorem allM_bad {L set : List Lab} {k : Nat} (h : allM (L.take k) set = false) : allM L set = false := by
  rw [← List.take_append_drop k L, allM_append, h]; rfl
theorem read_sizes {s : List UInt8} {L : List Lab} (h : readSc s = some L) : ∀ x ∈ L, x.1.size ≤ s.length ∧ x.2.size ≤ s.length := by
  by_cases h0 : s = []
  · unfold readSc at h; rw [if_pos h0] at h; cases h; intro x hx; cases hx
  · have e := read_is h0 h
    subst e
    intro x hx
    obtain ⟨y, hy, rfl⟩ := List.mem_map.1 hx
    have hl := splitL_len s y hy
    constructor
    · show (bt _).size ≤ _; rw [← tx_len, tx_bt, List.length_take]; omega
    · show (bt _).size ≤ _; rw [← tx_len, tx_bt, List.length_drop]; omega
theorem read_len {s : List UInt8} {L : List Lab} (h : readSc s = some L) : L.length ≤ s.length + 1 := by
  by_cases h0 : s = []
  · unfold readSc at h; rw [if_pos h0] at h; cases h; exact Nat.zero_le _
  · rw [read_is h0 h, List.length_map]; exact splitL_count s
theorem getL_size {set : List Lab} {N : Nat} (h : ∀ x ∈ set, x.1.size ≤ N ∧ x.2.size ≤ N) (n : ByteArray) : (getL set n).1.size ≤ N := by
  unfold getL
  split
  · next x e => exact (h x (List.mem_of_find?_eq_some e)).2
  · exact Nat.zero_le _
/-- What Means hands back. -/
noncomputable def meansE (s : List UInt8) (set : List Lab) : Ending := .returned (.tuple #[.bool (meansF s set).1, .int .i64 (meansF s set).2])
theorem means_no {s : List UInt8} {set : List Lab} (h : readSc s = none) : meansE s set = .returned (.tuple #[.bool false, .int .i64 50]) := by unfold meansE meansF; rw [h]
theorem means_set {s : List UInt8} {set L : List Lab} (h : readSc s = some L) (h2 : setB set = false) : meansE s set = .returned (.tuple #[.bool false, .int .i64 50]) := by unfold meansE meansF; rw [h]; simp [h2]
theorem means_is {s : List UInt8} {set L : List Lab} (h : readSc s = some L) (h2 : setB set = true) {b : Bool} (h3 : allM L set = b) : meansE s set = .returned (.tuple #[.bool b, .int .i64 0]) := by unfold meansE meansF; rw [h]; simp [h2, h3]
set_option maxRecDepth 100000 in
set_option maxHeartbeats 4000000 in
theorem means_any (s : ByteArray) (hs : s.size ≤ 100000) (A : Option Addr) (set : List Lab) (cap : Nat) (hl : set.length ≤ 1000) (hz : ∀ x ∈ set, x.1.size ≤ 100000 ∧ x.2.size ≤ 100000) (w : World) (hT : Tb w) (hS : Lb w w.heap.size A set) :
    Calls Tryd.prog 10 #[.string s, .slice A set.length cap] w fun e w' => e = meansE (tx s) set ∧ Below w.heap.size w w' := by
  have Q := Lib.hid (read_any s (by omega) w hT)
  have HT := Lib.hid hT
  have HS := Lib.hid hS
  have HZ := Lib.hid hz
  have QR : Hid (∀ w1, Below w.heap.size w w1 → Calls Tryd.prog 12 #[.slice A set.length cap] w1 fun e w' => e = .returned (.bool (setB set)) ∧ Below w1.heap.size w1 w') := fun w1 hb => right_any A set cap (fun x hx => by have := (hz x hx).2; omega) w1 (hT.later hb) (ls_later hS hb)
  have QG : Hid (∀ w1 n, Below w.heap.size w w1 → Calls Tryd.prog 18 #[.slice A set.length cap, .string n] w1 _) := fun w1 n hb => get_any A set cap n (by omega) w1 (ls_later hS hb)
  clear hT hS hz
  go_enter Tryd.func10, Tryd.ntmps10
  go_wp2_with fail
  refine Q.out.mono ?_
  rintro e w1 ⟨hb1, h⟩
  have HB1 := Lib.hid hb1
  clear Q hb1
  cases hp : readSc (tx s) with
  | none =>
    rw [hp] at h
    subst h
    have HE := Lib.hid (means_no (set := set) hp)
    clear hp
    go_wp2_with fail
    go_ret2
    exact ⟨HE.out.symm, HB1.out⟩
  | some L =>
    rw [hp] at h
    obtain ⟨A1, c1, rfl, hS1⟩ := h
    have HP := Lib.hid hp
    have HS1 := Lib.hid hS1
    have QR1 := Lib.hid (QR.out w1 HB1.out)
    clear hp hS1 QR
    go_wp2_with fail
    refine QR1.out.mono ?_
    rintro e w2 ⟨rfl, hb2⟩
    have HB2 := Lib.hid (Below.two HB1.out hb2)
    have HS2 := Lib.hid (ls_later HS1.out hb2)
    clear hb2 QR1 HS1 HB1
    cases hset : setB set with
    | false =>
      have HE := Lib.hid (means_set HP.out hset)
      clear hset
      go_wp2_with fail
      go_ret2
      exact ⟨HE.out.symm, HB2.out⟩
    | true =>
      have HE : Hid (∀ b, allM L set = b → meansE (tx s) set = .returned (.tuple #[.bool b, .int .i64 0])) := fun b h => means_is HP.out hset h
      have HRS := Lib.hid (read_sizes HP.out)
      have hLn : L.length ≤ 200000 := by have := read_len HP.out; rw [tx_len] at this; omega
      clear hset HP
      go_wp2_with fail
      go_loopw [26] (fun i wr => ∃ k : Nat, i = .int .i64 (k : Int) ∧ k ≤ L.length ∧ Hid (allM (L.take k) set = true) ∧ Hid (Below w2.heap.size w2 wr)) (fun i _ => L.length - (RowKit.intOf i).toNat)
      case atStart => exact ⟨0, rfl, Nat.zero_le _, rfl, Below.refl _ _⟩
      case round =>
        obtain ⟨k, rfl, hk, HA, HB⟩ := hrel
        by_cases h1 : k < L.length
        · have d1 : decide ((k : Int) < (L.length : Int)) = true := decide_eq_true (by omega)
          obtain ⟨b, off, rfl, hb, hc⟩ := HS2.out.at_ (by omega)
          obtain ⟨c1', c2'⟩ := hc k h1
          have i1 := (HB.out.cell (p := ⟨b, off + k * 2, none⟩) hb).trans c1'
          have i2 := (HB.out.cell (p := ⟨b, off + k * 2 + 1, none⟩) hb).trans c2'
          have hbw : b < wr.heap.size := by have := HB.out.size; omega
          have hi1 : (0 : Int) ≤ (k : Int) := by omega
          have hi2 : (k : Int) < (L.length : Int) := by omega
          have hpt : (lth L k).2.size ≤ 100000 := by
            have hm : lth L k ∈ L := by simp [lth, h1]
            have := (HRS.out _ hm).2
            rw [tx_len] at this; omega
          have HTK := Lib.hid (allM_take (set := set) h1)
          rw [HA.out, Bool.true_and] at HTK
          have HNO : Hid (allM (L.take (k + 1)) set = false → meansE (tx s) set = .returned (.tuple #[.bool false, .int .i64 0])) := fun h => HE.out false (allM_bad h)
          clear hc c1' c2'
          generalize lth L k = x at *
          obtain ⟨nm, pt⟩ := x
          simp only at i1 i2 hpt HTK
          have hba := below_al (below_0 wr) (.cells #[.string nm, .string pt] 53)
          have NB := Lib.hid (Blk.new wr 53 #[.string nm, .string pt])
          have HBA : Hid (Below w.heap.size w (wr.alloc (.cells #[.string nm, .string pt] 53))) := HB2.out.trans ((Below.two HB.out hba).mono HB2.out.size)
          have QG1 := Lib.hid (QG.out _ nm HBA.out)
          have hgs := getL_size HZ.out nm
          have HBB := Lib.hid (Below.two HB.out hba)
          have hww : wr.heap.size < (wr.alloc (.cells #[.string nm, .string pt] 53)).heap.size := by simp
          generalize getL set nm = gv at *
          obtain ⟨val, ok⟩ := gv
          simp only at QG1 hgs HTK
          clear hba QG
          go_wp2_with fail
          generalize wr.alloc (.cells #[.string nm, .string pt] 53) = w3 at *
          refine QG1.out.mono ?_
          rintro e w4 ⟨rfl, hb4⟩
          have HB4 := Lib.hid (Below.two HBB.out hb4)
          have HW4 : Hid (Below w.heap.size w w4) := HBA.out.trans (hb4.mono HBA.out.size)
          have NB4 := Lib.hid (NB.out.later hb4)
          have n0 := NB4.out.p0
          have n1 := NB4.out.p1
          have nz := NB4.out.lt
          clear NB hb4 HBB HBA QG1
          cases ok with
          | false =>
            have HR := Lib.hid (HNO.out (by rw [HTK.out]; rfl))
            clear HNO HTK HE
            go_wp2_with fail
            go_ret2
            exact ⟨HR.out.symm, HW4.out⟩
          | true =>
            rw [Bool.true_and] at HTK
            have QF := Lib.hid (fits_any pt val w4 (by omega) (by omega) (HT.out.later HW4.out))
            cases hf : fitsF (tx pt) (tx val) with
            | false =>
              have HR := Lib.hid (HNO.out (by rw [HTK.out, hf]))
              rw [hf] at QF
              clear HNO HTK HE hf
              go_wp2_with fail
              refine QF.out.mono ?_
              rintro e w5 ⟨rfl, hb5⟩
              go_wp2_with fail
              go_ret2
              exact ⟨HR.out.symm, HW4.out.trans (hb5.mono HW4.out.size)⟩
            | true =>
              rw [hf] at QF HTK
              clear HNO HE hf
              go_wp2_with fail
              refine QF.out.mono ?_
              rintro e w5 ⟨rfl, hb5⟩
              have HB5 := Lib.hid (Below.two HB4.out hb5)
              clear hb5 QF
              go_wp2_with fail
              go_roundw
              case rel => exact ⟨k + 1, by go_num, by omega, HTK.out, HB5.out⟩
              case measure => simp [RowKit.intOf]; omega
        · have hkk : k = L.length := by omega
          subst hkk
          have d1 : decide ((L.length : Int) < (L.length : Int)) = false := by simp
          have HR := Lib.hid (HE.out true (by have := HA.out; rwa [List.take_length] at this))
          clear HE HA
          go_wp2_with fail
          go_ret2
          exact ⟨HR.out.symm, HB2.out.trans (HB.out.mono HB2.out.size)⟩
end Go.Proofs.YtgfoeicfigfepaaDoor

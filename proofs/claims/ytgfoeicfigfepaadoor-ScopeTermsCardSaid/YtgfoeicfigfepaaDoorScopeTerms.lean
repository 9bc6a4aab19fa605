/-
  The walk of the law aviarylaw05.ScopeTerms.
-/
import Derived.Test.YtgfoeicfigfepaaDoorScShown
namespace Go.Proofs.YtgfoeicfigfepaaDoor
open Go.RowKit
set_option linter.unusedVariables false
set_option linter.unusedSimpArgs false
/-- The scope so far, and whether all of its terms mean the set. -/
def TmI (set : List Lab) (cur : List UInt8) (b : Bool) : Prop := setB set = true → ∃ L, readSc cur = some L ∧ b = allM L set
theorem TmI.start (set : List Lab) : TmI set [] true := fun _ => ⟨[], rfl, rfl⟩
theorem means_zero {t : List UInt8} {set : List Lab} {b : Bool} (hs : setB set = true) (h : meansF t set = (b, 0)) : ∃ K, readSc t = some K ∧ b = allM K set := by
  unfold meansF at h
  cases e : readSc t with
  | none => rw [e] at h; cases h
  | some K =>
    rw [e] at h
    simp only [hs, if_true] at h
    exact ⟨K, rfl, (congrArg Prod.fst h).symm⟩
theorem TmI.first {set : List Lab} {b is : Bool} {t : List UInt8} (h : TmI set [] b) (hm : meansF t set = (is, 0)) : TmI set t (b && is) := fun hs => by
  obtain ⟨L, h1, h2⟩ := h hs
  obtain rfl : [] = L := by simpa [readSc] using h1
  obtain ⟨K, h3, h4⟩ := means_zero hs hm
  refine ⟨K, h3, ?_⟩
  rw [h2, h4]; rfl
theorem TmI.next {set : List Lab} {b is : Bool} {cur t : List UInt8} (h : TmI set cur b) (hc : cur ≠ []) (ht : t ≠ []) (hm : meansF t set = (is, 0)) (hr : (readSc (cur ++ 59 :: t)).isSome = true) : TmI set (cur ++ 59 :: t) (b && is) := fun hs => by
  obtain ⟨L, h1, h2⟩ := h hs
  obtain ⟨K, h3, h4⟩ := means_zero hs hm
  obtain ⟨J, h5⟩ := Option.isSome_iff_exists.1 hr
  refine ⟨J, h5, ?_⟩
  rw [read_join hc ht h1 h3 h5, allM_append, h2, h4]
theorem TmI.end_ {set : List Lab} {b : Bool} {cur : List UInt8} (h : TmI set cur b) (hs : setB set = true) : meansE cur set = .returned (.tuple #[.bool b, .int .i64 0]) := by
  obtain ⟨L, h1, h2⟩ := h hs
  exact means_is h1 hs h2.symm
theorem means_wrong {set : List Lab} (cur : List UInt8) (hs : setB set = false) : meansE cur set = .returned (.tuple #[.bool false, .int .i64 50]) := by
  cases e : readSc cur with
  | none => exact means_no e
  | some L => exact means_set e hs
theorem meansE_two (t : List UInt8) (set : List Lab) : meansE t set = .returned (.tuple #[.bool (meansF t set).1, .int .i64 (meansF t set).2]) := rfl
theorem tx_next (s t : ByteArray) : tx (s ++ ⟨#[59]⟩ ++ t) = tx s ++ 59 :: tx t := by
  unfold tx
  simp [ByteArray.data_append]
set_option maxRecDepth 100000 in
set_option maxHeartbeats 16000000 in
theorem scopeTerms_walk (A1 : Option Addr) (ls : List ByteArray) (n1 cap1 : Nat) (hl1 : ls.length = n1) (hn1 : n1 ≤ maxLen) (hz1 : ∀ s ∈ ls, s.size ≤ maxLen) (A : Option Addr) (l : List Lab) (n cap : Nat) (hk : l.length = min n 10) (hn : n ≤ maxLen) (hz : ∀ x ∈ l, x.1.size ≤ maxLen ∧ x.2.size ≤ maxLen) (w : World) (hT : Tb w) (hR : Rd w w.heap.size A1 (ls.map Value.string)) (hS : Lb w w.heap.size A l) :
    Calls Tryd.prog 4 #[.slice A1 n1 cap1, .slice A n cap] w fun e w' => e = .returned (.bool true) ∧ Below w.heap.size w w' := by
  have HT := Lib.hid hT
  have QSH := Lib.hid (shown_any w hT)
  have QF : Hid (∀ w1, Below w.heap.size w w1 → Calls Tryd.prog 9 #[.slice A n cap] w1 _) := fun w1 hb => few_any A l n cap hk hn hz w1 (ls_later hS hb)
  have HR := Lib.hid hR
  have HZ1 := Lib.hid hz1
  have HFS : Hid (∀ x ∈ l.map fewL, x.1.size ≤ 100000 ∧ x.2.size ≤ 100000) := fun x hx => by
    obtain ⟨y, _, rfl⟩ := List.mem_map.1 hx
    have := fewL_le y; omega
  have hfl : (l.map fewL).length ≤ 10 := by rw [List.length_map]; omega
  unfold maxLen at hn1
  clear hT hR hS hz1 hz hk hn
  go_enter Tryd.func4, Tryd.ntmps4
  go_wp2_with fail
  refine QSH.out.mono ?_
  rintro e w1 ⟨rfl, hb1⟩
  have QF1 := Lib.hid (QF.out w1 hb1)
  have HB1 := Lib.hid hb1
  clear hb1 QSH QF
  go_wp2_with fail
  refine QF1.out.mono ?_
  rintro e w2 ⟨⟨A2, c2, rfl, _, hS2⟩, hb2⟩
  have HS2 := Lib.hid hS2
  have HB2 : Hid (Below w.heap.size w w2) := HB1.out.trans (hb2.mono HB1.out.size)
  clear hS2 hb2 QF1 HB1
  generalize l.map fewL = set at *
  have QM : Hid (∀ (t : ByteArray) w3, t.size ≤ 100000 → Below w2.heap.size w2 w3 → Calls Tryd.prog 10 #[.string t, .slice A2 set.length c2] w3 fun e w' => e = meansE (tx t) set ∧ Below w3.heap.size w3 w') := fun t w3 ht hb =>
    means_any t ht A2 set c2 (by omega) HFS.out w3 ((HT.out.later HB2.out).later hb) (ls_later HS2.out hb)
  have QR : Hid (∀ (t : ByteArray) w3, t.size ≤ 100000 → Below w2.heap.size w2 w3 → Calls Tryd.prog 11 #[.string t] w3 fun e w' => e = .returned (.bool (readSc (tx t)).isSome) ∧ Below w3.heap.size w3 w') := fun t w3 ht hb =>
    rightS_any t (by omega) w3 ((HT.out.later HB2.out).later hb)
  have QL : Hid (∀ w3, Below w2.heap.size w2 w3 → Calls Tryd.prog 12 #[.slice A2 set.length c2] w3 fun e w' => e = .returned (.bool (setB set)) ∧ Below w3.heap.size w3 w') := fun w3 hb =>
    right_any A2 set c2 (fun x hx => by have := (HFS.out x hx).2; omega) w3 ((HT.out.later HB2.out).later hb) (ls_later HS2.out hb)
  have HR2 : Hid (Rd w2 w.heap.size A1 (ls.map Value.string)) := Rd.below HR.out HB2.out
  have hw2 := HB2.out.size
  clear HT HS2 HFS HR hfl
  generalize set.length = sn at *
  go_wp2_with fail
  go_loopw [6, 7, 8] (fun s al i wr => ∃ (k : Nat) (cur : ByteArray) (b : Bool), s = .string cur ∧ al = .bool b ∧ i = .int .i64 (k : Int) ∧ k ≤ 4 ∧ k ≤ n1 ∧ Hid (TmI set (tx cur) b) ∧ cur.size ≤ 101 * k ∧ Hid (Below w2.heap.size w2 wr)) (fun _ _ i _ => 4 - (RowKit.intOf i).toNat)
  case atStart => exact ⟨0, ⟨#[]⟩, true, rfl, rfl, rfl, Nat.zero_le _, Nat.zero_le _, TmI.start set, Nat.le_refl _, Below.refl _ _⟩
  case round =>
    obtain ⟨k, cur, b, rfl, rfl, rfl, hk4, hkn, HI, hcs, HB⟩ := hrel
    by_cases hgo : k < n1 ∧ k < 4
    · obtain ⟨g1, g2⟩ := hgo
      have d1 : decide ((k : Int) < (n1 : Int)) = true := decide_eq_true (by omega)
      have d2 : decide ((k : Int) < 4) = true := decide_eq_true (by omega)
      have hkl : k < ls.length := by omega
      obtain ⟨bb, off, rfl, hbb, hc⟩ := Rd.at_ HR2.out (by rw [List.length_map]; omega)
      have hck := hc k (.string ls[k]) (by rw [List.getElem?_map, List.getElem?_eq_getElem hkl]; rfl)
      have i1 : wr.cell? ⟨bb, off + k, none⟩ = some (.string ls[k]) := (HB.out.cell (p := ⟨bb, off + k, none⟩) (by show bb < _; omega)).trans hck
      have hbw : bb < wr.heap.size := by have := HB.out.size; omega
      have hts := HZ1.out _ (List.getElem_mem hkl)
      have hi1 : (0 : Int) ≤ (k : Int) := by omega
      have hi2 : (k : Int) < (n1 : Int) := by omega
      clear hc hck
      generalize ls[k] = t0 at *
      unfold maxLen at hts
      obtain ⟨a, ha⟩ : ∃ a : Nat, min t0.size 100 = a := ⟨_, rfl⟩
      have ma : min (t0.size : Int) 100 = (a : Int) := by omega
      have la0 : (0 : Int) ≤ (a : Int) := by omega
      have la1 : (a : Int) ≤ (t0.size : Int) := by omega
      have hex : (t0.extract 0 a).size ≤ 100 := by rw [← tx_len, tx_extract, List.drop_zero, List.length_take]; omega
      clear ha
      have hmix : Tryd.prog.follows .mixedOrders = true := by kernel_rfl
      have HBD : Hid (Below w2.heap.size w2 wr.drew) := below_drewN HB.out 1
      have hpos : cur.size ≤ 404 := by omega
      by_cases hc0 : tx cur = []
      · obtain rfl : cur = ⟨#[]⟩ := tx_inj hc0
        have dc : ((⟨#[]⟩ : ByteArray).toList == ([] : List UInt8)) = true := by decide +kernel
        go_wp2_with fail
        go_region_o
        go_wp2_with fail
        generalize t0.extract 0 a = t at *
        have QM1 := Lib.hid (QM.out t wr.drew (by omega) HBD.out)
        rw [meansE_two] at QM1
        obtain ⟨mf, hmf⟩ : ∃ q, meansF (tx t) set = q := ⟨_, rfl⟩
        rw [hmf] at QM1
        obtain ⟨is, en⟩ := mf
        simp only at QM1
        refine QM1.out.mono ?_
        rintro e w3 ⟨rfl, hb3⟩
        have HB3 : Hid (Below w2.heap.size w2 w3) := Below.two HBD.out hb3
        clear QM1 hb3 HBD QM QL HB i1
        by_cases ht0 : tx t = []
        · have dt : (t.toList == ([] : List UInt8)) = true := by rw [tx_toList, ht0]; rfl
          clear hmf QR
          go_wp2_with fail
          go_roundw
          case rel => exact ⟨k + 1, _, b, rfl, rfl, by go_num, by omega, by omega, HI.out, by omega, HB3.out⟩
          case measure => simp [RowKit.intOf]; omega
        · have dt : (t.toList == ([] : List UInt8)) = false := by rw [tx_toList]; simpa using ht0
          by_cases hen : en = 0
          · subst hen
            have QR1 := Lib.hid (QR.out t w3 (by omega) HB3.out)
            cases hsome : (readSc (tx t)).isSome with
            | false =>
              rw [hsome] at QR1
              clear hmf QR hsome
              go_wp2_with fail
              refine QR1.out.mono ?_
              rintro e w4 ⟨rfl, hb4⟩
              have HB4 := Lib.hid (Below.two HB3.out hb4)
              clear hb4 QR1
              go_wp2_with fail
              go_roundw
              case rel => exact ⟨k + 1, _, b, rfl, rfl, by go_num, by omega, by omega, HI.out, by omega, HB4.out⟩
              case measure => simp [RowKit.intOf]; omega
            | true =>
              rw [hsome] at QR1
              have HN : Hid (TmI set (tx t) (b && is)) := TmI.first HI.out hmf
              clear hmf QR hsome HI
              cases b
              all_goals
                go_wp2_with fail
                refine QR1.out.mono ?_
                rintro e w4 ⟨rfl, hb4⟩
                have HB4 := Lib.hid (Below.two HB3.out hb4)
                clear hb4 QR1
                go_wp2_with fail
                go_roundw
                case rel => exact ⟨k + 1, _, _, rfl, rfl, by go_num, by omega, by omega, HN.out, by omega, HB4.out⟩
                case measure => simp [RowKit.intOf]; omega
          · have de : (en == 0) = false := by simpa using hen
            clear hmf QR
            go_wp2_with fail
            go_roundw
            case rel => exact ⟨k + 1, _, b, rfl, rfl, by go_num, by omega, by omega, HI.out, by omega, HB3.out⟩
            case measure => simp [RowKit.intOf]; omega
      · have dc : (cur.toList == ([] : List UInt8)) = false := by rw [tx_toList]; simpa using hc0
        have j1 : Op.stringOp .add cur ⟨#[59]⟩ = pure (.string (cur ++ ⟨#[59]⟩)) := stringOp_add (by show cur.size + 1 ≤ _; omega)
        have j2 : Op.stringOp .add (cur ++ ⟨#[59]⟩) (t0.extract 0 a) = pure (.string (cur ++ ⟨#[59]⟩ ++ t0.extract 0 a)) := stringOp_add (by rw [ByteArray.size_append]; show cur.size + 1 + (t0.extract 0 a).size ≤ _; omega)
        go_wp2_with fail
        go_region_o
        go_wp2_with fail
        generalize t0.extract 0 a = t at *
        have hnx : (cur ++ ⟨#[59]⟩ ++ t).size ≤ 100000 := by rw [ByteArray.size_append, ByteArray.size_append]; show cur.size + 1 + t.size ≤ _; omega
        have QM1 := Lib.hid (QM.out t wr.drew (by omega) HBD.out)
        rw [meansE_two] at QM1
        obtain ⟨mf, hmf⟩ : ∃ q, meansF (tx t) set = q := ⟨_, rfl⟩
        rw [hmf] at QM1
        obtain ⟨is, en⟩ := mf
        simp only at QM1
        refine QM1.out.mono ?_
        rintro e w3 ⟨rfl, hb3⟩
        have HB3 : Hid (Below w2.heap.size w2 w3) := Below.two HBD.out hb3
        clear QM1 hb3 HBD QM QL HB i1
        by_cases ht0 : tx t = []
        · have dt : (t.toList == ([] : List UInt8)) = true := by rw [tx_toList, ht0]; rfl
          clear hmf QR
          go_wp2_with fail
          go_roundw
          case rel => exact ⟨k + 1, _, b, rfl, rfl, by go_num, by omega, by omega, HI.out, by omega, HB3.out⟩
          case measure => simp [RowKit.intOf]; omega
        · have dt : (t.toList == ([] : List UInt8)) = false := by rw [tx_toList]; simpa using ht0
          by_cases hen : en = 0
          · subst hen
            have QR1 := Lib.hid (QR.out (cur ++ ⟨#[59]⟩ ++ t) w3 (by exact hnx) HB3.out)
            cases hsome : (readSc (tx (cur ++ ⟨#[59]⟩ ++ t))).isSome with
            | false =>
              rw [hsome] at QR1
              clear hmf QR hsome
              go_wp2_with fail
              refine QR1.out.mono ?_
              rintro e w4 ⟨rfl, hb4⟩
              have HB4 := Lib.hid (Below.two HB3.out hb4)
              clear hb4 QR1
              go_wp2_with fail
              go_roundw
              case rel => exact ⟨k + 1, _, b, rfl, rfl, by go_num, by omega, by omega, HI.out, by omega, HB4.out⟩
              case measure => simp [RowKit.intOf]; omega
            | true =>
              rw [hsome] at QR1
              have HN : Hid (TmI set (tx (cur ++ ⟨#[59]⟩ ++ t)) (b && is)) := by
                rw [tx_next] at hsome
                show TmI _ _ _
                rw [tx_next]; exact TmI.next HI.out hc0 ht0 hmf hsome
              have hns : (cur ++ ⟨#[59]⟩ ++ t).size ≤ 101 * (k + 1) := by rw [ByteArray.size_append, ByteArray.size_append]; show cur.size + 1 + t.size ≤ _; omega
              clear hmf QR hsome HI
              cases b
              all_goals
                go_wp2_with fail
                refine QR1.out.mono ?_
                rintro e w4 ⟨rfl, hb4⟩
                have HB4 := Lib.hid (Below.two HB3.out hb4)
                clear hb4 QR1
                go_wp2_with fail
                go_roundw
                case rel => exact ⟨k + 1, _, _, rfl, rfl, by go_num, by omega, by omega, HN.out, by omega, HB4.out⟩
                case measure => simp [RowKit.intOf]; omega
          · have de : (en == 0) = false := by simpa using hen
            clear hmf QR
            go_wp2_with fail
            go_roundw
            case rel => exact ⟨k + 1, _, b, rfl, rfl, by go_num, by omega, by omega, HI.out, by omega, HB3.out⟩
            case measure => simp [RowKit.intOf]; omega
    · have QM1 := Lib.hid (QM.out cur wr (by omega) HB.out)
      cases hset : setB set with
      | false =>
        rw [means_wrong (tx cur) hset] at QM1
        rw [hset] at QL
        clear HI QM QR hset
        by_cases g1 : k < n1
        · have d1 : decide ((k : Int) < (n1 : Int)) = true := decide_eq_true (by omega)
          have d2 : decide ((k : Int) < 4) = false := decide_eq_false (by omega)
          go_wp2_with fail
          refine QM1.out.mono ?_
          rintro e w3 ⟨rfl, hb3⟩
          have HB3 := Lib.hid (Below.two HB.out hb3)
          have QL1 := Lib.hid (QL.out w3 HB3.out)
          clear hb3 QL QM1
          go_wp2_with fail
          refine QL1.out.mono ?_
          rintro e w4 ⟨rfl, hb4⟩
          go_wp2_with fail
          go_ret
          exact ⟨rfl, HB2.out.trans ((Below.two HB3.out hb4).mono HB2.out.size)⟩
        · have d1 : decide ((k : Int) < (n1 : Int)) = false := decide_eq_false (by omega)
          go_wp2_with fail
          refine QM1.out.mono ?_
          rintro e w3 ⟨rfl, hb3⟩
          have HB3 := Lib.hid (Below.two HB.out hb3)
          have QL1 := Lib.hid (QL.out w3 HB3.out)
          clear hb3 QL QM1
          go_wp2_with fail
          refine QL1.out.mono ?_
          rintro e w4 ⟨rfl, hb4⟩
          go_wp2_with fail
          go_ret
          exact ⟨rfl, HB2.out.trans ((Below.two HB3.out hb4).mono HB2.out.size)⟩
      | true =>
        rw [HI.out.end_ hset] at QM1
        rw [hset] at QL
        clear HI QM QR hset
        cases b
        all_goals
          by_cases g1 : k < n1
          · have d1 : decide ((k : Int) < (n1 : Int)) = true := decide_eq_true (by omega)
            have d2 : decide ((k : Int) < 4) = false := decide_eq_false (by omega)
            go_wp2_with fail
            refine QM1.out.mono ?_
            rintro e w3 ⟨rfl, hb3⟩
            have HB3 := Lib.hid (Below.two HB.out hb3)
            have QL1 := Lib.hid (QL.out w3 HB3.out)
            clear hb3 QL QM1
            go_wp2_with fail
            refine QL1.out.mono ?_
            rintro e w4 ⟨rfl, hb4⟩
            go_wp2_with fail
            go_ret
            exact ⟨rfl, HB2.out.trans ((Below.two HB3.out hb4).mono HB2.out.size)⟩
          · have d1 : decide ((k : Int) < (n1 : Int)) = false := decide_eq_false (by omega)
            go_wp2_with fail
            refine QM1.out.mono ?_
            rintro e w3 ⟨rfl, hb3⟩
            have HB3 := Lib.hid (Below.two HB.out hb3)
            have QL1 := Lib.hid (QL.out w3 HB3.out)
            clear hb3 QL QM1
            go_wp2_with fail
            refine QL1.out.mono ?_
            rintro e w4 ⟨rfl, hb4⟩
            go_wp2_with fail
            go_ret
            exact ⟨rfl, HB2.out.trans ((Below.two HB3.out hb4).mono HB2.out.size)⟩
end Go.Proofs.YtgfoeicfigfepaaDoor

/-
  The document's Least, Less and Same.
-/
import Derived.Test.YtlcpigkgbihebaaDoorLabLess
import Derived.Test.YtlcpigkgbihebaaDoorQuiet
import Derived.PlainAid
import Derived.BigQuiet
namespace Go.Proofs.YtlcpigkgbihebaaDoor
open Go.RowKit Go.PlainAid
set_option linter.unusedVariables false
set_option linter.unusedSimpArgs false
/-- Which of two texts is the least? -/
def leastF : List UInt8 → List UInt8 → Int
  | [], [] => 0
  | [], _ :: _ => -1
  | _ :: _, [] => 1
  | a :: l, b :: m => if a < b then -1 else if b < a then 1 else leastF l m
theorem leastF_self : ∀ a : List UInt8, leastF a a = 0
  | [] => rfl
  | x :: a => by
    have h : ¬ x < x := UInt8.lt_irrefl x
    rw [leastF, if_neg h, if_neg h]; exact leastF_self a
theorem leastF_ls : ∀ a b : List UInt8, (leastF a b = -1 ∧ lsB a b = true) ∨ (leastF a b = 0 ∧ a = b) ∨ (leastF a b = 1 ∧ lsB b a = true)
  | [], [] => .inr (.inl ⟨rfl, rfl⟩)
  | [], _ :: _ => .inl ⟨rfl, by simp [lsB, Op.bytesLess]⟩
  | _ :: _, [] => .inr (.inr ⟨rfl, by simp [lsB, Op.bytesLess]⟩)
  | x :: a, y :: b => by
    unfold lsB
    rw [leastF, Op.bytesLess, Op.bytesLess, Bool.or_eq_true, Bool.and_eq_true, decide_eq_true_eq, beq_iff_eq, Bool.or_eq_true, Bool.and_eq_true, decide_eq_true_eq, beq_iff_eq]
    by_cases h : x < y
    · rw [if_pos h]; exact .inl ⟨rfl, .inl h⟩
    · rw [if_neg h]
      by_cases h' : y < x
      · rw [if_pos h']; exact .inr (.inr ⟨rfl, .inl h'⟩)
      · rw [if_neg h']
        have e : x = y := UInt8.le_antisymm (UInt8.not_lt.1 h') (UInt8.not_lt.1 h)
        subst e
        rcases leastF_ls a b with ⟨k, j⟩ | ⟨k, j⟩ | ⟨k, j⟩
        · exact .inl ⟨k, .inr ⟨rfl, j⟩⟩
        · exact .inr (.inl ⟨k, by rw [j]⟩)
        · exact .inr (.inr ⟨k, .inr ⟨rfl, j⟩⟩)
theorem tx_drop {s : ByteArray} {k : Nat} (h : k < s.size) : (tx s).drop k = s[k] :: (tx s).drop (k + 1) := by
  have h' : k < (tx s).length := by rw [tx_len]; exact h
  rw [List.drop_eq_getElem_cons h']
  rfl
theorem leastF_step {s t : ByteArray} {k : Nat} (h : k < s.size) (hj : k < t.size) :
    leastF ((tx s).drop k) ((tx t).drop k) = if bt s k < bt t k then -1 else if bt t k < bt s k then 1 else leastF ((tx s).drop (k + 1)) ((tx t).drop (k + 1)) := by
  rw [tx_drop h, tx_drop hj, leastF]
  have e1 : bt s k = ((s[k]'h).toNat : Int) := (get_bt s k h).symm
  have e2 : bt t k = ((t[k]'hj).toNat : Int) := (get_bt t k hj).symm
  rw [e1, e2]
  have i1 : (s[k] < t[k]) ↔ (((s[k]'h).toNat : Int) < ((t[k]'hj).toNat : Int)) := by rw [UInt8.lt_iff_toNat_lt]; omega
  have i2 : (t[k] < s[k]) ↔ (((t[k]'hj).toNat : Int) < ((s[k]'h).toNat : Int)) := by rw [UInt8.lt_iff_toNat_lt]; omega
  simp only [i1, i2]
theorem leastF_end {s t : ByteArray} {k : Nat} (h : k ≤ s.size) (h' : k ≤ t.size) (he : k = s.size ∨ k = t.size) :
    leastF ((tx s).drop k) ((tx t).drop k) = if s.size < t.size then -1 else if t.size < s.size then 1 else 0 := by
  have l1 := tx_len s
  have l2 := tx_len t
  have d1 : ((tx s).drop k).length = s.size - k := by rw [List.length_drop, l1]
  have d2 : ((tx t).drop k).length = t.size - k := by rw [List.length_drop, l2]
  generalize (tx s).drop k = a at *
  generalize (tx t).drop k = b at *
  cases a with
  | nil =>
    cases b with
    | nil => simp at d1 d2; rw [if_neg (by omega), if_neg (by omega)]; rfl
    | cons y b => simp at d1 d2; rw [if_pos (by omega)]; rfl
  | cons x a =>
    cases b with
    | nil => simp at d1 d2; rw [if_neg (by omega), if_pos (by omega)]; rfl
    | cons y b => simp at d1 d2; omega
set_option maxRecDepth 100000 in
set_option maxHeartbeats 2000000 in
theorem least_any (s t : ByteArray) (hs : s.size ≤ maxLen) (ht : t.size ≤ maxLen) (w : World) :
    Calls Tryd.prog 42 #[.string s, .string t] w fun e w' => e = .returned (.int .i64 (leastF (tx s) (tx t))) ∧ ∃ n, w' = w.drewN n := by
  have gs := get_bt s
  have gt := get_bt t
  unfold maxLen at hs ht
  go_enter Tryd.func42, Tryd.ntmps42
  go_wp2_with fail
  go_loopw [5] (fun i wr => ∃ k n : Nat, i = .int .i64 (k : Int) ∧ k ≤ s.size ∧ k ≤ t.size ∧ Hid (leastF (tx s) (tx t) = leastF ((tx s).drop k) ((tx t).drop k)) ∧ wr = w.drewN n) (fun i _ => s.size - (RowKit.intOf i).toNat)
  case atStart => exact ⟨0, 0, rfl, Nat.zero_le _, Nat.zero_le _, rfl, rfl⟩
  case round =>
    obtain ⟨k, n, rfl, hk, hkt, HE, rfl⟩ := hrel
    by_cases h1 : k < s.size
    · by_cases h2 : k < t.size
      · have d1 : decide ((k : Int) < (s.size : Int)) = true := decide_eq_true (by omega)
        have d2 : decide ((k : Int) < (t.size : Int)) = true := decide_eq_true (by omega)
        have hi1 : (0 : Int) ≤ (k : Int) := by omega
        have hi2 : (k : Int) < (s.size : Int) := by omega
        have hi3 : (k : Int) < (t.size : Int) := by omega
        have HST := Lib.hid (leastF_step h1 h2)
        by_cases c1 : bt s k < bt t k
        · have b1 : decide (bt s k < bt t k) = true := decide_eq_true c1
          have HR : Hid (leastF (tx s) (tx t) = -1) := by show _ = _; rw [HE.out, HST.out, if_pos c1]
          clear c1
          go_wp2_with fail
          go_quiet (fail)
          go_wp2_with fail
          go_ret
          exact ⟨ret_int HR.out.symm, _, World.drewN_drewN _ _ _⟩
        · have b1 : decide (bt s k < bt t k) = false := decide_eq_false c1
          by_cases c2 : bt t k < bt s k
          · have b2 : decide (bt t k < bt s k) = true := decide_eq_true c2
            have HR : Hid (leastF (tx s) (tx t) = 1) := by show _ = _; rw [HE.out, HST.out, if_neg c1, if_pos c2]
            clear c1 c2
            go_wp2_with fail
            go_quiet (fail)
            go_wp2_with fail
            go_quiet (fail)
            go_wp2_with fail
            go_ret
            exact ⟨ret_int HR.out.symm, _, by first | rfl | rw [World.drewN_drewN, World.drewN_drewN] | exact World.drewN_drewN _ _ _⟩
          · have b2 : decide (bt t k < bt s k) = false := decide_eq_false c2
            have HR : Hid (leastF (tx s) (tx t) = leastF ((tx s).drop (k + 1)) ((tx t).drop (k + 1))) := by show _ = _; rw [HE.out, HST.out, if_neg c1, if_neg c2]
            clear c1 c2
            go_wp2_with fail
            go_quiet (fail)
            go_wp2_with fail
            go_quiet (fail)
            go_wp2_with fail
            go_roundw
            case rel => exact ⟨k + 1, _, by go_num, by omega, by omega, HR.out, rfl⟩
            case measure => simp [RowKit.intOf]; omega
      · have hkk : k = t.size := by omega
        have d1 : decide ((k : Int) < (s.size : Int)) = true := decide_eq_true (by omega)
        have d2 : decide ((k : Int) < (t.size : Int)) = false := by simp; omega
        have d3 : decide (s.size < t.size) = false := by simp; omega
        have d4 : decide (t.size < s.size) = true := decide_eq_true (by omega)
        have HR : Hid (leastF (tx s) (tx t) = 1) := by show _ = _; rw [HE.out, leastF_end hk hkt (.inr hkk), if_neg (by omega), if_pos (by omega)]
        clear hkk
        go_wp2_with fail
        go_ret
        exact ⟨ret_int HR.out.symm, _, rfl⟩
    · have hkk : k = s.size := by omega
      have d1 : decide ((k : Int) < (s.size : Int)) = false := by simp; omega
      by_cases h2 : s.size < t.size
      · have d3 : decide (s.size < t.size) = true := decide_eq_true h2
        have HR : Hid (leastF (tx s) (tx t) = -1) := by show _ = _; rw [HE.out, leastF_end hk hkt (.inl hkk), if_pos h2]
        clear hkk h2
        go_wp2_with fail
        go_ret
        exact ⟨ret_int HR.out.symm, _, rfl⟩
      · have d3 : decide (s.size < t.size) = false := by simp; omega
        have d4 : decide (t.size < s.size) = false := by simp; omega
        have HR : Hid (leastF (tx s) (tx t) = 0) := by show _ = _; rw [HE.out, leastF_end hk hkt (.inl hkk), if_neg h2, if_neg (by omega)]
        clear hkk h2
        go_wp2_with fail
        go_ret
        exact ⟨ret_int HR.out.symm, _, rfl⟩
theorem tx_eq {s t : ByteArray} : tx s = tx t ↔ s = t := ⟨fun h => by
  cases s; cases t; congr 1; exact Array.toList_inj.1 h, fun h => by rw [h]⟩
theorem lessL_step {l m : List Lab} {k : Nat} (h : k < l.length) (h' : k < m.length) : lessL (l.drop k) (m.drop k) =
    if tx (lth l k).1 = tx (lth m k).1 ∧ tx (lth l k).2 = tx (lth m k).2 then lessL (l.drop (k + 1)) (m.drop (k + 1)) else if tx (lth l k).1 = tx (lth m k).1 then lsB (tx (lth l k).2) (tx (lth m k).2) else lsB (tx (lth l k).1) (tx (lth m k).1) := by
  rw [drop_lth h, drop_lth h']; rfl
theorem lessL_end {l m : List Lab} {k : Nat} (h : k ≤ l.length) (h' : k ≤ m.length) (he : k = l.length ∨ k = m.length) : lessL (l.drop k) (m.drop k) = decide (l.length < m.length) := by
  have d1 : (l.drop k).length = l.length - k := List.length_drop
  have d2 : (m.drop k).length = m.length - k := List.length_drop
  generalize l.drop k = a at *
  generalize m.drop k = b at *
  cases a with
  | nil =>
    cases b with
    | nil => simp at d1 d2; simp [lessL]; omega
    | cons y b => simp at d1 d2; simp [lessL]; omega
  | cons x a =>
    cases b with
    | nil => simp at d1 d2; simp [lessL]; omega
    | cons y b => simp at d1 d2; omega
theorem ls_ne {a b : List UInt8} (h : lsB a b = true) : a ≠ b := fun e => by rw [e, lsB_irr] at h; cases h
theorem lab_sz {l : List Lab} (hs : ∀ x ∈ l, x.1.size ≤ maxLen ∧ x.2.size ≤ maxLen) (k : Nat) : (lth l k).1.size ≤ maxLen ∧ (lth l k).2.size ≤ maxLen := by
  unfold lth
  cases e : l[k]? with
  | none => simp
  | some x => exact hs x (List.mem_of_getElem? e)
theorem least_below {s t : ByteArray} (hs : s.size ≤ maxLen) (ht : t.size ≤ maxLen) {v : Int} (hv : leastF (tx s) (tx t) = v) (w : World) :
    Calls Tryd.prog 42 #[.string s, .string t] w fun e w' => e = .returned (.int .i64 v) ∧ Below w.heap.size w w' :=
  (least_any s t hs ht w).mono fun _ _ ⟨h1, n, h2⟩ => ⟨hv ▸ h1, h2 ▸ below_drewN (below_0 _) n⟩
set_option maxRecDepth 100000 in
set_option maxHeartbeats 4000000 in
theorem rless_any (A C : Option Addr) (l m : List Lab) (cap capm : Nat) (hl : l.length ≤ 4294967296) (hm : m.length ≤ 4294967296) (hs : ∀ x ∈ l, x.1.size ≤ maxLen ∧ x.2.size ≤ maxLen) (ht : ∀ x ∈ m, x.1.size ≤ maxLen ∧ x.2.size ≤ maxLen) (w : World) (hS : Lb w w.heap.size A l) (hM : Lb w w.heap.size C m) :
    Calls Tryd.prog 25 #[.slice A l.length cap, .slice C m.length capm] w fun e w' => e = .returned (.bool (lessL l m)) ∧ Below w.heap.size w w' := by
  have HS := Lib.hid hS
  have HM := Lib.hid hM
  have ZS := Lib.hid (lab_sz hs)
  have ZM := Lib.hid (lab_sz ht)
  clear hS hM hs ht
  go_enter Tryd.func25, Tryd.ntmps25
  go_wp2_with fail
  go_loopw [5, 6] (fun i _ wr => ∃ k : Nat, i = .int .i64 (k : Int) ∧ k ≤ l.length ∧ k ≤ m.length ∧ Hid (lessL l m = lessL (l.drop k) (m.drop k)) ∧ Hid (Below w.heap.size w wr)) (fun i _ _ => l.length - (RowKit.intOf i).toNat)
  case atStart => exact ⟨0, rfl, Nat.zero_le _, Nat.zero_le _, rfl, below_0 _⟩
  case round =>
    obtain ⟨k, rfl, hk, hkm, HE, HB⟩ := hrel
    by_cases h1 : k < l.length
    · have d1 : decide ((k : Int) < (l.length : Int)) = true := decide_eq_true (by omega)
      by_cases h2 : k < m.length
      · have d2 : decide ((k : Int) < (m.length : Int)) = true := decide_eq_true (by omega)
        obtain ⟨b, off, rfl, hb, hc⟩ := HS.out.at_ (by omega)
        obtain ⟨c1, c2⟩ := hc k h1
        have i1 := (HB.out.cell (p := ⟨b, off + k * 2, none⟩) hb).trans c1
        have i2 := (HB.out.cell (p := ⟨b, off + k * 2 + 1, none⟩) hb).trans c2
        obtain ⟨b', off', rfl, hb', hc'⟩ := HM.out.at_ (by omega)
        obtain ⟨c1', c2'⟩ := hc' k h2
        have j1 := (HB.out.cell (p := ⟨b', off' + k * 2, none⟩) hb').trans c1'
        have j2 := (HB.out.cell (p := ⟨b', off' + k * 2 + 1, none⟩) hb').trans c2'
        have hbw : b < wr.heap.size := by have := HB.out.size; omega
        have hbw' : b' < wr.heap.size := by have := HB.out.size; omega
        have hi1 : (0 : Int) ≤ (k : Int) := by omega
        have hi2 : (k : Int) < (l.length : Int) := by omega
        have hi3 : (k : Int) < (m.length : Int) := by omega
        have HX : Hid (lessL l m = _) := HE.out.trans (lessL_step h1 h2)
        have z1 := ZS.out k
        have z2 := ZM.out k
        clear hc c1 c2 hc' c1' c2'
        generalize lth l k = x at *
        generalize lth m k = y at *
        obtain ⟨x1, x2⟩ := x
        obtain ⟨y1, y2⟩ := y
        simp only at i1 i2 j1 j2 HX z1 z2
        obtain ⟨z1, z1'⟩ := z1
        obtain ⟨z2, z2'⟩ := z2
        have F1 := After.cell i1 hbw
        have F2 := After.cell j1 hbw'
        haveI hAW := After.some wr
        rcases leastF_ls (tx x1) (tx y1) with ⟨e1, o1⟩ | ⟨e1, o1⟩ | ⟨e1, o1⟩
        · have QL : Hid (∀ x : After wr, Calls Tryd.prog 42 #[.string x1, .string y1] x.at_ fun e w' => e = .returned (.int .i64 (-1)) ∧ Below x.at_.heap.size x.at_ w') := fun x => least_below z1 z2 e1 x.at_
          have HR : Hid (lessL l m = true) := by show _ = _; rw [HX.out, if_neg (fun h => ls_ne o1 h.1), if_neg (ls_ne o1)]; exact o1
          clear HX o1 e1 z1 z2 z1' z2'
          go_wp2_with fail
          refine wp_region_below (by kernel_rfl) (by kernel_rfl) ?_
          repeat (go_big_quiet_step (first | with_reducible exact after_calls (QL.out _)))
          refine wpQuiet_nil ?_
          rintro _ ⟨⟨w9, hb9⟩, rfl⟩
          go_wp2_with fail
          go_ret
          exact ⟨ret_bool HR.out.symm, HB.out.trans (hb9.mono HB.out.size)⟩
        · have QL : Hid (∀ x : After wr, Calls Tryd.prog 42 #[.string x1, .string y1] x.at_ fun e w' => e = .returned (.int .i64 0) ∧ Below x.at_.heap.size x.at_ w') := fun x => least_below z1 z2 e1 x.at_
          have E1 := Lib.hid o1
          clear o1 e1 z1 z2
          go_wp2_with fail
          refine wp_region_below (by kernel_rfl) (by kernel_rfl) ?_
          repeat (go_big_quiet_step (first | with_reducible exact after_calls (QL.out _)))
          refine wpQuiet_nil ?_
          rintro w9 ⟨x9, hx9⟩
          have hb9 : Below wr.heap.size wr w9 := by rw [hx9]; exact x9.is
          clear hx9 x9
          have i9 := (hb9.cell (p := ⟨b, off + k * 2 + 1, none⟩) hbw).trans i2
          have j9 := (hb9.cell (p := ⟨b', off' + k * 2 + 1, none⟩) hbw').trans j2
          have hbw9 : b < w9.heap.size := by have := hb9.size; omega
          have hbw9' : b' < w9.heap.size := by have := hb9.size; omega
          have HB9 : Hid (Below w.heap.size w w9) := HB.out.trans (hb9.mono HB.out.size)
          clear QL F1 F2 hb9 i1 i2 j1 j2 HB hbw hbw'
          clear hAW
          have F1 := After.cell i9 hbw9
          have F2 := After.cell j9 hbw9'
          haveI := After.some w9
          rcases leastF_ls (tx x2) (tx y2) with ⟨e1, o1⟩ | ⟨e1, o1⟩ | ⟨e1, o1⟩
          · have QL : Hid (∀ x : After w9, Calls Tryd.prog 42 #[.string x2, .string y2] x.at_ fun e w' => e = .returned (.int .i64 (-1)) ∧ Below x.at_.heap.size x.at_ w') := fun x => least_below z1' z2' e1 x.at_
            have HR : Hid (lessL l m = true) := by show _ = _; rw [HX.out, if_neg (fun h => ls_ne o1 h.2), if_pos E1.out]; exact o1
            clear HX o1 e1 z1' z2'
            go_wp2_with fail
            refine wp_region_below (by kernel_rfl) (by kernel_rfl) ?_
            repeat (go_big_quiet_step (first | with_reducible exact after_calls (QL.out _)))
            refine wpQuiet_nil ?_
            rintro _ ⟨⟨w8, hb8⟩, rfl⟩
            go_wp2_with fail
            go_ret
            exact ⟨ret_bool HR.out.symm, HB9.out.trans (hb8.mono HB9.out.size)⟩
          · have QL : Hid (∀ x : After w9, Calls Tryd.prog 42 #[.string x2, .string y2] x.at_ fun e w' => e = .returned (.int .i64 0) ∧ Below x.at_.heap.size x.at_ w') := fun x => least_below z1' z2' e1 x.at_
            have HR : Hid (lessL l m = lessL (l.drop (k + 1)) (m.drop (k + 1))) := by show _ = _; rw [HX.out, if_pos ⟨E1.out, o1⟩]
            clear HX o1 e1 z1' z2'
            go_wp2_with fail
            refine wp_region_below (by kernel_rfl) (by kernel_rfl) ?_
            repeat (go_big_quiet_step (first | with_reducible exact after_calls (QL.out _)))
            refine wpQuiet_nil ?_
            rintro w8 ⟨x8, hx8⟩
            have HB8 : Hid (Below w.heap.size w w8) := HB9.out.trans ((show Below w9.heap.size w9 w8 by rw [hx8]; exact x8.is).mono HB9.out.size)
            clear hx8 x8
            go_wp2_with fail
            go_roundw
            case rel => exact ⟨k + 1, by go_num, by omega, by omega, HR.out, HB8.out⟩
            case measure => simp [RowKit.intOf]; omega
          · have QL : Hid (∀ x : After w9, Calls Tryd.prog 42 #[.string x2, .string y2] x.at_ fun e w' => e = .returned (.int .i64 1) ∧ Below x.at_.heap.size x.at_ w') := fun x => least_below z1' z2' e1 x.at_
            have HR : Hid (lessL l m = false) := by show _ = _; rw [HX.out, if_neg (fun h => ls_ne o1 h.2.symm), if_pos E1.out]; exact lsB_asymm o1
            clear HX o1 e1 z1' z2'
            go_wp2_with fail
            refine wp_region_below (by kernel_rfl) (by kernel_rfl) ?_
            repeat (go_big_quiet_step (first | with_reducible exact after_calls (QL.out _)))
            refine wpQuiet_nil ?_
            rintro _ ⟨⟨w8, hb8⟩, rfl⟩
            go_wp2_with fail
            go_ret
            exact ⟨ret_bool HR.out.symm, HB9.out.trans (hb8.mono HB9.out.size)⟩
        · have QL : Hid (∀ x : After wr, Calls Tryd.prog 42 #[.string x1, .string y1] x.at_ fun e w' => e = .returned (.int .i64 1) ∧ Below x.at_.heap.size x.at_ w') := fun x => least_below z1 z2 e1 x.at_
          have HR : Hid (lessL l m = false) := by show _ = _; rw [HX.out, if_neg (fun h => ls_ne o1 h.1.symm), if_neg (ls_ne o1).symm]; exact lsB_asymm o1
          clear HX o1 e1 z1 z2 z1' z2'
          go_wp2_with fail
          refine wp_region_below (by kernel_rfl) (by kernel_rfl) ?_
          repeat (go_big_quiet_step (first | with_reducible exact after_calls (QL.out _)))
          refine wpQuiet_nil ?_
          rintro _ ⟨⟨w9, hb9⟩, rfl⟩
          go_wp2_with fail
          go_ret
          exact ⟨ret_bool HR.out.symm, HB.out.trans (hb9.mono HB.out.size)⟩
      · have hkk : k = m.length := by omega
        have d2 : decide ((k : Int) < (m.length : Int)) = false := by simp; omega
        have HR : Hid (lessL l m = decide (l.length < m.length)) := by show _ = _; rw [HE.out, lessL_end hk hkm (.inr hkk)]
        clear hkk HS HM
        go_wp2_with fail
        go_ret
        exact ⟨ret_bool HR.out.symm, HB.out⟩
    · have hkk : k = l.length := by omega
      have d1 : decide ((k : Int) < (l.length : Int)) = false := by simp; omega
      have HR : Hid (lessL l m = decide (l.length < m.length)) := by
        show _ = _; rw [HE.out, lessL_end hk hkm (.inl hkk)]
      clear hkk HS HM
      go_wp2_with fail
      go_ret
      exact ⟨ret_bool HR.out.symm, HB.out⟩
/-- Are lists of labels the same? -/
def sameL (l m : List Lab) : Bool := decide (l = m)
theorem take_eq_succ {l m : List Lab} {k : Nat} (h : l.take k = m.take k) (h1 : k < l.length) (h2 : k < m.length) (he : lth l k = lth m k) : l.take (k + 1) = m.take (k + 1) := by
  rw [take_lth_succ h1, take_lth_succ h2, h, he]
set_option maxRecDepth 100000 in
set_option maxHeartbeats 4000000 in
theorem rsame_any (A C : Option Addr) (l m : List Lab) (cap capm : Nat) (hl : l.length ≤ 4294967296) (hm : m.length ≤ 4294967296) (w : World) (hS : Lb w w.heap.size A l) (hM : Lb w w.heap.size C m) :
    Calls Tryd.prog 16 #[.slice A l.length cap, .slice C m.length capm] w fun e w' => e = .returned (.bool (sameL l m)) ∧ ∃ n, w' = w.drewN n := by
  by_cases hlen : l.length = m.length
  · have HS := Lib.hid hS
    have HM := Lib.hid hM
    have HL := Lib.hid hlen
    have d0 : ((l.length : Int) != (m.length : Int)) = false := by simp [hlen]
    clear hS hM hlen
    go_enter Tryd.func16, Tryd.ntmps16
    go_wp2_with fail
    clear d0
    go_loopw [5] (fun i wr => ∃ k n : Nat, i = .int .i64 (k : Int) ∧ k ≤ l.length ∧ Hid (l.take k = m.take k) ∧ wr = w.drewN n) (fun i _ => l.length - (RowKit.intOf i).toNat)
    case atStart => exact ⟨0, 0, rfl, Nat.zero_le _, rfl, rfl⟩
    case round =>
      obtain ⟨k, n, rfl, hk, HE, rfl⟩ := hrel
      by_cases h1 : k < l.length
      · have h2 : k < m.length := by rw [← HL.out]; exact h1
        have d1 : decide ((k : Int) < (l.length : Int)) = true := decide_eq_true (by omega)
        obtain ⟨b, off, rfl, hb, hc⟩ := HS.out.at_ (by omega)
        obtain ⟨i1, i2⟩ := hc k h1
        obtain ⟨b', off', rfl, hb', hc'⟩ := HM.out.at_ (by omega)
        obtain ⟨j1, j2⟩ := hc' k h2
        have hi1 : (0 : Int) ≤ (k : Int) := by omega
        have hi2 : (k : Int) < (l.length : Int) := by omega
        have hi3 : (k : Int) < (m.length : Int) := by omega
        have HX : Hid (lth l k = lth m k → l.take (k + 1) = m.take (k + 1)) := fun h => take_eq_succ HE.out h1 h2 h
        have HN : Hid (¬ lth l k = lth m k → sameL l m = false) := fun h => by
          unfold sameL
          simp only [decide_eq_false_iff_not]
          rintro rfl
          exact h rfl
        clear hc hc'
        generalize lth l k = x at *
        generalize lth m k = y at *
        obtain ⟨x1, x2⟩ := x
        obtain ⟨y1, y2⟩ := y
        simp only at i1 i2 j1 j2
        by_cases e1 : x1.toList = y1.toList
        · have b1 : (x1.toList == y1.toList) = true := by rw [beq_iff_eq]; exact e1
          have e1' : x1 = y1 := tx_eq.1 (by rw [← tx_toList, ← tx_toList, e1])
          by_cases e2 : x2.toList = y2.toList
          · have b2 : (x2.toList == y2.toList) = true := by rw [beq_iff_eq]; exact e2
            have HR := Lib.hid (HX.out (by rw [e1', tx_eq.1 (show tx x2 = tx y2 by rw [← tx_toList, ← tx_toList, e2])]))
            clear e1' HX HN
            go_wp2_with fail
            go_quiet (fail)
            go_wp2_with fail
            go_roundw
            case rel => exact ⟨k + 1, _, by go_num, by omega, HR.out, rfl⟩
            case measure => simp [RowKit.intOf]; omega
          · have b2 : (x2.toList == y2.toList) = false := by rw [beq_eq_false_iff_ne]; exact e2
            have HR := Lib.hid (HN.out (fun e => e2 (by injection e with _ e; rw [e])))
            clear e1' HX HN
            go_wp2_with fail
            go_quiet (fail)
            go_wp2_with fail
            go_ret
            exact ⟨ret_bool HR.out.symm, _, World.drewN_drewN _ _ _⟩
        · have b1 : (x1.toList == y1.toList) = false := by rw [beq_eq_false_iff_ne]; exact e1
          have HR := Lib.hid (HN.out (fun e => e1 (by injection e with e _; rw [e])))
          clear HX HN
          go_wp2_with fail
          go_quiet (fail)
          go_wp2_with fail
          go_ret
          exact ⟨ret_bool HR.out.symm, _, World.drewN_drewN _ _ _⟩
      · have hkk : k = l.length := by omega
        subst hkk
        have HR : Hid (sameL l m = true) := by
          show _ = _
          have := HE.out
          rw [List.take_length, HL.out, List.take_length] at this
          unfold sameL; simpa using this
        clear HL HE
        have d1 : decide ((l.length : Int) < (l.length : Int)) = false := by simp
        go_wp2_with fail
        go_ret
        exact ⟨ret_bool HR.out.symm, _, rfl⟩
  · have d0 : ((l.length : Int) != (m.length : Int)) = true := by simp; omega
    have HR : Hid (sameL l m = false) := by show _ = _; unfold sameL; simp only [decide_eq_false_iff_not]; rintro rfl; exact hlen rfl
    clear hS hM
    go_enter Tryd.func16, Tryd.ntmps16
    go_wp2_with fail
    go_ret
    exact ⟨ret_bool HR.out.symm, 0, rfl⟩
theorem rsame_below (A C : Option Addr) (l m : List Lab) (cap capm : Nat) (hl : l.length ≤ 4294967296) (hm : m.length ≤ 4294967296) (w : World) (hS : Lb w w.heap.size A l) (hM : Lb w w.heap.size C m) :
    Calls Tryd.prog 16 #[.slice A l.length cap, .slice C m.length capm] w fun e w' => e = .returned (.bool (sameL l m)) ∧ Below w.heap.size w w' :=
  (rsame_any A C l m cap capm hl hm w hS hM).mono fun _ _ ⟨h1, n, h2⟩ => ⟨h1, h2 ▸ below_drewN (below_0 _) n⟩
end Go.Proofs.YtlcpigkgbihebaaDoor

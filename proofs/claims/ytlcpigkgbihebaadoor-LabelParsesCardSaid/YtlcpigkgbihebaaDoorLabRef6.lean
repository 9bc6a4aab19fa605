/-
  The document's Right.
-/
import Derived.Test.YtlcpigkgbihebaaDoorLabRef5
import Derived.Test.YtlcpigkgbihebaaDoorLabRef1
namespace Go.Proofs.YtlcpigkgbihebaaDoor
open Go.RowKit Go.PlainAid
set_option linter.unusedVariables false
set_option linter.unusedSimpArgs false
theorem leq_least (a b : List UInt8) : leqB b a = decide (0 ≤ leastF a b) := by
  unfold leqB
  rcases leastF_ls a b with ⟨e, h⟩ | ⟨e, h⟩ | ⟨e, h⟩
  · rw [e]
    have h1 := lsB_asymm h
    have h2 : (b == a) = false := by rw [beq_eq_false_iff_ne]; exact (ls_ne h).symm
    unfold lsB at h1; rw [h1, h2]; rfl
  · rw [e, h]; simp
  · rw [e]; unfold lsB at h; rw [h]; rfl
theorem leq_nil {a : List UInt8} (h : nameB a = true) : leqB a [] = false := by
  have hne : a ≠ [] := by rintro rfl; simp [nameB] at h
  unfold leqB
  cases a with
  | nil => exact absurd rfl hne
  | cons b r => simp [Op.bytesLess]
theorem chain_take {l : List Lab} {k : Nat} (h : k < l.length) : chainB [] (l.take (k + 1)) = (chainB [] (l.take k) && okStep (tx (lastNm (l.take k))) (lth l k)) := by
  rw [take_lth_succ h, chainB_last]
theorem last_take {l : List Lab} {k : Nat} (h : k + 1 ≤ l.length) : lastNm (l.take (k + 1)) = (lth l k).1 := by
  rw [take_lth_succ (by omega), lastNm_snoc]
theorem chain_bad {l : List Lab} {k : Nat} (h : chainB [] (l.take k) = false) : setB l = false := by
  have := chainB_more (l.take k) (l.drop k) [] h
  rw [List.take_append_drop] at this
  unfold setB; rw [this]; simp
theorem risName_below (s : ByteArray) (hs : s.size ≤ maxLen) {v : Bool} (hv : nameB (tx s) = v) (w : World) : Calls Tryd.prog 40 #[.string s] w fun e w' => e = .returned (.bool v) ∧ Below w.heap.size w w' :=
  (risName_any s hs w).mono fun _ _ ⟨h1, h2⟩ => ⟨hv ▸ h1, h2 ▸ below_0 _⟩
theorem risValue_below (s : ByteArray) (hs : s.size ≤ 100000) {v : Bool} (hv : valueB (tx s) = v) (w : World) : Calls Tryd.prog 41 #[.string s] w fun e w' => e = .returned (.bool v) ∧ Below w.heap.size w w' :=
  (risValue_any s hs w).mono fun _ _ ⟨h1, h2⟩ => ⟨hv ▸ h1, h2⟩
set_option maxRecDepth 100000 in
set_option maxHeartbeats 4000000 in
theorem rright_any (A : Option Addr) (l : List Lab) (cap : Nat) (hl : l.length ≤ 4294967296) (hs : ∀ x ∈ l, x.1.size ≤ 100000 ∧ x.2.size ≤ 100000) (w : World) (hS : Lb w w.heap.size A l) :
    Calls Tryd.prog 23 #[.slice A l.length cap] w fun e w' => e = .returned (.bool (setB l)) ∧ Below w.heap.size w w' := by
  have HS := Lib.hid hS
  have HZ : Hid (∀ k, (lth l k).1.size ≤ 100000 ∧ (lth l k).2.size ≤ 100000) := fun k => by
    unfold lth
    cases e : l[k]? with
    | none => simp
    | some x => exact hs x (List.mem_of_getElem? e)
  clear hS hs
  go_enter Tryd.func23, Tryd.ntmps23
  go_wp2_with fail
  go_loopw [3] (fun i wr => ∃ k : Nat, i = .int .i64 (k : Int) ∧ k ≤ l.length ∧ Hid (chainB [] (l.take k) = true) ∧ Hid (Below w.heap.size w wr)) (fun i _ => l.length - (RowKit.intOf i).toNat)
  case atStart => exact ⟨0, rfl, Nat.zero_le _, rfl, below_0 _⟩
  case round =>
    obtain ⟨k, rfl, hk, HE, HB⟩ := hrel
    by_cases h1 : k < l.length
    · have d1 : decide ((k : Int) < (l.length : Int)) = true := decide_eq_true (by omega)
      obtain ⟨b, off, rfl, hb, hc⟩ := HS.out.at_ (by omega)
      obtain ⟨c1, c2⟩ := hc k h1
      have i1 := (HB.out.cell (p := ⟨b, off + k * 2, none⟩) hb).trans c1
      have i2 := (HB.out.cell (p := ⟨b, off + k * 2 + 1, none⟩) hb).trans c2
      have hbw : b < wr.heap.size := by have := HB.out.size; omega
      have hi1 : (0 : Int) ≤ (k : Int) := by omega
      have hi2 : (k : Int) < (l.length : Int) := by omega
      obtain ⟨z1, z2⟩ := HZ.out k
      have HT := Lib.hid (chain_take h1)
      rw [HE.out, Bool.true_and] at HT
      have F1 := After.cell i1 hbw
      have F2 := After.cell i2 hbw
      haveI hAW := After.some wr
      obtain ⟨nm, hnm⟩ : ∃ q, nameB (tx (lth l k).1) = q := ⟨_, rfl⟩
      obtain ⟨vl, hvl⟩ : ∃ q, valueB (tx (lth l k).2) = q := ⟨_, rfl⟩
      have QN : Hid (∀ x : After wr, Calls Tryd.prog 40 #[.string (lth l k).1] x.at_ fun e w' => e = .returned (.bool nm) ∧ Below x.at_.heap.size x.at_ w') := fun x => risName_below _ (by unfold maxLen; omega) hnm x.at_
      have QV : Hid (∀ x : After wr, Calls Tryd.prog 41 #[.string (lth l k).2] x.at_ fun e w' => e = .returned (.bool vl) ∧ Below x.at_.heap.size x.at_ w') := fun x => risValue_below _ z2 hvl x.at_
      rw [okStep, hnm, hvl] at HT
      cases nm with
      | false =>
        have HR : Hid (setB l = false) := chain_bad (k := k + 1) (HT.out.trans (by simp))
        clear HT hnm hvl
        go_wp2_with fail
        refine wp_region_below (by kernel_rfl) (by kernel_rfl) ?_
        repeat (go_big_quiet_step (first | with_reducible exact after_calls (QN.out _) | with_reducible exact after_calls (QV.out _)))
        refine wpQuiet_nil ?_
        rintro w9 ⟨x9, hx9⟩
        have HB9 : Hid (Below w.heap.size w w9) := HB.out.trans ((show Below wr.heap.size wr w9 by rw [hx9]; exact x9.is).mono HB.out.size)
        clear hx9 x9
        go_wp2_with fail
        go_ret
        exact ⟨ret_bool HR.out.symm, HB9.out⟩
      | true =>
        cases vl with
        | false =>
          have HR : Hid (setB l = false) := chain_bad (k := k + 1) (HT.out.trans (by simp))
          clear HT hnm hvl
          go_wp2_with fail
          refine wp_region_below (by kernel_rfl) (by kernel_rfl) ?_
          repeat (go_big_quiet_step (first | with_reducible exact after_calls (QN.out _) | with_reducible exact after_calls (QV.out _)))
          refine wpQuiet_nil ?_
          rintro w9 ⟨x9, hx9⟩
          have HB9 : Hid (Below w.heap.size w w9) := HB.out.trans ((show Below wr.heap.size wr w9 by rw [hx9]; exact x9.is).mono HB.out.size)
          clear hx9 x9
          go_wp2_with fail
          go_ret
          exact ⟨ret_bool HR.out.symm, HB9.out⟩
        | true =>
          by_cases hk0 : k = 0
          · have HR : Hid (chainB [] (l.take (k + 1)) = true) := HT.out.trans (by
              rw [hk0, List.take_zero, show tx (lastNm []) = [] from rfl, ← hk0, leq_nil hnm]; rfl)
            have g1 : decide ((0 : Int) < (k : Int)) = false := by simp; omega
            have g2 : decide (0 < k) = false := by simp; omega
            clear HT hnm hvl hk0
            go_wp2_with fail
            refine wp_region_below (by kernel_rfl) (by kernel_rfl) ?_
            repeat (go_big_quiet_step (first | with_reducible exact after_calls (QN.out _) | with_reducible exact after_calls (QV.out _)))
            refine wpQuiet_nil ?_
            rintro w9 ⟨x9, hx9⟩
            have HB9 : Hid (Below w.heap.size w w9) := HB.out.trans ((show Below wr.heap.size wr w9 by rw [hx9]; exact x9.is).mono HB.out.size)
            clear hx9 x9
            go_wp2_with fail
            go_roundw
            case rel => exact ⟨k + 1, by go_num, by omega, HR.out, HB9.out⟩
            case measure => simp [RowKit.intOf]; omega
          · obtain ⟨j, rfl⟩ : ∃ j, k = j + 1 := ⟨k - 1, by omega⟩
            have g1 : decide ((0 : Int) < ((j + 1 : Nat) : Int)) = true := decide_eq_true (by omega)
            have hjl : j < l.length := by omega
            have i3 := (HB.out.cell (p := ⟨b, off + j * 2, none⟩) hb).trans (HS.out.at_ (by omega) |> fun ⟨b', off', e, _, hc⟩ => by cases e; exact (hc j hjl).1)
            have F3 := After.cell i3 hbw
            obtain ⟨z3, _⟩ := HZ.out j
            rw [last_take (by omega), leq_least] at HT
            obtain ⟨v, hv⟩ : ∃ v, leastF (tx (lth l j).1) (tx (lth l (j + 1)).1) = v := ⟨_, rfl⟩
            have QL : Hid (∀ x : After wr, Calls Tryd.prog 42 #[.string (lth l j).1, .string (lth l (j + 1)).1] x.at_ fun e w' => e = .returned (.int .i64 v) ∧ Below x.at_.heap.size x.at_ w') := fun x => least_below (by unfold maxLen; omega) (by unfold maxLen; omega) hv x.at_
            rw [hv] at HT
            have hj1 : (0 : Int) ≤ (j : Int) := by omega
            have hj2 : (j : Int) < (l.length : Int) := by omega
            cases g2 : decide (0 ≤ v) with
            | true =>
              have HR : Hid (setB l = false) := chain_bad (k := j + 1 + 1) (HT.out.trans (by rw [g2]; rfl))
              clear HT hnm hvl hv
              go_wp2_with fail
              refine wp_region_below (by kernel_rfl) (by kernel_rfl) ?_
              repeat (go_big_quiet_step (first | with_reducible exact after_calls (QN.out _) | with_reducible exact after_calls (QV.out _) | with_reducible exact after_calls (QL.out _)))
              refine wpQuiet_nil ?_
              rintro w9 ⟨x9, hx9⟩
              have HB9 : Hid (Below w.heap.size w w9) := HB.out.trans ((show Below wr.heap.size wr w9 by rw [hx9]; exact x9.is).mono HB.out.size)
              clear hx9 x9
              go_wp2_with fail
              go_ret
              exact ⟨ret_bool HR.out.symm, HB9.out⟩
            | false =>
              have HR : Hid (chainB [] (l.take (j + 1 + 1)) = true) := HT.out.trans (by rw [g2]; rfl)
              clear HT hnm hvl hv
              go_wp2_with fail
              refine wp_region_below (by kernel_rfl) (by kernel_rfl) ?_
              repeat (go_big_quiet_step (first | with_reducible exact after_calls (QN.out _) | with_reducible exact after_calls (QV.out _) | with_reducible exact after_calls (QL.out _)))
              refine wpQuiet_nil ?_
              rintro w9 ⟨x9, hx9⟩
              have HB9 : Hid (Below w.heap.size w w9) := HB.out.trans ((show Below wr.heap.size wr w9 by rw [hx9]; exact x9.is).mono HB.out.size)
              clear hx9 x9
              go_wp2_with fail
              go_roundw
              case rel => exact ⟨j + 1 + 1, by go_num, by omega, HR.out, HB9.out⟩
              case measure => simp [RowKit.intOf]; omega
    · have hkk : k = l.length := by omega
      subst hkk
      have d1 : decide ((l.length : Int) < (l.length : Int)) = false := by simp
      have HR : Hid (setB l = (decide (1 ≤ l.length) && decide (l.length ≤ 6))) := by
        show _ = _
        have := HE.out
        rw [List.take_length] at this
        unfold setB; rw [this, Bool.and_true]
      clear HE HS HZ
      generalize l.length = n at *
      by_cases c1 : 1 ≤ n
      · have b1 : decide (1 ≤ n) = true := decide_eq_true c1
        rw [b1, Bool.true_and] at HR
        go_wp2_with fail
        go_ret
        exact ⟨ret_bool (by rw [HR.out]; simp; omega), HB.out⟩
      · have b1 : decide (1 ≤ n) = false := decide_eq_false c1
        rw [b1, Bool.false_and] at HR
        go_wp2_with fail
        go_ret
        exact ⟨ret_bool HR.out.symm, HB.out⟩
end Go.Proofs.YtlcpigkgbihebaaDoor

/-
  The document's Text.
-/
import Derived.Test.YtlcpigkgbihebaaDoorLabQuo
import Derived.Laws.IdiomStrings
namespace Go.Proofs.YtlcpigkgbihebaaDoor
open Go.RowKit Go.PlainAid
set_option linter.unusedVariables false
set_option linter.unusedSimpArgs false
theorem conv_one (w : World) (k : Int) (b : UInt8) (hb : (b.toNat : Int) = k) : (convert 62 9 (.slice (some ⟨w.heap.size, 0, none⟩) 1 1)).run Tryd.prog (w.alloc (.cells #[.int .u8 k] 5)) = .ok (.string ⟨#[b]⟩) (w.alloc (.cells #[.int .u8 k] 5)) := by
  refine run_convert_bytes_back (P := Tryd.prog) _ _ _ 5 ⟨w.heap.size, 0, none⟩ 1 [b] Tryd.underlying62 Tryd.underlying5 Tryd.underlying9 (fun j hj => ?_)
  have : j = 0 := by simpa using hj
  subst this
  show (w.alloc _).cell? ⟨w.heap.size, 0 + 0, none⟩ = _
  rw [World.cell?_alloc_mark, ← hb]
  rfl
theorem slice_one (s : ByteArray) (q : Nat) (h : q < s.size) (w : World) : (Instr.slice 9 (.string s) (some (.int .i64 (q : Int))) (some (.int .i64 ((q : Int) + 1))) none).run Tryd.prog w = .ok (.string (s.extract q (q + 1))) w := by
  have := run_slice_string (P := Tryd.prog) (w := w) 9 s .i64 .i64 (q : Int) ((q : Int) + 1) Tryd.underlying9 (by omega) (by omega) (by omega)
  rw [this]
  rfl
set_option maxRecDepth 100000 in
set_option maxHeartbeats 8000000 in
theorem rtext_any (A : Option Addr) (l : List Lab) (cap : Nat) (hl : l.length ≤ 10) (hs : ∀ x ∈ l, x.1.size ≤ 20 ∧ x.2.size ≤ 120) (w : World) (hS : Lb w w.heap.size A l) :
    Calls Tryd.prog 20 #[.slice A l.length cap] w fun e w' => e = .returned (if setB l = true then .tuple #[.string ⟨(textB l).toArray⟩, .int .i64 0] else .tuple #[.string ⟨#[]⟩, .int .i64 40]) ∧ Below w.heap.size w w' := by
  have QR := Lib.hid (rright_any A l cap (by omega) (fun x hx => by have := hs x hx; omega) w hS)
  have HS := Lib.hid hS
  have HZ : Hid (∀ k, (lth l k).1.size ≤ 20 ∧ (lth l k).2.size ≤ 120) := fun k => by
    unfold lth
    cases e : l[k]? with
    | none => simp
    | some x => exact hs x (List.mem_of_getElem? e)
  clear hS hs
  cases hr : setB l with
  | false =>
    rw [hr] at QR
    rw [if_neg (by simp)]
    go_enter Tryd.func20, Tryd.ntmps20
    go_wp2_with fail
    refine QR.out.mono ?_
    rintro e w1 ⟨rfl, hb1⟩
    go_wp2_with fail
    go_ret2
    exact ⟨rfl, hb1⟩
  | true =>
    rw [hr] at QR
    rw [if_pos rfl]
    have HAL := Lib.hid (setB_all hr)
    clear hr
    go_enter Tryd.func20, Tryd.ntmps20
    go_wp2_with fail
    refine QR.out.mono ?_
    rintro e w1 ⟨rfl, hb1⟩
    have HB1 := Lib.hid hb1
    clear hb1 QR
    go_wp2_with fail
    go_loopw [4, 5, 6, 7] (fun t i _ _ wr => ∃ (k : Nat) (T : ByteArray), i = .int .i64 (k : Int) ∧ k ≤ l.length ∧ t = .string T ∧ Hid (tx T = textB (l.take k)) ∧ T.size ≤ 300 * k ∧ Hid (Below w.heap.size w wr)) (fun _ i _ _ _ => l.length - (RowKit.intOf i).toNat)
    case atStart => exact ⟨0, ⟨#[]⟩, rfl, Nat.zero_le _, rfl, rfl, by show 0 ≤ _; omega, HB1.out⟩
    case round =>
      obtain ⟨k, T, rfl, hk, rfl, HE, hz, HB⟩ := hrel
      by_cases h1 : k < l.length
      · have d1 : decide ((k : Int) < (l.length : Int)) = true := decide_eq_true (by omega)
        obtain ⟨b, off, rfl, hb, hc⟩ := HS.out.at_ (by omega)
        obtain ⟨c1, c2⟩ := hc k h1
        have i1 := (HB.out.cell (p := ⟨b, off + k * 2, none⟩) hb).trans c1
        have i2 := (HB.out.cell (p := ⟨b, off + k * 2 + 1, none⟩) hb).trans c2
        have hi1 : (0 : Int) ≤ (k : Int) := by omega
        have hi2 : (k : Int) < (l.length : Int) := by omega
        obtain ⟨z1, z2⟩ := HZ.out k
        have HTK : Hid (textB (l.take (k + 1)) = (if l.take k = [] then [] else textB (l.take k) ++ [44]) ++ (tx (lth l k).1 ++ [61] ++ (tx (lth l k).2).flatMap quoY)) := by
          show _ = _
          rw [take_lth_succ h1, text_snoc, part_tx (HAL.out _ (mem_lth h1)).2]
        have HNE : Hid (l.take k = [] ↔ k = 0) := by
          show _ ↔ _
          rw [← List.length_eq_zero_iff, List.length_take]; omega
        clear c1 c2 hc
        generalize lth l k = x at *
        obtain ⟨nm, vl⟩ := x
        simp only at i1 i2 z1 z2 HTK
        have gs := get_bt vl
        by_cases hk0 : k = 0
        · have g1 : decide ((0 : Int) < (k : Int)) = false := by simp; omega
          have g2 : decide (0 < k) = false := by simp; omega
          have HP : Hid (textB (l.take (k + 1)) = (tx (T ++ nm ++ ⟨#[61]⟩) ++ (tx vl).flatMap quoY)) := by
            show _ = _
            rw [HTK.out, if_pos (HNE.out.2 hk0), tx_append, tx_append, tx_one, HE.out, HNE.out.2 hk0]
            rfl
          have a1 : Op.stringOp .add T nm = pure (.string (T ++ nm)) := stringOp_add (by omega)
          have a2 : Op.stringOp .add (T ++ nm) ⟨#[61]⟩ = pure (.string (T ++ nm ++ ⟨#[61]⟩)) := stringOp_add (by rw [ByteArray.size_append]; show _ + 1 ≤ _; omega)
          have hzp : (T ++ nm ++ ⟨#[61]⟩ : ByteArray).size ≤ 300 * k + 22 := by rw [ByteArray.size_append, ByteArray.size_append]; show _ + 1 ≤ _; omega
          clear HTK HNE HE hk0
          go_wp2_with fail
          generalize T ++ nm ++ ⟨#[61]⟩ = P at *
          obtain ⟨wo, hwo⟩ : ∃ wo : World, wr = wo := ⟨_, rfl⟩
          rw [hwo] at HB i1 i2 ⊢
          clear hwo i1 i2 a1 a2
          go_loopw [4, 7] (fun t j wq => ∃ (q : Nat) (U : ByteArray), j = .int .i64 (q : Int) ∧ q ≤ vl.size ∧ t = .string U ∧ Hid (tx U = tx P ++ ((tx vl).take q).flatMap quoY) ∧ Hid (Below w.heap.size w wq)) (fun _ j _ => vl.size - (RowKit.intOf j).toNat)
          case atStart => exact ⟨0, P, rfl, Nat.zero_le _, rfl, by show _ = _; simp, HB.out⟩
          case round =>
            obtain ⟨q, U, rfl, hq, rfl, HU, HB⟩ := hrel
            have hus : U.size ≤ 300 * k + 262 := by
              have h1 := congrArg List.length HU.out
              have h2 := quo_len ((tx vl).take q)
              rw [List.length_append, tx_len, tx_len] at h1
              rw [List.length_take] at h2
              omega
            by_cases hq1 : q < vl.size
            · have e1 : decide ((q : Int) < (vl.size : Int)) = true := decide_eq_true (by omega)
              have hj1 : (0 : Int) ≤ (q : Int) := by omega
              have hj2 : (q : Int) < (vl.size : Int) := by omega
              have hj3 : (q : Int) + 1 ≤ (vl.size : Int) := by omega
              have HQ := Lib.hid (flat_take_succ (l := tx vl) (k := q) (by rw [tx_len]; exact hq1))
              have HX := Lib.hid (ext_one hq1)
              have hbt := bt_tx hq1
              have kS := slice_one vl q hq1
              have hxs : (vl.extract q (q + 1)).size = 1 := by rw [ByteArray.size_extract]; omega
              have HC : Hid (bt vl q = 44 ∨ bt vl q = 92 → ((tx vl)[q]?).getD 0 = 44 ∨ ((tx vl)[q]?).getD 0 = 92) := by
                rintro (h | h)
                · left; apply UInt8.toNat_inj.1; rw [← Int.ofNat_inj]; exact hbt.symm.trans h
                · right; apply UInt8.toNat_inj.1; rw [← Int.ofNat_inj]; exact hbt.symm.trans h
              have HD : Hid (((tx vl)[q]?).getD 0 = 44 ∨ ((tx vl)[q]?).getD 0 = 92 → bt vl q = 44 ∨ bt vl q = 92) := by
                rintro (h | h)
                · left; rw [hbt, h]; rfl
                · right; rw [hbt, h]; rfl
              clear hbt
              generalize ((tx vl)[q]?).getD 0 = c at *
              by_cases c1 : bt vl q = 44
              · have b1 : (bt vl q == 44) = true := by rw [beq_iff_eq]; exact c1
                have HN : Hid (tx (U ++ ⟨#[92]⟩ ++ vl.extract q (q + 1)) = tx P ++ ((tx vl).take (q + 1)).flatMap quoY) := by
                  show _ = _
                  rw [HQ.out, tx_append, tx_append, HX.out, tx_one, HU.out, quoY, if_pos (HC.out (.inl c1))]
                  simp
                have a1 : Op.stringOp .add U ⟨#[92]⟩ = pure (.string (U ++ ⟨#[92]⟩)) := stringOp_add (by show _ + 1 ≤ _; omega)
                have a2 : Op.stringOp .add (U ++ ⟨#[92]⟩) (vl.extract q (q + 1)) = pure (.string (U ++ ⟨#[92]⟩ ++ vl.extract q (q + 1))) := stringOp_add (by rw [ByteArray.size_append, hxs]; show _ + 1 + 1 ≤ _; omega)
                have kc := conv_one wr 92 92 rfl
                have HB9 := Lib.hid (Below.two HB.out (below_al (below_0 wr) (.cells #[.int .u8 92] 5)))
                clear HX HQ HC HU HB HP
                go_wp2_with fail
                go_roundw
                case rel => exact ⟨q + 1, _, by go_num, by omega, rfl, HN.out, HB9.out⟩
                case measure => simp [RowKit.intOf]; omega
              · have b1 : (bt vl q == 44) = false := by rw [beq_eq_false_iff_ne]; exact c1
                by_cases c2 : bt vl q = 92
                · have b2 : (bt vl q == 92) = true := by rw [beq_iff_eq]; exact c2
                  have HN : Hid (tx (U ++ ⟨#[92]⟩ ++ vl.extract q (q + 1)) = tx P ++ ((tx vl).take (q + 1)).flatMap quoY) := by
                    show _ = _
                    rw [HQ.out, tx_append, tx_append, HX.out, tx_one, HU.out, quoY, if_pos (HC.out (.inr c2))]
                    simp
                  have a1 : Op.stringOp .add U ⟨#[92]⟩ = pure (.string (U ++ ⟨#[92]⟩)) := stringOp_add (by show _ + 1 ≤ _; omega)
                  have a2 : Op.stringOp .add (U ++ ⟨#[92]⟩) (vl.extract q (q + 1)) = pure (.string (U ++ ⟨#[92]⟩ ++ vl.extract q (q + 1))) := stringOp_add (by rw [ByteArray.size_append, hxs]; show _ + 1 + 1 ≤ _; omega)
                  have kc := conv_one wr 92 92 rfl
                  have HB9 := Lib.hid (Below.two HB.out (below_al (below_0 wr) (.cells #[.int .u8 92] 5)))
                  clear HX HQ HC HU HB HP
                  go_wp2_with fail
                  go_roundw
                  case rel => exact ⟨q + 1, _, by go_num, by omega, rfl, HN.out, HB9.out⟩
                  case measure => simp [RowKit.intOf]; omega
                · have b2 : (bt vl q == 92) = false := by rw [beq_eq_false_iff_ne]; exact c2
                  have HN : Hid (tx (U ++ vl.extract q (q + 1)) = tx P ++ ((tx vl).take (q + 1)).flatMap quoY) := by
                    show _ = _
                    rw [HQ.out, tx_append, HX.out, HU.out, quoY, if_neg (fun h => (HD.out h).elim c1 c2)]
                    simp
                  have a2 : Op.stringOp .add U (vl.extract q (q + 1)) = pure (.string (U ++ vl.extract q (q + 1))) := stringOp_add (by rw [hxs]; omega)
                  have HB9 := HB
                  clear HX HQ HC HU HB HP
                  go_wp2_with fail
                  go_roundw
                  case rel => exact ⟨q + 1, _, by go_num, by omega, rfl, HN.out, HB9.out⟩
                  case measure => simp [RowKit.intOf]; omega
            · have hqq : q = vl.size := by omega
              subst hqq
              have e1 : decide ((vl.size : Int) < (vl.size : Int)) = false := by simp
              have HN : Hid (tx U = textB (l.take (k + 1))) := by
                show _ = _
                have := HU.out
                rw [← tx_len, List.take_length] at this
                rw [HP.out, this]
              go_wp2_with fail
              go_roundw
              case rel => exact ⟨k + 1, U, by go_num, by omega, rfl, HN.out, by omega, HB.out⟩
              case measure => simp [RowKit.intOf]; omega
        · have g1 : decide ((0 : Int) < (k : Int)) = true := by simp; omega
          have g2 : decide (0 < k) = true := by simp; omega
          have HP : Hid (textB (l.take (k + 1)) = (tx (T ++ ⟨#[44]⟩ ++ nm ++ ⟨#[61]⟩) ++ (tx vl).flatMap quoY)) := by
            show _ = _
            rw [HTK.out, if_neg (fun e => hk0 (HNE.out.1 e)), tx_append, tx_append, tx_append, tx_one, tx_one, HE.out]
            simp
          have a0 : Op.stringOp .add T ⟨#[44]⟩ = pure (.string (T ++ ⟨#[44]⟩)) := stringOp_add (by show _ + 1 ≤ _; omega)
          have a1 : Op.stringOp .add (T ++ ⟨#[44]⟩) nm = pure (.string (T ++ ⟨#[44]⟩ ++ nm)) := stringOp_add (by rw [ByteArray.size_append]; show _ + 1 + _ ≤ _; omega)
          have a2 : Op.stringOp .add (T ++ ⟨#[44]⟩ ++ nm) ⟨#[61]⟩ = pure (.string (T ++ ⟨#[44]⟩ ++ nm ++ ⟨#[61]⟩)) := stringOp_add (by rw [ByteArray.size_append, ByteArray.size_append]; show _ + 1 + _ + 1 ≤ _; omega)
          have hzp : (T ++ ⟨#[44]⟩ ++ nm ++ ⟨#[61]⟩ : ByteArray).size ≤ 300 * k + 22 := by rw [ByteArray.size_append, ByteArray.size_append, ByteArray.size_append]; show _ + 1 + _ + 1 ≤ _; omega
          clear HTK HNE HE hk0
          go_wp2_with fail
          generalize T ++ ⟨#[44]⟩ ++ nm ++ ⟨#[61]⟩ = P at *
          obtain ⟨wo, hwo⟩ : ∃ wo : World, wr = wo := ⟨_, rfl⟩
          rw [hwo] at HB i1 i2 ⊢
          clear hwo i1 i2 a0 a1 a2
          go_loopw [4, 7] (fun t j wq => ∃ (q : Nat) (U : ByteArray), j = .int .i64 (q : Int) ∧ q ≤ vl.size ∧ t = .string U ∧ Hid (tx U = tx P ++ ((tx vl).take q).flatMap quoY) ∧ Hid (Below w.heap.size w wq)) (fun _ j _ => vl.size - (RowKit.intOf j).toNat)
          case atStart => exact ⟨0, P, rfl, Nat.zero_le _, rfl, by show _ = _; simp, HB.out⟩
          case round =>
            obtain ⟨q, U, rfl, hq, rfl, HU, HB⟩ := hrel
            have hus : U.size ≤ 300 * k + 262 := by
              have h1 := congrArg List.length HU.out
              have h2 := quo_len ((tx vl).take q)
              rw [List.length_append, tx_len, tx_len] at h1
              rw [List.length_take] at h2
              omega
            by_cases hq1 : q < vl.size
            · have e1 : decide ((q : Int) < (vl.size : Int)) = true := decide_eq_true (by omega)
              have hj1 : (0 : Int) ≤ (q : Int) := by omega
              have hj2 : (q : Int) < (vl.size : Int) := by omega
              have hj3 : (q : Int) + 1 ≤ (vl.size : Int) := by omega
              have HQ := Lib.hid (flat_take_succ (l := tx vl) (k := q) (by rw [tx_len]; exact hq1))
              have HX := Lib.hid (ext_one hq1)
              have hbt := bt_tx hq1
              have kS := slice_one vl q hq1
              have hxs : (vl.extract q (q + 1)).size = 1 := by rw [ByteArray.size_extract]; omega
              have HC : Hid (bt vl q = 44 ∨ bt vl q = 92 → ((tx vl)[q]?).getD 0 = 44 ∨ ((tx vl)[q]?).getD 0 = 92) := by
                rintro (h | h)
                · left; apply UInt8.toNat_inj.1; rw [← Int.ofNat_inj]; exact hbt.symm.trans h
                · right; apply UInt8.toNat_inj.1; rw [← Int.ofNat_inj]; exact hbt.symm.trans h
              have HD : Hid (((tx vl)[q]?).getD 0 = 44 ∨ ((tx vl)[q]?).getD 0 = 92 → bt vl q = 44 ∨ bt vl q = 92) := by
                rintro (h | h)
                · left; rw [hbt, h]; rfl
                · right; rw [hbt, h]; rfl
              clear hbt
              generalize ((tx vl)[q]?).getD 0 = c at *
              by_cases c1 : bt vl q = 44
              · have b1 : (bt vl q == 44) = true := by rw [beq_iff_eq]; exact c1
                have HN : Hid (tx (U ++ ⟨#[92]⟩ ++ vl.extract q (q + 1)) = tx P ++ ((tx vl).take (q + 1)).flatMap quoY) := by
                  show _ = _
                  rw [HQ.out, tx_append, tx_append, HX.out, tx_one, HU.out, quoY, if_pos (HC.out (.inl c1))]
                  simp
                have a1 : Op.stringOp .add U ⟨#[92]⟩ = pure (.string (U ++ ⟨#[92]⟩)) := stringOp_add (by show _ + 1 ≤ _; omega)
                have a2 : Op.stringOp .add (U ++ ⟨#[92]⟩) (vl.extract q (q + 1)) = pure (.string (U ++ ⟨#[92]⟩ ++ vl.extract q (q + 1))) := stringOp_add (by rw [ByteArray.size_append, hxs]; show _ + 1 + 1 ≤ _; omega)
                have kc := conv_one wr 92 92 rfl
                have HB9 := Lib.hid (Below.two HB.out (below_al (below_0 wr) (.cells #[.int .u8 92] 5)))
                clear HX HQ HC HU HB HP
                go_wp2_with fail
                go_roundw
                case rel => exact ⟨q + 1, _, by go_num, by omega, rfl, HN.out, HB9.out⟩
                case measure => simp [RowKit.intOf]; omega
              · have b1 : (bt vl q == 44) = false := by rw [beq_eq_false_iff_ne]; exact c1
                by_cases c2 : bt vl q = 92
                · have b2 : (bt vl q == 92) = true := by rw [beq_iff_eq]; exact c2
                  have HN : Hid (tx (U ++ ⟨#[92]⟩ ++ vl.extract q (q + 1)) = tx P ++ ((tx vl).take (q + 1)).flatMap quoY) := by
                    show _ = _
                    rw [HQ.out, tx_append, tx_append, HX.out, tx_one, HU.out, quoY, if_pos (HC.out (.inr c2))]
                    simp
                  have a1 : Op.stringOp .add U ⟨#[92]⟩ = pure (.string (U ++ ⟨#[92]⟩)) := stringOp_add (by show _ + 1 ≤ _; omega)
                  have a2 : Op.stringOp .add (U ++ ⟨#[92]⟩) (vl.extract q (q + 1)) = pure (.string (U ++ ⟨#[92]⟩ ++ vl.extract q (q + 1))) := stringOp_add (by rw [ByteArray.size_append, hxs]; show _ + 1 + 1 ≤ _; omega)
                  have kc := conv_one wr 92 92 rfl
                  have HB9 := Lib.hid (Below.two HB.out (below_al (below_0 wr) (.cells #[.int .u8 92] 5)))
                  clear HX HQ HC HU HB HP
                  go_wp2_with fail
                  go_roundw
                  case rel => exact ⟨q + 1, _, by go_num, by omega, rfl, HN.out, HB9.out⟩
                  case measure => simp [RowKit.intOf]; omega
                · have b2 : (bt vl q == 92) = false := by rw [beq_eq_false_iff_ne]; exact c2
                  have HN : Hid (tx (U ++ vl.extract q (q + 1)) = tx P ++ ((tx vl).take (q + 1)).flatMap quoY) := by
                    show _ = _
                    rw [HQ.out, tx_append, HX.out, HU.out, quoY, if_neg (fun h => (HD.out h).elim c1 c2)]
                    simp
                  have a2 : Op.stringOp .add U (vl.extract q (q + 1)) = pure (.string (U ++ vl.extract q (q + 1))) := stringOp_add (by rw [hxs]; omega)
                  have HB9 := HB
                  clear HX HQ HC HU HB HP
                  go_wp2_with fail
                  go_roundw
                  case rel => exact ⟨q + 1, _, by go_num, by omega, rfl, HN.out, HB9.out⟩
                  case measure => simp [RowKit.intOf]; omega
            · have hqq : q = vl.size := by omega
              subst hqq
              have e1 : decide ((vl.size : Int) < (vl.size : Int)) = false := by simp
              have HN : Hid (tx U = textB (l.take (k + 1))) := by
                show _ = _
                have := HU.out
                rw [← tx_len, List.take_length] at this
                rw [HP.out, this]
              go_wp2_with fail
              go_roundw
              case rel => exact ⟨k + 1, U, by go_num, by omega, rfl, HN.out, by omega, HB.out⟩
              case measure => simp [RowKit.intOf]; omega
      · have hkk : k = l.length := by omega
        subst hkk
        have d1 : decide ((l.length : Int) < (l.length : Int)) = false := by simp
        have HR : Hid (T = ⟨(textB l).toArray⟩) := by
          show _ = _
          apply tx_inj
          rw [HE.out, List.take_length, tx_mk]
        go_wp2_with fail
        go_ret2
        exact ⟨by rw [HR.out]; rfl, HB.out⟩
end Go.Proofs.YtlcpigkgbihebaaDoor

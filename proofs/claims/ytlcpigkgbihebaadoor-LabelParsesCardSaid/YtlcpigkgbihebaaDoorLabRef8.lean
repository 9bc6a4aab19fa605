/-
  The document's one: a text's first label.
-/
import Derived.Test.YtlcpigkgbihebaaDoorLabRef7
import Derived.Test.YtlcpigkgbihebaaDoorLabRaw
import Derived.Test.YtlcpigkgbihebaaDoorHeldU
namespace Go.Proofs.YtlcpigkgbihebaaDoor
open Go.RowKit Go.PlainAid
set_option linter.unusedVariables false
set_option linter.unusedSimpArgs false
/-- What one tells of a text. -/
def OneIs (t : List UInt8) (x : Lab) (more : List UInt8) (ok : Bool) : Prop := ∀ l, endB (t.foldl stepB ⟨[], [], 0, l⟩) =
  if ok = true then (if more = [] then some (l ++ [x]) else endB ((more.drop 1).foldl stepB ⟨[], [], 0, l ++ [x]⟩)) else none
def OneRet (w : World) (s : ByteArray) (e : Ending) (w' : World) : Prop :=
  ∃ (x : Lab) (more : ByteArray) (ok : Bool), e = .returned (.tuple #[.agg #[.string x.1, .string x.2], .string more, .bool ok]) ∧ OneIs (tx s) x (tx more) ok ∧ more.size ≤ s.size ∧ x.1.size ≤ s.size ∧ x.2.size ≤ s.size ∧ Below w.heap.size w w'
theorem take_fold {l : List UInt8} {k : Nat} (h : k < l.length) (r : RB) : (l.take (k + 1)).foldl stepB r = stepB ((l.take k).foldl stepB r) ((l[k]?).getD 0) := by
  rw [List.take_succ_eq_append_getElem h, List.foldl_append, List.getElem?_eq_getElem h]
  rfl
theorem step_name {N : List UInt8} {l : List Lab} {c : UInt8} (h : c ≠ 61) : stepB ⟨N, [], 0, l⟩ c = ⟨N ++ [c], [], 0, l⟩ := by rw [stepB, if_pos rfl, if_neg h]
theorem step_eq {N : List UInt8} {l : List Lab} : stepB ⟨N, [], 0, l⟩ 61 = ⟨N, [], 1, l⟩ := by rw [stepB, if_pos rfl, if_pos rfl]
theorem step_comma {N V : List UInt8} {l : List Lab} : stepB ⟨N, V, 1, l⟩ 44 = ⟨[], [], 0, l ++ [mkL N V]⟩ := by rw [stepB, if_neg (by simp), if_pos rfl, if_pos rfl]
theorem step_quote {N V : List UInt8} {l : List Lab} : stepB ⟨N, V, 1, l⟩ 92 = ⟨N, V, 2, l⟩ := by rw [stepB, if_neg (by simp), if_pos rfl, if_neg (by decide), if_pos rfl]
theorem step_val {N V : List UInt8} {l : List Lab} {c : UInt8} (h : c ≠ 44) (h2 : c ≠ 92) : stepB ⟨N, V, 1, l⟩ c = ⟨N, V ++ [c], 1, l⟩ := by rw [stepB, if_neg (by simp), if_pos rfl, if_neg h, if_neg h2]
theorem step_quoted {N V : List UInt8} {l : List Lab} {c : UInt8} : stepB ⟨N, V, 2, l⟩ c = ⟨N, V ++ [c], 1, l⟩ := by rw [stepB, if_neg (by simp), if_neg (by simp)]
theorem tx_to {s : ByteArray} {n : Nat} : tx (s.extract 0 n) = (tx s).take n := by
  show (s.extract 0 n).data.toList = _
  rw [Lib.extract_data]
  show ((tx s).drop 0).take (n - 0) = _
  rw [List.drop_zero, Nat.sub_zero]
theorem byte_ne {s : ByteArray} {k : Nat} (h : k < s.size) (b : UInt8) : bt s k = (b.toNat : Int) ↔ ((tx s)[k]?).getD 0 = b := by
  rw [bt_tx h]
  constructor
  · intro e; apply UInt8.toNat_inj.1; omega
  · intro e; rw [e]
set_option maxRecDepth 100000 in
set_option maxHeartbeats 8000000 in
theorem one_any (s : ByteArray) (hs : s.size ≤ 100000) (w : World) : Calls Tryd.prog 31 #[.string s] w (OneRet w s) := by
  have gs := get_bt s
  have HL : Hid ((tx s).length = s.size) := tx_len s
  go_enter Tryd.func31, Tryd.ntmps31
  go_wp2_with fail
  have R0 := Lib.hid (Blk.new w 41 #[.string ⟨#[]⟩, .string ⟨#[]⟩])
  have B0 := Lib.hid (below_al (below_0 w) (.cells #[.string ⟨#[]⟩, .string ⟨#[]⟩] 41))
  have z0 : (w.alloc (.cells #[.string ⟨#[]⟩, .string ⟨#[]⟩] 41)).heap.size = w.heap.size + 1 := by simp
  generalize w.alloc (.cells #[.string ⟨#[]⟩, .string ⟨#[]⟩] 41) = W0 at *
  go_loopw [5] (fun i wr => ∃ n : Nat, i = .int .i64 (n : Int) ∧ n ≤ s.size ∧ Hid (∀ l, ((tx s).take n).foldl stepB ⟨[], [], 0, l⟩ = ⟨(tx s).take n, [], 0, l⟩) ∧ wr = W0) (fun i _ => s.size - (RowKit.intOf i).toNat)
  case atStart => exact ⟨0, rfl, Nat.zero_le _, fun l => rfl, rfl⟩
  case round =>
    obtain ⟨n, rfl, hn, HE, rfl⟩ := hrel
    have r0 := R0.out.cell 0
    have r1 := R0.out.cell 1
    simp only [List.getElem?_toArray, List.getElem?_cons_zero, List.getElem?_cons_succ] at r0 r1
    have f0 := R0.out.frozen 0
    have f1 := R0.out.frozen 1
    by_cases h1 : n < s.size
    · have d1 : decide ((n : Int) < (s.size : Int)) = true := decide_eq_true (by omega)
      have hi1 : (0 : Int) ≤ (n : Int) := by omega
      have hi2 : (n : Int) < (s.size : Int) := by omega
      by_cases c1 : bt s n = 61
      · have b1 : (bt s n == 61) = true := by rw [beq_iff_eq]; exact c1
        have b2 : (bt s n != 61) = false := by rw [bne, b1]; rfl
        have n1 : ((n : Int) == (s.size : Int)) = false := by rw [beq_eq_false_iff_ne]; omega
        have n2 : (n == s.size) = false := by rw [beq_eq_false_iff_ne]; omega
        have HE2 : Hid (∀ l, ((tx s).take (n + 1)).foldl stepB ⟨[], [], 0, l⟩ = ⟨tx (s.extract 0 n), tx ⟨#[]⟩, 1, l⟩) := fun l => by
          rw [take_fold (by rw [HL.out]; exact h1), HE.out, (byte_ne h1 61).1 c1, step_eq, tx_to]; rfl
        have hN : (s.extract 0 n).size ≤ s.size := by rw [ByteArray.size_extract]; omega
        clear HE
        go_wp2_with fail
        have XB : Hid (Blk (wr.alloc (.cells #[.string (s.extract 0 n), .string ⟨#[]⟩] 41)) (w.heap.size + 1) 41 #[.string (s.extract 0 n), .string ⟨#[]⟩]) := by
          have := Blk.new wr 41 #[.string (s.extract 0 n), .string ⟨#[]⟩]
          rw [z0] at this; exact this
        have R1 := Lib.hid (R0.out.alloc (.cells #[.string (s.extract 0 n), .string ⟨#[]⟩] 41))
        have B1 := Lib.hid (below_al B0.out (.cells #[.string (s.extract 0 n), .string ⟨#[]⟩] 41))
        generalize wr.alloc (.cells #[.string (s.extract 0 n), .string ⟨#[]⟩] 41) = W1 at *
        clear R0 B0 r0 r1 f0 f1 z0
        generalize s.extract 0 n = N at *
        go_loopw [7] (fun t wq => ∃ (i : Nat) (V : ByteArray), t = .int .i64 (i : Int) ∧ i ≤ s.size ∧ V.size ≤ i ∧ Hid (∀ l, ((tx s).take i).foldl stepB ⟨[], [], 0, l⟩ = ⟨tx N, tx V, 1, l⟩) ∧ Hid (Blk wq w.heap.size 41 #[.string ⟨#[]⟩, .string ⟨#[]⟩]) ∧ Hid (Blk wq (w.heap.size + 1) 41 #[.string N, .string V]) ∧ Hid (Below w.heap.size w wq)) (fun t _ => s.size - (RowKit.intOf t).toNat)
        case atStart => exact ⟨n + 1, ⟨#[]⟩, by go_num, by omega, by show 0 ≤ _; omega, HE2.out, R1.out, XB.out, B1.out⟩
        case round =>
          obtain ⟨i, V, rfl, hi, hv, HV0, HR, HX, HB⟩ := hrel
          have r0 := HR.out.cell 0
          have r1 := HR.out.cell 1
          have x0 := HX.out.cell 0
          have x1 := HX.out.cell 1
          simp only [List.getElem?_toArray, List.getElem?_cons_zero, List.getElem?_cons_succ] at r0 r1 x0 x1
          have f0 := HR.out.frozen 0
          have f1 := HR.out.frozen 1
          have g1 := HX.out.frozen 1
          by_cases i1 : i < s.size
          · have e1 : decide ((i : Int) < (s.size : Int)) = true := decide_eq_true (by omega)
            have hj1 : (0 : Int) ≤ (i : Int) := by omega
            have hj2 : (i : Int) < (s.size : Int) := by omega
            have i1' : i < (tx s).length := by rw [HL.out]; exact i1
            by_cases c44 : bt s i = 44
            · have b44 : (bt s i == 44) = true := by rw [beq_iff_eq]; exact c44
              have kS : ∀ w, (Instr.slice 9 (.string s) (some (.int .i64 (i : Int))) none none).run Tryd.prog w = .ok (.string (s.extract i s.size)) w := fun w => by
                rw [run_slice_string_from_if (P := Tryd.prog) w 9 s .i64 (i : Int) Tryd.underlying9, if_pos (by omega)]
                rfl
              have HO : Hid (OneIs (tx s) (N, V) (tx (s.extract i s.size)) true) := fun l => by
                have e2 : tx (s.extract i s.size) = 44 :: (tx s).drop (i + 1) := by
                  rw [tx_from (by omega), List.drop_eq_getElem_cons i1']
                  have := (byte_ne i1 44).1 c44
                  rw [List.getElem?_eq_getElem i1'] at this
                  rw [show (tx s)[i] = 44 from this]
                have e3 : tx s = (tx s).take i ++ 44 :: (tx s).drop (i + 1) := by
                  rw [← e2, tx_from (by omega), List.take_append_drop]
                rw [if_pos rfl, e2, if_neg (by simp)]
                conv => lhs; rw [e3]
                rw [List.foldl_append, HV0.out, List.foldl_cons, step_comma]
                rfl
              have hsz : (s.extract i s.size).size ≤ s.size := by rw [ByteArray.size_extract]; omega
              clear HV0
              go_wp2_with fail
              refine wp_region_U (S := (fun w9 => w9.cell? ⟨w.heap.size + 1, 0, none⟩ = some (.string N) ∧ w9.cell? ⟨w.heap.size + 1, 1, none⟩ = some (.string V))) (s := 4) (by kernel_rfl) ?_
              refine wpAnyU_take (i := 0) (v := (.agg #[.string N, .string V])) rfl (by kernel_rfl) (by kernel_rfl) (by kernel_rfl) (by kernel_rfl) (by decide) (by kernel_rfl) (fun _ _ _ h => h) (Or.inl ⟨by rfl, ?_⟩) ⟨x0, x1⟩ ?_
              · (intro w hSw; (try dsimp only at hSw); obtain ⟨s0, s1⟩ := hSw; go_simp)
              simp only [Act.put, List.setIfInBounds_toArray, List.set_cons_zero, List.set_cons_succ]
              refine wpAnyU_take0 (i := 1) (v := (.string s)) rfl (by kernel_rfl) (by kernel_rfl) (by kernel_rfl) (by decide) (fun _ _ _ h => h) (Or.inl ⟨by rfl, ?_⟩) (fun _ => ⟨x0, x1⟩) ?_
              · (intro w hSw; have kW := kS w; clear hSw; go_simp)
              simp only [Act.put, List.setIfInBounds_toArray, List.set_cons_zero, List.set_cons_succ]
              refine wpAnyU_take0 (i := 2) (v := (.int .i64 (i : Int))) rfl (by kernel_rfl) (by kernel_rfl) (by kernel_rfl) (by decide) (fun _ _ _ h => h) (Or.inl ⟨by rfl, ?_⟩) (fun _ => ⟨x0, x1⟩) ?_
              · (intro w hSw; have kW := kS w; clear hSw; go_simp)
              simp only [Act.put, List.setIfInBounds_toArray, List.set_cons_zero, List.set_cons_succ]
              refine wpAnyU_take0 (i := 3) (v := (.string (s.extract i s.size))) rfl (by kernel_rfl) (by kernel_rfl) (by kernel_rfl) (by decide) (fun _ _ _ h => h) (Or.inl ⟨by rfl, ?_⟩) (fun _ => ⟨x0, x1⟩) ?_
              · (intro w hSw; have kW := kS w; clear hSw; go_simp)
              simp only [Act.put, List.setIfInBounds_toArray, List.set_cons_zero, List.set_cons_succ]
              refine wpAnyU_one (i := 4) (by kernel_rfl) rfl (fun K hK => ?_)
              go_simp
              refine hK.out _ _ (fun h => by cases h) ?_
              clear hK K
              refine wpAnyU_one (i := 5) (by kernel_rfl) rfl (fun K hK => ?_)
              go_simp
              refine hK.out _ _ (fun h => by cases h) ?_
              clear hK K
              try simp only [Act.put, List.setIfInBounds_toArray, List.set_cons_zero, List.set_cons_succ]
              refine wpAnyU_one (i := 6) (by kernel_rfl) rfl (fun K hK => ?_)
              go_simp
              refine hK.out _ _ (fun h => by cases h) ?_
              clear hK K
              try simp only [Act.put, List.setIfInBounds_toArray, List.set_cons_zero, List.set_cons_succ]
              refine wpAnyU_done (by kernel_rfl) ?_ _
              go_wp2_with fail
              have RR9 : Blk (((wr.setCell ⟨w.heap.size, 0, none⟩ (.string N)).setCell ⟨w.heap.size, 1, none⟩ (.string V)).drew) w.heap.size 41 #[.string N, .string V] := ((HR.out.set_ 0 _).set_ 1 _).drew
              have q0 := RR9.cell 0
              have q1 := RR9.cell 1
              simp only [List.getElem?_toArray, List.getElem?_cons_zero, List.getElem?_cons_succ] at q0 q1
              have HB9 : Hid (Below w.heap.size w (((wr.setCell ⟨w.heap.size, 0, none⟩ (.string N)).setCell ⟨w.heap.size, 1, none⟩ (.string V)).drew)) := ((HB.out.setCell (Nat.le_refl _) _).setCell (Nat.le_refl _) _).drew
              clear RR9
              generalize (((wr.setCell ⟨w.heap.size, 0, none⟩ (.string N)).setCell ⟨w.heap.size, 1, none⟩ (.string V)).drew) = W9 at *
              refine bodyPost_ret (v := .tuple #[.agg #[.string N, .string V], .string (s.extract i s.size), .bool true]) (by simp [results, Tryd.results31, go_sem, q0, q1]) rfl ?_
              exact ⟨(N, V), _, true, rfl, HO.out, hsz, hN, by show V.size ≤ _; omega, HB9.out⟩
            · have b44 : (bt s i == 44) = false := by rw [beq_eq_false_iff_ne]; exact c44
              by_cases c92 : bt s i = 92
              · have b92 : (bt s i == 92) = true := by rw [beq_iff_eq]; exact c92
                have HV2 : Hid (∀ l, ((tx s).take (i + 1)).foldl stepB ⟨[], [], 0, l⟩ = ⟨tx N, tx V, 2, l⟩) := fun l => by
                  rw [take_fold i1', HV0.out, (byte_ne i1 92).1 c92, step_quote]
                clear HV0
                by_cases i2 : i + 1 = s.size
                · have n3 : ((i : Int) + 1 == (s.size : Int)) = true := by rw [beq_iff_eq]; omega
                  have HO : Hid (OneIs (tx s) (N, V) (tx s) false) := fun l => by
                    have := HV2.out l
                    rw [i2, ← HL.out, List.take_length] at this
                    rw [this]; rfl
                  clear HV2
                  go_wp2_with fail
                  have RR9 : Blk ((wr.setCell ⟨w.heap.size, 0, none⟩ (.string N)).setCell ⟨w.heap.size, 1, none⟩ (.string V)) w.heap.size 41 #[.string N, .string V] := (HR.out.set_ 0 _).set_ 1 _
                  have q0 := RR9.cell 0
                  have q1 := RR9.cell 1
                  simp only [List.getElem?_toArray, List.getElem?_cons_zero, List.getElem?_cons_succ] at q0 q1
                  have HB9 : Hid (Below w.heap.size w ((wr.setCell ⟨w.heap.size, 0, none⟩ (.string N)).setCell ⟨w.heap.size, 1, none⟩ (.string V))) := (HB.out.setCell (Nat.le_refl _) _).setCell (Nat.le_refl _) _
                  clear RR9
                  generalize ((wr.setCell ⟨w.heap.size, 0, none⟩ (.string N)).setCell ⟨w.heap.size, 1, none⟩ (.string V)) = W9 at *
                  refine bodyPost_ret (v := .tuple #[.agg #[.string N, .string V], .string s, .bool false]) (by simp [results, Tryd.results31, go_sem, q0, q1]) rfl ?_
                  exact ⟨(N, V), _, false, rfl, HO.out, Nat.le_refl _, hN, by show V.size ≤ _; omega, HB9.out⟩
                · have n3 : ((i : Int) + 1 == (s.size : Int)) = false := by rw [beq_eq_false_iff_ne]; omega
                  have i3 : i + 1 < s.size := by omega
                  have i3' : i + 1 < (tx s).length := by rw [HL.out]; exact i3
                  have hxs : (s.extract (i + 1) (i + 2)).size = 1 := by rw [ByteArray.size_extract]; omega
                  have HV : Hid (∀ l, ((tx s).take (i + 2)).foldl stepB ⟨[], [], 0, l⟩ = ⟨tx N, tx (V ++ s.extract (i + 1) (i + 2)), 1, l⟩) := fun l => by
                    rw [take_fold i3', HV2.out, step_quoted, tx_append, ext_one i3]
                  have a2 : Op.stringOp .add V (s.extract (i + 1) (i + 2)) = pure (.string (V ++ s.extract (i + 1) (i + 2))) := stringOp_add (by rw [hxs]; omega)
                  have kS : ∀ w, (Instr.slice 9 (.string s) (some (.int .i64 ((i : Int) + 1))) (some (.int .i64 ((i : Int) + 1 + 1))) none).run Tryd.prog w = .ok (.string (s.extract (i + 1) (i + 2))) w := fun w => slice_one s (i + 1) i3 w
                  clear HV2
                  go_wp2_with fail
                  refine wp_region_U (S := (fun w9 => w9.cell? ⟨w.heap.size + 1, 0, none⟩ = some (.string N) ∧ w9.cell? ⟨w.heap.size + 1, 1, none⟩ = some (.string V))) (s := 9) (by kernel_rfl) ?_
                  refine wpAnyU_take (i := 0) (v := (.pointer (some ⟨w.heap.size + 1, 1, none⟩))) rfl (by kernel_rfl) (by kernel_rfl) (by kernel_rfl) (by kernel_rfl) (by decide) (by kernel_rfl) (fun _ _ _ h => h) (Or.inl ⟨by rfl, ?_⟩) ⟨x0, x1⟩ ?_
                  · (intro w hSw; (try dsimp only at hSw); obtain ⟨s0, s1⟩ := hSw; go_simp)
                  simp only [Act.put, List.setIfInBounds_toArray, List.set_cons_zero, List.set_cons_succ]
                  refine wpAnyU_take (i := 1) (v := (.string V)) rfl (by kernel_rfl) (by kernel_rfl) (by kernel_rfl) (by kernel_rfl) (by decide) (by kernel_rfl) (fun _ _ _ h => h) (Or.inl ⟨by rfl, ?_⟩) ⟨x0, x1⟩ ?_
                  · (intro w hSw; (try dsimp only at hSw); obtain ⟨s0, s1⟩ := hSw; go_simp)
                  simp only [Act.put, List.setIfInBounds_toArray, List.set_cons_zero, List.set_cons_succ]
                  refine wpAnyU_take (i := 2) (v := (.string s)) rfl (by kernel_rfl) (by kernel_rfl) (by kernel_rfl) (by kernel_rfl) (by decide) (by kernel_rfl) (fun _ _ _ h => h) (Or.inl ⟨by rfl, ?_⟩) ⟨x0, x1⟩ ?_
                  · (intro w hSw; (try dsimp only at hSw); obtain ⟨s0, s1⟩ := hSw; go_simp)
                  simp only [Act.put, List.setIfInBounds_toArray, List.set_cons_zero, List.set_cons_succ]
                  refine wpAnyU_take (i := 3) (v := (.int .i64 ((i : Int) + 1))) rfl (by kernel_rfl) (by kernel_rfl) (by kernel_rfl) (by kernel_rfl) (by decide) (by kernel_rfl) (fun _ _ _ h => h) (Or.inl ⟨by rfl, ?_⟩) ⟨x0, x1⟩ ?_
                  · (intro w hSw; (try dsimp only at hSw); obtain ⟨s0, s1⟩ := hSw; go_simp)
                  simp only [Act.put, List.setIfInBounds_toArray, List.set_cons_zero, List.set_cons_succ]
                  refine wpAnyU_take (i := 4) (v := (.int .i64 ((i : Int) + 1))) rfl (by kernel_rfl) (by kernel_rfl) (by kernel_rfl) (by kernel_rfl) (by decide) (by kernel_rfl) (fun _ _ _ h => h) (Or.inl ⟨by rfl, ?_⟩) ⟨x0, x1⟩ ?_
                  · (intro w hSw; (try dsimp only at hSw); obtain ⟨s0, s1⟩ := hSw; go_simp)
                  simp only [Act.put, List.setIfInBounds_toArray, List.set_cons_zero, List.set_cons_succ]
                  refine wpAnyU_take (i := 5) (v := (.int .i64 ((i : Int) + 1 + 1))) rfl (by kernel_rfl) (by kernel_rfl) (by kernel_rfl) (by kernel_rfl) (by decide) (by kernel_rfl) (fun _ _ _ h => h) (Or.inl ⟨by rfl, ?_⟩) ⟨x0, x1⟩ ?_
                  · (intro w hSw; (try dsimp only at hSw); obtain ⟨s0, s1⟩ := hSw; go_simp; exact IntWalk.i64_in _ (by omega))
                  simp only [Act.put, List.setIfInBounds_toArray, List.set_cons_zero, List.set_cons_succ]
                  refine wpAnyU_take (i := 6) (v := (.string (s.extract (i + 1) (i + 2)))) rfl (by kernel_rfl) (by kernel_rfl) (by kernel_rfl) (by kernel_rfl) (by decide) (by kernel_rfl) (fun _ _ _ h => h) (Or.inl ⟨by rfl, ?_⟩) ⟨x0, x1⟩ ?_
                  · (intro w hSw; have kW := kS w; clear hSw; go_simp)
                  simp only [Act.put, List.setIfInBounds_toArray, List.set_cons_zero, List.set_cons_succ]
                  refine wpAnyU_take (i := 7) (v := (.string (V ++ s.extract (i + 1) (i + 2)))) rfl (by kernel_rfl) (by kernel_rfl) (by kernel_rfl) (by kernel_rfl) (by decide) (by kernel_rfl) (fun _ _ _ h => h) (Or.inl ⟨by rfl, ?_⟩) ⟨x0, x1⟩ ?_
                  · (intro w hSw; (try dsimp only at hSw); obtain ⟨s0, s1⟩ := hSw; go_simp)
                  simp only [Act.put, List.setIfInBounds_toArray, List.set_cons_zero, List.set_cons_succ]
                  refine wpAnyU_take (i := 8) (v := (.pointer (some ⟨w.heap.size + 1, 1, none⟩))) rfl (by kernel_rfl) (by kernel_rfl) (by kernel_rfl) (by kernel_rfl) (by decide) (by kernel_rfl) (fun _ _ _ h => h) (Or.inl ⟨by rfl, ?_⟩) ⟨x0, x1⟩ ?_
                  · (intro w hSw; (try dsimp only at hSw); obtain ⟨s0, s1⟩ := hSw; go_simp)
                  simp only [Act.put, List.setIfInBounds_toArray, List.set_cons_zero, List.set_cons_succ]
                  refine wpAnyU_one (i := 9) (by kernel_rfl) rfl (fun K hK => ?_)
                  go_simp
                  have HX9 : Hid (Blk (wr.drew.setCell ⟨w.heap.size + 1, 1, none⟩ (.string (V ++ s.extract (i + 1) (i + 2)))) (w.heap.size + 1) 41 #[.string N, .string (V ++ s.extract (i + 1) (i + 2))]) := (HX.out.drew).set_ 1 _
                  have HR9 : Hid (Blk (wr.drew.setCell ⟨w.heap.size + 1, 1, none⟩ (.string (V ++ s.extract (i + 1) (i + 2)))) w.heap.size 41 #[.string ⟨#[]⟩, .string ⟨#[]⟩]) := (HR.out.drew).far (by simp) _
                  have HB9 : Hid (Below w.heap.size w (wr.drew.setCell ⟨w.heap.size + 1, 1, none⟩ (.string (V ++ s.extract (i + 1) (i + 2))))) := (HB.out.drew).setCell (by simp) _
                  clear HX HR HB x0 x1 r0 r1 f0 f1
                  refine hK.out _ _ (fun h => by cases h) ?_
                  clear hK K
                  refine wpAnyU_done (by kernel_rfl) ?_ _
                  go_wp2_with fail
                  go_roundw
                  case rel => exact ⟨i + 2, _, by go_num, by omega, by rw [ByteArray.size_append, hxs]; omega, HV.out, HR9.out, HX9.out, HB9.out⟩
                  case measure => simp [RowKit.intOf]; omega
              · have b92 : (bt s i == 92) = false := by rw [beq_eq_false_iff_ne]; exact c92
                have hxs : (s.extract i (i + 1)).size = 1 := by rw [ByteArray.size_extract]; omega
                have HV : Hid (∀ l, ((tx s).take (i + 1)).foldl stepB ⟨[], [], 0, l⟩ = ⟨tx N, tx (V ++ s.extract i (i + 1)), 1, l⟩) := fun l => by
                  rw [take_fold i1', HV0.out, step_val (fun e => c44 ((byte_ne i1 44).2 e)) (fun e => c92 ((byte_ne i1 92).2 e)), tx_append, ext_one i1]
                have a2 : Op.stringOp .add V (s.extract i (i + 1)) = pure (.string (V ++ s.extract i (i + 1))) := stringOp_add (by rw [hxs]; omega)
                have kS := slice_one s i i1
                clear HV0
                go_wp2_with fail
                refine wp_region_U (S := (fun w9 => w9.cell? ⟨w.heap.size + 1, 0, none⟩ = some (.string N) ∧ w9.cell? ⟨w.heap.size + 1, 1, none⟩ = some (.string V))) (s := 9) (by kernel_rfl) ?_
                refine wpAnyU_take (i := 0) (v := (.pointer (some ⟨w.heap.size + 1, 1, none⟩))) rfl (by kernel_rfl) (by kernel_rfl) (by kernel_rfl) (by kernel_rfl) (by decide) (by kernel_rfl) (fun _ _ _ h => h) (Or.inl ⟨by rfl, ?_⟩) ⟨x0, x1⟩ ?_
                · (intro w hSw; (try dsimp only at hSw); obtain ⟨s0, s1⟩ := hSw; go_simp)
                simp only [Act.put, List.setIfInBounds_toArray, List.set_cons_zero, List.set_cons_succ]
                refine wpAnyU_take (i := 1) (v := (.string V)) rfl (by kernel_rfl) (by kernel_rfl) (by kernel_rfl) (by kernel_rfl) (by decide) (by kernel_rfl) (fun _ _ _ h => h) (Or.inl ⟨by rfl, ?_⟩) ⟨x0, x1⟩ ?_
                · (intro w hSw; (try dsimp only at hSw); obtain ⟨s0, s1⟩ := hSw; go_simp)
                simp only [Act.put, List.setIfInBounds_toArray, List.set_cons_zero, List.set_cons_succ]
                refine wpAnyU_take (i := 2) (v := (.string s)) rfl (by kernel_rfl) (by kernel_rfl) (by kernel_rfl) (by kernel_rfl) (by decide) (by kernel_rfl) (fun _ _ _ h => h) (Or.inl ⟨by rfl, ?_⟩) ⟨x0, x1⟩ ?_
                · (intro w hSw; (try dsimp only at hSw); obtain ⟨s0, s1⟩ := hSw; go_simp)
                simp only [Act.put, List.setIfInBounds_toArray, List.set_cons_zero, List.set_cons_succ]
                refine wpAnyU_take (i := 3) (v := (.int .i64 ((i : Int)))) rfl (by kernel_rfl) (by kernel_rfl) (by kernel_rfl) (by kernel_rfl) (by decide) (by kernel_rfl) (fun _ _ _ h => h) (Or.inl ⟨by rfl, ?_⟩) ⟨x0, x1⟩ ?_
                · (intro w hSw; (try dsimp only at hSw); obtain ⟨s0, s1⟩ := hSw; go_simp)
                simp only [Act.put, List.setIfInBounds_toArray, List.set_cons_zero, List.set_cons_succ]
                refine wpAnyU_take (i := 4) (v := (.int .i64 ((i : Int)))) rfl (by kernel_rfl) (by kernel_rfl) (by kernel_rfl) (by kernel_rfl) (by decide) (by kernel_rfl) (fun _ _ _ h => h) (Or.inl ⟨by rfl, ?_⟩) ⟨x0, x1⟩ ?_
                · (intro w hSw; (try dsimp only at hSw); obtain ⟨s0, s1⟩ := hSw; go_simp)
                simp only [Act.put, List.setIfInBounds_toArray, List.set_cons_zero, List.set_cons_succ]
                refine wpAnyU_take (i := 5) (v := (.int .i64 ((i : Int) + 1))) rfl (by kernel_rfl) (by kernel_rfl) (by kernel_rfl) (by kernel_rfl) (by decide) (by kernel_rfl) (fun _ _ _ h => h) (Or.inl ⟨by rfl, ?_⟩) ⟨x0, x1⟩ ?_
                · (intro w hSw; (try dsimp only at hSw); obtain ⟨s0, s1⟩ := hSw; go_simp; exact IntWalk.i64_in _ (by omega))
                simp only [Act.put, List.setIfInBounds_toArray, List.set_cons_zero, List.set_cons_succ]
                refine wpAnyU_take (i := 6) (v := (.string (s.extract i (i + 1)))) rfl (by kernel_rfl) (by kernel_rfl) (by kernel_rfl) (by kernel_rfl) (by decide) (by kernel_rfl) (fun _ _ _ h => h) (Or.inl ⟨by rfl, ?_⟩) ⟨x0, x1⟩ ?_
                · (intro w hSw; have kW := kS w; clear hSw; go_simp)
                simp only [Act.put, List.setIfInBounds_toArray, List.set_cons_zero, List.set_cons_succ]
                refine wpAnyU_take (i := 7) (v := (.string (V ++ s.extract i (i + 1)))) rfl (by kernel_rfl) (by kernel_rfl) (by kernel_rfl) (by kernel_rfl) (by decide) (by kernel_rfl) (fun _ _ _ h => h) (Or.inl ⟨by rfl, ?_⟩) ⟨x0, x1⟩ ?_
                · (intro w hSw; (try dsimp only at hSw); obtain ⟨s0, s1⟩ := hSw; go_simp)
                simp only [Act.put, List.setIfInBounds_toArray, List.set_cons_zero, List.set_cons_succ]
                refine wpAnyU_take (i := 8) (v := (.pointer (some ⟨w.heap.size + 1, 1, none⟩))) rfl (by kernel_rfl) (by kernel_rfl) (by kernel_rfl) (by kernel_rfl) (by decide) (by kernel_rfl) (fun _ _ _ h => h) (Or.inl ⟨by rfl, ?_⟩) ⟨x0, x1⟩ ?_
                · (intro w hSw; (try dsimp only at hSw); obtain ⟨s0, s1⟩ := hSw; go_simp)
                simp only [Act.put, List.setIfInBounds_toArray, List.set_cons_zero, List.set_cons_succ]
                refine wpAnyU_one (i := 9) (by kernel_rfl) rfl (fun K hK => ?_)
                go_simp
                have HX9 : Hid (Blk (wr.drew.setCell ⟨w.heap.size + 1, 1, none⟩ (.string (V ++ s.extract i (i + 1)))) (w.heap.size + 1) 41 #[.string N, .string (V ++ s.extract i (i + 1))]) := (HX.out.drew).set_ 1 _
                have HR9 : Hid (Blk (wr.drew.setCell ⟨w.heap.size + 1, 1, none⟩ (.string (V ++ s.extract i (i + 1)))) w.heap.size 41 #[.string ⟨#[]⟩, .string ⟨#[]⟩]) := (HR.out.drew).far (by simp) _
                have HB9 : Hid (Below w.heap.size w (wr.drew.setCell ⟨w.heap.size + 1, 1, none⟩ (.string (V ++ s.extract i (i + 1))))) := (HB.out.drew).setCell (by simp) _
                clear HX HR HB x0 x1 r0 r1 f0 f1
                refine hK.out _ _ (fun h => by cases h) ?_
                clear hK K
                refine wpAnyU_done (by kernel_rfl) ?_ _
                go_wp2_with fail
                go_roundw
                case rel => exact ⟨i + 1, _, by go_num, by omega, by rw [ByteArray.size_append, hxs]; omega, HV.out, HR9.out, HX9.out, HB9.out⟩
                case measure => simp [RowKit.intOf]; omega
          · obtain rfl : i = s.size := by omega
            have e1 : decide ((s.size : Int) < (s.size : Int)) = false := by simp
            have HO : Hid (OneIs (tx s) (N, V) (tx ⟨#[]⟩) true) := fun l => by
              have := HV0.out l
              rw [← HL.out, List.take_length] at this
              rw [this]; rfl
            clear HV0
            go_wp2_with fail
            have RR9 : Blk ((wr.setCell ⟨w.heap.size, 0, none⟩ (.string N)).setCell ⟨w.heap.size, 1, none⟩ (.string V)) w.heap.size 41 #[.string N, .string V] := (HR.out.set_ 0 _).set_ 1 _
            have q0 := RR9.cell 0
            have q1 := RR9.cell 1
            simp only [List.getElem?_toArray, List.getElem?_cons_zero, List.getElem?_cons_succ] at q0 q1
            have HB9 : Hid (Below w.heap.size w ((wr.setCell ⟨w.heap.size, 0, none⟩ (.string N)).setCell ⟨w.heap.size, 1, none⟩ (.string V))) := (HB.out.setCell (Nat.le_refl _) _).setCell (Nat.le_refl _) _
            clear RR9
            generalize ((wr.setCell ⟨w.heap.size, 0, none⟩ (.string N)).setCell ⟨w.heap.size, 1, none⟩ (.string V)) = W9 at *
            refine bodyPost_ret (v := .tuple #[.agg #[.string N, .string V], .string ⟨#[]⟩, .bool true]) (by simp [results, Tryd.results31, go_sem, q0, q1]) rfl ?_
            exact ⟨(N, V), ⟨#[]⟩, true, rfl, HO.out, Nat.zero_le _, hN, by show V.size ≤ _; omega, HB9.out⟩
      · have b1 : (bt s n == 61) = false := by rw [beq_eq_false_iff_ne]; exact c1
        have b2 : (bt s n != 61) = true := by rw [bne, b1]; rfl
        have HE2 : Hid (∀ l, ((tx s).take (n + 1)).foldl stepB ⟨[], [], 0, l⟩ = ⟨(tx s).take (n + 1), [], 0, l⟩) := fun l => by
          rw [take_fold (by rw [HL.out]; exact h1), HE.out, step_name (fun e => c1 ((byte_ne h1 61).2 e)), List.take_succ_eq_append_getElem (by rw [HL.out]; exact h1), List.getElem?_eq_getElem (by rw [HL.out]; exact h1)]
          rfl
        clear HE r0 r1 f0 f1
        go_wp2_with fail
        go_roundw
        case rel => exact ⟨n + 1, by go_num, by omega, HE2.out, by first | rfl | trivial⟩
        case measure => simp [RowKit.intOf]; omega
    · obtain rfl : n = s.size := by omega
      have d1 : decide ((s.size : Int) < (s.size : Int)) = false := by simp
      have HO : Hid (∀ x more, OneIs (tx s) x more false) := fun x more l => by
        have := HE.out l
        rw [← HL.out, List.take_length] at this
        rw [this]; rfl
      clear HE
      go_wp2_with fail
      have RR9 : Blk ((wr.setCell ⟨w.heap.size, 0, none⟩ (.string ⟨#[]⟩)).setCell ⟨w.heap.size, 1, none⟩ (.string ⟨#[]⟩)) w.heap.size 41 #[.string ⟨#[]⟩, .string ⟨#[]⟩] := (R0.out.set_ 0 _).set_ 1 _
      have q0 := RR9.cell 0
      have q1 := RR9.cell 1
      simp only [List.getElem?_toArray, List.getElem?_cons_zero, List.getElem?_cons_succ] at q0 q1
      have HB9 : Hid (Below w.heap.size w ((wr.setCell ⟨w.heap.size, 0, none⟩ (.string ⟨#[]⟩)).setCell ⟨w.heap.size, 1, none⟩ (.string ⟨#[]⟩))) := (B0.out.setCell (Nat.le_refl _) _).setCell (Nat.le_refl _) _
      clear RR9
      generalize ((wr.setCell ⟨w.heap.size, 0, none⟩ (.string ⟨#[]⟩)).setCell ⟨w.heap.size, 1, none⟩ (.string ⟨#[]⟩)) = W9 at *
      refine bodyPost_ret (v := .tuple #[.agg #[.string ⟨#[]⟩, .string ⟨#[]⟩], .string s, .bool false]) (by simp [results, Tryd.results31, go_sem, q0, q1]) rfl ?_
      exact ⟨(⟨#[]⟩, ⟨#[]⟩), _, false, rfl, HO.out _ _, Nat.le_refl _, Nat.zero_le _, Nat.zero_le _, HB9.out⟩
end Go.Proofs.YtlcpigkgbihebaaDoor

/-
  What a sketch of each kind holds: ladder's distinct, count, lie, and the map of them.
-/
import Derived.Test.YtoffmclbnobllaaGreatDoorCkSame
import Derived.MapKept
import Derived.Maps.OwnOps
import Derived.Laws.EntriesVeiled
namespace Go.Proofs.YtoffmclbnobllaaGreatDoor
open Go.RowKit
set_option linter.unusedVariables false
set_option linter.unusedSimpArgs false
theorem run_upd {P : Program} {w : World} {m : Nat} {es : Array MapEntry} {clock : Nat} {T kt et : TypeId} {c : Int} {v : Value} (hm : w.heap[m]? = some (.map es clock)) (hk : P.underlying T = some (.map kt et)) (hd : P.underlying kt = some (.int .i64)) (hf : Instr.findNow (.int .i64) (.int .i64 c) es.toList 0 = some none) :
    (Instr.mapUpdate T (.map (some m)) (.int .i64 c) v).run P w = .ok () (w.putObj m (.map (es.push { key := .int .i64 c, val := v, born := clock }) (clock + 1))) := by
  have h1 := Go.MapKept.run_checkKey (w := w) hd (k := .int .i64 c) rfl false 9999
  have h2 := Go.MapKept.run_findKey (w := w) hd hf
  simp only [Instr.mapUpdate, Sem.run_bind, run_underlying hk, Result.andThen, getObj, Sem.run, hm, h1, h2, setObj]
  rfl
theorem run_upd_new {P : Program} {W : World} {m : Nat} {es : Array MapEntry} {clock : Nat} {T kt et : TypeId} {c : Int} {v : Value} (hm : W.heap.size = m) (hk : P.underlying T = some (.map kt et)) (hd : P.underlying kt = some (.int .i64)) (hf : Instr.findNow (.int .i64) (.int .i64 c) es.toList 0 = some none) :
    (Instr.mapUpdate T (.map (some m)) (.int .i64 c) v).run P (W.alloc (.map es clock)) = .ok () (W.alloc (.map (es.push { key := .int .i64 c, val := v, born := clock }) (clock + 1))) := by
  subst hm
  rw [run_upd (World.alloc_heap_new _ _) hk hd hf]
  congr 1
  simp only [World.putObj, World.alloc]
  congr 1
  apply Array.ext'
  simp [Array.setIfInBounds, Array.toList_push]
theorem run_look {P : Program} {w : World} {m : Nat} {es : Array MapEntry} {clock : Nat} {T kt et : TypeId} {c : Int} {i : Nat} {v : Value} (hm : w.heap[m]? = some (.map es clock)) (hk : P.underlying T = some (.map kt et)) (hd : P.underlying kt = some (.int .i64)) (hf : Instr.findNow (.int .i64) (.int .i64 c) es.toList 0 = some (some (i, v))) :
    (Instr.lookup T (.map (some m)) (.int .i64 c) true).run P w = .ok (.tuple #[v, .bool true]) w := by
  have h1 : (Instr.checkKey es.isEmpty 10000 kt (.int .i64 c)).run P w = .ok () w := Go.MapKept.run_checkKey (w := w) hd (k := .int .i64 c) rfl es.isEmpty 9999
  have h2 := Go.MapKept.run_findKey (w := w) hd hf
  simp only [Instr.lookup, Sem.run_bind, run_underlying hk, Result.andThen, getObj, Sem.run, hm, Sem.run_pure, h1, h2]
  rfl
theorem run_look_none {P : Program} {w : World} {m : Nat} {es : Array MapEntry} {clock : Nat} {T kt et : TypeId} {c : Int} {z : Value} (hm : w.heap[m]? = some (.map es clock)) (hk : P.underlying T = some (.map kt et)) (hd : P.underlying kt = some (.int .i64)) (hf : Instr.findNow (.int .i64) (.int .i64 c) es.toList 0 = some none) (hz : (zeroValue et).run P w = .ok z w) :
    (Instr.lookup T (.map (some m)) (.int .i64 c) true).run P w = .ok (.tuple #[z, .bool false]) w := by
  have h1 : (Instr.checkKey es.isEmpty 10000 kt (.int .i64 c)).run P w = .ok () w := Go.MapKept.run_checkKey (w := w) hd (k := .int .i64 c) rfl es.isEmpty 9999
  have h2 := Go.MapKept.run_findKey (w := w) hd hf
  simp only [Instr.lookup, Sem.run_bind, run_underlying hk, Result.andThen, getObj, Sem.run, hm, Sem.run_pure, h1, h2, hz]
  rfl
/-- What the map of kinds holds. -/
def kindsO : Array MapEntry := #[{ key := .int .i64 1, val := .func (.func 74) #[] #[], born := 0 }, { key := .int .i64 2, val := .func (.func 75) #[] #[], born := 1 }, { key := .int .i64 3, val := .func (.func 76) #[] #[], born := 2 }]
theorem kinds_any (w : World) : Calls Tryz.prog 66 #[] w fun e w' => e = .returned (.map (some w.heap.size)) ∧ w' = w.alloc (.map kindsO 3) := by
  have q1 := fun v => run_upd_new (P := Tryz.prog) (W := w) (T := 111) (c := 1) (v := v) (es := #[]) (clock := 0) rfl Tryz.underlying111 Tryz.underlying3 rfl
  have q2 := fun v v' => run_upd_new (P := Tryz.prog) (W := w) (T := 111) (c := 2) (v := v) (es := #[{ key := .int .i64 1, val := v', born := 0 }]) (clock := 1) rfl Tryz.underlying111 Tryz.underlying3 rfl
  have q3 := fun v v' v'' => run_upd_new (P := Tryz.prog) (W := w) (T := 111) (c := 3) (v := v) (es := #[{ key := .int .i64 1, val := v', born := 0 }, { key := .int .i64 2, val := v'', born := 1 }]) (clock := 2) rfl Tryz.underlying111 Tryz.underlying3 rfl
  simp only [List.push_toArray, List.nil_append, List.cons_append, Nat.zero_add, Nat.reduceAdd] at q1 q2 q3
  have hmm := @run_makeMap Tryz.prog
  go_enter Tryz.func66, Tryz.ntmps66
  go_wp2_with fail
  go_ret
  exact ⟨rfl, rfl⟩
/-! distinct, count, lie -/
/-- A text's bytes as numbers. -/
def regsL (s : ByteArray) : List Nat := s.data.toList.map UInt8.toNat
theorem bs_regs (s : ByteArray) : Hl.bs (regsL s) = s := by
  apply tx_inj
  show ((s.data.toList.map UInt8.toNat).map UInt8.ofNat).toArray.toList = s.data.toList
  rw [List.map_map]
  have : (UInt8.ofNat ∘ UInt8.toNat) = id := by funext x; simp
  rw [this, List.map_id]
theorem bytes_regs (s : ByteArray) : Hl.Bytes (regsL s) := fun x hx => by
  obtain ⟨b, _, rfl⟩ := List.mem_map.1 hx
  exact b.toNat_lt
theorem hright_any (b : Int) (s : ByteArray) (w : World) : Calls Tryz.prog 84 #[.agg #[.int .i64 b, .string s]] w fun e w' => e = .returned (.bool (Hl.rightF b (regsL s))) ∧ Below w.heap.size w w' := by
  have := Hl.right_any b (regsL s) (bytes_regs s) w
  rw [bs_regs] at this
  exact this
set_option maxRecDepth 100000 in
set_option maxHeartbeats 2000000 in
theorem distinct0_any (m : SkM) (h0 : m.s.level = 0) (w : World) (hm : SkOk w w.heap.size m) (hf : SkFit m.s) :
    Calls Tryz.prog 74 #[skV m] w fun r w' => r = .returned (.tuple #[.iface 127 (eV m), .bool (Ex.rightB m.s.e)]) ∧ Below w.heap.size w w' := by
  have HM := Lib.hid hm
  have HF := Lib.hid hf
  clear hm hf
  obtain ⟨⟨kind, level, e, bits, regs, rows, cols, c, fine, g⟩, ea, ec, ca, cc, ga, gc⟩ := m
  simp only at h0
  subst h0
  have HB := Lib.hid (below_al (below_0 w) (.cells #[.int .i64 kind, .int .i64 0, .slice ea e.length ec, .int .i64 bits, .string regs, .int .i64 rows, .int .i64 cols, .slice ca c.length cc, .int .i64 fine, .slice ga g.length gc] 115))
  have X0 := Lib.hid (Blk.new w 115 #[.int .i64 kind, .int .i64 0, .slice ea e.length ec, .int .i64 bits, .string regs, .int .i64 rows, .int .i64 cols, .slice ca c.length cc, .int .i64 fine, .slice ga g.length gc])
  obtain ⟨he, hc, hg⟩ := HM.out.later HB.out
  have HE := Lib.hid he
  have HC := Lib.hid hc
  have HG := Lib.hid hg
  clear he hc hg HM
  unfold skV
  simp only
  go_enter Tryz.func74, Tryz.ntmps74
  go_wp2_with fail
  generalize w.alloc (.cells #[.int .i64 kind, .int .i64 0, .slice ea e.length ec, .int .i64 bits, .string regs, .int .i64 rows, .int .i64 cols, .slice ca c.length cc, .int .i64 fine, .slice ga g.length gc] 115) = W1 at *
  have hxw := X0.out.lt
  have x1 := X0.out.cell 1
  have x2 := X0.out.cell 2
  simp only [List.getElem?_toArray, List.getElem?_cons_zero, List.getElem?_cons_succ] at x1 x2
  haveI hAW := After.some W1
  have F1 := After.cell x1 hxw
  have F2 := After.cell x2 hxw
  have Q : Hid (∀ y : After W1, Calls Tryz.prog 83 #[.agg #[.slice ea e.length ec]] y.at_ fun r w' => r = .returned (.bool (Ex.rightB e)) ∧ Below y.at_.heap.size y.at_ w') := fun y =>
    (Ex.right_any y.at_ y.at_.heap.size ea ec e ((Rd.below HE.out y.is).more y.is.size) (Nat.le_refl _) (by have := HF.out.e; simp only at this; omega)).mono fun _ _ ⟨h1, h2⟩ => ⟨h1, h2 ▸ below_al (below_0 _) _⟩
  refine wp_region_below (by kernel_rfl) (by kernel_rfl) ?_
  repeat (go_big_quiet_step (first | with_reducible exact after_calls (Q.out _)))
  refine wpQuiet_nil ?_
  rintro w9 ⟨y9, hy9⟩
  have HB9 : Hid (Below w.heap.size w w9) := HB.out.trans ((show Below W1.heap.size W1 w9 by rw [hy9]; exact y9.is).mono HB.out.size)
  clear hy9 y9
  go_wp2_with fail
  go_ret2
  exact ⟨rfl, HB9.out⟩
set_option maxRecDepth 100000 in
set_option maxHeartbeats 2000000 in
theorem distinct1_any (m : SkM) (h0 : m.s.level = 1) (w : World) (hm : SkOk w w.heap.size m) (hf : SkFit m.s) :
    Calls Tryz.prog 74 #[skV m] w fun r w' => r = .returned (.tuple #[.iface 129 (hV m), .bool (Hl.rightF m.s.bits (regsL m.s.regs) && m.s.bits == 7)]) ∧ Below w.heap.size w w' := by
  have HM := Lib.hid hm
  have HF := Lib.hid hf
  clear hm hf
  obtain ⟨⟨kind, level, e, bits, regs, rows, cols, c, fine, g⟩, ea, ec, ca, cc, ga, gc⟩ := m
  simp only at h0
  subst h0
  have HB := Lib.hid (below_al (below_0 w) (.cells #[.int .i64 kind, .int .i64 1, .slice ea e.length ec, .int .i64 bits, .string regs, .int .i64 rows, .int .i64 cols, .slice ca c.length cc, .int .i64 fine, .slice ga g.length gc] 115))
  have X0 := Lib.hid (Blk.new w 115 #[.int .i64 kind, .int .i64 1, .slice ea e.length ec, .int .i64 bits, .string regs, .int .i64 rows, .int .i64 cols, .slice ca c.length cc, .int .i64 fine, .slice ga g.length gc])
  obtain ⟨he, hc, hg⟩ := HM.out.later HB.out
  have HE := Lib.hid he
  have HC := Lib.hid hc
  have HG := Lib.hid hg
  clear he hc hg HM
  unfold skV
  simp only
  go_enter Tryz.func74, Tryz.ntmps74
  go_wp2_with fail
  generalize w.alloc (.cells #[.int .i64 kind, .int .i64 1, .slice ea e.length ec, .int .i64 bits, .string regs, .int .i64 rows, .int .i64 cols, .slice ca c.length cc, .int .i64 fine, .slice ga g.length gc] 115) = W1 at *
  have hxw := X0.out.lt
  have x1 := X0.out.cell 1
  have x3 := X0.out.cell 3
  have x4 := X0.out.cell 4
  simp only [List.getElem?_toArray, List.getElem?_cons_zero, List.getElem?_cons_succ] at x1 x3 x4
  haveI hAW := After.some W1
  have F1 := After.cell x1 hxw
  have F3 := After.cell x3 hxw
  have F4 := After.cell x4 hxw
  obtain ⟨rr, hrr⟩ : ∃ rr, Hl.rightF bits (regsL regs) = rr := ⟨_, rfl⟩
  have Q : Hid (∀ y : After W1, Calls Tryz.prog 84 #[.agg #[.int .i64 bits, .string regs]] y.at_ fun r w' => r = .returned (.bool rr) ∧ Below y.at_.heap.size y.at_ w') := fun y => hrr ▸ hright_any bits regs y.at_
  have HRR := Lib.hid hrr
  clear hrr
  cases rr with
  | true =>
    refine wp_region_below (by kernel_rfl) (by kernel_rfl) ?_
    repeat (go_big_quiet_step (first | with_reducible exact after_calls (Q.out _)))
    refine wpQuiet_nil ?_
    rintro w9 ⟨y9, hy9⟩
    have HB9 : Hid (Below w.heap.size w w9) := HB.out.trans ((show Below W1.heap.size W1 w9 by rw [hy9]; exact y9.is).mono HB.out.size)
    clear hy9 y9
    go_wp2_with fail
    go_ret2
    exact ⟨by show _ = Ending.returned (.tuple #[_, .bool (Hl.rightF bits (regsL regs) && bits == 7)]); rw [HRR.out]; rfl, HB9.out⟩
  | false =>
    refine wp_region_below (by kernel_rfl) (by kernel_rfl) ?_
    repeat (go_big_quiet_step (first | with_reducible exact after_calls (Q.out _)))
    refine wpQuiet_nil ?_
    rintro w9 ⟨y9, hy9⟩
    have HB9 : Hid (Below w.heap.size w w9) := HB.out.trans ((show Below W1.heap.size W1 w9 by rw [hy9]; exact y9.is).mono HB.out.size)
    clear hy9 y9
    go_wp2_with fail
    go_ret2
    exact ⟨by show _ = Ending.returned (.tuple #[_, .bool (Hl.rightF bits (regsL regs) && bits == 7)]); rw [HRR.out]; rfl, HB9.out⟩
set_option maxRecDepth 100000 in
set_option maxHeartbeats 2000000 in
theorem distinct2_any (m : SkM) (h0 : m.s.level = 2) (w : World) (hm : SkOk w w.heap.size m) (hf : SkFit m.s) :
    Calls Tryz.prog 74 #[skV m] w fun r w' => r = .returned (.tuple #[.iface 129 (hV m), .bool (Hl.rightF m.s.bits (regsL m.s.regs) && m.s.bits == 6)]) ∧ Below w.heap.size w w' := by
  have HM := Lib.hid hm
  have HF := Lib.hid hf
  clear hm hf
  obtain ⟨⟨kind, level, e, bits, regs, rows, cols, c, fine, g⟩, ea, ec, ca, cc, ga, gc⟩ := m
  simp only at h0
  subst h0
  have HB := Lib.hid (below_al (below_0 w) (.cells #[.int .i64 kind, .int .i64 2, .slice ea e.length ec, .int .i64 bits, .string regs, .int .i64 rows, .int .i64 cols, .slice ca c.length cc, .int .i64 fine, .slice ga g.length gc] 115))
  have X0 := Lib.hid (Blk.new w 115 #[.int .i64 kind, .int .i64 2, .slice ea e.length ec, .int .i64 bits, .string regs, .int .i64 rows, .int .i64 cols, .slice ca c.length cc, .int .i64 fine, .slice ga g.length gc])
  obtain ⟨he, hc, hg⟩ := HM.out.later HB.out
  have HE := Lib.hid he
  have HC := Lib.hid hc
  have HG := Lib.hid hg
  clear he hc hg HM
  unfold skV
  simp only
  go_enter Tryz.func74, Tryz.ntmps74
  go_wp2_with fail
  generalize w.alloc (.cells #[.int .i64 kind, .int .i64 2, .slice ea e.length ec, .int .i64 bits, .string regs, .int .i64 rows, .int .i64 cols, .slice ca c.length cc, .int .i64 fine, .slice ga g.length gc] 115) = W1 at *
  have hxw := X0.out.lt
  have x1 := X0.out.cell 1
  have x3 := X0.out.cell 3
  have x4 := X0.out.cell 4
  simp only [List.getElem?_toArray, List.getElem?_cons_zero, List.getElem?_cons_succ] at x1 x3 x4
  haveI hAW := After.some W1
  have F1 := After.cell x1 hxw
  have F3 := After.cell x3 hxw
  have F4 := After.cell x4 hxw
  obtain ⟨rr, hrr⟩ : ∃ rr, Hl.rightF bits (regsL regs) = rr := ⟨_, rfl⟩
  have Q : Hid (∀ y : After W1, Calls Tryz.prog 84 #[.agg #[.int .i64 bits, .string regs]] y.at_ fun r w' => r = .returned (.bool rr) ∧ Below y.at_.heap.size y.at_ w') := fun y => hrr ▸ hright_any bits regs y.at_
  have HRR := Lib.hid hrr
  clear hrr
  cases rr with
  | true =>
    refine wp_region_below (by kernel_rfl) (by kernel_rfl) ?_
    repeat (go_big_quiet_step (first | with_reducible exact after_calls (Q.out _)))
    refine wpQuiet_nil ?_
    rintro w9 ⟨y9, hy9⟩
    have HB9 : Hid (Below w.heap.size w w9) := HB.out.trans ((show Below W1.heap.size W1 w9 by rw [hy9]; exact y9.is).mono HB.out.size)
    clear hy9 y9
    go_wp2_with fail
    go_ret2
    exact ⟨by show _ = Ending.returned (.tuple #[_, .bool (Hl.rightF bits (regsL regs) && bits == 6)]); rw [HRR.out]; rfl, HB9.out⟩
  | false =>
    refine wp_region_below (by kernel_rfl) (by kernel_rfl) ?_
    repeat (go_big_quiet_step (first | with_reducible exact after_calls (Q.out _)))
    refine wpQuiet_nil ?_
    rintro w9 ⟨y9, hy9⟩
    have HB9 : Hid (Below w.heap.size w w9) := HB.out.trans ((show Below W1.heap.size W1 w9 by rw [hy9]; exact y9.is).mono HB.out.size)
    clear hy9 y9
    go_wp2_with fail
    go_ret2
    exact ⟨by show _ = Ending.returned (.tuple #[_, .bool (Hl.rightF bits (regsL regs) && bits == 6)]); rw [HRR.out]; rfl, HB9.out⟩
set_option maxRecDepth 100000 in
set_option maxHeartbeats 2000000 in
theorem distinct3_any (m : SkM) (h0 : m.s.level = 3) (w : World) (hm : SkOk w w.heap.size m) (hf : SkFit m.s) :
    Calls Tryz.prog 74 #[skV m] w fun r w' => r = .returned (.tuple #[.iface 129 (hV m), .bool (Hl.rightF m.s.bits (regsL m.s.regs) && m.s.bits == 5)]) ∧ Below w.heap.size w w' := by
  have HM := Lib.hid hm
  have HF := Lib.hid hf
  clear hm hf
  obtain ⟨⟨kind, level, e, bits, regs, rows, cols, c, fine, g⟩, ea, ec, ca, cc, ga, gc⟩ := m
  simp only at h0
  subst h0
  have HB := Lib.hid (below_al (below_0 w) (.cells #[.int .i64 kind, .int .i64 3, .slice ea e.length ec, .int .i64 bits, .string regs, .int .i64 rows, .int .i64 cols, .slice ca c.length cc, .int .i64 fine, .slice ga g.length gc] 115))
  have X0 := Lib.hid (Blk.new w 115 #[.int .i64 kind, .int .i64 3, .slice ea e.length ec, .int .i64 bits, .string regs, .int .i64 rows, .int .i64 cols, .slice ca c.length cc, .int .i64 fine, .slice ga g.length gc])
  obtain ⟨he, hc, hg⟩ := HM.out.later HB.out
  have HE := Lib.hid he
  have HC := Lib.hid hc
  have HG := Lib.hid hg
  clear he hc hg HM
  unfold skV
  simp only
  go_enter Tryz.func74, Tryz.ntmps74
  go_wp2_with fail
  generalize w.alloc (.cells #[.int .i64 kind, .int .i64 3, .slice ea e.length ec, .int .i64 bits, .string regs, .int .i64 rows, .int .i64 cols, .slice ca c.length cc, .int .i64 fine, .slice ga g.length gc] 115) = W1 at *
  have hxw := X0.out.lt
  have x1 := X0.out.cell 1
  have x3 := X0.out.cell 3
  have x4 := X0.out.cell 4
  simp only [List.getElem?_toArray, List.getElem?_cons_zero, List.getElem?_cons_succ] at x1 x3 x4
  haveI hAW := After.some W1
  have F1 := After.cell x1 hxw
  have F3 := After.cell x3 hxw
  have F4 := After.cell x4 hxw
  obtain ⟨rr, hrr⟩ : ∃ rr, Hl.rightF bits (regsL regs) = rr := ⟨_, rfl⟩
  have Q : Hid (∀ y : After W1, Calls Tryz.prog 84 #[.agg #[.int .i64 bits, .string regs]] y.at_ fun r w' => r = .returned (.bool rr) ∧ Below y.at_.heap.size y.at_ w') := fun y => hrr ▸ hright_any bits regs y.at_
  have HRR := Lib.hid hrr
  clear hrr
  cases rr with
  | true =>
    refine wp_region_below (by kernel_rfl) (by kernel_rfl) ?_
    repeat (go_big_quiet_step (first | with_reducible exact after_calls (Q.out _)))
    refine wpQuiet_nil ?_
    rintro w9 ⟨y9, hy9⟩
    have HB9 : Hid (Below w.heap.size w w9) := HB.out.trans ((show Below W1.heap.size W1 w9 by rw [hy9]; exact y9.is).mono HB.out.size)
    clear hy9 y9
    go_wp2_with fail
    go_ret2
    exact ⟨by show _ = Ending.returned (.tuple #[_, .bool (Hl.rightF bits (regsL regs) && bits == 5)]); rw [HRR.out]; rfl, HB9.out⟩
  | false =>
    refine wp_region_below (by kernel_rfl) (by kernel_rfl) ?_
    repeat (go_big_quiet_step (first | with_reducible exact after_calls (Q.out _)))
    refine wpQuiet_nil ?_
    rintro w9 ⟨y9, hy9⟩
    have HB9 : Hid (Below w.heap.size w w9) := HB.out.trans ((show Below W1.heap.size W1 w9 by rw [hy9]; exact y9.is).mono HB.out.size)
    clear hy9 y9
    go_wp2_with fail
    go_ret2
    exact ⟨by show _ = Ending.returned (.tuple #[_, .bool (Hl.rightF bits (regsL regs) && bits == 5)]); rw [HRR.out]; rfl, HB9.out⟩
set_option maxRecDepth 100000 in
set_option maxHeartbeats 2000000 in
theorem distinct4_any (m : SkM) (h0 : m.s.level = 4) (w : World) (hm : SkOk w w.heap.size m) (hf : SkFit m.s) :
    Calls Tryz.prog 74 #[skV m] w fun r w' => r = .returned (.tuple #[.iface 129 (hV m), .bool (Hl.rightF m.s.bits (regsL m.s.regs) && m.s.bits == 4)]) ∧ Below w.heap.size w w' := by
  have HM := Lib.hid hm
  have HF := Lib.hid hf
  clear hm hf
  obtain ⟨⟨kind, level, e, bits, regs, rows, cols, c, fine, g⟩, ea, ec, ca, cc, ga, gc⟩ := m
  simp only at h0
  subst h0
  have HB := Lib.hid (below_al (below_0 w) (.cells #[.int .i64 kind, .int .i64 4, .slice ea e.length ec, .int .i64 bits, .string regs, .int .i64 rows, .int .i64 cols, .slice ca c.length cc, .int .i64 fine, .slice ga g.length gc] 115))
  have X0 := Lib.hid (Blk.new w 115 #[.int .i64 kind, .int .i64 4, .slice ea e.length ec, .int .i64 bits, .string regs, .int .i64 rows, .int .i64 cols, .slice ca c.length cc, .int .i64 fine, .slice ga g.length gc])
  obtain ⟨he, hc, hg⟩ := HM.out.later HB.out
  have HE := Lib.hid he
  have HC := Lib.hid hc
  have HG := Lib.hid hg
  clear he hc hg HM
  unfold skV
  simp only
  go_enter Tryz.func74, Tryz.ntmps74
  go_wp2_with fail
  generalize w.alloc (.cells #[.int .i64 kind, .int .i64 4, .slice ea e.length ec, .int .i64 bits, .string regs, .int .i64 rows, .int .i64 cols, .slice ca c.length cc, .int .i64 fine, .slice ga g.length gc] 115) = W1 at *
  have hxw := X0.out.lt
  have x1 := X0.out.cell 1
  have x3 := X0.out.cell 3
  have x4 := X0.out.cell 4
  simp only [List.getElem?_toArray, List.getElem?_cons_zero, List.getElem?_cons_succ] at x1 x3 x4
  haveI hAW := After.some W1
  have F1 := After.cell x1 hxw
  have F3 := After.cell x3 hxw
  have F4 := After.cell x4 hxw
  obtain ⟨rr, hrr⟩ : ∃ rr, Hl.rightF bits (regsL regs) = rr := ⟨_, rfl⟩
  have Q : Hid (∀ y : After W1, Calls Tryz.prog 84 #[.agg #[.int .i64 bits, .string regs]] y.at_ fun r w' => r = .returned (.bool rr) ∧ Below y.at_.heap.size y.at_ w') := fun y => hrr ▸ hright_any bits regs y.at_
  have HRR := Lib.hid hrr
  clear hrr
  cases rr with
  | true =>
    refine wp_region_below (by kernel_rfl) (by kernel_rfl) ?_
    repeat (go_big_quiet_step (first | with_reducible exact after_calls (Q.out _)))
    refine wpQuiet_nil ?_
    rintro w9 ⟨y9, hy9⟩
    have HB9 : Hid (Below w.heap.size w w9) := HB.out.trans ((show Below W1.heap.size W1 w9 by rw [hy9]; exact y9.is).mono HB.out.size)
    clear hy9 y9
    go_wp2_with fail
    go_ret2
    exact ⟨by show _ = Ending.returned (.tuple #[_, .bool (Hl.rightF bits (regsL regs) && bits == 4)]); rw [HRR.out]; rfl, HB9.out⟩
  | false =>
    refine wp_region_below (by kernel_rfl) (by kernel_rfl) ?_
    repeat (go_big_quiet_step (first | with_reducible exact after_calls (Q.out _)))
    refine wpQuiet_nil ?_
    rintro w9 ⟨y9, hy9⟩
    have HB9 : Hid (Below w.heap.size w w9) := HB.out.trans ((show Below W1.heap.size W1 w9 by rw [hy9]; exact y9.is).mono HB.out.size)
    clear hy9 y9
    go_wp2_with fail
    go_ret2
    exact ⟨by show _ = Ending.returned (.tuple #[_, .bool (Hl.rightF bits (regsL regs) && bits == 4)]); rw [HRR.out]; rfl, HB9.out⟩
set_option maxRecDepth 100000 in
set_option maxHeartbeats 2000000 in
theorem lie0_any (m : SkM) (h0 : m.s.level = 0) (w : World) (hm : SkOk w w.heap.size m) (hf : SkFit m.s) :
    Calls Tryz.prog 76 #[skV m] w fun r w' => r = .returned (.tuple #[.iface 133 (gV m), .bool (Hi.rightB m.s.fine m.s.g && m.s.fine == 3)]) ∧ Below w.heap.size w w' := by
  have HM := Lib.hid hm
  have HF := Lib.hid hf
  clear hm hf
  obtain ⟨⟨kind, level, e, bits, regs, rows, cols, c, fine, g⟩, ea, ec, ca, cc, ga, gc⟩ := m
  simp only at h0
  subst h0
  have HB := Lib.hid (below_al (below_0 w) (.cells #[.int .i64 kind, .int .i64 0, .slice ea e.length ec, .int .i64 bits, .string regs, .int .i64 rows, .int .i64 cols, .slice ca c.length cc, .int .i64 fine, .slice ga g.length gc] 115))
  have X0 := Lib.hid (Blk.new w 115 #[.int .i64 kind, .int .i64 0, .slice ea e.length ec, .int .i64 bits, .string regs, .int .i64 rows, .int .i64 cols, .slice ca c.length cc, .int .i64 fine, .slice ga g.length gc])
  obtain ⟨he, hc, hg⟩ := HM.out.later HB.out
  have HE := Lib.hid he
  have HC := Lib.hid hc
  have HG := Lib.hid hg
  clear he hc hg HM
  unfold skV
  simp only
  go_enter Tryz.func76, Tryz.ntmps76
  go_wp2_with fail
  generalize w.alloc (.cells #[.int .i64 kind, .int .i64 0, .slice ea e.length ec, .int .i64 bits, .string regs, .int .i64 rows, .int .i64 cols, .slice ca c.length cc, .int .i64 fine, .slice ga g.length gc] 115) = W1 at *
  have hxw := X0.out.lt
  have x1 := X0.out.cell 1
  have x8 := X0.out.cell 8
  have x9 := X0.out.cell 9
  simp only [List.getElem?_toArray, List.getElem?_cons_zero, List.getElem?_cons_succ] at x1 x8 x9
  haveI hAW := After.some W1
  have F1 := After.cell x1 hxw
  have F8 := After.cell x8 hxw
  have F9 := After.cell x9 hxw
  obtain ⟨rr, hrr⟩ : ∃ rr, Hi.rightB fine g = rr := ⟨_, rfl⟩
  have Q : Hid (∀ y : After W1, Calls Tryz.prog 86 #[.agg #[.int .i64 fine, .slice ga g.length gc]] y.at_ fun r w' => r = .returned (.bool rr) ∧ Below y.at_.heap.size y.at_ w') := fun y => hrr ▸ Hi.right_any fine ga g gc HF.out.gu (by have := HF.out.g; simp only at this; omega) y.at_ ((Rd.below HG.out y.is).more y.is.size)
  have HRR := Lib.hid hrr
  clear hrr
  cases rr with
  | true =>
    refine wp_region_below (by kernel_rfl) (by kernel_rfl) ?_
    repeat (go_big_quiet_step (first | with_reducible exact after_calls (Q.out _)))
    refine wpQuiet_nil ?_
    rintro w9 ⟨y9, hy9⟩
    have HB9 : Hid (Below w.heap.size w w9) := HB.out.trans ((show Below W1.heap.size W1 w9 by rw [hy9]; exact y9.is).mono HB.out.size)
    clear hy9 y9
    go_wp2_with fail
    go_ret2
    exact ⟨by show _ = Ending.returned (.tuple #[_, .bool (Hi.rightB fine g && fine == 3)]); rw [HRR.out]; rfl, HB9.out⟩
  | false =>
    refine wp_region_below (by kernel_rfl) (by kernel_rfl) ?_
    repeat (go_big_quiet_step (first | with_reducible exact after_calls (Q.out _)))
    refine wpQuiet_nil ?_
    rintro w9 ⟨y9, hy9⟩
    have HB9 : Hid (Below w.heap.size w w9) := HB.out.trans ((show Below W1.heap.size W1 w9 by rw [hy9]; exact y9.is).mono HB.out.size)
    clear hy9 y9
    go_wp2_with fail
    go_ret2
    exact ⟨by show _ = Ending.returned (.tuple #[_, .bool (Hi.rightB fine g && fine == 3)]); rw [HRR.out]; rfl, HB9.out⟩
set_option maxRecDepth 100000 in
set_option maxHeartbeats 2000000 in
theorem lie1_any (m : SkM) (h0 : m.s.level = 1) (w : World) (hm : SkOk w w.heap.size m) (hf : SkFit m.s) :
    Calls Tryz.prog 76 #[skV m] w fun r w' => r = .returned (.tuple #[.iface 133 (gV m), .bool (Hi.rightB m.s.fine m.s.g && m.s.fine == 2)]) ∧ Below w.heap.size w w' := by
  have HM := Lib.hid hm
  have HF := Lib.hid hf
  clear hm hf
  obtain ⟨⟨kind, level, e, bits, regs, rows, cols, c, fine, g⟩, ea, ec, ca, cc, ga, gc⟩ := m
  simp only at h0
  subst h0
  have HB := Lib.hid (below_al (below_0 w) (.cells #[.int .i64 kind, .int .i64 1, .slice ea e.length ec, .int .i64 bits, .string regs, .int .i64 rows, .int .i64 cols, .slice ca c.length cc, .int .i64 fine, .slice ga g.length gc] 115))
  have X0 := Lib.hid (Blk.new w 115 #[.int .i64 kind, .int .i64 1, .slice ea e.length ec, .int .i64 bits, .string regs, .int .i64 rows, .int .i64 cols, .slice ca c.length cc, .int .i64 fine, .slice ga g.length gc])
  obtain ⟨he, hc, hg⟩ := HM.out.later HB.out
  have HE := Lib.hid he
  have HC := Lib.hid hc
  have HG := Lib.hid hg
  clear he hc hg HM
  unfold skV
  simp only
  go_enter Tryz.func76, Tryz.ntmps76
  go_wp2_with fail
  generalize w.alloc (.cells #[.int .i64 kind, .int .i64 1, .slice ea e.length ec, .int .i64 bits, .string regs, .int .i64 rows, .int .i64 cols, .slice ca c.length cc, .int .i64 fine, .slice ga g.length gc] 115) = W1 at *
  have hxw := X0.out.lt
  have x1 := X0.out.cell 1
  have x8 := X0.out.cell 8
  have x9 := X0.out.cell 9
  simp only [List.getElem?_toArray, List.getElem?_cons_zero, List.getElem?_cons_succ] at x1 x8 x9
  haveI hAW := After.some W1
  have F1 := After.cell x1 hxw
  have F8 := After.cell x8 hxw
  have F9 := After.cell x9 hxw
  obtain ⟨rr, hrr⟩ : ∃ rr, Hi.rightB fine g = rr := ⟨_, rfl⟩
  have Q : Hid (∀ y : After W1, Calls Tryz.prog 86 #[.agg #[.int .i64 fine, .slice ga g.length gc]] y.at_ fun r w' => r = .returned (.bool rr) ∧ Below y.at_.heap.size y.at_ w') := fun y => hrr ▸ Hi.right_any fine ga g gc HF.out.gu (by have := HF.out.g; simp only at this; omega) y.at_ ((Rd.below HG.out y.is).more y.is.size)
  have HRR := Lib.hid hrr
  clear hrr
  cases rr with
  | true =>
    refine wp_region_below (by kernel_rfl) (by kernel_rfl) ?_
    repeat (go_big_quiet_step (first | with_reducible exact after_calls (Q.out _)))
    refine wpQuiet_nil ?_
    rintro w9 ⟨y9, hy9⟩
    have HB9 : Hid (Below w.heap.size w w9) := HB.out.trans ((show Below W1.heap.size W1 w9 by rw [hy9]; exact y9.is).mono HB.out.size)
    clear hy9 y9
    go_wp2_with fail
    go_ret2
    exact ⟨by show _ = Ending.returned (.tuple #[_, .bool (Hi.rightB fine g && fine == 2)]); rw [HRR.out]; rfl, HB9.out⟩
  | false =>
    refine wp_region_below (by kernel_rfl) (by kernel_rfl) ?_
    repeat (go_big_quiet_step (first | with_reducible exact after_calls (Q.out _)))
    refine wpQuiet_nil ?_
    rintro w9 ⟨y9, hy9⟩
    have HB9 : Hid (Below w.heap.size w w9) := HB.out.trans ((show Below W1.heap.size W1 w9 by rw [hy9]; exact y9.is).mono HB.out.size)
    clear hy9 y9
    go_wp2_with fail
    go_ret2
    exact ⟨by show _ = Ending.returned (.tuple #[_, .bool (Hi.rightB fine g && fine == 2)]); rw [HRR.out]; rfl, HB9.out⟩
set_option maxRecDepth 100000 in
set_option maxHeartbeats 2000000 in
theorem lie2_any (m : SkM) (h0 : m.s.level = 2) (w : World) (hm : SkOk w w.heap.size m) (hf : SkFit m.s) :
    Calls Tryz.prog 76 #[skV m] w fun r w' => r = .returned (.tuple #[.iface 133 (gV m), .bool (Hi.rightB m.s.fine m.s.g && m.s.fine == 1)]) ∧ Below w.heap.size w w' := by
  have HM := Lib.hid hm
  have HF := Lib.hid hf
  clear hm hf
  obtain ⟨⟨kind, level, e, bits, regs, rows, cols, c, fine, g⟩, ea, ec, ca, cc, ga, gc⟩ := m
  simp only at h0
  subst h0
  have HB := Lib.hid (below_al (below_0 w) (.cells #[.int .i64 kind, .int .i64 2, .slice ea e.length ec, .int .i64 bits, .string regs, .int .i64 rows, .int .i64 cols, .slice ca c.length cc, .int .i64 fine, .slice ga g.length gc] 115))
  have X0 := Lib.hid (Blk.new w 115 #[.int .i64 kind, .int .i64 2, .slice ea e.length ec, .int .i64 bits, .string regs, .int .i64 rows, .int .i64 cols, .slice ca c.length cc, .int .i64 fine, .slice ga g.length gc])
  obtain ⟨he, hc, hg⟩ := HM.out.later HB.out
  have HE := Lib.hid he
  have HC := Lib.hid hc
  have HG := Lib.hid hg
  clear he hc hg HM
  unfold skV
  simp only
  go_enter Tryz.func76, Tryz.ntmps76
  go_wp2_with fail
  generalize w.alloc (.cells #[.int .i64 kind, .int .i64 2, .slice ea e.length ec, .int .i64 bits, .string regs, .int .i64 rows, .int .i64 cols, .slice ca c.length cc, .int .i64 fine, .slice ga g.length gc] 115) = W1 at *
  have hxw := X0.out.lt
  have x1 := X0.out.cell 1
  have x8 := X0.out.cell 8
  have x9 := X0.out.cell 9
  simp only [List.getElem?_toArray, List.getElem?_cons_zero, List.getElem?_cons_succ] at x1 x8 x9
  haveI hAW := After.some W1
  have F1 := After.cell x1 hxw
  have F8 := After.cell x8 hxw
  have F9 := After.cell x9 hxw
  obtain ⟨rr, hrr⟩ : ∃ rr, Hi.rightB fine g = rr := ⟨_, rfl⟩
  have Q : Hid (∀ y : After W1, Calls Tryz.prog 86 #[.agg #[.int .i64 fine, .slice ga g.length gc]] y.at_ fun r w' => r = .returned (.bool rr) ∧ Below y.at_.heap.size y.at_ w') := fun y => hrr ▸ Hi.right_any fine ga g gc HF.out.gu (by have := HF.out.g; simp only at this; omega) y.at_ ((Rd.below HG.out y.is).more y.is.size)
  have HRR := Lib.hid hrr
  clear hrr
  cases rr with
  | true =>
    refine wp_region_below (by kernel_rfl) (by kernel_rfl) ?_
    repeat (go_big_quiet_step (first | with_reducible exact after_calls (Q.out _)))
    refine wpQuiet_nil ?_
    rintro w9 ⟨y9, hy9⟩
    have HB9 : Hid (Below w.heap.size w w9) := HB.out.trans ((show Below W1.heap.size W1 w9 by rw [hy9]; exact y9.is).mono HB.out.size)
    clear hy9 y9
    go_wp2_with fail
    go_ret2
    exact ⟨by show _ = Ending.returned (.tuple #[_, .bool (Hi.rightB fine g && fine == 1)]); rw [HRR.out]; rfl, HB9.out⟩
  | false =>
    refine wp_region_below (by kernel_rfl) (by kernel_rfl) ?_
    repeat (go_big_quiet_step (first | with_reducible exact after_calls (Q.out _)))
    refine wpQuiet_nil ?_
    rintro w9 ⟨y9, hy9⟩
    have HB9 : Hid (Below w.heap.size w w9) := HB.out.trans ((show Below W1.heap.size W1 w9 by rw [hy9]; exact y9.is).mono HB.out.size)
    clear hy9 y9
    go_wp2_with fail
    go_ret2
    exact ⟨by show _ = Ending.returned (.tuple #[_, .bool (Hi.rightB fine g && fine == 1)]); rw [HRR.out]; rfl, HB9.out⟩
set_option maxRecDepth 100000 in
set_option maxHeartbeats 2000000 in
theorem lie3_any (m : SkM) (h0 : m.s.level = 3) (w : World) (hm : SkOk w w.heap.size m) (hf : SkFit m.s) :
    Calls Tryz.prog 76 #[skV m] w fun r w' => r = .returned (.tuple #[.iface 133 (gV m), .bool (Hi.rightB m.s.fine m.s.g && m.s.fine == 0)]) ∧ Below w.heap.size w w' := by
  have HM := Lib.hid hm
  have HF := Lib.hid hf
  clear hm hf
  obtain ⟨⟨kind, level, e, bits, regs, rows, cols, c, fine, g⟩, ea, ec, ca, cc, ga, gc⟩ := m
  simp only at h0
  subst h0
  have HB := Lib.hid (below_al (below_0 w) (.cells #[.int .i64 kind, .int .i64 3, .slice ea e.length ec, .int .i64 bits, .string regs, .int .i64 rows, .int .i64 cols, .slice ca c.length cc, .int .i64 fine, .slice ga g.length gc] 115))
  have X0 := Lib.hid (Blk.new w 115 #[.int .i64 kind, .int .i64 3, .slice ea e.length ec, .int .i64 bits, .string regs, .int .i64 rows, .int .i64 cols, .slice ca c.length cc, .int .i64 fine, .slice ga g.length gc])
  obtain ⟨he, hc, hg⟩ := HM.out.later HB.out
  have HE := Lib.hid he
  have HC := Lib.hid hc
  have HG := Lib.hid hg
  clear he hc hg HM
  unfold skV
  simp only
  go_enter Tryz.func76, Tryz.ntmps76
  go_wp2_with fail
  generalize w.alloc (.cells #[.int .i64 kind, .int .i64 3, .slice ea e.length ec, .int .i64 bits, .string regs, .int .i64 rows, .int .i64 cols, .slice ca c.length cc, .int .i64 fine, .slice ga g.length gc] 115) = W1 at *
  have hxw := X0.out.lt
  have x1 := X0.out.cell 1
  have x8 := X0.out.cell 8
  have x9 := X0.out.cell 9
  simp only [List.getElem?_toArray, List.getElem?_cons_zero, List.getElem?_cons_succ] at x1 x8 x9
  haveI hAW := After.some W1
  have F1 := After.cell x1 hxw
  have F8 := After.cell x8 hxw
  have F9 := After.cell x9 hxw
  obtain ⟨rr, hrr⟩ : ∃ rr, Hi.rightB fine g = rr := ⟨_, rfl⟩
  have Q : Hid (∀ y : After W1, Calls Tryz.prog 86 #[.agg #[.int .i64 fine, .slice ga g.length gc]] y.at_ fun r w' => r = .returned (.bool rr) ∧ Below y.at_.heap.size y.at_ w') := fun y => hrr ▸ Hi.right_any fine ga g gc HF.out.gu (by have := HF.out.g; simp only at this; omega) y.at_ ((Rd.below HG.out y.is).more y.is.size)
  have HRR := Lib.hid hrr
  clear hrr
  cases rr with
  | true =>
    refine wp_region_below (by kernel_rfl) (by kernel_rfl) ?_
    repeat (go_big_quiet_step (first | with_reducible exact after_calls (Q.out _)))
    refine wpQuiet_nil ?_
    rintro w9 ⟨y9, hy9⟩
    have HB9 : Hid (Below w.heap.size w w9) := HB.out.trans ((show Below W1.heap.size W1 w9 by rw [hy9]; exact y9.is).mono HB.out.size)
    clear hy9 y9
    go_wp2_with fail
    go_ret2
    exact ⟨by show _ = Ending.returned (.tuple #[_, .bool (Hi.rightB fine g && fine == 0)]); rw [HRR.out]; rfl, HB9.out⟩
  | false =>
    refine wp_region_below (by kernel_rfl) (by kernel_rfl) ?_
    repeat (go_big_quiet_step (first | with_reducible exact after_calls (Q.out _)))
    refine wpQuiet_nil ?_
    rintro w9 ⟨y9, hy9⟩
    have HB9 : Hid (Below w.heap.size w w9) := HB.out.trans ((show Below W1.heap.size W1 w9 by rw [hy9]; exact y9.is).mono HB.out.size)
    clear hy9 y9
    go_wp2_with fail
    go_ret2
    exact ⟨by show _ = Ending.returned (.tuple #[_, .bool (Hi.rightB fine g && fine == 0)]); rw [HRR.out]; rfl, HB9.out⟩
set_option maxRecDepth 100000 in
set_option maxHeartbeats 2000000 in
theorem count0_any (m : SkM) (h0 : m.s.level = 0) (w : World) (hm : SkOk w w.heap.size m) (hf : SkFit m.s) :
    Calls Tryz.prog 75 #[skV m] w fun r w' => r = .returned (.tuple #[.iface 131 (cV m), .bool (Cm.rightC m.s.rows m.s.cols m.s.c.length && m.s.rows == 2 && m.s.cols == 32)]) ∧ Below w.heap.size w w' := by
  have HM := Lib.hid hm
  have HF := Lib.hid hf
  clear hm hf
  obtain ⟨⟨kind, level, e, bits, regs, rows, cols, c, fine, g⟩, ea, ec, ca, cc, ga, gc⟩ := m
  simp only at h0
  subst h0
  have HB := Lib.hid (below_al (below_0 w) (.cells #[.int .i64 kind, .int .i64 0, .slice ea e.length ec, .int .i64 bits, .string regs, .int .i64 rows, .int .i64 cols, .slice ca c.length cc, .int .i64 fine, .slice ga g.length gc] 115))
  have X0 := Lib.hid (Blk.new w 115 #[.int .i64 kind, .int .i64 0, .slice ea e.length ec, .int .i64 bits, .string regs, .int .i64 rows, .int .i64 cols, .slice ca c.length cc, .int .i64 fine, .slice ga g.length gc])
  obtain ⟨he, hc, hg⟩ := HM.out.later HB.out
  have HE := Lib.hid he
  have HC := Lib.hid hc
  have HG := Lib.hid hg
  clear he hc hg HM
  unfold skV
  simp only
  go_enter Tryz.func75, Tryz.ntmps75
  go_wp2_with fail
  generalize w.alloc (.cells #[.int .i64 kind, .int .i64 0, .slice ea e.length ec, .int .i64 bits, .string regs, .int .i64 rows, .int .i64 cols, .slice ca c.length cc, .int .i64 fine, .slice ga g.length gc] 115) = W1 at *
  have hxw := X0.out.lt
  have x1 := X0.out.cell 1
  have x5 := X0.out.cell 5
  have x6 := X0.out.cell 6
  have x7 := X0.out.cell 7
  simp only [List.getElem?_toArray, List.getElem?_cons_zero, List.getElem?_cons_succ] at x1 x5 x6 x7
  haveI hAW := After.some W1
  have F1 := After.cell x1 hxw
  have F5 := After.cell x5 hxw
  have F6 := After.cell x6 hxw
  have F7 := After.cell x7 hxw
  obtain ⟨rr, hrr⟩ : ∃ rr, Cm.rightC rows cols c.length = rr := ⟨_, rfl⟩
  have Q : Hid (∀ y : After W1, Calls Tryz.prog 85 #[.agg #[.int .i64 rows, .int .i64 cols, .slice ca c.length cc]] y.at_ fun r w' => r = .returned (.bool rr) ∧ Below y.at_.heap.size y.at_ w') := fun y => hrr ▸ (Cm.right_any rows cols ca c.length cc y.at_).mono fun _ _ ⟨h1, h2⟩ => ⟨h1, h2 ▸ below_al (below_0 _) _⟩
  have HRR := Lib.hid hrr
  clear hrr
  cases rr with
  | true =>
    by_cases h2 : rows = 2
    · have b2 : (rows == 2) = true := by rw [beq_iff_eq]; exact h2
      have HB2 := Lib.hid b2
      clear h2
      refine wp_region_below (by kernel_rfl) (by kernel_rfl) ?_
      repeat (go_big_quiet_step (first | with_reducible exact after_calls (Q.out _)))
      refine wpQuiet_nil ?_
      rintro w9 ⟨y9, hy9⟩
      have hb9 : Below W1.heap.size W1 w9 := by rw [hy9]; exact y9.is
      have HB9 := Lib.hid (HB.out.trans (hb9.mono HB.out.size))
      have X9 := Lib.hid (X0.out.later hb9)
      clear hy9 y9 hb9
      have z5 := X9.out.cell 5
      have z6 := X9.out.cell 6
      have z7 := X9.out.cell 7
      simp only [List.getElem?_toArray, List.getElem?_cons_zero, List.getElem?_cons_succ] at z5 z6 z7
      go_wp2_with fail
      go_ret2
      exact ⟨by show _ = Ending.returned (.tuple #[_, .bool (Cm.rightC rows cols c.length && rows == 2 && cols == 32)]); rw [HRR.out, HB2.out]; rfl, HB9.out⟩
    · have b2 : (rows == 2) = false := by rw [beq_eq_false_iff_ne]; exact h2
      have HB2 := Lib.hid b2
      clear h2
      refine wp_region_below (by kernel_rfl) (by kernel_rfl) ?_
      repeat (go_big_quiet_step (first | with_reducible exact after_calls (Q.out _)))
      refine wpQuiet_nil ?_
      rintro w9 ⟨y9, hy9⟩
      have hb9 : Below W1.heap.size W1 w9 := by rw [hy9]; exact y9.is
      have HB9 := Lib.hid (HB.out.trans (hb9.mono HB.out.size))
      have X9 := Lib.hid (X0.out.later hb9)
      clear hy9 y9 hb9
      have z5 := X9.out.cell 5
      have z6 := X9.out.cell 6
      have z7 := X9.out.cell 7
      simp only [List.getElem?_toArray, List.getElem?_cons_zero, List.getElem?_cons_succ] at z5 z6 z7
      go_wp2_with fail
      go_ret2
      exact ⟨by show _ = Ending.returned (.tuple #[_, .bool (Cm.rightC rows cols c.length && rows == 2 && cols == 32)]); rw [HRR.out, HB2.out]; rfl, HB9.out⟩
  | false =>
    refine wp_region_below (by kernel_rfl) (by kernel_rfl) ?_
    repeat (go_big_quiet_step (first | with_reducible exact after_calls (Q.out _)))
    refine wpQuiet_nil ?_
    rintro w9 ⟨y9, hy9⟩
    have hb9 : Below W1.heap.size W1 w9 := by rw [hy9]; exact y9.is
    have HB9 := Lib.hid (HB.out.trans (hb9.mono HB.out.size))
    have X9 := Lib.hid (X0.out.later hb9)
    clear hy9 y9 hb9
    have z5 := X9.out.cell 5
    have z6 := X9.out.cell 6
    have z7 := X9.out.cell 7
    simp only [List.getElem?_toArray, List.getElem?_cons_zero, List.getElem?_cons_succ] at z5 z6 z7
    go_wp2_with fail
    go_ret2
    exact ⟨by show _ = Ending.returned (.tuple #[_, .bool (Cm.rightC rows cols c.length && rows == 2 && cols == 32)]); rw [HRR.out]; rfl, HB9.out⟩
set_option maxRecDepth 100000 in
set_option maxHeartbeats 2000000 in
theorem count1_any (m : SkM) (h0 : m.s.level = 1) (w : World) (hm : SkOk w w.heap.size m) (hf : SkFit m.s) :
    Calls Tryz.prog 75 #[skV m] w fun r w' => r = .returned (.tuple #[.iface 131 (cV m), .bool (Cm.rightC m.s.rows m.s.cols m.s.c.length && m.s.rows == 2 && m.s.cols == 16)]) ∧ Below w.heap.size w w' := by
  have HM := Lib.hid hm
  have HF := Lib.hid hf
  clear hm hf
  obtain ⟨⟨kind, level, e, bits, regs, rows, cols, c, fine, g⟩, ea, ec, ca, cc, ga, gc⟩ := m
  simp only at h0
  subst h0
  have HB := Lib.hid (below_al (below_0 w) (.cells #[.int .i64 kind, .int .i64 1, .slice ea e.length ec, .int .i64 bits, .string regs, .int .i64 rows, .int .i64 cols, .slice ca c.length cc, .int .i64 fine, .slice ga g.length gc] 115))
  have X0 := Lib.hid (Blk.new w 115 #[.int .i64 kind, .int .i64 1, .slice ea e.length ec, .int .i64 bits, .string regs, .int .i64 rows, .int .i64 cols, .slice ca c.length cc, .int .i64 fine, .slice ga g.length gc])
  obtain ⟨he, hc, hg⟩ := HM.out.later HB.out
  have HE := Lib.hid he
  have HC := Lib.hid hc
  have HG := Lib.hid hg
  clear he hc hg HM
  unfold skV
  simp only
  go_enter Tryz.func75, Tryz.ntmps75
  go_wp2_with fail
  generalize w.alloc (.cells #[.int .i64 kind, .int .i64 1, .slice ea e.length ec, .int .i64 bits, .string regs, .int .i64 rows, .int .i64 cols, .slice ca c.length cc, .int .i64 fine, .slice ga g.length gc] 115) = W1 at *
  have hxw := X0.out.lt
  have x1 := X0.out.cell 1
  have x5 := X0.out.cell 5
  have x6 := X0.out.cell 6
  have x7 := X0.out.cell 7
  simp only [List.getElem?_toArray, List.getElem?_cons_zero, List.getElem?_cons_succ] at x1 x5 x6 x7
  haveI hAW := After.some W1
  have F1 := After.cell x1 hxw
  have F5 := After.cell x5 hxw
  have F6 := After.cell x6 hxw
  have F7 := After.cell x7 hxw
  obtain ⟨rr, hrr⟩ : ∃ rr, Cm.rightC rows cols c.length = rr := ⟨_, rfl⟩
  have Q : Hid (∀ y : After W1, Calls Tryz.prog 85 #[.agg #[.int .i64 rows, .int .i64 cols, .slice ca c.length cc]] y.at_ fun r w' => r = .returned (.bool rr) ∧ Below y.at_.heap.size y.at_ w') := fun y => hrr ▸ (Cm.right_any rows cols ca c.length cc y.at_).mono fun _ _ ⟨h1, h2⟩ => ⟨h1, h2 ▸ below_al (below_0 _) _⟩
  have HRR := Lib.hid hrr
  clear hrr
  cases rr with
  | true =>
    by_cases h2 : rows = 2
    · have b2 : (rows == 2) = true := by rw [beq_iff_eq]; exact h2
      have HB2 := Lib.hid b2
      clear h2
      refine wp_region_below (by kernel_rfl) (by kernel_rfl) ?_
      repeat (go_big_quiet_step (first | with_reducible exact after_calls (Q.out _)))
      refine wpQuiet_nil ?_
      rintro w9 ⟨y9, hy9⟩
      have hb9 : Below W1.heap.size W1 w9 := by rw [hy9]; exact y9.is
      have HB9 := Lib.hid (HB.out.trans (hb9.mono HB.out.size))
      have X9 := Lib.hid (X0.out.later hb9)
      clear hy9 y9 hb9
      have z5 := X9.out.cell 5
      have z6 := X9.out.cell 6
      have z7 := X9.out.cell 7
      simp only [List.getElem?_toArray, List.getElem?_cons_zero, List.getElem?_cons_succ] at z5 z6 z7
      go_wp2_with fail
      go_ret2
      exact ⟨by show _ = Ending.returned (.tuple #[_, .bool (Cm.rightC rows cols c.length && rows == 2 && cols == 16)]); rw [HRR.out, HB2.out]; rfl, HB9.out⟩
    · have b2 : (rows == 2) = false := by rw [beq_eq_false_iff_ne]; exact h2
      have HB2 := Lib.hid b2
      clear h2
      refine wp_region_below (by kernel_rfl) (by kernel_rfl) ?_
      repeat (go_big_quiet_step (first | with_reducible exact after_calls (Q.out _)))
      refine wpQuiet_nil ?_
      rintro w9 ⟨y9, hy9⟩
      have hb9 : Below W1.heap.size W1 w9 := by rw [hy9]; exact y9.is
      have HB9 := Lib.hid (HB.out.trans (hb9.mono HB.out.size))
      have X9 := Lib.hid (X0.out.later hb9)
      clear hy9 y9 hb9
      have z5 := X9.out.cell 5
      have z6 := X9.out.cell 6
      have z7 := X9.out.cell 7
      simp only [List.getElem?_toArray, List.getElem?_cons_zero, List.getElem?_cons_succ] at z5 z6 z7
      go_wp2_with fail
      go_ret2
      exact ⟨by show _ = Ending.returned (.tuple #[_, .bool (Cm.rightC rows cols c.length && rows == 2 && cols == 16)]); rw [HRR.out, HB2.out]; rfl, HB9.out⟩
  | false =>
    refine wp_region_below (by kernel_rfl) (by kernel_rfl) ?_
    repeat (go_big_quiet_step (first | with_reducible exact after_calls (Q.out _)))
    refine wpQuiet_nil ?_
    rintro w9 ⟨y9, hy9⟩
    have hb9 : Below W1.heap.size W1 w9 := by rw [hy9]; exact y9.is
    have HB9 := Lib.hid (HB.out.trans (hb9.mono HB.out.size))
    have X9 := Lib.hid (X0.out.later hb9)
    clear hy9 y9 hb9
    have z5 := X9.out.cell 5
    have z6 := X9.out.cell 6
    have z7 := X9.out.cell 7
    simp only [List.getElem?_toArray, List.getElem?_cons_zero, List.getElem?_cons_succ] at z5 z6 z7
    go_wp2_with fail
    go_ret2
    exact ⟨by show _ = Ending.returned (.tuple #[_, .bool (Cm.rightC rows cols c.length && rows == 2 && cols == 16)]); rw [HRR.out]; rfl, HB9.out⟩
set_option maxRecDepth 100000 in
set_option maxHeartbeats 2000000 in
theorem count2_any (m : SkM) (h0 : m.s.level = 2) (w : World) (hm : SkOk w w.heap.size m) (hf : SkFit m.s) :
    Calls Tryz.prog 75 #[skV m] w fun r w' => r = .returned (.tuple #[.iface 131 (cV m), .bool (Cm.rightC m.s.rows m.s.cols m.s.c.length && m.s.rows == 2 && m.s.cols == 8)]) ∧ Below w.heap.size w w' := by
  have HM := Lib.hid hm
  have HF := Lib.hid hf
  clear hm hf
  obtain ⟨⟨kind, level, e, bits, regs, rows, cols, c, fine, g⟩, ea, ec, ca, cc, ga, gc⟩ := m
  simp only at h0
  subst h0
  have HB := Lib.hid (below_al (below_0 w) (.cells #[.int .i64 kind, .int .i64 2, .slice ea e.length ec, .int .i64 bits, .string regs, .int .i64 rows, .int .i64 cols, .slice ca c.length cc, .int .i64 fine, .slice ga g.length gc] 115))
  have X0 := Lib.hid (Blk.new w 115 #[.int .i64 kind, .int .i64 2, .slice ea e.length ec, .int .i64 bits, .string regs, .int .i64 rows, .int .i64 cols, .slice ca c.length cc, .int .i64 fine, .slice ga g.length gc])
  obtain ⟨he, hc, hg⟩ := HM.out.later HB.out
  have HE := Lib.hid he
  have HC := Lib.hid hc
  have HG := Lib.hid hg
  clear he hc hg HM
  unfold skV
  simp only
  go_enter Tryz.func75, Tryz.ntmps75
  go_wp2_with fail
  generalize w.alloc (.cells #[.int .i64 kind, .int .i64 2, .slice ea e.length ec, .int .i64 bits, .string regs, .int .i64 rows, .int .i64 cols, .slice ca c.length cc, .int .i64 fine, .slice ga g.length gc] 115) = W1 at *
  have hxw := X0.out.lt
  have x1 := X0.out.cell 1
  have x5 := X0.out.cell 5
  have x6 := X0.out.cell 6
  have x7 := X0.out.cell 7
  simp only [List.getElem?_toArray, List.getElem?_cons_zero, List.getElem?_cons_succ] at x1 x5 x6 x7
  haveI hAW := After.some W1
  have F1 := After.cell x1 hxw
  have F5 := After.cell x5 hxw
  have F6 := After.cell x6 hxw
  have F7 := After.cell x7 hxw
  obtain ⟨rr, hrr⟩ : ∃ rr, Cm.rightC rows cols c.length = rr := ⟨_, rfl⟩
  have Q : Hid (∀ y : After W1, Calls Tryz.prog 85 #[.agg #[.int .i64 rows, .int .i64 cols, .slice ca c.length cc]] y.at_ fun r w' => r = .returned (.bool rr) ∧ Below y.at_.heap.size y.at_ w') := fun y => hrr ▸ (Cm.right_any rows cols ca c.length cc y.at_).mono fun _ _ ⟨h1, h2⟩ => ⟨h1, h2 ▸ below_al (below_0 _) _⟩
  have HRR := Lib.hid hrr
  clear hrr
  cases rr with
  | true =>
    by_cases h2 : rows = 2
    · have b2 : (rows == 2) = true := by rw [beq_iff_eq]; exact h2
      have HB2 := Lib.hid b2
      clear h2
      refine wp_region_below (by kernel_rfl) (by kernel_rfl) ?_
      repeat (go_big_quiet_step (first | with_reducible exact after_calls (Q.out _)))
      refine wpQuiet_nil ?_
      rintro w9 ⟨y9, hy9⟩
      have hb9 : Below W1.heap.size W1 w9 := by rw [hy9]; exact y9.is
      have HB9 := Lib.hid (HB.out.trans (hb9.mono HB.out.size))
      have X9 := Lib.hid (X0.out.later hb9)
      clear hy9 y9 hb9
      have z5 := X9.out.cell 5
      have z6 := X9.out.cell 6
      have z7 := X9.out.cell 7
      simp only [List.getElem?_toArray, List.getElem?_cons_zero, List.getElem?_cons_succ] at z5 z6 z7
      go_wp2_with fail
      go_ret2
      exact ⟨by show _ = Ending.returned (.tuple #[_, .bool (Cm.rightC rows cols c.length && rows == 2 && cols == 8)]); rw [HRR.out, HB2.out]; rfl, HB9.out⟩
    · have b2 : (rows == 2) = false := by rw [beq_eq_false_iff_ne]; exact h2
      have HB2 := Lib.hid b2
      clear h2
      refine wp_region_below (by kernel_rfl) (by kernel_rfl) ?_
      repeat (go_big_quiet_step (first | with_reducible exact after_calls (Q.out _)))
      refine wpQuiet_nil ?_
      rintro w9 ⟨y9, hy9⟩
      have hb9 : Below W1.heap.size W1 w9 := by rw [hy9]; exact y9.is
      have HB9 := Lib.hid (HB.out.trans (hb9.mono HB.out.size))
      have X9 := Lib.hid (X0.out.later hb9)
      clear hy9 y9 hb9
      have z5 := X9.out.cell 5
      have z6 := X9.out.cell 6
      have z7 := X9.out.cell 7
      simp only [List.getElem?_toArray, List.getElem?_cons_zero, List.getElem?_cons_succ] at z5 z6 z7
      go_wp2_with fail
      go_ret2
      exact ⟨by show _ = Ending.returned (.tuple #[_, .bool (Cm.rightC rows cols c.length && rows == 2 && cols == 8)]); rw [HRR.out, HB2.out]; rfl, HB9.out⟩
  | false =>
    refine wp_region_below (by kernel_rfl) (by kernel_rfl) ?_
    repeat (go_big_quiet_step (first | with_reducible exact after_calls (Q.out _)))
    refine wpQuiet_nil ?_
    rintro w9 ⟨y9, hy9⟩
    have hb9 : Below W1.heap.size W1 w9 := by rw [hy9]; exact y9.is
    have HB9 := Lib.hid (HB.out.trans (hb9.mono HB.out.size))
    have X9 := Lib.hid (X0.out.later hb9)
    clear hy9 y9 hb9
    have z5 := X9.out.cell 5
    have z6 := X9.out.cell 6
    have z7 := X9.out.cell 7
    simp only [List.getElem?_toArray, List.getElem?_cons_zero, List.getElem?_cons_succ] at z5 z6 z7
    go_wp2_with fail
    go_ret2
    exact ⟨by show _ = Ending.returned (.tuple #[_, .bool (Cm.rightC rows cols c.length && rows == 2 && cols == 8)]); rw [HRR.out]; rfl, HB9.out⟩
set_option maxRecDepth 100000 in
set_option maxHeartbeats 2000000 in
theorem count3_any (m : SkM) (h0 : m.s.level = 3) (w : World) (hm : SkOk w w.heap.size m) (hf : SkFit m.s) :
    Calls Tryz.prog 75 #[skV m] w fun r w' => r = .returned (.tuple #[.iface 131 (cV m), .bool (Cm.rightC m.s.rows m.s.cols m.s.c.length && m.s.rows == 2 && m.s.cols == 4)]) ∧ Below w.heap.size w w' := by
  have HM := Lib.hid hm
  have HF := Lib.hid hf
  clear hm hf
  obtain ⟨⟨kind, level, e, bits, regs, rows, cols, c, fine, g⟩, ea, ec, ca, cc, ga, gc⟩ := m
  simp only at h0
  subst h0
  have HB := Lib.hid (below_al (below_0 w) (.cells #[.int .i64 kind, .int .i64 3, .slice ea e.length ec, .int .i64 bits, .string regs, .int .i64 rows, .int .i64 cols, .slice ca c.length cc, .int .i64 fine, .slice ga g.length gc] 115))
  have X0 := Lib.hid (Blk.new w 115 #[.int .i64 kind, .int .i64 3, .slice ea e.length ec, .int .i64 bits, .string regs, .int .i64 rows, .int .i64 cols, .slice ca c.length cc, .int .i64 fine, .slice ga g.length gc])
  obtain ⟨he, hc, hg⟩ := HM.out.later HB.out
  have HE := Lib.hid he
  have HC := Lib.hid hc
  have HG := Lib.hid hg
  clear he hc hg HM
  unfold skV
  simp only
  go_enter Tryz.func75, Tryz.ntmps75
  go_wp2_with fail
  generalize w.alloc (.cells #[.int .i64 kind, .int .i64 3, .slice ea e.length ec, .int .i64 bits, .string regs, .int .i64 rows, .int .i64 cols, .slice ca c.length cc, .int .i64 fine, .slice ga g.length gc] 115) = W1 at *
  have hxw := X0.out.lt
  have x1 := X0.out.cell 1
  have x5 := X0.out.cell 5
  have x6 := X0.out.cell 6
  have x7 := X0.out.cell 7
  simp only [List.getElem?_toArray, List.getElem?_cons_zero, List.getElem?_cons_succ] at x1 x5 x6 x7
  haveI hAW := After.some W1
  have F1 := After.cell x1 hxw
  have F5 := After.cell x5 hxw
  have F6 := After.cell x6 hxw
  have F7 := After.cell x7 hxw
  obtain ⟨rr, hrr⟩ : ∃ rr, Cm.rightC rows cols c.length = rr := ⟨_, rfl⟩
  have Q : Hid (∀ y : After W1, Calls Tryz.prog 85 #[.agg #[.int .i64 rows, .int .i64 cols, .slice ca c.length cc]] y.at_ fun r w' => r = .returned (.bool rr) ∧ Below y.at_.heap.size y.at_ w') := fun y => hrr ▸ (Cm.right_any rows cols ca c.length cc y.at_).mono fun _ _ ⟨h1, h2⟩ => ⟨h1, h2 ▸ below_al (below_0 _) _⟩
  have HRR := Lib.hid hrr
  clear hrr
  cases rr with
  | true =>
    by_cases h2 : rows = 2
    · have b2 : (rows == 2) = true := by rw [beq_iff_eq]; exact h2
      have HB2 := Lib.hid b2
      clear h2
      refine wp_region_below (by kernel_rfl) (by kernel_rfl) ?_
      repeat (go_big_quiet_step (first | with_reducible exact after_calls (Q.out _)))
      refine wpQuiet_nil ?_
      rintro w9 ⟨y9, hy9⟩
      have hb9 : Below W1.heap.size W1 w9 := by rw [hy9]; exact y9.is
      have HB9 := Lib.hid (HB.out.trans (hb9.mono HB.out.size))
      have X9 := Lib.hid (X0.out.later hb9)
      clear hy9 y9 hb9
      have z5 := X9.out.cell 5
      have z6 := X9.out.cell 6
      have z7 := X9.out.cell 7
      simp only [List.getElem?_toArray, List.getElem?_cons_zero, List.getElem?_cons_succ] at z5 z6 z7
      go_wp2_with fail
      go_ret2
      exact ⟨by show _ = Ending.returned (.tuple #[_, .bool (Cm.rightC rows cols c.length && rows == 2 && cols == 4)]); rw [HRR.out, HB2.out]; rfl, HB9.out⟩
    · have b2 : (rows == 2) = false := by rw [beq_eq_false_iff_ne]; exact h2
      have HB2 := Lib.hid b2
      clear h2
      refine wp_region_below (by kernel_rfl) (by kernel_rfl) ?_
      repeat (go_big_quiet_step (first | with_reducible exact after_calls (Q.out _)))
      refine wpQuiet_nil ?_
      rintro w9 ⟨y9, hy9⟩
      have hb9 : Below W1.heap.size W1 w9 := by rw [hy9]; exact y9.is
      have HB9 := Lib.hid (HB.out.trans (hb9.mono HB.out.size))
      have X9 := Lib.hid (X0.out.later hb9)
      clear hy9 y9 hb9
      have z5 := X9.out.cell 5
      have z6 := X9.out.cell 6
      have z7 := X9.out.cell 7
      simp only [List.getElem?_toArray, List.getElem?_cons_zero, List.getElem?_cons_succ] at z5 z6 z7
      go_wp2_with fail
      go_ret2
      exact ⟨by show _ = Ending.returned (.tuple #[_, .bool (Cm.rightC rows cols c.length && rows == 2 && cols == 4)]); rw [HRR.out, HB2.out]; rfl, HB9.out⟩
  | false =>
    refine wp_region_below (by kernel_rfl) (by kernel_rfl) ?_
    repeat (go_big_quiet_step (first | with_reducible exact after_calls (Q.out _)))
    refine wpQuiet_nil ?_
    rintro w9 ⟨y9, hy9⟩
    have hb9 : Below W1.heap.size W1 w9 := by rw [hy9]; exact y9.is
    have HB9 := Lib.hid (HB.out.trans (hb9.mono HB.out.size))
    have X9 := Lib.hid (X0.out.later hb9)
    clear hy9 y9 hb9
    have z5 := X9.out.cell 5
    have z6 := X9.out.cell 6
    have z7 := X9.out.cell 7
    simp only [List.getElem?_toArray, List.getElem?_cons_zero, List.getElem?_cons_succ] at z5 z6 z7
    go_wp2_with fail
    go_ret2
    exact ⟨by show _ = Ending.returned (.tuple #[_, .bool (Cm.rightC rows cols c.length && rows == 2 && cols == 4)]); rw [HRR.out]; rfl, HB9.out⟩
end Go.Proofs.YtoffmclbnobllaaGreatDoor

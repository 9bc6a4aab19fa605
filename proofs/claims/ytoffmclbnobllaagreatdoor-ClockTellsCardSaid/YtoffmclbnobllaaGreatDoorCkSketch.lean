/-
  ladder's sketch of what was worked at.
-/
import Derived.Test.YtoffmclbnobllaaGreatDoorCkOpen
import Derived.Test.YtoffmclbnobllaaGreatDoorCkClone
namespace Go.Proofs.YtoffmclbnobllaaGreatDoor
open Go.RowKit
set_option linter.unusedVariables false
set_option linter.unusedSimpArgs false
def noSk (k l : Int) : Sk := ⟨k, l, [], 0, ⟨#[]⟩, 0, 0, [], 0, []⟩
/-- What sketch hands back. -/
def SkRet (w : World) (s : Sk) (e : Ending) (w' : World) : Prop := ∃ m : SkM, m.s = s ∧ e = .returned (skV m) ∧ SkOk w' w'.heap.size m ∧ Below w.heap.size w w'
theorem Blk.set10 {w : World} {g : Nat} {t : TypeId} {a0 a1 a2 a3 a4 a5 a6 a7 a8 a9 b0 b1 b2 b3 b4 b5 b6 b7 b8 b9 : Value} (h : Blk w g t #[a0, a1, a2, a3, a4, a5, a6, a7, a8, a9]) : Blk (World.setCell (World.setCell (World.setCell (World.setCell (World.setCell (World.setCell (World.setCell (World.setCell (World.setCell (World.setCell w ⟨g, 0, none⟩ b0) ⟨g, 1, none⟩ b1) ⟨g, 2, none⟩ b2) ⟨g, 3, none⟩ b3) ⟨g, 4, none⟩ b4) ⟨g, 5, none⟩ b5) ⟨g, 6, none⟩ b6) ⟨g, 7, none⟩ b7) ⟨g, 8, none⟩ b8) ⟨g, 9, none⟩ b9) g t #[b0, b1, b2, b3, b4, b5, b6, b7, b8, b9] := by
  have := ((((((((((h.set_ 0 b0).set_ 1 b1).set_ 2 b2).set_ 3 b3).set_ 4 b4).set_ 5 b5).set_ 6 b6).set_ 7 b7).set_ 8 b8).set_ 9 b9)
  simpa using this
theorem below_set10 {w a : World} {B g : Nat} (h : Below B a w) (hg : B ≤ g) (b0 b1 b2 b3 b4 b5 b6 b7 b8 b9 : Value) : Below B a (World.setCell (World.setCell (World.setCell (World.setCell (World.setCell (World.setCell (World.setCell (World.setCell (World.setCell (World.setCell w ⟨g, 0, none⟩ b0) ⟨g, 1, none⟩ b1) ⟨g, 2, none⟩ b2) ⟨g, 3, none⟩ b3) ⟨g, 4, none⟩ b4) ⟨g, 5, none⟩ b5) ⟨g, 6, none⟩ b6) ⟨g, 7, none⟩ b7) ⟨g, 8, none⟩ b8) ⟨g, 9, none⟩ b9) := ((((((((((h.setCell hg _).setCell hg _).setCell hg _).setCell hg _).setCell hg _).setCell hg _).setCell hg _).setCell hg _).setCell hg _).setCell hg _)
theorem rd_set10 {w : World} {B g : Nat} {A : Option Addr} {xs : List Value} (h : Rd w B A xs) (hne : ∀ ad, A = some ad → ad.block ≠ g) (b0 b1 b2 b3 b4 b5 b6 b7 b8 b9 : Value) : Rd (World.setCell (World.setCell (World.setCell (World.setCell (World.setCell (World.setCell (World.setCell (World.setCell (World.setCell (World.setCell w ⟨g, 0, none⟩ b0) ⟨g, 1, none⟩ b1) ⟨g, 2, none⟩ b2) ⟨g, 3, none⟩ b3) ⟨g, 4, none⟩ b4) ⟨g, 5, none⟩ b5) ⟨g, 6, none⟩ b6) ⟨g, 7, none⟩ b7) ⟨g, 8, none⟩ b8) ⟨g, 9, none⟩ b9) B A xs := (rd_set (rd_set (rd_set (rd_set (rd_set (rd_set (rd_set (rd_set (rd_set (rd_set h hne) hne) hne) hne) hne) hne) hne) hne) hne) hne)
theorem size_set10 {w : World} {g : Nat} (b0 b1 b2 b3 b4 b5 b6 b7 b8 b9 : Value) : (World.setCell (World.setCell (World.setCell (World.setCell (World.setCell (World.setCell (World.setCell (World.setCell (World.setCell (World.setCell w ⟨g, 0, none⟩ b0) ⟨g, 1, none⟩ b1) ⟨g, 2, none⟩ b2) ⟨g, 3, none⟩ b3) ⟨g, 4, none⟩ b4) ⟨g, 5, none⟩ b5) ⟨g, 6, none⟩ b6) ⟨g, 7, none⟩ b7) ⟨g, 8, none⟩ b8) ⟨g, 9, none⟩ b9).heap.size = w.heap.size := by simp
set_option maxRecDepth 100000 in
set_option maxHeartbeats 8000000 in
theorem sketchE_any (A : Option Addr) (l : List Int) (cap : Nat) (k lv : Int) (hl : l.length ≤ 1000) (w : World) (hS : Sl w w.heap.size A l) :
    Calls Tryz.prog 69 #[.agg #[.iface 127 (.agg #[.slice A l.length cap]), .int .i64 k, .int .i64 lv]] w (SkRet w { noSk k lv with e := l }) := by
  have tatNum : ∀ w, (Instr.typeAssert (.iface 127 (.agg #[.slice A l.length cap])) 91 127 true).run Tryz.prog w = .ok (.tuple #[(.agg #[.slice A l.length cap]), .bool true]) w := fun _ => by kernel_rfl
  go_enter Tryz.func69, Tryz.ntmps69
  go_wp2_with fail
  have hy : (w.alloc (.cells #[.iface 127 (.agg #[.slice A l.length cap]), .int .i64 k, .int .i64 lv] 93)).heap.size = w.heap.size + 1 := by simp
  have hz : (World.alloc (w.alloc (.cells #[.iface 127 (.agg #[.slice A l.length cap]), .int .i64 k, .int .i64 lv] 93)) (.cells #[.int .i64 0, .int .i64 0, .slice none 0 0, .int .i64 0, .string ⟨#[]⟩, .int .i64 0, .int .i64 0, .slice none 0 0, .int .i64 0, .slice none 0 0] 48)).heap.size = w.heap.size + 1 + 1 := by simp
  have h4 : (World.alloc (World.alloc (World.alloc (w.alloc (.cells #[.iface 127 (.agg #[.slice A l.length cap]), .int .i64 k, .int .i64 lv] 93)) (.cells #[.int .i64 0, .int .i64 0, .slice none 0 0, .int .i64 0, .string ⟨#[]⟩, .int .i64 0, .int .i64 0, .slice none 0 0, .int .i64 0, .slice none 0 0] 48)) (.cells #[.int .i64 k, .int .i64 lv, .slice none 0 0, .int .i64 0, .string ⟨#[]⟩, .int .i64 0, .int .i64 0, .slice none 0 0, .int .i64 0, .slice none 0 0] 48)) (.cells #[.slice A l.length cap] 127)).heap.size = w.heap.size + 1 + 1 + 1 + 1 := by simp
  have YB : Hid (Blk (World.alloc (World.alloc (World.alloc (w.alloc (.cells #[.iface 127 (.agg #[.slice A l.length cap]), .int .i64 k, .int .i64 lv] 93)) (.cells #[.int .i64 0, .int .i64 0, .slice none 0 0, .int .i64 0, .string ⟨#[]⟩, .int .i64 0, .int .i64 0, .slice none 0 0, .int .i64 0, .slice none 0 0] 48)) (.cells #[.int .i64 k, .int .i64 lv, .slice none 0 0, .int .i64 0, .string ⟨#[]⟩, .int .i64 0, .int .i64 0, .slice none 0 0, .int .i64 0, .slice none 0 0] 48)) (.cells #[.slice A l.length cap] 127)) (w.heap.size + 1) 48 #[.int .i64 0, .int .i64 0, .slice none 0 0, .int .i64 0, .string ⟨#[]⟩, .int .i64 0, .int .i64 0, .slice none 0 0, .int .i64 0, .slice none 0 0]) := by
    have := (Blk.new (w.alloc (.cells #[.iface 127 (.agg #[.slice A l.length cap]), .int .i64 k, .int .i64 lv] 93)) 48 #[.int .i64 0, .int .i64 0, .slice none 0 0, .int .i64 0, .string ⟨#[]⟩, .int .i64 0, .int .i64 0, .slice none 0 0, .int .i64 0, .slice none 0 0])
    rw [hy] at this
    exact (this.alloc _).alloc _
  have ZB : Hid (Blk (World.alloc (World.alloc (World.alloc (w.alloc (.cells #[.iface 127 (.agg #[.slice A l.length cap]), .int .i64 k, .int .i64 lv] 93)) (.cells #[.int .i64 0, .int .i64 0, .slice none 0 0, .int .i64 0, .string ⟨#[]⟩, .int .i64 0, .int .i64 0, .slice none 0 0, .int .i64 0, .slice none 0 0] 48)) (.cells #[.int .i64 k, .int .i64 lv, .slice none 0 0, .int .i64 0, .string ⟨#[]⟩, .int .i64 0, .int .i64 0, .slice none 0 0, .int .i64 0, .slice none 0 0] 48)) (.cells #[.slice A l.length cap] 127)) (w.heap.size + 1 + 1) 48 #[.int .i64 k, .int .i64 lv, .slice none 0 0, .int .i64 0, .string ⟨#[]⟩, .int .i64 0, .int .i64 0, .slice none 0 0, .int .i64 0, .slice none 0 0]) := by
    have := (Blk.new (World.alloc (w.alloc (.cells #[.iface 127 (.agg #[.slice A l.length cap]), .int .i64 k, .int .i64 lv] 93)) (.cells #[.int .i64 0, .int .i64 0, .slice none 0 0, .int .i64 0, .string ⟨#[]⟩, .int .i64 0, .int .i64 0, .slice none 0 0, .int .i64 0, .slice none 0 0] 48)) 48 #[.int .i64 k, .int .i64 lv, .slice none 0 0, .int .i64 0, .string ⟨#[]⟩, .int .i64 0, .int .i64 0, .slice none 0 0, .int .i64 0, .slice none 0 0])
    rw [hz] at this
    exact this.alloc _
  have HB : Hid (Below w.heap.size w (World.alloc (World.alloc (World.alloc (w.alloc (.cells #[.iface 127 (.agg #[.slice A l.length cap]), .int .i64 k, .int .i64 lv] 93)) (.cells #[.int .i64 0, .int .i64 0, .slice none 0 0, .int .i64 0, .string ⟨#[]⟩, .int .i64 0, .int .i64 0, .slice none 0 0, .int .i64 0, .slice none 0 0] 48)) (.cells #[.int .i64 k, .int .i64 lv, .slice none 0 0, .int .i64 0, .string ⟨#[]⟩, .int .i64 0, .int .i64 0, .slice none 0 0, .int .i64 0, .slice none 0 0] 48)) (.cells #[.slice A l.length cap] 127))) := below_al (below_al (below_al (below_al (below_0 w) _) _) _) _
  have HA : Hid (Sl (World.alloc (World.alloc (World.alloc (w.alloc (.cells #[.iface 127 (.agg #[.slice A l.length cap]), .int .i64 k, .int .i64 lv] 93)) (.cells #[.int .i64 0, .int .i64 0, .slice none 0 0, .int .i64 0, .string ⟨#[]⟩, .int .i64 0, .int .i64 0, .slice none 0 0, .int .i64 0, .slice none 0 0] 48)) (.cells #[.int .i64 k, .int .i64 lv, .slice none 0 0, .int .i64 0, .string ⟨#[]⟩, .int .i64 0, .int .i64 0, .slice none 0 0, .int .i64 0, .slice none 0 0] 48)) (.cells #[.slice A l.length cap] 127)) (World.alloc (World.alloc (World.alloc (w.alloc (.cells #[.iface 127 (.agg #[.slice A l.length cap]), .int .i64 k, .int .i64 lv] 93)) (.cells #[.int .i64 0, .int .i64 0, .slice none 0 0, .int .i64 0, .string ⟨#[]⟩, .int .i64 0, .int .i64 0, .slice none 0 0, .int .i64 0, .slice none 0 0] 48)) (.cells #[.int .i64 k, .int .i64 lv, .slice none 0 0, .int .i64 0, .string ⟨#[]⟩, .int .i64 0, .int .i64 0, .slice none 0 0, .int .i64 0, .slice none 0 0] 48)) (.cells #[.slice A l.length cap] 127)).heap.size A l) := (Rd.below hS HB.out).more HB.out.size
  generalize (World.alloc (World.alloc (World.alloc (w.alloc (.cells #[.iface 127 (.agg #[.slice A l.length cap]), .int .i64 k, .int .i64 lv] 93)) (.cells #[.int .i64 0, .int .i64 0, .slice none 0 0, .int .i64 0, .string ⟨#[]⟩, .int .i64 0, .int .i64 0, .slice none 0 0, .int .i64 0, .slice none 0 0] 48)) (.cells #[.int .i64 k, .int .i64 lv, .slice none 0 0, .int .i64 0, .string ⟨#[]⟩, .int .i64 0, .int .i64 0, .slice none 0 0, .int .i64 0, .slice none 0 0] 48)) (.cells #[.slice A l.length cap] 127)) = V at *
  refine (cloneU_any A l cap (by omega) _ HA.out).mono ?_
  rintro e w1 ⟨⟨A1, c1, rfl, hs1, ha1⟩, hb1⟩
  have Z1 := Lib.hid (ZB.out.later hb1)
  have Y1 := Lib.hid (YB.out.later hb1)
  have B1 := Lib.hid (Below.two HB.out hb1)
  have S1 := Lib.hid hs1
  have HA1 : Hid (∀ ad, A1 = some ad → w.heap.size + 4 ≤ ad.block) := fun ad e => by have := ha1 ad e; omega
  clear HA hb1 hs1 ha1 hS
  have z0 := Z1.out.cell 0
  have z1 := Z1.out.cell 1
  have z2 := Z1.out.cell 2
  have z3 := Z1.out.cell 3
  have z4 := Z1.out.cell 4
  have z5 := Z1.out.cell 5
  have z6 := Z1.out.cell 6
  have z7 := Z1.out.cell 7
  have z8 := Z1.out.cell 8
  have z9 := Z1.out.cell 9
  simp only [List.getElem?_toArray, List.getElem?_cons_zero, List.getElem?_cons_succ] at z0 z1 z2 z3 z4 z5 z6 z7 z8 z9
  have g := Z1.out.frozen 2
  have y0 := Y1.out.cell 0
  have y1 := Y1.out.cell 1
  have y2 := Y1.out.cell 2
  have y3 := Y1.out.cell 3
  have y4 := Y1.out.cell 4
  have y5 := Y1.out.cell 5
  have y6 := Y1.out.cell 6
  have y7 := Y1.out.cell 7
  have y8 := Y1.out.cell 8
  have y9 := Y1.out.cell 9
  simp only [List.getElem?_toArray, List.getElem?_cons_zero, List.getElem?_cons_succ] at y0 y1 y2 y3 y4 y5 y6 y7 y8 y9
  have f0 := Y1.out.frozen 0
  have f1 := Y1.out.frozen 1
  have f2 := Y1.out.frozen 2
  have f3 := Y1.out.frozen 3
  have f4 := Y1.out.frozen 4
  have f5 := Y1.out.frozen 5
  have f6 := Y1.out.frozen 6
  have f7 := Y1.out.frozen 7
  have f8 := Y1.out.frozen 8
  have f9 := Y1.out.frozen 9
  go_wp2_with fail
  have RR9 : Blk (World.setCell (World.setCell (World.setCell (World.setCell (World.setCell (World.setCell (World.setCell (World.setCell (World.setCell (World.setCell (World.setCell w1 ⟨w.heap.size + 1 + 1, 2, none⟩ (.slice A1 l.length c1)) ⟨w.heap.size + 1, 0, none⟩ (.int .i64 k)) ⟨w.heap.size + 1, 1, none⟩ (.int .i64 lv)) ⟨w.heap.size + 1, 2, none⟩ (.slice A1 l.length c1)) ⟨w.heap.size + 1, 3, none⟩ (.int .i64 0)) ⟨w.heap.size + 1, 4, none⟩ (.string ⟨#[]⟩)) ⟨w.heap.size + 1, 5, none⟩ (.int .i64 0)) ⟨w.heap.size + 1, 6, none⟩ (.int .i64 0)) ⟨w.heap.size + 1, 7, none⟩ (.slice none 0 0)) ⟨w.heap.size + 1, 8, none⟩ (.int .i64 0)) ⟨w.heap.size + 1, 9, none⟩ (.slice none 0 0)) (w.heap.size + 1) 48 #[.int .i64 k, .int .i64 lv, .slice A1 l.length c1, .int .i64 0, .string ⟨#[]⟩, .int .i64 0, .int .i64 0, .slice none 0 0, .int .i64 0, .slice none 0 0] := (Y1.out.far (by simp) _).set10
  have HB9 : Hid (Below w.heap.size w (World.setCell (World.setCell (World.setCell (World.setCell (World.setCell (World.setCell (World.setCell (World.setCell (World.setCell (World.setCell (World.setCell w1 ⟨w.heap.size + 1 + 1, 2, none⟩ (.slice A1 l.length c1)) ⟨w.heap.size + 1, 0, none⟩ (.int .i64 k)) ⟨w.heap.size + 1, 1, none⟩ (.int .i64 lv)) ⟨w.heap.size + 1, 2, none⟩ (.slice A1 l.length c1)) ⟨w.heap.size + 1, 3, none⟩ (.int .i64 0)) ⟨w.heap.size + 1, 4, none⟩ (.string ⟨#[]⟩)) ⟨w.heap.size + 1, 5, none⟩ (.int .i64 0)) ⟨w.heap.size + 1, 6, none⟩ (.int .i64 0)) ⟨w.heap.size + 1, 7, none⟩ (.slice none 0 0)) ⟨w.heap.size + 1, 8, none⟩ (.int .i64 0)) ⟨w.heap.size + 1, 9, none⟩ (.slice none 0 0))) := below_set10 (B1.out.setCell (by simp; try omega) _) (by omega) _ _ _ _ _ _ _ _ _ _
  have HSL : Hid (Sl (World.setCell (World.setCell (World.setCell (World.setCell (World.setCell (World.setCell (World.setCell (World.setCell (World.setCell (World.setCell (World.setCell w1 ⟨w.heap.size + 1 + 1, 2, none⟩ (.slice A1 l.length c1)) ⟨w.heap.size + 1, 0, none⟩ (.int .i64 k)) ⟨w.heap.size + 1, 1, none⟩ (.int .i64 lv)) ⟨w.heap.size + 1, 2, none⟩ (.slice A1 l.length c1)) ⟨w.heap.size + 1, 3, none⟩ (.int .i64 0)) ⟨w.heap.size + 1, 4, none⟩ (.string ⟨#[]⟩)) ⟨w.heap.size + 1, 5, none⟩ (.int .i64 0)) ⟨w.heap.size + 1, 6, none⟩ (.int .i64 0)) ⟨w.heap.size + 1, 7, none⟩ (.slice none 0 0)) ⟨w.heap.size + 1, 8, none⟩ (.int .i64 0)) ⟨w.heap.size + 1, 9, none⟩ (.slice none 0 0)) (World.setCell (World.setCell (World.setCell (World.setCell (World.setCell (World.setCell (World.setCell (World.setCell (World.setCell (World.setCell (World.setCell w1 ⟨w.heap.size + 1 + 1, 2, none⟩ (.slice A1 l.length c1)) ⟨w.heap.size + 1, 0, none⟩ (.int .i64 k)) ⟨w.heap.size + 1, 1, none⟩ (.int .i64 lv)) ⟨w.heap.size + 1, 2, none⟩ (.slice A1 l.length c1)) ⟨w.heap.size + 1, 3, none⟩ (.int .i64 0)) ⟨w.heap.size + 1, 4, none⟩ (.string ⟨#[]⟩)) ⟨w.heap.size + 1, 5, none⟩ (.int .i64 0)) ⟨w.heap.size + 1, 6, none⟩ (.int .i64 0)) ⟨w.heap.size + 1, 7, none⟩ (.slice none 0 0)) ⟨w.heap.size + 1, 8, none⟩ (.int .i64 0)) ⟨w.heap.size + 1, 9, none⟩ (.slice none 0 0)).heap.size A1 l) := by
    have h9 : (World.setCell (World.setCell (World.setCell (World.setCell (World.setCell (World.setCell (World.setCell (World.setCell (World.setCell (World.setCell (World.setCell w1 ⟨w.heap.size + 1 + 1, 2, none⟩ (.slice A1 l.length c1)) ⟨w.heap.size + 1, 0, none⟩ (.int .i64 k)) ⟨w.heap.size + 1, 1, none⟩ (.int .i64 lv)) ⟨w.heap.size + 1, 2, none⟩ (.slice A1 l.length c1)) ⟨w.heap.size + 1, 3, none⟩ (.int .i64 0)) ⟨w.heap.size + 1, 4, none⟩ (.string ⟨#[]⟩)) ⟨w.heap.size + 1, 5, none⟩ (.int .i64 0)) ⟨w.heap.size + 1, 6, none⟩ (.int .i64 0)) ⟨w.heap.size + 1, 7, none⟩ (.slice none 0 0)) ⟨w.heap.size + 1, 8, none⟩ (.int .i64 0)) ⟨w.heap.size + 1, 9, none⟩ (.slice none 0 0)).heap.size = w1.heap.size := (size_set10 _ _ _ _ _ _ _ _ _ _).trans (by simp)
    rw [h9]
    exact rd_set10 (rd_set S1.out (fun ad e => by have := HA1.out ad e; omega)) (fun ad e => by have := HA1.out ad e; omega) _ _ _ _ _ _ _ _ _ _
  have q0 := RR9.cell 0
  have q1 := RR9.cell 1
  have q2 := RR9.cell 2
  have q3 := RR9.cell 3
  have q4 := RR9.cell 4
  have q5 := RR9.cell 5
  have q6 := RR9.cell 6
  have q7 := RR9.cell 7
  have q8 := RR9.cell 8
  have q9 := RR9.cell 9
  simp only [List.getElem?_toArray, List.getElem?_cons_zero, List.getElem?_cons_succ] at q0 q1 q2 q3 q4 q5 q6 q7 q8 q9
  clear RR9
  generalize (World.setCell (World.setCell (World.setCell (World.setCell (World.setCell (World.setCell (World.setCell (World.setCell (World.setCell (World.setCell (World.setCell w1 ⟨w.heap.size + 1 + 1, 2, none⟩ (.slice A1 l.length c1)) ⟨w.heap.size + 1, 0, none⟩ (.int .i64 k)) ⟨w.heap.size + 1, 1, none⟩ (.int .i64 lv)) ⟨w.heap.size + 1, 2, none⟩ (.slice A1 l.length c1)) ⟨w.heap.size + 1, 3, none⟩ (.int .i64 0)) ⟨w.heap.size + 1, 4, none⟩ (.string ⟨#[]⟩)) ⟨w.heap.size + 1, 5, none⟩ (.int .i64 0)) ⟨w.heap.size + 1, 6, none⟩ (.int .i64 0)) ⟨w.heap.size + 1, 7, none⟩ (.slice none 0 0)) ⟨w.heap.size + 1, 8, none⟩ (.int .i64 0)) ⟨w.heap.size + 1, 9, none⟩ (.slice none 0 0)) = W9 at *
  refine bodyPost_ret (v := .agg #[.int .i64 k, .int .i64 lv, .slice A1 l.length c1, .int .i64 0, .string ⟨#[]⟩, .int .i64 0, .int .i64 0, .slice none 0 0, .int .i64 0, .slice none 0 0]) (by simp [results, Tryz.results69, go_sem, q0, q1, q2, q3, q4, q5, q6, q7, q8, q9]) rfl ?_
  exact ⟨⟨{ noSk k lv with e := l }, A1, c1, none, 0, none, 0⟩, rfl, rfl, ⟨HSL.out, Rd.none_, Rd.none_⟩, HB9.out⟩
set_option maxRecDepth 100000 in
set_option maxHeartbeats 8000000 in
theorem sketchH_any (b : Int) (s : ByteArray) (k lv : Int) (w : World) :
    Calls Tryz.prog 69 #[.agg #[.iface 129 (.agg #[.int .i64 b, .string s]), .int .i64 k, .int .i64 lv]] w (SkRet w { noSk k lv with bits := b, regs := s }) := by
  have tatNum : ∀ w, (Instr.typeAssert (.iface 129 (.agg #[.int .i64 b, .string s])) 91 127 true).run Tryz.prog w = .ok (.tuple #[(.agg #[.slice none 0 0]), .bool false]) w := fun _ => by kernel_rfl
  have tatReg : ∀ w, (Instr.typeAssert (.iface 129 (.agg #[.int .i64 b, .string s])) 91 129 true).run Tryz.prog w = .ok (.tuple #[(.agg #[.int .i64 b, .string s]), .bool true]) w := fun _ => by kernel_rfl
  go_enter Tryz.func69, Tryz.ntmps69
  go_wp2_with fail
  have hy : (w.alloc (.cells #[.iface 129 (.agg #[.int .i64 b, .string s]), .int .i64 k, .int .i64 lv] 93)).heap.size = w.heap.size + 1 := by simp
  have hz : (World.alloc (w.alloc (.cells #[.iface 129 (.agg #[.int .i64 b, .string s]), .int .i64 k, .int .i64 lv] 93)) (.cells #[.int .i64 k, .int .i64 lv, .slice none 0 0, .int .i64 b, .string s, .int .i64 0, .int .i64 0, .slice none 0 0, .int .i64 0, .slice none 0 0] 48)).heap.size = w.heap.size + 1 + 1 := by simp
  have h4 : (World.alloc (World.alloc (World.alloc (w.alloc (.cells #[.iface 129 (.agg #[.int .i64 b, .string s]), .int .i64 k, .int .i64 lv] 93)) (.cells #[.int .i64 k, .int .i64 lv, .slice none 0 0, .int .i64 b, .string s, .int .i64 0, .int .i64 0, .slice none 0 0, .int .i64 0, .slice none 0 0] 48)) (.cells #[.int .i64 k, .int .i64 lv, .slice none 0 0, .int .i64 b, .string s, .int .i64 0, .int .i64 0, .slice none 0 0, .int .i64 0, .slice none 0 0] 48)) (.cells #[.int .i64 b, .string s] 129)).heap.size = w.heap.size + 1 + 1 + 1 + 1 := by simp
  have YB : Hid (Blk (World.alloc (World.alloc (World.alloc (w.alloc (.cells #[.iface 129 (.agg #[.int .i64 b, .string s]), .int .i64 k, .int .i64 lv] 93)) (.cells #[.int .i64 k, .int .i64 lv, .slice none 0 0, .int .i64 b, .string s, .int .i64 0, .int .i64 0, .slice none 0 0, .int .i64 0, .slice none 0 0] 48)) (.cells #[.int .i64 k, .int .i64 lv, .slice none 0 0, .int .i64 b, .string s, .int .i64 0, .int .i64 0, .slice none 0 0, .int .i64 0, .slice none 0 0] 48)) (.cells #[.int .i64 b, .string s] 129)) (w.heap.size + 1) 48 #[.int .i64 k, .int .i64 lv, .slice none 0 0, .int .i64 b, .string s, .int .i64 0, .int .i64 0, .slice none 0 0, .int .i64 0, .slice none 0 0]) := by
    have := (Blk.new (w.alloc (.cells #[.iface 129 (.agg #[.int .i64 b, .string s]), .int .i64 k, .int .i64 lv] 93)) 48 #[.int .i64 k, .int .i64 lv, .slice none 0 0, .int .i64 b, .string s, .int .i64 0, .int .i64 0, .slice none 0 0, .int .i64 0, .slice none 0 0])
    rw [hy] at this
    exact (this.alloc _).alloc _
  have ZB : Hid (Blk (World.alloc (World.alloc (World.alloc (w.alloc (.cells #[.iface 129 (.agg #[.int .i64 b, .string s]), .int .i64 k, .int .i64 lv] 93)) (.cells #[.int .i64 k, .int .i64 lv, .slice none 0 0, .int .i64 b, .string s, .int .i64 0, .int .i64 0, .slice none 0 0, .int .i64 0, .slice none 0 0] 48)) (.cells #[.int .i64 k, .int .i64 lv, .slice none 0 0, .int .i64 b, .string s, .int .i64 0, .int .i64 0, .slice none 0 0, .int .i64 0, .slice none 0 0] 48)) (.cells #[.int .i64 b, .string s] 129)) (w.heap.size + 1 + 1) 48 #[.int .i64 k, .int .i64 lv, .slice none 0 0, .int .i64 b, .string s, .int .i64 0, .int .i64 0, .slice none 0 0, .int .i64 0, .slice none 0 0]) := by
    have := (Blk.new (World.alloc (w.alloc (.cells #[.iface 129 (.agg #[.int .i64 b, .string s]), .int .i64 k, .int .i64 lv] 93)) (.cells #[.int .i64 k, .int .i64 lv, .slice none 0 0, .int .i64 b, .string s, .int .i64 0, .int .i64 0, .slice none 0 0, .int .i64 0, .slice none 0 0] 48)) 48 #[.int .i64 k, .int .i64 lv, .slice none 0 0, .int .i64 b, .string s, .int .i64 0, .int .i64 0, .slice none 0 0, .int .i64 0, .slice none 0 0])
    rw [hz] at this
    exact this.alloc _
  have HB : Hid (Below w.heap.size w (World.alloc (World.alloc (World.alloc (w.alloc (.cells #[.iface 129 (.agg #[.int .i64 b, .string s]), .int .i64 k, .int .i64 lv] 93)) (.cells #[.int .i64 k, .int .i64 lv, .slice none 0 0, .int .i64 b, .string s, .int .i64 0, .int .i64 0, .slice none 0 0, .int .i64 0, .slice none 0 0] 48)) (.cells #[.int .i64 k, .int .i64 lv, .slice none 0 0, .int .i64 b, .string s, .int .i64 0, .int .i64 0, .slice none 0 0, .int .i64 0, .slice none 0 0] 48)) (.cells #[.int .i64 b, .string s] 129))) := below_al (below_al (below_al (below_al (below_0 w) _) _) _) _
  have RR9 := YB.out
  have HB9 := HB
  have q0 := RR9.cell 0
  have q1 := RR9.cell 1
  have q2 := RR9.cell 2
  have q3 := RR9.cell 3
  have q4 := RR9.cell 4
  have q5 := RR9.cell 5
  have q6 := RR9.cell 6
  have q7 := RR9.cell 7
  have q8 := RR9.cell 8
  have q9 := RR9.cell 9
  simp only [List.getElem?_toArray, List.getElem?_cons_zero, List.getElem?_cons_succ] at q0 q1 q2 q3 q4 q5 q6 q7 q8 q9
  clear RR9
  generalize (World.alloc (World.alloc (World.alloc (w.alloc (.cells #[.iface 129 (.agg #[.int .i64 b, .string s]), .int .i64 k, .int .i64 lv] 93)) (.cells #[.int .i64 k, .int .i64 lv, .slice none 0 0, .int .i64 b, .string s, .int .i64 0, .int .i64 0, .slice none 0 0, .int .i64 0, .slice none 0 0] 48)) (.cells #[.int .i64 k, .int .i64 lv, .slice none 0 0, .int .i64 b, .string s, .int .i64 0, .int .i64 0, .slice none 0 0, .int .i64 0, .slice none 0 0] 48)) (.cells #[.int .i64 b, .string s] 129)) = W9 at *
  refine bodyPost_ret (v := .agg #[.int .i64 k, .int .i64 lv, .slice none 0 0, .int .i64 b, .string s, .int .i64 0, .int .i64 0, .slice none 0 0, .int .i64 0, .slice none 0 0]) (by simp [results, Tryz.results69, go_sem, q0, q1, q2, q3, q4, q5, q6, q7, q8, q9]) rfl ?_
  exact ⟨⟨{ noSk k lv with bits := b, regs := s }, none, 0, none, 0, none, 0⟩, rfl, rfl, ⟨Rd.none_, Rd.none_, Rd.none_⟩, HB9.out⟩
set_option maxRecDepth 100000 in
set_option maxHeartbeats 8000000 in
theorem sketchC_any (r c : Int) (A : Option Addr) (l : List Int) (cap : Nat) (k lv : Int) (hl : l.length ≤ 1000) (w : World) (hS : Sl w w.heap.size A l) :
    Calls Tryz.prog 69 #[.agg #[.iface 131 (.agg #[.int .i64 r, .int .i64 c, .slice A l.length cap]), .int .i64 k, .int .i64 lv]] w (SkRet w { noSk k lv with rows := r, cols := c, c := l }) := by
  have tatNum : ∀ w, (Instr.typeAssert (.iface 131 (.agg #[.int .i64 r, .int .i64 c, .slice A l.length cap])) 91 127 true).run Tryz.prog w = .ok (.tuple #[(.agg #[.slice none 0 0]), .bool false]) w := fun _ => by kernel_rfl
  have tatReg : ∀ w, (Instr.typeAssert (.iface 131 (.agg #[.int .i64 r, .int .i64 c, .slice A l.length cap])) 91 129 true).run Tryz.prog w = .ok (.tuple #[(.agg #[.int .i64 0, .string ⟨#[]⟩]), .bool false]) w := fun _ => by kernel_rfl
  have tatCnt : ∀ w, (Instr.typeAssert (.iface 131 (.agg #[.int .i64 r, .int .i64 c, .slice A l.length cap])) 91 131 true).run Tryz.prog w = .ok (.tuple #[(.agg #[.int .i64 r, .int .i64 c, .slice A l.length cap]), .bool true]) w := fun _ => by kernel_rfl
  go_enter Tryz.func69, Tryz.ntmps69
  go_wp2_with fail
  have hy : (w.alloc (.cells #[.iface 131 (.agg #[.int .i64 r, .int .i64 c, .slice A l.length cap]), .int .i64 k, .int .i64 lv] 93)).heap.size = w.heap.size + 1 := by simp
  have hz : (World.alloc (w.alloc (.cells #[.iface 131 (.agg #[.int .i64 r, .int .i64 c, .slice A l.length cap]), .int .i64 k, .int .i64 lv] 93)) (.cells #[.int .i64 0, .int .i64 0, .slice none 0 0, .int .i64 0, .string ⟨#[]⟩, .int .i64 0, .int .i64 0, .slice none 0 0, .int .i64 0, .slice none 0 0] 48)).heap.size = w.heap.size + 1 + 1 := by simp
  have h4 : (World.alloc (World.alloc (World.alloc (w.alloc (.cells #[.iface 131 (.agg #[.int .i64 r, .int .i64 c, .slice A l.length cap]), .int .i64 k, .int .i64 lv] 93)) (.cells #[.int .i64 0, .int .i64 0, .slice none 0 0, .int .i64 0, .string ⟨#[]⟩, .int .i64 0, .int .i64 0, .slice none 0 0, .int .i64 0, .slice none 0 0] 48)) (.cells #[.int .i64 k, .int .i64 lv, .slice none 0 0, .int .i64 0, .string ⟨#[]⟩, .int .i64 r, .int .i64 c, .slice A l.length cap, .int .i64 0, .slice none 0 0] 48)) (.cells #[.int .i64 r, .int .i64 c, .slice A l.length cap] 131)).heap.size = w.heap.size + 1 + 1 + 1 + 1 := by simp
  have YB : Hid (Blk (World.alloc (World.alloc (World.alloc (w.alloc (.cells #[.iface 131 (.agg #[.int .i64 r, .int .i64 c, .slice A l.length cap]), .int .i64 k, .int .i64 lv] 93)) (.cells #[.int .i64 0, .int .i64 0, .slice none 0 0, .int .i64 0, .string ⟨#[]⟩, .int .i64 0, .int .i64 0, .slice none 0 0, .int .i64 0, .slice none 0 0] 48)) (.cells #[.int .i64 k, .int .i64 lv, .slice none 0 0, .int .i64 0, .string ⟨#[]⟩, .int .i64 r, .int .i64 c, .slice A l.length cap, .int .i64 0, .slice none 0 0] 48)) (.cells #[.int .i64 r, .int .i64 c, .slice A l.length cap] 131)) (w.heap.size + 1) 48 #[.int .i64 0, .int .i64 0, .slice none 0 0, .int .i64 0, .string ⟨#[]⟩, .int .i64 0, .int .i64 0, .slice none 0 0, .int .i64 0, .slice none 0 0]) := by
    have := (Blk.new (w.alloc (.cells #[.iface 131 (.agg #[.int .i64 r, .int .i64 c, .slice A l.length cap]), .int .i64 k, .int .i64 lv] 93)) 48 #[.int .i64 0, .int .i64 0, .slice none 0 0, .int .i64 0, .string ⟨#[]⟩, .int .i64 0, .int .i64 0, .slice none 0 0, .int .i64 0, .slice none 0 0])
    rw [hy] at this
    exact (this.alloc _).alloc _
  have ZB : Hid (Blk (World.alloc (World.alloc (World.alloc (w.alloc (.cells #[.iface 131 (.agg #[.int .i64 r, .int .i64 c, .slice A l.length cap]), .int .i64 k, .int .i64 lv] 93)) (.cells #[.int .i64 0, .int .i64 0, .slice none 0 0, .int .i64 0, .string ⟨#[]⟩, .int .i64 0, .int .i64 0, .slice none 0 0, .int .i64 0, .slice none 0 0] 48)) (.cells #[.int .i64 k, .int .i64 lv, .slice none 0 0, .int .i64 0, .string ⟨#[]⟩, .int .i64 r, .int .i64 c, .slice A l.length cap, .int .i64 0, .slice none 0 0] 48)) (.cells #[.int .i64 r, .int .i64 c, .slice A l.length cap] 131)) (w.heap.size + 1 + 1) 48 #[.int .i64 k, .int .i64 lv, .slice none 0 0, .int .i64 0, .string ⟨#[]⟩, .int .i64 r, .int .i64 c, .slice A l.length cap, .int .i64 0, .slice none 0 0]) := by
    have := (Blk.new (World.alloc (w.alloc (.cells #[.iface 131 (.agg #[.int .i64 r, .int .i64 c, .slice A l.length cap]), .int .i64 k, .int .i64 lv] 93)) (.cells #[.int .i64 0, .int .i64 0, .slice none 0 0, .int .i64 0, .string ⟨#[]⟩, .int .i64 0, .int .i64 0, .slice none 0 0, .int .i64 0, .slice none 0 0] 48)) 48 #[.int .i64 k, .int .i64 lv, .slice none 0 0, .int .i64 0, .string ⟨#[]⟩, .int .i64 r, .int .i64 c, .slice A l.length cap, .int .i64 0, .slice none 0 0])
    rw [hz] at this
    exact this.alloc _
  have HB : Hid (Below w.heap.size w (World.alloc (World.alloc (World.alloc (w.alloc (.cells #[.iface 131 (.agg #[.int .i64 r, .int .i64 c, .slice A l.length cap]), .int .i64 k, .int .i64 lv] 93)) (.cells #[.int .i64 0, .int .i64 0, .slice none 0 0, .int .i64 0, .string ⟨#[]⟩, .int .i64 0, .int .i64 0, .slice none 0 0, .int .i64 0, .slice none 0 0] 48)) (.cells #[.int .i64 k, .int .i64 lv, .slice none 0 0, .int .i64 0, .string ⟨#[]⟩, .int .i64 r, .int .i64 c, .slice A l.length cap, .int .i64 0, .slice none 0 0] 48)) (.cells #[.int .i64 r, .int .i64 c, .slice A l.length cap] 131))) := below_al (below_al (below_al (below_al (below_0 w) _) _) _) _
  have HA : Hid (Sl (World.alloc (World.alloc (World.alloc (w.alloc (.cells #[.iface 131 (.agg #[.int .i64 r, .int .i64 c, .slice A l.length cap]), .int .i64 k, .int .i64 lv] 93)) (.cells #[.int .i64 0, .int .i64 0, .slice none 0 0, .int .i64 0, .string ⟨#[]⟩, .int .i64 0, .int .i64 0, .slice none 0 0, .int .i64 0, .slice none 0 0] 48)) (.cells #[.int .i64 k, .int .i64 lv, .slice none 0 0, .int .i64 0, .string ⟨#[]⟩, .int .i64 r, .int .i64 c, .slice A l.length cap, .int .i64 0, .slice none 0 0] 48)) (.cells #[.int .i64 r, .int .i64 c, .slice A l.length cap] 131)) (World.alloc (World.alloc (World.alloc (w.alloc (.cells #[.iface 131 (.agg #[.int .i64 r, .int .i64 c, .slice A l.length cap]), .int .i64 k, .int .i64 lv] 93)) (.cells #[.int .i64 0, .int .i64 0, .slice none 0 0, .int .i64 0, .string ⟨#[]⟩, .int .i64 0, .int .i64 0, .slice none 0 0, .int .i64 0, .slice none 0 0] 48)) (.cells #[.int .i64 k, .int .i64 lv, .slice none 0 0, .int .i64 0, .string ⟨#[]⟩, .int .i64 r, .int .i64 c, .slice A l.length cap, .int .i64 0, .slice none 0 0] 48)) (.cells #[.int .i64 r, .int .i64 c, .slice A l.length cap] 131)).heap.size A l) := (Rd.below hS HB.out).more HB.out.size
  generalize (World.alloc (World.alloc (World.alloc (w.alloc (.cells #[.iface 131 (.agg #[.int .i64 r, .int .i64 c, .slice A l.length cap]), .int .i64 k, .int .i64 lv] 93)) (.cells #[.int .i64 0, .int .i64 0, .slice none 0 0, .int .i64 0, .string ⟨#[]⟩, .int .i64 0, .int .i64 0, .slice none 0 0, .int .i64 0, .slice none 0 0] 48)) (.cells #[.int .i64 k, .int .i64 lv, .slice none 0 0, .int .i64 0, .string ⟨#[]⟩, .int .i64 r, .int .i64 c, .slice A l.length cap, .int .i64 0, .slice none 0 0] 48)) (.cells #[.int .i64 r, .int .i64 c, .slice A l.length cap] 131)) = V at *
  refine (cloneU_any A l cap (by omega) _ HA.out).mono ?_
  rintro e w1 ⟨⟨A1, c1, rfl, hs1, ha1⟩, hb1⟩
  have Z1 := Lib.hid (ZB.out.later hb1)
  have Y1 := Lib.hid (YB.out.later hb1)
  have B1 := Lib.hid (Below.two HB.out hb1)
  have S1 := Lib.hid hs1
  have HA1 : Hid (∀ ad, A1 = some ad → w.heap.size + 4 ≤ ad.block) := fun ad e => by have := ha1 ad e; omega
  clear HA hb1 hs1 ha1 hS
  have z0 := Z1.out.cell 0
  have z1 := Z1.out.cell 1
  have z2 := Z1.out.cell 2
  have z3 := Z1.out.cell 3
  have z4 := Z1.out.cell 4
  have z5 := Z1.out.cell 5
  have z6 := Z1.out.cell 6
  have z7 := Z1.out.cell 7
  have z8 := Z1.out.cell 8
  have z9 := Z1.out.cell 9
  simp only [List.getElem?_toArray, List.getElem?_cons_zero, List.getElem?_cons_succ] at z0 z1 z2 z3 z4 z5 z6 z7 z8 z9
  have g := Z1.out.frozen 7
  have y0 := Y1.out.cell 0
  have y1 := Y1.out.cell 1
  have y2 := Y1.out.cell 2
  have y3 := Y1.out.cell 3
  have y4 := Y1.out.cell 4
  have y5 := Y1.out.cell 5
  have y6 := Y1.out.cell 6
  have y7 := Y1.out.cell 7
  have y8 := Y1.out.cell 8
  have y9 := Y1.out.cell 9
  simp only [List.getElem?_toArray, List.getElem?_cons_zero, List.getElem?_cons_succ] at y0 y1 y2 y3 y4 y5 y6 y7 y8 y9
  have f0 := Y1.out.frozen 0
  have f1 := Y1.out.frozen 1
  have f2 := Y1.out.frozen 2
  have f3 := Y1.out.frozen 3
  have f4 := Y1.out.frozen 4
  have f5 := Y1.out.frozen 5
  have f6 := Y1.out.frozen 6
  have f7 := Y1.out.frozen 7
  have f8 := Y1.out.frozen 8
  have f9 := Y1.out.frozen 9
  go_wp2_with fail
  have RR9 : Blk (World.setCell (World.setCell (World.setCell (World.setCell (World.setCell (World.setCell (World.setCell (World.setCell (World.setCell (World.setCell (World.setCell w1 ⟨w.heap.size + 1 + 1, 7, none⟩ (.slice A1 l.length c1)) ⟨w.heap.size + 1, 0, none⟩ (.int .i64 k)) ⟨w.heap.size + 1, 1, none⟩ (.int .i64 lv)) ⟨w.heap.size + 1, 2, none⟩ (.slice none 0 0)) ⟨w.heap.size + 1, 3, none⟩ (.int .i64 0)) ⟨w.heap.size + 1, 4, none⟩ (.string ⟨#[]⟩)) ⟨w.heap.size + 1, 5, none⟩ (.int .i64 r)) ⟨w.heap.size + 1, 6, none⟩ (.int .i64 c)) ⟨w.heap.size + 1, 7, none⟩ (.slice A1 l.length c1)) ⟨w.heap.size + 1, 8, none⟩ (.int .i64 0)) ⟨w.heap.size + 1, 9, none⟩ (.slice none 0 0)) (w.heap.size + 1) 48 #[.int .i64 k, .int .i64 lv, .slice none 0 0, .int .i64 0, .string ⟨#[]⟩, .int .i64 r, .int .i64 c, .slice A1 l.length c1, .int .i64 0, .slice none 0 0] := (Y1.out.far (by simp) _).set10
  have HB9 : Hid (Below w.heap.size w (World.setCell (World.setCell (World.setCell (World.setCell (World.setCell (World.setCell (World.setCell (World.setCell (World.setCell (World.setCell (World.setCell w1 ⟨w.heap.size + 1 + 1, 7, none⟩ (.slice A1 l.length c1)) ⟨w.heap.size + 1, 0, none⟩ (.int .i64 k)) ⟨w.heap.size + 1, 1, none⟩ (.int .i64 lv)) ⟨w.heap.size + 1, 2, none⟩ (.slice none 0 0)) ⟨w.heap.size + 1, 3, none⟩ (.int .i64 0)) ⟨w.heap.size + 1, 4, none⟩ (.string ⟨#[]⟩)) ⟨w.heap.size + 1, 5, none⟩ (.int .i64 r)) ⟨w.heap.size + 1, 6, none⟩ (.int .i64 c)) ⟨w.heap.size + 1, 7, none⟩ (.slice A1 l.length c1)) ⟨w.heap.size + 1, 8, none⟩ (.int .i64 0)) ⟨w.heap.size + 1, 9, none⟩ (.slice none 0 0))) := below_set10 (B1.out.setCell (by simp; try omega) _) (by omega) _ _ _ _ _ _ _ _ _ _
  have HSL : Hid (Sl (World.setCell (World.setCell (World.setCell (World.setCell (World.setCell (World.setCell (World.setCell (World.setCell (World.setCell (World.setCell (World.setCell w1 ⟨w.heap.size + 1 + 1, 7, none⟩ (.slice A1 l.length c1)) ⟨w.heap.size + 1, 0, none⟩ (.int .i64 k)) ⟨w.heap.size + 1, 1, none⟩ (.int .i64 lv)) ⟨w.heap.size + 1, 2, none⟩ (.slice none 0 0)) ⟨w.heap.size + 1, 3, none⟩ (.int .i64 0)) ⟨w.heap.size + 1, 4, none⟩ (.string ⟨#[]⟩)) ⟨w.heap.size + 1, 5, none⟩ (.int .i64 r)) ⟨w.heap.size + 1, 6, none⟩ (.int .i64 c)) ⟨w.heap.size + 1, 7, none⟩ (.slice A1 l.length c1)) ⟨w.heap.size + 1, 8, none⟩ (.int .i64 0)) ⟨w.heap.size + 1, 9, none⟩ (.slice none 0 0)) (World.setCell (World.setCell (World.setCell (World.setCell (World.setCell (World.setCell (World.setCell (World.setCell (World.setCell (World.setCell (World.setCell w1 ⟨w.heap.size + 1 + 1, 7, none⟩ (.slice A1 l.length c1)) ⟨w.heap.size + 1, 0, none⟩ (.int .i64 k)) ⟨w.heap.size + 1, 1, none⟩ (.int .i64 lv)) ⟨w.heap.size + 1, 2, none⟩ (.slice none 0 0)) ⟨w.heap.size + 1, 3, none⟩ (.int .i64 0)) ⟨w.heap.size + 1, 4, none⟩ (.string ⟨#[]⟩)) ⟨w.heap.size + 1, 5, none⟩ (.int .i64 r)) ⟨w.heap.size + 1, 6, none⟩ (.int .i64 c)) ⟨w.heap.size + 1, 7, none⟩ (.slice A1 l.length c1)) ⟨w.heap.size + 1, 8, none⟩ (.int .i64 0)) ⟨w.heap.size + 1, 9, none⟩ (.slice none 0 0)).heap.size A1 l) := by
    have h9 : (World.setCell (World.setCell (World.setCell (World.setCell (World.setCell (World.setCell (World.setCell (World.setCell (World.setCell (World.setCell (World.setCell w1 ⟨w.heap.size + 1 + 1, 7, none⟩ (.slice A1 l.length c1)) ⟨w.heap.size + 1, 0, none⟩ (.int .i64 k)) ⟨w.heap.size + 1, 1, none⟩ (.int .i64 lv)) ⟨w.heap.size + 1, 2, none⟩ (.slice none 0 0)) ⟨w.heap.size + 1, 3, none⟩ (.int .i64 0)) ⟨w.heap.size + 1, 4, none⟩ (.string ⟨#[]⟩)) ⟨w.heap.size + 1, 5, none⟩ (.int .i64 r)) ⟨w.heap.size + 1, 6, none⟩ (.int .i64 c)) ⟨w.heap.size + 1, 7, none⟩ (.slice A1 l.length c1)) ⟨w.heap.size + 1, 8, none⟩ (.int .i64 0)) ⟨w.heap.size + 1, 9, none⟩ (.slice none 0 0)).heap.size = w1.heap.size := (size_set10 _ _ _ _ _ _ _ _ _ _).trans (by simp)
    rw [h9]
    exact rd_set10 (rd_set S1.out (fun ad e => by have := HA1.out ad e; omega)) (fun ad e => by have := HA1.out ad e; omega) _ _ _ _ _ _ _ _ _ _
  have q0 := RR9.cell 0
  have q1 := RR9.cell 1
  have q2 := RR9.cell 2
  have q3 := RR9.cell 3
  have q4 := RR9.cell 4
  have q5 := RR9.cell 5
  have q6 := RR9.cell 6
  have q7 := RR9.cell 7
  have q8 := RR9.cell 8
  have q9 := RR9.cell 9
  simp only [List.getElem?_toArray, List.getElem?_cons_zero, List.getElem?_cons_succ] at q0 q1 q2 q3 q4 q5 q6 q7 q8 q9
  clear RR9
  generalize (World.setCell (World.setCell (World.setCell (World.setCell (World.setCell (World.setCell (World.setCell (World.setCell (World.setCell (World.setCell (World.setCell w1 ⟨w.heap.size + 1 + 1, 7, none⟩ (.slice A1 l.length c1)) ⟨w.heap.size + 1, 0, none⟩ (.int .i64 k)) ⟨w.heap.size + 1, 1, none⟩ (.int .i64 lv)) ⟨w.heap.size + 1, 2, none⟩ (.slice none 0 0)) ⟨w.heap.size + 1, 3, none⟩ (.int .i64 0)) ⟨w.heap.size + 1, 4, none⟩ (.string ⟨#[]⟩)) ⟨w.heap.size + 1, 5, none⟩ (.int .i64 r)) ⟨w.heap.size + 1, 6, none⟩ (.int .i64 c)) ⟨w.heap.size + 1, 7, none⟩ (.slice A1 l.length c1)) ⟨w.heap.size + 1, 8, none⟩ (.int .i64 0)) ⟨w.heap.size + 1, 9, none⟩ (.slice none 0 0)) = W9 at *
  refine bodyPost_ret (v := .agg #[.int .i64 k, .int .i64 lv, .slice none 0 0, .int .i64 0, .string ⟨#[]⟩, .int .i64 r, .int .i64 c, .slice A1 l.length c1, .int .i64 0, .slice none 0 0]) (by simp [results, Tryz.results69, go_sem, q0, q1, q2, q3, q4, q5, q6, q7, q8, q9]) rfl ?_
  exact ⟨⟨{ noSk k lv with rows := r, cols := c, c := l }, none, 0, A1, c1, none, 0⟩, rfl, rfl, ⟨Rd.none_, HSL.out, Rd.none_⟩, HB9.out⟩
set_option maxRecDepth 100000 in
set_option maxHeartbeats 8000000 in
theorem sketchG_any (f : Int) (A : Option Addr) (l : Hi.Bins) (cap : Nat) (k lv : Int) (hl : l.length ≤ 1000) (w : World) (hS : Hi.Sb w w.heap.size A l) :
    Calls Tryz.prog 69 #[.agg #[.iface 133 (.agg #[.int .i64 f, .slice A l.length cap]), .int .i64 k, .int .i64 lv]] w (SkRet w { noSk k lv with fine := f, g := l }) := by
  have tatNum : ∀ w, (Instr.typeAssert (.iface 133 (.agg #[.int .i64 f, .slice A l.length cap])) 91 127 true).run Tryz.prog w = .ok (.tuple #[(.agg #[.slice none 0 0]), .bool false]) w := fun _ => by kernel_rfl
  have tatReg : ∀ w, (Instr.typeAssert (.iface 133 (.agg #[.int .i64 f, .slice A l.length cap])) 91 129 true).run Tryz.prog w = .ok (.tuple #[(.agg #[.int .i64 0, .string ⟨#[]⟩]), .bool false]) w := fun _ => by kernel_rfl
  have tatCnt : ∀ w, (Instr.typeAssert (.iface 133 (.agg #[.int .i64 f, .slice A l.length cap])) 91 131 true).run Tryz.prog w = .ok (.tuple #[(.agg #[.int .i64 0, .int .i64 0, .slice none 0 0]), .bool false]) w := fun _ => by kernel_rfl
  have tatBuk : ∀ w, (Instr.typeAssert (.iface 133 (.agg #[.int .i64 f, .slice A l.length cap])) 91 133 true).run Tryz.prog w = .ok (.tuple #[(.agg #[.int .i64 f, .slice A l.length cap]), .bool true]) w := fun _ => by kernel_rfl
  go_enter Tryz.func69, Tryz.ntmps69
  go_wp2_with fail
  have hy : (w.alloc (.cells #[.iface 133 (.agg #[.int .i64 f, .slice A l.length cap]), .int .i64 k, .int .i64 lv] 93)).heap.size = w.heap.size + 1 := by simp
  have hz : (World.alloc (w.alloc (.cells #[.iface 133 (.agg #[.int .i64 f, .slice A l.length cap]), .int .i64 k, .int .i64 lv] 93)) (.cells #[.int .i64 0, .int .i64 0, .slice none 0 0, .int .i64 0, .string ⟨#[]⟩, .int .i64 0, .int .i64 0, .slice none 0 0, .int .i64 0, .slice none 0 0] 48)).heap.size = w.heap.size + 1 + 1 := by simp
  have h4 : (World.alloc (World.alloc (World.alloc (w.alloc (.cells #[.iface 133 (.agg #[.int .i64 f, .slice A l.length cap]), .int .i64 k, .int .i64 lv] 93)) (.cells #[.int .i64 0, .int .i64 0, .slice none 0 0, .int .i64 0, .string ⟨#[]⟩, .int .i64 0, .int .i64 0, .slice none 0 0, .int .i64 0, .slice none 0 0] 48)) (.cells #[.int .i64 k, .int .i64 lv, .slice none 0 0, .int .i64 0, .string ⟨#[]⟩, .int .i64 0, .int .i64 0, .slice none 0 0, .int .i64 f, .slice A l.length cap] 48)) (.cells #[.int .i64 f, .slice A l.length cap] 133)).heap.size = w.heap.size + 1 + 1 + 1 + 1 := by simp
  have YB : Hid (Blk (World.alloc (World.alloc (World.alloc (w.alloc (.cells #[.iface 133 (.agg #[.int .i64 f, .slice A l.length cap]), .int .i64 k, .int .i64 lv] 93)) (.cells #[.int .i64 0, .int .i64 0, .slice none 0 0, .int .i64 0, .string ⟨#[]⟩, .int .i64 0, .int .i64 0, .slice none 0 0, .int .i64 0, .slice none 0 0] 48)) (.cells #[.int .i64 k, .int .i64 lv, .slice none 0 0, .int .i64 0, .string ⟨#[]⟩, .int .i64 0, .int .i64 0, .slice none 0 0, .int .i64 f, .slice A l.length cap] 48)) (.cells #[.int .i64 f, .slice A l.length cap] 133)) (w.heap.size + 1) 48 #[.int .i64 0, .int .i64 0, .slice none 0 0, .int .i64 0, .string ⟨#[]⟩, .int .i64 0, .int .i64 0, .slice none 0 0, .int .i64 0, .slice none 0 0]) := by
    have := (Blk.new (w.alloc (.cells #[.iface 133 (.agg #[.int .i64 f, .slice A l.length cap]), .int .i64 k, .int .i64 lv] 93)) 48 #[.int .i64 0, .int .i64 0, .slice none 0 0, .int .i64 0, .string ⟨#[]⟩, .int .i64 0, .int .i64 0, .slice none 0 0, .int .i64 0, .slice none 0 0])
    rw [hy] at this
    exact (this.alloc _).alloc _
  have ZB : Hid (Blk (World.alloc (World.alloc (World.alloc (w.alloc (.cells #[.iface 133 (.agg #[.int .i64 f, .slice A l.length cap]), .int .i64 k, .int .i64 lv] 93)) (.cells #[.int .i64 0, .int .i64 0, .slice none 0 0, .int .i64 0, .string ⟨#[]⟩, .int .i64 0, .int .i64 0, .slice none 0 0, .int .i64 0, .slice none 0 0] 48)) (.cells #[.int .i64 k, .int .i64 lv, .slice none 0 0, .int .i64 0, .string ⟨#[]⟩, .int .i64 0, .int .i64 0, .slice none 0 0, .int .i64 f, .slice A l.length cap] 48)) (.cells #[.int .i64 f, .slice A l.length cap] 133)) (w.heap.size + 1 + 1) 48 #[.int .i64 k, .int .i64 lv, .slice none 0 0, .int .i64 0, .string ⟨#[]⟩, .int .i64 0, .int .i64 0, .slice none 0 0, .int .i64 f, .slice A l.length cap]) := by
    have := (Blk.new (World.alloc (w.alloc (.cells #[.iface 133 (.agg #[.int .i64 f, .slice A l.length cap]), .int .i64 k, .int .i64 lv] 93)) (.cells #[.int .i64 0, .int .i64 0, .slice none 0 0, .int .i64 0, .string ⟨#[]⟩, .int .i64 0, .int .i64 0, .slice none 0 0, .int .i64 0, .slice none 0 0] 48)) 48 #[.int .i64 k, .int .i64 lv, .slice none 0 0, .int .i64 0, .string ⟨#[]⟩, .int .i64 0, .int .i64 0, .slice none 0 0, .int .i64 f, .slice A l.length cap])
    rw [hz] at this
    exact this.alloc _
  have HB : Hid (Below w.heap.size w (World.alloc (World.alloc (World.alloc (w.alloc (.cells #[.iface 133 (.agg #[.int .i64 f, .slice A l.length cap]), .int .i64 k, .int .i64 lv] 93)) (.cells #[.int .i64 0, .int .i64 0, .slice none 0 0, .int .i64 0, .string ⟨#[]⟩, .int .i64 0, .int .i64 0, .slice none 0 0, .int .i64 0, .slice none 0 0] 48)) (.cells #[.int .i64 k, .int .i64 lv, .slice none 0 0, .int .i64 0, .string ⟨#[]⟩, .int .i64 0, .int .i64 0, .slice none 0 0, .int .i64 f, .slice A l.length cap] 48)) (.cells #[.int .i64 f, .slice A l.length cap] 133))) := below_al (below_al (below_al (below_al (below_0 w) _) _) _) _
  have HA : Hid (Hi.Sb (World.alloc (World.alloc (World.alloc (w.alloc (.cells #[.iface 133 (.agg #[.int .i64 f, .slice A l.length cap]), .int .i64 k, .int .i64 lv] 93)) (.cells #[.int .i64 0, .int .i64 0, .slice none 0 0, .int .i64 0, .string ⟨#[]⟩, .int .i64 0, .int .i64 0, .slice none 0 0, .int .i64 0, .slice none 0 0] 48)) (.cells #[.int .i64 k, .int .i64 lv, .slice none 0 0, .int .i64 0, .string ⟨#[]⟩, .int .i64 0, .int .i64 0, .slice none 0 0, .int .i64 f, .slice A l.length cap] 48)) (.cells #[.int .i64 f, .slice A l.length cap] 133)) (World.alloc (World.alloc (World.alloc (w.alloc (.cells #[.iface 133 (.agg #[.int .i64 f, .slice A l.length cap]), .int .i64 k, .int .i64 lv] 93)) (.cells #[.int .i64 0, .int .i64 0, .slice none 0 0, .int .i64 0, .string ⟨#[]⟩, .int .i64 0, .int .i64 0, .slice none 0 0, .int .i64 0, .slice none 0 0] 48)) (.cells #[.int .i64 k, .int .i64 lv, .slice none 0 0, .int .i64 0, .string ⟨#[]⟩, .int .i64 0, .int .i64 0, .slice none 0 0, .int .i64 f, .slice A l.length cap] 48)) (.cells #[.int .i64 f, .slice A l.length cap] 133)).heap.size A l) := (Rd.below hS HB.out).more HB.out.size
  generalize (World.alloc (World.alloc (World.alloc (w.alloc (.cells #[.iface 133 (.agg #[.int .i64 f, .slice A l.length cap]), .int .i64 k, .int .i64 lv] 93)) (.cells #[.int .i64 0, .int .i64 0, .slice none 0 0, .int .i64 0, .string ⟨#[]⟩, .int .i64 0, .int .i64 0, .slice none 0 0, .int .i64 0, .slice none 0 0] 48)) (.cells #[.int .i64 k, .int .i64 lv, .slice none 0 0, .int .i64 0, .string ⟨#[]⟩, .int .i64 0, .int .i64 0, .slice none 0 0, .int .i64 f, .slice A l.length cap] 48)) (.cells #[.int .i64 f, .slice A l.length cap] 133)) = V at *
  refine (cloneB_any A l cap (by omega) _ HA.out).mono ?_
  rintro e w1 ⟨⟨A1, c1, rfl, hs1, ha1⟩, hb1⟩
  have Z1 := Lib.hid (ZB.out.later hb1)
  have Y1 := Lib.hid (YB.out.later hb1)
  have B1 := Lib.hid (Below.two HB.out hb1)
  have S1 := Lib.hid hs1
  have HA1 : Hid (∀ ad, A1 = some ad → w.heap.size + 4 ≤ ad.block) := fun ad e => by have := ha1 ad e; omega
  clear HA hb1 hs1 ha1 hS
  have z0 := Z1.out.cell 0
  have z1 := Z1.out.cell 1
  have z2 := Z1.out.cell 2
  have z3 := Z1.out.cell 3
  have z4 := Z1.out.cell 4
  have z5 := Z1.out.cell 5
  have z6 := Z1.out.cell 6
  have z7 := Z1.out.cell 7
  have z8 := Z1.out.cell 8
  have z9 := Z1.out.cell 9
  simp only [List.getElem?_toArray, List.getElem?_cons_zero, List.getElem?_cons_succ] at z0 z1 z2 z3 z4 z5 z6 z7 z8 z9
  have g := Z1.out.frozen 9
  have y0 := Y1.out.cell 0
  have y1 := Y1.out.cell 1
  have y2 := Y1.out.cell 2
  have y3 := Y1.out.cell 3
  have y4 := Y1.out.cell 4
  have y5 := Y1.out.cell 5
  have y6 := Y1.out.cell 6
  have y7 := Y1.out.cell 7
  have y8 := Y1.out.cell 8
  have y9 := Y1.out.cell 9
  simp only [List.getElem?_toArray, List.getElem?_cons_zero, List.getElem?_cons_succ] at y0 y1 y2 y3 y4 y5 y6 y7 y8 y9
  have f0 := Y1.out.frozen 0
  have f1 := Y1.out.frozen 1
  have f2 := Y1.out.frozen 2
  have f3 := Y1.out.frozen 3
  have f4 := Y1.out.frozen 4
  have f5 := Y1.out.frozen 5
  have f6 := Y1.out.frozen 6
  have f7 := Y1.out.frozen 7
  have f8 := Y1.out.frozen 8
  have f9 := Y1.out.frozen 9
  go_wp2_with fail
  have RR9 : Blk (World.setCell (World.setCell (World.setCell (World.setCell (World.setCell (World.setCell (World.setCell (World.setCell (World.setCell (World.setCell (World.setCell w1 ⟨w.heap.size + 1 + 1, 9, none⟩ (.slice A1 l.length c1)) ⟨w.heap.size + 1, 0, none⟩ (.int .i64 k)) ⟨w.heap.size + 1, 1, none⟩ (.int .i64 lv)) ⟨w.heap.size + 1, 2, none⟩ (.slice none 0 0)) ⟨w.heap.size + 1, 3, none⟩ (.int .i64 0)) ⟨w.heap.size + 1, 4, none⟩ (.string ⟨#[]⟩)) ⟨w.heap.size + 1, 5, none⟩ (.int .i64 0)) ⟨w.heap.size + 1, 6, none⟩ (.int .i64 0)) ⟨w.heap.size + 1, 7, none⟩ (.slice none 0 0)) ⟨w.heap.size + 1, 8, none⟩ (.int .i64 f)) ⟨w.heap.size + 1, 9, none⟩ (.slice A1 l.length c1)) (w.heap.size + 1) 48 #[.int .i64 k, .int .i64 lv, .slice none 0 0, .int .i64 0, .string ⟨#[]⟩, .int .i64 0, .int .i64 0, .slice none 0 0, .int .i64 f, .slice A1 l.length c1] := (Y1.out.far (by simp) _).set10
  have HB9 : Hid (Below w.heap.size w (World.setCell (World.setCell (World.setCell (World.setCell (World.setCell (World.setCell (World.setCell (World.setCell (World.setCell (World.setCell (World.setCell w1 ⟨w.heap.size + 1 + 1, 9, none⟩ (.slice A1 l.length c1)) ⟨w.heap.size + 1, 0, none⟩ (.int .i64 k)) ⟨w.heap.size + 1, 1, none⟩ (.int .i64 lv)) ⟨w.heap.size + 1, 2, none⟩ (.slice none 0 0)) ⟨w.heap.size + 1, 3, none⟩ (.int .i64 0)) ⟨w.heap.size + 1, 4, none⟩ (.string ⟨#[]⟩)) ⟨w.heap.size + 1, 5, none⟩ (.int .i64 0)) ⟨w.heap.size + 1, 6, none⟩ (.int .i64 0)) ⟨w.heap.size + 1, 7, none⟩ (.slice none 0 0)) ⟨w.heap.size + 1, 8, none⟩ (.int .i64 f)) ⟨w.heap.size + 1, 9, none⟩ (.slice A1 l.length c1))) := below_set10 (B1.out.setCell (by simp; try omega) _) (by omega) _ _ _ _ _ _ _ _ _ _
  have HSL : Hid (Hi.Sb (World.setCell (World.setCell (World.setCell (World.setCell (World.setCell (World.setCell (World.setCell (World.setCell (World.setCell (World.setCell (World.setCell w1 ⟨w.heap.size + 1 + 1, 9, none⟩ (.slice A1 l.length c1)) ⟨w.heap.size + 1, 0, none⟩ (.int .i64 k)) ⟨w.heap.size + 1, 1, none⟩ (.int .i64 lv)) ⟨w.heap.size + 1, 2, none⟩ (.slice none 0 0)) ⟨w.heap.size + 1, 3, none⟩ (.int .i64 0)) ⟨w.heap.size + 1, 4, none⟩ (.string ⟨#[]⟩)) ⟨w.heap.size + 1, 5, none⟩ (.int .i64 0)) ⟨w.heap.size + 1, 6, none⟩ (.int .i64 0)) ⟨w.heap.size + 1, 7, none⟩ (.slice none 0 0)) ⟨w.heap.size + 1, 8, none⟩ (.int .i64 f)) ⟨w.heap.size + 1, 9, none⟩ (.slice A1 l.length c1)) (World.setCell (World.setCell (World.setCell (World.setCell (World.setCell (World.setCell (World.setCell (World.setCell (World.setCell (World.setCell (World.setCell w1 ⟨w.heap.size + 1 + 1, 9, none⟩ (.slice A1 l.length c1)) ⟨w.heap.size + 1, 0, none⟩ (.int .i64 k)) ⟨w.heap.size + 1, 1, none⟩ (.int .i64 lv)) ⟨w.heap.size + 1, 2, none⟩ (.slice none 0 0)) ⟨w.heap.size + 1, 3, none⟩ (.int .i64 0)) ⟨w.heap.size + 1, 4, none⟩ (.string ⟨#[]⟩)) ⟨w.heap.size + 1, 5, none⟩ (.int .i64 0)) ⟨w.heap.size + 1, 6, none⟩ (.int .i64 0)) ⟨w.heap.size + 1, 7, none⟩ (.slice none 0 0)) ⟨w.heap.size + 1, 8, none⟩ (.int .i64 f)) ⟨w.heap.size + 1, 9, none⟩ (.slice A1 l.length c1)).heap.size A1 l) := by
    have h9 : (World.setCell (World.setCell (World.setCell (World.setCell (World.setCell (World.setCell (World.setCell (World.setCell (World.setCell (World.setCell (World.setCell w1 ⟨w.heap.size + 1 + 1, 9, none⟩ (.slice A1 l.length c1)) ⟨w.heap.size + 1, 0, none⟩ (.int .i64 k)) ⟨w.heap.size + 1, 1, none⟩ (.int .i64 lv)) ⟨w.heap.size + 1, 2, none⟩ (.slice none 0 0)) ⟨w.heap.size + 1, 3, none⟩ (.int .i64 0)) ⟨w.heap.size + 1, 4, none⟩ (.string ⟨#[]⟩)) ⟨w.heap.size + 1, 5, none⟩ (.int .i64 0)) ⟨w.heap.size + 1, 6, none⟩ (.int .i64 0)) ⟨w.heap.size + 1, 7, none⟩ (.slice none 0 0)) ⟨w.heap.size + 1, 8, none⟩ (.int .i64 f)) ⟨w.heap.size + 1, 9, none⟩ (.slice A1 l.length c1)).heap.size = w1.heap.size := (size_set10 _ _ _ _ _ _ _ _ _ _).trans (by simp)
    rw [h9]
    exact rd_set10 (rd_set S1.out (fun ad e => by have := HA1.out ad e; omega)) (fun ad e => by have := HA1.out ad e; omega) _ _ _ _ _ _ _ _ _ _
  have q0 := RR9.cell 0
  have q1 := RR9.cell 1
  have q2 := RR9.cell 2
  have q3 := RR9.cell 3
  have q4 := RR9.cell 4
  have q5 := RR9.cell 5
  have q6 := RR9.cell 6
  have q7 := RR9.cell 7
  have q8 := RR9.cell 8
  have q9 := RR9.cell 9
  simp only [List.getElem?_toArray, List.getElem?_cons_zero, List.getElem?_cons_succ] at q0 q1 q2 q3 q4 q5 q6 q7 q8 q9
  clear RR9
  generalize (World.setCell (World.setCell (World.setCell (World.setCell (World.setCell (World.setCell (World.setCell (World.setCell (World.setCell (World.setCell (World.setCell w1 ⟨w.heap.size + 1 + 1, 9, none⟩ (.slice A1 l.length c1)) ⟨w.heap.size + 1, 0, none⟩ (.int .i64 k)) ⟨w.heap.size + 1, 1, none⟩ (.int .i64 lv)) ⟨w.heap.size + 1, 2, none⟩ (.slice none 0 0)) ⟨w.heap.size + 1, 3, none⟩ (.int .i64 0)) ⟨w.heap.size + 1, 4, none⟩ (.string ⟨#[]⟩)) ⟨w.heap.size + 1, 5, none⟩ (.int .i64 0)) ⟨w.heap.size + 1, 6, none⟩ (.int .i64 0)) ⟨w.heap.size + 1, 7, none⟩ (.slice none 0 0)) ⟨w.heap.size + 1, 8, none⟩ (.int .i64 f)) ⟨w.heap.size + 1, 9, none⟩ (.slice A1 l.length c1)) = W9 at *
  refine bodyPost_ret (v := .agg #[.int .i64 k, .int .i64 lv, .slice none 0 0, .int .i64 0, .string ⟨#[]⟩, .int .i64 0, .int .i64 0, .slice none 0 0, .int .i64 f, .slice A1 l.length c1]) (by simp [results, Tryz.results69, go_sem, q0, q1, q2, q3, q4, q5, q6, q7, q8, q9]) rfl ?_
  exact ⟨⟨{ noSk k lv with fine := f, g := l }, none, 0, none, 0, A1, c1⟩, rfl, rfl, ⟨Rd.none_, Rd.none_, HSL.out⟩, HB9.out⟩
end Go.Proofs.YtoffmclbnobllaaGreatDoor

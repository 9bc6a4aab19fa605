/-
  clock.copied: a table in memory of its own.
-/
import Derived.Test.YtoffmclbnobllaaGreatDoorCkClock
namespace Go.Proofs.YtoffmclbnobllaaGreatDoor
open Go.RowKit
set_option linter.unusedVariables false
set_option linter.unusedSimpArgs false
theorem Tryz.infoSer : (Tryz.prog.info? 50).map (fun i => (i.zero, i.size, i.bytes)) = some (some (.agg #[.slice none 0 0, .int .i64 0, .int .i64 0, .slice none 0 0, .int .i64 0, .string ⟨#[]⟩, .int .i64 0, .int .i64 0, .slice none 0 0, .int .i64 0, .slice none 0 0, .int .u64 0]), 12, 168) := by kernel_rfl
/-- A list that is not empty lies not in block g. -/
def Ap (A : Option Addr) (xs : List Value) (g : Option Nat) : Prop := xs ≠ [] → ∀ ad, A = some ad → some ad.block ≠ g
/-- No slice of a series lies in block g. -/
def Apart (g : Option Nat) (m : SerM) : Prop := Ap m.la (flatL m.s.l) g ∧ Ap m.m.ea (m.m.s.e.map (Value.int .u64)) g ∧ Ap m.m.ca (m.m.s.c.map (Value.int .u64)) g ∧ Ap m.m.ga (Hi.flatB m.m.s.g) g
theorem ap_lt {w : World} {B : Nat} {A : Option Addr} {xs : List Value} {q : Nat} (h : Rd w B A xs) (hq : B ≤ q) : Ap A xs (some q) := fun hx ad e e2 => by
  obtain ⟨b, off, e3, hb, _⟩ := h hx
  rw [e] at e3
  cases e3
  have e4 : b = q := Option.some.inj e2
  omega
theorem SerOk.apart {w : World} {B q : Nat} {m : SerM} (h : SerOk w B m) (hq : B ≤ q) : Apart (some q) m := ⟨ap_lt h.l hq, ap_lt h.k.e hq, ap_lt h.k.c hq, ap_lt h.k.g hq⟩
/-- A table of the call's own. -/
structure OTab (w : World) (B : Nat) (v : Value) (cs : List SerM) : Prop where
  own : w.ownsRow B 50 12 v cs.length (tabC cs)
  ok : ∀ m ∈ cs, SerOk w w.heap.size m
  ap : ∀ m ∈ cs, Apart v.ownBlock m
theorem OTab.later {w w' : World} {B : Nat} {v : Value} {cs : List SerM} (h : OTab w B v cs) (hb : Below w.heap.size w w') : OTab w' B v cs := ⟨own_later h.own hb, fun m hm => (h.ok m hm).later hb, h.ap⟩
theorem rd_grown {w w' : World} {A : Option Addr} {xs : List Value} {row : Option Nat} (h : Rd w w.heap.size A xs) (hg : w.grownBy w' row) (hne : Ap A xs row) : Rd w' w'.heap.size A xs := fun hx => by
  obtain ⟨b, off, e, hb, hc⟩ := h hx
  exact ⟨b, off, e, Nat.lt_of_lt_of_le hb hg.size, fun j v hj => (World.cell?_of_block (hg.block b hb (hne hx _ e))).trans (hc j v hj)⟩
theorem SerOk.grown {w w' : World} {m : SerM} {row : Option Nat} (h : SerOk w w.heap.size m) (hg : w.grownBy w' row) (ha : Apart row m) : SerOk w' w'.heap.size m :=
  ⟨rd_grown h.l hg ha.1, rd_grown h.k.e hg ha.2.1, rd_grown h.k.c hg ha.2.2.1, rd_grown h.k.g hg ha.2.2.2⟩
theorem OTab.tab {w : World} {B n c : Nat} {A : Option Addr} {cs : List SerM} (h : OTab w B (.slice A n c) cs) : Tab w w.heap.size A cs := by
  obtain ⟨A', c', e, _, hr, _⟩ := own_rd h.own
  cases e
  exact ⟨hr, h.ok⟩
theorem own_n {w : World} {B n sz : Nat} {t : TypeId} {v : Value} {xs : List Value} (h : w.ownsRow B t sz v n xs) (g : Nat) (hg : v.ownBlock = some g) : B ≤ g ∧ g < w.heap.size := by
  obtain ⟨_, ⟨h, e⟩ | ⟨r, cap, cur, hv, hb, hh, _⟩⟩ := h
  · subst h; cases hg
  · subst hv; cases hg; exact ⟨hb, (Array.getElem?_eq_some_iff.1 hh).1⟩
theorem serC_one (m : SerM) : ∀ u ∈ serC m, u.oneCell' = true := fun u hu => by
  simp [serC, skC] at hu
  rcases hu with rfl | rfl | rfl | rfl | rfl | rfl | rfl | rfl | rfl | rfl | rfl | rfl <;> rfl
theorem serA_C (m : SerM) : serA m = (serC m).toArray := rfl
theorem Tryz.underlyingSers : True := trivial
theorem bset0 {w : World} {g : Nat} {t : TypeId} {a0 a1 a2 a3 a4 a5 a6 a7 a8 a9 a10 a11 u : Value} (h : Blk w g t #[a0, a1, a2, a3, a4, a5, a6, a7, a8, a9, a10, a11]) : Blk (w.setCell ⟨g, 0, none⟩ u) g t #[u, a1, a2, a3, a4, a5, a6, a7, a8, a9, a10, a11] := by
  have := h.set_ 0 u
  simpa using this
theorem bset3 {w : World} {g : Nat} {t : TypeId} {a0 a1 a2 a3 a4 a5 a6 a7 a8 a9 a10 a11 u : Value} (h : Blk w g t #[a0, a1, a2, a3, a4, a5, a6, a7, a8, a9, a10, a11]) : Blk (w.setCell ⟨g, 3, none⟩ u) g t #[a0, a1, a2, u, a4, a5, a6, a7, a8, a9, a10, a11] := by
  have := h.set_ 3 u
  simpa using this
theorem bset8 {w : World} {g : Nat} {t : TypeId} {a0 a1 a2 a3 a4 a5 a6 a7 a8 a9 a10 a11 u : Value} (h : Blk w g t #[a0, a1, a2, a3, a4, a5, a6, a7, a8, a9, a10, a11]) : Blk (w.setCell ⟨g, 8, none⟩ u) g t #[a0, a1, a2, a3, a4, a5, a6, a7, u, a9, a10, a11] := by
  have := h.set_ 8 u
  simpa using this
theorem bset10 {w : World} {g : Nat} {t : TypeId} {a0 a1 a2 a3 a4 a5 a6 a7 a8 a9 a10 a11 u : Value} (h : Blk w g t #[a0, a1, a2, a3, a4, a5, a6, a7, a8, a9, a10, a11]) : Blk (w.setCell ⟨g, 10, none⟩ u) g t #[a0, a1, a2, a3, a4, a5, a6, a7, a8, a9, u, a11] := by
  have := h.set_ 10 u
  simpa using this
theorem maps_take {ms : List SerM} {cs : List SerM} {m' : SerM} {k : Nat} (h : cs.map (·.s) = (ms.take k).map (·.s)) (hk : k < ms.length) (he : m'.s = ms[k].s) : (cs ++ [m']).map (·.s) = (ms.take (k + 1)).map (·.s) := by
  rw [List.map_append, h, List.take_succ_eq_append_getElem hk, List.map_append]
  simp [he]
theorem tabC_snoc (cs : List SerM) (m : SerM) : tabC (cs ++ [m]) = tabC cs ++ serC m := by simp [tabC]
theorem rd_box {w : World} {g : Nat} {t : TypeId} {m : SerM} (h : Blk w g t (serA m)) : Rd w (g + 1) (some ⟨g, 0, none⟩) (serC m) := fun _ =>
  ⟨g, 0, rfl, Nat.lt_succ_self _, fun j u hj => by rw [Nat.zero_add]; exact (h.cell j).trans (by rw [serA_C]; simpa using hj)⟩
theorem apart_new {b : Nat} {v : Option Nat} {m : SerM} (hl : ∀ ad, m.la = some ad → b ≤ ad.block) (he : ∀ ad, m.m.ea = some ad → b ≤ ad.block) (hc : ∀ ad, m.m.ca = some ad → b ≤ ad.block) (hg : ∀ ad, m.m.ga = some ad → b ≤ ad.block) (hv : ∀ q, v = some q → q < b) : Apart v m := by
  have go : ∀ (a : Option Addr) (xs : List Value), (∀ ad, a = some ad → b ≤ ad.block) → Ap a xs v := fun a xs h _ ad e1 e2 => by
    have := h ad e1; have := hv _ e2.symm; omega
  exact ⟨go _ _ hl, go _ _ he, go _ _ hc, go _ _ hg⟩
set_option maxRecDepth 100000 in
set_option maxHeartbeats 16000000 in
theorem copied_any (A : Option Addr) (ms : List SerM) (cap : Nat) (hl : ms.length ≤ 1000) (hf : ∀ m ∈ ms, SerFit m.s) (w : World) (hS : Tab w w.heap.size A ms) :
    Calls Tryz.prog 20 #[.slice A ms.length cap] w fun e w' => (∃ v cs, e = .returned v ∧ cs.map (·.s) = ms.map (·.s) ∧ OTab w' w.heap.size v cs) ∧ Below w.heap.size w w' := by
  have HS := Lib.hid hS
  have HF := Lib.hid hf
  obtain ⟨i0, hi0, hz0, hz1, hz2⟩ := info_parts Tryz.infoSer
  clear hS hf
  obtain ⟨W0, hmk, hown0, hg0⟩ := run_makeSlice_owned (P := Tryz.prog) w w.heap.size 22 50 i0 _ 12 Tryz.underlying22 hi0 hz0 hz1 .i64 .i64 ms.length (by omega) (by rw [hz2]; omega) (by unfold maxLen; omega) (Nat.le_refl _)
  have HB0 : Hid (Below w.heap.size w W0) := (Below.refl _ w).grown hg0 (Nat.le_refl _) (fun q e => by cases e)
  have HO0 := Lib.hid hown0
  clear hown0 hg0
  go_enter Tryz.func20, Tryz.ntmps20
  go_wp2_with fail
  clear hmk
  go_loopw [3, 11] (fun v i wr => ∃ (k : Nat) (cs : List SerM), i = .int .i64 (k : Int) ∧ k ≤ ms.length ∧ cs.length = k ∧ Hid (cs.map (·.s) = (ms.take k).map (·.s)) ∧ Hid (OTab wr w.heap.size v cs) ∧ Hid (Below w.heap.size w wr)) (fun _ i _ => ms.length - (RowKit.intOf i).toNat)
  case atStart => exact ⟨0, [], rfl, Nat.zero_le _, rfl, by show _ = _; simp, ⟨HO0.out, fun m hm => (by simp at hm), fun m hm => (by simp at hm)⟩, HB0.out⟩
  case round =>
    clear HB0 HO0
    obtain ⟨k, cs, rfl, hk, hcl, HE, HO, HB⟩ := hrel
    by_cases h1 : k < ms.length
    · have d1 : decide ((k : Int) < (ms.length : Int)) = true := decide_eq_true (by omega)
      obtain ⟨b, off, rfl, hb, hc⟩ := HS.out.at_ (by omega)
      obtain ⟨i0', i1, i2, i3, i4, i5, i6, i7, i8, i9, i10, i11⟩ := (hc k h1).below HB.out hb
      have hbw : b < wr.heap.size := by have := HB.out.size; omega
      have hi1 : (0 : Int) ≤ (k : Int) := by omega
      have hi2 : (k : Int) < (ms.length : Int) := by omega
      have HOK := Lib.hid ((HS.out.ok _ (List.getElem_mem h1)).later HB.out)
      have HFIT := Lib.hid (HF.out _ (List.getElem_mem h1))
      have HMAP : Hid (∀ m' : SerM, m'.s = ms[k].s → (cs ++ [m']).map (·.s) = (ms.take (k + 1)).map (·.s)) := fun m' he => maps_take HE.out h1 he
      have hww := HB.out.size
      clear hc HE
      generalize ms[k] = m at *
      go_wp2_with fail
      clear i0' i1 i2 i3 i4 i5 i6 i7 i8 i9 i10 i11
      have XB0 := Lib.hid (Blk.new wr 50 (serA m))
      have HW0 := Lib.hid (below_al (below_0 wr) (.cells (serA m) 50))
      have hsz0 : (wr.alloc (.cells (serA m) 50)).heap.size = wr.heap.size + 1 := by simp
      unfold serA at *
      generalize wr.alloc (.cells #[.slice m.la m.s.l.length m.lc, .int .i64 m.m.s.kind, .int .i64 m.m.s.level, .slice m.m.ea m.m.s.e.length m.m.ec, .int .i64 m.m.s.bits, .string m.m.s.regs, .int .i64 m.m.s.rows, .int .i64 m.m.s.cols, .slice m.m.ca m.m.s.c.length m.m.cc, .int .i64 m.m.s.fine, .slice m.m.ga m.m.s.g.length m.m.gc, .int .u64 m.s.seen] 50) = V0 at *
      have hge0 : wr.heap.size + 1 ≤ V0.heap.size := by omega
      clear hsz0
      refine (cloneL_any _ m.s.l _ (by have := HFIT.out.l; omega) V0 (HOK.out.later HW0.out).l).mono ?_
      rintro e w1 ⟨⟨A1, c1, rfl, hs1, ha1⟩, hb1⟩
      have XL := Lib.hid (XB0.out.later hb1)
      have x0 := XL.out.cell 0
      have x1 := XL.out.cell 1
      have x2 := XL.out.cell 2
      have x3 := XL.out.cell 3
      have x4 := XL.out.cell 4
      have x5 := XL.out.cell 5
      have x6 := XL.out.cell 6
      have x7 := XL.out.cell 7
      have x8 := XL.out.cell 8
      have x9 := XL.out.cell 9
      have x10 := XL.out.cell 10
      have x11 := XL.out.cell 11
      simp only [List.getElem?_toArray, List.getElem?_cons_zero, List.getElem?_cons_succ] at x0 x1 x2 x3 x4 x5 x6 x7 x8 x9 x10 x11
      have f0 := XL.out.frozen 0
      have f3 := XL.out.frozen 3
      have f8 := XL.out.frozen 8
      have f10 := XL.out.frozen 10
      go_wp2_with fail
      clear x0 x1 x2 x3 x4 x5 x6 x7 x8 x9 x10 x11 f0 f3 f8 f10
      have XB1 : Hid (Blk (World.setCell w1 ⟨wr.heap.size, 0, none⟩ (.slice A1 m.s.l.length c1)) wr.heap.size 50 #[.slice A1 m.s.l.length c1, .int .i64 m.m.s.kind, .int .i64 m.m.s.level, .slice m.m.ea m.m.s.e.length m.m.ec, .int .i64 m.m.s.bits, .string m.m.s.regs, .int .i64 m.m.s.rows, .int .i64 m.m.s.cols, .slice m.m.ca m.m.s.c.length m.m.cc, .int .i64 m.m.s.fine, .slice m.m.ga m.m.s.g.length m.m.gc, .int .u64 m.s.seen]) := bset0 XL.out
      have HW1 : Hid (Below wr.heap.size wr (World.setCell w1 ⟨wr.heap.size, 0, none⟩ (.slice A1 m.s.l.length c1))) := (HW0.out.trans (hb1.mono (by omega))).setCell (Nat.le_refl _) _
      have hge1 : wr.heap.size + 1 ≤ (World.setCell w1 ⟨wr.heap.size, 0, none⟩ (.slice A1 m.s.l.length c1)).heap.size := by have := hb1.size; simp; omega
      have T1 : Hid (Lb (World.setCell w1 ⟨wr.heap.size, 0, none⟩ (.slice A1 m.s.l.length c1)) (World.setCell w1 ⟨wr.heap.size, 0, none⟩ (.slice A1 m.s.l.length c1)).heap.size A1 m.s.l ∧ ∀ ad, A1 = some ad → wr.heap.size + 1 ≤ ad.block) := by
        have hq : ∀ ad, A1 = some ad → wr.heap.size + 1 ≤ ad.block := fun ad e => by have := ha1 ad e; omega
        refine ⟨?_, hq⟩
        have h9 : (World.setCell w1 ⟨wr.heap.size, 0, none⟩ (.slice A1 m.s.l.length c1)).heap.size = w1.heap.size := by simp
        rw [h9]
        exact rd_set hs1 (fun ad e => by have := hq ad e; omega)
      clear hs1 ha1 hb1 XB0 HW0 XL hge0
      generalize (World.setCell w1 ⟨wr.heap.size, 0, none⟩ (.slice A1 m.s.l.length c1)) = V1 at *
      refine (cloneU_any _ m.m.s.e _ (by have := HFIT.out.k.e; rw [← m.hk] at this; omega) V1 (HOK.out.later HW1.out).k.e).mono ?_
      rintro e w2 ⟨⟨A2, c2, rfl, hs2, ha2⟩, hb2⟩
      have XL := Lib.hid (XB1.out.later hb2)
      have x0 := XL.out.cell 0
      have x1 := XL.out.cell 1
      have x2 := XL.out.cell 2
      have x3 := XL.out.cell 3
      have x4 := XL.out.cell 4
      have x5 := XL.out.cell 5
      have x6 := XL.out.cell 6
      have x7 := XL.out.cell 7
      have x8 := XL.out.cell 8
      have x9 := XL.out.cell 9
      have x10 := XL.out.cell 10
      have x11 := XL.out.cell 11
      simp only [List.getElem?_toArray, List.getElem?_cons_zero, List.getElem?_cons_succ] at x0 x1 x2 x3 x4 x5 x6 x7 x8 x9 x10 x11
      have f0 := XL.out.frozen 0
      have f3 := XL.out.frozen 3
      have f8 := XL.out.frozen 8
      have f10 := XL.out.frozen 10
      go_wp2_with fail
      clear x0 x1 x2 x3 x4 x5 x6 x7 x8 x9 x10 x11 f0 f3 f8 f10
      have XB2 : Hid (Blk (World.setCell w2 ⟨wr.heap.size, 3, none⟩ (.slice A2 m.m.s.e.length c2)) wr.heap.size 50 #[.slice A1 m.s.l.length c1, .int .i64 m.m.s.kind, .int .i64 m.m.s.level, .slice A2 m.m.s.e.length c2, .int .i64 m.m.s.bits, .string m.m.s.regs, .int .i64 m.m.s.rows, .int .i64 m.m.s.cols, .slice m.m.ca m.m.s.c.length m.m.cc, .int .i64 m.m.s.fine, .slice m.m.ga m.m.s.g.length m.m.gc, .int .u64 m.s.seen]) := bset3 XL.out
      have HW2 : Hid (Below wr.heap.size wr (World.setCell w2 ⟨wr.heap.size, 3, none⟩ (.slice A2 m.m.s.e.length c2))) := (HW1.out.trans (hb2.mono (by omega))).setCell (Nat.le_refl _) _
      have hge2 : wr.heap.size + 1 ≤ (World.setCell w2 ⟨wr.heap.size, 3, none⟩ (.slice A2 m.m.s.e.length c2)).heap.size := by have := hb2.size; simp; omega
      have T2 : Hid (Sl (World.setCell w2 ⟨wr.heap.size, 3, none⟩ (.slice A2 m.m.s.e.length c2)) (World.setCell w2 ⟨wr.heap.size, 3, none⟩ (.slice A2 m.m.s.e.length c2)).heap.size A2 m.m.s.e ∧ ∀ ad, A2 = some ad → wr.heap.size + 1 ≤ ad.block) := by
        have hq : ∀ ad, A2 = some ad → wr.heap.size + 1 ≤ ad.block := fun ad e => by have := ha2 ad e; omega
        refine ⟨?_, hq⟩
        have h9 : (World.setCell w2 ⟨wr.heap.size, 3, none⟩ (.slice A2 m.m.s.e.length c2)).heap.size = w2.heap.size := by simp
        rw [h9]
        exact rd_set hs2 (fun ad e => by have := hq ad e; omega)
      replace T1 : Hid (Lb (World.setCell w2 ⟨wr.heap.size, 3, none⟩ (.slice A2 m.m.s.e.length c2)) (World.setCell w2 ⟨wr.heap.size, 3, none⟩ (.slice A2 m.m.s.e.length c2)).heap.size A1 m.s.l ∧ ∀ ad, A1 = some ad → wr.heap.size + 1 ≤ ad.block) := by
        refine ⟨?_, T1.out.2⟩
        have h9 : (World.setCell w2 ⟨wr.heap.size, 3, none⟩ (.slice A2 m.m.s.e.length c2)).heap.size = w2.heap.size := by simp
        rw [h9]
        exact rd_set ((Rd.below T1.out.1 hb2).more hb2.size) (fun ad e => by have := T1.out.2 ad e; omega)
      clear hs2 ha2 hb2 XB1 HW1 XL hge1
      generalize (World.setCell w2 ⟨wr.heap.size, 3, none⟩ (.slice A2 m.m.s.e.length c2)) = V2 at *
      refine (cloneU_any _ m.m.s.c _ (by have := HFIT.out.k.c; rw [← m.hk] at this; omega) V2 (HOK.out.later HW2.out).k.c).mono ?_
      rintro e w3 ⟨⟨A3, c3, rfl, hs3, ha3⟩, hb3⟩
      have XL := Lib.hid (XB2.out.later hb3)
      have x0 := XL.out.cell 0
      have x1 := XL.out.cell 1
      have x2 := XL.out.cell 2
      have x3 := XL.out.cell 3
      have x4 := XL.out.cell 4
      have x5 := XL.out.cell 5
      have x6 := XL.out.cell 6
      have x7 := XL.out.cell 7
      have x8 := XL.out.cell 8
      have x9 := XL.out.cell 9
      have x10 := XL.out.cell 10
      have x11 := XL.out.cell 11
      simp only [List.getElem?_toArray, List.getElem?_cons_zero, List.getElem?_cons_succ] at x0 x1 x2 x3 x4 x5 x6 x7 x8 x9 x10 x11
      have f0 := XL.out.frozen 0
      have f3 := XL.out.frozen 3
      have f8 := XL.out.frozen 8
      have f10 := XL.out.frozen 10
      go_wp2_with fail
      clear x0 x1 x2 x3 x4 x5 x6 x7 x8 x9 x10 x11 f0 f3 f8 f10
      have XB3 : Hid (Blk (World.setCell w3 ⟨wr.heap.size, 8, none⟩ (.slice A3 m.m.s.c.length c3)) wr.heap.size 50 #[.slice A1 m.s.l.length c1, .int .i64 m.m.s.kind, .int .i64 m.m.s.level, .slice A2 m.m.s.e.length c2, .int .i64 m.m.s.bits, .string m.m.s.regs, .int .i64 m.m.s.rows, .int .i64 m.m.s.cols, .slice A3 m.m.s.c.length c3, .int .i64 m.m.s.fine, .slice m.m.ga m.m.s.g.length m.m.gc, .int .u64 m.s.seen]) := bset8 XL.out
      have HW3 : Hid (Below wr.heap.size wr (World.setCell w3 ⟨wr.heap.size, 8, none⟩ (.slice A3 m.m.s.c.length c3))) := (HW2.out.trans (hb3.mono (by omega))).setCell (Nat.le_refl _) _
      have hge3 : wr.heap.size + 1 ≤ (World.setCell w3 ⟨wr.heap.size, 8, none⟩ (.slice A3 m.m.s.c.length c3)).heap.size := by have := hb3.size; simp; omega
      have T3 : Hid (Sl (World.setCell w3 ⟨wr.heap.size, 8, none⟩ (.slice A3 m.m.s.c.length c3)) (World.setCell w3 ⟨wr.heap.size, 8, none⟩ (.slice A3 m.m.s.c.length c3)).heap.size A3 m.m.s.c ∧ ∀ ad, A3 = some ad → wr.heap.size + 1 ≤ ad.block) := by
        have hq : ∀ ad, A3 = some ad → wr.heap.size + 1 ≤ ad.block := fun ad e => by have := ha3 ad e; omega
        refine ⟨?_, hq⟩
        have h9 : (World.setCell w3 ⟨wr.heap.size, 8, none⟩ (.slice A3 m.m.s.c.length c3)).heap.size = w3.heap.size := by simp
        rw [h9]
        exact rd_set hs3 (fun ad e => by have := hq ad e; omega)
      replace T1 : Hid (Lb (World.setCell w3 ⟨wr.heap.size, 8, none⟩ (.slice A3 m.m.s.c.length c3)) (World.setCell w3 ⟨wr.heap.size, 8, none⟩ (.slice A3 m.m.s.c.length c3)).heap.size A1 m.s.l ∧ ∀ ad, A1 = some ad → wr.heap.size + 1 ≤ ad.block) := by
        refine ⟨?_, T1.out.2⟩
        have h9 : (World.setCell w3 ⟨wr.heap.size, 8, none⟩ (.slice A3 m.m.s.c.length c3)).heap.size = w3.heap.size := by simp
        rw [h9]
        exact rd_set ((Rd.below T1.out.1 hb3).more hb3.size) (fun ad e => by have := T1.out.2 ad e; omega)
      replace T2 : Hid (Sl (World.setCell w3 ⟨wr.heap.size, 8, none⟩ (.slice A3 m.m.s.c.length c3)) (World.setCell w3 ⟨wr.heap.size, 8, none⟩ (.slice A3 m.m.s.c.length c3)).heap.size A2 m.m.s.e ∧ ∀ ad, A2 = some ad → wr.heap.size + 1 ≤ ad.block) := by
        refine ⟨?_, T2.out.2⟩
        have h9 : (World.setCell w3 ⟨wr.heap.size, 8, none⟩ (.slice A3 m.m.s.c.length c3)).heap.size = w3.heap.size := by simp
        rw [h9]
        exact rd_set ((Rd.below T2.out.1 hb3).more hb3.size) (fun ad e => by have := T2.out.2 ad e; omega)
      clear hs3 ha3 hb3 XB2 HW2 XL hge2
      generalize (World.setCell w3 ⟨wr.heap.size, 8, none⟩ (.slice A3 m.m.s.c.length c3)) = V3 at *
      refine (cloneB_any _ m.m.s.g _ (by have := HFIT.out.k.g; rw [← m.hk] at this; omega) V3 (HOK.out.later HW3.out).k.g).mono ?_
      rintro e w4 ⟨⟨A4, c4, rfl, hs4, ha4⟩, hb4⟩
      have XL := Lib.hid (XB3.out.later hb4)
      have x0 := XL.out.cell 0
      have x1 := XL.out.cell 1
      have x2 := XL.out.cell 2
      have x3 := XL.out.cell 3
      have x4 := XL.out.cell 4
      have x5 := XL.out.cell 5
      have x6 := XL.out.cell 6
      have x7 := XL.out.cell 7
      have x8 := XL.out.cell 8
      have x9 := XL.out.cell 9
      have x10 := XL.out.cell 10
      have x11 := XL.out.cell 11
      simp only [List.getElem?_toArray, List.getElem?_cons_zero, List.getElem?_cons_succ] at x0 x1 x2 x3 x4 x5 x6 x7 x8 x9 x10 x11
      have f0 := XL.out.frozen 0
      have f3 := XL.out.frozen 3
      have f8 := XL.out.frozen 8
      have f10 := XL.out.frozen 10
      have XB4 : Hid (Blk (World.setCell w4 ⟨wr.heap.size, 10, none⟩ (.slice A4 m.m.s.g.length c4)) wr.heap.size 50 #[.slice A1 m.s.l.length c1, .int .i64 m.m.s.kind, .int .i64 m.m.s.level, .slice A2 m.m.s.e.length c2, .int .i64 m.m.s.bits, .string m.m.s.regs, .int .i64 m.m.s.rows, .int .i64 m.m.s.cols, .slice A3 m.m.s.c.length c3, .int .i64 m.m.s.fine, .slice A4 m.m.s.g.length c4, .int .u64 m.s.seen]) := bset10 XL.out
      have HW4 : Hid (Below wr.heap.size wr (World.setCell w4 ⟨wr.heap.size, 10, none⟩ (.slice A4 m.m.s.g.length c4))) := (HW3.out.trans (hb4.mono (by omega))).setCell (Nat.le_refl _) _
      have hge4 : wr.heap.size + 1 ≤ (World.setCell w4 ⟨wr.heap.size, 10, none⟩ (.slice A4 m.m.s.g.length c4)).heap.size := by have := hb4.size; simp; omega
      have T4 : Hid (Hi.Sb (World.setCell w4 ⟨wr.heap.size, 10, none⟩ (.slice A4 m.m.s.g.length c4)) (World.setCell w4 ⟨wr.heap.size, 10, none⟩ (.slice A4 m.m.s.g.length c4)).heap.size A4 m.m.s.g ∧ ∀ ad, A4 = some ad → wr.heap.size + 1 ≤ ad.block) := by
        have hq : ∀ ad, A4 = some ad → wr.heap.size + 1 ≤ ad.block := fun ad e => by have := ha4 ad e; omega
        refine ⟨?_, hq⟩
        have h9 : (World.setCell w4 ⟨wr.heap.size, 10, none⟩ (.slice A4 m.m.s.g.length c4)).heap.size = w4.heap.size := by simp
        rw [h9]
        exact rd_set hs4 (fun ad e => by have := hq ad e; omega)
      replace T1 : Hid (Lb (World.setCell w4 ⟨wr.heap.size, 10, none⟩ (.slice A4 m.m.s.g.length c4)) (World.setCell w4 ⟨wr.heap.size, 10, none⟩ (.slice A4 m.m.s.g.length c4)).heap.size A1 m.s.l ∧ ∀ ad, A1 = some ad → wr.heap.size + 1 ≤ ad.block) := by
        refine ⟨?_, T1.out.2⟩
        have h9 : (World.setCell w4 ⟨wr.heap.size, 10, none⟩ (.slice A4 m.m.s.g.length c4)).heap.size = w4.heap.size := by simp
        rw [h9]
        exact rd_set ((Rd.below T1.out.1 hb4).more hb4.size) (fun ad e => by have := T1.out.2 ad e; omega)
      replace T2 : Hid (Sl (World.setCell w4 ⟨wr.heap.size, 10, none⟩ (.slice A4 m.m.s.g.length c4)) (World.setCell w4 ⟨wr.heap.size, 10, none⟩ (.slice A4 m.m.s.g.length c4)).heap.size A2 m.m.s.e ∧ ∀ ad, A2 = some ad → wr.heap.size + 1 ≤ ad.block) := by
        refine ⟨?_, T2.out.2⟩
        have h9 : (World.setCell w4 ⟨wr.heap.size, 10, none⟩ (.slice A4 m.m.s.g.length c4)).heap.size = w4.heap.size := by simp
        rw [h9]
        exact rd_set ((Rd.below T2.out.1 hb4).more hb4.size) (fun ad e => by have := T2.out.2 ad e; omega)
      replace T3 : Hid (Sl (World.setCell w4 ⟨wr.heap.size, 10, none⟩ (.slice A4 m.m.s.g.length c4)) (World.setCell w4 ⟨wr.heap.size, 10, none⟩ (.slice A4 m.m.s.g.length c4)).heap.size A3 m.m.s.c ∧ ∀ ad, A3 = some ad → wr.heap.size + 1 ≤ ad.block) := by
        refine ⟨?_, T3.out.2⟩
        have h9 : (World.setCell w4 ⟨wr.heap.size, 10, none⟩ (.slice A4 m.m.s.g.length c4)).heap.size = w4.heap.size := by simp
        rw [h9]
        exact rd_set ((Rd.below T3.out.1 hb4).more hb4.size) (fun ad e => by have := T3.out.2 ad e; omega)
      clear hs4 ha4 hb4 XB3 HW3 XL hge3
      have hNs : (World.setCell w4 ⟨wr.heap.size, 10, none⟩ (.slice A4 m.m.s.g.length c4)).heap.size = w4.heap.size := by simp
      have BX : Blk (World.alloc (World.setCell w4 ⟨wr.heap.size, 10, none⟩ (.slice A4 m.m.s.g.length c4)) (.cells (serA (⟨m.s, ⟨m.m.s, A2, c2, A3, c3, A4, c4⟩, A1, c1, m.hk⟩ : SerM)) 50)) w4.heap.size 50 (serA (⟨m.s, ⟨m.m.s, A2, c2, A3, c3, A4, c4⟩, A1, c1, m.hk⟩ : SerM)) := by
        have := Blk.new (World.setCell w4 ⟨wr.heap.size, 10, none⟩ (.slice A4 m.m.s.g.length c4)) 50 (serA (⟨m.s, ⟨m.m.s, A2, c2, A3, c3, A4, c4⟩, A1, c1, m.hk⟩ : SerM))
        rw [hNs] at this; exact this
      have HO5 := Lib.hid (HO.out.later HW4.out)
      have HBW : Hid (Below w.heap.size w (World.setCell w4 ⟨wr.heap.size, 10, none⟩ (.slice A4 m.m.s.g.length c4))) := HB.out.trans (HW4.out.mono HB.out.size)
      have HBA : Hid (Below w.heap.size w (World.alloc (World.setCell w4 ⟨wr.heap.size, 10, none⟩ (.slice A4 m.m.s.g.length c4)) (.cells (serA (⟨m.s, ⟨m.m.s, A2, c2, A3, c3, A4, c4⟩, A1, c1, m.hk⟩ : SerM)) 50))) := below_al HBW.out _
      have SOK : Hid (SerOk (World.alloc (World.setCell w4 ⟨wr.heap.size, 10, none⟩ (.slice A4 m.m.s.g.length c4)) (.cells (serA (⟨m.s, ⟨m.m.s, A2, c2, A3, c3, A4, c4⟩, A1, c1, m.hk⟩ : SerM)) 50)) (World.alloc (World.setCell w4 ⟨wr.heap.size, 10, none⟩ (.slice A4 m.m.s.g.length c4)) (.cells (serA (⟨m.s, ⟨m.m.s, A2, c2, A3, c3, A4, c4⟩, A1, c1, m.hk⟩ : SerM)) 50)).heap.size (⟨m.s, ⟨m.m.s, A2, c2, A3, c3, A4, c4⟩, A1, c1, m.hk⟩ : SerM)) := SerOk.later ⟨T1.out.1, T2.out.1, T3.out.1, T4.out.1⟩ (below_al (below_0 _) _)
      have hAs : (World.alloc (World.setCell w4 ⟨wr.heap.size, 10, none⟩ (.slice A4 m.m.s.g.length c4)) (.cells (serA (⟨m.s, ⟨m.m.s, A2, c2, A3, c3, A4, c4⟩, A1, c1, m.hk⟩ : SerM)) 50)).heap.size = w4.heap.size + 1 := by simp
      have SAP : Hid (∀ v : Option Nat, (∀ q, v = some q → q < wr.heap.size + 1) → Apart v (⟨m.s, ⟨m.m.s, A2, c2, A3, c3, A4, c4⟩, A1, c1, m.hk⟩ : SerM)) := fun v hv => apart_new T1.out.2 T2.out.2 T3.out.2 T4.out.2 hv
      have hlt4 : wr.heap.size + 1 ≤ w4.heap.size := by omega
      have HOWN := Lib.hid (fun q e => own_n HO.out.own q e)
      clear T1 T2 T3 T4 XB4 HW4 HOK HFIT
      have rdN := rd_box BX
      have hcs : cs.length ≤ 1000 := by omega
      go_wp2_with (at_builtin; refine wpList_append_rd _ rfl (.tmp 43) (.tmp 45) 22 rfl w.heap.size 50 i0 _ 12 168 Tryz.underlying22 hi0 hz0 hz1 hz2 rfl (by decide) _ cs.length _ rfl (HO5.out.own.alloc _) (w4.heap.size + 1) (some ⟨w4.heap.size, 0, none⟩) 1 1 (serC (⟨m.s, ⟨m.m.s, A2, c2, A3, c3, A4, c4⟩, A1, c1, m.hk⟩ : SerM)) rfl (by rw [serC_len]) rdN (serC_one _) (by unfold maxLen; omega) (by omega) (by simp; omega) ?_; intro v' W6 hown6 hg6 hv6)
      have HO6 : Hid (OTab W6 w.heap.size v' (cs ++ [(⟨m.s, ⟨m.m.s, A2, c2, A3, c3, A4, c4⟩, A1, c1, m.hk⟩ : SerM)])) := by
        refine ⟨by rw [List.length_append, tabC_snoc]; exact hown6, fun m0 hm0 => ?_, fun m0 hm0 => ?_⟩
        · rcases List.mem_append.1 hm0 with h | h
          · exact (((HO5.out.later (below_al (below_0 _) _)).ok m0 h).grown hg6 (HO5.out.ap m0 h))
          · simp at h; subst h
            exact SOK.out.grown hg6 (SAP.out _ (fun q e => by have := HOWN.out q e; omega))
        · rcases hv6 with e | e
          · rw [e]
            rcases List.mem_append.1 hm0 with h | h
            · exact HO5.out.ap m0 h
            · simp at h; subst h
              exact SAP.out _ (fun q e => by have := HOWN.out q e; omega)
          · rw [e]
            rcases List.mem_append.1 hm0 with h | h
            · exact ((HO5.out.later (below_al (below_0 _) _)).ok m0 h).apart (Nat.le_refl _)
            · simp at h; subst h
              exact SOK.out.apart (Nat.le_refl _)
      have HB6 : Hid (Below w.heap.size w W6) := HBA.out.grown hg6 HBA.out.size (fun q e => (HOWN.out q e).1)
      have HM6 := Lib.hid (HMAP.out (⟨m.s, ⟨m.m.s, A2, c2, A3, c3, A4, c4⟩, A1, c1, m.hk⟩ : SerM) rfl)
      clear hown6 hg6 hv6 HO5 HBW HBA SOK SAP HOWN rdN BX HO HB HMAP
      go_wp2_with fail
      go_roundw
      case rel => exact ⟨k + 1, _, by go_num, by omega, by rw [List.length_append, List.length_singleton]; omega, HM6.out, HO6.out, HB6.out⟩
      case measure => simp [RowKit.intOf]; omega
    · have hkk : k = ms.length := by omega
      subst hkk
      have d1 : decide ((ms.length : Int) < (ms.length : Int)) = false := by simp
      rw [List.take_length] at HE
      go_wp2_with fail
      go_ret
      exact ⟨⟨_, rfl, cs, HE.out, HO.out⟩, HB.out⟩
end Go.Proofs.YtoffmclbnobllaaGreatDoor

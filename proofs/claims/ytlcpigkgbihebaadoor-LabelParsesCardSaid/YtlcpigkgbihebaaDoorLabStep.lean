/-
  The reader's steps: plain, equals, quote.
-/
import Derived.Test.YtlcpigkgbihebaaDoorLabReader
namespace Go.Proofs.YtlcpigkgbihebaaDoor
open Go.RowKit
set_option linter.unusedVariables false
set_option linter.unusedSimpArgs false
/-- What a step comes to: a reader, or an error. -/
def RPost (B g m : Nat) (w : World) (r : Option RS) (e : Ending) (w' : World) : Prop :=
  Below B w w' ∧ Lib.OthersKept 41 (some g) w w' ∧ (match r with
    | some s' => e = .returned .nilIface ∧ RdAt B g m s' w'
    | none => (∃ t, e = .returned (.iface 64 (.agg #[.string t]))) ∧ ∃ s', RdAt B g m s' w')
theorem RPost.err {B g m : Nat} {s : RS} {w w' : World} {t : ByteArray} (h1 : Below B w w') (h2 : Lib.OthersKept 41 (some g) w w') (h : RdAt B g m s w') : RPost B g m w none (.returned (.iface 64 (.agg #[.string t]))) w' := ⟨h1, h2, ⟨t, rfl⟩, s, h⟩
theorem RPost.ok {B g m : Nat} {s : RS} {w w' : World} (h1 : Below B w w') (h2 : Lib.OthersKept 41 (some g) w w') (h : RdAt B g m s w') : RPost B g m w (some s) (.returned .nilIface) w' := ⟨h1, h2, rfl, h⟩
theorem RPost.chain {B g m : Nat} {w0 w w' : World} {r : Option RS} {e : Ending} (h : RPost B g m w r e w') (h1 : Below B w0 w) (h2 : Lib.OthersKept 41 (some g) w0 w) : RPost B g m w0 r e w' := ⟨h1.trans h.1, h2.trans h.2.1, h.2.2⟩
theorem own_set {W : World} {B g n o : Nat} {v u : Value} {xs : List Value} {cs : Array Value} (h : W.ownsRow B 41 2 v n xs) (hb : Blk W g 71 cs) : (W.setCell ⟨g, o, none⟩ u).ownsRow B 41 2 v n xs := by
  obtain ⟨hl, h | ⟨r, cap, cur, hv, hbr, hh, h1, h2, h3, h4⟩⟩ := h
  · exact ⟨hl, .inl h⟩
  · refine ⟨hl, .inr ⟨r, cap, cur, hv, hbr, (Below.heap_setCell W ⟨g, o, none⟩ u r ?_).trans hh, h1, h2, h3, h4⟩⟩
    rintro rfl
    rw [show W.heap[r]? = _ from hb] at hh
    injection hh with hh
    injection hh with _ hh
    exact absurd hh (by decide)
theorem map_ne {W : World} {g m : Nat} {es : Array MapEntry} {c : Nat} {t : TypeId} {cs : Array Value} (hm : W.heap[m]? = some (.map es c)) (hb : Blk W g t cs) : m ≠ g := by
  rintro rfl
  rw [show W.heap[m]? = _ from hb] at hm
  cases hm
theorem RdAt.set {B g m i : Nat} {s s' : RS} {W : World} {u : Value} (h : RdAt B g m s W) (hl : s'.l = s.l)
    (he : ∀ lv, (#[.string s.nm, .string s.vl, .int .i64 s.place, .int .i64 s.runes, lv, .map (some m)] : Array Value).setIfInBounds i u = #[.string s'.nm, .string s'.vl, .int .i64 s'.place, .int .i64 s'.runes, lv, .map (some m)]) :
    RdAt B g m s' (W.setCell ⟨g, i, none⟩ u) := by
  obtain ⟨hB, hBm, hm, lv, hb, ho⟩ := h
  refine ⟨hB, hBm, (Below.heap_setCell W ⟨g, i, none⟩ u m (map_ne hm hb)).trans hm, lv, ?_, by rw [hl]; exact own_set ho hb⟩
  have := hb.set_ i u
  rw [he lv] at this
  exact this
theorem RdAt.fr {B g m : Nat} {s : RS} {w W : World} (h : RdAt B g m s W) (h1 : Below B w W) (h2 : Lib.OthersKept 41 (some g) w W) (i : Nat) (u : Value) : Below B w (W.setCell ⟨g, i, none⟩ u) ∧ Lib.OthersKept 41 (some g) w (W.setCell ⟨g, i, none⟩ u) :=
  ⟨h1.setCell h.1 _, h2.setCell _ rfl _⟩
def encR (d : Nat × Nat) : ByteArray := Utf8.encode (d.1 : Int)
def plainF (s : RS) (d : Nat × Nat) : Option RS :=
  if s.place = 0 then (if nameRune d = true ∧ s.nm.size < 12 then some { s with nm := s.nm ++ encR d } else none)
  else (if valueRune d = true ∧ s.runes < 24 then some { s with vl := s.vl ++ encR d, runes := s.runes + 1 } else none)
def equalsF (s : RS) (d : Nat × Nat) : Option RS := if s.place = 1 then plainF s d else if tx s.nm = [] then none else some { s with place := 1 }
def quoteF (s : RS) : Option RS := if s.place = 0 then none else some { s with place := 2 }
/-- What is always so of a reader. -/
structure RS.Ok (s : RS) : Prop where
  nm : s.nm.size ≤ 12
  vl : (s.vl.size : Int) ≤ 4 * s.runes
  r0 : 0 ≤ s.runes
  r24 : s.runes ≤ 24
  l : s.l.length ≤ 6
set_option maxRecDepth 100000 in
set_option maxHeartbeats 800000 in
theorem plain_n1 (B g m : Nat) (s : RS) (d : Nat × Nat) (hd : d.1 ≤ 1114111) (w : World) (h : RdAt B g m s w) (hk : s.Ok) (hp : s.place = 0) (hn : nameRune d = true) (hl : s.nm.size < 12) :
    Calls Tryd.prog 62 #[.pointer (some ⟨g, 0, none⟩), .int .i32 d.1] w (RPost B g m w (some { s with nm := s.nm ++ encR d })) := by
  obtain ⟨nm, vl, place, runes, l⟩ := s
  obtain ⟨k1, k2, k3, k4, k5⟩ := hk
  simp only at k1 k2 k3 k4 k5 hp hl
  have hr := h
  obtain ⟨hB, hBm, hm, lv, hb, ho⟩ := h
  simp only at hb ho
  have c0 := hb.cell 0
  have c1 := hb.cell 1
  have c2 := hb.cell 2
  have c3 := hb.cell 3
  simp only [List.getElem?_toArray, List.getElem?_cons_zero, List.getElem?_cons_succ] at c0 c1 c2 c3
  have f0 := hb.frozen 0
  have f1 := hb.frozen 1
  have f2 := hb.frozen 2
  have f3 := hb.frozen 3
  have HR := Lib.hid hr
  clear hm ho hb hr
  subst hp
  obtain ⟨x, hx⟩ : ∃ x, Utf8.encode (d.1 : Int) = x := ⟨_, rfl⟩
  have hx4 : x.size ≤ 4 := by rw [← hx]; exact encode_size_le _
  have hadd : Op.stringOp .add nm x = pure (.string (nm ++ x)) := by
    rw [Op.stringOp, if_neg]
    show ¬ ((nm.size + x.size : Nat) : Int) > 9223372036854775807
    omega
  have hl1 : ((nm.size : Int) == 12) = false := by rw [beq_eq_false_iff_ne]; omega
  have hl2 : (nm.size == 12) = false := by rw [beq_eq_false_iff_ne]; omega
  have HE : Hid (encR d = x) := hx
  go_enter Tryd.func62, Tryd.ntmps62
  go_wp2_with fail
  refine (isNameRune_any d _ hd).mono ?_
  rintro e w1 ⟨rfl, rfl⟩
  rw [hn]
  go_wp2_with fail
  go_ret
  have hf := HR.out.fr (Below.refl _ _) (Lib.OthersKept.refl _ _ _) 0 (.string (nm ++ x))
  exact RPost.ok hf.1 hf.2 (HR.out.set rfl (fun lv => by rw [HE.out]; rfl))
set_option maxRecDepth 100000 in
set_option maxHeartbeats 800000 in
theorem plain_n2 (B g m : Nat) (s : RS) (d : Nat × Nat) (hd : d.1 ≤ 1114111) (w : World) (h : RdAt B g m s w) (hk : s.Ok) (hp : s.place = 0) (hn : nameRune d = false) :
    Calls Tryd.prog 62 #[.pointer (some ⟨g, 0, none⟩), .int .i32 d.1] w (RPost B g m w none) := by
  obtain ⟨nm, vl, place, runes, l⟩ := s
  obtain ⟨k1, k2, k3, k4, k5⟩ := hk
  simp only at k1 k2 k3 k4 k5 hp
  have hr := h
  obtain ⟨hB, hBm, hm, lv, hb, ho⟩ := h
  simp only at hb ho
  have c0 := hb.cell 0
  have c1 := hb.cell 1
  have c2 := hb.cell 2
  have c3 := hb.cell 3
  simp only [List.getElem?_toArray, List.getElem?_cons_zero, List.getElem?_cons_succ] at c0 c1 c2 c3
  have f0 := hb.frozen 0
  have f1 := hb.frozen 1
  have f2 := hb.frozen 2
  have f3 := hb.frozen 3
  have HR := Lib.hid hr
  clear hm ho hb hr
  subst hp
  go_enter Tryd.func62, Tryd.ntmps62
  go_wp2_with fail
  refine (isNameRune_any d _ hd).mono ?_
  rintro e w1 ⟨rfl, rfl⟩
  rw [hn]
  go_wp2_with fail
  go_ret
  exact RPost.err (Below.refl _ _) (Lib.OthersKept.refl _ _ _) HR.out
set_option maxRecDepth 100000 in
set_option maxHeartbeats 800000 in
theorem plain_n3 (B g m : Nat) (s : RS) (d : Nat × Nat) (hd : d.1 ≤ 1114111) (w : World) (h : RdAt B g m s w) (hk : s.Ok) (hp : s.place = 0) (hn : nameRune d = true) (hl : ¬ s.nm.size < 12) :
    Calls Tryd.prog 62 #[.pointer (some ⟨g, 0, none⟩), .int .i32 d.1] w (RPost B g m w none) := by
  obtain ⟨nm, vl, place, runes, l⟩ := s
  obtain ⟨k1, k2, k3, k4, k5⟩ := hk
  simp only at k1 k2 k3 k4 k5 hp hl
  have hr := h
  obtain ⟨hB, hBm, hm, lv, hb, ho⟩ := h
  simp only at hb ho
  have c0 := hb.cell 0
  have c1 := hb.cell 1
  have c2 := hb.cell 2
  have c3 := hb.cell 3
  simp only [List.getElem?_toArray, List.getElem?_cons_zero, List.getElem?_cons_succ] at c0 c1 c2 c3
  have f0 := hb.frozen 0
  have f1 := hb.frozen 1
  have f2 := hb.frozen 2
  have f3 := hb.frozen 3
  have HR := Lib.hid hr
  clear hm ho hb hr
  subst hp
  have hl1 : ((nm.size : Int) == 12) = true := by rw [beq_iff_eq]; omega
  have hl2 : (nm.size == 12) = true := by rw [beq_iff_eq]; omega
  go_enter Tryd.func62, Tryd.ntmps62
  go_wp2_with fail
  refine (isNameRune_any d _ hd).mono ?_
  rintro e w1 ⟨rfl, rfl⟩
  rw [hn]
  go_wp2_with fail
  go_ret
  exact RPost.err (Below.refl _ _) (Lib.OthersKept.refl _ _ _) HR.out
set_option maxRecDepth 100000 in
set_option maxHeartbeats 800000 in
theorem plain_v1 (B g m : Nat) (s : RS) (d : Nat × Nat) (hd : d.1 ≤ 1114111) (w : World) (h : RdAt B g m s w) (hk : s.Ok) (hp : ¬ s.place = 0) (hn : valueRune d = true) (hl : s.runes < 24) :
    Calls Tryd.prog 62 #[.pointer (some ⟨g, 0, none⟩), .int .i32 d.1] w (RPost B g m w (some { s with vl := s.vl ++ encR d, runes := s.runes + 1 })) := by
  obtain ⟨nm, vl, place, runes, l⟩ := s
  obtain ⟨k1, k2, k3, k4, k5⟩ := hk
  simp only at k1 k2 k3 k4 k5 hp hl
  have hr := h
  obtain ⟨hB, hBm, hm, lv, hb, ho⟩ := h
  simp only at hb ho
  have c0 := hb.cell 0
  have c1 := hb.cell 1
  have c2 := hb.cell 2
  have c3 := hb.cell 3
  simp only [List.getElem?_toArray, List.getElem?_cons_zero, List.getElem?_cons_succ] at c0 c1 c2 c3
  have f0 := hb.frozen 0
  have f1 := hb.frozen 1
  have f2 := hb.frozen 2
  have f3 := hb.frozen 3
  have HR := Lib.hid hr
  clear hm ho hb hr
  have hp1 : (place == 0) = false := by rw [beq_eq_false_iff_ne]; exact hp
  obtain ⟨x, hx⟩ : ∃ x, Utf8.encode (d.1 : Int) = x := ⟨_, rfl⟩
  have hx4 : x.size ≤ 4 := by rw [← hx]; exact encode_size_le _
  have hadd : Op.stringOp .add vl x = pure (.string (vl ++ x)) := by
    rw [Op.stringOp, if_neg]
    show ¬ ((vl.size + x.size : Nat) : Int) > 9223372036854775807
    omega
  have hl1 : (runes == 24) = false := by rw [beq_eq_false_iff_ne]; omega
  have HE : Hid (encR d = x) := hx
  go_enter Tryd.func62, Tryd.ntmps62
  go_wp2_with fail
  refine (isValueRune_any d _ hd).mono ?_
  rintro e w1 ⟨rfl, rfl⟩
  rw [hn]
  go_wp2_with fail
  go_ret
  have hf := HR.out.fr (Below.refl _ _) (Lib.OthersKept.refl _ _ _) 1 (.string (vl ++ x))
  have hr2 : RdAt B g m ⟨nm, vl ++ encR d, place, runes, l⟩ _ := HR.out.set rfl (i := 1) (u := .string (vl ++ x)) (fun lv => by rw [HE.out]; rfl)
  have hf2 := hr2.fr hf.1 hf.2 3 (.int .i64 (runes + 1))
  exact RPost.ok hf2.1 hf2.2 (hr2.set rfl (fun lv => rfl))
set_option maxRecDepth 100000 in
set_option maxHeartbeats 800000 in
theorem plain_v2 (B g m : Nat) (s : RS) (d : Nat × Nat) (hd : d.1 ≤ 1114111) (w : World) (h : RdAt B g m s w) (hk : s.Ok) (hp : ¬ s.place = 0) (hn : valueRune d = false) :
    Calls Tryd.prog 62 #[.pointer (some ⟨g, 0, none⟩), .int .i32 d.1] w (RPost B g m w none) := by
  obtain ⟨nm, vl, place, runes, l⟩ := s
  obtain ⟨k1, k2, k3, k4, k5⟩ := hk
  simp only at k1 k2 k3 k4 k5 hp
  have hr := h
  obtain ⟨hB, hBm, hm, lv, hb, ho⟩ := h
  simp only at hb ho
  have c0 := hb.cell 0
  have c1 := hb.cell 1
  have c2 := hb.cell 2
  have c3 := hb.cell 3
  simp only [List.getElem?_toArray, List.getElem?_cons_zero, List.getElem?_cons_succ] at c0 c1 c2 c3
  have f0 := hb.frozen 0
  have f1 := hb.frozen 1
  have f2 := hb.frozen 2
  have f3 := hb.frozen 3
  have HR := Lib.hid hr
  clear hm ho hb hr
  have hp1 : (place == 0) = false := by rw [beq_eq_false_iff_ne]; exact hp
  go_enter Tryd.func62, Tryd.ntmps62
  go_wp2_with fail
  refine (isValueRune_any d _ hd).mono ?_
  rintro e w1 ⟨rfl, rfl⟩
  rw [hn]
  go_wp2_with fail
  go_ret
  exact RPost.err (Below.refl _ _) (Lib.OthersKept.refl _ _ _) HR.out
set_option maxRecDepth 100000 in
set_option maxHeartbeats 800000 in
theorem plain_v3 (B g m : Nat) (s : RS) (d : Nat × Nat) (hd : d.1 ≤ 1114111) (w : World) (h : RdAt B g m s w) (hk : s.Ok) (hp : ¬ s.place = 0) (hn : valueRune d = true) (hl : ¬ s.runes < 24) :
    Calls Tryd.prog 62 #[.pointer (some ⟨g, 0, none⟩), .int .i32 d.1] w (RPost B g m w none) := by
  obtain ⟨nm, vl, place, runes, l⟩ := s
  obtain ⟨k1, k2, k3, k4, k5⟩ := hk
  simp only at k1 k2 k3 k4 k5 hp hl
  have hr := h
  obtain ⟨hB, hBm, hm, lv, hb, ho⟩ := h
  simp only at hb ho
  have c0 := hb.cell 0
  have c1 := hb.cell 1
  have c2 := hb.cell 2
  have c3 := hb.cell 3
  simp only [List.getElem?_toArray, List.getElem?_cons_zero, List.getElem?_cons_succ] at c0 c1 c2 c3
  have f0 := hb.frozen 0
  have f1 := hb.frozen 1
  have f2 := hb.frozen 2
  have f3 := hb.frozen 3
  have HR := Lib.hid hr
  clear hm ho hb hr
  have hp1 : (place == 0) = false := by rw [beq_eq_false_iff_ne]; exact hp
  have hl1 : (runes == 24) = true := by rw [beq_iff_eq]; omega
  go_enter Tryd.func62, Tryd.ntmps62
  go_wp2_with fail
  refine (isValueRune_any d _ hd).mono ?_
  rintro e w1 ⟨rfl, rfl⟩
  rw [hn]
  go_wp2_with fail
  go_ret
  exact RPost.err (Below.refl _ _) (Lib.OthersKept.refl _ _ _) HR.out
theorem plain_any (B g m : Nat) (s : RS) (d : Nat × Nat) (hd : d.1 ≤ 1114111) (w : World) (h : RdAt B g m s w) (hk : s.Ok) :
    Calls Tryd.prog 62 #[.pointer (some ⟨g, 0, none⟩), .int .i32 d.1] w (RPost B g m w (plainF s d)) := by
  unfold plainF
  by_cases hp : s.place = 0
  · rw [if_pos hp]
    by_cases hc : nameRune d = true ∧ s.nm.size < 12
    · rw [if_pos hc]; exact plain_n1 B g m s d hd w h hk hp hc.1 hc.2
    · rw [if_neg hc]
      cases hn : nameRune d with
      | false => exact plain_n2 B g m s d hd w h hk hp hn
      | true => exact plain_n3 B g m s d hd w h hk hp hn (fun e => hc ⟨hn, e⟩)
  · rw [if_neg hp]
    by_cases hc : valueRune d = true ∧ s.runes < 24
    · rw [if_pos hc]; exact plain_v1 B g m s d hd w h hk hp hc.1 hc.2
    · rw [if_neg hc]
      cases hn : valueRune d with
      | false => exact plain_v2 B g m s d hd w h hk hp hn
      | true => exact plain_v3 B g m s d hd w h hk hp hn (fun e => hc ⟨hn, e⟩)
set_option maxRecDepth 100000 in
set_option maxHeartbeats 800000 in
theorem equals_1 (B g m : Nat) (s : RS) (d : Nat × Nat) (hd : d.1 ≤ 1114111) (w : World) (h : RdAt B g m s w) (hk : s.Ok) (hp : s.place = 1) :
    Calls Tryd.prog 59 #[.pointer (some ⟨g, 0, none⟩), .int .i32 d.1] w (RPost B g m w (plainF s d)) := by
  have QP := Lib.hid (plain_any B g m s d hd w h hk)
  have hp' := Lib.hid hp
  obtain ⟨nm, vl, place, runes, l⟩ := s
  obtain ⟨k1, k2, k3, k4, k5⟩ := hk
  simp only at k1 k2 k3 k4 k5 hp
  have hr := h
  obtain ⟨hB, hBm, hm, lv, hb, ho⟩ := h
  simp only at hb ho
  have c0 := hb.cell 0
  have c1 := hb.cell 1
  have c2 := hb.cell 2
  have c3 := hb.cell 3
  simp only [List.getElem?_toArray, List.getElem?_cons_zero, List.getElem?_cons_succ] at c0 c1 c2 c3
  have f0 := hb.frozen 0
  have f1 := hb.frozen 1
  have f2 := hb.frozen 2
  have f3 := hb.frozen 3
  have HR := Lib.hid hr
  clear hm ho hb hr
  subst hp
  go_enter Tryd.func59, Tryd.ntmps59
  go_wp2_with fail
  refine QP.out.mono ?_
  rintro e w1 h1
  obtain ⟨v, hv⟩ : ∃ v, e = .returned v := by
    obtain ⟨_, _, h3⟩ := h1
    split at h3
    · exact ⟨_, h3.1⟩
    · obtain ⟨⟨t, ht⟩, _⟩ := h3; exact ⟨_, ht⟩
  subst hv
  go_wp2_with fail
  go_ret
  exact h1
set_option maxRecDepth 100000 in
set_option maxHeartbeats 800000 in
theorem equals_2 (B g m : Nat) (s : RS) (d : Nat × Nat) (hd : d.1 ≤ 1114111) (w : World) (h : RdAt B g m s w) (hk : s.Ok) (hp : ¬ s.place = 1) (he : tx s.nm = []) :
    Calls Tryd.prog 59 #[.pointer (some ⟨g, 0, none⟩), .int .i32 d.1] w (RPost B g m w none) := by
  obtain ⟨nm, vl, place, runes, l⟩ := s
  obtain ⟨k1, k2, k3, k4, k5⟩ := hk
  simp only at k1 k2 k3 k4 k5 hp he
  have hr := h
  obtain ⟨hB, hBm, hm, lv, hb, ho⟩ := h
  simp only at hb ho
  have c0 := hb.cell 0
  have c1 := hb.cell 1
  have c2 := hb.cell 2
  have c3 := hb.cell 3
  simp only [List.getElem?_toArray, List.getElem?_cons_zero, List.getElem?_cons_succ] at c0 c1 c2 c3
  have f0 := hb.frozen 0
  have f1 := hb.frozen 1
  have f2 := hb.frozen 2
  have f3 := hb.frozen 3
  have HR := Lib.hid hr
  clear hm ho hb hr
  have hp1 : (place == 1) = false := by rw [beq_eq_false_iff_ne]; exact hp
  have e1 : (nm.toList == []) = true := by rw [tx_toList, he]; rfl
  have e2 : nm.toList = [] := by rw [tx_toList, he]
  go_enter Tryd.func59, Tryd.ntmps59
  go_wp2_with fail
  go_ret
  exact RPost.err (Below.refl _ _) (Lib.OthersKept.refl _ _ _) HR.out
set_option maxRecDepth 100000 in
set_option maxHeartbeats 800000 in
theorem equals_3 (B g m : Nat) (s : RS) (d : Nat × Nat) (hd : d.1 ≤ 1114111) (w : World) (h : RdAt B g m s w) (hk : s.Ok) (hp : ¬ s.place = 1) (he : ¬ tx s.nm = []) :
    Calls Tryd.prog 59 #[.pointer (some ⟨g, 0, none⟩), .int .i32 d.1] w (RPost B g m w (some { s with place := 1 })) := by
  obtain ⟨nm, vl, place, runes, l⟩ := s
  obtain ⟨k1, k2, k3, k4, k5⟩ := hk
  simp only at k1 k2 k3 k4 k5 hp he
  have hr := h
  obtain ⟨hB, hBm, hm, lv, hb, ho⟩ := h
  simp only at hb ho
  have c0 := hb.cell 0
  have c1 := hb.cell 1
  have c2 := hb.cell 2
  have c3 := hb.cell 3
  simp only [List.getElem?_toArray, List.getElem?_cons_zero, List.getElem?_cons_succ] at c0 c1 c2 c3
  have f0 := hb.frozen 0
  have f1 := hb.frozen 1
  have f2 := hb.frozen 2
  have f3 := hb.frozen 3
  have HR := Lib.hid hr
  clear hm ho hb hr
  have hp1 : (place == 1) = false := by rw [beq_eq_false_iff_ne]; exact hp
  have e1' : ¬ nm.toList = [] := by rw [tx_toList]; exact he
  have e1'' : (nm.toList == []) = false := by simpa using e1'
  have e1 : nm.toList.isEmpty = false := by rw [tx_toList]; cases e : tx nm with
    | nil => exact absurd e he
    | cons x l => rfl
  go_enter Tryd.func59, Tryd.ntmps59
  go_wp2_with fail
  go_ret
  have hf := HR.out.fr (Below.refl _ _) (Lib.OthersKept.refl _ _ _) 2 (.int .i64 1)
  exact RPost.ok hf.1 hf.2 (HR.out.set rfl (fun lv => rfl))
theorem equals_any (B g m : Nat) (s : RS) (d : Nat × Nat) (hd : d.1 ≤ 1114111) (w : World) (h : RdAt B g m s w) (hk : s.Ok) :
    Calls Tryd.prog 59 #[.pointer (some ⟨g, 0, none⟩), .int .i32 d.1] w (RPost B g m w (equalsF s d)) := by
  unfold equalsF
  by_cases hp : s.place = 1
  · rw [if_pos hp]; exact equals_1 B g m s d hd w h hk hp
  · rw [if_neg hp]
    by_cases he : tx s.nm = []
    · rw [if_pos he]; exact equals_2 B g m s d hd w h hk hp he
    · rw [if_neg he]; exact equals_3 B g m s d hd w h hk hp he
set_option maxRecDepth 100000 in
set_option maxHeartbeats 800000 in
theorem quote_1 (B g m : Nat) (s : RS) (c : Int) (w : World) (h : RdAt B g m s w) (hk : s.Ok) (hp : s.place = 0) :
    Calls Tryd.prog 61 #[.pointer (some ⟨g, 0, none⟩), .int .i32 c] w (RPost B g m w none) := by
  obtain ⟨nm, vl, place, runes, l⟩ := s
  obtain ⟨k1, k2, k3, k4, k5⟩ := hk
  simp only at k1 k2 k3 k4 k5 hp
  have hr := h
  obtain ⟨hB, hBm, hm, lv, hb, ho⟩ := h
  simp only at hb ho
  have c0 := hb.cell 0
  have c1 := hb.cell 1
  have c2 := hb.cell 2
  have c3 := hb.cell 3
  simp only [List.getElem?_toArray, List.getElem?_cons_zero, List.getElem?_cons_succ] at c0 c1 c2 c3
  have f0 := hb.frozen 0
  have f1 := hb.frozen 1
  have f2 := hb.frozen 2
  have f3 := hb.frozen 3
  have HR := Lib.hid hr
  clear hm ho hb hr
  subst hp
  go_enter Tryd.func61, Tryd.ntmps61
  go_wp2_with fail
  go_ret
  exact RPost.err (Below.refl _ _) (Lib.OthersKept.refl _ _ _) HR.out
set_option maxRecDepth 100000 in
set_option maxHeartbeats 800000 in
theorem quote_2 (B g m : Nat) (s : RS) (c : Int) (w : World) (h : RdAt B g m s w) (hk : s.Ok) (hp : ¬ s.place = 0) :
    Calls Tryd.prog 61 #[.pointer (some ⟨g, 0, none⟩), .int .i32 c] w (RPost B g m w (some { s with place := 2 })) := by
  obtain ⟨nm, vl, place, runes, l⟩ := s
  obtain ⟨k1, k2, k3, k4, k5⟩ := hk
  simp only at k1 k2 k3 k4 k5 hp
  have hr := h
  obtain ⟨hB, hBm, hm, lv, hb, ho⟩ := h
  simp only at hb ho
  have c0 := hb.cell 0
  have c1 := hb.cell 1
  have c2 := hb.cell 2
  have c3 := hb.cell 3
  simp only [List.getElem?_toArray, List.getElem?_cons_zero, List.getElem?_cons_succ] at c0 c1 c2 c3
  have f0 := hb.frozen 0
  have f1 := hb.frozen 1
  have f2 := hb.frozen 2
  have f3 := hb.frozen 3
  have HR := Lib.hid hr
  clear hm ho hb hr
  have hp1 : (place == 0) = false := by rw [beq_eq_false_iff_ne]; exact hp
  go_enter Tryd.func61, Tryd.ntmps61
  go_wp2_with fail
  go_ret
  have hf := HR.out.fr (Below.refl _ _) (Lib.OthersKept.refl _ _ _) 2 (.int .i64 2)
  exact RPost.ok hf.1 hf.2 (HR.out.set rfl (fun lv => rfl))
theorem quote_any (B g m : Nat) (s : RS) (c : Int) (w : World) (h : RdAt B g m s w) (hk : s.Ok) :
    Calls Tryd.prog 61 #[.pointer (some ⟨g, 0, none⟩), .int .i32 c] w (RPost B g m w (quoteF s)) := by
  unfold quoteF
  by_cases hp : s.place = 0
  · rw [if_pos hp]; exact quote_1 B g m s c w h hk hp
  · rw [if_neg hp]; exact quote_2 B g m s c w h hk hp
end Go.Proofs.YtlcpigkgbihebaaDoor

/-
  What package hll hands back: begin, Of, New, Add.
-/
import Derived.Test.YtgbanhjjieagnaaHllRight2
import Derived.Test.YtgbanhjjieagnaaHllAdd
namespace Go.Proofs.Ytgbanhjjieagnaa
open Go.RowKit
set_option linter.unusedVariables false
set_option linter.unusedSimpArgs false
/-- Registers, with an error's number. -/
structure Hr where
  b : Int
  l : List Nat
  e : Int
def badH : Hr := ⟨0, [], 70⟩
abbrev hV (b : Int) (l : List Nat) : Value := .agg #[.int .i64 b, .string (bs l)]
/-- What such a function hands back. -/
def HRes (w : World) (r : Hr) (e : Ending) (w' : World) : Prop := e = .returned (.tuple #[hV r.b r.l, .int .i64 r.e]) ∧ Below w.heap.size w w'
def ofH (b : Int) (ns : List Int) : Hr := if bitsB b = true then ⟨b, addAll b.toNat (List.replicate (2 ^ b.toNat) 0) ns, 0⟩ else badH
def addH (b : Int) (l : List Nat) (n : Nat) : Hr := if rightF b l = true then ⟨b, addF b.toNat l n, 0⟩ else badH
theorem bs_nil : bs [] = ⟨#[]⟩ := rfl
/-- All ranks are at most 65 - B. -/
def Ranks (B : Nat) (l : List Nat) : Prop := ∀ x ∈ l, x ≤ 65 - B
theorem Ranks.bytes {B : Nat} {l : List Nat} (h : Ranks B l) : Bytes l := fun x hx => by have := h x hx; omega
theorem Ranks.set {B : Nat} {l : List Nat} (h : Ranks B l) (p : Nat) {v : Nat} (hv : v ≤ 65 - B) : Ranks B (l.set p v) := fun x hx => by
  rcases List.mem_or_eq_of_mem_set hx with h1 | h1
  · exact h x h1
  · rw [h1]; exact hv
theorem Ranks.byt {B : Nat} {l : List Nat} (h : Ranks B l) (p : Nat) : byt l p ≤ 65 - B := by
  rcases Nat.lt_or_ge p l.length with hp | hp
  · exact h _ (byt_mem hp)
  · have : Ytgbanhjjieagnaa.byt l p = 0 := by simp [Ytgbanhjjieagnaa.byt, hp]
    omega
theorem Ranks.tell {B : Nat} {l : List Nat} (h : Ranks B l) (p : Nat) {r : Nat} (hr : r ≤ 65 - B) : Ranks B (tellF l p r) := h.set p (by have := h.byt p; omega)
theorem Ranks.add {B : Nat} {l : List Nat} (h : Ranks B l) (h3 : 3 ≤ B) (h8 : B ≤ 8) (n : Nat) : Ranks B (addF B l n) := h.tell _ (rank_bd h3 h8 n).2
theorem Ranks.addAll {B : Nat} {l : List Nat} (h : Ranks B l) (h3 : 3 ≤ B) (h8 : B ≤ 8) (ns : List Int) : Ranks B (addAll B l ns) := by
  induction ns generalizing l with
  | nil => exact h
  | cons n ns ih => exact ih (h.add h3 h8 _)
theorem ranks_zero (B n : Nat) : Ranks B (List.replicate n 0) := fun x hx => by rw [List.eq_of_mem_replicate hx]; omega
/-- What begin hands back. -/
def BeginRes (w : World) (b : Int) (l : List Nat) (e : Ending) (w' : World) : Prop :=
  Below w.heap.size w w' ∧ ((rightF b l = true ∧ ∃ g cap, w.heap.size ≤ g ∧ e = .returned (.tuple #[.agg (workV b (bs l) g l.length cap), .nilIface]) ∧ By w' g l) ∨
    (rightF b l = false ∧ ∃ s, e = .returned (.tuple #[workZ, errV s])))
theorem Blk.two {w : World} {g : Nat} {t : TypeId} {a b : Value} (h : Blk w g t #[a, b]) : w.cell? ⟨g, 0, none⟩ = some a ∧ w.cell? ⟨g, 1, none⟩ = some b ∧ w.frozen? ⟨g, 0, none⟩ = false ∧ w.frozen? ⟨g, 1, none⟩ = false := ⟨h.cell 0, h.cell 1, h.frozen 0, h.frozen 1⟩
theorem Blk.four {w : World} {g : Nat} {t : TypeId} {a b c d : Value} (h : Blk w g t #[a, b, c, d]) : w.cell? ⟨g, 0, none⟩ = some a ∧ w.cell? ⟨g, 1, none⟩ = some b ∧ w.cell? ⟨g, 2, none⟩ = some c ∧ w.cell? ⟨g, 3, none⟩ = some d := ⟨h.cell 0, h.cell 1, h.cell 2, h.cell 3⟩
theorem run_bytes_by {P : Program} (w : World) (src dst e : TypeId) (l : List Nat) (hl : Bytes l) (hs : P.underlying src = some .string) (hd : P.underlying dst = some (.slice e)) (he : P.underlying e = some (.int .u8)) :
    ∃ cap w', (convert src dst (.string (bs l))).run P w = .ok (.slice (some ⟨w.heap.size, 0, none⟩) l.length cap) w' ∧ By w' w.heap.size l ∧ Below w.heap.size w w' ∧ w'.heap.size = w.heap.size + 1 := by
  have h := run_bytes_of_string (P := P) w src dst e (bs l) hs hd he
  have hc := grownCap_ge w (bs l).size 0 e
  generalize grownCap w (bs l).size 0 e = cap at *
  rw [bs_size] at h hc
  refine ⟨_, _, h, ?_, ((Below.refl _ _).drew).alloc (Nat.le_refl _) _, by simp⟩
  have hh : (w.drew.alloc (.cells (bytesRow (bs l) cap) e ((bytesRow (bs l) cap).size, (bytesRow (bs l) cap).size + 1))).heap[w.heap.size]? = some (.cells (bytesRow (bs l) cap) e ((bytesRow (bs l) cap).size, (bytesRow (bs l) cap).size + 1)) := World.alloc_heap_new w.drew _
  have hsz : (bytesRow (bs l) cap).size = cap := by
    have := bs_size l
    simp [bytesRow, bs, ByteArray.size] at this ⊢
    omega
  refine ⟨heap_lt hh, fun j hj => ?_, fun j hj => ?_⟩
  · have hjd : j < (bs l).data.size := by simp [bs]; exact hj
    have hat := bs_at hl (k := j) (by rw [bs_size]; exact hj)
    unfold World.cell?
    simp only [hh]
    have := bytesRow_at (bs l) cap j hjd
    rw [this]
    exact congrArg (fun n : Nat => some (Value.int .u8 (n : Int))) hat
  · unfold World.frozen?
    simp only [hh]
    simp
    omega
theorem By.far {w : World} {g : Nat} {l : List Nat} (h : By w g l) {b o : Nat} (u : Value) (hne : g ≠ b) : By (w.setCell ⟨b, o, none⟩ u) g l :=
  h.keep (by simp [World.setCell]) (Below.heap_setCell w ⟨b, o, none⟩ u g hne)
theorem begin_any (b : Int) (l : List Nat) (hL : Bytes l) (w : World) : Calls Try.prog 33 #[hV b l] w (BeginRes w b l) := by
  cases hs : rightF b l with
  | false =>
    have H := Lib.hid hs
    clear hs
    go_enter Try.func33, Try.ntmps33
    go_wp2_with fail
    refine (right_any b l hL _).mono ?_
    rintro e w' ⟨rfl, hb⟩
    rw [H.out]
    obtain ⟨hc, hf⟩ := bcell hb
    have hz : w.heap.size + 1 < w'.heap.size := by have := hb.size; simp at this; omega
    go_wp2_with fail
    refine bodyPost_ret (v := .tuple #[workZ, errV _]) (by simp [results, Try.results33, go_sem, hc, hz]; rfl) rfl ?_
    exact ⟨((((below_old (below_old hb)).setCell (by show w.heap.size ≤ w.heap.size + 1; omega) _).setCell (by show w.heap.size ≤ w.heap.size + 1; omega) _).setCell (by show w.heap.size ≤ w.heap.size + 1; omega) _).setCell (by show w.heap.size ≤ w.heap.size + 1; omega) _, .inr ⟨H.out, _, rfl⟩⟩
  | true =>
    have H := Lib.hid hs
    clear hs
    go_enter Try.func33, Try.ntmps33
    go_wp2_with fail
    refine (right_any b l hL _).mono ?_
    rintro e w' ⟨rfl, hb⟩
    rw [H.out]
    obtain ⟨hc, hf⟩ := bcell hb
    obtain ⟨cap, w2, hcv, hB, hb2, hz2⟩ := run_bytes_by (P := Try.prog) w' 9 46 5 l hL Try.underlying9 Try.underlying46 Try.underlying5
    obtain ⟨hc2, hf2⟩ := bcell hb2
    have hz : w.heap.size + 1 < w'.heap.size := by have := hb.size; simp at this; omega
    have HB := Lib.hid hB
    clear hB hz2
    go_wp2_with fail
    refine bodyPost_ret (v := .tuple #[.agg (workV b (bs l) w'.heap.size l.length cap), .nilIface]) (by simp [results, Try.results33, go_sem, hc, hz, hc2]) rfl ?_
    refine ⟨((((Below.two (below_old (below_old hb)) hb2).setCell (by show w.heap.size ≤ w.heap.size + 1; omega) _).setCell (by show w.heap.size ≤ w.heap.size + 1; omega) _).setCell (by show w.heap.size ≤ w.heap.size + 1; omega) _).setCell (by show w.heap.size ≤ w.heap.size + 1; omega) _, .inl ⟨H.out, w'.heap.size, cap, by omega, rfl, ?_⟩⟩
    exact (((HB.out.far _ (by omega)).far _ (by omega)).far _ (by omega)).far _ (by omega)
theorem sl_far {w : World} {A : Option Addr} {ns : List Int} {g : Nat} (h : Sl w w.heap.size A ns) (hg : w.heap.size ≤ g) : ns ≠ [] → ∀ ad, A = some ad → ad.block ≠ g := fun hn ad e => by
  obtain ⟨b, off, e', hb, _⟩ := h (by simpa using hn)
  rw [e] at e'
  cases e'
  show b ≠ g
  omega
theorem wadd_any (B g n cap capn : Nat) (s : ByteArray) (A : Option Addr) (l : List Nat) (ns : List Int) (hB : 3 ≤ B) (hB8 : B ≤ 8) (hl : l.length = 2 ^ B) (hln : l.length = n) (hU : Us ns) (hn : ns.length ≤ 65536) (w : World) (hS : Sl w w.heap.size A ns) (hne : ns ≠ [] → ∀ ad, A = some ad → ad.block ≠ g) (h : By w g l) :
    Calls Try.prog 31 #[.agg (workV B s g n cap), .slice A ns.length capn] w fun e w' => (∃ v, e = .returned v) ∧ By w' g (addAll B l ns) ∧ w.grownBy w' (some g) := by
  subst hln
  exact callsIn_wide.1 (wadd_in B g cap capn s A l ns hB hB8 hl hU hn w hS hne h)
theorem done_n (b : Int) (s : ByteArray) (g n cap : Nat) (l : List Nat) (hl : l.length = n) (w : World) (hB : Bytes l) (h : By w g l) :
    Calls Try.prog 32 #[.agg (workV b s g n cap)] w fun e w' => e = .returned (.agg #[.int .i64 b, .string (bs l)]) ∧ Below w.heap.size w w' := by
  subst hl
  exact done_any b s g cap l w hB h
theorem of_any (b : Int) (A : Option Addr) (ns : List Int) (capn : Nat) (hU : Us ns) (hn : ns.length ≤ 65536) (w : World) (hS : Sl w w.heap.size A ns) :
    Calls Try.prog 12 #[.int .i64 b, .slice A ns.length capn] w (HRes w (ofH b ns)) := by
  go_enter Try.func12, Try.ntmps12
  go_wp2_with fail
  refine (blank_any b _).mono ?_
  rintro e w1 ⟨hb, ⟨hbits, g, hg, rfl, hBy⟩ | ⟨hbits, s, rfl⟩⟩
  · obtain ⟨B, rfl, b1, b2⟩ := bits_nat hbits
    have HR : Hid (ofH B ns = ⟨B, addAll B (List.replicate (2 ^ B) 0) ns, 0⟩) := by show ofH B ns = _; rw [ofH, if_pos hbits, Int.toNat_natCast]
    have hz : w.heap.size < w1.heap.size := by have := hb.size; simp at this; omega
    have hg' : w.heap.size < g := by simp at hg; omega
    rw [Int.toNat_natCast] at hBy ⊢
    have Z1 := (Blk.new w 23 #[.int .i64 0, .string ⟨#[]⟩]).later hb
    have HBy := Lib.hid hBy
    have HB := Lib.hid (below_old hb)
    have HZ := Lib.hid Z1
    have HS := Lib.hid (hS.later (below_old hb))
    have z1 := hBy.lt
    clear hbits hBy hb Z1
    go_wp2_with fail
    refine (wadd_any B g (2 ^ B) (2 ^ B) capn ⟨#[]⟩ A (List.replicate (2 ^ B) 0) ns b1 b2 (by simp) (by simp) hU hn _ ((HS.out.alloc (Nat.le_refl _) _).more (by simp)) (sl_far hS (by omega)) (HBy.out.alloc _)).mono ?_
    rintro e w2 ⟨⟨v, rfl⟩, hB2, hg2⟩
    have hl2 : (addAll B (List.replicate (2 ^ B) 0) ns).length = 2 ^ B := by rw [length_addAll, List.length_replicate]
    have hby2 : Bytes (addAll B (List.replicate (2 ^ B) 0) ns) := ((ranks_zero B _).addAll b1 b2 ns).bytes
    have hX : Blk w2 w1.heap.size 49 (workV B ⟨#[]⟩ g (2 ^ B) (2 ^ B)) := (Blk.new w1 _ _).grown hg2 (fun e => by injection e with e; omega)
    obtain ⟨c0, c1, c2, c3⟩ := hX.four
    have hb2 : Below w.heap.size w w2 := (below_al HB.out _).grown hg2 (by simp; omega) (fun k e => by cases e; omega)
    have hZ2 := (HZ.out.alloc (.cells (workV B ⟨#[]⟩ g (2 ^ B) (2 ^ B)) 49)).grown hg2 (fun e => by injection e with e; omega)
    have HB2 := Lib.hid hB2
    have HL2 := Lib.hid hl2
    have HBY2 := Lib.hid hby2
    have HBL := Lib.hid hb2
    have HZ2 := Lib.hid hZ2
    clear hB2 hl2 hby2 hb2 hZ2 hX hg2 HBy HB HZ HS
    generalize addAll B (List.replicate (2 ^ B) 0) ns = L at *
    go_wp2_with fail
    refine (done_n B ⟨#[]⟩ g (2 ^ B) (2 ^ B) L HL2.out w2 HBY2.out HB2.out).mono ?_
    rintro e w3 ⟨rfl, hb3⟩
    have hZ3 := HZ2.out.later hb3
    obtain ⟨y0, y1, f0, f1⟩ := hZ3.two
    go_wp2_with fail
    refine bodyPost_ret (v := .tuple #[hV B L, .int .i64 0]) (by simp [results, Try.results12, go_sem, y0, y1]) rfl ⟨by rw [HR.out], ?_⟩
    exact ((HBL.out.trans (hb3.mono HBL.out.size)).setCell (Nat.le_refl _) _).setCell (Nat.le_refl _) _
  · have HR : Hid (ofH b ns = badH) := by show ofH b ns = _; rw [ofH, if_neg (by simp [hbits])]
    have hz : w.heap.size < w1.heap.size := by have := hb.size; simp at this; omega
    have hZ := (Blk.new w 23 #[.int .i64 0, .string ⟨#[]⟩]).later hb
    have HB := Lib.hid (below_old hb)
    obtain ⟨y0, y1, f0, f1⟩ := hZ.two
    clear hbits hb hZ
    go_wp2_with fail
    refine (errno_err s _).mono ?_
    rintro e w2 ⟨rfl, rfl⟩
    go_wp2_with fail
    refine bodyPost_ret (v := .tuple #[hV 0 [], .int .i64 70]) (by simp [results, Try.results12, go_sem, y0, y1, bs_nil, hz]) rfl ⟨by rw [HR.out]; rfl, ?_⟩
    exact below_al (below_al ((HB.out.setCell (Nat.le_refl _) _).setCell (Nat.le_refl _) _) _) _
theorem new_any (b : Int) (w : World) : Calls Try.prog 19 #[.int .i64 b] w (HRes w (ofH b [])) := by
  go_enter Try.func19, Try.ntmps19
  go_wp2_with fail
  refine (of_any b none [] 0 (fun x hx => by cases hx) (by simp) _ Sl.nil).mono ?_
  rintro e w1 ⟨rfl, hb⟩
  have hz : w.heap.size < w1.heap.size := by have := hb.size; simp at this; omega
  have hZ := (Blk.new w 23 #[.int .i64 0, .string ⟨#[]⟩]).later hb
  have HB := Lib.hid (below_old hb)
  obtain ⟨y0, y1, f0, f1⟩ := hZ.two
  clear hb hZ
  go_wp2_with fail
  refine bodyPost_ret (v := .tuple #[hV (ofH b []).b (ofH b []).l, .int .i64 (ofH b []).e]) (by simp [results, Try.results19, go_sem, y0, y1, hz]) rfl ⟨rfl, ?_⟩
  exact (HB.out.setCell (Nat.le_refl _) _).setCell (Nat.le_refl _) _
set_option maxHeartbeats 1000000 in
theorem add_any (b : Int) (l : List Nat) (hL : Bytes l) (n : Nat) (hn : n < 18446744073709551616) (w : World) :
    Calls Try.prog 15 #[hV b l, .int .u64 n] w (HRes w (addH b l n)) := by
  go_enter Try.func15, Try.ntmps15
  go_wp2_with fail
  refine (begin_any b l hL _).mono ?_
  rintro e w1 ⟨hb, ⟨hr, g, cap, hg, rfl, hBy⟩ | ⟨hr, s, rfl⟩⟩
  · obtain ⟨B, rfl, b1, b2, hl, hk⟩ := right_of hr
    have HR : Hid (addH B l n = ⟨B, addF B l n, 0⟩) := by show addH B l n = _; rw [addH, if_pos hr, Int.toNat_natCast]
    have hz : w.heap.size + 1 < w1.heap.size := by have := hb.size; simp at this; omega
    have hg' : w.heap.size + 1 < g := by simp at hg; omega
    have Z1 := Blk.new (w.alloc (.cells #[.int .i64 B, .string (bs l)] 23)) 23 #[.int .i64 0, .string ⟨#[]⟩]
    rw [World.size_alloc] at Z1
    have HZ := Lib.hid (Z1.later hb)
    have HBy := Lib.hid hBy
    have HB := Lib.hid (below_old (below_old hb))
    have z1 := hBy.lt
    have HL := Lib.hid hl
    have HK := Lib.hid hk
    clear hr hBy hb Z1 hl hk
    go_wp2_with fail
    have hlA : l.length = 2 ^ B := HL.out
    have hS : Sl ((w1.alloc (.cells (workV B (bs l) g l.length cap) 49)).alloc (.cells #[.int .u64 (n : Int)] 25)) ((w1.alloc (.cells (workV B (bs l) g l.length cap) 49)).alloc (.cells #[.int .u64 (n : Int)] 25)).heap.size (some ⟨w1.heap.size + 1, 0, none⟩) [(n : Int)] := sl_one _ (n : Int) 25 _ (by simp)
    refine (wadd_any B g l.length cap 1 (bs l) _ l [(n : Int)] b1 b2 hlA rfl (fun x hx => by rw [List.mem_singleton.1 hx]; unfold U; omega) (by simp) _ hS (fun _ ad e => by cases e; show w1.heap.size + 1 ≠ g; omega) ((HBy.out.alloc _).alloc _)).mono ?_
    rintro e w2 ⟨⟨v, rfl⟩, hB2, hg2⟩
    have eA : addAll B l [(n : Int)] = addF B l n := by simp [addAll]
    rw [eA] at hB2
    have HL2 : Hid ((addF B l n).length = l.length) := length_addF _ _ _
    have HBY2 : Hid (Bytes (addF B l n)) := (Ranks.add (l := l) HK.out b1 b2 n).bytes
    have hX : Blk w2 w1.heap.size 49 (workV B (bs l) g l.length cap) := ((Blk.new w1 _ _).alloc _).grown hg2 (fun e => by injection e with e; omega)
    obtain ⟨c0, c1, c2, c3⟩ := hX.four
    have HBL := Lib.hid ((below_al (below_al HB.out _) _).grown hg2 (by simp; omega) (fun k e => by cases e; omega))
    have HZ2 := Lib.hid (((HZ.out.alloc _).alloc _).grown hg2 (fun e => by injection e with e; omega))
    have HB2 := Lib.hid hB2
    clear hB2 hX hg2 HBy HB HZ HL HK hlA hS eA
    generalize addF B l n = L at *
    go_wp2_with fail
    refine (done_n B (bs l) g l.length cap L HL2.out w2 HBY2.out HB2.out).mono ?_
    rintro e w3 ⟨rfl, hb3⟩
    have hZ3 := HZ2.out.later hb3
    obtain ⟨y0, y1, f0, f1⟩ := hZ3.two
    go_wp2_with fail
    refine bodyPost_ret (v := .tuple #[hV B L, .int .i64 0]) (by simp [results, Try.results15, go_sem, y0, y1]) rfl ⟨by rw [HR.out], ?_⟩
    exact ((HBL.out.trans (hb3.mono HBL.out.size)).setCell (by show w.heap.size ≤ w.heap.size + 1; omega) _).setCell (by show w.heap.size ≤ w.heap.size + 1; omega) _
  · have HR : Hid (addH b l n = badH) := by show addH b l n = _; rw [addH, if_neg (by simp [hr])]
    have hz : w.heap.size + 1 < w1.heap.size := by have := hb.size; simp at this; omega
    have Z1 := Blk.new (w.alloc (.cells #[.int .i64 b, .string (bs l)] 23)) 23 #[.int .i64 0, .string ⟨#[]⟩]
    rw [World.size_alloc] at Z1
    have hZ := Z1.later hb
    have HB := Lib.hid (below_old (below_old hb))
    obtain ⟨y0, y1, f0, f1⟩ := hZ.two
    have hz0 : w.heap.size < w1.heap.size := by omega
    clear hr hb hZ Z1
    go_wp2_with fail
    refine (errno_err s _).mono ?_
    rintro e w2 ⟨rfl, rfl⟩
    go_wp2_with fail
    refine bodyPost_ret (v := .tuple #[hV 0 [], .int .i64 70]) (by simp [results, Try.results15, go_sem, y0, y1, bs_nil, hz, hz0]) rfl ⟨by rw [HR.out]; rfl, ?_⟩
    exact below_al (below_al ((HB.out.setCell (by show w.heap.size ≤ w.heap.size + 1; omega) _).setCell (by show w.heap.size ≤ w.heap.size + 1; omega) _) _) _
end Go.Proofs.Ytgbanhjjieagnaa

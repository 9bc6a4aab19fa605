/-
  From the row's frame to this seat's words: a slice of series that came in reads as a table.
-/
import Derived.Test.YtoffmclbnobllaaGreatDoorCkRow
namespace Go.Proofs.YtoffmclbnobllaaGreatDoor
open Go.RowKit Go.Joins Go.ChangeShapes Go.WideShapes Go.Deep
set_option linter.unusedVariables false
set_option linter.unusedSimpArgs false
section
variable {H : Type} {enc : TypeId × Value → H} {W : World}
/-- Cells that the row's frame opens. -/
def Opens (enc : TypeId × Value → H) (W : World) (t : TypeId) (cs : List Value) : Prop := ∃ fuel x, DataW.trod enc Tryz.prog W 0 (fun _ => true) true fuel t cs = some x
theorem Opens.struct {t : TypeId} {fs : Array Field} {cs : List Value} (ht : Tryz.prog.underlying t = some (.struct fs)) (h : Opens enc W t cs) :
    cs.length = Tryz.prog.cellsOf t ∧ ∀ (i : Nat) (f : Field), fs[i]? = some f → Opens enc W f.type ((cs.drop f.offset).take (Tryz.prog.cellsOf f.type)) := by
  obtain ⟨fuel, x, hx⟩ := h
  obtain ⟨xs, n, _, _, hlen, hxl, hf⟩ := DataW.trod_struct ht hx
  refine ⟨hlen, fun i f hi => ?_⟩
  have h1 := hf i f hi
  have hil : i < xs.length := by rw [hxl]; exact (Array.getElem?_eq_some_iff.1 hi).1
  rw [List.getElem?_eq_getElem hil] at h1
  exact ⟨n, _, h1⟩
theorem Opens.int {t : TypeId} {k : IntKind} {cs : List Value} (ht : Tryz.prog.underlying t = some (.int k)) (h : Opens enc W t cs) : ∃ n, cs = [.int k n] ∧ (Lit.int k n).wf = true := by
  obtain ⟨fuel, x, hx⟩ := h
  obtain ⟨n, e, _, hw⟩ := DataW.trod_int ht hx
  exact ⟨n, e, hw⟩
theorem Opens.string {t : TypeId} {cs : List Value} (ht : Tryz.prog.underlying t = some .string) (h : Opens enc W t cs) : ∃ s : ByteArray, cs = [.string s] ∧ s.size ≤ maxLen := by
  obtain ⟨fuel, x, hx⟩ := h
  obtain ⟨n, e, _, hw⟩ := DataW.trod_string ht hx
  exact ⟨n, e, hw⟩
theorem Opens.slice {t e : TypeId} {cs : List Value} (ht : Tryz.prog.underlying t = some (.slice e)) (h : Opens enc W t cs) :
    cs = [.slice none 0 0] ∨ ∃ (a : Addr) (len cap : Nat), cs = [.slice (some a) len cap] ∧ len ≤ cap ∧ cap ≤ maxLen ∧
      ∀ i, i < cap → ∃ cs', W.cells? 0 (a.add (i * Tryz.prog.cellsOf e)) (Tryz.prog.cellsOf e) = some cs' ∧ Opens enc W e cs' := by
  obtain ⟨fuel, x, hx⟩ := h
  rcases open_slice ht hx with ⟨h0, _⟩ | ⟨a, len, cap, m, n, D, Pl, hcs, hb, hl, hm, hmm, _, hi⟩
  · exact .inl h0
  · refine .inr ⟨a, len, cap, hcs, hl, hm, fun i h => ?_⟩
    obtain ⟨cs', h1, h2⟩ := hi i (by rw [hmm]; simpa using h)
    exact ⟨cs', h1, n, _, h2⟩
theorem flat_len {α : Type} {cells : α → List Value} {sz : Nat} (hsz : ∀ y, (cells y).length = sz) : ∀ ys : List α, (ys.flatMap cells).length = ys.length * sz
  | [] => by simp
  | y :: ys => by rw [List.flatMap_cons, List.length_append, flat_len hsz ys, hsz, List.length_cons, Nat.add_mul]; omega
/-- Elements of equal size, one after the other, read as one row. -/
theorem row_list {α : Type} (cells : α → List Value) (Q : α → Prop) {sz len : Nat} {x : Addr} (hsz : ∀ y, (cells y).length = sz)
    (h : ∀ i, i < len → ∃ y, Q y ∧ W.cells? 0 (x.add (i * sz)) sz = some (cells y)) : ∀ k, k ≤ len → ∃ ys : List α, ys.length = k ∧ (∀ y ∈ ys, Q y) ∧ ∀ j u, (ys.flatMap cells)[j]? = some u → W.cell? (x.add j) = some u := by
  intro k
  induction k with
  | zero => exact fun _ => ⟨[], rfl, (fun _ h => by cases h), fun j u h => by simp at h⟩
  | succ k ih =>
    intro hk
    obtain ⟨ys, hl, hQ, hc⟩ := ih (by omega)
    obtain ⟨y, hy, hcy⟩ := h k (by omega)
    obtain ⟨_, hcl, hat⟩ := World.cells?_some hcy
    refine ⟨ys ++ [y], by simp [hl], fun z hz => ?_, fun j u hj => ?_⟩
    · rcases List.mem_append.1 hz with h | h
      · exact hQ z h
      · simp at h; subst h; exact hy
    · rw [List.flatMap_append, List.flatMap_singleton] at hj
      have hfl := flat_len hsz ys
      rw [hl] at hfl
      by_cases hjl : j < k * sz
      · rw [List.getElem?_append_left (by omega)] at hj
        exact hc j u hj
      · rw [List.getElem?_append_right (by omega), hfl] at hj
        have hj2 : j - k * sz < sz := by have := (List.getElem?_eq_some_iff.1 hj).1; rw [hsz] at this; exact this
        have h1 := hat (j - k * sz) hj2
        have e : j = k * sz + (j - k * sz) := by omega
        rw [e, ← Go.Deep.add_add, h1]
        exact hj
theorem row_rd {x : Addr} {xs : List Value} (h : ∀ j u, xs[j]? = some u → W.cell? (x.add j) = some u) : Rd W W.heap.size (some x) xs := fun hne => by
  have h0 : 0 < xs.length := by
    rcases Nat.eq_zero_or_pos xs.length with h0 | h0
    · exact absurd (List.eq_nil_of_length_eq_zero h0) hne
    · exact h0
  have hc0 := h 0 _ (List.getElem?_eq_getElem h0)
  obtain ⟨b, off, sp⟩ := x
  have hsp : sp = none := by
    cases sp with
    | none => rfl
    | some k =>
      simp only [Addr.add, if_true, World.cell?] at hc0
      split at hc0 <;> simp at hc0
  subst hsp
  have hblk : b < W.heap.size := by
    simp only [Addr.add, if_true, World.cell?] at hc0
    rcases Nat.lt_or_ge b W.heap.size with hlt | hge
    · exact hlt
    · rw [Array.getElem?_eq_none hge] at hc0; simp at hc0
  refine ⟨b, off, rfl, hblk, fun j u hj => ?_⟩
  have := h j u hj
  rwa [addr_add] at this
theorem map_flat : ∀ ys : List Int, ys.map (Value.int .u64) = ys.flatMap (fun n : Int => [Value.int .u64 n])
  | [] => rfl
  | y :: ys => by rw [List.map_cons, List.flatMap_cons, map_flat ys]; rfl
theorem wf_u64 {n : Int} (h : (Lit.int .u64 n).wf = true) : U n := bounds_u64 h
theorem u64s_opens {v : Value} (h : Opens enc W 37 [v]) : ∃ (a : Option Addr) (l : List Int) (cap : Nat), v = .slice a l.length cap ∧ l.length ≤ cap ∧ Sl W W.heap.size a l := by
  rcases h.slice Tryz.underlying37 with h0 | ⟨a, len, cap, hcs, hl, hm, hi⟩
  · simp only [List.cons.injEq, and_true] at h0
    exact ⟨none, [], 0, h0, Nat.le_refl _, Rd.none_⟩
  · simp only [List.cons.injEq, and_true] at hcs
    have hC : Tryz.prog.cellsOf 23 = 1 := by kernel_rfl
    obtain ⟨ys, hyl, _, hr⟩ := row_list (W := W) (fun n : Int => [Value.int .u64 n]) (fun _ => True) (sz := 1) (len := len) (x := a) (fun _ => rfl) (fun i h => by
      obtain ⟨cs', h1, h2⟩ := hi i (by omega)
      obtain ⟨n, rfl, _⟩ := h2.int Tryz.underlying23
      rw [hC] at h1
      exact ⟨n, trivial, h1⟩) len (Nat.le_refl _)
    refine ⟨some a, ys, cap, by rw [hcs, hyl], by omega, ?_⟩
    have e := map_flat ys
    show Rd W W.heap.size (some a) (ys.map (Value.int .u64))
    rw [e]; exact row_rd hr
theorem labs_opens {v : Value} (h : Opens enc W 36 [v]) : ∃ (a : Option Addr) (l : List Lab) (cap : Nat), v = .slice a l.length cap ∧ l.length ≤ maxLen ∧ (∀ x ∈ l, x.1.size ≤ maxLen ∧ x.2.size ≤ maxLen) ∧ Lb W W.heap.size a l := by
  have hv : ∃ a len cap, v = .slice a len cap := by
    rcases h.slice Tryz.underlying36 with h0 | ⟨a, len, cap, hcs, _⟩
    · simp only [List.cons.injEq, and_true] at h0; exact ⟨_, _, _, h0⟩
    · simp only [List.cons.injEq, and_true] at hcs; exact ⟨_, _, _, hcs⟩
  obtain ⟨a, len, cap, rfl⟩ := hv
  obtain ⟨fuel, x, hx⟩ := h
  have hI : IsLabs W a len cap := labs_open ⟨fuel, by simpa [Value.cells] using hx⟩
  obtain ⟨l, hl, hs, hr⟩ := isLabs_lb hI len (Nat.le_refl _)
  exact ⟨a, l, cap, by rw [hl], by rw [hl]; exact isLabs_le hI, hs, hr⟩
theorem wf_i64 {n : Int} (h : (Lit.int .i64 n).wf = true) : Hi.I64 n := bounds_i64 h
set_option maxRecDepth 100000 in
theorem bins_opens {v : Value} (h : Opens enc W 44 [v]) : ∃ (a : Option Addr) (l : Hi.Bins) (cap : Nat), v = .slice a l.length cap ∧ l.length ≤ cap ∧ Hi.UBs l ∧ Hi.Sb W W.heap.size a l := by
  rcases h.slice Tryz.underlying44 with h0 | ⟨a, len, cap, hcs, hl, hm, hi⟩
  · simp only [List.cons.injEq, and_true] at h0
    exact ⟨none, [], 0, h0, Nat.le_refl _, (fun _ h => by cases h), Rd.none_⟩
  · simp only [List.cons.injEq, and_true] at hcs
    have hC : Tryz.prog.cellsOf 69 = 2 := by kernel_rfl
    obtain ⟨ys, hyl, hQ, hr⟩ := row_list (W := W) (fun x : Int × Int => [Value.int .i64 x.1, .int .u64 x.2]) (fun x => Hi.I64 x.1 ∧ U x.2) (sz := 2) (len := len) (x := a) (fun _ => rfl) (fun i h => by
      obtain ⟨cs', h1, h2⟩ := hi i (by omega)
      obtain ⟨hlen, hf⟩ := h2.struct Tryz.underlying69
      rw [hC] at hlen h1
      match cs', hlen with
      | [c0, c1], _ =>
        obtain ⟨n0, e0, w0⟩ := (hf 0 _ rfl).int (k := .i64) (by kernel_rfl)
        obtain ⟨n1, e1, w1⟩ := (hf 1 _ rfl).int (k := .u64) (by kernel_rfl)
        have e0' : [c0] = [Value.int .i64 n0] := e0
        have e1' : [c1] = [Value.int .u64 n1] := e1
        simp only [List.cons.injEq, and_true] at e0' e1'
        subst e0' e1'
        exact ⟨(n0, n1), ⟨wf_i64 w0, wf_u64 w1⟩, h1⟩) len (Nat.le_refl _)
    exact ⟨some a, ys, cap, by rw [hcs, hyl], by omega, hQ, row_rd hr⟩
set_option maxRecDepth 100000 in
set_option maxHeartbeats 4000000 in
theorem sk_opens {c1 c2 c3 c4 c5 c6 c7 c8 c9 c10 : Value} (h : Opens enc W 48 [c1, c2, c3, c4, c5, c6, c7, c8, c9, c10]) :
    ∃ m : SkM, [c1, c2, c3, c4, c5, c6, c7, c8, c9, c10] = skC m ∧ SkOk W W.heap.size m ∧ m.s.e.length ≤ m.ec ∧ m.s.c.length ≤ m.cc ∧ m.s.g.length ≤ m.gc ∧ Hi.UBs m.s.g ∧ Hi.I64 m.s.kind ∧ Hi.I64 m.s.level ∧ Hi.I64 m.s.bits ∧ Hi.I64 m.s.rows ∧ Hi.I64 m.s.cols ∧ Hi.I64 m.s.fine := by
  obtain ⟨_, hf⟩ := h.struct Tryz.underlying48
  have g0 : Opens enc W 3 [c1] := hf 0 _ rfl
  have g1 : Opens enc W 3 [c2] := hf 1 _ rfl
  have g2 : Opens enc W 39 [c3] := hf 2 _ rfl
  have g3 : Opens enc W 41 [c4, c5] := hf 3 _ rfl
  have g4 : Opens enc W 43 [c6, c7, c8] := hf 4 _ rfl
  have g5 : Opens enc W 46 [c9, c10] := hf 5 _ rfl
  obtain ⟨_, f2⟩ := g2.struct Tryz.underlying39
  obtain ⟨_, f3⟩ := g3.struct Tryz.underlying41
  obtain ⟨_, f4⟩ := g4.struct Tryz.underlying43
  obtain ⟨_, f5⟩ := g5.struct Tryz.underlying46
  have k3 : Opens enc W 37 [c3] := f2 0 _ rfl
  have k4 : Opens enc W 3 [c4] := f3 0 _ rfl
  have k5 : Opens enc W 9 [c5] := f3 1 _ rfl
  have k6 : Opens enc W 3 [c6] := f4 0 _ rfl
  have k7 : Opens enc W 3 [c7] := f4 1 _ rfl
  have k8 : Opens enc W 37 [c8] := f4 2 _ rfl
  have k9 : Opens enc W 3 [c9] := f5 0 _ rfl
  have k10 : Opens enc W 44 [c10] := f5 1 _ rfl
  obtain ⟨n1, e1, w1⟩ := g0.int Tryz.underlying3
  obtain ⟨n2, e2, w2⟩ := g1.int Tryz.underlying3
  obtain ⟨a3, l3, p3, rfl, q3, r3⟩ := u64s_opens k3
  obtain ⟨n4, e4, w4⟩ := k4.int Tryz.underlying3
  obtain ⟨s5, e5, w5⟩ := k5.string Tryz.underlying9
  obtain ⟨n6, e6, w6⟩ := k6.int Tryz.underlying3
  obtain ⟨n7, e7, w7⟩ := k7.int Tryz.underlying3
  obtain ⟨a8, l8, p8, rfl, q8, r8⟩ := u64s_opens k8
  obtain ⟨n9, e9, w9⟩ := k9.int Tryz.underlying3
  obtain ⟨a10, l10, p10, rfl, q10, u10, r10⟩ := bins_opens k10
  simp only [List.cons.injEq, and_true] at e1 e2 e4 e5 e6 e7 e9
  subst e1 e2 e4 e5 e6 e7 e9
  exact ⟨⟨⟨n1, n2, l3, n4, s5, n6, n7, l8, n9, l10⟩, a3, p3, a8, p8, a10, p10⟩, rfl, ⟨r3, r8, r10⟩, q3, q8, q10, u10, wf_i64 w1, wf_i64 w2, wf_i64 w4, wf_i64 w6, wf_i64 w7, wf_i64 w9⟩
set_option maxRecDepth 100000 in
set_option maxHeartbeats 4000000 in
theorem ser_opens {cs : List Value} (h : Opens enc W 50 cs) : ∃ m : SerM, cs = serC m ∧ SerOk W W.heap.size m ∧ RawFit m := by
  obtain ⟨hlen, hf⟩ := h.struct Tryz.underlying50
  have hC : Tryz.prog.cellsOf 50 = 12 := by kernel_rfl
  rw [hC] at hlen
  match cs, hlen with
  | [c0, c1, c2, c3, c4, c5, c6, c7, c8, c9, c10, c11], _ =>
    have g0 : Opens enc W 36 [c0] := hf 0 _ rfl
    have g1 : Opens enc W 48 [c1, c2, c3, c4, c5, c6, c7, c8, c9, c10] := hf 1 _ rfl
    have g2 : Opens enc W 23 [c11] := hf 2 _ rfl
    obtain ⟨a, l, p, rfl, z1, z2, z3⟩ := labs_opens g0
    obtain ⟨m, e, ok, y1, y2, y3, y4, y5, y6, y7, y8, y9, y10⟩ := sk_opens g1
    obtain ⟨n, en, wn⟩ := g2.int Tryz.underlying23
    simp only [List.cons.injEq, and_true] at en
    subst en
    refine ⟨⟨⟨l, m.s, n⟩, m, a, p, rfl⟩, ?_, ⟨z3, ok⟩, ⟨z1, z2, y1, y2, y3, y4, y5, y6, y7, y8, y9, y10, wf_u64 wn⟩⟩
    show _ = Value.slice a l.length p :: (skC m ++ [Value.int .u64 n])
    rw [← e]; rfl
/-- What the walk is told of a slice of series that came in. -/
def IsSers (w : World) (a : Option Addr) (len : Nat) : Prop :=
  len ≤ maxLen ∧ ∀ k, k ≤ len → ∃ ms : List SerM, ms.length = k ∧ (∀ m ∈ ms, RawFit m) ∧ Tab w w.heap.size a ms
theorem sers_opens {a : Option Addr} {len cap : Nat} (h : Opens enc W 22 [.slice a len cap]) : IsSers W a len := by
  rcases h.slice Tryz.underlying22 with h0 | ⟨x, len', cap', hcs, hl, hm, hi⟩
  · simp only [List.cons.injEq, and_true] at h0
    injection h0 with e1 e2 e3
    subst e1 e2
    exact ⟨by decide, fun k hk => ⟨[], by simp; omega, (fun _ h => by cases h), Rd.none_, (fun _ h => by cases h)⟩⟩
  · simp only [List.cons.injEq, and_true] at hcs
    injection hcs with e1 e2 e3
    subst e1 e2
    have hC : Tryz.prog.cellsOf 50 = 12 := by kernel_rfl
    rw [hC] at hi
    refine ⟨by omega, fun k hk => ?_⟩
    obtain ⟨ys, hyl, hQ, hr⟩ := row_list (W := W) serC (fun m => SerOk W W.heap.size m ∧ RawFit m) (sz := 12) (x := x) serC_len (fun i h => by
      obtain ⟨cs', h1, h2⟩ := hi i (by omega)
      obtain ⟨m, rfl, ok, fit⟩ := ser_opens h2
      exact ⟨m, ⟨ok, fit⟩, h1⟩) k hk
    exact ⟨ys, hyl, fun m hm => (hQ m hm).2, row_rd hr, fun m hm => (hQ m hm).1⟩
theorem sers_open {a : Option Addr} {len cap : Nat} (h : ∃ fuel x, DataW.trod enc Tryz.prog W 0 (fun _ => true) true fuel 22 (Value.slice a len cap).cells.toList = some x) : IsSers W a len := by
  obtain ⟨fuel, x, hx⟩ := h
  exact sers_opens ⟨fuel, x, by simpa [Value.cells] using hx⟩
end
end Go.Proofs.YtoffmclbnobllaaGreatDoor

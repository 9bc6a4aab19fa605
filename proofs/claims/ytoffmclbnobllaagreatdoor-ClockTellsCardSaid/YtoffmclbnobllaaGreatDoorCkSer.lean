/-
  Words for sketches and series: what they are, and how they lie.
-/
import Derived.Test.YtoffmclbnobllaaGreatDoorCkLab2
import Derived.Test.YtoffmclbnobllaaGreatDoorCkEx
import Derived.Test.YtoffmclbnobllaaGreatDoorCkHl
import Derived.Test.YtoffmclbnobllaaGreatDoorCkCm
import Derived.Test.YtoffmclbnobllaaGreatDoorCkHi
namespace Go.Proofs.YtoffmclbnobllaaGreatDoor
open Go.RowKit
set_option linter.unusedVariables false
set_option linter.unusedSimpArgs false
/-- A sketch. -/
structure Sk where
  kind : Int
  level : Int
  e : List Int
  bits : Int
  regs : ByteArray
  rows : Int
  cols : Int
  c : List Int
  fine : Int
  g : Hi.Bins
  deriving DecidableEq
/-- A sketch as it lies: its slices' heads. -/
structure SkM where
  s : Sk
  ea : Option Addr
  ec : Nat
  ca : Option Addr
  cc : Nat
  ga : Option Addr
  gc : Nat
def eV (m : SkM) : Value := .agg #[.slice m.ea m.s.e.length m.ec]
def hV (m : SkM) : Value := .agg #[.int .i64 m.s.bits, .string m.s.regs]
def cV (m : SkM) : Value := .agg #[.int .i64 m.s.rows, .int .i64 m.s.cols, .slice m.ca m.s.c.length m.cc]
def gV (m : SkM) : Value := .agg #[.int .i64 m.s.fine, .slice m.ga m.s.g.length m.gc]
/-- A sketch's value: its cells in a row. -/
def skV (m : SkM) : Value := .agg #[.int .i64 m.s.kind, .int .i64 m.s.level, .slice m.ea m.s.e.length m.ec, .int .i64 m.s.bits, .string m.s.regs, .int .i64 m.s.rows, .int .i64 m.s.cols, .slice m.ca m.s.c.length m.cc, .int .i64 m.s.fine, .slice m.ga m.s.g.length m.gc]
def skC (m : SkM) : List Value := [.int .i64 m.s.kind, .int .i64 m.s.level, .slice m.ea m.s.e.length m.ec, .int .i64 m.s.bits, .string m.s.regs, .int .i64 m.s.rows, .int .i64 m.s.cols, .slice m.ca m.s.c.length m.cc, .int .i64 m.s.fine, .slice m.ga m.s.g.length m.gc]
/-- Its lists read, in a world. -/
structure SkOk (w : World) (B : Nat) (m : SkM) : Prop where
  e : Sl w B m.ea m.s.e
  c : Sl w B m.ca m.s.c
  g : Hi.Sb w B m.ga m.s.g
/-- What is always so of one that comes in, cut. -/
structure SkFit (s : Sk) : Prop where
  e : s.e.length ≤ 1000
  c : s.c.length ≤ 1000
  g : s.g.length ≤ 1000
  regs : s.regs.size ≤ 1000
  gu : Hi.UBs s.g
  kind : Hi.I64 s.kind
  level : Hi.I64 s.level
  bits : Hi.I64 s.bits
  rows : Hi.I64 s.rows
  cols : Hi.I64 s.cols
  fine : Hi.I64 s.fine
theorem SkOk.later {w w' : World} {m : SkM} (h : SkOk w w.heap.size m) (hb : Below w.heap.size w w') : SkOk w' w'.heap.size m :=
  ⟨(Rd.below h.e hb).more hb.size, (Rd.below h.c hb).more hb.size, (Rd.below h.g hb).more hb.size⟩
/-- A series. -/
structure Ser where
  l : List Lab
  k : Sk
  seen : Int
  deriving DecidableEq
structure SerM where
  s : Ser
  m : SkM
  la : Option Addr
  lc : Nat
  hk : m.s = s.k
def serV (m : SerM) : Value := .agg #[.slice m.la m.s.l.length m.lc, .int .i64 m.m.s.kind, .int .i64 m.m.s.level, .slice m.m.ea m.m.s.e.length m.m.ec, .int .i64 m.m.s.bits, .string m.m.s.regs, .int .i64 m.m.s.rows, .int .i64 m.m.s.cols, .slice m.m.ca m.m.s.c.length m.m.cc, .int .i64 m.m.s.fine, .slice m.m.ga m.m.s.g.length m.m.gc, .int .u64 m.s.seen]
def serC (m : SerM) : List Value := .slice m.la m.s.l.length m.lc :: (skC m.m ++ [.int .u64 m.s.seen])
structure SerOk (w : World) (B : Nat) (m : SerM) : Prop where
  l : Lb w B m.la m.s.l
  k : SkOk w B m.m
structure SerFit (s : Ser) : Prop where
  l : s.l.length ≤ 10
  ls : ∀ x ∈ s.l, x.1.size ≤ 20 ∧ x.2.size ≤ 120
  k : SkFit s.k
  seen : U s.seen
theorem SerOk.later {w w' : World} {m : SerM} (h : SerOk w w.heap.size m) (hb : Below w.heap.size w w') : SerOk w' w'.heap.size m := ⟨h.l.later hb, h.k.later hb⟩
def tabC (ms : List SerM) : List Value := ms.flatMap serC
/-- A table: its cells lie, and each series' own. -/
structure Tab (w : World) (B : Nat) (A : Option Addr) (ms : List SerM) : Prop where
  rd : Rd w B A (tabC ms)
  ok : ∀ m ∈ ms, SerOk w B m
theorem Tab.later {w w' : World} {A : Option Addr} {ms : List SerM} (h : Tab w w.heap.size A ms) (hb : Below w.heap.size w w') : Tab w' w'.heap.size A ms := ⟨(Rd.below h.rd hb).more hb.size, fun m hm => (h.ok m hm).later hb⟩
theorem serC_len (m : SerM) : (serC m).length = 12 := by simp [serC, skC]
theorem tabC_len (ms : List SerM) : (tabC ms).length = 12 * ms.length := by
  induction ms with
  | nil => rfl
  | cons m ms ih => unfold tabC at ih ⊢; rw [List.flatMap_cons, List.length_append, ih, serC_len, List.length_cons]; omega
theorem tabC_at : ∀ (ms : List SerM) (k j : Nat) (h : k < ms.length), j < 12 → (tabC ms)[k * 12 + j]? = (serC ms[k])[j]?
  | [], _, _, h, _ => by simp at h
  | m :: ms, 0, j, _, hj => by
    unfold tabC
    rw [List.flatMap_cons, Nat.zero_mul, Nat.zero_add, List.getElem?_append_left (by rw [serC_len]; exact hj)]; rfl
  | m :: ms, k + 1, j, h, hj => by
    have h' : k < ms.length := by simpa using h
    have e : (tabC (m :: ms))[(k + 1) * 12 + j]? = (tabC ms)[k * 12 + j]? := by
      unfold tabC
      rw [List.flatMap_cons, List.getElem?_append_right (by rw [serC_len]; omega), serC_len]
      congr 1; omega
    rw [e, tabC_at ms k j h' hj]; rfl
/-- The twelve cells of a table's series. -/
structure SerAt (w : World) (b o : Nat) (m : SerM) : Prop where
  c0 : w.cell? ⟨b, o, none⟩ = some (.slice m.la m.s.l.length m.lc)
  c1 : w.cell? ⟨b, o + 1, none⟩ = some (.int .i64 m.m.s.kind)
  c2 : w.cell? ⟨b, o + 2, none⟩ = some (.int .i64 m.m.s.level)
  c3 : w.cell? ⟨b, o + 3, none⟩ = some (.slice m.m.ea m.m.s.e.length m.m.ec)
  c4 : w.cell? ⟨b, o + 4, none⟩ = some (.int .i64 m.m.s.bits)
  c5 : w.cell? ⟨b, o + 5, none⟩ = some (.string m.m.s.regs)
  c6 : w.cell? ⟨b, o + 6, none⟩ = some (.int .i64 m.m.s.rows)
  c7 : w.cell? ⟨b, o + 7, none⟩ = some (.int .i64 m.m.s.cols)
  c8 : w.cell? ⟨b, o + 8, none⟩ = some (.slice m.m.ca m.m.s.c.length m.m.cc)
  c9 : w.cell? ⟨b, o + 9, none⟩ = some (.int .i64 m.m.s.fine)
  c10 : w.cell? ⟨b, o + 10, none⟩ = some (.slice m.m.ga m.m.s.g.length m.m.gc)
  c11 : w.cell? ⟨b, o + 11, none⟩ = some (.int .u64 m.s.seen)
theorem Tab.at_ {w : World} {B : Nat} {A : Option Addr} {ms : List SerM} (h : Tab w B A ms) (h0 : 0 < ms.length) : ∃ b off, A = some ⟨b, off, none⟩ ∧ b < B ∧ ∀ k (hk : k < ms.length), SerAt w b (off + k * 12) ms[k] := by
  obtain ⟨b, off, e, hb, hc⟩ := h.rd (by
    intro e
    have h1 : 12 * ms.length = 0 := by rw [← tabC_len, e]; rfl
    omega)
  refine ⟨b, off, e, hb, fun k hk => ?_⟩
  have q : ∀ j v, j < 12 → (serC ms[k])[j]? = some v → w.cell? ⟨b, off + k * 12 + j, none⟩ = some v := fun j v hj hv => by
    have := hc (k * 12 + j) v (by rw [tabC_at ms k j hk hj]; exact hv)
    rwa [← Nat.add_assoc] at this
  exact ⟨q 0 _ (by decide) rfl, q 1 _ (by decide) rfl, q 2 _ (by decide) rfl, q 3 _ (by decide) rfl, q 4 _ (by decide) rfl, q 5 _ (by decide) rfl, q 6 _ (by decide) rfl, q 7 _ (by decide) rfl, q 8 _ (by decide) rfl, q 9 _ (by decide) rfl, q 10 _ (by decide) rfl, q 11 _ (by decide) rfl⟩
theorem SerAt.below {w w' : World} {B b o : Nat} {m : SerM} (h : SerAt w b o m) (hb : Below B w w') (hl : b < B) : SerAt w' b o m := by
  have q : ∀ (i : Nat) (v : Value), w.cell? ⟨b, i, none⟩ = some v → w'.cell? ⟨b, i, none⟩ = some v := fun i v hv => (hb.cell (p := ⟨b, i, none⟩) hl).trans hv
  exact ⟨q _ _ h.c0, q _ _ h.c1, q _ _ h.c2, q _ _ h.c3, q _ _ h.c4, q _ _ h.c5, q _ _ h.c6, q _ _ h.c7, q _ _ h.c8, q _ _ h.c9, q _ _ h.c10, q _ _ h.c11⟩
end Go.Proofs.YtoffmclbnobllaaGreatDoor

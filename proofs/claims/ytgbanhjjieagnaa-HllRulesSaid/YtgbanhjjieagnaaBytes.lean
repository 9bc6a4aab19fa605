/-
  Words for a row of bytes: block g reads as l from its head on, and may be written there.
-/
import Derived.Test.YtgbanhjjieagnaaBlk
import Derived.Laws.IdiomStrings
import Derived.RangeFuncOwn
namespace Go.Proofs.Ytgbanhjjieagnaa
open Go.RowKit
def byt (l : List Nat) (k : Nat) : Nat := (l[k]?).getD 0
def Bytes (l : List Nat) : Prop := ∀ x ∈ l, x < 256
structure By (w : World) (g : Nat) (l : List Nat) : Prop where
  lt : g < w.heap.size
  cell : ∀ j, j < l.length → w.cell? ⟨g, j, none⟩ = some (.int .u8 ((byt l j : Nat) : Int))
  free : ∀ j, j < l.length → w.frozen? ⟨g, j, none⟩ = false
theorem byt_lt {l : List Nat} (h : Bytes l) (k : Nat) : byt l k < 256 := by
  unfold byt
  cases e : l[k]? with
  | none => simp
  | some x => exact h x (List.mem_of_getElem? e)
theorem byt_set {l : List Nat} {p : Nat} (hp : p < l.length) (v i : Nat) : byt (l.set p v) i = if i = p then v else byt l i := by
  unfold byt
  rw [List.getElem?_set]
  by_cases h : p = i
  · subst h; simp [hp]
  · rw [if_neg h, if_neg (fun e => h e.symm)]
theorem Bytes.set {l : List Nat} (h : Bytes l) (p : Nat) {v : Nat} (hv : v < 256) : Bytes (l.set p v) := fun x hx => by
  rcases List.mem_or_eq_of_mem_set hx with h1 | h1
  · exact h x h1
  · rw [h1]; exact hv
theorem bytes_ext {l m : List Nat} (h : l.length = m.length) (hn : ∀ i, i < l.length → byt l i = byt m i) : l = m := by
  apply List.ext_getElem h
  intro i h1 h2
  have := hn i h1
  simpa [byt, h1, h2] using this
section
variable {w w' : World} {g : Nat} {l : List Nat}
theorem By.keep (h : By w g l) (hs : w.heap.size ≤ w'.heap.size) (hb : w'.heap[g]? = w.heap[g]?) : By w' g l :=
  ⟨Nat.lt_of_lt_of_le h.lt hs, fun j hj => (World.cell?_of_block hb).trans (h.cell j hj), fun j hj => by
    have := h.free j hj
    unfold World.frozen? at this ⊢
    rw [hb]; exact this⟩
theorem By.later (h : By w g l) (hb : Below w.heap.size w w') : By w' g l := h.keep hb.size (hb.block g h.lt)
theorem By.grown {row : Option Nat} (h : By w g l) (hb : w.grownBy w' row) (hg : some g ≠ row) : By w' g l := h.keep hb.size (hb.block g h.lt hg)
theorem By.drew (h : By w g l) : By w.drew g l := h.keep (Nat.le_refl _) rfl
theorem By.alloc (h : By w g l) (o : Obj) : By (w.alloc o) g l := h.later ((Below.refl _ _).alloc (Nat.le_refl _) o)
theorem By.set (h : By w g l) {p : Nat} (hp : p < l.length) (v : Nat) : By (w.setCell ⟨g, p, none⟩ (.int .u8 (v : Int))) g (l.set p v) := by
  refine ⟨by simpa [World.setCell] using h.lt, fun j hj => ?_, fun j hj => ?_⟩
  · rw [List.length_set] at hj
    rw [byt_set hp]
    by_cases e : j = p
    · subst e; rw [if_pos rfl]; exact World.cell?_setCell_same' _ _ _ (by rw [h.cell j hj]; rfl)
    · rw [if_neg e, World.cell?_setCell_other _ _ _ _ (fun e' => e (by injection e' with _ e2; exact e2.symm))]; exact h.cell j hj
  · rw [List.length_set] at hj
    rw [World.frozen?_setCell]; exact h.free j hj
theorem By.cells_ (h : By w g l) (hl : 0 < l.length) {o : Obj} (ho : w.heap[g]? = some o) : o.isCells = true := by
  have := h.cell 0 hl
  unfold World.cell? at this
  simp only [ho] at this
  cases o <;> first | (simp at this; done) | rfl
theorem By.kept {row : Option Nat} (h : By w g l) (hl : 0 < l.length) (hg : w.grownBy w' row) (hr : ∀ r, row = some r → ∃ o : Obj, w.heap[r]? = some o ∧ o.isCells = false) : By w' g l := by
  refine h.grown hg (fun e => ?_)
  obtain ⟨o, ho, hc⟩ := hr g e.symm
  have := h.cell 0 hl
  unfold World.cell? at this
  simp only [ho] at this
  cases o <;> first | (simp at this; done) | (simp [Obj.isCells] at hc; done)
end
/-- The text of bytes. -/
def bs (l : List Nat) : ByteArray := ⟨(l.map UInt8.ofNat).toArray⟩
theorem bs_size (l : List Nat) : (bs l).size = l.length := by simp [bs, ByteArray.size]
theorem bs_of (s : ByteArray) : s = bs (s.data.toList.map (·.toNat)) ∧ Bytes (s.data.toList.map (·.toNat)) := by
  constructor
  · cases s with
    | mk d =>
      unfold bs
      congr 1
      have : (UInt8.ofNat ∘ fun x : UInt8 => x.toNat) = id := by funext x; simp
      rw [List.map_map, this]
      simp
  · intro x hx
    obtain ⟨b, _, rfl⟩ := List.mem_map.1 hx
    exact b.toNat_lt
theorem bs_inj {l m : List Nat} (hl : Bytes l) (hm : Bytes m) (h : bs l = bs m) : l = m := by
  unfold bs at h
  injection h with h
  have h' : l.map UInt8.ofNat = m.map UInt8.ofNat := by simpa using congrArg Array.toList h
  have hlen : l.length = m.length := by simpa using congrArg List.length h'
  refine bytes_ext hlen (fun i hi => ?_)
  have e := congrArg (fun t => (t[i]?).map UInt8.toNat) h'
  have hi2 : i < m.length := by omega
  have h1 := hl l[i] (List.getElem_mem hi)
  have h2 := hm m[i] (List.getElem_mem hi2)
  simp [hi, hi2] at e
  simp [byt, hi, hi2]
  omega
/-- string(b) of a row of bytes. -/
theorem run_string_of {P : Program} (w : World) (src dst e : TypeId) (g cap : Nat) (l : List Nat) (hs : P.underlying src = some (.slice e)) (he : P.underlying e = some (.int .u8)) (hd : P.underlying dst = some .string) (h : By w g l) (hB : Bytes l) :
    (convert src dst (.slice (some ⟨g, 0, none⟩) l.length cap)).run P w = .ok (.string (bs l)) w := by
  have := run_convert_bytes_back (P := P) w src dst e ⟨g, 0, none⟩ cap (l.map UInt8.ofNat) hs he hd (fun j hj => by
    rw [List.length_map] at hj
    rw [addr_add, Nat.zero_add, h.cell j hj]
    have hb := byt_lt hB j
    have : byt l j = l[j] := by simp [byt, hj]
    simp only [List.getElem_map]
    rw [this] at hb ⊢
    congr 2
    simp [UInt8.toNat_ofNat']
    omega)
  rw [List.length_map] at this
  exact this
end Go.Proofs.Ytgbanhjjieagnaa

/-
  Blank registers.
-/
import Derived.Test.YtgbanhjjieagnaaHllWork
import Derived.Laws.EntriesVeiled
namespace Go.Proofs.Ytgbanhjjieagnaa
open Go.RowKit
set_option linter.unusedVariables false
set_option linter.unusedSimpArgs false
/-- Registers at work, none: what begin and blank hand back beside an error. -/
abbrev workZ : Value := .agg #[.int .i64 0, .string ⟨#[]⟩, .slice none 0 0, .nilFunc]
theorem pow_bd {B : Nat} (h3 : 3 ≤ B) (h8 : B ≤ 8) : 8 ≤ 2 ^ B ∧ 2 ^ B ≤ 256 :=
  ⟨Nat.le_trans (by decide) (Nat.pow_le_pow_right (by decide) h3), Nat.le_trans (Nat.pow_le_pow_right (by decide) h8) (by decide)⟩
/-- What blank hands back. -/
def BlankRes (w : World) (b : Int) (e : Ending) (w' : World) : Prop :=
  Below w.heap.size w w' ∧ ((bitsB b = true ∧ ∃ g, w.heap.size ≤ g ∧ e = .returned (.tuple #[.agg (workV b ⟨#[]⟩ g (2 ^ b.toNat) (2 ^ b.toNat)), .nilIface]) ∧ By w' g (List.replicate (2 ^ b.toNat) 0)) ∨
    (bitsB b = false ∧ ∃ s, e = .returned (.tuple #[workZ, errV s])))
theorem Try.infoU8 : (Try.prog.info? 5).map (fun i => (i.zero, i.size, i.bytes)) = some (some (.int .u8 0), 1, 1) := by kernel_rfl
theorem made_u8 (n : Nat) : madeCells #[.int .u8 0] n = (Array.replicate n (Value.int .u8 0)) := by
  apply Array.ext
  · simp [size_madeCells]
  · intro i h1 h2
    simp [madeCells, Nat.mod_one]
theorem by_blank {w : World} {g : Nat} {t : TypeId} {n : Nat} (h : Blk w g t (Array.replicate n (Value.int .u8 0))) : By w g (List.replicate n 0) :=
  ⟨h.lt, fun j hj => by
    rw [List.length_replicate] at hj
    rw [h.cell]
    simp [byt, hj], fun j _ => h.frozen j⟩
theorem blank_any (b : Int) (w : World) : Calls Try.prog 29 #[.int .i64 b] w (BlankRes w b) := by
  cases hs : bitsB b with
  | false =>
    have H := Lib.hid hs
    clear hs
    go_enter Try.func29, Try.ntmps29
    go_wp2_with fail
    refine (isBits_any b _).mono ?_
    rintro e w' ⟨rfl, rfl⟩
    rw [H.out]
    go_wp2_with fail
    exact bodyPost_ret (v := .tuple #[workZ, errV _]) (by simp [results, Try.results29, go_sem]; rfl) rfl ⟨below_al (below_0 _) _, .inr ⟨H.out, _, rfl⟩⟩
  | true =>
    obtain ⟨B, rfl, b1, b2⟩ := bits_nat hs
    obtain ⟨p1, p2⟩ := pow_bd b1 b2
    obtain ⟨i0, hi0, hz0, hz1, hz2⟩ := info_parts Try.infoU8
    obtain ⟨N, hN⟩ : ∃ N : Nat, 2 ^ B = N := ⟨_, rfl⟩
    have hNI : (2 : Int) ^ B = (N : Int) := by rw [← hN]; simp
    rw [hN] at p1 p2
    have hsh : wrap64 ((2 : Int) ^ B) = (N : Int) := by rw [hNI]; unfold wrap64; omega
    have hmk : ∀ W, (Instr.makeSlice 46 (.int .i64 (N : Int)) (.int .i64 (N : Int))).run Try.prog W = .ok (.slice (some ⟨W.heap.size, 0, none⟩) N N) (W.alloc (.cells (madeCells (Value.int .u8 0).cells N) 5)) := fun W =>
      run_make_n (P := Try.prog) 46 5 i0 (.int .u8 0) Try.underlying46 hi0 hz0 hz1 .i64 .i64 N N (Nat.le_refl _) (by rw [hz2]; omega) (by omega) W
    have H := Lib.hid hs
    have HN := Lib.hid hN
    clear hs hN hNI
    go_enter Try.func29, Try.ntmps29
    go_wp2_with fail
    refine (isBits_any _ _).mono ?_
    rintro e w' ⟨rfl, rfl⟩
    rw [H.out]
    go_wp2_with fail
    refine bodyPost_ret (v := .tuple #[.agg (workV B ⟨#[]⟩ (w.heap.size + 1) N N), .nilIface]) (by simp [results, Try.results29, go_sem]) rfl
      ⟨below_al (below_al (below_0 _) _) _, .inl ⟨H.out, w.heap.size + 1, Nat.le_succ _, by rw [Int.toNat_natCast, HN.out], ?_⟩⟩
    rw [Int.toNat_natCast, HN.out]
    refine by_blank (t := 5) ?_
    rw [← made_u8]
    have h := Blk.new (w.alloc (.cells (workV B ⟨#[]⟩ (w.heap.size + 1) N N) 49)) 5 (madeCells #[.int .u8 0] N)
    rw [World.size_alloc] at h
    exact h
end Go.Proofs.Ytgbanhjjieagnaa

/-
  Walks of package cms and of its reference: errors, columns, blank counters.
-/
import Derived.Test.YthjdonhabenmcaaCmsWalk1
namespace Go.Proofs.Ythjdonhabenmcaa
open Go.RowKit
set_option linter.unusedVariables false

/-- The error that package cms hands back. -/
abbrev errV (s : ByteArray) : Value := .iface 65 (.agg #[.string s])
theorem errno_ok (w : World) : Calls Try.prog 31 #[.nilIface] w fun e w' => e = .returned (.int .i64 0) ∧ w.alloc (.cells #[.string ⟨#[]⟩] 65) = w' := by
  have ta : ∀ w, (Instr.typeAssert .nilIface 50 65 true).run Try.prog w = .ok (.tuple #[.agg #[.string ⟨#[]⟩], .bool false]) w := fun _ => by kernel_rfl
  go_enter Try.func31, Try.ntmps31
  go_wp2
  go_ret
  exact ⟨rfl, rfl⟩
theorem errno_err (s : ByteArray) (w : World) : Calls Try.prog 31 #[errV s] w fun e w' => e = .returned (.int .i64 80) ∧ w.alloc (.cells #[.string s] 65) = w' := by
  have ta : ∀ w, (Instr.typeAssert (errV s) 50 65 true).run Try.prog w = .ok (.tuple #[.agg #[.string s], .bool true]) w := fun _ => by kernel_rfl
  go_enter Try.func31, Try.ntmps31
  go_wp2
  go_ret
  exact ⟨rfl, rfl⟩
theorem colF_parts (C : Int) (k : Nat) (h : Int) (hh : U h) (hk : k ≤ 4) (hC : 1 ≤ C) :
    0 ≤ (k : Int) * (h % 4294967296) ∧ (k : Int) * (h % 4294967296) ≤ 17179869180 ∧ 0 ≤ (h / 4294967296 + (k : Int) * (h % 4294967296)) % C ∧ (h / 4294967296 + (k : Int) * (h % 4294967296)) % C < C := by
  obtain ⟨h1, h2⟩ := hh
  have : k = 0 ∨ k = 1 ∨ k = 2 ∨ k = 3 ∨ k = 4 := by omega
  exact ⟨by rcases this with rfl | rfl | rfl | rfl | rfl <;> omega, by rcases this with rfl | rfl | rfl | rfl | rfl <;> omega, Int.emod_nonneg _ (by omega), Int.emod_lt_of_pos _ (by omega)⟩
theorem col_any (r : Int) (C : Nat) (A : Option Addr) (n cap k : Nat) (h : Int) (hh : U h) (hk : k ≤ 4) (hC : 1 ≤ C) (hC2 : C ≤ 32) (w : World) :
    Calls Try.prog 40 #[.agg #[.int .i64 r, .int .i64 C, .slice A n cap], .int .i64 k, .int .u64 h] w fun e w' => e = .returned (.int .i64 (colF C k h)) ∧ w.alloc (.cells #[.int .i64 r, .int .i64 C, .slice A n cap] 48) = w' := by
  obtain ⟨p1, p2, p3, p4⟩ := colF_parts C k h hh hk (by omega)
  obtain ⟨h1, h2⟩ := hh
  go_enter Try.func40, Try.ntmps40
  go_wp2
  go_ret
  exact ⟨ret_int (by rw [colF]), rfl⟩
/-- What Col tells. -/
def ColF (r c : Int) (n : Nat) (row h : Int) : Int := if rightC r c n = true ∧ 0 ≤ row ∧ row < r then colF c row h else 0
theorem Col_any (r c : Int) (A : Option Addr) (n cap : Nat) (row h : Int) (hh : U h) (w : World) :
    Calls Try.prog 19 #[.agg #[.int .i64 r, .int .i64 c, .slice A n cap], .int .i64 row, .int .u64 h] w fun e w' => e = .returned (.int .i64 (ColF r c n row h)) ∧ Below w.heap.size w w' := by
  cases hr : rightC r c n with
  | false =>
    have H := Lib.hid hr
    clear hr
    go_enter Try.func19, Try.ntmps19
    go_wp2_with fail
    refine (right_any r c A n cap _).mono ?_
    rintro e w' ⟨rfl, rfl⟩
    rw [H.out]
    go_wp2_with fail
    go_ret
    exact ⟨ret_int (by simp [ColF, H.out]), below_al (below_al (below_0 _) _) _⟩
  | true =>
    obtain ⟨hs, _⟩ := right_of hr
    obtain ⟨R, C, rfl, rfl, b1, b2, b3⟩ := shape_nat hs
    have b4 : 1 ≤ C ∧ C ≤ 32 := by omega
    obtain ⟨b4, b5⟩ := b4
    have H := Lib.hid hr
    clear hr hs b3
    by_cases h1 : 0 ≤ row
    · by_cases h2 : row < R
      · obtain ⟨k, rfl⟩ : ∃ k : Nat, row = k := ⟨row.toNat, by omega⟩
        have d1 : decide ((k : Int) < 0) = false := by simp
        have d2 : decide (k < R) = true := by simp; omega
        have d3 : decide (R ≤ k) = false := by simp; omega
        go_enter Try.func19, Try.ntmps19
        go_wp2_with fail
        refine (right_any _ _ A n cap _).mono ?_
        rintro e w' ⟨rfl, rfl⟩
        rw [H.out]
        go_wp2_with fail
        refine (col_any _ C A n cap k h hh (by omega) b4 b5 _).mono ?_
        rintro e w' ⟨rfl, rfl⟩
        go_wp2_with fail
        go_ret
        exact ⟨ret_int (by rw [ColF, if_pos ⟨H.out, h1, h2⟩]), below_al (below_al (below_al (below_0 _) _) _) _⟩
      · go_enter Try.func19, Try.ntmps19
        go_wp2_with fail
        refine (right_any _ _ A n cap _).mono ?_
        rintro e w' ⟨rfl, rfl⟩
        rw [H.out]
        go_wp2_with fail
        go_ret
        exact ⟨ret_int (by rw [ColF, if_neg (by omega)]), below_al (below_al (below_0 _) _) _⟩
    · have d1 : decide (row < 0) = true := by simp; omega
      go_enter Try.func19, Try.ntmps19
      go_wp2_with fail
      refine (right_any _ _ A n cap _).mono ?_
      rintro e w' ⟨rfl, rfl⟩
      rw [H.out]
      go_wp2_with fail
      go_ret
      exact ⟨ret_int (by rw [ColF, if_neg (by omega)]), below_al (below_al (below_0 _) _) _⟩
theorem rCol_any (r c : Int) (A : Option Addr) (n cap : Nat) (row h : Int) (hh : U h) (w : World) :
    Calls Try.prog 20 #[.agg #[.int .i64 r, .int .i64 c, .slice A n cap], .int .i64 row, .int .u64 h] w fun e w' => e = .returned (.int .i64 (ColF r c n row h)) ∧ Below w.heap.size w w' := by
  cases hr : rightC r c n with
  | false =>
    have H := Lib.hid hr
    clear hr
    go_enter Try.func20, Try.ntmps20
    go_wp2_with fail
    refine (rright_any r c A n cap _).mono ?_
    rintro e w' ⟨rfl, rfl⟩
    rw [H.out]
    go_wp2_with fail
    go_ret
    exact ⟨ret_int (by simp [ColF, H.out]), below_al (below_al (below_0 _) _) _⟩
  | true =>
    obtain ⟨hs, _⟩ := right_of hr
    obtain ⟨R, C, rfl, rfl, b1, b2, b3⟩ := shape_nat hs
    have b4 : 1 ≤ C ∧ C ≤ 32 := by omega
    obtain ⟨b4, b5⟩ := b4
    have H := Lib.hid hr
    clear hr hs b3
    by_cases h1 : 0 ≤ row
    · by_cases h2 : row < R
      · obtain ⟨k, rfl⟩ : ∃ k : Nat, row = k := ⟨row.toNat, by omega⟩
        obtain ⟨p1, p2, p3, p4⟩ := colF_parts C k h hh (by omega) (by omega)
        obtain ⟨g1, g2⟩ := hh
        have d1 : decide ((k : Int) < 0) = false := by simp
        have d2 : decide (k < R) = true := by simp; omega
        have d3 : decide (R ≤ k) = false := by simp; omega
        go_enter Try.func20, Try.ntmps20
        go_wp2_with fail
        refine (rright_any _ _ A n cap _).mono ?_
        rintro e w' ⟨rfl, rfl⟩
        rw [H.out]
        go_wp2_with fail
        go_ret
        exact ⟨ret_int (by rw [ColF, if_pos ⟨H.out, h1, h2⟩, colF]), below_al (below_al (below_0 _) _) _⟩
      · go_enter Try.func20, Try.ntmps20
        go_wp2_with fail
        refine (rright_any _ _ A n cap _).mono ?_
        rintro e w' ⟨rfl, rfl⟩
        rw [H.out]
        go_wp2_with fail
        go_ret
        exact ⟨ret_int (by rw [ColF, if_neg (by omega)]), below_al (below_al (below_0 _) _) _⟩
    · have d1 : decide (row < 0) = true := by simp; omega
      go_enter Try.func20, Try.ntmps20
      go_wp2_with fail
      refine (rright_any _ _ A n cap _).mono ?_
      rintro e w' ⟨rfl, rfl⟩
      rw [H.out]
      go_wp2_with fail
      go_ret
      exact ⟨ret_int (by rw [ColF, if_neg (by omega)]), below_al (below_al (below_0 _) _) _⟩
/-- What blank hands back: counters that are all 0, in a block of their own. -/
def BlankRes (w : World) (r c : Int) (e : Ending) (w' : World) : Prop :=
  Below w.heap.size w w' ∧ ((shapeB r c = true ∧ ∃ g, w.heap.size ≤ g ∧ e = .returned (.tuple #[.agg #[.int .i64 r, .int .i64 c, .slice (some ⟨g, 0, none⟩) (r * c).toNat (r * c).toNat], .nilIface]) ∧ Blk w' g 25 ((List.replicate (r * c).toNat (0 : Int)).map (Value.int .u64)).toArray) ∨
    (shapeB r c = false ∧ ∃ s, e = .returned (.tuple #[.agg #[.int .i64 0, .int .i64 0, .slice none 0 0], errV s])))
theorem Try.infoU64 : (Try.prog.info? 25).map (fun i => (i.zero, i.size, i.bytes)) = some (some (.int .u64 0), 1, 8) := by kernel_rfl
theorem made_u64 (n : Nat) : madeCells #[.int .u64 0] n = ((List.replicate n (0 : Int)).map (Value.int .u64)).toArray := by
  apply Array.ext
  · simp [size_madeCells]
  · intro i h1 h2
    simp [madeCells, Nat.mod_one]
theorem blank_any (r c : Int) (w : World) : Calls Try.prog 30 #[.int .i64 r, .int .i64 c] w (BlankRes w r c) := by
  cases hs : shapeB r c with
  | false =>
    have H := Lib.hid hs
    clear hs
    go_enter Try.func30, Try.ntmps30
    go_wp2_with fail
    refine (isShape_any r c _).mono ?_
    rintro e w' ⟨rfl, rfl⟩
    rw [H.out]
    go_wp2_with fail
    exact bodyPost_ret (v := .tuple #[.agg #[.int .i64 0, .int .i64 0, .slice none 0 0], errV _]) (by simp [results, Try.results30, go_sem]; rfl) rfl ⟨below_al (below_0 _) _, .inr ⟨H.out, _, rfl⟩⟩
  | true =>
    obtain ⟨R, C, rfl, rfl, b1, b2, b3⟩ := shape_nat hs
    have hm := shape_mul b2 b3
    obtain ⟨i0, hi0, hz0, hz1, hz2⟩ := info_parts Try.infoU64
    have hmk : ∀ W, (Instr.makeSlice 22 (.int .i64 ((R : Int) * (C : Int))) (.int .i64 ((R : Int) * (C : Int)))).run Try.prog W = .ok (.slice (some ⟨W.heap.size, 0, none⟩) (R * C) (R * C)) (W.alloc (.cells (madeCells (Value.int .u64 0).cells (R * C)) 25)) := fun W => by
      have := run_make_n (P := Try.prog) 22 25 i0 (.int .u64 0) Try.underlying22 hi0 hz0 hz1 .i64 .i64 (R * C) (R * C) (Nat.le_refl _) (by rw [hz2]; omega) (by omega) W
      rwa [Int.natCast_mul] at this
    have hm1 : 0 ≤ (R : Int) * (C : Int) := by rw [← Int.natCast_mul]; omega
    have hm2 : (R : Int) * (C : Int) ≤ 128 := by rw [← Int.natCast_mul]; omega
    have H := Lib.hid hs
    clear hs b3
    go_enter Try.func30, Try.ntmps30
    go_wp2_with fail
    refine (isShape_any _ _ _).mono ?_
    rintro e w' ⟨rfl, rfl⟩
    rw [H.out]
    go_wp2_with fail
    have hn : ((R : Int) * (C : Int)).toNat = R * C := by rw [← Int.natCast_mul, Int.toNat_natCast]
    refine bodyPost_ret (v := .tuple #[.agg #[.int .i64 R, .int .i64 C, .slice (some ⟨w.heap.size + 1, 0, none⟩) (R * C) (R * C)], .nilIface]) (by simp [results, Try.results30, go_sem]) rfl
      ⟨below_al (below_al (below_0 _) _) _, .inl ⟨H.out, w.heap.size + 1, Nat.le_succ _, by rw [hn], ?_⟩⟩
    rw [hn, ← made_u64]
    have h := Blk.new (w.alloc (.cells #[.int .i64 R, .int .i64 C, .slice (some ⟨w.heap.size + 1, 0, none⟩) (R * C) (R * C)] 48)) 25 (madeCells #[.int .u64 0] (R * C))
    rw [World.size_alloc] at h
    exact h
end Go.Proofs.Ythjdonhabenmcaa

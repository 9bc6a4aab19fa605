/-
  Walks of the reference of chapter 6: Add, Merge.
-/
import Derived.Test.YtdobgfadnenhaaaExactRef4
import Derived.Test.YtdobgfadnenhaaaExactRef2
import Derived.Test.YtdobgfadnenhaaaGrow
namespace Go.Proofs.Ytdobgfadnenhaaa
open Go.RowKit
set_option linter.unusedVariables false
theorem insAll_nil_self {l : List Int} (h : Rises l) : insAll [] l = l :=
  rises_ext (rises_insAll rises_nil l) h fun x => by simp [mem_insAll]
theorem ofF_app {l m : List Int} (h : rightB l = true) : ofF (l ++ m) = cut64 (insAll l m) := by
  rw [ofF, insAll_append, insAll_nil_self (rightB_iff.1 h).2]
set_option maxHeartbeats 1000000 in
theorem radd_any (w : World) (c : Nat) (A : Option Addr) (l : List Int) (n : Int) (hS : Sl w w.heap.size A l) (hc : l.length ≤ c) (hl : l.length ≤ 65535) :
    Calls Try.prog 13 #[.agg #[.slice A l.length c], .int .u64 n] w (RfRes w (addF l n)) := by
  obtain ⟨i0, hi0, hz0, hz1, hz2⟩ := info_parts Try.infoU64
  have B0 := Lib.hid (Boxed.new w 24 (.slice A l.length c))
  have HS := Lib.hid ((hS.later (below_al (below_0 _) (.cells #[.slice A l.length c] 24))).later (below_al (below_0 _) (.cells #[.slice none 0 0] 24)))
  have B1 := Lib.hid (Boxed.new (w.alloc (.cells #[.slice A l.length c] 24)) 24 (.slice none 0 0))
  replace B0 := Lib.hid (boxed_below B0.out (below_al (below_0 _) (.cells #[.slice none 0 0] 24)))
  have DA : Below w.heap.size w ((w.alloc (.cells #[.slice A l.length c] 24)).alloc (.cells #[.slice none 0 0] 24)) := below_al (below_al (below_0 _) _) _
  clear hS
  cases hr : rightB l with
  | true =>
    have HF : Hid (addF l n = ofF (l ++ [n])) := by show addF l n = _; rw [addF, if_pos hr, ofF_app hr]
    have HR := Lib.hid hr
    clear hr
    go_enter Try.func13, Try.ntmps13
    go_wp2_with fail
    refine (rright_b _ c A l HS.out (by omega)).mono ?_
    rintro e W ⟨rfl, hb⟩
    rw [HR.out]
    replace HS := Lib.hid (HS.out.later hb)
    replace B0 := Lib.hid (boxed_below B0.out hb)
    replace B1 := Lib.hid (boxed_below B1.out hb)
    have T := Below.two DA hb
    have k0 := B0.out.cell
    have k1 := B1.out.cell
    clear hb DA
    simp only [World.size_alloc] at k1
    have tok0 : True := trivial
    go_wp2_with (first | (at_builtin; have _t1 := tok1; refine wpList_append_own _ rfl (.tmp 14) (.tmp 16) 22 rfl W.heap.size 25 i0 (.int .u64 0) 1 8 Try.underlying22 hi0 hz0 hz1 hz2 rfl (by decide) (.slice A1 l.length c1) l.length _ rfl (hown1.alloc _) ⟨w1.heap.size, 0, none⟩ 1 1 [.int .u64 n] rfl rfl (cell_one _ _ _ _ rfl) (by simp [Value.oneCell']) (by unfold maxLen; omega) (by omega) (by have := hg1.size; simp; omega) ?_; intro v2 w2 hown2 hg2 _; obtain ⟨A2, c2, rfl, hc2, hr2, hf2⟩ := owns_form hown2; clear tok1) | (at_builtin; have _t0 := tok0; refine wpList_append_rd _ rfl (.tmp 11) (.tmp 13) 22 rfl W.heap.size 25 i0 (.int .u64 0) 1 8 Try.underlying22 hi0 hz0 hz1 hz2 rfl (by decide) (.slice none 0 0) 0 [] rfl (World.ownsRow_nil _ _ _ _) W.heap.size A l.length c (l.map (Value.int .u64)) rfl (by simp) HS.out one_u64 (by unfold maxLen; omega) (by omega) (Nat.le_refl _) ?_; intro v1 w1 hown1 hg1 _; simp only [Nat.zero_add, List.nil_append] at hown1; obtain ⟨A1, c1, rfl, hc1, hr1, hf1⟩ := owns_form hown1; clear tok0; have tok1 : True := trivial))
    have HB := put_below W n w1 w2 _ _ _ hg1 hown1 hg2
    have HL : (l ++ [n]).length = l.length + 1 := by simp
    have HS2 : Sl w2 w2.heap.size A2 (l ++ [n]) := by
      have := Rd.own hown2
      simpa [Sl] using this
    rw [← HL]
    refine (rof_any w2 c2 A2 (l ++ [n]) HS2 (by omega)).mono ?_
    rintro e w3 ⟨hb3, A3, c3, rfl, hS3⟩
    have B3 := boxed_below (boxed_below B1.out HB) hb3
    simp only [World.size_alloc] at B3
    have T3 := Below.two (Below.two T HB) hb3
    have k3 := B3.cell
    have f3 := B3.frozen
    have hcs := (B3.set (.slice A3 (ofF (l ++ [n])).1.length c3)).cell
    have HS3 := Lib.hid hS3
    clear hS3 k0 k1 hg1 hg2 hown1 hown2 hr1 hr2 hf1 hf2 HS2
    go_wp2_with fail
    refine bodyPost_ret (v := .tuple #[.agg #[.slice A3 (ofF (l ++ [n])).1.length c3], .int .i64 (ofF (l ++ [n])).2]) (by simp [results, Try.results13, go_sem, hcs]) rfl ⟨T3.setCell (by simp) _, A3, c3, by rw [HF.out], ?_⟩
    rw [HF.out]
    exact sl_set HS3.out B3 (fun n e => by cases e) _
  | false =>
    have HF : Hid (addF l n = ([], 60)) := by show addF l n = _; rw [addF, if_neg (by simp [hr])]
    have HR := Lib.hid hr
    clear hr
    go_enter Try.func13, Try.ntmps13
    go_wp2_with fail
    refine (rright_b _ c A l HS.out (by omega)).mono ?_
    rintro e W ⟨rfl, hb⟩
    rw [HR.out]
    replace B1 := Lib.hid (boxed_below B1.out hb)
    have T := Below.two DA hb
    have k1 := B1.out.cell
    have f1 := B1.out.frozen
    have hcs := (B1.out.set (.slice none 0 0)).cell
    simp only [World.size_alloc] at k1 f1 hcs
    go_wp2_with fail
    refine bodyPost_ret (v := .tuple #[.agg #[.slice none 0 0], .int .i64 60]) (by simp [results, Try.results13, go_sem, hcs]) rfl ⟨T.setCell (by simp) _, none, 0, by rw [HF.out]; rfl, by rw [HF.out]; exact Sl.nil⟩
end Go.Proofs.Ytdobgfadnenhaaa

/-
  Merged out of: LabEnd LabText LabParse LabFew.
-/
import Derived.Deep.RegionHeld3
import Derived.Test.YtgfoeicfigfepaaDoorScLab
import Derived.Test.YtgfoeicfigfepaaDoorRows
namespace Go.Proofs.YtgfoeicfigfepaaDoor
section
open Go.RowKit
set_option linter.unusedVariables false
set_option linter.unusedSimpArgs false
theorem step_append_rl {P : Program} {w : World} {ops : Array Oper} {o : Oper} {a : Act} {K : Act → World → Prop} {Q : Exit → Act → World → Prop} {E : Prop} (hgd : o.guard = none) (s x : Operand) (t : TypeId)
    (ho : o.op = .call { callee := .builtin .append, args := #[s, x], argTypes := #[t, t] })
    (base : Nat) (e : TypeId) (i : TypeInfo) (z : Value) (size bytes : Nat) (ht : P.underlying t = some (.slice e)) (hi : P.info? e = some i) (hz : i.zero = some z)
    (hsize : i.size = size) (hby : i.bytes = bytes) (hzs : z.cells.size = size) (hsz : 0 < size)
    (v : Value) (n : Nat) (xs : List Value) (hs : a.eval s = v) (hown : w.ownsRow base e size v n xs)
    (B : Nat) (A : Option Addr) (m c : Nat) (news : List Value) (hx : a.eval x = .slice A m c) (hm : news.length = m * size) (hr : Rd w B A news) (h1 : ∀ u ∈ news, u.oneCell' = true)
    (h63 : n + m ≤ maxLen) (hbytes : (n + m) * bytes ≤ 140737488355328) (hbase : base ≤ w.heap.size)
    (h : ∀ A' c' w', w'.ownsRow base e size (.slice A' (n + m) c') (n + m) (xs ++ news) → w.grownBy w' v.ownBlock → K (a.put o.dst (.slice A' (n + m) c')) w') :
    if Region.wanted o (yielded ops a.tmps) = true then Oper.wp P o a w K Q else E := by
  have hw : Region.wanted o (yielded ops a.tmps) = true := by simp [Region.wanted, hgd]
  rw [if_pos hw]
  obtain ⟨v', w', hrun, h2, h3, h4⟩ := run_append_rd (P := P) w base t o.type e i z size bytes ht hi hz hsize hby hzs hsz v n xs hown B A m c news hm hr h1 h63 hbytes hbase
  obtain ⟨A', c', rfl, _⟩ := owns_form h2
  unfold Oper.wp execOp
  simp only [ho, resolve, invoke, builtin, Sem.run_bind, Sem.run_pure, Result.andThen_ok, List.map_toArray, List.map_cons, List.map_nil, hs, hx, hrun]
  exact h A' c' w' h2 h3
theorem Tryd.infoLab : (Tryd.prog.info? 37).map (fun i => (i.zero, i.size, i.bytes)) = some (some (.agg #[.string ⟨#[]⟩, .string ⟨#[]⟩]), 2, 32) := by kernel_rfl
theorem flatL_snoc (l : List Lab) (x : Lab) : flatL (l ++ [x]) = flatL l ++ [.string x.1, .string x.2] := by simp [flatL]
theorem rd_lab {w : World} {g : Nat} {t : TypeId} {cs : List Value} (h : Blk w g t cs.toArray) : Rd w (g + 1) (some ⟨g, 0, none⟩) cs := fun _ =>
  ⟨g, 0, rfl, Nat.lt_succ_self _, fun j u hj => by rw [Nat.zero_add, h.cell]; simpa using hj⟩
theorem own_form2 {w : World} {B n : Nat} {v : Value} {xs : List Value} (h : w.ownsRow B 37 2 v n xs) : ∃ A c, v = .slice A n c := by
  obtain ⟨_, ⟨h, e⟩ | ⟨g, cap, cur, hv, _⟩⟩ := h
  · subst e; exact ⟨none, 0, h⟩
  · exact ⟨_, _, hv⟩
theorem own_row {w : World} {B n : Nat} {v : Value} {xs : List Value} (h : w.ownsRow B 37 2 v n xs) : ∀ g, v.ownBlock = some g → B ≤ g ∧ ∃ c fz, w.heap[g]? = some (.cells c 37 fz) := by
  intro g hg
  obtain ⟨_, ⟨h, e⟩ | ⟨r, cap, cur, hv, hb, hh, _⟩⟩ := h
  · subst h; cases hg
  · subst hv; cases hg; exact ⟨hb, _, _, hh⟩
end
section
open Go.RowKit
set_option linter.unusedVariables false
set_option linter.unusedSimpArgs false
attribute [local go_sem] Oper.semAt_some
theorem own_kept_nc {W W' : World} {B n sz : Nat} {t : TypeId} {v : Value} {xs : List Value} {row : Option Nat} (h : W.ownsRow B t sz v n xs) (hg : W.grownBy W' row) (hr : ∀ r, row = some r → ∃ o : Obj, W.heap[r]? = some o ∧ o.isCells = false) : W'.ownsRow B t sz v n xs := by
  refine h.kept hg ?_
  cases e : v.ownBlock with
  | none => exact .inl rfl
  | some r =>
    refine .inr ?_
    rintro rfl
    obtain ⟨o, ho, hc⟩ := hr r rfl
    obtain ⟨_, ⟨hv, _⟩ | ⟨g, cap, cur, hv, _, hh, _⟩⟩ := h
    · subst hv; cases e
    · subst hv; cases e; rw [hh] at ho; cases ho; cases hc
theorem own_later {W W' : World} {B n sz : Nat} {t : TypeId} {v : Value} {xs : List Value} (h : W.ownsRow B t sz v n xs) (hb : Below W.heap.size W W') : W'.ownsRow B t sz v n xs :=
  h.kept (row := none) ⟨hb.os, hb.tape, hb.output, hb.size, fun i hi _ => hb.block i hi⟩ (by
    cases e : v.ownBlock with
    | none => exact .inl rfl
    | some r => exact .inr (by simp))
theorem own_row1 {w : World} {B n sz : Nat} {t : TypeId} {v : Value} {xs : List Value} (h : w.ownsRow B t sz v n xs) : ∀ g, v.ownBlock = some g → B ≤ g ∧ ∃ c fz, w.heap[g]? = some (.cells c t fz) := by
  intro g hg
  obtain ⟨_, ⟨h, e⟩ | ⟨r, cap, cur, hv, hb, hh, _⟩⟩ := h
  · subst h; cases hg
  · subst hv; cases hg; exact ⟨hb, _, _, hh⟩
theorem keeps_grow {W W' : World} {r : Option Nat} (hg : W.grownBy W' r) (hr : ∀ k, r = some k → ∃ c t fz, W.heap[k]? = some (.cells c t fz)) : KeepsOthers W W' :=
  ⟨hg.size, fun k o hk hc => (hg.block k (Array.getElem?_eq_some_iff.1 hk).1 (fun e => by
    obtain ⟨c, t, fz, h⟩ := hr k e.symm
    rw [h] at hk; cases hk; cases hc)).trans hk⟩
theorem size_arr (l : List UInt8) : (ByteArray.mk l.toArray).size = l.length := by simp [ByteArray.size]
theorem stringOp_add {a b : ByteArray} (h : a.size + b.size ≤ 1000000) : Op.stringOp .add a b = pure (.string (a ++ b)) := by
  rw [Op.stringOp, if_neg]
  show ¬ ((a.size + b.size : Nat) : Int) > 9223372036854775807
  omega
end
section
open Go.RowKit
set_option linter.unusedVariables false
set_option linter.unusedSimpArgs false
theorem own_lb {w : World} {B r n cap : Nat} {l : List Lab} (h : w.ownsRow B 37 2 (.slice (some ⟨r, 0, none⟩) n cap) n (flatL l)) : Lb w w.heap.size (some ⟨r, 0, none⟩) l := fun _ =>
  ⟨r, 0, rfl, (h.lt r rfl).2, fun j u hj => by
    rw [Nat.zero_add, h.cellAt j (by rw [← h.1]; exact (List.getElem?_eq_some_iff.1 hj).1)]
    exact hj⟩
end
section
open Go.RowKit
set_option linter.unusedVariables false
set_option linter.unusedSimpArgs false
def fewL (x : Lab) : Lab := (x.1.extract 0 (min x.1.size 20), x.2.extract 0 (min x.2.size 120))
theorem fewL_le (x : Lab) : (fewL x).1.size ≤ 20 ∧ (fewL x).2.size ≤ 120 := by
  constructor
  · show (x.1.extract 0 _).size ≤ 20; rw [ByteArray.size_extract]; omega
  · show (x.2.extract 0 _).size ≤ 120; rw [ByteArray.size_extract]; omega
theorem take_map_succ {l : List Lab} {k : Nat} (h : k < l.length) : (l.take (k + 1)).map fewL = (l.take k).map fewL ++ [fewL (lth l k)] := by
  rw [take_lth_succ h, List.map_append]; rfl
theorem own_cap {w : World} {B n : Nat} {A : Option Addr} {c : Nat} {xs : List Value} (h : w.ownsRow B 37 2 (.slice A n c) n xs) : n ≤ c := by
  obtain ⟨h0, ⟨h, e⟩ | ⟨g, cap, cur, hv, hb, hh, hc, hcc, hxx⟩⟩ := h
  · injection h with h1 h2 h3; omega
  · injection hv with h1 h2 h3; omega
set_option maxRecDepth 100000 in
set_option maxHeartbeats 4000000 in
theorem few_any (A : Option Addr) (l : List Lab) (n cap : Nat) (hk : l.length = min n 10) (hn : n ≤ maxLen) (hs : ∀ x ∈ l, x.1.size ≤ maxLen ∧ x.2.size ≤ maxLen) (w : World) (hS : Lb w w.heap.size A l) :
    Calls Tryd.prog 9 #[.slice A n cap] w fun e w' => (∃ A' c', e = .returned (.slice A' (l.map fewL).length c') ∧ (l.map fewL).length ≤ c' ∧ Lb w' w'.heap.size A' (l.map fewL)) ∧ Below w.heap.size w w' := by
  have HS := Lib.hid hS
  have HZ := Lib.hid hs
  have hl10 : l.length ≤ 10 := by omega
  have hln : l.length ≤ n := by omega
  have HK : Hid (l.length < n → l.length = 10) := fun h => by omega
  have hn2 : n ≤ 9223372036854775807 := by unfold maxLen at hn; omega
  obtain ⟨i0, hi0, hz0, hz1, hz2⟩ := info_parts Tryd.infoLab
  clear hS hs hk
  go_enter Tryd.func9, Tryd.ntmps9
  go_wp2_with fail
  go_loopw [3, 4] (fun v i wr => ∃ k : Nat, i = .int .i64 (k : Int) ∧ k ≤ l.length ∧ Hid (wr.ownsRow w.heap.size 37 2 v k (flatL ((l.take k).map fewL))) ∧ Hid (Below w.heap.size w wr)) (fun _ i _ => l.length - (RowKit.intOf i).toNat)
  case atStart => exact ⟨0, rfl, Nat.zero_le _, ⟨by simp [flatL], .inl ⟨rfl, rfl⟩⟩, below_0 _⟩
  case round =>
    obtain ⟨k, rfl, hkl, HO, HB⟩ := hrel
    by_cases h1 : k < l.length
    · have d1 : decide ((k : Int) < (n : Int)) = true := decide_eq_true (by omega)
      have d2 : decide ((k : Int) < 10) = true := decide_eq_true (by omega)
      obtain ⟨A1, c1, rfl⟩ := own_form2 HO.out
      obtain ⟨b, off, rfl, hb, hc⟩ := HS.out.at_ (by omega)
      obtain ⟨c1', c2'⟩ := hc k h1
      have i1 := (HB.out.cell (p := ⟨b, off + k * 2, none⟩) hb).trans c1'
      have i2 := (HB.out.cell (p := ⟨b, off + k * 2 + 1, none⟩) hb).trans c2'
      have hbw : b < wr.heap.size := by have := HB.out.size; omega
      have hi1 : (0 : Int) ≤ (k : Int) := by omega
      have hi2 : (k : Int) < (n : Int) := by omega
      have HTK := Lib.hid (take_map_succ h1)
      have hm : lth l k ∈ l := by simp [lth, h1]
      obtain ⟨z1, z2⟩ := HZ.out _ hm
      clear hc c1' c2' hm
      generalize lth l k = x at *
      obtain ⟨x1, x2⟩ := x
      simp only at i1 i2 z1 z2
      unfold maxLen at z1 z2
      obtain ⟨a1, ha1⟩ : ∃ a : Nat, min x1.size 20 = a := ⟨_, rfl⟩
      obtain ⟨a2, ha2⟩ : ∃ a : Nat, min x2.size 120 = a := ⟨_, rfl⟩
      have m1 : min (x1.size : Int) 20 = (a1 : Int) := by omega
      have m2 : min (x2.size : Int) 120 = (a2 : Int) := by omega
      have l1 : (0 : Int) ≤ (a1 : Int) := by omega
      have l2 : (0 : Int) ≤ (a2 : Int) := by omega
      have l3 : (a1 : Int) ≤ (x1.size : Int) := by omega
      have l4 : (a2 : Int) ≤ (x2.size : Int) := by omega
      have HF : Hid (fewL (x1, x2) = (x1.extract 0 a1, x2.extract 0 a2)) := by show _ = _; rw [← ha1, ← ha2]; rfl
      clear ha1 ha2
      go_wp2_with fail
      refine wp_region_held_drew (S := (fun w' => w'.cell? ⟨b, off + k * 2, none⟩ = some (.string x1) ∧ w'.cell? ⟨b, off + k * 2 + 1, none⟩ = some (.string x2))) (by kernel_rfl) ⟨i1, i2⟩ (fun hHeld => ?_)
      refine wpAnyH_take (i := 0) (v := (.slice A1 k c1)) rfl (by kernel_rfl) (by kernel_rfl) (by kernel_rfl) (fun _ _ _ h => h) (Or.inl ⟨by rfl, ?_⟩) hHeld ?_
      · (intro w hSw; (try dsimp only at hSw); (try obtain ⟨s0, s1⟩ := hSw); go_simp)
      simp only [Act.put, List.setIfInBounds_toArray, List.set_cons_zero, List.set_cons_succ]
      refine wpAnyH_take (i := 1) (v := (.slice (some ⟨b, off, none⟩) n cap)) rfl (by kernel_rfl) (by kernel_rfl) (by kernel_rfl) (fun _ _ _ h => h) (Or.inl ⟨by rfl, ?_⟩) hHeld ?_
      · (intro w hSw; (try dsimp only at hSw); (try obtain ⟨s0, s1⟩ := hSw); go_simp)
      simp only [Act.put, List.setIfInBounds_toArray, List.set_cons_zero, List.set_cons_succ]
      refine wpAnyH_take (i := 2) (v := (.int .i64 (k : Int))) rfl (by kernel_rfl) (by kernel_rfl) (by kernel_rfl) (fun _ _ _ h => h) (Or.inl ⟨by rfl, ?_⟩) hHeld ?_
      · (intro w hSw; (try dsimp only at hSw); (try obtain ⟨s0, s1⟩ := hSw); go_simp)
      simp only [Act.put, List.setIfInBounds_toArray, List.set_cons_zero, List.set_cons_succ]
      refine wpAnyH_take (i := 3) (v := (.pointer (some ⟨b, off + k * 2, none⟩))) rfl (by kernel_rfl) (by kernel_rfl) (by kernel_rfl) (fun _ _ _ h => h) (Or.inl ⟨by rfl, ?_⟩) hHeld ?_
      · (intro w hSw; (try dsimp only at hSw); (try obtain ⟨s0, s1⟩ := hSw); go_simp)
      simp only [Act.put, List.setIfInBounds_toArray, List.set_cons_zero, List.set_cons_succ]
      refine wpAnyH_take (i := 4) (v := (.pointer (some ⟨b, off + k * 2, none⟩))) rfl (by kernel_rfl) (by kernel_rfl) (by kernel_rfl) (fun _ _ _ h => h) (Or.inl ⟨by rfl, ?_⟩) hHeld ?_
      · (intro w hSw; (try dsimp only at hSw); (try obtain ⟨s0, s1⟩ := hSw); go_simp)
      simp only [Act.put, List.setIfInBounds_toArray, List.set_cons_zero, List.set_cons_succ]
      refine wpAnyH_take (i := 5) (v := (.string x1)) rfl (by kernel_rfl) (by kernel_rfl) (by kernel_rfl) (fun _ _ _ h => h) (Or.inl ⟨by rfl, ?_⟩) hHeld ?_
      · (intro w hSw; (try dsimp only at hSw); (try obtain ⟨s0, s1⟩ := hSw); go_simp)
      simp only [Act.put, List.setIfInBounds_toArray, List.set_cons_zero, List.set_cons_succ]
      refine wpAnyH_take (i := 6) (v := (.slice (some ⟨b, off, none⟩) n cap)) rfl (by kernel_rfl) (by kernel_rfl) (by kernel_rfl) (fun _ _ _ h => h) (Or.inl ⟨by rfl, ?_⟩) hHeld ?_
      · (intro w hSw; (try dsimp only at hSw); (try obtain ⟨s0, s1⟩ := hSw); go_simp)
      simp only [Act.put, List.setIfInBounds_toArray, List.set_cons_zero, List.set_cons_succ]
      refine wpAnyH_take (i := 7) (v := (.int .i64 (k : Int))) rfl (by kernel_rfl) (by kernel_rfl) (by kernel_rfl) (fun _ _ _ h => h) (Or.inl ⟨by rfl, ?_⟩) hHeld ?_
      · (intro w hSw; (try dsimp only at hSw); (try obtain ⟨s0, s1⟩ := hSw); go_simp)
      simp only [Act.put, List.setIfInBounds_toArray, List.set_cons_zero, List.set_cons_succ]
      refine wpAnyH_take (i := 8) (v := (.pointer (some ⟨b, off + k * 2, none⟩))) rfl (by kernel_rfl) (by kernel_rfl) (by kernel_rfl) (fun _ _ _ h => h) (Or.inl ⟨by rfl, ?_⟩) hHeld ?_
      · (intro w hSw; (try dsimp only at hSw); (try obtain ⟨s0, s1⟩ := hSw); go_simp)
      simp only [Act.put, List.setIfInBounds_toArray, List.set_cons_zero, List.set_cons_succ]
      refine wpAnyH_take (i := 9) (v := (.pointer (some ⟨b, off + k * 2, none⟩))) rfl (by kernel_rfl) (by kernel_rfl) (by kernel_rfl) (fun _ _ _ h => h) (Or.inl ⟨by rfl, ?_⟩) hHeld ?_
      · (intro w hSw; (try dsimp only at hSw); (try obtain ⟨s0, s1⟩ := hSw); go_simp)
      simp only [Act.put, List.setIfInBounds_toArray, List.set_cons_zero, List.set_cons_succ]
      refine wpAnyH_take (i := 10) (v := (.string x1)) rfl (by kernel_rfl) (by kernel_rfl) (by kernel_rfl) (fun _ _ _ h => h) (Or.inl ⟨by rfl, ?_⟩) hHeld ?_
      · (intro w hSw; (try dsimp only at hSw); (try obtain ⟨s0, s1⟩ := hSw); go_simp)
      simp only [Act.put, List.setIfInBounds_toArray, List.set_cons_zero, List.set_cons_succ]
      refine wpAnyH_take (i := 11) (v := (.int .i64 (x1.size : Int))) rfl (by kernel_rfl) (by kernel_rfl) (by kernel_rfl) (fun _ _ _ h => h) (Or.inl ⟨by rfl, ?_⟩) hHeld ?_
      · (intro w hSw; (try dsimp only at hSw); (try obtain ⟨s0, s1⟩ := hSw); go_simp)
      simp only [Act.put, List.setIfInBounds_toArray, List.set_cons_zero, List.set_cons_succ]
      refine wpAnyH_take (i := 12) (v := (.int .i64 (a1 : Int))) rfl (by kernel_rfl) (by kernel_rfl) (by kernel_rfl) (fun _ _ _ h => h) (Or.inl ⟨by rfl, ?_⟩) hHeld ?_
      · (intro w hSw; (try dsimp only at hSw); (try obtain ⟨s0, s1⟩ := hSw); go_simp)
      simp only [Act.put, List.setIfInBounds_toArray, List.set_cons_zero, List.set_cons_succ]
      refine wpAnyH_take (i := 13) (v := (.string (x1.extract 0 a1))) rfl (by kernel_rfl) (by kernel_rfl) (by kernel_rfl) (fun _ _ _ h => h) (Or.inl ⟨by rfl, ?_⟩) hHeld ?_
      · (intro w hSw; (try dsimp only at hSw); (try obtain ⟨s0, s1⟩ := hSw); go_simp)
      simp only [Act.put, List.setIfInBounds_toArray, List.set_cons_zero, List.set_cons_succ]
      refine wpAnyH_take (i := 14) (v := (.slice (some ⟨b, off, none⟩) n cap)) rfl (by kernel_rfl) (by kernel_rfl) (by kernel_rfl) (fun _ _ _ h => h) (Or.inl ⟨by rfl, ?_⟩) hHeld ?_
      · (intro w hSw; (try dsimp only at hSw); (try obtain ⟨s0, s1⟩ := hSw); go_simp)
      simp only [Act.put, List.setIfInBounds_toArray, List.set_cons_zero, List.set_cons_succ]
      refine wpAnyH_take (i := 15) (v := (.int .i64 (k : Int))) rfl (by kernel_rfl) (by kernel_rfl) (by kernel_rfl) (fun _ _ _ h => h) (Or.inl ⟨by rfl, ?_⟩) hHeld ?_
      · (intro w hSw; (try dsimp only at hSw); (try obtain ⟨s0, s1⟩ := hSw); go_simp)
      simp only [Act.put, List.setIfInBounds_toArray, List.set_cons_zero, List.set_cons_succ]
      refine wpAnyH_take (i := 16) (v := (.pointer (some ⟨b, off + k * 2, none⟩))) rfl (by kernel_rfl) (by kernel_rfl) (by kernel_rfl) (fun _ _ _ h => h) (Or.inl ⟨by rfl, ?_⟩) hHeld ?_
      · (intro w hSw; (try dsimp only at hSw); (try obtain ⟨s0, s1⟩ := hSw); go_simp)
      simp only [Act.put, List.setIfInBounds_toArray, List.set_cons_zero, List.set_cons_succ]
      refine wpAnyH_take (i := 17) (v := (.pointer (some ⟨b, off + k * 2 + 1, none⟩))) rfl (by kernel_rfl) (by kernel_rfl) (by kernel_rfl) (fun _ _ _ h => h) (Or.inl ⟨by rfl, ?_⟩) hHeld ?_
      · (intro w hSw; (try dsimp only at hSw); (try obtain ⟨s0, s1⟩ := hSw); go_simp)
      simp only [Act.put, List.setIfInBounds_toArray, List.set_cons_zero, List.set_cons_succ]
      refine wpAnyH_take (i := 18) (v := (.string x2)) rfl (by kernel_rfl) (by kernel_rfl) (by kernel_rfl) (fun _ _ _ h => h) (Or.inl ⟨by rfl, ?_⟩) hHeld ?_
      · (intro w hSw; (try dsimp only at hSw); (try obtain ⟨s0, s1⟩ := hSw); go_simp)
      simp only [Act.put, List.setIfInBounds_toArray, List.set_cons_zero, List.set_cons_succ]
      refine wpAnyH_take (i := 19) (v := (.slice (some ⟨b, off, none⟩) n cap)) rfl (by kernel_rfl) (by kernel_rfl) (by kernel_rfl) (fun _ _ _ h => h) (Or.inl ⟨by rfl, ?_⟩) hHeld ?_
      · (intro w hSw; (try dsimp only at hSw); (try obtain ⟨s0, s1⟩ := hSw); go_simp)
      simp only [Act.put, List.setIfInBounds_toArray, List.set_cons_zero, List.set_cons_succ]
      refine wpAnyH_take (i := 20) (v := (.int .i64 (k : Int))) rfl (by kernel_rfl) (by kernel_rfl) (by kernel_rfl) (fun _ _ _ h => h) (Or.inl ⟨by rfl, ?_⟩) hHeld ?_
      · (intro w hSw; (try dsimp only at hSw); (try obtain ⟨s0, s1⟩ := hSw); go_simp)
      simp only [Act.put, List.setIfInBounds_toArray, List.set_cons_zero, List.set_cons_succ]
      refine wpAnyH_take (i := 21) (v := (.pointer (some ⟨b, off + k * 2, none⟩))) rfl (by kernel_rfl) (by kernel_rfl) (by kernel_rfl) (fun _ _ _ h => h) (Or.inl ⟨by rfl, ?_⟩) hHeld ?_
      · (intro w hSw; (try dsimp only at hSw); (try obtain ⟨s0, s1⟩ := hSw); go_simp)
      simp only [Act.put, List.setIfInBounds_toArray, List.set_cons_zero, List.set_cons_succ]
      refine wpAnyH_take (i := 22) (v := (.pointer (some ⟨b, off + k * 2 + 1, none⟩))) rfl (by kernel_rfl) (by kernel_rfl) (by kernel_rfl) (fun _ _ _ h => h) (Or.inl ⟨by rfl, ?_⟩) hHeld ?_
      · (intro w hSw; (try dsimp only at hSw); (try obtain ⟨s0, s1⟩ := hSw); go_simp)
      simp only [Act.put, List.setIfInBounds_toArray, List.set_cons_zero, List.set_cons_succ]
      refine wpAnyH_take (i := 23) (v := (.string x2)) rfl (by kernel_rfl) (by kernel_rfl) (by kernel_rfl) (fun _ _ _ h => h) (Or.inl ⟨by rfl, ?_⟩) hHeld ?_
      · (intro w hSw; (try dsimp only at hSw); (try obtain ⟨s0, s1⟩ := hSw); go_simp)
      simp only [Act.put, List.setIfInBounds_toArray, List.set_cons_zero, List.set_cons_succ]
      refine wpAnyH_take (i := 24) (v := (.int .i64 (x2.size : Int))) rfl (by kernel_rfl) (by kernel_rfl) (by kernel_rfl) (fun _ _ _ h => h) (Or.inl ⟨by rfl, ?_⟩) hHeld ?_
      · (intro w hSw; (try dsimp only at hSw); (try obtain ⟨s0, s1⟩ := hSw); go_simp)
      simp only [Act.put, List.setIfInBounds_toArray, List.set_cons_zero, List.set_cons_succ]
      refine wpAnyH_take (i := 25) (v := (.int .i64 (a2 : Int))) rfl (by kernel_rfl) (by kernel_rfl) (by kernel_rfl) (fun _ _ _ h => h) (Or.inl ⟨by rfl, ?_⟩) hHeld ?_
      · (intro w hSw; (try dsimp only at hSw); (try obtain ⟨s0, s1⟩ := hSw); go_simp)
      simp only [Act.put, List.setIfInBounds_toArray, List.set_cons_zero, List.set_cons_succ]
      refine wpAnyH_take (i := 26) (v := (.string (x2.extract 0 a2))) rfl (by kernel_rfl) (by kernel_rfl) (by kernel_rfl) (fun _ _ _ h => h) (Or.inl ⟨by rfl, ?_⟩) hHeld ?_
      · (intro w hSw; (try dsimp only at hSw); (try obtain ⟨s0, s1⟩ := hSw); go_simp)
      simp only [Act.put, List.setIfInBounds_toArray, List.set_cons_zero, List.set_cons_succ]
      refine wpAnyH_take (i := 27) (v := (.agg #[.string (x1.extract 0 a1), .string (x2.extract 0 a2)])) rfl (by kernel_rfl) (by kernel_rfl) (by kernel_rfl) (fun _ _ _ h => h) (Or.inl ⟨by rfl, ?_⟩) hHeld ?_
      · (intro w hSw; (try dsimp only at hSw); (try obtain ⟨s0, s1⟩ := hSw); go_simp)
      simp only [Act.put, List.setIfInBounds_toArray, List.set_cons_zero, List.set_cons_succ]
      refine wpAnyH_ready (rs := [28]) (by kernel_rfl) (by simp) ?_
      refine AllReadyH.cons rfl (fun K hK => ?_) AllReadyH.nil
      go_simp
      have hba : Below wr.heap.size wr ((wr.alloc (.cells #[.string (x1.extract 0 a1), .string (x2.extract 0 a2)] 37)).drew) := below_drewN (below_al (below_0 wr) (.cells #[.string (x1.extract 0 a1), .string (x2.extract 0 a2)] 37)) 1
      have NB : Hid (Blk ((wr.alloc (.cells #[.string (x1.extract 0 a1), .string (x2.extract 0 a2)] 37)).drew) wr.heap.size 37 #[.string (x1.extract 0 a1), .string (x2.extract 0 a2)]) := (Blk.new wr 37 #[.string (x1.extract 0 a1), .string (x2.extract 0 a2)]).drew
      have HO1 : Hid (((wr.alloc (.cells #[.string (x1.extract 0 a1), .string (x2.extract 0 a2)] 37)).drew).ownsRow w.heap.size 37 2 (.slice A1 k c1) k (flatL ((l.take k).map fewL))) := (World.ownsRow.alloc HO.out _)
      have BL1 : Hid (Below w.heap.size w ((wr.alloc (.cells #[.string (x1.extract 0 a1), .string (x2.extract 0 a2)] 37)).drew)) := Below.trans HB.out (hba.mono (by have := HB.out.size; omega))
      have j1 : ((wr.alloc (.cells #[.string (x1.extract 0 a1), .string (x2.extract 0 a2)] 37)).drew).cell? ⟨b, off + k * 2, none⟩ = some (.string x1) := (hba.cell (p := ⟨b, off + k * 2, none⟩) hbw).trans i1
      have j2 : ((wr.alloc (.cells #[.string (x1.extract 0 a1), .string (x2.extract 0 a2)] 37)).drew).cell? ⟨b, off + k * 2 + 1, none⟩ = some (.string x2) := (hba.cell (p := ⟨b, off + k * 2 + 1, none⟩) hbw).trans i2
      have hsz := hba.size
      clear hba i1 i2 HO hHeld
      generalize (wr.alloc (.cells #[.string (x1.extract 0 a1), .string (x2.extract 0 a2)] 37)).drew = W2 at *
      refine hK.out _ _ ⟨j1, j2⟩ (fun hHeld => ?_)
      clear hK K
      try simp only [Act.put, List.getElem_toArray, List.getElem_cons_succ, List.getElem_cons_zero, List.setIfInBounds_toArray, List.set_cons_zero, List.set_cons_succ]
      refine wpAnyH_ready (rs := [29]) (by kernel_rfl) (by simp) ?_
      refine AllReadyH.cons rfl (fun K hK => ?_) AllReadyH.nil
      refine step_append_rl rfl (.tmp 15) (.tmp 43) 29 rfl w.heap.size 37 i0 (.agg #[.string ⟨#[]⟩, .string ⟨#[]⟩]) 2 32 Tryd.underlying29 hi0 hz0 hz1 hz2 rfl (by decide) (.slice A1 k c1) k _ rfl HO1.out (wr.heap.size + 1) (some ⟨wr.heap.size, 0, none⟩) 1 1 [.string (x1.extract 0 a1), .string (x2.extract 0 a2)] rfl (by simp) (rd_lab (cs := [.string (x1.extract 0 a1), .string (x2.extract 0 a2)]) NB.out) (by intro u hu; simp at hu; rcases hu with rfl | rfl <;> rfl) (by unfold maxLen; omega) (by omega) (by have := BL1.out.size; omega) ?_
      intro A3 c3 W3 hown3 hg3
      have hrow := own_row HO1.out
      have BL3 : Hid (Below w.heap.size w W3) := BL1.out.grown hg3 (by have := BL1.out.size; omega) (fun r hr => (hrow r hr).1)
      have bl3 : Below w.heap.size W2 W3 := (Below.refl _ _).grown hg3 (by have := BL1.out.size; omega) (fun r hr => (hrow r hr).1)
      have k1 : W3.cell? ⟨b, off + k * 2, none⟩ = some (.string x1) := (bl3.cell (p := ⟨b, off + k * 2, none⟩) hb).trans j1
      have k2 : W3.cell? ⟨b, off + k * 2 + 1, none⟩ = some (.string x2) := (bl3.cell (p := ⟨b, off + k * 2 + 1, none⟩) hb).trans j2
      have HO3 : Hid (W3.ownsRow w.heap.size 37 2 (.slice A3 (k + 1) c3) (k + 1) (flatL ((l.take (k + 1)).map fewL))) := by
        show World.ownsRow _ _ _ _ _ _ _; rw [HTK.out, HF.out, flatL_snoc]; exact hown3
      clear hown3 hg3 hrow HO1 NB BL1 bl3 j1 j2 hHeld
      refine hK.out _ _ ⟨k1, k2⟩ (fun hHeld => ?_)
      clear hK K
      try simp only [Act.put, List.getElem_toArray, List.getElem_cons_succ, List.getElem_cons_zero, List.setIfInBounds_toArray, List.set_cons_zero, List.set_cons_succ]
      refine wpAnyH_ready (rs := [30]) (by kernel_rfl) (by simp) ?_
      refine AllReadyH.cons rfl (fun K hK => ?_) AllReadyH.nil
      go_simp
      refine hK.out _ _ ⟨k1, k2⟩ (fun hHeld => ?_)
      clear hK K
      try simp only [Act.put, List.getElem_toArray, List.getElem_cons_succ, List.getElem_cons_zero, List.setIfInBounds_toArray, List.set_cons_zero, List.set_cons_succ]
      refine wpAnyH_done (by kernel_rfl) ?_ _
      go_wp2_with fail
      go_roundw
      case rel => exact ⟨k + 1, by go_num, by omega, HO3.out, BL3.out⟩
      case measure => simp [RowKit.intOf]; omega
    · have hkk : k = l.length := by omega
      subst hkk
      have HE : Hid (wr.ownsRow w.heap.size 37 2 u3 l.length (flatL (l.map fewL))) := by
        have := HO.out; rwa [List.take_length] at this
      obtain ⟨A1, c1, rfl⟩ := own_form2 HE.out
      have hcp := own_cap HE.out
      have hrd := Lib.hid (Rd.own HE.out)
      clear HO HE
      have hfin : (∃ A' c', Ending.returned (.slice A1 l.length c1) = .returned (.slice A' (l.map fewL).length c') ∧ (l.map fewL).length ≤ c' ∧ Lb wr wr.heap.size A' (l.map fewL)) ∧ Below w.heap.size w wr := by
        rw [List.length_map]; exact ⟨⟨A1, c1, rfl, hcp, hrd.out⟩, HB.out⟩
      have HFIN := Lib.hid hfin
      clear hfin hrd HB HS HZ
      by_cases h2 : l.length < n
      · have h10 := HK.out h2
        clear HK
        generalize l.length = m at *
        have d1 : decide ((m : Int) < (n : Int)) = true := decide_eq_true (by omega)
        have d2 : decide ((m : Int) < 10) = false := by simp; omega
        have d2' : decide (m < 10) = false := by simp; omega
        clear h10
        go_wp2_with fail
        go_ret
        exact HFIN.out
      · have d1 : decide ((l.length : Int) < (n : Int)) = false := by simp; omega
        have d1' : decide (l.length < n) = false := by simp; omega
        go_wp2_with fail
        go_ret
        exact HFIN.out
end
end Go.Proofs.YtgfoeicfigfepaaDoor

/-
  The walk of (hist.work).done: the map's bins without noughts, in order.
-/
import Derived.Test.YtopddcabaiicgaaHistHeld
import Derived.Test.YtopddcabaiicgaaHistIter
import Derived.Test.YtopddcabaiicgaaStep
namespace Go.Proofs.Ytopddcabaiicgaa
open Go.RowKit
set_option linter.unusedVariables false
set_option linter.unusedSimpArgs false
theorem Try.infoBin : (Try.prog.info? 71).map (fun i => (i.zero, i.size, i.bytes)) = some (some (.agg #[.int .i64 0, .int .u64 0]), 2, 16) := by kernel_rfl
theorem Rd.grown {w w' : World} {B : Nat} {A : Option Addr} {xs : List Value} {row : Option Nat} (h : Rd w B A xs) (hB : B ≤ w.heap.size) (hg : w.grownBy w' row) (hr : ∀ ad, A = some ad → some ad.block ≠ row) : Rd w' B A xs := fun hl => by
  obtain ⟨b, off, e, hb, hc⟩ := h hl
  exact ⟨b, off, e, hb, fun j u hj => (World.cell?_of_block (hg.block b (by omega) (hr _ e))).trans (hc j u hj)⟩
theorem getL_bth : ∀ {m : Bins} {k : Nat}, Rise m → k < m.length → getL m (bth m k).1 = (bth m k).2
  | [], _, _, h => by simp at h
  | x :: m, 0, _, _ => by simp [getL, bth]
  | x :: m, k + 1, hr, h => by
    obtain ⟨h1, h2⟩ := List.pairwise_cons.1 hr
    have hk : k < m.length := by simpa using h
    have e : bth (x :: m) (k + 1) = bth m k := by simp [bth]
    have := h1 _ (bth_mem hk)
    rw [e, getL, if_neg (by omega)]
    exact getL_bth h2 hk
theorem flatB_snoc (l : Bins) (x : Int × Int) : flatB (l ++ [x]) = flatB l ++ [.int .i64 x.1, .int .u64 x.2] := by simp [flatB]
theorem dropZ_sub {m : Bins} {x : Int × Int} (h : x ∈ dropZ m) : x ∈ m := (List.mem_filter.1 h).1
/-- Between two rounds of the sweep. -/
def SwI (w : World) (B : Nat) (f : Int) (wr : World) : Prop :=
  Blk wr w.heap.size 59 #[.map (some B), .int .i64 f] ∧ Blk wr (w.heap.size + 1) 25 #[.int .i64 0, .slice none 0 0] ∧ w.grownBy wr (some B) ∧ w.heap.size + 1 < wr.heap.size
/-- Between two rounds of the gathering. -/
def GaI (w : World) (B k gx base : Nat) (f : Int) (Ak : Option Addr) (m : Bins) (j : Nat) (wr : World) : Prop :=
  Blk wr w.heap.size 59 #[.map (some B), .int .i64 f] ∧ Blk wr (w.heap.size + 1) 25 #[.int .i64 0, .slice none 0 0] ∧ w.grownBy wr (some B) ∧
  Mp wr B k m ∧ Rd wr base Ak ((m.map (·.1)).map encZ) ∧ base ≤ wr.heap.size ∧
  ∃ A c, Blk wr gx 25 #[.int .i64 f, .slice A j c] ∧ wr.ownsRow base 71 2 (.slice A j c) j (flatB (m.take j))
theorem blk_not_mp {w : World} {B k g : Nat} {m : Bins} {t : TypeId} {cs : Array Value} (h : Mp w B k m) (hx : Blk w g t cs) : some g ≠ some B := fun e => mp_ne h hx (by injection e)
set_option maxRecDepth 100000 in
set_option maxHeartbeats 4000000 in
theorem done_any (m : Bins) (f : Int) (B k : Nat) (hm : Rise m) (hU : UBs m) (hl : m.length ≤ 65536) (w : World) (hM : Mp w B k m) :
    Calls Try.prog 39 #[.agg #[.map (some B), .int .i64 f]] w fun e w' => w.grownBy w' (some B) ∧ ∃ v, e = .returned (.agg #[.int .i64 f, v]) ∧ HeldB w' w.heap.size v (dropZ m) := by
  obtain ⟨i0, hi0, hz0, hz1, hz2⟩ := info_parts Try.infoBin
  have T : Below w.heap.size w ((w.alloc (.cells #[.map (some B), .int .i64 f] 59)).alloc (.cells #[.int .i64 0, .slice none 0 0] 25)) := below_al (below_al (below_0 _) _) _
  have X := Lib.hid ((Blk.new w 59 #[.map (some B), .int .i64 f]).alloc (.cells #[.int .i64 0, .slice none 0 0] 25))
  have Y0 := Blk.new (w.alloc (.cells #[.map (some B), .int .i64 f] 59)) 25 #[.int .i64 0, .slice none 0 0]
  have Y : Hid (Blk ((w.alloc (.cells #[.map (some B), .int .i64 f] 59)).alloc (.cells #[.int .i64 0, .slice none 0 0] 25)) (w.heap.size + 1) 25 #[.int .i64 0, .slice none 0 0]) := by
    have e : (w.alloc (.cells #[.map (some B), .int .i64 f] 59)).heap.size = w.heap.size + 1 := by simp
    rw [e] at Y0
    exact Y0
  clear Y0
  have hBl := hM.lt
  have hM0 : Mp ((w.alloc (.cells #[.map (some B), .int .i64 f] 59)).alloc (.cells #[.int .i64 0, .slice none 0 0] 25)) B k m := (hM.alloc _).alloc _
  have hsz : ((w.alloc (.cells #[.map (some B), .int .i64 f] 59)).alloc (.cells #[.int .i64 0, .slice none 0 0] 25)).heap.size = w.heap.size + 2 := by simp
  clear hM
  go_enter Try.func39, Try.ntmps39
  go_wp2_with (first
    | (at_range; refine wpList_range_own _ rfl _ 57 rfl 3 22 law Try.underlying57 _ B k _ rfl hM0 ?_; intro w1 hrg0 hg0 hs0)
    | go_in)
  have hI : SwI w B f w1 := ⟨X.out.grown hg0 (by simp), Y.out.grown hg0 (by simp), grow_trans (grow_of_below T _) (hg0.but _), by omega⟩
  rw [hsz] at hrg0 ⊢
  have HI := Lib.hid hI
  have HG := Lib.hid hrg0
  clear hI X Y T hM0 hg0 hs0 hsz hrg0
  obtain ⟨r, hr⟩ : ∃ r, w.heap.size + 2 = r := ⟨_, rfl⟩
  rw [hr] at HG ⊢
  have hr1 : w.heap.size + 1 < r := by omega
  clear hr
  go_frame
  go_loopw [3] (fun _ wr => ∃ (left : Lit → Bool) (cnt : Nat), wr.ranges Try.prog 3 (plainElem Try.prog 22) B r k (dm (swept m left)) left cnt ∧ SwI w B f wr) (fun _ wr => wr.rangeLeft B r)
  case atStart => exact ⟨_, _, by rw [swept_start (dm m) rfl]; exact HG.out, HI.out⟩
  case round =>
    clear HI HG
    obtain ⟨left, cnt, hrg, X, Y, G, hz⟩ := hrel
    have HX := Lib.hid X
    have HY := Lib.hid Y
    have HGr := Lib.hid G
    clear X Y G
    go_wp2_with (first
      | (at_next; refine wpList_next_ranges_ii _ rfl _ rfl 3 22 .i64 .u64 law Try.underlying3 Try.underlying22 B r k _ _ _ rfl hrg ?_ ?_)
      | go_in)
    · intro _ hl0
      have hM : Mp wr B k (dropZ m) := by have := hrg.owns; rw [swept_end hl0] at this; exact this
      have hm' : Rise (dropZ m) := dropZ_rise hm
      have hU' : UBs (dropZ m) := fun x hx => hU x (dropZ_sub hx)
      have hl' : (dropZ m).length ≤ 65536 := Nat.le_trans (List.length_filter_le _ _) hl
      clear hrg hl0 hm hU hl
      obtain ⟨m', hme⟩ : ∃ x, dropZ m = x := ⟨_, rfl⟩
      rw [hme] at hM hm' hU' hl'
      have HD := Lib.hid hme
      clear hme
      have HM := Lib.hid hM
      clear hM
      have x0 := HX.out.d0
      have x1 := HX.out.d1
      have zx := HX.out.lt
      go_wp2_with fail
      have hbx := below_al (below_0 wr) (.cells #[.int .i64 f, .slice none 0 0] 25)
      have GX := Lib.hid (Blk.new wr 25 #[.int .i64 f, .slice none 0 0])
      have M1 := Lib.hid (HM.out.later hbx)
      have X1 := Lib.hid (HX.out.later hbx)
      have Y1 := Lib.hid (HY.out.later hbx)
      have G1 := Lib.hid (grow_trans HGr.out (grow_of_below hbx _))
      have hzx : wr.heap.size < (wr.alloc (.cells #[.int .i64 f, .slice none 0 0] 25)).heap.size := GX.out.lt
      clear hbx x0 x1 HM HX HY HGr
      generalize wr.alloc (.cells #[.int .i64 f, .slice none 0 0] 25) = w2 at *
      refine (keys_calls B w2).mono ?_
      rintro e w' ⟨rfl, rfl⟩
      go_wp2_with fail
      refine (sorted_calls B k m' hm' w2 M1.out hl').mono ?_
      rintro e w3 ⟨v, rfl, hrow, hb3⟩
      have hb3' : Below w2.heap.size w2 w3 := Below.two (below_al (below_0 w2) _) hb3
      obtain ⟨Ak, ck, rfl, _, hRk, hFk⟩ := owns_form hrow
      have NK : Hid (∀ ad, Ak = some ad → wr.heap.size < ad.block) := fun ad e => by have := (hFk ad e).1; omega
      have hI : GaI w B k wr.heap.size w3.heap.size f Ak m' 0 w3 :=
        ⟨X1.out.later hb3', Y1.out.later hb3', grow_trans G1.out (grow_of_below hb3' _), M1.out.later hb3', hRk, Nat.le_refl _, none, 0, GX.out.later hb3', World.ownsRow_nil _ _ _ _⟩
      have HI := Lib.hid hI
      have hz3 : wr.heap.size < w3.heap.size := by have := hb3'.size; omega
      have nx : w.heap.size ≠ wr.heap.size := by omega
      have ny : w.heap.size + 1 ≠ wr.heap.size := by omega
      have nB : B ≠ wr.heap.size := by omega
      clear hI hrow hRk hFk hb3 hb3' X1 Y1 G1 M1 GX
      go_wp2_with fail
      generalize wr.heap.size = gx at *
      go_loopw [29] (fun i w4 => ∃ j : Nat, j ≤ m'.length ∧ i = .int .i64 j ∧ GaI w B k gx w3.heap.size f Ak m' j w4) (fun i _ => m'.length - (RowKit.intOf i).toNat)
      case atStart => exact ⟨0, Nat.zero_le _, rfl, HI.out⟩
      case round =>
        clear HI
        obtain ⟨j, hj, rfl, X, Y, G, M, RK, hbase, A, c, Z, hO⟩ := hrel
        have x0 := X.d0
        have z1 := Z.d1
        have z0 := Z.d0
        have zx' := X.lt
        have zz := Z.lt
        have HX := Lib.hid X
        have HY := Lib.hid Y
        have HZ := Lib.hid Z
        have HG := Lib.hid G
        have HM := Lib.hid M
        have HR := Lib.hid RK
        have HO := Lib.hid hO
        clear X Y Z G M RK hO
        by_cases hlt : j < m'.length
        · obtain ⟨b, off, rfl, hb, hcs⟩ := HR.out.at_ (by simp; omega)
          have i1 := hcs j (.int .i64 (bth m' j).1) (by simp [bth, hlt])
          have hbn := NK.out _ rfl
          simp only at hbn
          have lk := HM.out.look (hU' _ (bth_mem hlt)).1
          rw [getL_bth hm' hlt] at lk
          have HF : Hid (flatB (m'.take (j + 1)) = flatB (m'.take j) ++ [.int .i64 (bth m' j).1, .int .u64 (bth m' j).2]) := by show _ = _; rw [take_bth_succ hlt, flatB_snoc]
          generalize bth m' j = it at *
          have hi1 : (0 : Int) ≤ (j : Int) := by omega
          have hi2 : (j : Int) < (m'.length : Int) := by omega
          have hbw : b < wr.heap.size := by omega
          have HO1 := Lib.hid (HO.out.alloc (.cells #[.int .i64 it.1, .int .u64 it.2] 71))
          have HR1 : Hid (Rd (wr.alloc (.cells #[.int .i64 it.1, .int .u64 it.2] 71)) (wr.heap.size + 1) (some ⟨wr.heap.size, 0, none⟩) [.int .i64 it.1, .int .u64 it.2]) := fun _ =>
            ⟨wr.heap.size, 0, rfl, by omega, fun i u hu => by rw [Nat.zero_add, (Blk.new wr 71 #[.int .i64 it.1, .int .u64 it.2]).cell]; simpa using hu⟩
          have fz := HZ.out.frozen 1
          clear hcs
          go_wp2_with (first
            | (at_builtin
               refine wpList_append_rd _ rfl (.tmp 34) (.tmp 41) 23 rfl w3.heap.size 71 i0 (.agg #[.int .i64 0, .int .u64 0]) 2 16 Try.underlying23 hi0 hz0 hz1 hz2 rfl (by decide) (.slice A j c) j _ rfl HO1.out (wr.heap.size + 1) (some ⟨wr.heap.size, 0, none⟩) 1 1 [.int .i64 it.1, .int .u64 it.2] rfl (by simp) HR1.out (by intro u hu; simp at hu; rcases hu with rfl | rfl <;> rfl) (by unfold maxLen; omega) (by omega) (by simp; omega) ?_
               intro v5 w5 hown5 hg5 _
               rw [← HF.out] at hown5
               obtain ⟨A5, c5, rfl, _, _, _⟩ := owns_form hown5
               have HO5 := Lib.hid hown5
               have ob : ∀ q, (Value.slice A j c).ownBlock = some q → w3.heap.size ≤ q := fun q e => own_base2 HO1.out q e
               have hg6 : wr.grownBy w5 (Value.slice A j c).ownBlock := grow_trans (World.grownBy_alloc wr _ _) hg5
               have HG6 := Lib.hid hg6
               have HOB := Lib.hid ob
               have z5 := (HZ.out.grown hg6 (fun e => by have := ob _ e.symm; omega))
               have HZ5 := Lib.hid z5
               have z51 := z5.d1
               have z50 := z5.d0
               have fz5 := z5.frozen 1
               have zl5 := z5.lt
               clear hown5 hg5 hg6 ob z5 z1 z0 fz i1 lk x0)
            | go_in)
          have S5 := grow_set1 w5 gx 1 (.slice A5 (j + 1) c5)
          have X5 := HX.out.grown HG6.out (fun e => by have := HOB.out _ e.symm; omega)
          have Y5 := HY.out.grown HG6.out (fun e => by have := HOB.out _ e.symm; omega)
          have M5 := HM.out.keep HG6.out (fun e => by have := HOB.out _ e.symm; omega)
          have R5 := HR.out.grown hbase HG6.out (fun ad e => by cases e; intro e; have := HOB.out _ e.symm; simp at this; omega)
          have G5 : w.grownBy w5 (some B) := HG.out.andThen HG6.out (fun q e => Or.inl (by have := HOB.out _ e; omega))
          have z5s : wr.heap.size ≤ w5.heap.size := HG6.out.size
          have hI : GaI w B k gx w3.heap.size f (some ⟨b, off, none⟩) m' (j + 1) (w5.setCell ⟨gx, 1, none⟩ (.slice A5 (j + 1) c5)) :=
            ⟨X5.grown S5 (fun e => nx (by injection e)), Y5.grown S5 (fun e => ny (by injection e)), G5.andThen S5 (fun q e => Or.inl (by cases e; omega)), M5.keep S5 (fun e => nB (by injection e)),
              R5.grown (by omega) S5 (fun ad e => by cases e; intro e; injection e with e; have e' : b = gx := e; omega), by have := S5.size; omega, A5, c5, by have := HZ5.out.set_ 1 (.slice A5 (j + 1) c5); simpa using this, HO5.out.kept S5 (by
                cases ho : (Value.slice A5 (j + 1) c5).ownBlock with
                | none => exact .inl rfl
                | some q => right; intro e; injection e with e; have := own_base2 HO5.out q ho; omega)⟩
          have HI := Lib.hid hI
          clear hI X5 Y5 M5 R5 G5 S5 HO5 z51 z50 fz5
          go_wp2_with fail
          go_roundw
          case rel => exact ⟨j + 1, by omega, by go_num, HI.out⟩
          case measure => simp [RowKit.intOf]; omega
        · obtain rfl : j = m'.length := by omega
          have y0 := HY.out.d0
          have y1 := HY.out.d1
          have fy0 := HY.out.frozen 0
          have fy1 := HY.out.frozen 1
          have zy := HY.out.lt
          have HE := HO.out
          rw [List.take_of_length_le (Nat.le_refl _)] at HE
          have HH : Hid (HeldB wr w.heap.size (.slice A m'.length c) m') := (heldB_own rfl HE).from (by omega)
          have K := (HY.out.set_ 0 (.int .i64 f)).set_ 1 (.slice A m'.length c)
          have K2 : Blk ((wr.setCell ⟨w.heap.size + 1, 0, none⟩ (.int .i64 f)).setCell ⟨w.heap.size + 1, 1, none⟩ (.slice A m'.length c)) (w.heap.size + 1) 25 #[.int .i64 f, .slice A m'.length c] := by simpa using K
          have HK := Lib.hid K2
          have k0 := K2.d0
          have k1 := K2.d1
          have G5 := grow_trans (grow_set1 wr (w.heap.size + 1) 0 (.int .i64 f)) (grow_set1 _ (w.heap.size + 1) 1 (.slice A m'.length c))
          clear HE K K2
          go_wp2_with fail
          refine bodyPost_ret (v := .agg #[.int .i64 f, .slice A m'.length c]) (by simp [results, Try.results39, go_sem, k0, k1]) rfl ⟨HG.out.andThen G5 (fun q e => Or.inl (by cases e; omega)), _, rfl, ?_⟩
          rw [HD.out]
          exact heldB_turned HH.out HY.out (by intro v hv n e; simp at hv; rcases hv with rfl | rfl <;> cases e) G5 HK.out
    · intro x c w1 cnt1 hwx hwc hlx hat hrg1 hlt hg1 hs1 hen
      have X1 := HX.out.grown hg1 (by intro e; injection e with e; omega)
      have Y1 := HY.out.grown hg1 (by intro e; injection e with e; omega)
      have G1 : w.grownBy w1 (some B) := HGr.out.andThen hg1 (fun j hj => by cases hj; exact Or.inl (by omega))
      have x0 := X1.d0
      by_cases hc0 : c = 0
      · subst hc0
        have HI : Hid (∀ w2, w1.grownBy w2 (some B) → Mp w1 B k (swept m left) → SwI w B f w2) := fun w2 hg hM => ⟨X1.grown hg (blk_not_mp hM X1), Y1.grown hg (blk_not_mp hM Y1), grow_trans G1 hg, by have := hg.size; omega⟩
        clear X1 Y1 G1
        go_wp2_with (first
          | (at_delete; refine wpList_delete_ranges _ rfl _ _ 57 3 rfl 22 law Try.underlying57 _ B r k _ _ _ rfl hrg1 _ _ rfl (Maps.keyOf_int_mk Try.underlying3 hwx) ?_; intro w2 cnt2 hrg2 hle hturn; go_frame)
          | go_in)
        rw [Maps.strike_twice] at hrg2
        have hI := HI.out w2 hturn.grown hrg1.owns
        go_roundw
        case rel => exact ⟨_, cnt2, by rw [← swept_struck hm hat hlx]; exact hrg2, hI⟩
        case measure => rw [hrg2.left_eq, hrg.left_eq]; omega
      · have dc : (c == 0) = false := by simp [hc0]
        have HI : Hid (SwI w B f w1) := ⟨X1, Y1, G1, by omega⟩
        clear X1 Y1 G1
        go_wp2_with fail
        go_roundw
        case rel => exact ⟨_, cnt1, by rw [← swept_stays hm hat hc0 hlx]; exact hrg1, HI.out⟩
        case measure => rw [hrg1.left_eq, hrg.left_eq]; exact hlt
end Go.Proofs.Ytopddcabaiicgaa

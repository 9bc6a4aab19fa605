/-
  The walks of hist.blank and hist.begin: a histogram at work, as a map.
-/
import Derived.Test.YtopddcabaiicgaaHistPut
namespace Go.Proofs.Ytopddcabaiicgaa
open Go.RowKit
set_option linter.unusedVariables false
set_option linter.unusedSimpArgs false
/-- A histogram at work was told. -/
def WRes (w : World) (f : Int) (m : Bins) (k : Nat) (e : Ending) (w' : World) : Prop :=
  ∃ B, e = .returned (.tuple #[.agg #[.map (some B), .int .i64 f], .nilIface]) ∧ Mp w' B k m ∧ w.heap.size ≤ B ∧ Below w.heap.size w w'
def WErr (w : World) (e : Ending) (w' : World) : Prop :=
  ∃ s, e = .returned (.tuple #[.agg #[.map none, .int .i64 0], errV s]) ∧ Below w.heap.size w w'
theorem blank_good (f : Int) (hf : fineB f = true) (w : World) : Calls Try.prog 43 #[.int .i64 f] w (WRes w f [] 0) := by
  have HF := Lib.hid hf
  clear hf
  have hmm := @run_makeMap Try.prog
  have Y := Lib.hid (Blk.new w 59 #[.map none, .int .i64 0])
  have T := below_al (below_0 w) (.cells #[.map none, .int .i64 0] 59)
  go_enter Try.func43, Try.ntmps43
  go_wp2_with fail
  refine (isFine_any _ _).mono ?_
  rintro e w' ⟨rfl, rfl⟩
  rw [HF.out]
  go_wp2_with fail
  exact bodyPost_ret (v := .tuple #[.agg #[.map (some (w.heap.size + 1)), .int .i64 f], .nilIface]) (by simp [results, Try.results43, go_sem]) rfl
    ⟨w.heap.size + 1, rfl, by have := World.ownsMap_made (H := Unit) (w.alloc (.cells #[.map (some (w.heap.size + 1)), .int .i64 f] 59)) Try.prog 3 (plainElem Try.prog 22); simpa [Mp, dm] using this, by omega, below_al (below_al (below_0 _) _) _⟩
theorem blank_bad (f : Int) (hf : fineB f = false) (w : World) : Calls Try.prog 43 #[.int .i64 f] w (WErr w) := by
  have HF := Lib.hid hf
  clear hf
  have hmm := @run_makeMap Try.prog
  have Y := Lib.hid (Blk.new w 59 #[.map none, .int .i64 0])
  have T := below_al (below_0 w) (.cells #[.map none, .int .i64 0] 59)
  go_enter Try.func43, Try.ntmps43
  go_wp2_with fail
  refine (isFine_any _ _).mono ?_
  rintro e w' ⟨rfl, rfl⟩
  rw [HF.out]
  go_wp2_with fail
  exact bodyPost_ret (v := .tuple #[.agg #[.map none, .int .i64 0], errV ⟨#[110, 111, 32, 115, 117, 99, 104, 32, 104, 105, 115, 116, 111, 103, 114, 97, 109]⟩]) (by simp [results, Try.results43, go_sem]) rfl ⟨_, rfl, T⟩
/-- What a right histogram is. -/
structure Rt (f : Int) (l : Bins) : Prop where
  fine : fineB f = true
  rise : Rise l
  nz : NZ l
  has : ∀ x ∈ l, (boundsF f x.1).2.2 = true
theorem rise_of_steps {l : Bins} (h : ∀ k, k + 1 < l.length → (bth l k).1 < (bth l (k + 1)).1) : Rise l := by
  induction l with
  | nil => exact List.Pairwise.nil
  | cons x l ih =>
    have ih' : Rise l := ih (fun k hk => by have := h (k + 1) (by simpa using hk); simpa [bth] using this)
    refine List.pairwise_cons.2 ⟨fun y hy => ?_, ih'⟩
    cases l with
    | nil => simp at hy
    | cons z l =>
      have h0 := h 0 (by simp)
      simp [bth] at h0
      rcases List.mem_cons.1 hy with rfl | h'
      · exact h0
      · have := (List.pairwise_cons.1 ih').1 y h'; omega
theorem bth_mem {l : Bins} {k : Nat} (h : k < l.length) : bth l k ∈ l := by simp [bth, h]
theorem mem_bth {l : Bins} {x : Int × Int} (h : x ∈ l) : ∃ k, k < l.length ∧ bth l k = x := by
  obtain ⟨k, hk, e⟩ := List.mem_iff_getElem.1 h
  exact ⟨k, hk, by simp [bth, hk, e]⟩
theorem rt_of {f : Int} {l : Bins} (h : rightB f l = true) : Rt f l := by
  unfold rightB at h
  rw [Bool.and_eq_true] at h
  obtain ⟨h1, h2⟩ := h
  have hk : ∀ k, k < l.length → okI f l k = true := fun k hk => List.all_eq_true.1 h2 k (List.mem_range.2 hk)
  have hi : ∀ k, k < l.length → (bth l k).2 ≠ 0 ∧ (boundsF f (bth l k).1).2.2 = true ∧ bef l k < (bth l k).1 := fun k h => by
    have := hk k h
    unfold okI at this
    simpa using this
  refine ⟨h1, rise_of_steps (fun k h => ?_), fun x hx => ?_, fun x hx => ?_⟩
  · have := (hi (k + 1) h).2.2
    rwa [bef_succ] at this
  · obtain ⟨k, hk, rfl⟩ := mem_bth hx
    exact (hi k hk).1
  · obtain ⟨k, hk, rfl⟩ := mem_bth hx
    exact (hi k hk).2.1
theorem has_ge {f a : Int} (h : (boundsF f a).2.2 = true) : 0 ≤ a := by
  unfold boundsF at h
  split at h
  · rename_i h1; exact h1.2
  · cases h
theorem rise_at {l : Bins} (h : Rise l) {i j : Nat} (hij : i < j) (hj : j < l.length) : (bth l i).1 < (bth l j).1 := by
  have := List.pairwise_iff_getElem.1 h i j (by omega) hj hij
  simpa [bth, hj, show i < l.length by omega] using this
theorem right_of_rt {f : Int} {l : Bins} (h : Rt f l) : rightB f l = true := by
  unfold rightB
  rw [h.fine, Bool.true_and]
  refine List.all_eq_true.2 fun k hk => ?_
  have hk' := List.mem_range.1 hk
  have hm := bth_mem hk'
  unfold okI
  have h1 := h.nz _ hm
  have h2 := h.has _ hm
  have h3 : bef l k < (bth l k).1 := by
    unfold bef
    split
    · have := has_ge h2; omega
    · exact rise_at h.rise (by omega) hk'
  rw [h2]
  simp [h1, h3]
theorem UBs.ub {l : Bins} (h : UBs l) : UB l := fun x hx => (h x hx).2
theorem Rise.take {l : Bins} (h : Rise l) (n : Nat) : Rise (l.take n) := List.Pairwise.sublist (List.take_sublist n l) h
/-- Between two rounds of begin. -/
def BegI (w : World) (f : Int) (A : Option Addr) (n cap g B : Nat) (m : Bins) (k : Nat) (wr : World) : Prop :=
  Blk wr w.heap.size 25 #[.int .i64 f, .slice A n cap] ∧ Blk wr (w.heap.size + 1) 59 #[.map none, .int .i64 0] ∧ Blk wr g 59 #[.map (some B), .int .i64 f] ∧ Mp wr B k m ∧ Below w.heap.size w wr
theorem mp_ne {w : World} {B k g : Nat} {m : Bins} {t : TypeId} {cs : Array Value} (h : Mp w B k m) (hx : Blk w g t cs) : g ≠ B := by
  rintro rfl
  obtain ⟨es, clock, hb, _⟩ := h
  unfold Blk at hx
  rw [hx] at hb
  cases hb
set_option maxHeartbeats 2000000 in
theorem begin_good (f : Int) (A : Option Addr) (l : Bins) (cap : Nat) (hU : UBs l) (hl : l.length ≤ 65536) (hr : rightB f l = true) (w : World) (hS : Sb w w.heap.size A l) :
    Calls Try.prog 36 #[.agg #[.int .i64 f, .slice A l.length cap]] w (WRes w f l l.length) := by
  have T : Below w.heap.size w ((w.alloc (.cells #[.int .i64 f, .slice A l.length cap] 25)).alloc (.cells #[.map none, .int .i64 0] 59)) := below_al (below_al (below_0 _) _) _
  have X := Lib.hid ((Blk.new w 25 #[.int .i64 f, .slice A l.length cap]).alloc (.cells #[.map none, .int .i64 0] 59))
  have Y0 := Blk.new (w.alloc (.cells #[.int .i64 f, .slice A l.length cap] 25)) 59 #[.map none, .int .i64 0]
  have Y : Hid (Blk ((w.alloc (.cells #[.int .i64 f, .slice A l.length cap] 25)).alloc (.cells #[.map none, .int .i64 0] 59)) (w.heap.size + 1) 59 #[.map none, .int .i64 0]) := by
    have e : (w.alloc (.cells #[.int .i64 f, .slice A l.length cap] 25)).heap.size = w.heap.size + 1 := by simp
    rw [e] at Y0
    exact Y0
  clear Y0
  have HS := Lib.hid (Sb.later hS T)
  have HS0 := Lib.hid hS
  have R := rt_of hr
  have HR := Lib.hid hr
  have HF := Lib.hid R.fine
  clear hS hr
  go_enter Try.func36, Try.ntmps36
  go_wp2_with fail
  generalize (w.alloc (.cells #[.int .i64 f, .slice A l.length cap] 25)).alloc (.cells #[.map none, .int .i64 0] 59) = w0 at *
  refine (right_any f A l cap hU (by omega) _ HS.out).mono ?_
  rintro e w1 ⟨rfl, hb1⟩
  rw [HR.out]
  replace X := Lib.hid (X.out.later hb1)
  replace Y := Lib.hid (Y.out.later hb1)
  replace T := Below.two T hb1
  have x0 := X.out.d0
  have x1 := X.out.d1
  clear hb1
  go_wp2_with fail
  refine (blank_good f HF.out _).mono ?_
  rintro e w2 ⟨B, rfl, hM, hB, hb2⟩
  clear x0 x1
  have hI : BegI w f A l.length cap w2.heap.size B (putAll [] (l.take 0)) 0 (w2.alloc (.cells #[.map (some B), .int .i64 f] 59)) :=
    ⟨(X.out.later hb2).alloc _, (Y.out.later hb2).alloc _, Blk.new w2 _ _, hM.alloc _, below_al (Below.two T hb2) _⟩
  have HI := Lib.hid hI
  have hwB : w.heap.size ≤ B := Nat.le_trans T.size hB
  have zx := (X.out.later hb2).lt
  have zy := (Y.out.later hb2).lt
  have x1 := (X.out.later hb2).d1
  clear hI X Y T hM hB hb2
  go_wp2_with fail
  clear x1
  go_loopw [23] (fun i wr => ∃ k : Nat, k ≤ l.length ∧ i = .int .i64 k ∧ BegI w f A l.length cap w2.heap.size B (putAll [] (l.take k)) k wr) (fun i _ => l.length - (RowKit.intOf i).toNat)
  case atStart => exact ⟨0, Nat.zero_le _, rfl, HI.out⟩
  case round =>
    obtain ⟨k, hk, rfl, X, Y, Z, M, T⟩ := hrel
    clear HI
    have z0 := Z.d0
    have z1 := Z.d1
    have zz := Z.lt
    have HX := Lib.hid X
    have HY := Lib.hid Y
    have HZ := Lib.hid Z
    have HM := Lib.hid M
    clear X Y M Z
    by_cases hlt : k < l.length
    · obtain ⟨b, off, rfl, hb, hcs⟩ := HS0.out.at_ (by omega)
      obtain ⟨h1, h2⟩ := hcs k hlt
      have i1 := (T.cell (p := ⟨b, off + k * 2, none⟩) hb).trans h1
      have i2 := (T.cell (p := ⟨b, off + k * 2 + 1, none⟩) hb).trans h2
      have hbw : b < wr.heap.size := by have := T.size; omega
      have HN : Hid (putAll [] (l.take (k + 1)) = putL (putAll [] (l.take k)) (bth l k).1 (bth l k).2) := by show _ = _; rw [take_bth_succ hlt, putAll_snoc]
      have hrs : Rise (putAll [] (l.take k)) := putAll_rise List.Pairwise.nil
      have hub : UB (putAll [] (l.take k)) := putAll_ub (fun _ h => by simp at h) (hU.take k).ub
      obtain ⟨u1, u2⟩ := bth_U hU k
      generalize bth l k = it at *
      generalize putAll [] (l.take k) = m at *
      have hi1 : (0 : Int) ≤ (k : Int) := by omega
      have hi2 : (k : Int) < (l.length : Int) := by omega
      clear hcs h1 h2
      go_wp2_with fail
      refine (put_any m f it.1 it.2 B k hrs hub u1 u2 _ (HM.out.alloc _) (by unfold maxLen; omega)).mono ?_
      rintro e w3 ⟨rfl, hM3, hG3⟩
      have nx := mp_ne HM.out HX.out
      have ny := mp_ne HM.out HY.out
      have nz := mp_ne HM.out HZ.out
      have hI : BegI w f (some ⟨b, off, none⟩) l.length cap w2.heap.size B (putAll [] (l.take (k + 1))) (k + 1) w3 :=
        ⟨(HX.out.alloc _).grown hG3 (fun e => nx (by injection e)), (HY.out.alloc _).grown hG3 (fun e => ny (by injection e)), (HZ.out.alloc _).grown hG3 (fun e => nz (by injection e)), by rw [HN.out]; exact hM3,
          (below_al T _).grown hG3 (below_al T _).size (fun j e => by cases e; exact hwB)⟩
      have HI := Lib.hid hI
      clear hI hM3 z0 z1 i1 i2
      go_wp2_with fail
      go_roundw
      case rel => exact ⟨k + 1, by omega, by go_num, HI.out⟩
      case measure => simp [RowKit.intOf]; omega
    · obtain rfl : k = l.length := by omega
      have y0 := HY.out.d0
      have y1 := HY.out.d1
      have fy0 := HY.out.frozen 0
      have fy1 := HY.out.frozen 1
      have HE : Hid (putAll [] (l.take l.length) = l) := by show _ = _; rw [List.take_of_length_le (Nat.le_refl _), putAll_self R.rise]
      rw [HE.out] at HM
      have zy2 := HY.out.lt
      have K := (HY.out.set_ 0 (.map (some B))).set_ 1 (.int .i64 f)
      have k0 := K.d0
      have k1 := K.d1
      clear K
      go_wp2_with fail
      refine bodyPost_ret (v := .tuple #[.agg #[.map (some B), .int .i64 f], .nilIface]) (by simp [results, Try.results36, go_sem, k0, k1]) rfl ⟨B, rfl, ?_, hwB, ?_⟩
      · exact (HM.out.keep (grow_set1 _ _ _ _) (fun e => mp_ne HM.out HY.out (by injection e with e; exact e.symm))).keep (grow_set1 _ _ _ _) (fun e => mp_ne HM.out HY.out (by injection e with e; exact e.symm))
      · exact (T.setCell (by show w.heap.size ≤ w.heap.size + 1; omega) _).setCell (by show w.heap.size ≤ w.heap.size + 1; omega) _
theorem begin_bad (f : Int) (A : Option Addr) (l : Bins) (cap : Nat) (hU : UBs l) (hl : l.length ≤ 65536) (hr : rightB f l = false) (w : World) (hS : Sb w w.heap.size A l) :
    Calls Try.prog 36 #[.agg #[.int .i64 f, .slice A l.length cap]] w (WErr w) := by
  have T : Below w.heap.size w ((w.alloc (.cells #[.int .i64 f, .slice A l.length cap] 25)).alloc (.cells #[.map none, .int .i64 0] 59)) := below_al (below_al (below_0 _) _) _
  have Y0 := Blk.new (w.alloc (.cells #[.int .i64 f, .slice A l.length cap] 25)) 59 #[.map none, .int .i64 0]
  have Y : Hid (Blk ((w.alloc (.cells #[.int .i64 f, .slice A l.length cap] 25)).alloc (.cells #[.map none, .int .i64 0] 59)) (w.heap.size + 1) 59 #[.map none, .int .i64 0]) := by
    have e : (w.alloc (.cells #[.int .i64 f, .slice A l.length cap] 25)).heap.size = w.heap.size + 1 := by simp
    rw [e] at Y0
    exact Y0
  clear Y0
  have HS := Lib.hid (Sb.later hS T)
  have HR := Lib.hid hr
  clear hS hr
  go_enter Try.func36, Try.ntmps36
  go_wp2_with fail
  generalize (w.alloc (.cells #[.int .i64 f, .slice A l.length cap] 25)).alloc (.cells #[.map none, .int .i64 0] 59) = w0 at *
  refine (right_any f A l cap hU (by omega) _ HS.out).mono ?_
  rintro e w1 ⟨rfl, hb1⟩
  rw [HR.out]
  replace Y := Lib.hid (Y.out.later hb1)
  replace T := Below.two T hb1
  have y0 := Y.out.d0
  have y1 := Y.out.d1
  have fy0 := Y.out.frozen 0
  have fy1 := Y.out.frozen 1
  have zy := Y.out.lt
  have K := (Y.out.set_ 0 (.map none)).set_ 1 (.int .i64 0)
  have k0 := K.d0
  have k1 := K.d1
  clear hb1 K
  go_wp2_with fail
  exact bodyPost_ret (v := .tuple #[.agg #[.map none, .int .i64 0], errV ⟨#[110, 111, 32, 104, 105, 115, 116, 111, 103, 114, 97, 109]⟩]) (by simp [results, Try.results36, go_sem, k0, k1]) rfl ⟨_, rfl, (T.setCell (by show w.heap.size ≤ w.heap.size + 1; omega) _).setCell (by show w.heap.size ≤ w.heap.size + 1; omega) _⟩
end Go.Proofs.Ytopddcabaiicgaa

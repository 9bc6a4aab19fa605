/-
  The walk of hist.Merge.
-/
import Derived.Test.YtopddcabaiicgaaHistAdd
namespace Go.Proofs.Ytopddcabaiicgaa
open Go.RowKit
set_option linter.unusedVariables false
set_option linter.unusedSimpArgs false
/-- What Merge tells. -/
def mergeH (f : Int) (l : Bins) (g : Int) (m : Bins) : Int × Bins × Int := if rightB f l = true ∧ rightB g m = true ∧ g = f then (f, putAll l m, 0) else (0, [], 90)
theorem Blk.new3 (w : World) (o o' : Obj) (t : TypeId) (cs : Array Value) : Blk (((w.alloc o).alloc o').alloc (.cells cs t)) (w.heap.size + 1 + 1) t cs := by
  have h := Blk.new ((w.alloc o).alloc o') t cs
  have e : ((w.alloc o).alloc o').heap.size = w.heap.size + 1 + 1 := by simp
  rwa [e] at h
/-- Between two rounds of Merge. -/
def MgI (w : World) (f : Int) (gw B : Nat) (x : Bins) (k : Nat) (wr : World) : Prop :=
  Blk wr (w.heap.size + 1 + 1) 25 #[.int .i64 0, .slice none 0 0] ∧ Blk wr gw 59 #[.map (some B), .int .i64 f] ∧ Mp wr B k x ∧ Below w.heap.size w wr
theorem putAll_ubs : ∀ {m l : Bins}, UBs l → UBs m → UBs (putAll l m)
  | [], _, h, _ => h
  | x :: m, l, h, hm => putAll_ubs (m := m) (putL_ubs h (hm x (by simp)).1 (hm x (by simp)).2) (fun y hy => hm y (by simp [hy]))
theorem putAll_length : ∀ (m l : Bins), (putAll l m).length ≤ l.length + m.length
  | [], l => by simp [putAll]
  | x :: m, l => by
    have h1 := putAll_length m (putL l x.1 x.2)
    have h2 := putL_length l x.1 x.2
    rw [putAll_cons]
    simp only [List.length_cons]; omega
set_option maxRecDepth 100000 in
set_option maxHeartbeats 4000000 in
theorem merge_good (f : Int) (A C : Option Addr) (l m : Bins) (cap capy : Nat) (hU : UBs l) (hV : UBs m) (hl : l.length ≤ 30000) (hm : m.length ≤ 30000) (hr : rightB f l = true) (hq : rightB f m = true) (w : World) (hS : Sb w w.heap.size A l) (hT : Sb w w.heap.size C m) :
    Calls Try.prog 23 #[.agg #[.int .i64 f, .slice A l.length cap], .agg #[.int .i64 f, .slice C m.length capy]] w (HsRes w (f, putAll l m, 0)) := by
  have T : Below w.heap.size w (((w.alloc (.cells #[.int .i64 f, .slice A l.length cap] 25)).alloc (.cells #[.int .i64 f, .slice C m.length capy] 25)).alloc (.cells #[.int .i64 0, .slice none 0 0] 25)) := below_al (below_al (below_al (below_0 _) _) _) _
  have Y := Lib.hid (Blk.new3 w (.cells #[.int .i64 f, .slice A l.length cap] 25) (.cells #[.int .i64 f, .slice C m.length capy] 25) 25 #[.int .i64 0, .slice none 0 0])
  have P := Lib.hid (((Blk.new w 25 #[.int .i64 f, .slice A l.length cap]).alloc (.cells #[.int .i64 f, .slice C m.length capy] 25)).alloc (.cells #[.int .i64 0, .slice none 0 0] 25))
  have Q := Lib.hid ((Blk.new2 w (.cells #[.int .i64 f, .slice A l.length cap] 25) 25 #[.int .i64 f, .slice C m.length capy]).alloc (.cells #[.int .i64 0, .slice none 0 0] 25))
  have HS := Lib.hid (Sb.later hS T)
  have HT := Lib.hid (Sb.later hT T)
  have HT0 := Lib.hid hT
  have R := rt_of hr
  have R2 := rt_of hq
  have HR := Lib.hid hr
  have HQ := Lib.hid hq
  clear hS hr hT hq
  go_enter Try.func23, Try.ntmps23
  go_wp2_with fail
  generalize ((w.alloc (.cells #[.int .i64 f, .slice A l.length cap] 25)).alloc (.cells #[.int .i64 f, .slice C m.length capy] 25)).alloc (.cells #[.int .i64 0, .slice none 0 0] 25) = w0 at *
  refine (begin_good f A l cap hU (by omega) HR.out _ HS.out).mono ?_
  rintro e w1 ⟨B, rfl, hM, hB, hb1⟩
  have X := Lib.hid (Blk.new w1 59 #[.map (some B), .int .i64 f])
  have hba := below_al (below_0 w1) (.cells #[.map (some B), .int .i64 f] 59)
  replace Y := Lib.hid ((Y.out.later hb1).later hba)
  replace P := Lib.hid ((P.out.later hb1).later hba)
  replace Q := Lib.hid ((Q.out.later hb1).later hba)
  have hwB : w.heap.size ≤ B := Nat.le_trans T.size hB
  have T1 := Lib.hid (Below.two (Below.two T hb1) hba)
  have M := Lib.hid (hM.later hba)
  replace HT := Lib.hid (Sb.later (Sb.later HT.out hb1) hba)
  have p0 := P.out.d0
  have q0 := Q.out.d0
  have q1 := Q.out.d1
  have zp := P.out.lt
  have zq := Q.out.lt
  have zy := Y.out.lt
  clear T hb1 hba hM hB HS
  go_wp2_with fail
  generalize w1.alloc (.cells #[.map (some B), .int .i64 f] 59) = w2 at *
  refine (right_any f C m capy hV (by omega) _ HT.out).mono ?_
  rintro e w3 ⟨rfl, hb3⟩
  rw [HQ.out]
  have hI : MgI w f w1.heap.size B (putAll l (m.take 0)) l.length w3 := ⟨Y.out.later hb3, X.out.later hb3, M.out.later hb3, Below.two T1.out hb3⟩
  have HI := Lib.hid hI
  replace P := Lib.hid (P.out.later hb3)
  replace Q := Lib.hid (Q.out.later hb3)
  clear p0 q0 q1
  have p0 := P.out.d0
  have q0 := Q.out.d0
  have q1 := Q.out.d1
  have zp := P.out.lt
  have zq := Q.out.lt
  clear hI hb3 X Y M T1 HT
  go_wp2_with fail
  clear p0 q0 q1 P Q
  go_loopw [39] (fun i wr => ∃ k : Nat, k ≤ m.length ∧ i = .int .i64 k ∧ MgI w f w1.heap.size B (putAll l (m.take k)) (l.length + k) wr) (fun i _ => m.length - (RowKit.intOf i).toNat)
  case atStart => exact ⟨0, Nat.zero_le _, rfl, HI.out⟩
  case round =>
    obtain ⟨k, hk, rfl, Y, Z, M, T⟩ := hrel
    clear HI
    have z0 := Z.d0
    have z1 := Z.d1
    have zz := Z.lt
    have HY := Lib.hid Y
    have HZ := Lib.hid Z
    have HM := Lib.hid M
    have hrs : Rise (putAll l (m.take k)) := putAll_rise R.rise
    have hub : UBs (putAll l (m.take k)) := putAll_ubs hU (hV.take k)
    clear Y M Z
    by_cases hlt : k < m.length
    · obtain ⟨b, off, rfl, hb, hcs⟩ := HT0.out.at_ (by omega)
      obtain ⟨h1, h2⟩ := hcs k hlt
      have i1 := (T.cell (p := ⟨b, off + k * 2, none⟩) hb).trans h1
      have i2 := (T.cell (p := ⟨b, off + k * 2 + 1, none⟩) hb).trans h2
      have hbw : b < wr.heap.size := by have := T.size; omega
      have HN : Hid (putAll l (m.take (k + 1)) = putL (putAll l (m.take k)) (bth m k).1 (bth m k).2) := by show _ = _; rw [take_bth_succ hlt, putAll_snoc]
      obtain ⟨u1, u2⟩ := bth_U hV k
      generalize bth m k = it at *
      generalize putAll l (m.take k) = x at *
      have hi1 : (0 : Int) ≤ (k : Int) := by omega
      have hi2 : (k : Int) < (m.length : Int) := by omega
      clear hcs h1 h2
      go_wp2_with fail
      refine (put_any x f it.1 it.2 B (l.length + k) hrs hub.ub u1 u2 _ (HM.out.alloc _) (by unfold maxLen; omega)).mono ?_
      rintro e w4 ⟨rfl, hM3, hG3⟩
      have hI : MgI w f w1.heap.size B (putAll l (m.take (k + 1))) (l.length + (k + 1)) w4 :=
        ⟨(HY.out.alloc _).grown hG3 (blk_not_mp HM.out HY.out), (HZ.out.alloc _).grown hG3 (blk_not_mp HM.out HZ.out), by rw [HN.out]; exact hM3, below_turned (below_al T _) hG3 hwB⟩
      have HI := Lib.hid hI
      clear hI hM3 z0 z1 i1 i2
      go_wp2_with fail
      go_roundw
      case rel => exact ⟨k + 1, by omega, by go_num, HI.out⟩
      case measure => simp [RowKit.intOf]; omega
    · obtain rfl : k = m.length := by omega
      rw [List.take_of_length_le (Nat.le_refl _)] at HM hrs hub
      have hle : (putAll l m).length ≤ 65536 := by have := putAll_length m l; omega
      have HZ2 := Lib.hid (dropZ_nz (putAll_nz hU.ub hV.ub R.nz R2.nz))
      obtain ⟨x, hx⟩ : ∃ x, putAll l m = x := ⟨_, rfl⟩
      rw [hx] at HM hrs hub hle HZ2
      have HX := Lib.hid hx
      clear hx
      go_wp2_with fail
      refine (done_any x f B (l.length + m.length) hrs hub hle _ HM.out).mono ?_
      rintro e w5 ⟨hG5, v5, rfl, hh5⟩
      rw [HZ2.out] at hh5
      obtain ⟨A5, c5, rfl, hc5, hA5, hS5, hF5⟩ := hh5
      have hh5 : HeldB w5 w.heap.size (.slice A5 x.length c5) x := ⟨A5, c5, rfl, hc5, hA5, hS5, hF5.from T.size⟩
      have Y5 := Lib.hid (HY.out.grown hG5 (blk_not_mp HM.out HY.out))
      have T5 := Lib.hid (below_turned T hG5 hwB)
      have HH := Lib.hid hh5
      have y50 := Y5.out.d0
      have y51 := Y5.out.d1
      have fy0 := Y5.out.frozen 0
      have fy1 := Y5.out.frozen 1
      have zy := Y5.out.lt
      clear hh5 hS5 hF5 hA5 hG5 z0 z1
      have K := Y5.out.set2 (x := .int .i64 f) (y := .slice A5 x.length c5)
      have k0 := K.d0
      have k1 := K.d1
      go_wp2_with fail
      rw [HX.out]
      exact bodyPost_ret (v := .tuple #[.agg #[.int .i64 f, .slice A5 x.length c5], .int .i64 0]) (by simp [results, Try.results23, go_sem, k0, k1]) rfl
        ⟨below_set2 T5.out (by omega) _ _, _, rfl, heldB_set2 HH.out Y5.out⟩
set_option maxRecDepth 100000 in
set_option maxHeartbeats 2000000 in
theorem merge_bad1 (f g : Int) (A C : Option Addr) (l m : Bins) (cap capy : Nat) (hU : UBs l) (hV : UBs m) (hl : l.length ≤ 30000) (hm : m.length ≤ 30000) (hr : rightB f l = false) (w : World) (hS : Sb w w.heap.size A l) (hT : Sb w w.heap.size C m) :
    Calls Try.prog 23 #[.agg #[.int .i64 f, .slice A l.length cap], .agg #[.int .i64 g, .slice C m.length capy]] w (HsRes w (0, [], 90)) := by
  have T : Below w.heap.size w (((w.alloc (.cells #[.int .i64 f, .slice A l.length cap] 25)).alloc (.cells #[.int .i64 g, .slice C m.length capy] 25)).alloc (.cells #[.int .i64 0, .slice none 0 0] 25)) := below_al (below_al (below_al (below_0 _) _) _) _
  have Y := Lib.hid (Blk.new3 w (.cells #[.int .i64 f, .slice A l.length cap] 25) (.cells #[.int .i64 g, .slice C m.length capy] 25) 25 #[.int .i64 0, .slice none 0 0])
  have P := Lib.hid (((Blk.new w 25 #[.int .i64 f, .slice A l.length cap]).alloc (.cells #[.int .i64 g, .slice C m.length capy] 25)).alloc (.cells #[.int .i64 0, .slice none 0 0] 25))
  have Q := Lib.hid ((Blk.new2 w (.cells #[.int .i64 f, .slice A l.length cap] 25) 25 #[.int .i64 g, .slice C m.length capy]).alloc (.cells #[.int .i64 0, .slice none 0 0] 25))
  have HS := Lib.hid (Sb.later hS T)
  have HT := Lib.hid (Sb.later hT T)
  have HR := Lib.hid hr
  clear hr
  clear hS hT
  go_enter Try.func23, Try.ntmps23
  go_wp2_with fail
  generalize ((w.alloc (.cells #[.int .i64 f, .slice A l.length cap] 25)).alloc (.cells #[.int .i64 g, .slice C m.length capy] 25)).alloc (.cells #[.int .i64 0, .slice none 0 0] 25) = w0 at *
  refine (begin_bad f A l cap hU (by omega) HR.out _ HS.out).mono ?_
  rintro e w1 ⟨s, rfl, hb1⟩
  have hba := below_al (below_0 w1) (.cells #[.map none, .int .i64 0] 59)
  replace Y := Lib.hid ((Y.out.later hb1).later hba)
  replace T := Below.two (Below.two T hb1) hba
  clear hb1 hba HS HT P Q
  go_wp2_with fail
  generalize w1.alloc (.cells #[.map none, .int .i64 0] 59) = w2 at *
  refine (errno_err _ _).mono ?_
  rintro e w9 ⟨rfl, rfl⟩
  have hba := below_al (below_0 w2) (.cells #[.string s] 73)
  replace Y := Lib.hid (Y.out.later hba)
  replace T := Below.two T hba
  generalize w2.alloc (.cells #[.string s] 73) = w9 at *
  have y50 := Y.out.d0
  have y51 := Y.out.d1
  have fy0 := Y.out.frozen 0
  have fy1 := Y.out.frozen 1
  have zy := Y.out.lt
  have K := Y.out.set2 (x := .int .i64 0) (y := .slice none 0 0)
  have k0 := K.d0
  have k1 := K.d1
  go_wp2_with fail
  exact bodyPost_ret (v := .tuple #[.agg #[.int .i64 0, .slice none 0 0], .int .i64 90]) (by simp [results, Try.results23, go_sem, k0, k1]) rfl
    ⟨below_set2 T (by omega) _ _, _, rfl, heldB_set2 (heldB_nil _ _) Y.out⟩
set_option maxRecDepth 100000 in
set_option maxHeartbeats 2000000 in
theorem merge_bad2 (f g : Int) (A C : Option Addr) (l m : Bins) (cap capy : Nat) (hU : UBs l) (hV : UBs m) (hl : l.length ≤ 30000) (hm : m.length ≤ 30000) (hr : rightB f l = true) (hq : rightB g m = false) (w : World) (hS : Sb w w.heap.size A l) (hT : Sb w w.heap.size C m) :
    Calls Try.prog 23 #[.agg #[.int .i64 f, .slice A l.length cap], .agg #[.int .i64 g, .slice C m.length capy]] w (HsRes w (0, [], 90)) := by
  have T : Below w.heap.size w (((w.alloc (.cells #[.int .i64 f, .slice A l.length cap] 25)).alloc (.cells #[.int .i64 g, .slice C m.length capy] 25)).alloc (.cells #[.int .i64 0, .slice none 0 0] 25)) := below_al (below_al (below_al (below_0 _) _) _) _
  have Y := Lib.hid (Blk.new3 w (.cells #[.int .i64 f, .slice A l.length cap] 25) (.cells #[.int .i64 g, .slice C m.length capy] 25) 25 #[.int .i64 0, .slice none 0 0])
  have P := Lib.hid (((Blk.new w 25 #[.int .i64 f, .slice A l.length cap]).alloc (.cells #[.int .i64 g, .slice C m.length capy] 25)).alloc (.cells #[.int .i64 0, .slice none 0 0] 25))
  have Q := Lib.hid ((Blk.new2 w (.cells #[.int .i64 f, .slice A l.length cap] 25) 25 #[.int .i64 g, .slice C m.length capy]).alloc (.cells #[.int .i64 0, .slice none 0 0] 25))
  have HS := Lib.hid (Sb.later hS T)
  have HT := Lib.hid (Sb.later hT T)
  have HR := Lib.hid hr
  have HQ := Lib.hid hq
  clear hr hq
  clear hS hT
  go_enter Try.func23, Try.ntmps23
  go_wp2_with fail
  generalize ((w.alloc (.cells #[.int .i64 f, .slice A l.length cap] 25)).alloc (.cells #[.int .i64 g, .slice C m.length capy] 25)).alloc (.cells #[.int .i64 0, .slice none 0 0] 25) = w0 at *
  refine (begin_good f A l cap hU (by omega) HR.out _ HS.out).mono ?_
  rintro e w1 ⟨B, rfl, hM, hB, hb1⟩
  have hba := below_al (below_0 w1) (.cells #[.map (some B), .int .i64 f] 59)
  replace Y := Lib.hid ((Y.out.later hb1).later hba)
  replace P := Lib.hid ((P.out.later hb1).later hba)
  replace Q := Lib.hid ((Q.out.later hb1).later hba)
  replace HT := Lib.hid (Sb.later (Sb.later HT.out hb1) hba)
  replace T := Below.two (Below.two T hb1) hba
  have q0 := Q.out.d0
  have q1 := Q.out.d1
  have zq := Q.out.lt
  clear hb1 hba HS hM hB
  go_wp2_with fail
  generalize w1.alloc (.cells #[.map (some B), .int .i64 f] 59) = w2 at *
  refine (right_any g C m capy hV (by omega) _ HT.out).mono ?_
  rintro e w3 ⟨rfl, hb3⟩
  rw [HQ.out]
  replace Y := Lib.hid (Y.out.later hb3)
  replace P := Lib.hid (P.out.later hb3)
  replace Q := Lib.hid (Q.out.later hb3)
  replace T := Below.two T hb3
  clear q0 q1 hb3
  have p0 := P.out.d0
  have q0 := Q.out.d0
  have zp := P.out.lt
  have zq := Q.out.lt
  go_wp2_with fail
  clear p0 q0 P Q HT
  refine (errno_err _ _).mono ?_
  rintro e w9 ⟨rfl, rfl⟩
  have hba := below_al (below_0 w3) (.cells #[.string ⟨#[110, 111, 32, 104, 105, 115, 116, 111, 103, 114, 97, 109, 32, 111, 102, 32, 116, 104, 105, 115, 32, 107, 105, 110, 100]⟩] 73)
  replace Y := Lib.hid (Y.out.later hba)
  replace T := Below.two T hba
  generalize w3.alloc (.cells #[.string ⟨#[110, 111, 32, 104, 105, 115, 116, 111, 103, 114, 97, 109, 32, 111, 102, 32, 116, 104, 105, 115, 32, 107, 105, 110, 100]⟩] 73) = w9 at *
  have y50 := Y.out.d0
  have y51 := Y.out.d1
  have fy0 := Y.out.frozen 0
  have fy1 := Y.out.frozen 1
  have zy := Y.out.lt
  have K := Y.out.set2 (x := .int .i64 0) (y := .slice none 0 0)
  have k0 := K.d0
  have k1 := K.d1
  go_wp2_with fail
  exact bodyPost_ret (v := .tuple #[.agg #[.int .i64 0, .slice none 0 0], .int .i64 90]) (by simp [results, Try.results23, go_sem, k0, k1]) rfl
    ⟨below_set2 T (by omega) _ _, _, rfl, heldB_set2 (heldB_nil _ _) Y.out⟩
set_option maxRecDepth 100000 in
set_option maxHeartbeats 2000000 in
theorem merge_bad3 (f g : Int) (A C : Option Addr) (l m : Bins) (cap capy : Nat) (hU : UBs l) (hV : UBs m) (hl : l.length ≤ 30000) (hm : m.length ≤ 30000) (hr : rightB f l = true) (hq : rightB g m = true) (hne : g ≠ f) (w : World) (hS : Sb w w.heap.size A l) (hT : Sb w w.heap.size C m) :
    Calls Try.prog 23 #[.agg #[.int .i64 f, .slice A l.length cap], .agg #[.int .i64 g, .slice C m.length capy]] w (HsRes w (0, [], 90)) := by
  have T : Below w.heap.size w (((w.alloc (.cells #[.int .i64 f, .slice A l.length cap] 25)).alloc (.cells #[.int .i64 g, .slice C m.length capy] 25)).alloc (.cells #[.int .i64 0, .slice none 0 0] 25)) := below_al (below_al (below_al (below_0 _) _) _) _
  have Y := Lib.hid (Blk.new3 w (.cells #[.int .i64 f, .slice A l.length cap] 25) (.cells #[.int .i64 g, .slice C m.length capy] 25) 25 #[.int .i64 0, .slice none 0 0])
  have P := Lib.hid (((Blk.new w 25 #[.int .i64 f, .slice A l.length cap]).alloc (.cells #[.int .i64 g, .slice C m.length capy] 25)).alloc (.cells #[.int .i64 0, .slice none 0 0] 25))
  have Q := Lib.hid ((Blk.new2 w (.cells #[.int .i64 f, .slice A l.length cap] 25) 25 #[.int .i64 g, .slice C m.length capy]).alloc (.cells #[.int .i64 0, .slice none 0 0] 25))
  have HS := Lib.hid (Sb.later hS T)
  have HT := Lib.hid (Sb.later hT T)
  have HR := Lib.hid hr
  have HQ := Lib.hid hq
  have dne : (g != f) = true := by simp [hne]
  clear hr hq hne
  clear hS hT
  go_enter Try.func23, Try.ntmps23
  go_wp2_with fail
  generalize ((w.alloc (.cells #[.int .i64 f, .slice A l.length cap] 25)).alloc (.cells #[.int .i64 g, .slice C m.length capy] 25)).alloc (.cells #[.int .i64 0, .slice none 0 0] 25) = w0 at *
  refine (begin_good f A l cap hU (by omega) HR.out _ HS.out).mono ?_
  rintro e w1 ⟨B, rfl, hM, hB, hb1⟩
  have hba := below_al (below_0 w1) (.cells #[.map (some B), .int .i64 f] 59)
  replace Y := Lib.hid ((Y.out.later hb1).later hba)
  replace P := Lib.hid ((P.out.later hb1).later hba)
  replace Q := Lib.hid ((Q.out.later hb1).later hba)
  replace HT := Lib.hid (Sb.later (Sb.later HT.out hb1) hba)
  replace T := Below.two (Below.two T hb1) hba
  have q0 := Q.out.d0
  have q1 := Q.out.d1
  have zq := Q.out.lt
  clear hb1 hba HS hM hB
  go_wp2_with fail
  generalize w1.alloc (.cells #[.map (some B), .int .i64 f] 59) = w2 at *
  refine (right_any g C m capy hV (by omega) _ HT.out).mono ?_
  rintro e w3 ⟨rfl, hb3⟩
  rw [HQ.out]
  replace Y := Lib.hid (Y.out.later hb3)
  replace P := Lib.hid (P.out.later hb3)
  replace Q := Lib.hid (Q.out.later hb3)
  replace T := Below.two T hb3
  clear q0 q1 hb3
  have p0 := P.out.d0
  have q0 := Q.out.d0
  have zp := P.out.lt
  have zq := Q.out.lt
  go_wp2_with fail
  clear p0 q0 P Q HT
  refine (errno_err _ _).mono ?_
  rintro e w9 ⟨rfl, rfl⟩
  have hba := below_al (below_0 w3) (.cells #[.string ⟨#[110, 111, 32, 104, 105, 115, 116, 111, 103, 114, 97, 109, 32, 111, 102, 32, 116, 104, 105, 115, 32, 107, 105, 110, 100]⟩] 73)
  replace Y := Lib.hid (Y.out.later hba)
  replace T := Below.two T hba
  generalize w3.alloc (.cells #[.string ⟨#[110, 111, 32, 104, 105, 115, 116, 111, 103, 114, 97, 109, 32, 111, 102, 32, 116, 104, 105, 115, 32, 107, 105, 110, 100]⟩] 73) = w9 at *
  have y50 := Y.out.d0
  have y51 := Y.out.d1
  have fy0 := Y.out.frozen 0
  have fy1 := Y.out.frozen 1
  have zy := Y.out.lt
  have K := Y.out.set2 (x := .int .i64 0) (y := .slice none 0 0)
  have k0 := K.d0
  have k1 := K.d1
  go_wp2_with fail
  exact bodyPost_ret (v := .tuple #[.agg #[.int .i64 0, .slice none 0 0], .int .i64 90]) (by simp [results, Try.results23, go_sem, k0, k1]) rfl
    ⟨below_set2 T (by omega) _ _, _, rfl, heldB_set2 (heldB_nil _ _) Y.out⟩
theorem merge_any (f g : Int) (A C : Option Addr) (l m : Bins) (cap capy : Nat) (hU : UBs l) (hV : UBs m) (hl : l.length ≤ 30000) (hm : m.length ≤ 30000) (w : World) (hS : Sb w w.heap.size A l) (hT : Sb w w.heap.size C m) :
    Calls Try.prog 23 #[.agg #[.int .i64 f, .slice A l.length cap], .agg #[.int .i64 g, .slice C m.length capy]] w (HsRes w (mergeH f l g m)) := by
  cases h1 : rightB f l with
  | false => rw [mergeH, if_neg (by simp [h1])]; exact merge_bad1 f g A C l m cap capy hU hV hl hm h1 w hS hT
  | true =>
    cases h2 : rightB g m with
    | false => rw [mergeH, if_neg (by simp [h2])]; exact merge_bad2 f g A C l m cap capy hU hV hl hm h1 h2 w hS hT
    | true =>
      by_cases h3 : g = f
      · subst h3; rw [mergeH, if_pos ⟨h1, h2, rfl⟩]; exact merge_good g A C l m cap capy hU hV hl hm h1 h2 w hS hT
      · rw [mergeH, if_neg (by simp [h3])]; exact merge_bad3 f g A C l m cap capy hU hV hl hm h1 h2 h3 w hS hT
end Go.Proofs.Ytopddcabaiicgaa

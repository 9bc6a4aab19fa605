/-
  slices.IndexFunc and slices.DeleteFunc of stale series.
-/
import Derived.Test.YtoffmclbnobllaaGreatDoorCkDelete
namespace Go.Proofs.YtoffmclbnobllaaGreatDoor
open Go.RowKit
set_option linter.unusedVariables false
set_option linter.unusedSimpArgs false
def stM (now life : Int) (m : SerM) : Bool := staleF m.s.seen now life
abbrev staleV (now life : Int) : Value := .func (.func 21) #[.agg #[.int .u64 now, .int .u64 life]] #[]
def IdxRet (w : World) (now life : Int) (ms : List SerM) (e : Ending) (w' : World) : Prop :=
  Below w.heap.size w w' ∧ ((e = .returned (.int .i64 (-1)) ∧ ∀ m ∈ ms, stM now life m = false) ∨ (∃ (k : Nat) (h : k < ms.length), e = .returned (.int .i64 (k : Int)) ∧ stM now life ms[k] = true ∧ ∀ j (hj : j < k), stM now life (ms[j]'(by omega)) = false))
set_option maxRecDepth 100000 in
set_option maxHeartbeats 4000000 in
theorem index_any (A : Option Addr) (ms : List SerM) (cap : Nat) (now life : Int) (hu : U now) (hl : ms.length ≤ 1000) (hf : ∀ m ∈ ms, SerFit m.s) (w : World) (hS : Tab w w.heap.size A ms) :
    Calls Tryz.prog 28 #[.slice A ms.length cap, staleV now life] w (IdxRet w now life ms) := by
  have HS := Lib.hid hS
  have HF := Lib.hid hf
  clear hS hf
  go_enter Tryz.func28, Tryz.ntmps28
  go_wp2_with fail
  go_loopw [8] (fun i wr => ∃ k : Nat, i = .int .i64 (k : Int) ∧ ∃ hk : k ≤ ms.length, Hid (∀ j (hj : j < k), stM now life (ms[j]'(by omega)) = false) ∧ Hid (Below w.heap.size w wr)) (fun i _ => ms.length - (RowKit.intOf i).toNat)
  case atStart => exact ⟨0, rfl, Nat.zero_le _, fun j hj => absurd hj (by omega), below_0 _⟩
  case round =>
    obtain ⟨k, rfl, hk, HE, HB⟩ := hrel
    by_cases h1 : k < ms.length
    · have d1 : decide ((k : Int) < (ms.length : Int)) = true := decide_eq_true (by omega)
      obtain ⟨b, off, rfl, hb, hc⟩ := HS.out.at_ (by omega)
      obtain ⟨i0, i1, i2, i3, i4, i5, i6, i7, i8, i9, i10, i11⟩ := (hc k h1).below HB.out hb
      have hi1 : (0 : Int) ≤ (k : Int) := by omega
      have hi2 : (k : Int) < (ms.length : Int) := by omega
      have QS := Lib.hid (wstale_any ms[k] (HF.out _ (List.getElem_mem h1)) now life hu wr)
      obtain ⟨r, hr⟩ : ∃ r, stM now life ms[k] = r := ⟨_, rfl⟩
      have HR := Lib.hid hr
      have hr2 : staleF ms[k].s.seen now life = r := hr
      rw [hr2] at QS
      have HNX : Hid (r = false → ∀ j (hj : j < k + 1), stM now life (ms[j]'(by omega)) = false) := fun e j hj => by
        by_cases e2 : j = k
        · subst e2; rw [HR.out, e]
        · exact HE.out j (by omega)
      have HYES : Hid (r = true → ∃ (k : Nat) (h : k < ms.length), Ending.returned (.int .i64 (k : Int)) = Ending.returned (.int .i64 (k : Int)) ∧ stM now life ms[k] = true) := fun e => ⟨k, h1, rfl, by rw [HR.out, e]⟩
      unfold serV at QS
      clear hc hr hr2
      cases r with
      | true =>
        have HFIN : Hid (IdxRet w now life ms (.returned (.int .i64 (k : Int))) w → True) := fun _ => trivial
        go_wp2_with fail
        refine QS.out.mono ?_
        rintro r w1 ⟨rfl, hb2⟩
        have HB2 := Lib.hid (Below.two HB.out hb2)
        clear hb2 QS
        go_wp2_with fail
        go_ret
        exact ⟨HB2.out, .inr ⟨k, h1, rfl, HR.out, HE.out⟩⟩
      | false =>
        go_wp2_with fail
        refine QS.out.mono ?_
        rintro r w1 ⟨rfl, hb2⟩
        have HB2 := Lib.hid (Below.two HB.out hb2)
        clear hb2 QS
        go_wp2_with fail
        go_roundw
        case rel => exact ⟨k + 1, by go_num, h1, HNX.out (by first | rfl | trivial), HB2.out⟩
        case measure => simp [RowKit.intOf]; omega
    · have hkk : k = ms.length := by omega
      subst hkk
      have d1 : decide ((ms.length : Int) < (ms.length : Int)) = false := by simp
      have HALL : Hid (∀ m ∈ ms, stM now life m = false) := fun m hm => by
        obtain ⟨j, hj, e⟩ := List.getElem_of_mem hm
        rw [← e]; exact HE.out j hj
      go_wp2_with fail
      go_ret
      exact ⟨HB.out, .inl ⟨rfl, HALL.out⟩⟩
def freshB (now life : Int) (m : SerM) : Bool := !stM now life m
theorem filter_le (p : SerM → Bool) (l : List SerM) : (l.filter p).length ≤ l.length := List.length_filter_le p l
theorem filter_take_succ {p : SerM → Bool} {l : List SerM} {j : Nat} (h : j < l.length) : (l.take (j + 1)).filter p = (l.take j).filter p ++ (if p l[j] = true then [l[j]] else []) := by
  rw [List.take_succ_eq_append_getElem h, List.filter_append]
  congr 1
  simp [List.filter]
  split <;> simp_all
theorem serAt0 {w : World} {g k : Nat} {m : SerM} (h : SerAt w g (0 + k * 12) m) : SerAt w g (k * 12) m := by rwa [Nat.zero_add] at h
/-- What DeleteFunc has done so far: the first i of cur are those that stay of the first j of ms. -/
structure DelI (w : World) (B g n cap : Nat) (now life : Int) (ms : List SerM) (i j : Nat) (cur : List SerM) : Prop where
  own : w.ownsRow B 50 12 (.slice (some ⟨g, 0, none⟩) n cap) n (tabC cur)
  len : cur.length = n
  ij : i < j
  take : cur.take i = (ms.take j).filter (freshB now life)
  drop : cur.drop j = ms.drop j
  mem : ∀ m ∈ cur, m ∈ ms
theorem DelI.at_ {w : World} {B g n cap : Nat} {now life : Int} {ms : List SerM} {i j : Nat} {cur : List SerM} (h : DelI w B g n cap now life ms i j cur) (hn : ms.length = n) (hj : j < n) : ∃ hc : j < cur.length, cur[j] = ms[j]'(by omega) := by
  have hc : j < cur.length := by rw [h.len]; exact hj
  refine ⟨hc, ?_⟩
  have e := h.drop
  rw [List.drop_eq_getElem_cons hc, List.drop_eq_getElem_cons (l := ms) (i := j) (by omega)] at e
  exact (List.cons.inj e).1
theorem DelI.skip {w : World} {B g n cap : Nat} {now life : Int} {ms : List SerM} {i j : Nat} {cur : List SerM} (h : DelI w B g n cap now life ms i j cur) (hn : ms.length = n) (hj : j < n) (hs : stM now life (ms[j]'(by omega)) = true) : DelI w B g n cap now life ms i (j + 1) cur :=
  ⟨h.own, h.len, Nat.lt_succ_of_lt h.ij, by rw [filter_take_succ (by omega), ← h.take]; simp [freshB, hs], by
    have := congrArg (List.drop 1) h.drop
    rwa [List.drop_drop, List.drop_drop] at this, h.mem⟩
theorem DelI.keep {w W : World} {B g n cap : Nat} {now life : Int} {ms : List SerM} {i j : Nat} {cur : List SerM} (h : DelI w B g n cap now life ms i j cur) (hn : ms.length = n) (hj : j < n) (hs : stM now life (ms[j]'(by omega)) = false) (ho : W.ownsRow B 50 12 (.slice (some ⟨g, 0, none⟩) n cap) n (tabC (cur.set i (ms[j]'(by omega))))) : DelI W B g n cap now life ms (i + 1) (j + 1) (cur.set i (ms[j]'(by omega))) := by
  have hij := h.ij
  have hl := h.len
  refine ⟨ho, by rw [List.length_set]; exact hl, by omega, ?_, ?_, fun m hm => ?_⟩
  · have hi : i < (cur.set i (ms[j]'(by omega))).length := by rw [List.length_set]; omega
    rw [List.take_succ_eq_append_getElem hi, List.getElem_set_self, List.take_set_of_le (Nat.le_refl _), h.take, filter_take_succ (by omega)]
    simp [freshB, hs]
  · rw [List.drop_set_of_lt (by omega)]
    have := congrArg (List.drop 1) h.drop
    rwa [List.drop_drop, List.drop_drop] at this
  · rcases List.mem_or_eq_of_mem_set hm with hm | hm
    · exact h.mem m hm
    · rw [hm]; exact List.getElem_mem _
theorem DelI.own_later {w w' : World} {B g n cap : Nat} {now life : Int} {ms : List SerM} {i j : Nat} {cur : List SerM} (h : DelI w B g n cap now life ms i j cur) (hb : Below w.heap.size w w') : DelI w' B g n cap now life ms i j cur := ⟨Go.Proofs.YtoffmclbnobllaaGreatDoor.own_later h.own hb, h.len, h.ij, h.take, h.drop, h.mem⟩
theorem tabC_take (ms : List SerM) (i : Nat) : (tabC ms).take (i * 12) = tabC (ms.take i) := by
  induction ms generalizing i with
  | nil => simp [tabC]
  | cons m ms ih =>
    cases i with
    | zero => simp [tabC]
    | succ i =>
      have e : ∀ l : List SerM, tabC (m :: l) = serC m ++ tabC l := fun l => by simp [tabC]
      rw [List.take_succ_cons, e, e, ← ih, List.take_append, serC_len, List.take_of_length_le (by rw [serC_len]; omega)]
      congr 2; omega
set_option maxRecDepth 100000 in
set_option maxHeartbeats 16000000 in
theorem delete_any (v : Value) (ms : List SerM) (now life : Int) (hu : U now) (hl : ms.length ≤ 1000) (hf : ∀ m ∈ ms, SerFit m.s) (B : Nat) (w : World) (hB : B ≤ w.heap.size) (hO : OTab w B v ms) :
    Calls Tryz.prog 19 #[v, staleV now life] w fun e w' => (∃ v', e = .returned v' ∧ OTab w' B v' (ms.filter (freshB now life))) ∧ Below B w w' := by
  obtain ⟨A, cap, rfl, hncap, hrd, hA⟩ := own_rd hO.own
  have HT := Lib.hid hO.tab
  have HO := Lib.hid hO
  have HF := Lib.hid hf
  have QI := Lib.hid (index_any A ms cap now life hu hl hf w hO.tab)
  clear hO hf hrd hA
  go_enter Tryz.func19, Tryz.ntmps19
  go_wp2_with fail
  refine QI.out.mono ?_
  rintro r w1 ⟨hb1, ⟨rfl, hno⟩ | ⟨k0, hk0, rfl, hst, hbef⟩⟩
  · have HFL : Hid (ms.filter (freshB now life) = ms) := List.filter_eq_self.2 fun m hm => by simp [freshB, hno m hm]
    have HO1 := Lib.hid (HO.out.later hb1)
    have HB1 : Hid (Below B w w1) := hb1.mono hB
    clear hb1 hno QI
    go_wp2_with fail
    go_ret
    exact ⟨⟨_, rfl, by rw [HFL.out]; exact HO1.out⟩, HB1.out⟩
  · obtain ⟨g, cap', arr, e1, hBg, hgw, hblk, hnc, hcm⟩ := own_pos HO.out.own (by omega)
    injection e1 with e1 _ e2
    subst e1 e2
    have HO1 := Lib.hid (HO.out.later hb1)
    have HB1 : Hid (Below B w w1) := hb1.mono hB
    have hw1 := hb1.size
    have HI0 : Hid (DelI w1 B g ms.length cap now life ms k0 (k0 + 1) ms) := ⟨HO1.out.own, rfl, Nat.lt_succ_self _, by
      rw [filter_take_succ hk0]
      have h1 : (ms.take k0).filter (freshB now life) = ms.take k0 := List.filter_eq_self.2 fun m hm => by
        obtain ⟨j, hj, e⟩ := List.getElem_of_mem hm
        rw [List.length_take] at hj
        rw [List.getElem_take] at e
        rw [← e]; simp [freshB, hbef j (by omega)]
      rw [h1]; simp [freshB, hst], rfl, fun m h => h⟩
    have hkn : ((k0 : Int) == -1) = false := by rw [beq_eq_false_iff_ne]; omega
    clear hb1 hbef hst QI hblk
    go_wp2_with fail
    go_loopw [5, 6] (fun a b wr => ∃ (i j : Nat) (cur : List SerM), a = .int .i64 (i : Int) ∧ b = .int .i64 (j : Int) ∧ j ≤ ms.length ∧ Hid (DelI wr B g ms.length cap now life ms i j cur) ∧ Hid (∀ m ∈ ms, SerOk wr wr.heap.size m) ∧ Hid (Below B w1 wr)) (fun _ b _ => ms.length - (RowKit.intOf b).toNat)
    case atStart => exact ⟨k0, k0 + 1, ms, rfl, by go_num, by omega, HI0.out, HO1.out.ok, Below.refl _ _⟩
    case round =>
      clear HI0
      obtain ⟨i, j, cur, rfl, rfl, hj, HI, HSK, HB⟩ := hrel
      have hij := HI.out.ij
      have hcl := HI.out.len
      have hwz := HB.out.size
      by_cases h1 : j < ms.length
      · have d1 : decide ((j : Int) < (ms.length : Int)) = true := decide_eq_true (by omega)
        obtain ⟨hc, hcj⟩ := HI.out.at_ rfl h1
        have HTC : Hid (Tab wr wr.heap.size (some ⟨g, 0, none⟩) cur) := by
          obtain ⟨A', c', e, _, hr, _⟩ := own_rd HI.out.own
          cases e
          exact ⟨hr, fun m hm => HSK.out m (HI.out.mem m hm)⟩
        obtain ⟨b', off', e3, hgl, hcells⟩ := HTC.out.at_ (by omega)
        cases e3
        obtain ⟨i0, i1, i2, i3, i4, i5, i6, i7, i8, i9, i10, i11⟩ := serAt0 (hcells j hc)
        have HATI : Hid (SerAt wr g (i * 12) cur[i]) := serAt0 (hcells i (by omega))
        rw [hcj] at i0 i1 i2 i3 i4 i5 i6 i7 i8 i9 i10 i11
        have hi1 : (0 : Int) ≤ (j : Int) := by omega
        have hi2 : (j : Int) < (ms.length : Int) := by omega
        have hi3 : (0 : Int) ≤ (i : Int) := by omega
        have hi4 : (i : Int) < (ms.length : Int) := by omega
        have HFIT := Lib.hid (HF.out _ (List.getElem_mem h1))
        have HMEM : Hid (ms[j] ∈ ms) := List.getElem_mem h1
        have HSKIP : Hid (stM now life ms[j] = true → ∀ W, DelI W B g ms.length cap now life ms i j cur → DelI W B g ms.length cap now life ms i (j + 1) cur) := fun hs W h => h.skip rfl h1 hs
        have HKEEP : Hid (stM now life ms[j] = false → ∀ W V : World, DelI W B g ms.length cap now life ms i j cur → V.ownsRow B 50 12 (.slice (some ⟨g, 0, none⟩) ms.length cap) ms.length (tabC (cur.set i ms[j])) → DelI V B g ms.length cap now life ms (i + 1) (j + 1) (cur.set i ms[j])) := fun hs W V h ho => h.keep rfl h1 hs ho
        clear hcells hcj
        generalize ms[j] = m at *
        go_wp2_with fail
        have hbx := Lib.hid (below_al (below_0 wr) (.cells (serA m) 50))
        have QS := Lib.hid (wstale_any m HFIT.out now life hu (wr.alloc (.cells (serA m) 50)))
        have XB0 := Lib.hid (Blk.new wr 50 (serA m))
        unfold serA serV at *
        refine QS.out.mono ?_
        rintro r w2 ⟨rfl, hb2⟩
        have HW2 := Lib.hid (Below.two hbx.out hb2)
        have XB := Lib.hid (XB0.out.later hb2)
        have HI2 := Lib.hid (HI.out.own_later HW2.out)
        have HSK2 : Hid (∀ m ∈ ms, SerOk w2 w2.heap.size m) := fun m0 h => (HSK.out m0 h).later HW2.out
        have HB2 : Hid (Below B w1 w2) := HB.out.trans (HW2.out.mono (by omega))
        have HAT2 := Lib.hid (HATI.out.below HW2.out hgl)
        have hz2 := HW2.out.size
        clear hbx hb2 QS XB0 HI HSK HB HATI HTC i0 i1 i2 i3 i4 i5 i6 i7 i8 i9 i10 i11
        cases hst : stM now life m with
        | true =>
          have hst2 : staleF m.s.seen now life = true := hst
          have HR := Lib.hid (HSKIP.out hst w2 HI2.out)
          rw [hst2]
          clear HSKIP HKEEP hst hst2
          go_wp2_with fail
          go_roundw
          case rel => exact ⟨i, j + 1, cur, rfl, by go_num, by omega, HR.out, HSK2.out, HB2.out⟩
          case measure => simp [RowKit.intOf]; omega
        | false =>
          have hst2 : staleF m.s.seen now life = false := hst
          obtain ⟨g', cap', arr, e4, _, _, hblk, _, _⟩ := own_pos HI2.out.own (by omega)
          cases e4
          have x0 := XB.out.cell 0
          have x1 := XB.out.cell 1
          have x2 := XB.out.cell 2
          have x3 := XB.out.cell 3
          have x4 := XB.out.cell 4
          have x5 := XB.out.cell 5
          have x6 := XB.out.cell 6
          have x7 := XB.out.cell 7
          have x8 := XB.out.cell 8
          have x9 := XB.out.cell 9
          have x10 := XB.out.cell 10
          have x11 := XB.out.cell 11
          simp only [List.getElem?_toArray, List.getElem?_cons_zero, List.getElem?_cons_succ] at x0 x1 x2 x3 x4 x5 x6 x7 x8 x9 x10 x11
          obtain ⟨y0, y1, y2, y3, y4, y5, y6, y7, y8, y9, y10, y11⟩ := HAT2.out
          have f0 := hblk.frozen (i * 12)
          have f1 := hblk.frozen (i * 12 + 1)
          have f2 := hblk.frozen (i * 12 + 2)
          have f3 := hblk.frozen (i * 12 + 3)
          have f4 := hblk.frozen (i * 12 + 4)
          have f5 := hblk.frozen (i * 12 + 5)
          have f6 := hblk.frozen (i * 12 + 6)
          have f7 := hblk.frozen (i * 12 + 7)
          have f8 := hblk.frozen (i * 12 + 8)
          have f9 := hblk.frozen (i * 12 + 9)
          have f10 := hblk.frozen (i * 12 + 10)
          have f11 := hblk.frozen (i * 12 + 11)
          have ho12 := own12 (i := i) (m := m) HI2.out.own (by omega) (.slice m.la m.s.l.length m.lc) (.int .i64 m.m.s.kind) (.int .i64 m.m.s.level) (.slice m.m.ea m.m.s.e.length m.m.ec) (.int .i64 m.m.s.bits) (.string m.m.s.regs) (.int .i64 m.m.s.rows) (.int .i64 m.m.s.cols) (.slice m.m.ca m.m.s.c.length m.m.cc) (.int .i64 m.m.s.fine) (.slice m.m.ga m.m.s.g.length m.m.gc) (.int .u64 m.s.seen) rfl
          have HR : Hid (DelI (World.setCell (World.setCell (World.setCell (World.setCell (World.setCell (World.setCell (World.setCell (World.setCell (World.setCell (World.setCell (World.setCell (World.setCell w2 ⟨g, i * 12, none⟩ (.slice m.la m.s.l.length m.lc)) ⟨g, i * 12 + 1, none⟩ (.int .i64 m.m.s.kind)) ⟨g, i * 12 + 2, none⟩ (.int .i64 m.m.s.level)) ⟨g, i * 12 + 3, none⟩ (.slice m.m.ea m.m.s.e.length m.m.ec)) ⟨g, i * 12 + 4, none⟩ (.int .i64 m.m.s.bits)) ⟨g, i * 12 + 5, none⟩ (.string m.m.s.regs)) ⟨g, i * 12 + 6, none⟩ (.int .i64 m.m.s.rows)) ⟨g, i * 12 + 7, none⟩ (.int .i64 m.m.s.cols)) ⟨g, i * 12 + 8, none⟩ (.slice m.m.ca m.m.s.c.length m.m.cc)) ⟨g, i * 12 + 9, none⟩ (.int .i64 m.m.s.fine)) ⟨g, i * 12 + 10, none⟩ (.slice m.m.ga m.m.s.g.length m.m.gc)) ⟨g, i * 12 + 11, none⟩ (.int .u64 m.s.seen)) B g ms.length cap now life ms (i + 1) (j + 1) (cur.set i m)) := HKEEP.out hst w2 _ HI2.out ho12.1
          have HSK3 : Hid (∀ m0 ∈ ms, SerOk (World.setCell (World.setCell (World.setCell (World.setCell (World.setCell (World.setCell (World.setCell (World.setCell (World.setCell (World.setCell (World.setCell (World.setCell w2 ⟨g, i * 12, none⟩ (.slice m.la m.s.l.length m.lc)) ⟨g, i * 12 + 1, none⟩ (.int .i64 m.m.s.kind)) ⟨g, i * 12 + 2, none⟩ (.int .i64 m.m.s.level)) ⟨g, i * 12 + 3, none⟩ (.slice m.m.ea m.m.s.e.length m.m.ec)) ⟨g, i * 12 + 4, none⟩ (.int .i64 m.m.s.bits)) ⟨g, i * 12 + 5, none⟩ (.string m.m.s.regs)) ⟨g, i * 12 + 6, none⟩ (.int .i64 m.m.s.rows)) ⟨g, i * 12 + 7, none⟩ (.int .i64 m.m.s.cols)) ⟨g, i * 12 + 8, none⟩ (.slice m.m.ca m.m.s.c.length m.m.cc)) ⟨g, i * 12 + 9, none⟩ (.int .i64 m.m.s.fine)) ⟨g, i * 12 + 10, none⟩ (.slice m.m.ga m.m.s.g.length m.m.gc)) ⟨g, i * 12 + 11, none⟩ (.int .u64 m.s.seen)) ((World.setCell (World.setCell (World.setCell (World.setCell (World.setCell (World.setCell (World.setCell (World.setCell (World.setCell (World.setCell (World.setCell (World.setCell w2 ⟨g, i * 12, none⟩ (.slice m.la m.s.l.length m.lc)) ⟨g, i * 12 + 1, none⟩ (.int .i64 m.m.s.kind)) ⟨g, i * 12 + 2, none⟩ (.int .i64 m.m.s.level)) ⟨g, i * 12 + 3, none⟩ (.slice m.m.ea m.m.s.e.length m.m.ec)) ⟨g, i * 12 + 4, none⟩ (.int .i64 m.m.s.bits)) ⟨g, i * 12 + 5, none⟩ (.string m.m.s.regs)) ⟨g, i * 12 + 6, none⟩ (.int .i64 m.m.s.rows)) ⟨g, i * 12 + 7, none⟩ (.int .i64 m.m.s.cols)) ⟨g, i * 12 + 8, none⟩ (.slice m.m.ca m.m.s.c.length m.m.cc)) ⟨g, i * 12 + 9, none⟩ (.int .i64 m.m.s.fine)) ⟨g, i * 12 + 10, none⟩ (.slice m.m.ga m.m.s.g.length m.m.gc)) ⟨g, i * 12 + 11, none⟩ (.int .u64 m.s.seen))).heap.size m0) := fun m0 h => (HSK2.out m0 h).grown ho12.2 (HO.out.ap m0 h)
          have HB3 : Hid (Below B w1 (World.setCell (World.setCell (World.setCell (World.setCell (World.setCell (World.setCell (World.setCell (World.setCell (World.setCell (World.setCell (World.setCell (World.setCell w2 ⟨g, i * 12, none⟩ (.slice m.la m.s.l.length m.lc)) ⟨g, i * 12 + 1, none⟩ (.int .i64 m.m.s.kind)) ⟨g, i * 12 + 2, none⟩ (.int .i64 m.m.s.level)) ⟨g, i * 12 + 3, none⟩ (.slice m.m.ea m.m.s.e.length m.m.ec)) ⟨g, i * 12 + 4, none⟩ (.int .i64 m.m.s.bits)) ⟨g, i * 12 + 5, none⟩ (.string m.m.s.regs)) ⟨g, i * 12 + 6, none⟩ (.int .i64 m.m.s.rows)) ⟨g, i * 12 + 7, none⟩ (.int .i64 m.m.s.cols)) ⟨g, i * 12 + 8, none⟩ (.slice m.m.ca m.m.s.c.length m.m.cc)) ⟨g, i * 12 + 9, none⟩ (.int .i64 m.m.s.fine)) ⟨g, i * 12 + 10, none⟩ (.slice m.m.ga m.m.s.g.length m.m.gc)) ⟨g, i * 12 + 11, none⟩ (.int .u64 m.s.seen))) := HB2.out.grown ho12.2 (by omega) (fun q e => by cases e; exact hBg)
          clear ho12
          rw [hst2]
          clear HSKIP HKEEP hst hst2 HI2 HSK2 HB2 HAT2 hblk
          go_wp2_with fail
          go_roundw
          case rel => exact ⟨i + 1, j + 1, cur.set i m, by go_num, by go_num, by omega, HR.out, HSK3.out, HB3.out⟩
          case measure => simp [RowKit.intOf]; omega
      · have hjj : j = ms.length := by omega
        subst hjj
        have hfl : cur.take i = ms.filter (freshB now life) := by
          have := HI.out.take
          rwa [List.take_length] at this
        have hlen : (ms.filter (freshB now life)).length = i := by rw [← hfl, List.length_take]; omega
        obtain ⟨W9, hcl9, hown9, hg9⟩ := run_clear_ser (k := i) HI.out.own (by omega) 0
        have htc : (tabC cur).take (i * 12) = tabC (ms.filter (freshB now life)) := by rw [← hfl, tabC_take]
        rw [htc] at hown9
        have HRES : Hid (OTab W9 B (.slice (some ⟨g, 0, none⟩) i cap) (ms.filter (freshB now life))) := ⟨by rw [hlen]; exact hown9, fun m0 h => (HSK.out m0 ((List.mem_filter.1 h).1)).grown hg9 (HO.out.ap m0 ((List.mem_filter.1 h).1)), fun m0 h => HO.out.ap m0 ((List.mem_filter.1 h).1)⟩
        have HB9 : Hid (Below B w W9) := HB1.out.trans (HB.out.grown hg9 (by omega) (fun q e => by cases e; exact hBg))
        have d1 : decide ((ms.length : Int) < (ms.length : Int)) = false := by simp
        have kF := ser_from (some ⟨g, 0, none⟩) ms.length cap i (by omega)
        have kT := ser_to (some ⟨g, 0, none⟩) ms.length cap i (by omega)
        clear hown9 hg9 htc hfl hlen HI HSK HB
        go_wp2_with fail
        go_ret
        exact ⟨⟨_, rfl, HRES.out⟩, HB9.out⟩
end Go.Proofs.YtoffmclbnobllaaGreatDoor

/-
  strings.SplitSeq at ";": the pieces, one a round.
-/
import Derived.Test.YtgfoeicfigfepaaDoorScCut
import Derived.Test.YtgfoeicfigfepaaDoorScRange
namespace Go.Proofs.YtgfoeicfigfepaaDoor
open Go.RowKit Go.Shelf
set_option linter.unusedVariables false
set_option linter.unusedSimpArgs false
attribute [local go_sem] Oper.semAt_some
theorem split_miss {l : List UInt8} (h : ¬ (59 : UInt8) ∈ l) : splitL l = [l] := splitL_none h
theorem split_hit {l : List UInt8} (h : (59 : UInt8) ∈ l) : splitL l = l.take (l.idxOf 59) :: splitL (l.drop (l.idxOf 59 + 1)) := by
  have hi := List.idxOf_lt_length_iff.2 h
  have e : l = l.take (l.idxOf 59) ++ 59 :: l.drop (l.idxOf 59 + 1) := by
    have h1 : l.drop (l.idxOf 59) = 59 :: l.drop (l.idxOf 59 + 1) := by
      rw [List.drop_eq_getElem_cons hi, List.getElem_idxOf hi]
    rw [← h1, List.take_append_drop]
  have hn : (59 : UInt8) ∉ l.take (l.idxOf 59) := fun hm => by
    obtain ⟨i, hi2, e2⟩ := List.mem_take_iff_getElem.1 hm
    have := List.not_of_lt_findIdx (p := (· == (59 : UInt8))) (xs := l) (i := i) (by have : l.idxOf 59 = l.findIdx (· == (59 : UInt8)) := rfl; omega)
    simp at this
    exact this e2
  conv => lhs; rw [e]
  exact splitL_cons hn _
/-- A piece of a text. -/
abbrev Pc := { x : List UInt8 // x.length ≤ 4294967296 }
theorem splitL_len : ∀ (l : List UInt8), ∀ x ∈ splitL l, x.length ≤ l.length
  | [], x, hx => by simp [splitL] at hx; rw [hx]; exact Nat.le_refl _
  | b :: t, x, hx => by
    unfold splitL at hx
    split at hx
    · rcases List.mem_cons.1 hx with rfl | h
      · exact Nat.zero_le _
      · have := splitL_len t x h; simp; omega
    · rcases List.mem_cons.1 hx with rfl | h
      · have hm : (splitL t).headD [] ∈ splitL t := by
          cases e : splitL t with
          | nil => exact absurd e (splitL_ne t)
          | cons y r => exact List.mem_cons_self
        have := splitL_len t _ hm
        simp only [List.length_cons]; omega
      · have := splitL_len t x (List.mem_of_mem_tail h); simp; omega
theorem exists_pcs : ∀ (ps : List (List UInt8)), (∀ x ∈ ps, x.length ≤ 4294967296) → ∃ zs : List Pc, zs.map (·.1) = ps
  | [], _ => ⟨[], rfl⟩
  | x :: ps, h => by
    obtain ⟨zs, hz⟩ := exists_pcs ps fun y hy => h y (List.mem_cons_of_mem _ hy)
    exact ⟨⟨x, h x List.mem_cons_self⟩ :: zs, by simp [hz]⟩
theorem splitSeq_any (s p : ByteArray) (k : Int) (w : World) :
    Calls Tryd.prog 32 #[.string s, .string p, .int .i64 k] w fun e w' => e = .returned (.func (.func 35) #[] #[.pointer (some ⟨w.heap.size + 1, 0, none⟩), .pointer (some ⟨w.heap.size, 0, none⟩), .pointer (some ⟨w.heap.size + 1 + 1, 0, none⟩)]) ∧
      ((w.alloc (.cells #[.string s] 9)).alloc (.cells #[.string p] 9)).alloc (.cells #[.int .i64 k] 3) = w' := by
  go_enter Tryd.func32, Tryd.ntmps32
  go_wp2
  go_ret
  exact ⟨rfl, rfl⟩
theorem splitSeqX_any (s p : ByteArray) (w : World) :
    Calls Tryd.prog 26 #[.string s, .string p] w fun e w' => e = .returned (.func (.func 35) #[] #[.pointer (some ⟨w.heap.size + 1, 0, none⟩), .pointer (some ⟨w.heap.size, 0, none⟩), .pointer (some ⟨w.heap.size + 1 + 1, 0, none⟩)]) ∧
      ((w.alloc (.cells #[.string s] 9)).alloc (.cells #[.string p] 9)).alloc (.cells #[.int .i64 0] 3) = w' := by
  go_enter Tryd.func26, Tryd.ntmps26
  go_wp2_with fail
  refine (splitSeq_any s p 0 _).mono ?_
  rintro e w' ⟨rfl, rfl⟩
  go_wp2_with fail
  go_ret
  exact ⟨rfl, rfl⟩
theorem drop_cons {zs : List Pc} {k : Nat} {a : List UInt8} {r : List (List UInt8)} (h : (zs.drop k).map (·.1) = a :: r) : ∃ hk : k < zs.length, (zs[k]).1 = a ∧ (zs.drop (k + 1)).map (·.1) = r := by
  have hk : k < zs.length := by
    rcases Nat.lt_or_ge k zs.length with h1 | h1
    · exact h1
    · rw [List.drop_eq_nil_of_le h1] at h; cases h
  rw [List.drop_eq_getElem_cons hk, List.map_cons] at h
  injection h with h1 h2
  exact ⟨hk, h1, h2⟩
theorem bt_tx0 (s : ByteArray) : bt (tx s) = s := tx_inj rfl
/-- How long the text in a box is. -/
def boxLen (w : World) (b : Nat) : Nat := match w.cell? ⟨b, 0, none⟩ with | some (.string s) => s.size | _ => 0
theorem boxLen_is {w : World} {b : Nat} {t : TypeId} {s : ByteArray} (h : Blk w b t #[.string s]) : boxLen w b = s.size := by unfold boxLen; rw [h.one]
/-- The blocks that the iterator reads stand. -/
def Kp3 (n₀ Bs Bp Bv : Nat) : World → World → Prop := KeepP n₀ fun i => i = Bs ∨ i = Bp ∨ i = Bv
/-- The iterator under way: what is left of the text. -/
def SpI (W : World) (Bs Bp Bv : Nat) (zs : List Pc) (J : List Pc → World → Prop) (cur : ByteArray) (k : Nat) (wr : World) : Prop :=
  Blk wr Bs 9 #[.string cur] ∧ Blk wr Bp 9 #[.string ⟨#[59]⟩] ∧ Blk wr Bv 3 #[.int .i64 0] ∧ (zs.drop k).map (·.1) = splitL (tx cur) ∧ J (zs.take k) wr ∧ W.heap.size ≤ wr.heap.size
set_option maxRecDepth 100000 in
set_option maxHeartbeats 4000000 in
theorem split_in (n : Nat) (hn : 1 ≤ n) (ll Bs Bp Bv n₀ : Nat) (s : ByteArray) (hs : s.size ≤ 4294967296) (zs : List Pc) (hzs : zs.map (·.1) = splitL (tx s)) (hBs : Bs < n₀) (hBp : Bp < n₀) (hBv : Bv < n₀) (h1 : Bs ≠ Bp) (h2 : Bs ≠ Bv)
    (J Jx : List Pc → World → Prop) (W : World) (hn0 : n₀ ≤ W.heap.size) {nJ : Nat} (hJ : AbidesQ (· = Bs) nJ J)
    (hY : ∀ pre x W, J pre W → pre.length < zs.length → YieldAt Fence.wide (n - 1) Tryd.prog ll #[.string (bt x.1)] W fun e W' =>
      (e = .returned (.bool true) ∧ J (pre ++ [x]) W' ∧ Kp3 n₀ Bs Bp Bv W W') ∨ (e = .returned (.bool false) ∧ Jx (pre ++ [x]) W'))
    (b1 : Blk W Bs 9 #[.string s]) (b2 : Blk W Bp 9 #[.string ⟨#[59]⟩]) (b3 : Blk W Bv 3 #[.int .i64 0]) (h0 : J [] W) :
    CallsIn Fence.wide n Tryd.prog 35 #[.func (.yield ll) #[] #[], .pointer (some ⟨Bp, 0, none⟩), .pointer (some ⟨Bs, 0, none⟩), .pointer (some ⟨Bv, 0, none⟩)] W fun e W' => (∃ v, e = .returned v) ∧
      ((∃ ys, ys = zs ∧ J ys W') ∨ (∃ pre, pre <+: zs ∧ Jx pre W')) := by
  have HI : Hid (SpI W Bs Bp Bv zs J s 0 W) := ⟨b1, b2, b3, hzs, h0, Nat.le_refl _⟩
  have hp := b2.one
  clear hzs b1 b2 b3 h0
  refine callsIn_of_wp Tryd.func35 rfl trivial ?_ rfl
  simp only [Tryd.ntmps35, List.size_toArray, List.length_cons, List.length_nil, Nat.reduceAdd, Nat.reduceSub, Array.replicate_succ, Array.replicate_zero, List.push_toArray, List.append_toArray, List.nil_append, List.cons_append]
  gi_wp2
  clear hp
  gi_loopw [] (fun wr => ∃ (cur : ByteArray) (k : Nat), cur.size ≤ 4294967296 ∧ Hid (SpI W Bs Bp Bv zs J cur k wr)) (fun wr => boxLen wr Bs)
  case atStart => exact ⟨s, 0, hs, HI⟩
  case round =>
    clear HI
    obtain ⟨cur, k, hcs, HI⟩ := hrel
    obtain ⟨o1, o2, o3, o4, o5, o6⟩ := HI.out
    have HBL := Lib.hid (boxLen_is o1)
    have QI := Lib.hid (Tryd.strings_Index_one cur 59 wr)
    rw [show Lib.indexByte cur.data.toList 59 = _ from idx_is (tx cur) 59] at QI
    have x1 := o1.one
    have x2 := o2.one
    have x3 := o3.one
    have z1 := o1.lt
    have z2 := o2.lt
    have z3 := o3.lt
    have HB1 := Lib.hid o1
    have HB2 := Lib.hid o2
    have HB3 := Lib.hid o3
    clear HI o1 o2 o3
    by_cases hm : (59 : UInt8) ∈ tx cur
    · rw [if_pos hm] at QI
      have hi := List.idxOf_lt_length_iff.2 hm
      rw [tx_len] at hi
      rw [split_hit hm] at o4
      obtain ⟨hk, e1, e2⟩ := drop_cons o4
      have ht : zs.take (k + 1) = zs.take k ++ [zs[k]] := List.take_succ_eq_append_getElem hk
      have HY := hY (zs.take k) zs[k] wr o5 (by simp; omega)
      rw [e1, ← ht, ← ext_take cur] at HY
      rw [← tx_bt ((tx cur).drop ((tx cur).idxOf 59 + 1)), ← ext_drop cur] at e2
      generalize (tx cur).idxOf 59 = i at *
      have HE := Lib.hid e2
      have HSZ : Hid ((cur.extract (i + 1) cur.size).size < cur.size) := by
        show _ < _
        rw [← tx_len, tx_extract, List.length_drop, List.length_take, tx_len]
        omega
      clear e1 e2 o4 o5 ht hm
      have c0 : decide ((i : Int) < 0) = false := by simp
      have c1 : (0 : Int) ≤ (i : Int) := by omega
      have c2 : (i : Int) ≤ (cur.size : Int) := by omega
      have c3 : (0 : Int) ≤ (i : Int) + 1 := by omega
      have c4 : (i : Int) + 1 ≤ (cur.size : Int) := by omega
      obtain ⟨fn, tmps, assign, body, hy, hR⟩ := HY
      gi_wp2_with fail
      refine ⟨trivial, ?_⟩
      refine (callsIn_wide.2 QI.out).mono ?_
      rintro e w' ⟨rfl, rfl⟩
      gi_wp2_with fail
      refine hR.mono ?_
      rintro e W3 (⟨rfl, hJ3, hk3⟩ | ⟨rfl, hJx3⟩)
      · have HC1 := Lib.hid (HB1.out.onP hk3 hBs (.inl rfl))
        have HC2 := Lib.hid (HB2.out.onP hk3 hBp (.inr (.inl rfl)))
        have HC3 := Lib.hid (HB3.out.onP hk3 hBv (.inr (.inr rfl)))
        have hsz3 := hk3.1
        clear hy hR HB1 HB2 HB3 x1 x2 x3 z1 z2 z3 hk3
        have x1 := HC1.out.one
        have x2 := HC2.out.one
        have f1 := HC1.out.frozen 0
        have z1 := HC1.out.lt
        have z2 := HC2.out.lt
        have HN : Hid (SpI W Bs Bp Bv zs J (cur.extract (i + 1) cur.size) (k + 1) (W3.setCell ⟨Bs, 0, none⟩ (.string (cur.extract (i + 1) cur.size)))) :=
          ⟨HC1.out.set_ 0 _, HC2.out.far (by show Bp ≠ Bs; omega) _, HC3.out.far (by show Bv ≠ Bs; omega) _, HE.out, hJ _ _ _ (some Bs) hJ3 (grow_set1 _ _ _ _) (fun r e => .inl (by cases e; rfl)), by simp [World.setCell]; omega⟩
        clear hJ3 HC1 HC2 HC3
        gi_wp2_with fail
        go_roundw
        case rel => exact ⟨cur.extract (i + 1) cur.size, k + 1, by have := HSZ.out; omega, HN⟩
        case measure => rw [HBL.out, boxLen_is HN.out.1]; exact HSZ.out
      · clear hy hR HB1 HB2 HB3 x1 x2 x3 z1 z2 z3
        gi_wp2_with fail
        refine bodyPost_ret (results_none rfl _ _ _) rfl ?_
        exact ⟨⟨_, rfl⟩, .inr ⟨_, List.take_prefix _ _, hJx3⟩⟩
    · rw [if_neg hm] at QI
      rw [split_miss hm] at o4
      obtain ⟨hk, e1, e2⟩ := drop_cons o4
      have ht : zs.take (k + 1) = zs.take k ++ [zs[k]] := List.take_succ_eq_append_getElem hk
      have hl : zs.length ≤ k + 1 := by
        have := congrArg List.length e2
        rw [List.length_map, List.length_drop, List.length_nil] at this
        omega
      rw [List.take_of_length_le hl] at ht
      have HY := hY (zs.take k) zs[k] wr o5 (by simp; omega)
      rw [e1, ← ht, bt_tx0] at HY
      clear e1 e2 o4 o5 ht hm hl
      obtain ⟨fn, tmps, assign, body, hy, hR⟩ := HY
      gi_wp2_with fail
      refine ⟨trivial, ?_⟩
      refine (callsIn_wide.2 QI.out).mono ?_
      rintro e w' ⟨rfl, rfl⟩
      gi_wp2_with fail
      refine hR.mono ?_
      rintro e W3 (⟨rfl, hJ3, hk3⟩ | ⟨rfl, hJx3⟩)
      · clear hy hR HB1 HB2 HB3 x1 x2 x3 z1 z2 z3
        gi_wp2_with fail
        go_end0
        exact ⟨⟨_, rfl⟩, .inl ⟨_, rfl, hJ3⟩⟩
      · clear hy hR HB1 HB2 HB3 x1 x2 x3 z1 z2 z3
        gi_wp2_with fail
        go_end0
        exact ⟨⟨_, rfl⟩, .inr ⟨_, List.prefix_refl _, hJx3⟩⟩
theorem split_stops (n : Nat) (hn : 1 ≤ n) (Bs Bp Bv : Nat) (s : ByteArray) (hs : s.size ≤ 4294967296) (zs : List Pc) (hzs : zs.map (·.1) = splitL (tx s)) (h1 : Bs ≠ Bp) (h2 : Bs ≠ Bv) (w : World)
    (b1 : Blk w Bs 9 #[.string s]) (b2 : Blk w Bp 9 #[.string ⟨#[59]⟩]) (b3 : Blk w Bv 3 #[.int .i64 0]) :
    SeqStopsQ (· = Bs) Fence.wide n Tryd.prog 35 #[.pointer (some ⟨Bp, 0, none⟩), .pointer (some ⟨Bs, 0, none⟩), .pointer (some ⟨Bv, 0, none⟩)] (fun x : Pc => #[.string (bt x.1)]) (Kp3 w.heap.size Bs Bp Bv) (fun ys => ys = zs) (fun pre => pre <+: zs) zs.length w := fun ll J Jx W hW hJ _ hY h0 =>
  split_in n hn ll Bs Bp Bv w.heap.size s hs zs hzs b1.lt b2.lt b3.lt h1 h2 J Jx W hW.size hJ hY (b1.later hW) (b2.later hW) (b3.later hW) h0
end Go.Proofs.YtgfoeicfigfepaaDoor

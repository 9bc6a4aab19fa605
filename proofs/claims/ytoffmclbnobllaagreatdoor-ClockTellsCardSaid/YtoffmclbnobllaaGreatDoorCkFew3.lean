/-
  aviarylaw12.Few: the first twenty-two series, cut.
-/
import Derived.Test.YtoffmclbnobllaaGreatDoorCkFew2
namespace Go.Proofs.YtoffmclbnobllaaGreatDoor
open Go.RowKit
set_option linter.unusedVariables false
set_option linter.unusedSimpArgs false
def fewK (k : Sk) : Sk := ⟨k.kind, k.level, k.e.take 70, k.bits, k.regs.extract 0 (min k.regs.size 260), k.rows, k.cols, k.c.take 200, k.fine, k.g.take 300⟩
def fewS (s : Ser) : Ser := ⟨(s.l.take 10).map fewL, fewK s.k, s.seen⟩
theorem few_hk {m : SerM} : fewK m.m.s = (fewS m.s).k := by rw [m.hk]; rfl
/-- What One made of a series, as it lies. -/
def fewM (m : SerM) (A : Option Addr) (c : Nat) : SerM := ⟨fewS m.s, ⟨fewK m.m.s, m.m.ea, m.m.ec, m.m.ca, m.m.cc, m.m.ga, m.m.gc⟩, A, c, few_hk⟩
/-- What is always so of a series that comes in. -/
structure RawFit (m : SerM) : Prop where
  l : m.s.l.length ≤ maxLen
  ls : ∀ x ∈ m.s.l, x.1.size ≤ maxLen ∧ x.2.size ≤ maxLen
  e : m.m.s.e.length ≤ m.m.ec
  c : m.m.s.c.length ≤ m.m.cc
  g : m.m.s.g.length ≤ m.m.gc
  gu : Hi.UBs m.m.s.g
  kind : Hi.I64 m.m.s.kind
  level : Hi.I64 m.m.s.level
  bits : Hi.I64 m.m.s.bits
  rows : Hi.I64 m.m.s.rows
  cols : Hi.I64 m.m.s.cols
  fine : Hi.I64 m.m.s.fine
  seen : U m.s.seen
theorem few_fit {m : SerM} (h : RawFit m) : SerFit (fewS m.s) := by
  have hk := few_hk (m := m)
  refine ⟨?_, fun x hx => ?_, ?_, h.seen⟩
  · show ((m.s.l.take 10).map fewL).length ≤ 10
    rw [List.length_map, List.length_take]; omega
  · obtain ⟨y, _, rfl⟩ := List.mem_map.1 hx
    exact fewL_le y
  · rw [← hk]
    refine ⟨?_, ?_, ?_, ?_, fun x hx => h.gu x (List.mem_of_mem_take hx), h.kind, h.level, h.bits, h.rows, h.cols, h.fine⟩
    · show (m.m.s.e.take 70).length ≤ 1000
      rw [List.length_take]; omega
    · show (m.m.s.c.take 200).length ≤ 1000
      rw [List.length_take]; omega
    · show (m.m.s.g.take 300).length ≤ 1000
      rw [List.length_take]; omega
    · show (m.m.s.regs.extract 0 _).size ≤ 1000
      rw [ByteArray.size_extract]; omega
theorem sl_take {w : World} {B : Nat} {A : Option Addr} {l : List Int} (h : Rd w B A (l.map (Value.int .u64))) (n : Nat) : Rd w B A ((l.take n).map (Value.int .u64)) := by
  rw [List.map_take]; exact Rd.take h n
theorem few_ok {w : World} {B : Nat} {m : SerM} {A : Option Addr} {c : Nat} (hl : Lb w B A ((m.s.l.take 10).map fewL)) (h : SkOk w B m.m) : SerOk w B (fewM m A c) :=
  ⟨hl, sl_take h.e 70, sl_take h.c 200, Hi.Sb.take h.g 300⟩
theorem few_apart {w : World} {m : SerM} {A : Option Addr} {c q b : Nat} (h : SkOk w b m.m) (hl : ∀ ad, A = some ad → q < ad.block) (hq : b ≤ q) : Apart (some q) (fewM m A c) :=
  ⟨fun _ ad e e2 => by have := hl ad e; have := Option.some.inj e2; omega, ap_lt (sl_take h.e 70) hq, ap_lt (sl_take h.c 200) hq, ap_lt (Hi.Sb.take h.g 300) hq⟩
theorem few_none {m : SerM} {A : Option Addr} {c : Nat} : Apart none (fewM m A c) :=
  ⟨fun _ _ _ e => (nomatch e), fun _ _ _ e => (nomatch e), fun _ _ _ e => (nomatch e), fun _ _ _ e => (nomatch e)⟩
theorem few_lit {m : SerM} {A : Option Addr} {c : Nat} : serA (fewM m A c) = #[.slice A (min 10 m.s.l.length) c, .int .i64 m.m.s.kind, .int .i64 m.m.s.level, .slice m.m.ea (min 70 m.m.s.e.length) m.m.ec, .int .i64 m.m.s.bits, .string (m.m.s.regs.extract 0 (min m.m.s.regs.size 260)), .int .i64 m.m.s.rows, .int .i64 m.m.s.cols, .slice m.m.ca (min 200 m.m.s.c.length) m.m.cc, .int .i64 m.m.s.fine, .slice m.m.ga (min 300 (List.length m.m.s.g)) m.m.gc, .int .u64 m.s.seen] := by
  show (#[.slice A ((m.s.l.take 10).map fewL).length c, .int .i64 m.m.s.kind, .int .i64 m.m.s.level, .slice m.m.ea (m.m.s.e.take 70).length m.m.ec, .int .i64 m.m.s.bits, .string (m.m.s.regs.extract 0 (min m.m.s.regs.size 260)), .int .i64 m.m.s.rows, .int .i64 m.m.s.cols, .slice m.m.ca (m.m.s.c.take 200).length m.m.cc, .int .i64 m.m.s.fine, .slice m.m.ga (m.m.s.g.take 300).length m.m.gc, .int .u64 m.s.seen] : Array Value) = _
  rw [List.length_map, List.length_take, List.length_take, List.length_take, List.length_take]
theorem few_maps {ms cs : List SerM} {k : Nat} {m' : SerM} (h : cs.map (·.s) = (ms.take k).map (fun m => fewS m.s)) (hk : k < ms.length) (he : m'.s = fewS ms[k].s) : (cs ++ [m']).map (·.s) = (ms.take (k + 1)).map (fun m => fewS m.s) := by
  rw [List.map_append, h, List.take_succ_eq_append_getElem hk, List.map_append]
  simp [he]
set_option maxRecDepth 100000 in
set_option maxHeartbeats 16000000 in
theorem fews_any (A : Option Addr) (ms : List SerM) (n cap : Nat) (hk : ms.length = min n 22) (hn : n ≤ maxLen) (hf : ∀ m ∈ ms, RawFit m) (w : World) (hS : Tab w w.heap.size A ms) :
    Calls Tryz.prog 5 #[.slice A n cap] w fun e w' => (∃ v cs, e = .returned v ∧ cs.map (·.s) = ms.map (fun m => fewS m.s) ∧ OTab w' w.heap.size v cs) ∧ Below w.heap.size w w' := by
  have HS := Lib.hid hS
  have HF := Lib.hid hf
  have hl22 : ms.length ≤ 22 := by omega
  have hln : ms.length ≤ n := by omega
  have HK : Hid (ms.length < n → ms.length = 22) := fun h => by omega
  have hn2 : n ≤ 9223372036854775807 := by unfold maxLen at hn; omega
  obtain ⟨i0, hi0, hz0, hz1, hz2⟩ := info_parts Tryz.infoSer
  clear hS hf hk
  go_enter Tryz.func5, Tryz.ntmps5
  go_wp2_with fail
  go_loopw [3, 4] (fun v i wr => ∃ (k : Nat) (cs : List SerM), i = .int .i64 (k : Int) ∧ k ≤ ms.length ∧ cs.length = k ∧ Hid (cs.map (·.s) = (ms.take k).map (fun m => fewS m.s)) ∧ Hid (OTab wr w.heap.size v cs) ∧ Hid (Below w.heap.size w wr)) (fun _ i _ => ms.length - (RowKit.intOf i).toNat)
  case atStart => exact ⟨0, [], rfl, Nat.zero_le _, rfl, by show _ = _; simp, ⟨⟨by simp [tabC], .inl ⟨rfl, rfl⟩⟩, fun m hm => (by simp at hm), fun m hm => (by simp at hm)⟩, below_0 _⟩
  case round =>
    obtain ⟨k, cs, rfl, hk, hcl, HE, HO, HB⟩ := hrel
    by_cases h1 : k < ms.length
    · have d1 : decide ((k : Int) < (n : Int)) = true := decide_eq_true (by omega)
      have d2 : decide ((k : Int) < 22) = true := decide_eq_true (by omega)
      obtain ⟨b, off, rfl, hb, hc⟩ := HS.out.at_ (by omega)
      obtain ⟨i0', i1, i2, i3, i4, i5, i6, i7, i8, i9, i10, i11⟩ := (hc k h1).below HB.out hb
      have hbw : b < wr.heap.size := by have := HB.out.size; omega
      have hi1 : (0 : Int) ≤ (k : Int) := by omega
      have hi2 : (k : Int) < (n : Int) := by omega
      have HOK0 := Lib.hid (HS.out.ok _ (List.getElem_mem h1))
      have HFIT := Lib.hid (HF.out _ (List.getElem_mem h1))
      have HMAP : Hid (∀ m' : SerM, m'.s = fewS ms[k].s → (cs ++ [m']).map (·.s) = (ms.take (k + 1)).map (fun m => fewS m.s)) := fun m' he => few_maps HE.out h1 he
      have hww := HB.out.size
      clear hc HE
      generalize ms[k] = m at *
      have HONE : Hid (Calls Tryz.prog 17 #[serV m] wr (OneRet wr ((m.s.l.take 10).map fewL) m.m.s.kind m.m.s.level m.m.s.bits m.m.s.rows m.m.s.cols m.m.s.fine m.s.seen m.m.s.regs m.m.ea m.m.ca m.m.ga m.m.ec m.m.cc m.m.gc (m.m.s.e.take 70).length (min m.m.s.regs.size 260) (m.m.s.c.take 200).length (m.m.s.g.take 300).length)) :=
        one_any m.la (m.s.l.take 10) m.s.l.length m.lc m.m.s.kind m.m.s.level m.m.s.bits m.m.s.rows m.m.s.cols m.m.s.fine m.s.seen m.m.s.regs m.m.ea m.m.ca m.m.ga m.m.s.e.length m.m.ec m.m.s.c.length m.m.cc m.m.s.g.length m.m.gc _ _ _ _ (by rw [List.length_take]; omega) HFIT.out.l (fun x hx => HFIT.out.ls x (List.mem_of_mem_take hx)) (by rw [List.length_take]; omega) rfl (by rw [List.length_take]; omega) (by rw [List.length_take]; omega) HFIT.out.e HFIT.out.c HFIT.out.g wr (Lb.take (HOK0.out.later HB.out).l 10)
      clear HFIT
      unfold serV at HONE
      go_wp2_with fail
      refine HONE.out.mono ?_
      clear HONE i0' i1 i2 i3 i4 i5 i6 i7 i8 i9 i10 i11
      rintro e w1 ⟨hb1, A1, c1, rfl, hl1, ha1⟩
      have BX : Blk (World.alloc w1 (.cells (serA (fewM m A1 c1)) 50)) w1.heap.size 50 (serA (fewM m A1 c1)) := Blk.new w1 50 (serA (fewM m A1 c1))
      have HO5 := Lib.hid (HO.out.later hb1)
      have HBW : Hid (Below w.heap.size w w1) := HB.out.trans (hb1.mono HB.out.size)
      have HBA : Hid (Below w.heap.size w (World.alloc w1 (.cells (serA (fewM m A1 c1)) 50))) := below_al HBW.out _
      have SOK : Hid (SerOk (World.alloc w1 (.cells (serA (fewM m A1 c1)) 50)) (World.alloc w1 (.cells (serA (fewM m A1 c1)) 50)).heap.size (fewM m A1 c1)) := SerOk.later (few_ok hl1 ((HOK0.out.later HBW.out).k)) (below_al (below_0 _) _)
      have hAs : (World.alloc w1 (.cells (serA (fewM m A1 c1)) 50)).heap.size = w1.heap.size + 1 := by simp
      have hs1 := HBW.out.size
      have hwr1 := hb1.size
      have SAP : Hid (∀ v : Option Nat, (∀ q, v = some q → w.heap.size ≤ q ∧ q < wr.heap.size) → Apart v (fewM m A1 c1)) := fun v hv => by
        cases v with
        | none => exact few_none
        | some q =>
          obtain ⟨q1, q2⟩ := hv q rfl
          exact few_apart HOK0.out.k (fun ad e => by have := ha1 ad e; omega) q1
      have HOWN := Lib.hid (fun q e => own_n HO.out.own q e)
      have hm1 := HMAP.out (fewM m A1 c1) rfl
      have HM6 := Lib.hid hm1
      clear hl1 ha1 hb1 HOK0 hm1
      have rdN := rd_box BX
      have hcs : cs.length ≤ 1000 := by omega
      rw [few_lit] at rdN HBA SOK
      go_wp2_with (at_builtin; refine wpList_append_rd _ rfl (.tmp 15) (.tmp 21) 22 rfl w.heap.size 50 i0 _ 12 168 Tryz.underlying22 hi0 hz0 hz1 hz2 rfl (by decide) _ cs.length _ rfl (HO5.out.own.alloc _) (w1.heap.size + 1) (some ⟨w1.heap.size, 0, none⟩) 1 1 (serC (fewM m A1 c1)) rfl (by rw [serC_len]) rdN (serC_one _) (by unfold maxLen; omega) (by omega) (by simp; omega) ?_; intro v' W6 hown6 hg6 hv6)
      have HO6 : Hid (OTab W6 w.heap.size v' (cs ++ [(fewM m A1 c1)])) := by
        refine ⟨by rw [List.length_append, tabC_snoc]; exact hown6, fun m0 hm0 => ?_, fun m0 hm0 => ?_⟩
        · rcases List.mem_append.1 hm0 with h | h
          · exact (((HO5.out.later (below_al (below_0 _) _)).ok m0 h).grown hg6 (HO5.out.ap m0 h))
          · simp at h; subst h
            exact SOK.out.grown hg6 (SAP.out _ (fun q e => HOWN.out q e))
        · rcases hv6 with e | e
          · rw [e]
            rcases List.mem_append.1 hm0 with h | h
            · exact HO5.out.ap m0 h
            · simp at h; subst h
              exact SAP.out _ (fun q e => HOWN.out q e)
          · rw [e]
            rcases List.mem_append.1 hm0 with h | h
            · exact ((HO5.out.later (below_al (below_0 _) _)).ok m0 h).apart (Nat.le_refl _)
            · simp at h; subst h
              exact SOK.out.apart (Nat.le_refl _)
      have HB6 : Hid (Below w.heap.size w W6) := HBA.out.grown hg6 HBA.out.size (fun q e => (HOWN.out q e).1)
      clear hown6 hg6 hv6 HO5 HBW HBA SOK SAP HOWN rdN BX HO HB HMAP
      go_wp2_with fail
      go_roundw
      case rel => exact ⟨k + 1, _, by go_num, by omega, by rw [List.length_append, List.length_singleton]; omega, HM6.out, HO6.out, HB6.out⟩
      case measure => simp [RowKit.intOf]; omega
    · have hkk : k = ms.length := by omega
      subst hkk
      have HFIN : Hid ((∃ v cs, Ending.returned u3 = .returned v ∧ cs.map (·.s) = ms.map (fun m => fewS m.s) ∧ OTab wr w.heap.size v cs) ∧ Below w.heap.size w wr) := by
        rw [List.take_length] at HE
        exact ⟨⟨_, cs, rfl, HE.out, HO.out⟩, HB.out⟩
      clear HE HO HB HS HF
      by_cases h2 : ms.length < n
      · have h10 := HK.out h2
        clear HK
        generalize ms.length = m at *
        have d1 : decide ((m : Int) < (n : Int)) = true := decide_eq_true (by omega)
        have d2 : decide ((m : Int) < 22) = false := by simp; omega
        have d2' : decide (m < 22) = false := by simp; omega
        clear h10
        go_wp2_with fail
        go_ret
        exact HFIN.out
      · have d1 : decide ((ms.length : Int) < (n : Int)) = false := by simp; omega
        have d1' : decide (ms.length < n) = false := by simp; omega
        go_wp2_with fail
        go_ret
        exact HFIN.out
end Go.Proofs.YtoffmclbnobllaaGreatDoor

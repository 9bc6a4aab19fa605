/-
  The walk of the law aviarylaw07.HllOnce: call by call, each callee by its contract.
-/
import Derived.Test.YtgbanhjjieagnaaHllShown
import Derived.Test.YtgbanhjjieagnaaHllFacts
import Derived.Test.YtgbanhjjieagnaaQuiet
import Derived.Deep.RegionHeld3
import Derived.Test.YtgbanhjjieagnaaHllLaws
namespace Go.Proofs.Ytgbanhjjieagnaa
open Go.RowKit
set_option linter.unusedVariables false
set_option linter.unusedSimpArgs false
theorem of_n (b : Int) (A : Option Addr) (ns : List Int) (n capn : Nat) (hl : ns.length = n) (hU : Us ns) (hn : n ≤ 65536) (w : World) (hS : Sl w w.heap.size A ns) :
    Calls Try.prog 12 #[.int .i64 b, .slice A n capn] w (HRes w (ofH b ns)) := by
  subst hl
  exact of_any b A ns capn hU hn w hS
theorem Sl.nthcell {w : World} {B b off : Nat} {l : List Int} (h : Sl w B (some ⟨b, off, none⟩) l) {k : Nat} (hk : k < l.length) : w.cell? ⟨b, off + k, none⟩ = some (.int .u64 (nth l k)) := by
  obtain ⟨b', off', e, _, hc⟩ := h.at_ (by omega)
  cases e
  exact hc k hk
theorem sl_lt {w : World} {B b off : Nat} {l : List Int} (h : Sl w B (some ⟨b, off, none⟩) l) {k : Nat} (hk : k < l.length) : b < B := by
  obtain ⟨b', off', e, hb, _⟩ := h.at_ (by omega)
  cases e
  exact hb
set_option maxRecDepth 100000 in
set_option maxHeartbeats 4000000 in
theorem once_bad (w : World) (bits at_ : Int) (ax : Option Addr) (nx capx : Nat) (x : List Int) (hUx : Us x) (hslx : Sl w w.heap.size ax x) (hkx : (min (nx : Int) 100).toNat = x.length) (hqx : x.length ≤ capx) (hmx : capx ≤ 9223372036854775807) (hxx : x.length ≤ 100) (hb : bitsB bits = false) :
    Calls Try.prog 4 #[.int .i64 bits, .slice ax nx capx, .int .i64 at_] w fun e w' => e = .returned (.bool true) ∧ Below w.heap.size w w' := by
  have T := below_0 w
  have Sx := Lib.hid hslx
  have HKx := Lib.hid hkx
  clear hslx hkx
  have HB := Lib.hid hb
  clear hb
  go_enter Try.func4, Try.ntmps4
  go_wp2_with fail
  refine (shown_any _).mono ?_
  rintro e w90 ⟨rfl, hb90⟩
  replace Sx := Lib.hid (Sx.out.later hb90)
  replace T := Below.two T hb90
  clear hb90
  go_wp2_with fail
  refine (few_any _ nx capx ax x HKx.out hqx hmx).mono ?_
  rintro e w' ⟨rfl, rfl⟩
  go_wp2_with fail
  refine (of_any bits ax x capx hUx (by omega) _ Sx.out).mono ?_
  rintro e w1 ⟨rfl, hb1⟩
  replace Sx := Lib.hid (Sx.out.later hb1)
  replace T := Below.two T hb1
  rw [of_bad HB.out x]
  clear hb1
  go_wp2_with fail
  all_goals (go_ret; exact ⟨rfl, below_al T _⟩)
set_option maxRecDepth 100000 in
set_option maxHeartbeats 4000000 in
theorem once_out (w : World) (B : Nat) (h3 : 3 ≤ B) (h8 : B ≤ 8) (at_ : Int) (ax : Option Addr) (nx capx : Nat) (x : List Int) (hUx : Us x) (hslx : Sl w w.heap.size ax x) (hkx : (min (nx : Int) 100).toNat = x.length) (hqx : x.length ≤ capx) (hmx : capx ≤ 9223372036854775807) (hxx : x.length ≤ 100) (ho : at_ < 0 ∨ (x.length : Int) ≤ at_) :
    Calls Try.prog 4 #[.int .i64 B, .slice ax nx capx, .int .i64 at_] w fun e w' => e = .returned (.bool true) ∧ Below w.heap.size w w' := by
  have T := below_0 w
  have Sx := Lib.hid hslx
  have HKx := Lib.hid hkx
  clear hslx hkx
  rcases ho with ho | ho
  · have d1 : decide (at_ < 0) = true := by simpa using ho
    clear ho
    go_enter Try.func4, Try.ntmps4
    go_wp2_with fail
    refine (shown_any _).mono ?_
    rintro e w90 ⟨rfl, hb90⟩
    replace Sx := Lib.hid (Sx.out.later hb90)
    replace T := Below.two T hb90
    clear hb90
    go_wp2_with fail
    refine (few_any _ nx capx ax x HKx.out hqx hmx).mono ?_
    rintro e w' ⟨rfl, rfl⟩
    go_wp2_with fail
    refine (of_any B ax x capx hUx (by omega) _ Sx.out).mono ?_
    rintro e w1 ⟨rfl, hb1⟩
    replace Sx := Lib.hid (Sx.out.later hb1)
    replace T := Below.two T hb1
    rw [of_regs h3 h8 x]
    clear hb1
    go_wp2_with fail
    all_goals (go_ret; exact ⟨rfl, below_al T _⟩)
  · have d1 : decide (at_ < 0) = false := by simp; omega
    have d2 : decide ((x.length : Int) ≤ at_) = true := by simpa using ho
    clear ho
    go_enter Try.func4, Try.ntmps4
    go_wp2_with fail
    refine (shown_any _).mono ?_
    rintro e w90 ⟨rfl, hb90⟩
    replace Sx := Lib.hid (Sx.out.later hb90)
    replace T := Below.two T hb90
    clear hb90
    go_wp2_with fail
    refine (few_any _ nx capx ax x HKx.out hqx hmx).mono ?_
    rintro e w' ⟨rfl, rfl⟩
    go_wp2_with fail
    refine (of_any B ax x capx hUx (by omega) _ Sx.out).mono ?_
    rintro e w1 ⟨rfl, hb1⟩
    replace Sx := Lib.hid (Sx.out.later hb1)
    replace T := Below.two T hb1
    rw [of_regs h3 h8 x]
    clear hb1
    go_wp2_with fail
    all_goals (go_ret; exact ⟨rfl, below_al T _⟩)
set_option maxRecDepth 100000 in
set_option maxHeartbeats 4000000 in
theorem once_good (w : World) (B : Nat) (h3 : 3 ≤ B) (h8 : B ≤ 8) (K : Nat) (ba oa : Nat) (nx capx : Nat) (x : List Int) (hUx : Us x) (hslx : Sl w w.heap.size (some ⟨ba, oa, none⟩) x) (hkx : (min (nx : Int) 100).toNat = x.length) (hqx : x.length ≤ capx) (hmx : capx ≤ 9223372036854775807) (hxx : x.length ≤ 100) (hK : K < x.length) :
    Calls Try.prog 4 #[.int .i64 B, .slice (some ⟨ba, oa, none⟩) nx capx, .int .i64 K] w fun e w' => e = .returned (.bool true) ∧ Below w.heap.size w w' := by
  have T := below_0 w
  have Sx := Lib.hid hslx
  have HKx := Lib.hid hkx
  clear hslx hkx
  have d1 : decide ((K : Int) < 0) = false := by simp
  have d2 : decide ((x.length : Int) ≤ (K : Int)) = false := by simp; omega
  have i1 : (0 : Int) ≤ (K : Int) := by omega
  have i2 : (K : Int) < (x.length : Int) := by omega
  obtain ⟨n, hn, hn64, o1, o2, o3, o4⟩ := once_facts h3 h8 hUx hK
  go_enter Try.func4, Try.ntmps4
  go_wp2_with fail
  refine (shown_any _).mono ?_
  rintro e w90 ⟨rfl, hb90⟩
  replace Sx := Lib.hid (Sx.out.later hb90)
  replace T := Below.two T hb90
  clear hb90
  go_wp2_with fail
  refine (few_any _ nx capx (some ⟨ba, oa, none⟩) x HKx.out hqx hmx).mono ?_
  rintro e w' ⟨rfl, rfl⟩
  go_wp2_with fail
  refine (of_any B (some ⟨ba, oa, none⟩) x capx hUx (by omega) _ Sx.out).mono ?_
  rintro e w1 ⟨rfl, hb1⟩
  replace Sx := Lib.hid (Sx.out.later hb1)
  replace T := Below.two T hb1
  rw [of_regs h3 h8 x]
  clear hb1
  go_wp2_with fail
  replace Sx := Lib.hid (Sx.out.later (below_al (below_0 _) (.cells #[.int .i64 B, .string (bs (regs B x))] 23)))
  replace T := below_al T (.cells #[.int .i64 B, .string (bs (regs B x))] 23)
  have X1 := Lib.hid (Blk.new w1 23 #[.int .i64 B, .string (bs (regs B x))])
  generalize w1.alloc (.cells #[.int .i64 B, .string (bs (regs B x))] 23) = V1 at *
  have cx := Sx.out.nthcell hK
  rw [hn] at cx
  clear d1 d2
  obtain ⟨k0X1, k1X1, f0X1, f1X1⟩ := X1.out.two
  have kzX1 := X1.out.lt
  have hbb : ba < V1.heap.size := sl_lt Sx.out hK
  have HO2 := Lib.hid o2
  have HO3 := Lib.hid o3
  have HO4 := Lib.hid o4
  have HO1 := Lib.hid o1
  have HN := Lib.hid hn
  clear o1 o2 o3 o4 hn
  refine wp_region_held_drew (S := fun w' => w'.cell? ⟨w1.heap.size, 0, none⟩ = some (.int .i64 B) ∧ w'.cell? ⟨w1.heap.size, 1, none⟩ = some (.string (bs (regs B x))) ∧ w'.cell? ⟨ba, oa + K, none⟩ = some (.int .u64 (n : Int))) (by kernel_rfl) ⟨k0X1, k1X1, cx⟩ (fun hHeld => ?_)
  refine wpAnyH_take (i := 0) (v := (.agg #[.int .i64 B, .string (bs (regs B x))])) rfl (by kernel_rfl) (by kernel_rfl) (by kernel_rfl) (fun _ _ _ h => h) (Or.inl ⟨by rfl, ?_⟩) hHeld ?_
  · (intro w hSw; (try dsimp only at hSw); (try obtain ⟨s0, s1, s2⟩ := hSw); go_simp)
  simp only [Act.put, List.setIfInBounds_toArray, List.set_cons_zero, List.set_cons_succ]
  refine wpAnyH_take (i := 1) (v := (.slice (some ⟨ba, oa, none⟩) x.length capx)) rfl (by kernel_rfl) (by kernel_rfl) (by kernel_rfl) (fun _ _ _ h => h) (Or.inl ⟨by rfl, ?_⟩) hHeld ?_
  · (intro w hSw; (try dsimp only at hSw); (try obtain ⟨s0, s1, s2⟩ := hSw); go_simp)
  simp only [Act.put, List.setIfInBounds_toArray, List.set_cons_zero, List.set_cons_succ]
  refine wpAnyH_take (i := 2) (v := (.int .i64 (K : Int))) rfl (by kernel_rfl) (by kernel_rfl) (by kernel_rfl) (fun _ _ _ h => h) (Or.inl ⟨by rfl, ?_⟩) hHeld ?_
  · (intro w hSw; (try dsimp only at hSw); (try obtain ⟨s0, s1, s2⟩ := hSw); go_simp)
  simp only [Act.put, List.setIfInBounds_toArray, List.set_cons_zero, List.set_cons_succ]
  refine wpAnyH_take (i := 3) (v := (.pointer (some ⟨ba, oa + K, none⟩))) rfl (by kernel_rfl) (by kernel_rfl) (by kernel_rfl) (fun _ _ _ h => h) (Or.inl ⟨by rfl, ?_⟩) hHeld ?_
  · (intro w hSw; (try dsimp only at hSw); (try obtain ⟨s0, s1, s2⟩ := hSw); go_simp)
  simp only [Act.put, List.setIfInBounds_toArray, List.set_cons_zero, List.set_cons_succ]
  refine wpAnyH_take (i := 4) (v := (.int .u64 (n : Int))) rfl (by kernel_rfl) (by kernel_rfl) (by kernel_rfl) (fun _ _ _ h => h) (Or.inl ⟨by rfl, ?_⟩) hHeld ?_
  · (intro w hSw; (try dsimp only at hSw); (try obtain ⟨s0, s1, s2⟩ := hSw); go_simp)
  simp only [Act.put, List.setIfInBounds_toArray, List.set_cons_zero, List.set_cons_succ]
  refine wpAnyH_ready (rs := [5, 9]) (by kernel_rfl) (by simp) ?_
  refine AllReadyH.cons rfl (fun K0 hK0 => ?_) (AllReadyH.cons rfl (fun K0 hK0 => ?_) AllReadyH.nil)
  · replace X1 := Lib.hid X1.out.drew
    replace cx : V1.drew.cell? ⟨ba, oa + K, none⟩ = some (.int .u64 (n : Int)) := cx
    replace T := T.drew
    replace Sx : Hid (Sl V1.drew V1.drew.heap.size (some ⟨ba, oa, none⟩) x) := Sx
    replace hbb : ba < V1.drew.heap.size := hbb
    go_simp
    refine (add_any B (regs B x) (bytes_regs h3 h8 _) n hn64 _).mono ?_
    rintro e w2 ⟨rfl, hb2⟩
    rw [HO1.out]
    replace X1 := Lib.hid (X1.out.later hb2)
    replace cx := (hb2.cell (p := ⟨ba, oa + K, none⟩) hbb).trans cx
    replace T := Below.two T hb2
    replace Sx := Lib.hid (Sx.out.later hb2)
    replace hbb := sl_lt Sx.out hK
    clear k0X1 k1X1 f0X1 f1X1 kzX1
    obtain ⟨k0X1, k1X1, f0X1, f1X1⟩ := X1.out.two
    have kzX1 := X1.out.lt
    refine hK0.out _ _ ⟨k0X1, k1X1, cx⟩ (fun hHeld => ?_)
    clear hK0 K0
    try simp only [Act.put, List.setIfInBounds_toArray, List.set_cons_zero, List.set_cons_succ]
    refine wpAnyH_take (i := 6) (v := (.tuple #[hV B (regs B x), .int .i64 0])) rfl (by kernel_rfl) (by kernel_rfl) (by kernel_rfl) (fun _ _ _ h => h) (Or.inl ⟨by rfl, ?_⟩) hHeld ?_
    · (intro w hSw; (try dsimp only at hSw); (try obtain ⟨s0, s1, s2⟩ := hSw); go_simp)
    simp only [Act.put, List.setIfInBounds_toArray, List.set_cons_zero, List.set_cons_succ]
    refine wpAnyH_take (i := 7) (v := (hV B (regs B x))) rfl (by kernel_rfl) (by kernel_rfl) (by kernel_rfl) (fun _ _ _ h => h) (Or.inl ⟨by rfl, ?_⟩) hHeld ?_
    · (intro w hSw; (try dsimp only at hSw); (try obtain ⟨s0, s1, s2⟩ := hSw); go_simp)
    simp only [Act.put, List.setIfInBounds_toArray, List.set_cons_zero, List.set_cons_succ]
    refine wpAnyH_take (i := 8) (v := (.int .i64 0)) rfl (by kernel_rfl) (by kernel_rfl) (by kernel_rfl) (fun _ _ _ h => h) (Or.inl ⟨by rfl, ?_⟩) hHeld ?_
    · (intro w hSw; (try dsimp only at hSw); (try obtain ⟨s0, s1, s2⟩ := hSw); go_simp)
    simp only [Act.put, List.setIfInBounds_toArray, List.set_cons_zero, List.set_cons_succ]
    have n1 : w1.heap.size ≠ w2.heap.size := by omega
    have n2 : ba ≠ w2.heap.size := by omega
    refine wpAnyH_ready (rs := [9]) (by kernel_rfl) (by simp) ?_
    refine AllReadyH.cons rfl (fun K0 hK0 => ?_) AllReadyH.nil
    go_simp
    have X2 := Lib.hid (Blk.new w2 23 #[.int .i64 B, .string (bs (regs B x))])
    have Y1 := Lib.hid (X1.out.alloc (.cells #[.int .i64 B, .string (bs (regs B x))] 23))
    have cy := (World.cell?_alloc_lt _ (.cells #[.int .i64 B, .string (bs (regs B x))] 23) ⟨ba, oa + K, none⟩ hbb).trans cx
    have U := below_al T (.cells #[.int .i64 B, .string (bs (regs B x))] 23)
    have Sy := Lib.hid (Sx.out.later (below_al (below_0 _) (.cells #[.int .i64 B, .string (bs (regs B x))] 23)))
    have hbz := hbb
    have Sz := Sx
    have kzz := kzX1
    replace X1 := Lib.hid (X1.out.alloc (.cells #[.int .i64 0, .string ⟨#[]⟩] 23))
    replace cx := (World.cell?_alloc_lt _ (.cells #[.int .i64 0, .string ⟨#[]⟩] 23) ⟨ba, oa + K, none⟩ hbb).trans cx
    replace T := below_al T (.cells #[.int .i64 0, .string ⟨#[]⟩] 23)
    replace Sx := Lib.hid (Sx.out.later (below_al (below_0 _) (.cells #[.int .i64 0, .string ⟨#[]⟩] 23)))
    replace hbb := sl_lt Sx.out hK
    clear k0X1 k1X1 f0X1 f1X1 kzX1
    obtain ⟨k0X1, k1X1, f0X1, f1X1⟩ := X1.out.two
    have kzX1 := X1.out.lt
    refine hK0.out _ _ ⟨k0X1, k1X1, cx⟩ (fun hHeld => ?_)
    clear hK0 K0
    try simp only [Act.put, List.setIfInBounds_toArray, List.set_cons_zero, List.set_cons_succ]
    refine wpAnyH_ready (rs := [10]) (by kernel_rfl) (by simp) ?_
    refine AllReadyH.cons rfl (fun K0 hK0 => ?_) AllReadyH.nil
    go_simp
    clear k0X1 k1X1 f0X1 f1X1 kzX1 X1 cx T Sx hbb hHeld
    obtain ⟨k0X1, k1X1, f0X1, f1X1⟩ := Y1.out.two
    have kzX1 := Y1.out.lt
    refine hK0.out _ _ ⟨k0X1, k1X1, cy⟩ (fun hHeld => ?_)
    clear hK0 K0
    try simp only [Act.put, List.setIfInBounds_toArray, List.set_cons_zero, List.set_cons_succ]
    refine wpAnyH_take (i := 11) (v := (.int .i64 0)) rfl (by kernel_rfl) (by kernel_rfl) (by kernel_rfl) (fun _ _ _ h => h) (Or.inl ⟨by rfl, ?_⟩) hHeld ?_
    · (intro w hSw; (try dsimp only at hSw); (try obtain ⟨s0, s1, s2⟩ := hSw); go_simp)
    simp only [Act.put, List.setIfInBounds_toArray, List.set_cons_zero, List.set_cons_succ]
    refine wpAnyH_done (by kernel_rfl) ?_ _
    clear hHeld Sz hbz kzz hb2
    generalize w2.alloc (.cells #[.int .i64 B, .string (bs (regs B x))] 23) = V2 at *
    have Sx := Sy
    have cx := cy
    have T := U
    clear Sy cy U
    go_wp2_with fail
    refine (place_good B n h3 h8 hn64 _).mono ?_
    rintro e w' ⟨rfl, rfl⟩
    obtain ⟨k0X2, k1X2, _, _⟩ := X2.out.two
    have hsz := bs_size (regs B x)
    have ha : ∀ h : atF B n < (bs (regs B x)).size, ((bs (regs B x))[atF B n]'h).toNat = byt (regs B x) (atF B n) := fun h => bs_at (bytes_regs h3 h8 _) h
    have q0 : decide (((atF B n : Nat) : Int) < 0) = false := by simp
    have q1 : decide ((((regs B x).length : Nat) : Int) ≤ ((atF B n : Nat) : Int)) = false := by have := HO2.out; simp; omega
    have q2 := HO2.out
    have q3 := HO3.out
    have q4 := HO4.out
    have q5 : (0 : Int) ≤ ((atF B n : Nat) : Int) := by omega
    have q6 : ((atF B n : Nat) : Int) < (((regs B x).length : Nat) : Int) := by omega
    have q7 := byt_lt (bytes_regs h3 h8 x) (atF B n)
    have q8 : ¬ (regs B x).length ≤ atF B n := by omega
    generalize rankF B n = rk at *
    generalize byt (regs B x) (atF B n) = bt at *
    go_wp2_with fail
    go_ret
    exact ⟨ret_bool (by simp; omega), T⟩
  · replace X1 := Lib.hid X1.out.drew
    replace cx : V1.drew.cell? ⟨ba, oa + K, none⟩ = some (.int .u64 (n : Int)) := cx
    replace T := T.drew
    replace Sx : Hid (Sl V1.drew V1.drew.heap.size (some ⟨ba, oa, none⟩) x) := Sx
    replace hbb : ba < V1.drew.heap.size := hbb
    go_simp
    have X2 := Lib.hid (Blk.new V1.drew 23 #[.int .i64 0, .string ⟨#[]⟩])
    have n1 : w1.heap.size ≠ V1.heap.size := by omega
    have n2 : ba ≠ V1.heap.size := by have h : ba < V1.heap.size := hbb; omega
    have n3 : w.heap.size ≤ V1.heap.size := T.size
    replace X1 := Lib.hid (X1.out.alloc (.cells #[.int .i64 0, .string ⟨#[]⟩] 23))
    replace cx := (World.cell?_alloc_lt _ (.cells #[.int .i64 0, .string ⟨#[]⟩] 23) ⟨ba, oa + K, none⟩ hbb).trans cx
    replace T := below_al T (.cells #[.int .i64 0, .string ⟨#[]⟩] 23)
    replace Sx := Lib.hid (Sx.out.later (below_al (below_0 _) (.cells #[.int .i64 0, .string ⟨#[]⟩] 23)))
    replace hbb := sl_lt Sx.out hK
    clear k0X1 k1X1 f0X1 f1X1 kzX1
    obtain ⟨k0X1, k1X1, f0X1, f1X1⟩ := X1.out.two
    have kzX1 := X1.out.lt
    refine hK0.out _ _ ⟨k0X1, k1X1, cx⟩ (fun hHeld => ?_)
    clear hK0 K0
    try simp only [Act.put, List.setIfInBounds_toArray, List.set_cons_zero, List.set_cons_succ]
    refine wpAnyH_ready (rs := [5]) (by kernel_rfl) (by simp) ?_
    refine AllReadyH.cons rfl (fun K0 hK0 => ?_) AllReadyH.nil
    go_simp
    refine (add_any B (regs B x) (bytes_regs h3 h8 _) n hn64 _).mono ?_
    rintro e w2 ⟨rfl, hb2⟩
    rw [HO1.out]
    replace X1 := Lib.hid (X1.out.later hb2)
    replace cx := (hb2.cell (p := ⟨ba, oa + K, none⟩) hbb).trans cx
    replace T := Below.two T hb2
    replace Sx := Lib.hid (Sx.out.later hb2)
    replace hbb := sl_lt Sx.out hK
    clear k0X1 k1X1 f0X1 f1X1 kzX1
    obtain ⟨k0X1, k1X1, f0X1, f1X1⟩ := X1.out.two
    have kzX1 := X1.out.lt
    replace X2 := Lib.hid (X2.out.later hb2)
    obtain ⟨k0X2, k1X2, f0X2, f1X2⟩ := X2.out.two
    have kzX2 : V1.heap.size < w2.heap.size := X2.out.lt
    replace k0X2 : w2.cell? ⟨V1.heap.size, 0, none⟩ = some (.int .i64 0) := k0X2
    replace k1X2 : w2.cell? ⟨V1.heap.size, 1, none⟩ = some (.string ⟨#[]⟩) := k1X2
    replace f0X2 : w2.frozen? ⟨V1.heap.size, 0, none⟩ = false := f0X2
    replace f1X2 : w2.frozen? ⟨V1.heap.size, 1, none⟩ = false := f1X2
    replace X2 : Hid (Blk w2 V1.heap.size 23 #[.int .i64 0, .string ⟨#[]⟩]) := X2
    refine hK0.out _ _ ⟨k0X1, k1X1, cx⟩ (fun hHeld => ?_)
    clear hK0 K0
    try simp only [Act.put, List.setIfInBounds_toArray, List.set_cons_zero, List.set_cons_succ]
    refine wpAnyH_take (i := 6) (v := (.tuple #[hV B (regs B x), .int .i64 0])) rfl (by kernel_rfl) (by kernel_rfl) (by kernel_rfl) (fun _ _ _ h => h) (Or.inl ⟨by rfl, ?_⟩) hHeld ?_
    · (intro w hSw; (try dsimp only at hSw); (try obtain ⟨s0, s1, s2⟩ := hSw); go_simp)
    simp only [Act.put, List.setIfInBounds_toArray, List.set_cons_zero, List.set_cons_succ]
    refine wpAnyH_take (i := 7) (v := (hV B (regs B x))) rfl (by kernel_rfl) (by kernel_rfl) (by kernel_rfl) (fun _ _ _ h => h) (Or.inl ⟨by rfl, ?_⟩) hHeld ?_
    · (intro w hSw; (try dsimp only at hSw); (try obtain ⟨s0, s1, s2⟩ := hSw); go_simp)
    simp only [Act.put, List.setIfInBounds_toArray, List.set_cons_zero, List.set_cons_succ]
    refine wpAnyH_take (i := 8) (v := (.int .i64 0)) rfl (by kernel_rfl) (by kernel_rfl) (by kernel_rfl) (fun _ _ _ h => h) (Or.inl ⟨by rfl, ?_⟩) hHeld ?_
    · (intro w hSw; (try dsimp only at hSw); (try obtain ⟨s0, s1, s2⟩ := hSw); go_simp)
    simp only [Act.put, List.setIfInBounds_toArray, List.set_cons_zero, List.set_cons_succ]
    refine wpAnyH_ready (rs := [10]) (by kernel_rfl) (by simp) ?_
    refine AllReadyH.cons rfl (fun K0 hK0 => ?_) AllReadyH.nil
    go_simp
    clear k0X1 k1X1 f0X1 f1X1 kzX1 k0X2 k1X2 f0X2 f1X2 kzX2
    have Y1 := Lib.hid ((X1.out.far (p := ⟨V1.heap.size, 0, none⟩) n1 (.int .i64 B)).far (p := ⟨V1.heap.size, 1, none⟩) n1 (.string (bs (regs B x))))
    have cy : ((w2.setCell ⟨V1.heap.size, 0, none⟩ (.int .i64 B)).setCell ⟨V1.heap.size, 1, none⟩ (.string (bs (regs B x)))).cell? ⟨ba, oa + K, none⟩ = some (.int .u64 (n : Int)) := (World.cell?_of_block ((Below.heap_setCell _ _ _ ba n2).trans (Below.heap_setCell _ _ _ ba n2))).trans cx
    have U := (T.setCell (p := ⟨V1.heap.size, 0, none⟩) n3 (.int .i64 B)).setCell (p := ⟨V1.heap.size, 1, none⟩) n3 (.string (bs (regs B x)))
    have Sy := Lib.hid (sl_set2 Sx.out X2.out (.int .i64 B) (.string (bs (regs B x))))
    replace X2 := Lib.hid ((X2.out.set_ 0 (.int .i64 B)).set_ 1 (.string (bs (regs B x))))
    clear X1 cx T Sx hbb hHeld
    obtain ⟨k0X1, k1X1, f0X1, f1X1⟩ := Y1.out.two
    have kzX1 := Y1.out.lt
    refine hK0.out _ _ ⟨k0X1, k1X1, cy⟩ (fun hHeld => ?_)
    clear hK0 K0
    try simp only [Act.put, List.setIfInBounds_toArray, List.set_cons_zero, List.set_cons_succ]
    refine wpAnyH_take (i := 11) (v := (.int .i64 0)) rfl (by kernel_rfl) (by kernel_rfl) (by kernel_rfl) (fun _ _ _ h => h) (Or.inl ⟨by rfl, ?_⟩) hHeld ?_
    · (intro w hSw; (try dsimp only at hSw); (try obtain ⟨s0, s1, s2⟩ := hSw); go_simp)
    simp only [Act.put, List.setIfInBounds_toArray, List.set_cons_zero, List.set_cons_succ]
    refine wpAnyH_done (by kernel_rfl) ?_ _
    clear hHeld hb2
    generalize (w2.setCell ⟨V1.heap.size, 0, none⟩ (.int .i64 B)).setCell ⟨V1.heap.size, 1, none⟩ (.string (bs (regs B x))) = V2 at *
    have Sx := Sy
    have cx := cy
    have T := U
    clear Sy cy U
    go_wp2_with fail
    refine (place_good B n h3 h8 hn64 _).mono ?_
    rintro e w' ⟨rfl, rfl⟩
    obtain ⟨k0X2, k1X2, _, _⟩ := X2.out.two
    have hsz := bs_size (regs B x)
    have ha : ∀ h : atF B n < (bs (regs B x)).size, ((bs (regs B x))[atF B n]'h).toNat = byt (regs B x) (atF B n) := fun h => bs_at (bytes_regs h3 h8 _) h
    have q0 : decide (((atF B n : Nat) : Int) < 0) = false := by simp
    have q1 : decide ((((regs B x).length : Nat) : Int) ≤ ((atF B n : Nat) : Int)) = false := by have := HO2.out; simp; omega
    have q2 := HO2.out
    have q3 := HO3.out
    have q4 := HO4.out
    have q5 : (0 : Int) ≤ ((atF B n : Nat) : Int) := by omega
    have q6 : ((atF B n : Nat) : Int) < (((regs B x).length : Nat) : Int) := by omega
    have q7 := byt_lt (bytes_regs h3 h8 x) (atF B n)
    have q8 : ¬ (regs B x).length ≤ atF B n := by omega
    generalize rankF B n = rk at *
    generalize byt (regs B x) (atF B n) = bt at *
    go_wp2_with fail
    go_ret
    exact ⟨ret_bool (by simp; omega), T⟩
end Go.Proofs.Ytgbanhjjieagnaa

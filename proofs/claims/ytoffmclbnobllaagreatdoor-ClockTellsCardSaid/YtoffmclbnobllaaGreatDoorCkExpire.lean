/-
  clock.Expire and clock.Touch.
-/
import Derived.Test.YtoffmclbnobllaaGreatDoorCkDelete2
namespace Go.Proofs.YtoffmclbnobllaaGreatDoor
open Go.RowKit
set_option linter.unusedVariables false
set_option linter.unusedSimpArgs false
def freshF (now life : Int) (s : Ser) : Bool := !staleF s.seen now life
theorem filter_map_s (now life : Int) : ∀ cs : List SerM, (cs.filter (freshB now life)).map (·.s) = (cs.map (·.s)).filter (freshF now life)
  | [] => rfl
  | m :: cs => by
    have ih := filter_map_s now life cs
    have e : freshB now life m = freshF now life m.s := rfl
    rw [List.map_cons, List.filter_cons, List.filter_cons, e]
    split
    · rw [List.map_cons, ih]
    · exact ih
theorem fit_of {ms cs : List SerM} (h : cs.map (·.s) = ms.map (·.s)) (hf : ∀ m ∈ ms, SerFit m.s) : ∀ m ∈ cs, SerFit m.s := fun m hm => by
  have : m.s ∈ ms.map (·.s) := by rw [← h]; exact List.mem_map.2 ⟨m, hm, rfl⟩
  obtain ⟨m', h1, h2⟩ := List.mem_map.1 this
  rw [← h2]; exact hf m' h1
theorem own_base {w : World} {B C n sz : Nat} {t : TypeId} {v : Value} {xs : List Value} (h : w.ownsRow C t sz v n xs) (hB : B ≤ C) : w.ownsRow B t sz v n xs := by
  obtain ⟨h1, h2 | ⟨g, cap, cur, e1, e2, e3⟩⟩ := h
  · exact ⟨h1, .inl h2⟩
  · exact ⟨h1, .inr ⟨g, cap, cur, e1, Nat.le_trans hB e2, e3⟩⟩
/-- What Expire hands back. -/
def ExpRet (w : World) (ts : List Ser) (now life : Int) (e : Ending) (w' : World) : Prop :=
  Below w.heap.size w w' ∧ (if rightT ts = true then ∃ A n c cs, n = cs.length ∧ e = .returned (.tuple #[.slice A n c, .int .i64 ((ts.length : Int) - (n : Int)), .int .i64 0]) ∧ cs.map (·.s) = ts.filter (freshF now life) ∧ OTab w' w.heap.size (.slice A n c) cs
    else e = .returned (.tuple #[.slice none 0 0, .int .i64 0, .int .i64 120]))
theorem ExpRet.no {w w' : World} {ts : List Ser} {now life : Int} (h : rightT ts = false) (hb : Below w.heap.size w w') : ExpRet w ts now life (.returned (.tuple #[.slice none 0 0, .int .i64 0, .int .i64 120])) w' := ⟨hb, by rw [h]; rfl⟩
theorem ExpRet.yes {w w' : World} {ts : List Ser} {now life : Int} {A : Option Addr} {n c : Nat} {cs : List SerM} {d : Int} (h : rightT ts = true) (hb : Below w.heap.size w w') (hn : n = cs.length) (hd : d = (ts.length : Int) - (n : Int)) (hm : cs.map (·.s) = ts.filter (freshF now life)) (ho : OTab w' w.heap.size (.slice A n c) cs) :
    ExpRet w ts now life (.returned (.tuple #[.slice A n c, .int .i64 d, .int .i64 0])) w' := ⟨hb, by rw [h, if_pos rfl]; exact ⟨A, n, c, cs, hn, by rw [hd], hm, ho⟩⟩
set_option maxRecDepth 100000 in
set_option maxHeartbeats 8000000 in
theorem expire_any (A : Option Addr) (ms : List SerM) (cap : Nat) (now life : Int) (hu : U now) (hl : ms.length ≤ 1000) (hf : ∀ m ∈ ms, SerFit m.s) (w : World) (hT : Tb w) (hS : Tab w w.heap.size A ms) :
    Calls Tryz.prog 8 #[.slice A ms.length cap, .int .u64 now, .int .u64 life] w (ExpRet w (ms.map (·.s)) now life) := by
  have QR := Lib.hid (sright_any A ms cap hl hf w hT hS)
  have HS := Lib.hid hS
  have HF := Lib.hid hf
  clear hS hf hT
  cases hr : rightT (ms.map (·.s)) with
  | false =>
    rw [hr] at QR
    have HRT := Lib.hid hr
    clear hr
    go_enter Tryz.func8, Tryz.ntmps8
    go_wp2_with fail
    refine QR.out.mono ?_
    rintro r w1 ⟨rfl, hb⟩
    go_wp2_with fail
    go_ret3
    exact ExpRet.no HRT.out hb
  | true =>
    rw [hr] at QR
    have HRT := Lib.hid hr
    clear hr
    go_enter Tryz.func8, Tryz.ntmps8
    go_wp2_with fail
    refine QR.out.mono ?_
    rintro r w1 ⟨rfl, hb⟩
    have HB1 := Lib.hid (Below.two hb (below_al (below_0 w1) (.cells #[.int .u64 now, .int .u64 life] 56)))
    have WB := Lib.hid (Blk.new w1 56 #[.int .u64 now, .int .u64 life])
    have hz1 := hb.size
    clear hb QR
    go_wp2_with fail
    generalize w1.heap.size = bx at *
    generalize w1.alloc (.cells #[.int .u64 now, .int .u64 life] 56) = V at *
    have x0 := WB.out.cell 0
    have x1 := WB.out.cell 1
    simp only [List.getElem?_toArray, List.getElem?_cons_zero, List.getElem?_cons_succ] at x0 x1
    refine wp_region_held_drew (S := fun w9 => w9.cell? ⟨bx, 0, none⟩ = some (.int .u64 now) ∧ w9.cell? ⟨bx, 1, none⟩ = some (.int .u64 life)) (by kernel_rfl) ⟨x0, x1⟩ (fun hHeld => ?_)
    have WD := Lib.hid WB.out.drew
    have HD := Lib.hid HB1.out.drew
    clear WB HB1 x0 x1
    generalize V.drew = V2 at *
    refine wpAnyH_take (i := 0) (v := (.slice A ms.length cap)) rfl (by kernel_rfl) (by kernel_rfl) (by kernel_rfl) (fun _ _ _ h => h) (Or.inl ⟨by rfl, ?_⟩) hHeld ?_
    · (intro w hSw; (try dsimp only at hSw); (try obtain ⟨s0, s1⟩ := hSw); go_simp)
    simp only [Act.put, List.setIfInBounds_toArray, List.set_cons_zero, List.set_cons_succ]
    refine wpAnyH_take (i := 2) (v := (.agg #[.int .u64 now, .int .u64 life])) rfl (by kernel_rfl) (by kernel_rfl) (by kernel_rfl) (fun _ _ _ h => h) (Or.inl ⟨by rfl, ?_⟩) hHeld ?_
    · (intro w hSw; (try dsimp only at hSw); (try obtain ⟨s0, s1⟩ := hSw); go_simp)
    simp only [Act.put, List.setIfInBounds_toArray, List.set_cons_zero, List.set_cons_succ]
    refine wpAnyH_take (i := 3) (v := (staleV now life)) rfl (by kernel_rfl) (by kernel_rfl) (by kernel_rfl) (fun _ _ _ h => h) (Or.inl ⟨by rfl, ?_⟩) hHeld ?_
    · (intro w hSw; (try dsimp only at hSw); (try obtain ⟨s0, s1⟩ := hSw); go_simp)
    simp only [Act.put, List.setIfInBounds_toArray, List.set_cons_zero, List.set_cons_succ]
    refine wpAnyH_ready (rs := [1]) (by kernel_rfl) (by simp) ?_
    refine AllReadyH.cons rfl (fun K0 hK => ?_) AllReadyH.nil
    go_simp
    refine (copied_any A ms cap hl HF.out V2 (HS.out.later HD.out)).mono ?_
    rintro e w2 ⟨⟨v, cs, rfl, hmap, hot⟩, hb2⟩
    have HB2 := Lib.hid (Below.two HD.out hb2)
    have W2 := Lib.hid (WD.out.later hb2)
    have HO2 := Lib.hid hot
    have hbxV := WD.out.lt
    have hwV := HD.out.size
    have hV2 := hb2.size
    have HMAP := Lib.hid hmap
    have hcl : cs.length = ms.length := by have := congrArg List.length hmap; rwa [List.length_map, List.length_map] at this
    clear hb2 hot hmap WD HD
    have x0 := W2.out.cell 0
    have x1 := W2.out.cell 1
    simp only [List.getElem?_toArray, List.getElem?_cons_zero, List.getElem?_cons_succ] at x0 x1
    refine hK.out _ _ ⟨x0, x1⟩ (fun hHeld => ?_)
    clear hK K0
    try simp only [Act.put, List.getElem_toArray, List.getElem_cons_succ, List.getElem_cons_zero, List.setIfInBounds_toArray, List.set_cons_zero, List.set_cons_succ]
    refine wpAnyH_ready (rs := [4]) (by kernel_rfl) (by simp) ?_
    refine AllReadyH.cons rfl (fun K0 hK => ?_) AllReadyH.nil
    go_simp
    refine (delete_any v cs now life hu (by omega) (fit_of HMAP.out HF.out) V2.heap.size w2 hV2 HO2.out).mono ?_
    rintro e w3 ⟨⟨v3, rfl, hot3⟩, hb3⟩
    have HB3 : Hid (Below w.heap.size w w3) := HB2.out.trans (hb3.mono hwV)
    have HO3 := Lib.hid hot3
    obtain ⟨A3, c3, rfl, _, _, _⟩ := own_rd hot3.own
    have W3 : Hid (w3.cell? ⟨bx, 0, none⟩ = some (.int .u64 now) ∧ w3.cell? ⟨bx, 1, none⟩ = some (.int .u64 life)) := ⟨(hb3.cell (p := ⟨bx, 0, none⟩) hbxV).trans x0, (hb3.cell (p := ⟨bx, 1, none⟩) hbxV).trans x1⟩
    clear hb3 hot3 x0 x1 W2 HB2 HO2 hbxV
    have hfl := filter_le (freshB now life) cs
    have HFM : Hid ((cs.filter (freshB now life)).map (·.s) = (ms.map (·.s)).filter (freshF now life)) := by show _ = _; rw [filter_map_s, HMAP.out]
    generalize cs.filter (freshB now life) = fs at *
    refine hK.out _ _ W3.out (fun hHeld => ?_)
    clear hK K0
    try simp only [Act.put, List.getElem_toArray, List.getElem_cons_succ, List.getElem_cons_zero, List.setIfInBounds_toArray, List.set_cons_zero, List.set_cons_succ]
    refine wpAnyH_ready (rs := [5]) (by kernel_rfl) (by simp) ?_
    refine AllReadyH.cons rfl (fun K0 hK => ?_) AllReadyH.nil
    go_simp
    refine hK.out _ _ W3.out (fun hHeld => ?_)
    clear hK K0
    try simp only [Act.put, List.getElem_toArray, List.getElem_cons_succ, List.getElem_cons_zero, List.setIfInBounds_toArray, List.set_cons_zero, List.set_cons_succ]
    refine wpAnyH_done (by kernel_rfl) ?_ _
    clear hHeld W3
    have hw9 : IntKind.i64.wrap ((ms.length : Int) - (fs.length : Int)) = (ms.length : Int) - (fs.length : Int) := IntWalk.i64_in _ (by omega)
    go_wp2_with fail
    go_ret3
    exact ExpRet.yes HRT.out HB3.out rfl (by rw [List.length_map]) HFM.out ⟨own_base HO3.out.own (by omega), HO3.out.ok, HO3.out.ap⟩
def seenAt (m : SerM) (now : Int) : SerM := ⟨{ m.s with seen := now }, m.m, m.la, m.lc, m.hk⟩
theorem tabC_set1 : ∀ (ms : List SerM) (i : Nat) (m' : SerM) (u : Value) (h : i < ms.length), serC m' = (serC ms[i]).set 11 u → (tabC ms).set (i * 12 + 11) u = tabC (ms.set i m')
  | [], i, _, _, h, _ => by simp at h
  | y :: ms, 0, m', u, _, he => by
    rw [List.set_cons_zero]
    have e : ∀ (y : SerM) (l : List SerM), tabC (y :: l) = serC y ++ tabC l := fun y l => by simp [tabC]
    rw [e, e, he, List.set_append_left _ _ (by rw [serC_len]; omega), Nat.zero_mul, Nat.zero_add]
    rfl
  | y :: ms, i + 1, m', u, h, he => by
    have ih := tabC_set1 ms i m' u (by simpa using h) he
    have e : ∀ (y : SerM) (l : List SerM), tabC (y :: l) = serC y ++ tabC l := fun y l => by simp [tabC]
    rw [List.set_cons_succ, e, e, ← ih, List.set_append_right _ _ (by rw [serC_len]; omega), serC_len]
    congr 2; omega
/-- What Touch hands back. -/
def TouRet (w : World) (ts : List Ser) (at_ now : Int) (e : Ending) (w' : World) : Prop :=
  Below w.heap.size w w' ∧ ((rightT ts = false ∨ at_ < 0 ∨ (ts.length : Int) ≤ at_) ∧ e = .returned (.tuple #[.slice none 0 0, .int .i64 120]) ∨
    ∃ k : Nat, at_ = (k : Int) ∧ rightT ts = true ∧ ∃ h : k < ts.length, (now < ts[k].seen ∧ e = .returned (.tuple #[.slice none 0 0, .int .i64 140]) ∨
      ts[k].seen ≤ now ∧ ∃ A c cs, e = .returned (.tuple #[.slice A cs.length c, .int .i64 0]) ∧ cs.map (·.s) = ts.set k { ts[k] with seen := now } ∧ OTab w' w.heap.size (.slice A cs.length c) cs))
theorem TouRet.no {w w' : World} {ts : List Ser} {at_ now : Int} (h : rightT ts = false ∨ at_ < 0 ∨ (ts.length : Int) ≤ at_) (hb : Below w.heap.size w w') : TouRet w ts at_ now (.returned (.tuple #[.slice none 0 0, .int .i64 120])) w' := ⟨hb, .inl ⟨h, rfl⟩⟩
theorem TouRet.late {w w' : World} {ts : List Ser} {k : Nat} {now : Int} (hr : rightT ts = true) (h : k < ts.length) (hs : now < ts[k].seen) (hb : Below w.heap.size w w') : TouRet w ts k now (.returned (.tuple #[.slice none 0 0, .int .i64 140])) w' := ⟨hb, .inr ⟨k, rfl, hr, h, .inl ⟨hs, rfl⟩⟩⟩
theorem TouRet.yes {w w' : World} {ts : List Ser} {k : Nat} {now : Int} {A : Option Addr} {n c : Nat} {cs : List SerM} (hr : rightT ts = true) (h : k < ts.length) (hs : ts[k].seen ≤ now) (hb : Below w.heap.size w w') (hn : n = cs.length) (hm : cs.map (·.s) = ts.set k { ts[k] with seen := now }) (ho : OTab w' w.heap.size (.slice A n c) cs) :
    TouRet w ts k now (.returned (.tuple #[.slice A n c, .int .i64 0])) w' := ⟨hb, .inr ⟨k, rfl, hr, h, .inr ⟨hs, A, c, cs, by rw [hn], hm, hn ▸ ho⟩⟩⟩
theorem map_set_s (cs : List SerM) (k : Nat) (m : SerM) : (cs.set k m).map (·.s) = (cs.map (·.s)).set k m.s := by rw [List.map_set]
set_option maxRecDepth 100000 in
set_option maxHeartbeats 8000000 in
theorem touch_any (A : Option Addr) (ms : List SerM) (cap : Nat) (at_ now : Int) (hl : ms.length ≤ 1000) (hf : ∀ m ∈ ms, SerFit m.s) (w : World) (hT : Tb w) (hS : Tab w w.heap.size A ms) :
    Calls Tryz.prog 10 #[.slice A ms.length cap, .int .i64 at_, .int .u64 now] w (TouRet w (ms.map (·.s)) at_ now) := by
  have QR := Lib.hid (sright_any A ms cap hl hf w hT hS)
  have HS := Lib.hid hS
  have HF := Lib.hid hf
  clear hS hf hT
  cases hr : rightT (ms.map (·.s)) with
  | false =>
    rw [hr] at QR
    have HRT := Lib.hid hr
    clear hr
    go_enter Tryz.func10, Tryz.ntmps10
    go_wp2_with fail
    refine QR.out.mono ?_
    rintro r w1 ⟨rfl, hb⟩
    go_wp2_with fail
    go_ret2
    exact TouRet.no (.inl HRT.out) hb
  | true =>
    rw [hr] at QR
    have HRT := Lib.hid hr
    clear hr
    by_cases h0 : at_ < 0
    · have b0 : decide (at_ < 0) = true := decide_eq_true h0
      have H0 := Lib.hid h0
      clear h0
      go_enter Tryz.func10, Tryz.ntmps10
      go_wp2_with fail
      refine QR.out.mono ?_
      rintro r w1 ⟨rfl, hb⟩
      go_wp2_with fail
      go_ret2
      exact TouRet.no (.inr (.inl H0.out)) hb
    · obtain ⟨k, rfl⟩ : ∃ k : Nat, at_ = (k : Int) := ⟨at_.toNat, by omega⟩
      have b0 : decide ((k : Int) < 0) = false := decide_eq_false h0
      clear h0
      by_cases h1 : k < ms.length
      · have b1 : decide ((ms.length : Int) ≤ (k : Int)) = false := decide_eq_false (by omega)
        have b2 : decide (ms.length ≤ k) = false := decide_eq_false (by omega)
        have hi1 : (0 : Int) ≤ (k : Int) := by omega
        have hi2 : (k : Int) < (ms.length : Int) := by omega
        obtain ⟨b, off, rfl, hb, hc⟩ := HS.out.at_ (by omega)
        have c11 := Lib.hid (hc k h1).c11
        clear hc
        have HK : Hid (∃ h : k < (ms.map (·.s)).length, (ms.map (·.s))[k] = ms[k].s) := ⟨by rw [List.length_map]; exact h1, by rw [List.getElem_map]⟩
        generalize hse : ms[k].s.seen = se at *
        have HSE := Lib.hid hse
        clear hse
        go_enter Tryz.func10, Tryz.ntmps10
        go_wp2_with fail
        refine QR.out.mono ?_
        rintro r w1 ⟨rfl, hb1⟩
        have HB1 := Lib.hid hb1
        have i11 := (hb1.cell (p := ⟨b, off + k * 12 + 11, none⟩) hb).trans c11.out
        clear hb1 QR
        by_cases hs : now < se
        · have bs : decide (now < se) = true := decide_eq_true hs
          have HLATE := Lib.hid hs
          clear hs
          go_wp2_with fail
          go_ret2
          obtain ⟨h, e⟩ := HK.out
          exact TouRet.late HRT.out h (by rw [e, HSE.out]; exact HLATE.out) HB1.out
        · have bs : decide (now < se) = false := decide_eq_false hs
          have HNOT : Hid (se ≤ now) := by show _ ≤ _; omega
          clear hs
          go_wp2_with fail
          refine (copied_any (some ⟨b, off, none⟩) ms cap hl HF.out w1 (HS.out.later HB1.out)).mono ?_
          rintro e w2 ⟨⟨v, cs, rfl, hmap, hot⟩, hb2⟩
          have hcl : cs.length = ms.length := by have := congrArg List.length hmap; rwa [List.length_map, List.length_map] at this
          have hkc : k < cs.length := by omega
          obtain ⟨g, c, arr, rfl, hBg, hg, hblk, hnc, hcm⟩ := own_pos hot.own (by omega)
          have HB2 := Lib.hid (Below.two HB1.out hb2)
          obtain ⟨b', off', e3, hgl, hcells⟩ := hot.tab.at_ (by omega)
          cases e3
          have q11 := (serAt0 (hcells k hkc)).c11
          have f11 := hblk.frozen (k * 12 + 11)
          have hst := hot.own.stored (k * 12 + 11) (.int .u64 now)
          have hown := hst.1
          rw [tabC_set1 cs k (seenAt cs[k] now) _ hkc (by rfl)] at hown
          have hgr := hst.2
          have HOT : Hid (OTab (w2.setCell ⟨g, k * 12 + 11, none⟩ (.int .u64 now)) w.heap.size (.slice (some ⟨g, 0, none⟩) cs.length c) (cs.set k (seenAt cs[k] now))) := by
            refine ⟨by rw [List.length_set]; exact own_base hown HB1.out.size, fun m0 h => ?_, fun m0 h => ?_⟩
            · rcases List.mem_or_eq_of_mem_set h with h | h
              · exact (hot.ok m0 h).grown hgr (hot.ap m0 h)
              · subst h
                have := (hot.ok cs[k] (List.getElem_mem hkc)).grown hgr (hot.ap cs[k] (List.getElem_mem hkc))
                exact ⟨this.l, this.k⟩
            · rcases List.mem_or_eq_of_mem_set h with h | h
              · exact hot.ap m0 h
              · subst h; exact hot.ap cs[k] (List.getElem_mem hkc)
          have HB3 : Hid (Below w.heap.size w (w2.setCell ⟨g, k * 12 + 11, none⟩ (.int .u64 now))) := HB2.out.setCell (by have := HB1.out.size; show w.heap.size ≤ g; omega) _
          have HMS : Hid ((cs.set k (seenAt cs[k] now)).map (·.s) = (ms.map (·.s)).set k { ms[k].s with seen := now }) := by
            show _ = _
            rw [map_set_s, hmap]
            congr 1
            have e : cs[k].s = ms[k].s := by
              have : (cs.map (·.s))[k]? = (ms.map (·.s))[k]? := by rw [hmap]
              simpa [hkc, h1] using this
            unfold seenAt
            simp only [e]
          rw [hcl] at HOT
          have hi3 : (k : Int) < (cs.length : Int) := by omega
          clear hst hown hgr hot hmap hb2 hcells hblk HB2 i11
          go_wp2_with fail
          go_ret2
          obtain ⟨h, e⟩ := HK.out
          exact TouRet.yes HRT.out h (by rw [e, HSE.out]; exact HNOT.out) HB3.out (by rw [List.length_set, hcl]) (by rw [e]; exact HMS.out) HOT.out
      · have b1 : decide ((ms.length : Int) ≤ (k : Int)) = true := decide_eq_true (by omega)
        have b2 : decide (ms.length ≤ k) = true := decide_eq_true (by omega)
        have H1 : Hid (((ms.map (·.s)).length : Int) ≤ (k : Int)) := by show _ ≤ _; rw [List.length_map]; omega
        clear h1
        go_enter Tryz.func10, Tryz.ntmps10
        go_wp2_with fail
        refine QR.out.mono ?_
        rintro r w1 ⟨rfl, hb⟩
        go_wp2_with fail
        go_ret2
        exact TouRet.no (.inr (.inr H1.out)) hb
end Go.Proofs.YtoffmclbnobllaaGreatDoor

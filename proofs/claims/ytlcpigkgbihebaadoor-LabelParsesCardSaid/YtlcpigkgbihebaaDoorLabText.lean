/-
  label.Text.
-/
import Derived.Test.YtlcpigkgbihebaaDoorLabParse
import Derived.Test.YtlcpigkgbihebaaDoorLabQuoted
import Derived.Test.YtlcpigkgbihebaaDoorRound
namespace Go.Proofs.YtlcpigkgbihebaaDoor
open Go.RowKit
set_option linter.unusedVariables false
set_option linter.unusedSimpArgs false
attribute [local go_sem] Oper.semAt_some
theorem wpIn_region_roundU {P : Program} {ops : Array Oper} {Q : Exit → Act → World → Prop} {l n s : Nat} {S : World → Prop} {id : Nat} {a : Act} {w : World} (hm : P.follows .mixedOrders = true) (hd : ops.toList.all (fun o : Oper => match o.op with | .defer _ => false | _ => true) = true) (hQ : ¬ LetsOut Q)
    (h : wpAnyU P .any ops Q S s ops.size (Array.replicate ops.size false) a w.drew) : (Code.region id ops true).wpIn (Fence.wide.inRound l) n P Q a w := by
  refine wpIn_region_any hm (any_round (fun i o ho c e => ?_) hQ _ _ _ _ (wpAny_of_U _ _ _ _ h))
  have := List.all_eq_true.1 hd o (by simpa using Array.mem_of_getElem? ho)
  rw [e] at this
  cases this
/-- A label's part of a text. -/
def partS (x : Lab) : ByteArray := x.1 ++ ⟨#[61]⟩ ++ ⟨(quoB (tx x.2)).toArray⟩
def partsV (l : List Lab) : List Value := l.map fun x => .string (partS x)
/-- A set's text. -/
def textB (l : List Lab) : List UInt8 := Lib.join ((l.map partS).map (·.data.toList)) [44]
def TxI (w : World) (n₀ g4 : Nat) (l : List Lab) (pre : List (At l.length)) (W : World) : Prop :=
  (∃ pv, Blk W g4 55 #[pv] ∧ W.ownsRow n₀ 9 1 pv (mapL l pre).length (partsV (mapL l pre))) ∧ Below w.heap.size w W
def TxX (w : World) (l : List Lab) (c : Code) (pre : List (At l.length)) (W : World) : Prop := False
theorem own_kept_nc {W W' : World} {B n sz : Nat} {t : TypeId} {v : Value} {xs : List Value} {row : Option Nat} (h : W.ownsRow B t sz v n xs) (hg : W.grownBy W' row) (hr : ∀ r, row = some r → ∃ o : Obj, W.heap[r]? = some o ∧ o.isCells = false) : W'.ownsRow B t sz v n xs := by
  refine h.kept hg ?_
  cases e : v.ownBlock with
  | none => exact .inl rfl
  | some r =>
    refine .inr ?_
    rintro rfl
    obtain ⟨o, ho, hc⟩ := hr r rfl
    obtain ⟨_, ⟨hv, _⟩ | ⟨g, cap, cur, hv, _, hh, _⟩⟩ := h
    · subst hv; cases e
    · subst hv; cases e; rw [hh] at ho; cases ho; cases hc
theorem own_later {W W' : World} {B n sz : Nat} {t : TypeId} {v : Value} {xs : List Value} (h : W.ownsRow B t sz v n xs) (hb : Below W.heap.size W W') : W'.ownsRow B t sz v n xs :=
  h.kept (row := none) ⟨hb.os, hb.tape, hb.output, hb.size, fun i hi _ => hb.block i hi⟩ (by
    cases e : v.ownBlock with
    | none => exact .inl rfl
    | some r => exact .inr (by simp))
theorem own_row1 {w : World} {B n sz : Nat} {t : TypeId} {v : Value} {xs : List Value} (h : w.ownsRow B t sz v n xs) : ∀ g, v.ownBlock = some g → B ≤ g ∧ ∃ c fz, w.heap[g]? = some (.cells c t fz) := by
  intro g hg
  obtain ⟨_, ⟨h, e⟩ | ⟨r, cap, cur, hv, hb, hh, _⟩⟩ := h
  · subst h; cases hg
  · subst hv; cases hg; exact ⟨hb, _, _, hh⟩
theorem keeps_grow {W W' : World} {r : Option Nat} (hg : W.grownBy W' r) (hr : ∀ k, r = some k → ∃ c t fz, W.heap[k]? = some (.cells c t fz)) : KeepsOthers W W' :=
  ⟨hg.size, fun k o hk hc => (hg.block k (Array.getElem?_eq_some_iff.1 hk).1 (fun e => by
    obtain ⟨c, t, fz, h⟩ := hr k e.symm
    rw [h] at hk; cases hk; cases hc)).trans hk⟩
theorem TxI_own {w : World} {n₀ g4 : Nat} {l : List Lab} {Bd : Nat} (hB : w.heap.size ≤ Bd) : OwnFrom Bd (TxI w n₀ g4 l) := by
  rintro s W W' row ⟨⟨pv, h1, h2⟩, h4⟩ hg hr
  exact ⟨⟨pv, h1.kept hg (fun r e => (hr r e).2), own_kept_nc h2 hg (fun r e => (hr r e).2)⟩, h4.grown hg h4.size (fun k e => Nat.le_trans hB (hr k e).1)⟩
theorem TxX_own {w : World} {l : List Lab} {c : Code} {Bd : Nat} : OwnFrom Bd (TxX w l c) := fun _ _ _ _ h _ _ => h.elim
theorem Tryd.infoStr : (Tryd.prog.info? 9).map (fun i => (i.zero, i.size, i.bytes)) = some (some (.string ⟨#[]⟩), 1, 16) := by kernel_rfl
theorem size_arr (l : List UInt8) : (ByteArray.mk l.toArray).size = l.length := by simp [ByteArray.size]
theorem quoB_le (l : List UInt8) : (quoB l).length ≤ 5 * (cp l).length := flat_quo_le _
theorem stringOp_add {a b : ByteArray} (h : a.size + b.size ≤ 1000000) : Op.stringOp .add a b = pure (.string (a ++ b)) := by
  rw [Op.stringOp, if_neg]
  show ¬ ((a.size + b.size : Nat) : Int) > 9223372036854775807
  omega
/-- What is so of all labels of a set. -/
theorem setB_all {l : List Lab} (h : setB l = true) : ∀ x ∈ l, nameB (tx x.1) = true ∧ valueB (tx x.2) = true := by
  have : ∀ (l : List Lab) (pv : List UInt8), chainB pv l = true → ∀ x ∈ l, nameB (tx x.1) = true ∧ valueB (tx x.2) = true := by
    intro l
    induction l with
    | nil => intro _ _ x hx; cases hx
    | cons y l ih =>
      intro pv h x hx
      rw [chainB, Bool.and_eq_true] at h
      rcases List.mem_cons.1 hx with rfl | hx
      · have := h.1
        rw [okStep] at this
        simp only [Bool.and_eq_true] at this
        exact ⟨this.1, this.2.2⟩
      · exact ih _ h.2 x hx
  unfold setB at h
  simp only [Bool.and_eq_true] at h
  exact this l [] h.2
theorem set_sizes {l : List Lab} (h : setB l = true) : ∀ x ∈ l, x.1.size ≤ 12 ∧ (quoB (tx x.2)).length ≤ 120 := fun x hx => by
  obtain ⟨h1, h2⟩ := setB_all h x hx
  simp only [nameB, valueB, Bool.and_eq_true, decide_eq_true_eq] at h1 h2
  rw [tx_len] at h1
  have := quoB_le (tx x.2)
  exact ⟨h1.1.2, by omega⟩
theorem text_le {l : List Lab} (h : ∀ x ∈ l, x.1.size ≤ 12 ∧ (quoB (tx x.2)).length ≤ 120) (hl : l.length ≤ 6) : (Lib.join ((l.map partS).map (·.data.toList)) [44]).length ≤ 140737488355328 := by
  have hp : ∀ x ∈ l, (partS x).data.toList.length ≤ 133 := fun x hx => by
    obtain ⟨h1, h2⟩ := h x hx
    show (tx (partS x)).length ≤ _
    rw [tx_len, partS, ByteArray.size_append, ByteArray.size_append, size_arr (quoB (tx x.2))]
    show x.1.size + 1 + _ ≤ 133
    omega
  have : ∀ l : List Lab, (∀ x ∈ l, (partS x).data.toList.length ≤ 133) → (Lib.joinTail [44] ((l.map partS).map (·.data.toList))).length ≤ 134 * l.length := by
    intro l
    induction l with
    | nil => intro _; simp [Lib.joinTail]
    | cons y l ih =>
      intro h
      have h1 := h y (by simp)
      have h2 := ih (fun x hx => h x (by simp [hx]))
      simp only [Lib.joinTail, List.map_cons, List.flatten_cons, List.length_append, List.length_cons, List.length_nil] at h2 ⊢
      omega
  cases l with
  | nil => simp [Lib.join_nil]
  | cons y l =>
    rw [List.map_cons, List.map_cons, Lib.join_cons, List.length_append]
    have h1 := hp y (by simp)
    have h2 := this l (fun x hx => hp x (by simp [hx]))
    simp only [List.length_cons] at hl
    omega
theorem mem_lth {l : List Lab} {k : Nat} (h : k < l.length) : lth l k ∈ l := by
  have : lth l k = l[k] := by simp [lth, h]
  rw [this]; exact List.getElem_mem h
set_option maxRecDepth 100000 in
set_option maxHeartbeats 4000000 in
theorem text_in (A : Option Addr) (l : List Lab) (cap : Nat) (hr : setB l = true) (hs : ∀ x ∈ l, (x.2).size ≤ 1000000) (w : World) (hT : Tb w) (hS : Lb w w.heap.size A l) :
    CallsIn Fence.wide 6 Tryd.prog 18 #[.slice A l.length cap] w fun e w' => e = .returned (.tuple #[.string ⟨(textB l).toArray⟩, .int .i64 0]) ∧ Below w.heap.size w w' := by
  have hl6 : 1 ≤ l.length ∧ l.length ≤ 6 := by
    unfold setB at hr
    simp only [Bool.and_eq_true, decide_eq_true_eq] at hr
    exact hr.1
  have SZ : Hid (∀ k, k < l.length → (lth l k).1.size ≤ 12 ∧ (quoB (tx (lth l k).2)).length ≤ 120 ∧ (lth l k).2.size ≤ 1000000) := fun k hk => by
    have h1 := set_sizes hr _ (mem_lth hk)
    exact ⟨h1.1, h1.2, hs _ (mem_lth hk)⟩
  have SZ2 : Hid (∀ x ∈ l, x.1.size ≤ 12 ∧ (quoB (tx x.2)).length ≤ 120) := set_sizes hr
  have QR := Lib.hid (right_any A l cap (fun x hx => by have := hs x hx; omega) w hT hS)
  rw [hr] at QR
  have HS := Lib.hid hS
  have NE : Hid (l.length ≠ 0 → ∀ ad, A = some ad → ad.block < w.heap.size) := fun h ad e => by
    obtain ⟨b, off, e', hb, _⟩ := hS.at_ (by omega)
    rw [e'] at e; cases e; exact hb
  obtain ⟨hl1, hl6⟩ := hl6
  clear hS hT hr hs
  refine callsIn_of_wp_marks Tryd.func18 rfl trivial ?_ rfl
  simp only [Tryd.ntmps18, List.size_toArray, List.length_cons, List.length_nil, Nat.reduceAdd, Nat.reduceSub, Array.replicate_succ, Array.replicate_zero, List.push_toArray, List.append_toArray, List.nil_append, List.cons_append]
  refine wpIn_wide.2 ?_
  go_wp2_with fail
  refine QR.out.mono ?_
  rintro e w0 ⟨rfl, hb0⟩
  have T : Below w.heap.size w (w0.alloc (.cells #[.slice none 0 0] 55)) := below_al hb0 _
  have P0 := Lib.hid (Blk.new w0 55 #[.slice none 0 0])
  have hw0 := hb0.size
  replace HS := Lib.hid (ls_later (ls_later HS.out hb0) (below_al (below_0 w0) (.cells #[.slice none 0 0] 55)))
  clear hb0
  go_wp2_with fail
  generalize w0.alloc (.cells #[.slice none 0 0] 55) = w1 at *
  refine (each_any _ _ _ _).mono ?_
  rintro e w' ⟨rfl, rfl⟩
  have hba := below_al (below_0 w1) (.cells #[.slice A l.length cap] 23)
  have Z := Lib.hid (Blk.new w1 23 #[.slice A l.length cap])
  have hw1 := P0.out.lt
  replace P0 := Lib.hid (P0.out.later hba)
  replace HS := Lib.hid (ls_later HS.out hba)
  replace T := Below.two T hba
  clear hba
  go_wp2_with fail
  generalize w1.alloc (.cells #[.slice A l.length cap] 23) = V at *
  have pz := P0.out.lt
  have vz := Z.out.lt
  obtain ⟨zs, hzs⟩ := exists_at (N := l.length) (List.range l.length) (fun p hp => List.mem_range.1 hp)
  have HZ := Lib.hid hzs
  have hst : TxI w V.heap.size w0.heap.size l [] V := ⟨⟨_, P0.out, World.ownsRow_nil _ _ _ _⟩, T⟩
  clear hzs
  refine (wpIn_wide (n := 6)).1 ?_
  refine rangeFunc_box rfl (by omega) (gf := 73) (lb := #[.pointer (some ⟨w1.heap.size, 0, none⟩)]) rfl trivial (enters_of Tryd.func73 (by kernel_rfl) rfl)
    (values_stops 5 (by omega) w1.heap.size cap (fun i => i ≠ w0.heap.size) A l zs HZ.out (by omega) V (by omega) (fun h ad e => by have := NE.out h ad e; omega) Z.out HS.out)
    (fun h k => keepP_t h k) (keepP_b (by omega)) (fun W o h => keepP_below (by omega) (below_al (below_0 W) o)) (Below.refl _ _) (fun _ => rfl)
    (TxI w V.heap.size w0.heap.size l) (TxX w l) (TxI_own (by have := T.size; omega)) (fun c => TxX_own) hst
    (fun x b => { tmps := #[.slice A l.length cap, undef, .string ⟨#[]⟩, .int .i64 0, .pointer (some ⟨w0.heap.size, 0, none⟩), .pointer (some ⟨b, 0, none⟩), .slice A l.length cap, .bool true, .bool false, .slice A l.length cap,
      .func (.func 73) #[] #[.pointer (some ⟨w1.heap.size, 0, none⟩)], .agg #[.string (lth l x.1).1, .string (lth l x.1).2], undef, undef, undef, undef, undef, undef, undef, undef, undef, undef, undef, undef], defers := [] })
    (fun x => .cells #[.string (lth l x.1).1, .string (lth l x.1).2] 41) ?assign ?body ?done ?stop
  case assign =>
    intro l x W K hK
    gi_wp2
    exact hK
  case body =>
    rintro l' pre x W b ⟨⟨pv, hP, hO⟩, hb⟩ hbz hN hlt
    have HN : Hid (Blk W b 41 #[.string (lth l x.1).1, .string (lth l x.1).2]) := hN
    have HPV := Lib.hid hP
    have HO := Lib.hid hO
    have HB := Lib.hid hb
    have hlen : (mapL l pre).length < l.length := by simp [mapL]; omega
    have HMS : Hid (partsV (mapL l (pre ++ [x])) = partsV (mapL l pre) ++ [.string (partS (lth l x.1))]) := by show _ = _; rw [mapL_snoc]; simp [partsV]
    have HML : Hid ((mapL l (pre ++ [x])).length = (mapL l pre).length + 1) := by show _ = _; rw [mapL_snoc]; simp
    obtain ⟨sz1, sz2, sz3⟩ := SZ.out x.1 x.2
    obtain ⟨i0, hi0, hz0, hz1, hz2⟩ := info_parts Tryd.infoStr
    clear hP hO hb hN
    generalize lth l x.1 = it at *
    obtain ⟨nm, vl⟩ := it
    have HPT : Hid (partS (nm, vl) = nm ++ ⟨#[61]⟩ ++ ⟨(quoB (tx vl)).toArray⟩) := rfl
    have QQ : Hid (∀ w1, Calls Tryd.prog 36 #[.string vl] w1 fun e w' => e = .returned (.string ⟨(quoB (tx vl)).toArray⟩) ∧ Below w1.heap.size w1 w') := fun w1 => quoted_any vl w1 sz3
    have hq1 : (ByteArray.mk (quoB (tx vl)).toArray).size ≤ 120 := by rw [size_arr]; exact sz2
    generalize ByteArray.mk (quoB (tx vl)).toArray = qv at *
    have ha1 : Op.stringOp .add nm ⟨#[61]⟩ = pure (.string (nm ++ ⟨#[61]⟩)) := stringOp_add (by simp only at sz1; show nm.size + 1 ≤ 1000000; omega)
    have ha2 : Op.stringOp .add (nm ++ ⟨#[61]⟩) qv = pure (.string (nm ++ ⟨#[61]⟩ ++ qv)) := stringOp_add (by simp only at sz1; rw [ByteArray.size_append]; show nm.size + 1 + qv.size ≤ 1000000; omega)
    generalize partsV (mapL l pre) = xs at *
    generalize (mapL l pre).length = np at *
    simp only at sz1 sz2 sz3 HN
    have c0 := HPV.out.one
    have n0 := HN.out.p0
    have n1 := HN.out.p1
    have fz := HPV.out.frozen 0
    gi_wp2_with fail
    refine wpIn_region_roundU (S := fun w' => w'.cell? ⟨w0.heap.size, 0, none⟩ = some pv ∧ w'.cell? ⟨b, 0, none⟩ = some (.string nm) ∧ w'.cell? ⟨b, 1, none⟩ = some (.string vl)) (s := 10) (by kernel_rfl) (by kernel_rfl) (by rintro ⟨_, _, h⟩; exact h) ?_
    refine wpAnyU_take (i := 0) (v := pv) rfl (by kernel_rfl) (by kernel_rfl) (by kernel_rfl) (by kernel_rfl) (by decide) (by kernel_rfl) (fun _ _ _ h => h) (Or.inl ⟨by rfl, ?_⟩) ⟨c0, n0, n1⟩ ?_
    · (intro w hSw; (try dsimp only at hSw); obtain ⟨s0, s1, s2⟩ := hSw; go_simp)
    simp only [Act.put, List.setIfInBounds_toArray, List.set_cons_zero, List.set_cons_succ]
    refine wpAnyU_take (i := 1) (v := (.pointer (some ⟨b, 0, none⟩))) rfl (by kernel_rfl) (by kernel_rfl) (by kernel_rfl) (by kernel_rfl) (by decide) (by kernel_rfl) (fun _ _ _ h => h) (Or.inl ⟨by rfl, ?_⟩) ⟨c0, n0, n1⟩ ?_
    · (intro w hSw; (try dsimp only at hSw); obtain ⟨s0, s1, s2⟩ := hSw; go_simp)
    simp only [Act.put, List.setIfInBounds_toArray, List.set_cons_zero, List.set_cons_succ]
    refine wpAnyU_take (i := 2) (v := (.string nm)) rfl (by kernel_rfl) (by kernel_rfl) (by kernel_rfl) (by kernel_rfl) (by decide) (by kernel_rfl) (fun _ _ _ h => h) (Or.inl ⟨by rfl, ?_⟩) ⟨c0, n0, n1⟩ ?_
    · (intro w hSw; (try dsimp only at hSw); obtain ⟨s0, s1, s2⟩ := hSw; go_simp)
    simp only [Act.put, List.setIfInBounds_toArray, List.set_cons_zero, List.set_cons_succ]
    refine wpAnyU_take (i := 3) (v := (.string (nm ++ ⟨#[61]⟩))) rfl (by kernel_rfl) (by kernel_rfl) (by kernel_rfl) (by kernel_rfl) (by decide) (by kernel_rfl) (fun _ _ _ h => h) (Or.inl ⟨by rfl, ?_⟩) ⟨c0, n0, n1⟩ ?_
    · (intro w hSw; (try dsimp only at hSw); obtain ⟨s0, s1, s2⟩ := hSw; go_simp)
    simp only [Act.put, List.setIfInBounds_toArray, List.set_cons_zero, List.set_cons_succ]
    refine wpAnyU_take (i := 4) (v := (.pointer (some ⟨b, 1, none⟩))) rfl (by kernel_rfl) (by kernel_rfl) (by kernel_rfl) (by kernel_rfl) (by decide) (by kernel_rfl) (fun _ _ _ h => h) (Or.inl ⟨by rfl, ?_⟩) ⟨c0, n0, n1⟩ ?_
    · (intro w hSw; (try dsimp only at hSw); obtain ⟨s0, s1, s2⟩ := hSw; go_simp)
    simp only [Act.put, List.setIfInBounds_toArray, List.set_cons_zero, List.set_cons_succ]
    refine wpAnyU_take (i := 5) (v := (.string vl)) rfl (by kernel_rfl) (by kernel_rfl) (by kernel_rfl) (by kernel_rfl) (by decide) (by kernel_rfl) (fun _ _ _ h => h) (Or.inl ⟨by rfl, ?_⟩) ⟨c0, n0, n1⟩ ?_
    · (intro w hSw; (try dsimp only at hSw); obtain ⟨s0, s1, s2⟩ := hSw; go_simp)
    simp only [Act.put, List.setIfInBounds_toArray, List.set_cons_zero, List.set_cons_succ]
    refine wpAnyU_one (i := 6) (by kernel_rfl) rfl (fun K hK => ?_)
    go_simp
    refine (QQ.out _).mono ?_
    rintro e W2 ⟨rfl, hb2⟩
    have hd : Below W.heap.size W W2 := Below.two (below_drewN (below_0 W) 1) hb2
    have hVW : V.heap.size ≤ W.heap.size := by have := HN.out.lt; omega
    replace HN := Lib.hid (HN.out.later hd)
    replace HPV := Lib.hid (HPV.out.later hd)
    have HO2 : Hid (W2.ownsRow V.heap.size 9 1 pv np xs) := own_later HO.out hd
    have HB2 := Lib.hid (Below.two HB.out hd)
    have KO := keeps_of_below hd
    have KP := Lib.hid (keepP_below (n₀ := V.heap.size) (p := fun i => i ≠ w0.heap.size) hVW hd)
    have hVW2 : V.heap.size ≤ W2.heap.size := Nat.le_trans hVW hd.size
    clear hd hb2 c0 n0 n1 fz HO HB
    have c0 := HPV.out.one
    have n0 := HN.out.p0
    have n1 := HN.out.p1
    refine hK.out _ _ (fun _ => ⟨c0, n0, n1⟩) ?_
    clear hK K
    try simp only [Act.put, List.getElem_toArray, List.getElem_cons_succ, List.getElem_cons_zero, List.setIfInBounds_toArray, List.set_cons_zero, List.set_cons_succ]
    refine wpAnyU_take (i := 7) (v := (.string (nm ++ ⟨#[61]⟩ ++ qv))) rfl (by kernel_rfl) (by kernel_rfl) (by kernel_rfl) (by kernel_rfl) (by decide) (by kernel_rfl) (fun _ _ _ h => h) (Or.inl ⟨by rfl, ?_⟩) ⟨c0, n0, n1⟩ ?_
    · (intro w hSw; (try dsimp only at hSw); obtain ⟨s0, s1, s2⟩ := hSw; go_simp)
    simp only [Act.put, List.getElem_toArray, List.getElem_cons_succ, List.getElem_cons_zero, List.setIfInBounds_toArray, List.set_cons_zero, List.set_cons_succ]
    refine wpAnyU_one (i := 8) (by kernel_rfl) rfl (fun K hK => ?_)
    go_simp
    have hba : Below W2.heap.size W2 (W2.alloc (.cells #[.string (nm ++ ⟨#[61]⟩ ++ qv)] 9)) := below_al (below_0 W2) _
    have NB : Hid (Blk (W2.alloc (.cells #[.string (nm ++ ⟨#[61]⟩ ++ qv)] 9)) W2.heap.size 9 #[.string (nm ++ ⟨#[61]⟩ ++ qv)]) := Blk.new W2 _ _
    replace HN := Lib.hid (HN.out.later hba)
    replace HPV := Lib.hid (HPV.out.later hba)
    have HO3 : Hid ((W2.alloc (.cells #[.string (nm ++ ⟨#[61]⟩ ++ qv)] 9)).ownsRow V.heap.size 9 1 pv np xs) := own_later HO2.out hba
    have HB3 := Lib.hid (Below.two HB2.out hba)
    replace KO := KO.trans (keeps_of_below hba)
    replace KP := Lib.hid (keepP_t KP.out (keepP_below hVW2 hba))
    have hw2 := hba.size
    clear hba c0 n0 n1 HO2 HB2
    generalize (W2.alloc (.cells #[.string (nm ++ ⟨#[61]⟩ ++ qv)] 9)) = W3 at *
    have c0 := HPV.out.one
    have n0 := HN.out.p0
    have n1 := HN.out.p1
    refine hK.out _ _ (fun _ => ⟨c0, n0, n1⟩) ?_
    clear hK K
    try simp only [Act.put, List.getElem_toArray, List.getElem_cons_succ, List.getElem_cons_zero, List.setIfInBounds_toArray, List.set_cons_zero, List.set_cons_succ]
    refine wpAnyU_one (i := 9) (by kernel_rfl) rfl (fun K hK => ?_)
    refine step_append_rl rfl (.tmp 12) (.tmp 20) 55 rfl V.heap.size 9 i0 (.string ⟨#[]⟩) 1 16 Tryd.underlying55 hi0 hz0 hz1 hz2 rfl (by decide) pv np xs rfl HO3.out (W2.heap.size + 1) (some ⟨W2.heap.size, 0, none⟩) 1 1 [.string (nm ++ ⟨#[61]⟩ ++ qv)] rfl (by simp) (rd_lab (cs := [.string (nm ++ ⟨#[61]⟩ ++ qv)]) NB.out) (by intro u hu; simp at hu; subst hu; rfl) (by unfold maxLen; omega) (by omega) (by omega) ?_
    intro A3 c3 W4 hown4 hg4
    have hrow := own_row1 HO3.out
    have hne : ∀ r, pv.ownBlock = some r → r ≠ w0.heap.size := fun r hr e => by
      have := (hrow r hr).1
      omega
    replace HPV : Hid (Blk W4 w0.heap.size 55 #[pv]) := HPV.out.grown hg4 (fun e => hne _ e.symm rfl)
    have hnb : ∀ r, pv.ownBlock = some r → r ≠ b := fun r hr e => by
      obtain ⟨_, c, fz, hc⟩ := hrow r hr
      subst e
      rw [show W3.heap[r]? = _ from HN.out] at hc
      injection hc with hc
      injection hc with _ hc
      exact absurd hc (by decide)
    replace HN : Hid (Blk W4 b 41 #[.string nm, .string vl]) := HN.out.grown hg4 (fun e => hnb _ e.symm rfl)
    have HO4 := Lib.hid hown4
    have HB4 : Hid (Below w.heap.size w W4) := HB3.out.grown hg4 (HB3.out.size) (fun r hr => by have := (hrow r hr).1; have := T.size; omega)
    replace KO := KO.trans (keeps_grow hg4 (fun k e => by obtain ⟨_, c, fz, hc⟩ := hrow k e; exact ⟨c, _, fz, hc⟩))
    replace KP : Hid (KeepP V.heap.size (fun i => i ≠ w0.heap.size) W W4) := keepP_t KP.out ⟨hg4.size, fun i hi _ => hg4.block i (by omega) (fun e => by have := (hrow i e.symm).1; omega)⟩
    clear hown4 hg4 hrow hne hnb c0 n0 n1 HO3 HB3 NB
    have c0 := HPV.out.one
    have n0 := HN.out.p0
    have n1 := HN.out.p1
    have fz := HPV.out.frozen 0
    refine hK.out _ _ (fun _ => ⟨c0, n0, n1⟩) ?_
    clear hK K
    try simp only [Act.put, List.getElem_toArray, List.getElem_cons_succ, List.getElem_cons_zero, List.setIfInBounds_toArray, List.set_cons_zero, List.set_cons_succ]
    refine wpAnyU_one (i := 10) (by kernel_rfl) rfl (fun K hK => ?_)
    go_simp
    refine hK.out _ _ (fun h => by cases h) ?_
    clear hK K
    try simp only [Act.put, List.getElem_toArray, List.getElem_cons_succ, List.getElem_cons_zero, List.setIfInBounds_toArray, List.set_cons_zero, List.set_cons_succ]
    refine wpAnyU_done (by kernel_rfl) ?_ _
    have hOW : (W4.setCell ⟨w0.heap.size, 0, none⟩ (.slice A3 (np + 1) c3)).ownsRow V.heap.size 9 1 (.slice A3 (np + 1) c3) (np + 1) (xs ++ [.string (nm ++ ⟨#[61]⟩ ++ qv)]) :=
      ownsRow_setCell_other HO4.out (a := ⟨w0.heap.size, 0, none⟩) (fun e => by have := (own_row1 HO4.out _ e).1; simp only at this; omega) _
    refine ⟨KO.trans (KeepsOthers.setCell _ _ _), keepP_t KP.out (keepP_set (by simp)), ⟨.slice A3 (np + 1) c3, HPV.out.set_ 0 _, ?_⟩, HB4.out.setCell (by show w.heap.size ≤ w0.heap.size; exact hw0) _⟩
    rw [HML.out, HMS.out, HPT.out]
    exact hOW
  case done =>
    rintro D ys W hD rfl ⟨⟨pv, hP, hO⟩, hb⟩ hK
    rw [mapL_all HZ.out] at hO
    have c0 := hP.one
    have hN0 : 0 < l.length := by omega
    obtain ⟨r, cap', rfl, hrl⟩ : ∃ r cap', pv = .slice (some ⟨r, 0, none⟩) l.length cap' ∧ l.length ≤ cap' := by
      obtain ⟨_, ⟨_, e⟩ | ⟨r, cap', cur, e1, _, _, e2, _⟩⟩ := hO
      · omega
      · exact ⟨r, cap', e1, e2⟩
    have QJ := Lib.hid (Tryd.strings_Join r 0 cap' (l.map partS) ⟨#[44]⟩ W (fun j x hj => by
        rw [Nat.zero_add, hO.cellAt j (by
          have := (List.getElem?_eq_some_iff.1 hj).1
          simpa using this)]
        simp only [partsV, List.getElem?_map, Option.map_eq_some_iff] at hj ⊢
        obtain ⟨y, h1, h2⟩ := hj
        exact ⟨y, h1, by rw [h2]⟩) (hO.lt r rfl).2 (by simp; omega) (by simp; omega) (text_le SZ2.out hl6))
    rw [List.length_map] at QJ
    have HK := Lib.hid hK
    have HB := Lib.hid hb
    clear hP hO hb hK
    go_wp2_with fail
    refine QJ.out.mono ?_
    rintro e W2 ⟨rfl, hb2⟩
    have HK2 : W2.heap[D]? = some (.deferred (some [])) := (hb2.block D (Array.getElem?_eq_some_iff.1 HK.out).1).trans HK.out
    go_wp2_with fail
    try rw [Exit.noGoto_ret]
    refine ⟨by simp, .inl ⟨_, _, rfl, run_takeDeferred HK2, ?_⟩⟩
    exact ⟨.tuple #[.string ⟨(textB l).toArray⟩, .int .i64 0], by simp [results, Tryd.results18, go_sem, textB], rfl, (Below.two HB.out hb2).trans (belowK_b (w := w) (Nat.le_refl _) _ D _ _ (by have := T.size; omega) HK2 rfl rfl)⟩
  case stop =>
    rintro D c pre W _ _ h _
    exact h.elim
theorem text_any (A : Option Addr) (l : List Lab) (cap : Nat) (hs : ∀ x ∈ l, (x.2).size ≤ 1000000) (w : World) (hT : Tb w) (hS : Lb w w.heap.size A l) :
    Calls Tryd.prog 18 #[.slice A l.length cap] w fun e w' => e = .returned (if setB l = true then .tuple #[.string ⟨(textB l).toArray⟩, .int .i64 0] else .tuple #[.string ⟨#[]⟩, .int .i64 40]) ∧ Below w.heap.size w w' := by
  cases hr : setB l with
  | true => rw [if_pos rfl]; exact callsIn_wide.1 (text_in A l cap hr hs w hT hS)
  | false =>
    rw [if_neg (by simp)]
    have QR := Lib.hid (right_any A l cap (fun x hx => by have := hs x hx; omega) w hT hS)
    rw [hr] at QR
    clear hS hT hr hs
    go_enter Tryd.func18, Tryd.ntmps18
    go_wp2_with fail
    refine QR.out.mono ?_
    rintro e w0 ⟨rfl, hb0⟩
    go_wp2_with fail
    go_ret2
    exact ⟨rfl, hb0⟩
end Go.Proofs.YtlcpigkgbihebaaDoor

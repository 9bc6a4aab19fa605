/-
  label.Parse.
-/
import Derived.Test.YtlcpigkgbihebaaDoorLabRead
namespace Go.Proofs.YtlcpigkgbihebaaDoor
open Go.RowKit
set_option linter.unusedVariables false
set_option linter.unusedSimpArgs false
/-- All labels are short. -/
def ShortL (l : List Lab) : Prop := ∀ x ∈ l, x.1.size ≤ 12 ∧ x.2.size ≤ 96
theorem ShortL.perm {l m : List Lab} (h : ShortL l) (p : m.Perm l) : ShortL m := fun x hx => h x (p.mem_iff.1 hx)
theorem plainF_l {s s' : RS} {d : Nat × Nat} (e : plainF s d = some s') : s'.l = s.l := by
  unfold plainF at e
  split at e <;> split at e <;> cases e <;> rfl
theorem endF_short {s s' : RS} (h : s.Ok) (hl : ShortL s.l) (e : endF s = some s') : ShortL s'.l := by
  obtain ⟨k1, k2, k3, k4, k5⟩ := h
  unfold endF at e
  split at e
  · split at e
    · cases e
      intro x hx
      rcases List.mem_append.1 hx with h | h
      · exact hl x h
      · rw [List.mem_singleton.1 h]; exact ⟨k1, by show s.vl.size ≤ 96; omega⟩
    · cases e
  · cases e
theorem stepF_short {s s' : RS} {d : Nat × Nat} (h : s.Ok) (hl : ShortL s.l) (e : stepF s d = some s') : ShortL s'.l := by
  unfold stepF at e
  split at e
  · rw [plainF_l e]; exact hl
  · split at e
    · unfold equalsF at e
      split at e
      · rw [plainF_l e]; exact hl
      · split at e
        · cases e
        · cases e; exact hl
    · split at e
      · exact endF_short h hl e
      · split at e
        · unfold quoteF at e
          split at e
          · cases e
          · cases e; exact hl
        · rw [plainF_l e]; exact hl
theorem runF_short : ∀ (l : List (Nat × Nat)) (s s' : RS), s.Ok → ShortL s.l → runF s l = some s' → s'.Ok ∧ ShortL s'.l
  | [], s, s', h, hl, e => by cases e; exact ⟨h, hl⟩
  | d :: l, s, s', h, hl, e => by
    rw [runF] at e
    cases hs : stepF s d with
    | none => rw [hs] at e; cases e
    | some s1 => rw [hs] at e; exact runF_short l s1 s' (stepF_ok h hs) (stepF_short h hl hs) e
theorem readF_some {t : List UInt8} {l : List Lab} (h : readF t = some l) : ShortL l ∧ 1 ≤ l.length ∧ l.length ≤ 6 := by
  unfold readF at h
  split at h
  · cases hr : runF RS.zero (cp t) with
    | none => rw [hr] at h; cases h
    | some s =>
      rw [hr] at h
      obtain ⟨hk, hl⟩ := runF_short _ _ _ zero_ok (fun x hx => by cases hx) hr
      cases he : endF s with
      | none => rw [show (some s).bind endF = endF s from rfl, he] at h; cases h
      | some s' =>
        rw [show (some s).bind endF = endF s from rfl, he] at h
        cases h
        refine ⟨endF_short hk hl he, ?_, (endF_ok hk he).l⟩
        unfold endF at he
        split at he
        · split at he
          · cases he; simp
          · cases he
        · cases he
  · cases h
/-- What Parse comes to. -/
def ParseIs (t : List UInt8) (r : Option (List Lab)) : Prop := match readF t with
  | none => r = none
  | some l => ∃ cur : List Lab, cur.Perm l ∧ Srt cur cur.length ∧ r = if setB cur = true then some cur else none
def ParseRet (w : World) (t : List UInt8) (e : Ending) (w' : World) : Prop :=
  Below w.heap.size w w' ∧ ∃ r, ParseIs t r ∧ (match r with
    | some cur => ∃ A cap, e = .returned (.tuple #[.slice A cur.length cap, .int .i64 0]) ∧ cur.length ≤ cap ∧ cap ≤ 9223372036854775807 ∧ Lb w' w'.heap.size A cur
    | none => e = .returned (.tuple #[.slice none 0 0, .int .i64 40]))
theorem ParseRet.no {w w' : World} {t : List UInt8} (h : ParseIs t none) (hb : Below w.heap.size w w') : ParseRet w t (.returned (.tuple #[.slice none 0 0, .int .i64 40])) w' := ⟨hb, none, h, rfl⟩
theorem errno_any (t : ByteArray) (w : World) : Calls Tryd.prog 27 #[.iface 64 (.agg #[.string t])] w fun e w' => e = .returned (.int .i64 40) ∧ Below w.heap.size w w' := by
  have ha : ∀ w, (Instr.typeAssert (.iface 64 (.agg #[.string t])) 43 64 true).run Tryd.prog w = .ok (.tuple #[.agg #[.string t], .bool true]) w := fun w => by kernel_rfl
  go_enter Tryd.func27, Tryd.ntmps27
  go_wp2_with fail
  go_ret
  exact ⟨rfl, below_al (below_0 _) _⟩
theorem own_lb {w : World} {B r n cap : Nat} {l : List Lab} (h : w.ownsRow B 41 2 (.slice (some ⟨r, 0, none⟩) n cap) n (flatL l)) : Lb w w.heap.size (some ⟨r, 0, none⟩) l := fun _ =>
  ⟨r, 0, rfl, (h.lt r rfl).2, fun j u hj => by
    rw [Nat.zero_add, h.cellAt j (by rw [← h.1]; exact (List.getElem?_eq_some_iff.1 hj).1)]
    exact hj⟩
theorem lb_len {l : List Lab} {n : Nat} {w : World} {B : Nat} {v : Value} (h : w.ownsRow B 41 2 v n (flatL l)) : l.length = n := by
  have := h.1
  rw [length_flatL] at this
  omega
set_option maxRecDepth 100000 in
set_option maxHeartbeats 1000000 in
theorem parse_any (s : ByteArray) (w : World) (hs : s.size ≤ 4294967296) (hT : Tb w) :
    Calls Tryd.prog 11 #[.string s] w (ParseRet w (tx s)) := by
  have Q := Lib.hid (read_any s w hs hT)
  have HT := Lib.hid hT
  clear hT
  cases hr : readF (tx s) with
  | none =>
    rw [hr] at Q
    have HP : Hid (ParseIs (tx s) none) := by show ParseIs _ _; unfold ParseIs; rw [hr]
    clear hr
    go_enter Tryd.func11, Tryd.ntmps11
    go_wp2_with fail
    refine Q.out.mono ?_
    rintro e w1 ⟨hb1, v, t, rfl⟩
    go_wp2_with fail
    refine (errno_any t _).mono ?_
    rintro e w2 ⟨rfl, hb2⟩
    go_wp2_with fail
    go_ret2
    exact ParseRet.no HP.out (Below.two hb1 hb2)
  | some l =>
    rw [hr] at Q
    have HL := readF_some hr
    have HSH := Lib.hid HL.1
    have hl1 := HL.2.1
    have hl6 := HL.2.2
    have HP : Hid (∀ cur : List Lab, cur.Perm l → Srt cur cur.length → ParseIs (tx s) (if setB cur = true then some cur else none)) := fun cur h1 h2 => by
      unfold ParseIs; rw [hr]; exact ⟨cur, h1, h2, rfl⟩
    clear hr HL
    go_enter Tryd.func11, Tryd.ntmps11
    go_wp2_with fail
    refine Q.out.mono ?_
    rintro e w1 ⟨hb1, lv, rfl, ho⟩
    obtain ⟨r, cap, rfl, hr1⟩ : ∃ r cap, lv = .slice (some ⟨r, 0, none⟩) l.length cap ∧ cap ≤ maxLen := by
      obtain ⟨_, ⟨_, e⟩ | ⟨r, cap, cur, e1, _, _, _, e2, _⟩⟩ := ho
      · omega
      · exact ⟨r, cap, e1, e2⟩
    have HS := Lib.hid (sortFunc_any w.heap.size r cap l (by omega) w1 ⟨List.Perm.refl _, ho, Below.refl _ _⟩)
    have HB1 := Lib.hid hb1
    clear ho hb1
    go_wp2_with fail
    refine HS.out.mono ?_
    rintro e w2 ⟨⟨v, rfl⟩, cur, ⟨hperm, hown, hbl⟩, hsrt⟩
    have HB2 : Hid (Below w.heap.size w w2) := HB1.out.trans hbl
    have HPC := Lib.hid (HP.out cur hperm hsrt)
    have hlc := hperm.length_eq
    have HCS := Lib.hid (HSH.out.perm hperm)
    have HCL : Hid (cur.length ≤ cap) := by
      obtain ⟨_, ⟨e, _⟩ | ⟨_, _, _, e, _, _, hle, _⟩⟩ := hown
      · cases e
      · injection e with _ _ e; rw [e]; exact hle
    have HLB := Lib.hid (own_lb hown)
    rw [← hlc]
    have QR := Lib.hid (right_any (some ⟨r, 0, none⟩) cur cap (fun x hx => by have := (HCS.out x hx).2; omega) w2 (HT.out.later HB2.out) HLB.out)
    clear hperm hown hbl hsrt hlc HP HS
    cases hb : setB cur with
    | true =>
      rw [hb] at QR HPC
      clear hb
      go_wp2_with fail
      refine QR.out.mono ?_
      rintro e w3 ⟨rfl, hb3⟩
      have HB3 := Lib.hid (Below.two HB2.out hb3)
      have HL3 := Lib.hid (ls_later HLB.out hb3)
      clear hb3
      go_wp2_with fail
      go_ret2
      exact ⟨HB3.out, some cur, HPC.out, some ⟨r, 0, none⟩, cap, rfl, HCL.out, by unfold maxLen at hr1; omega, HL3.out⟩
    | false =>
      rw [hb] at QR HPC
      clear hb
      go_wp2_with fail
      refine QR.out.mono ?_
      rintro e w3 ⟨rfl, hb3⟩
      go_wp2_with fail
      go_ret2
      exact ParseRet.no HPC.out (Below.two HB2.out hb3)
end Go.Proofs.YtlcpigkgbihebaaDoor

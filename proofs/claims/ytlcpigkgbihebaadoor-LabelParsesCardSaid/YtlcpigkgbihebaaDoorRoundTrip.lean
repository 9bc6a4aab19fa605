/-
  A set's text tells the set. No program in sight.
-/
import Derived.Test.YtlcpigkgbihebaaDoorLabShown
import Derived.Test.YtlcpigkgbihebaaDoorRunes2
import Derived.Lib.MapLaws
namespace Go.Proofs.YtlcpigkgbihebaaDoor
set_option linter.unusedVariables false
set_option linter.unusedSimpArgs false
abbrev Rn := Nat × Nat
def encL (d : Rn) : List UInt8 := Lib.encodeRune (d.1 : Int)
theorem dec_is (l : List UInt8) : Lib.decodeL l = decL l := Lib.decodeL_N l
theorem ok_not {d : Rn} (h : okR d = true) : ¬ (d.1 = 65533 ∧ d.2 = 1) := by
  intro e; simp [okR, e.1, e.2] at h
theorem enc_dec {l : List UInt8} (hne : l ≠ []) (ok : okR (decL l) = true) : encL (decL l) = l.take (decL l).2 := by
  have h := Lib.encode_decode l hne (by rw [dec_is]; exact ok_not ok)
  rw [dec_is] at h; exact h
theorem dec_take {l : List UInt8} (hne : l ≠ []) (ok : okR (decL l) = true) : decL (l.take (decL l).2) = decL l := by
  have hl : 0 < l.length := List.length_pos_iff.2 hne
  have hk := ok_not ok
  have k0 := (l.getD 0 0).toNat_lt
  unfold decL at hk ⊢
  rcases Lib.decodeN_shape l.length (l.getD 0 0).toNat (l.getD 1 0).toNat (l.getD 2 0).toNat (l.getD 3 0).toNat with ⟨c, e⟩ | ⟨c1, c2, c3, cv, e⟩ | ⟨c1, c2, c3, c4, cv, cs, e⟩ | ⟨c1, c2, c3, c4, c5, cv, cw, e⟩ | e
  · rw [e]; dsimp only; rw [Lib.takeA l hl]
    show Lib.decodeN 1 (l.getD 0 0).toNat 0 0 0 = _
    rw [Lib.decodeN, if_pos c]
  · rw [e]; dsimp only; rw [Lib.takeB l c2]
    show Lib.decodeN 2 (l.getD 0 0).toNat (l.getD 1 0).toNat 0 0 = _
    rw [Lib.decodeN, if_neg (by omega), if_pos ⟨c1, by omega, c3⟩, if_pos (by omega)]
  · rw [e]; dsimp only; rw [Lib.takeC l c2]
    show Lib.decodeN 3 (l.getD 0 0).toNat (l.getD 1 0).toNat (l.getD 2 0).toNat 0 = _
    rw [Lib.decodeN, if_neg (by omega), if_neg (by omega), if_pos ⟨c1, ⟨by omega, c3⟩, by omega, c4⟩, if_pos ⟨by omega, by omega⟩]
  · rw [e]; dsimp only; rw [Lib.takeD l c2]
    show Lib.decodeN 4 (l.getD 0 0).toNat (l.getD 1 0).toNat (l.getD 2 0).toNat (l.getD 3 0).toNat = _
    rw [Lib.decodeN, if_neg (by omega), if_neg (by omega), if_neg (by omega), if_pos ⟨c1, ⟨by omega, c3⟩, ⟨by omega, c4⟩, by omega, c5⟩, if_pos ⟨by omega, by omega⟩]
  · rw [e] at hk; exact absurd ⟨rfl, rfl⟩ hk
theorem dec_valid {l : List UInt8} (ok : okR (decL l) = true) : Utf8.valid ((decL l).1 : Int) = true := by
  have hk := ok_not ok
  have k0 := (l.getD 0 0).toNat_lt
  unfold decL at hk ⊢
  rcases Lib.decodeN_shape l.length (l.getD 0 0).toNat (l.getD 1 0).toNat (l.getD 2 0).toNat (l.getD 3 0).toNat with ⟨c, e⟩ | ⟨c1, c2, c3, cv, e⟩ | ⟨c1, c2, c3, c4, cv, cs, e⟩ | ⟨c1, c2, c3, c4, c5, cv, cw, e⟩ | e
  all_goals (rw [e] at hk ⊢; dsimp only at hk ⊢; simp only [Utf8.valid, Bool.or_eq_true, Bool.and_eq_true, decide_eq_true_eq])
  all_goals first | exact absurd ⟨rfl, rfl⟩ hk | omega
theorem byte_eq {n m : Nat} (h : n = m) : UInt8.ofNat n = m.toUInt8 := by rw [h]
theorem enc_eq {r : Nat} (h : Utf8.valid (r : Int) = true) : (Utf8.encode (r : Int)).data.toList = Lib.encodeRune (r : Int) := by
  have hv := h
  simp only [Utf8.valid, Bool.or_eq_true, Bool.and_eq_true, decide_eq_true_eq] at hv
  have hn : ((r : Int)).toNat = r := by omega
  unfold Utf8.encode Lib.encodeRune
  simp only [h, if_true, hn]
  by_cases h1 : r < 128
  · rw [if_pos h1, Lib.encodeRuneZ_one (by omega) (by omega)]
    simp only [List.map_cons, List.map_nil]
    rw [byte_eq (show r = ((r : Int)).toNat by omega)]
  rw [if_neg h1]
  by_cases h2 : r < 2048
  · rw [if_pos h2, Lib.encodeRuneZ_two (by omega) (by omega)]
    simp only [List.map_cons, List.map_nil]
    rw [byte_eq (show 192 + r / 64 = ((192 : Int) + (r : Int) / 64).toNat by omega), byte_eq (show 128 + r % 64 = ((128 : Int) + (r : Int) % 64).toNat by omega)]
  rw [if_neg h2]
  by_cases h3 : r < 65536
  · rw [if_pos h3, Lib.encodeRuneZ_three (by omega)]
    simp only [List.map_cons, List.map_nil]
    rw [byte_eq (show 224 + r / 4096 = ((224 : Int) + (r : Int) / 4096).toNat by omega), byte_eq (show 128 + r / 64 % 64 = ((128 : Int) + (r : Int) / 64 % 64).toNat by omega), byte_eq (show 128 + r % 64 = ((128 : Int) + (r : Int) % 64).toNat by omega)]
  · rw [if_neg h3, Lib.encodeRuneZ_four (by omega) (by omega)]
    simp only [List.map_cons, List.map_nil]
    rw [byte_eq (show 240 + r / 262144 = ((240 : Int) + (r : Int) / 262144).toNat by omega), byte_eq (show 128 + r / 4096 % 64 = ((128 : Int) + (r : Int) / 4096 % 64).toNat by omega), byte_eq (show 128 + r / 64 % 64 = ((128 : Int) + (r : Int) / 64 % 64).toNat by omega), byte_eq (show 128 + r % 64 = ((128 : Int) + (r : Int) % 64).toNat by omega)]
/-- A rune as a right text tells it. -/
structure Good (d : Rn) : Prop where
  ok : okR d = true
  cp_ : ∀ rest, cp (encL d ++ rest) = d :: cp rest
  enc : tx (encR d) = encL d
set_option maxRecDepth 100000 in
theorem encR_is {d : Rn} (h : Utf8.valid (d.1 : Int) = true) : tx (encR d) = encL d := by
  unfold encR encL tx
  exact enc_eq h
set_option maxRecDepth 100000 in
theorem good_dec {l : List UInt8} (hne : l ≠ []) (ok : okR (decL l) = true) : Good (decL l) := by
  obtain ⟨_, hp, _, hle⟩ := decL_bd l
  have hle := hle hne
  have hlen : (l.take (decL l).2).length = (decL l).2 := by rw [List.length_take]; omega
  have hne2 : l.take (decL l).2 ≠ [] := by intro e; rw [e] at hlen; simp at hlen; omega
  refine ⟨ok, fun rest => ?_, encR_is (dec_valid ok)⟩
  have hd : decL (l.take (decL l).2 ++ rest) = decL l := by
    rw [dec_ok_append rest hne2 (by rw [dec_take hne ok]; exact ok), dec_take hne ok]
  rw [enc_dec hne ok, cp_cons (by intro e; exact hne2 (List.append_eq_nil_iff.1 e).1), hd, List.drop_append, hlen, List.drop_of_length_le (by omega), Nat.sub_self]
  rfl
theorem good_all : ∀ (n : Nat) (t : List UInt8), t.length ≤ n → validL t = true → (∀ d ∈ cp t, Good d) ∧ (cp t).flatMap encL = t
  | 0, t, h, _ => by
    have : t = [] := List.eq_nil_of_length_eq_zero (by omega)
    subst this
    exact ⟨fun d hd => by simp [cp_nil] at hd, rfl⟩
  | n + 1, t, h, hv => by
    by_cases hne : t = []
    · subst hne; exact ⟨fun d hd => by simp [cp_nil] at hd, rfl⟩
    rw [valid_cons hne, Bool.and_eq_true] at hv
    obtain ⟨_, hp, _, hle⟩ := decL_bd t
    obtain ⟨h1, h2⟩ := good_all n (t.drop (decL t).2) (by rw [List.length_drop]; omega) hv.2
    rw [cp_cons hne]
    refine ⟨fun d hd => ?_, ?_⟩
    · rcases List.mem_cons.1 hd with rfl | hd
      · exact good_dec hne hv.1
      · exact h1 d hd
    · rw [List.flatMap_cons, h2, enc_dec hne hv.1, List.take_append_drop]
theorem good_is {t : List UInt8} (h : validL t = true) : (∀ d ∈ cp t, Good d) ∧ (cp t).flatMap encL = t := good_all t.length t (Nat.le_refl _) h
theorem good_61 : Good (61, 1) := good_dec (l := [61]) (by simp) (by decide +kernel)
theorem good_44 : Good (44, 1) := good_dec (l := [44]) (by simp) (by decide +kernel)
theorem good_92 : Good (92, 1) := good_dec (l := [92]) (by simp) (by decide +kernel)
theorem enc_61 : encL (61, 1) = [61] := by decide +kernel
theorem enc_44 : encL (44, 1) = [44] := by decide +kernel
theorem enc_92 : encL (92, 1) = [92] := by decide +kernel
theorem cp_goods : ∀ ds : List Rn, (∀ d ∈ ds, Good d) → ∀ rest, cp (ds.flatMap encL ++ rest) = ds ++ cp rest
  | [], _, _ => rfl
  | d :: ds, h, rest => by
    rw [List.flatMap_cons, List.append_assoc, (h d (List.mem_cons_self)).cp_, cp_goods ds (fun x hx => h x (List.mem_cons_of_mem _ hx)) rest]; rfl
theorem cp_good {ds : List Rn} (h : ∀ d ∈ ds, Good d) : cp (ds.flatMap encL) = ds := by
  have := cp_goods ds h []
  rw [List.append_nil, cp_nil, List.append_nil] at this; exact this
theorem valid_good {ds : List Rn} (h : ∀ d ∈ ds, Good d) : validL (ds.flatMap encL) = true := by
  unfold validL; rw [cp_good h, List.all_eq_true]; exact fun d hd => (h d hd).ok
def quoC (d : Rn) : List Rn := if d.1 = 44 ∨ d.1 = 92 then [(92, 1), d] else [d]
theorem quoC_enc (d : Rn) : (quoC d).flatMap encL = quoR d := by
  unfold quoC quoR
  split
  · rw [List.flatMap_cons, List.flatMap_cons, List.flatMap_nil, List.append_nil, enc_92]; rfl
  · rw [List.flatMap_cons, List.flatMap_nil, List.append_nil]; rfl
theorem quoC_good {d e : Rn} (h : Good d) (he : e ∈ quoC d) : Good e := by
  unfold quoC at he
  split at he
  · simp at he; rcases he with rfl | rfl
    · exact good_92
    · exact h
  · simp at he; subst he; exact h
/-- What a label's text tells, rune by rune. -/
def partR (x : Lab) : List Rn := cp (tx x.1) ++ (61, 1) :: (cp (tx x.2)).flatMap quoC
theorem name_valid {t : List UInt8} (h : nameB t = true) : validL t = true := by
  unfold nameB at h
  rw [Bool.and_eq_true] at h
  unfold validL
  rw [List.all_eq_true] at h ⊢
  intro d hd
  have := h.2 d hd
  simp [nameRune] at this
  simp [okR]; omega
theorem value_valid {t : List UInt8} (h : valueB t = true) : validL t = true := by
  unfold valueB at h
  rw [Bool.and_eq_true, Bool.and_eq_true] at h
  exact h.1.1
theorem part_good {x : Lab} (hn : nameB (tx x.1) = true) (hv : valueB (tx x.2) = true) : (∀ d ∈ partR x, Good d) ∧ (partR x).flatMap encL = tx (partS x) := by
  obtain ⟨g1, e1⟩ := good_is (name_valid hn)
  obtain ⟨g2, e2⟩ := good_is (value_valid hv)
  constructor
  · intro d hd
    unfold partR at hd
    rcases List.mem_append.1 hd with hd | hd
    · exact g1 d hd
    · rcases List.mem_cons.1 hd with rfl | hd
      · exact good_61
      · obtain ⟨c, hc, hd⟩ := List.mem_flatMap.1 hd
        exact quoC_good (g2 c hc) hd
  · unfold partR partS
    rw [List.flatMap_append, e1, List.flatMap_cons, enc_61, List.flatMap_assoc]
    have : (fun x => List.flatMap encL (quoC x)) = quoR := funext quoC_enc
    rw [this]
    show _ = (x.1 ++ ⟨#[61]⟩ ++ ⟨(quoB (tx x.2)).toArray⟩ : ByteArray).data.toList
    rw [ByteArray.data_append, ByteArray.data_append, Array.toList_append, Array.toList_append, List.append_assoc]
    rfl
/-- What a text of labels tells, rune by rune. -/
def textR : List Lab → List Rn
  | [] => []
  | x :: r => partR x ++ r.flatMap fun y => (44, 1) :: partR y
theorem text_good : ∀ l : List Lab, (∀ x ∈ l, nameB (tx x.1) = true ∧ valueB (tx x.2) = true) → (∀ d ∈ textR l, Good d) ∧ (textR l).flatMap encL = textB l
  | [], _ => ⟨fun d hd => by simp [textR] at hd, rfl⟩
  | x :: r, h => by
    obtain ⟨g1, e1⟩ := part_good (h x List.mem_cons_self).1 (h x List.mem_cons_self).2
    have h' : ∀ y ∈ r, nameB (tx y.1) = true ∧ valueB (tx y.2) = true := fun y hy => h y (List.mem_cons_of_mem _ hy)
    constructor
    · intro d hd
      unfold textR at hd
      rcases List.mem_append.1 hd with hd | hd
      · exact g1 d hd
      · obtain ⟨y, hy, hd⟩ := List.mem_flatMap.1 hd
        rcases List.mem_cons.1 hd with rfl | hd
        · exact good_44
        · exact (part_good (h' y hy).1 (h' y hy).2).1 d hd
    · unfold textR textB
      rw [List.map_cons, List.map_cons, Lib.join_cons, List.flatMap_append, e1]
      congr 1
      rw [Lib.joinTail]
      clear g1 e1 h
      induction r with
      | nil => rfl
      | cons y r ih =>
        have e := (part_good (h' y List.mem_cons_self).1 (h' y List.mem_cons_self).2).2
        rw [List.flatMap_cons, List.flatMap_append, List.flatMap_cons, enc_44, e, ih (fun z hz => h' z (List.mem_cons_of_mem _ hz))]
        rfl
/-! ### The reader over such runes -/
set_option maxRecDepth 100000 in
theorem run_name : ∀ (ds : List Rn) (s : RS), s.place = 0 → (∀ d ∈ ds, nameRune d = true ∧ Good d) → s.nm.size + ds.length ≤ 12 → ∃ nm', runF s ds = some { s with nm := nm' } ∧ tx nm' = tx s.nm ++ ds.flatMap encL
  | [], s, _, _, _ => ⟨s.nm, rfl, by simp⟩
  | d :: ds, s, hp, h, hl => by
    obtain ⟨hn, hg⟩ := h d List.mem_cons_self
    have hn' := hn
    simp [nameRune] at hn'
    rw [List.length_cons] at hl
    have hs : stepF s d = some { s with nm := s.nm ++ encR d } := by
      rw [stepF, if_neg (by omega), if_neg (by omega), if_neg (by omega), if_neg (by omega), plainF, if_pos hp, if_pos ⟨hn, by omega⟩]
    obtain ⟨nm', e1, e2⟩ := run_name ds { s with nm := s.nm ++ encR d } hp (fun x hx => h x (List.mem_cons_of_mem _ hx)) (by
      show (s.nm ++ encR d).size + ds.length ≤ 12
      rw [ByteArray.size_append, encR_name hn]; omega)
    refine ⟨nm', ?_, ?_⟩
    · rw [runF, hs]; exact e1
    · rw [e2]
      show tx (s.nm ++ encR d) ++ _ = _
      rw [show tx (s.nm ++ encR d) = tx s.nm ++ tx (encR d) from by show (s.nm ++ encR d).data.toList = _; rw [ByteArray.data_append, Array.toList_append]; rfl, hg.enc, List.flatMap_cons, List.append_assoc]
set_option maxRecDepth 100000 in
theorem run_val : ∀ (ds : List Rn) (s : RS), s.place = 1 → (∀ d ∈ ds, valueRune d = true ∧ Good d) → s.runes + ds.length ≤ 24 → ∃ vl', runF s (ds.flatMap quoC) = some { s with vl := vl', runes := s.runes + ds.length } ∧ tx vl' = tx s.vl ++ ds.flatMap encL
  | [], s, _, _, _ => ⟨s.vl, by simp [runF], by simp⟩
  | d :: ds, s, hp, h, hl => by
    obtain ⟨hn, hg⟩ := h d List.mem_cons_self
    rw [List.length_cons] at hl
    have hpl : ∀ q : RS, q.place = 1 → q.runes = s.runes → plainF q d = some { q with vl := q.vl ++ encR d, runes := q.runes + 1 } := fun q hq hr => by
      rw [plainF, if_neg (by omega), if_pos ⟨hn, by omega⟩]
    have hs : runF s (quoC d) = some { s with vl := s.vl ++ encR d, runes := s.runes + 1 } := by
      unfold quoC
      split
      · rename_i hc
        have s1 : stepF s (92, 1) = some { s with place := 2 } := by
          rw [stepF, if_neg (by omega), if_neg (by simp), if_neg (by simp), if_pos rfl, quoteF, if_neg (by omega)]
        have s2 : stepF { s with place := 2 } d = some { s with vl := s.vl ++ encR d, runes := s.runes + 1 } := by
          rw [stepF, if_pos rfl]
          show plainF { s with place := 1 } d = _
          rw [hpl { s with place := 1 } rfl rfl]
          obtain ⟨a, b, c, e, f⟩ := s
          simp only at hp
          subst hp; rfl
        rw [runF, s1]
        show runF { s with place := 2 } [d] = _
        rw [runF, s2]; rfl
      · rename_i hc
        rw [not_or] at hc
        have s1 : stepF s d = some { s with vl := s.vl ++ encR d, runes := s.runes + 1 } := by
          rw [stepF, if_neg (by omega)]
          by_cases h61 : d.1 = 61
          · rw [if_pos h61, equalsF, if_pos hp, hpl s hp rfl]
          · rw [if_neg h61, if_neg hc.1, if_neg hc.2, hpl s hp rfl]
        rw [runF, s1]; rfl
    obtain ⟨vl', e1, e2⟩ := run_val ds { s with vl := s.vl ++ encR d, runes := s.runes + 1 } hp (fun x hx => h x (List.mem_cons_of_mem _ hx)) (by
      show s.runes + 1 + (ds.length : Int) ≤ 24
      omega)
    refine ⟨vl', ?_, ?_⟩
    · rw [List.flatMap_cons, runF_append, hs]
      show runF _ _ = _
      rw [e1]
      show some _ = some _
      congr 2
      rw [List.length_cons]
      show s.runes + 1 + (ds.length : Int) = s.runes + ((ds.length + 1 : Nat) : Int)
      omega
    · rw [e2]
      show tx (s.vl ++ encR d) ++ _ = _
      rw [show tx (s.vl ++ encR d) = tx s.vl ++ tx (encR d) from by show (s.vl ++ encR d).data.toList = _; rw [ByteArray.data_append, Array.toList_append]; rfl, hg.enc, List.flatMap_cons, List.append_assoc]
set_option maxRecDepth 100000 in
theorem run_part {x : Lab} (hn : nameB (tx x.1) = true) (hv : valueB (tx x.2) = true) (acc : List Lab) : ∃ k, runF ⟨⟨#[]⟩, ⟨#[]⟩, 0, 0, acc⟩ (partR x) = some ⟨x.1, x.2, 1, k, acc⟩ := by
  obtain ⟨g1, e1⟩ := good_is (name_valid hn)
  obtain ⟨g2, e2⟩ := good_is (value_valid hv)
  have hn' := hn
  unfold nameB at hn'
  simp only [Bool.and_eq_true, List.all_eq_true, decide_eq_true_eq, Bool.not_eq_true', beq_eq_false_iff_ne] at hn'
  have hv' := hv
  unfold valueB at hv'
  simp only [Bool.and_eq_true, List.all_eq_true, decide_eq_true_eq] at hv'
  obtain ⟨nm', r1, t1⟩ := run_name (cp (tx x.1)) ⟨⟨#[]⟩, ⟨#[]⟩, 0, 0, acc⟩ rfl (fun d hd => ⟨hn'.2 d hd, g1 d hd⟩) (by
    have := cp_length (tx x.1)
    show 0 + _ ≤ 12
    omega)
  have en : nm' = x.1 := tx_inj (by rw [t1, e1]; rfl)
  subst en
  have s1 : stepF ⟨x.1, ⟨#[]⟩, 0, 0, acc⟩ (61, 1) = some ⟨x.1, ⟨#[]⟩, 1, 0, acc⟩ := by
    rw [stepF, if_neg (by simp), if_pos rfl, equalsF, if_neg (by simp), if_neg hn'.1.1]
  obtain ⟨vl', r2, t2⟩ := run_val (cp (tx x.2)) ⟨x.1, ⟨#[]⟩, 1, 0, acc⟩ rfl (fun d hd => ⟨hv'.2 d hd, g2 d hd⟩) (by
    show (0 : Int) + ((cp (tx x.2)).length : Int) ≤ 24
    have := hv'.1.2
    omega)
  have ev : vl' = x.2 := tx_inj (by rw [t2, e2]; rfl)
  subst ev
  refine ⟨0 + ((cp (tx x.2)).length : Int), ?_⟩
  unfold partR
  rw [runF_append, r1]
  show runF _ _ = _
  rw [runF, s1]
  exact r2
set_option maxRecDepth 100000 in
theorem run_rest : ∀ (r : List Lab), (∀ x ∈ r, nameB (tx x.1) = true ∧ valueB (tx x.2) = true) → ∀ (nm vl : ByteArray) (k : Int) (acc : List Lab), acc.length + 1 + r.length ≤ 6 →
    ((runF ⟨nm, vl, 1, k, acc⟩ (r.flatMap fun y => (44, 1) :: partR y)).bind endF).map (·.l) = some (acc ++ (nm, vl) :: r)
  | [], _, nm, vl, k, acc, hl => by
    simp only [List.length_nil] at hl
    rw [List.flatMap_nil, runF]
    show (endF _).map _ = _
    rw [endF, if_pos rfl, if_pos (by show acc.length < 6; omega)]
    rfl
  | y :: r, h, nm, vl, k, acc, hl => by
    rw [List.length_cons] at hl
    obtain ⟨k', hp⟩ := run_part (h y List.mem_cons_self).1 (h y List.mem_cons_self).2 (acc ++ [(nm, vl)])
    have s1 : stepF ⟨nm, vl, 1, k, acc⟩ (44, 1) = some ⟨⟨#[]⟩, ⟨#[]⟩, 0, 0, acc ++ [(nm, vl)]⟩ := by
      rw [stepF, if_neg (by simp), if_neg (by simp), if_pos rfl, endF, if_pos rfl, if_pos (by show acc.length < 6; omega)]
    have := run_rest r (fun x hx => h x (List.mem_cons_of_mem _ hx)) y.1 y.2 k' (acc ++ [(nm, vl)]) (by rw [List.length_append, List.length_singleton]; omega)
    rw [List.flatMap_cons, List.cons_append, runF, s1]
    show ((runF _ _).bind endF).map _ = _
    rw [runF_append, hp]
    show ((runF _ _).bind endF).map _ = _
    rw [this, List.append_assoc]
    rfl
/-- A TEXT OF RIGHT LABELS TELLS THEM, as they stand in it. -/
theorem read_text {l : List Lab} (h : ∀ x ∈ l, nameB (tx x.1) = true ∧ valueB (tx x.2) = true) (h1 : 1 ≤ l.length) (h6 : l.length ≤ 6) : readF (textB l) = some l := by
  cases l with
  | nil => simp at h1
  | cons x r =>
    obtain ⟨g, e⟩ := text_good (x :: r) h
    obtain ⟨k, hp⟩ := run_part (h x List.mem_cons_self).1 (h x List.mem_cons_self).2 []
    rw [readF, ← e, if_pos (valid_good g), cp_good g, textR, runF_append]
    rw [List.length_cons] at h6
    have hr := run_rest r (fun y hy => h y (List.mem_cons_of_mem _ hy)) x.1 x.2 k [] (by simp; omega)
    show (((runF ⟨⟨#[]⟩, ⟨#[]⟩, 0, 0, []⟩ (partR x)).bind fun s' => runF s' _).bind endF).map _ = _
    rw [hp]
    exact hr
theorem parse_text {l : List Lab} {r : Option (List Lab)} (hs : setB l = true) (h : ParseIs (textB l) r) : r = some l := by
  have h' := hs
  unfold setB at h'
  simp only [Bool.and_eq_true, decide_eq_true_eq] at h'
  exact parse_some h (read_text (setB_all hs) h'.1.1 h'.1.2) (List.Perm.refl l) hs
end Go.Proofs.YtlcpigkgbihebaaDoor

/-
  A right text's quoted form, byte by byte. No program in sight.
-/
import Derived.Test.YtlcpigkgbihebaaDoorLabRef6
import Derived.Test.YtlcpigkgbihebaaDoorLabelTurns
namespace Go.Proofs.YtlcpigkgbihebaaDoor
open Go.RowKit Go.PlainAid
set_option linter.unusedVariables false
set_option linter.unusedSimpArgs false
/-- A byte, quoted. -/
def quoY (b : UInt8) : List UInt8 := if b = 44 ∨ b = 92 then [92, b] else [b]
theorem flat_high : ∀ l : List UInt8, (∀ b ∈ l, 128 ≤ b.toNat) → l.flatMap quoY = l
  | [], _ => rfl
  | b :: l, h => by
    have hb := h b List.mem_cons_self
    rw [List.flatMap_cons, flat_high l (fun c hc => h c (List.mem_cons_of_mem _ hc)), quoY, if_neg (by rintro (e | e) <;> (rw [e] at hb; revert hb; decide))]
    rfl
theorem take_high {l : List UInt8} (hne : l ≠ []) (hok : okR (decL l) = true) (hb : ¬ (l.getD 0 0).toNat < 128) : ∀ b ∈ l.take (decL l).2, 128 ≤ b.toNat := by
  have hl : 0 < l.length := List.length_pos_iff.2 hne
  have hk := ok_not hok
  unfold decL at hk ⊢
  rcases Lib.decodeN_shape l.length (l.getD 0 0).toNat (l.getD 1 0).toNat (l.getD 2 0).toNat (l.getD 3 0).toNat with ⟨c, e⟩ | ⟨c1, c2, c3, cv, e⟩ | ⟨c1, c2, c3, c4, cv, cs, e⟩ | ⟨c1, c2, c3, c4, c5, cv, cw, e⟩ | e
  · exact absurd c hb
  · rw [e]; dsimp only; rw [Lib.takeB l c2]
    intro b h; simp only [List.mem_cons, List.not_mem_nil, or_false] at h; rcases h with rfl | rfl <;> omega
  · rw [e]; dsimp only; rw [Lib.takeC l c2]
    intro b h; simp only [List.mem_cons, List.not_mem_nil, or_false] at h; rcases h with rfl | rfl | rfl <;> omega
  · rw [e]; dsimp only; rw [Lib.takeD l c2]
    intro b h; simp only [List.mem_cons, List.not_mem_nil, or_false] at h; rcases h with rfl | rfl | rfl | rfl <;> omega
  · rw [e] at hk; exact absurd ⟨rfl, rfl⟩ hk
theorem quo_bytes : ∀ (n : Nat) (l : List UInt8), l.length ≤ n → validL l = true → quoB l = l.flatMap quoY
  | 0, l, h, _ => by rw [List.eq_nil_of_length_eq_zero (show l.length = 0 by omega)]; rfl
  | n + 1, [], _, _ => rfl
  | n + 1, b :: l, h, hv => by
    have hne : b :: l ≠ [] := by simp
    rw [valid_cons hne, Bool.and_eq_true] at hv
    obtain ⟨_, hd1, _, hd3⟩ := decL_bd (b :: l)
    have ih := quo_bytes n ((b :: l).drop (decL (b :: l)).2) (by rw [List.length_drop]; simp only [List.length_cons] at h ⊢; omega) hv.2
    have hs : (b :: l).flatMap quoY = ((b :: l).take (decL (b :: l)).2).flatMap quoY ++ ((b :: l).drop (decL (b :: l)).2).flatMap quoY := by
      rw [← List.flatMap_append, List.take_append_drop]
    rw [hs, ← ih]
    unfold quoB
    rw [cp_cons hne, List.flatMap_cons]
    congr 1
    show (if _ then [92] else []) ++ encL (decL (b :: l)) = _
    rw [enc_dec hne hv.1]
    by_cases hb : b.toNat < 128
    · have e : decL (b :: l) = (b.toNat, 1) := dec_low hb
      rw [e]
      show (if b.toNat = 44 ∨ b.toNat = 92 then [92] else []) ++ [b] = quoY b ++ []
      have i1 : b.toNat = 44 ↔ b = 44 := ⟨fun h => UInt8.toNat_inj.1 h, fun h => by rw [h]; rfl⟩
      have i2 : b.toNat = 92 ↔ b = 92 := ⟨fun h => UInt8.toNat_inj.1 h, fun h => by rw [h]; rfl⟩
      simp only [i1, i2, quoY]
      split <;> rfl
    · have e := dec_high (l := b :: l) hb
      rw [if_neg (by omega), flat_high _ (take_high hne hv.1 hb)]
      rfl
theorem text_snoc (l : List Lab) (x : Lab) : textB (l ++ [x]) = (if l = [] then [] else textB l ++ [44]) ++ tx (partS x) := by
  cases l with
  | nil => rw [if_pos rfl]; exact text_one x
  | cons y r =>
    rw [if_neg (by simp)]
    unfold textB
    rw [List.cons_append, List.map_cons, List.map_cons, Lib.join_cons, List.map_cons, List.map_cons, Lib.join_cons]
    simp only [Lib.joinTail, List.map_append, List.map_cons, List.map_nil, List.flatten_append, List.flatten_cons, List.flatten_nil, List.append_nil, List.append_assoc]
    rfl
theorem quo_len (l : List UInt8) : (l.flatMap quoY).length ≤ 2 * l.length := by
  induction l with
  | nil => simp
  | cons b l ih =>
    rw [List.flatMap_cons, List.length_append, List.length_cons]
    have : (quoY b).length ≤ 2 := by unfold quoY; split <;> simp
    omega
theorem flat_take_succ {l : List UInt8} {k : Nat} (h : k < l.length) : (l.take (k + 1)).flatMap quoY = (l.take k).flatMap quoY ++ quoY ((l[k]?).getD 0) := by
  rw [List.take_succ_eq_append_getElem h, List.flatMap_append, List.getElem?_eq_getElem h]
  simp
theorem ext_one {s : ByteArray} {k : Nat} (h : k < s.size) : tx (s.extract k (k + 1)) = [((tx s)[k]?).getD 0] := by
  have h' : k < (tx s).length := by rw [tx_len]; exact h
  show (s.extract k (k + 1)).data.toList = _
  rw [Lib.extract_data]
  show ((tx s).drop k).take (k + 1 - k) = _
  rw [List.drop_eq_getElem_cons h', show k + 1 - k = 1 by omega, List.getElem?_eq_getElem h']
  rfl
theorem tx_one (b : UInt8) : tx ⟨#[b]⟩ = [b] := rfl
theorem part_tx {x : Lab} (hv : valueB (tx x.2) = true) : tx (partS x) = tx x.1 ++ [61] ++ (tx x.2).flatMap quoY := by
  unfold partS
  rw [tx_append, tx_append, tx_mk, quo_bytes _ _ (Nat.le_refl _) (value_valid hv)]
  rfl
theorem size_tx {s : ByteArray} : s.size = (tx s).length := (tx_len s).symm
end Go.Proofs.YtlcpigkgbihebaaDoor

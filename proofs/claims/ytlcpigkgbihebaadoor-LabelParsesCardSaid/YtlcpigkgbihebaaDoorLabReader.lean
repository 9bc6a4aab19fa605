/-
  The reader of labels: what it holds; a new one.
-/
import Derived.Test.YtlcpigkgbihebaaDoorLabRight
import Derived.MapKept
import Derived.Maps.OwnOps
import Derived.Laws.EntriesVeiled
namespace Go.Proofs.YtlcpigkgbihebaaDoor
open Go.RowKit
set_option linter.unusedVariables false
set_option linter.unusedSimpArgs false
theorem run_upd {P : Program} {w : World} {m : Nat} {es : Array MapEntry} {clock : Nat} {T kt et : TypeId} {c : Int} {v : Value} (hm : w.heap[m]? = some (.map es clock)) (hk : P.underlying T = some (.map kt et)) (hd : P.underlying kt = some (.int .i32)) (hf : Instr.findNow (.int .i32) (.int .i32 c) es.toList 0 = some none) :
    (Instr.mapUpdate T (.map (some m)) (.int .i32 c) v).run P w = .ok () (w.putObj m (.map (es.push { key := .int .i32 c, val := v, born := clock }) (clock + 1))) := by
  have h1 := Go.MapKept.run_checkKey (w := w) hd (k := .int .i32 c) rfl false 9999
  have h2 := Go.MapKept.run_findKey (w := w) hd hf
  simp only [Instr.mapUpdate, Sem.run_bind, run_underlying hk, Result.andThen, getObj, Sem.run, hm, h1, h2, setObj]
  rfl
theorem run_upd_new {P : Program} {W : World} {m : Nat} {es : Array MapEntry} {clock : Nat} {T kt et : TypeId} {c : Int} {v : Value} (hm : W.heap.size = m) (hk : P.underlying T = some (.map kt et)) (hd : P.underlying kt = some (.int .i32)) (hf : Instr.findNow (.int .i32) (.int .i32 c) es.toList 0 = some none) :
    (Instr.mapUpdate T (.map (some m)) (.int .i32 c) v).run P (W.alloc (.map es clock)) = .ok () (W.alloc (.map (es.push { key := .int .i32 c, val := v, born := clock }) (clock + 1))) := by
  subst hm
  rw [run_upd (World.alloc_heap_new _ _) hk hd hf]
  congr 1
  simp only [World.putObj, World.alloc]
  congr 1
  apply Array.ext'
  simp [Array.setIfInBounds, Array.toList_push]
theorem run_look {P : Program} {w : World} {m : Nat} {es : Array MapEntry} {clock : Nat} {T kt et : TypeId} {c : Int} {i : Nat} {v : Value} (hm : w.heap[m]? = some (.map es clock)) (hk : P.underlying T = some (.map kt et)) (hd : P.underlying kt = some (.int .i32)) (hf : Instr.findNow (.int .i32) (.int .i32 c) es.toList 0 = some (some (i, v))) :
    (Instr.lookup T (.map (some m)) (.int .i32 c) true).run P w = .ok (.tuple #[v, .bool true]) w := by
  have h1 : (Instr.checkKey es.isEmpty 10000 kt (.int .i32 c)).run P w = .ok () w := Go.MapKept.run_checkKey (w := w) hd (k := .int .i32 c) rfl es.isEmpty 9999
  have h2 := Go.MapKept.run_findKey (w := w) hd hf
  simp only [Instr.lookup, Sem.run_bind, run_underlying hk, Result.andThen, getObj, Sem.run, hm, Sem.run_pure, h1, h2]
  rfl
theorem run_look_none {P : Program} {w : World} {m : Nat} {es : Array MapEntry} {clock : Nat} {T kt et : TypeId} {c : Int} {z : Value} (hm : w.heap[m]? = some (.map es clock)) (hk : P.underlying T = some (.map kt et)) (hd : P.underlying kt = some (.int .i32)) (hf : Instr.findNow (.int .i32) (.int .i32 c) es.toList 0 = some none) (hz : (zeroValue et).run P w = .ok z w) :
    (Instr.lookup T (.map (some m)) (.int .i32 c) true).run P w = .ok (.tuple #[z, .bool false]) w := by
  have h1 : (Instr.checkKey es.isEmpty 10000 kt (.int .i32 c)).run P w = .ok () w := Go.MapKept.run_checkKey (w := w) hd (k := .int .i32 c) rfl es.isEmpty 9999
  have h2 := Go.MapKept.run_findKey (w := w) hd hf
  simp only [Instr.lookup, Sem.run_bind, run_underlying hk, Result.andThen, getObj, Sem.run, hm, Sem.run_pure, h1, h2, hz]
  rfl
/-- What a new reader's map holds. -/
def doesO (g : Nat) : Array MapEntry := #[{ key := .int .i32 61, val := .func (.func 59) #[.pointer (some ⟨g, 0, none⟩)] #[], born := 0 }, { key := .int .i32 44, val := .func (.func 60) #[.pointer (some ⟨g, 0, none⟩)] #[], born := 1 }, { key := .int .i32 92, val := .func (.func 61) #[.pointer (some ⟨g, 0, none⟩)] #[], born := 2 }]
/-- A reader at work. -/
structure RS where
  nm : ByteArray
  vl : ByteArray
  place : Int
  runes : Int
  l : List Lab
def RS.zero : RS := ⟨⟨#[]⟩, ⟨#[]⟩, 0, 0, []⟩
def RdAt (B g m : Nat) (s : RS) (W : World) : Prop :=
  B ≤ g ∧ B ≤ m ∧ W.heap[m]? = some (.map (doesO g) 3) ∧ ∃ lv, Blk W g 71 #[.string s.nm, .string s.vl, .int .i64 s.place, .int .i64 s.runes, lv, .map (some m)] ∧ W.ownsRow B 41 2 lv s.l.length (flatL s.l)
theorem newReader_any (w : World) : Calls Tryd.prog 43 #[] w fun e w' => e = .returned (.pointer (some ⟨w.heap.size, 0, none⟩)) ∧ RdAt w.heap.size w.heap.size (w.heap.size + 1) RS.zero w' ∧ Below w.heap.size w w' := by
  have hs : (w.alloc (.cells #[.string ⟨#[]⟩, .string ⟨#[]⟩, .int .i64 0, .int .i64 0, .slice none 0 0, .map none] 71)).heap.size = w.heap.size + 1 := by simp
  have q1 := fun v => run_upd_new (P := Tryd.prog) (T := 69) (c := 61) (v := v) (es := #[]) (clock := 0) hs Tryd.underlying69 Tryd.underlying21 rfl
  have q2 := fun v v' => run_upd_new (P := Tryd.prog) (T := 69) (c := 44) (v := v) (es := #[{ key := .int .i32 61, val := v', born := 0 }]) (clock := 1) hs Tryd.underlying69 Tryd.underlying21 rfl
  have q3 := fun v v' v'' => run_upd_new (P := Tryd.prog) (T := 69) (c := 92) (v := v) (es := #[{ key := .int .i32 61, val := v', born := 0 }, { key := .int .i32 44, val := v'', born := 1 }]) (clock := 2) hs Tryd.underlying69 Tryd.underlying21 rfl
  simp only [List.push_toArray, List.nil_append, List.cons_append, Nat.zero_add, Nat.reduceAdd] at q1 q2 q3
  have hmm := @run_makeMap Tryd.prog
  go_enter Tryd.func43, Tryd.ntmps43
  go_wp2_with fail
  go_ret
  refine ⟨rfl, ⟨Nat.le_refl _, Nat.le_succ _, ?_, .slice none 0 0, (Blk.new w _ _).alloc _, World.ownsRow_nil _ _ _ _⟩, below_al (below_al (below_0 _) _) _⟩
  have h := World.alloc_heap_new (w.alloc (.cells #[.string ⟨#[]⟩, .string ⟨#[]⟩, .int .i64 0, .int .i64 0, .slice none 0 0, .map (some (w.heap.size + 1))] 71)) (.map (doesO w.heap.size) 3)
  rw [show (w.alloc (.cells #[.string ⟨#[]⟩, .string ⟨#[]⟩, .int .i64 0, .int .i64 0, .slice none 0 0, .map (some (w.heap.size + 1))] 71)).heap.size = w.heap.size + 1 by simp] at h
  exact h
end Go.Proofs.YtlcpigkgbihebaaDoor

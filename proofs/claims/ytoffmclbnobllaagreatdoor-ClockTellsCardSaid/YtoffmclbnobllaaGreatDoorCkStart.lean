/-
  How every law of the clock begins.
-/
import Derived.Test.YtoffmclbnobllaaGreatDoorCkPlain
namespace Go.Proofs.YtoffmclbnobllaaGreatDoor
open Go.RowKit
set_option linter.unusedVariables false
set_option linter.unusedSimpArgs false
/-- What Few hands back, as a law needs it. -/
def FewRet (w : World) (e : Ending) (w' : World) : Prop :=
  Below w.heap.size w w' ∧ ∃ A1 c1 cs, e = .returned (.slice A1 cs.length c1) ∧ cs.length ≤ 22 ∧ (∀ m ∈ cs, SerFit m.s) ∧ OTab w' w.heap.size (.slice A1 cs.length c1) cs
theorem few_tab (A : Option Addr) (ms : List SerM) (n cap : Nat) (hk : ms.length = min n 22) (hn : n ≤ maxLen) (hf : ∀ m ∈ ms, RawFit m) (w : World) (hS : Tab w w.heap.size A ms) :
    Calls Tryz.prog 5 #[.slice A n cap] w (FewRet w) := by
  refine (fews_any A ms n cap hk hn hf w hS).mono ?_
  rintro e w' ⟨⟨v, cs, rfl, hm, ho⟩, hb⟩
  obtain ⟨A1, c1, rfl, hc1, hr1, ha1⟩ := own_rd ho.own
  have hlen : cs.length = ms.length := by
    have := congrArg List.length hm
    simpa using this
  refine ⟨hb, A1, c1, cs, rfl, by omega, fun m hm2 => ?_, ho⟩
  have h1 : m.s ∈ cs.map (·.s) := List.mem_map.2 ⟨m, hm2, rfl⟩
  rw [hm] at h1
  obtain ⟨y, hy, e⟩ := List.mem_map.1 h1
  rw [← e]; exact few_fit (hf y hy)
theorem max_U {a b : Int} (ha : U a) (hb : U b) : U (max a b) := by obtain ⟨a1, a2⟩ := ha; obtain ⟨b1, b2⟩ := hb; exact ⟨by omega, by omega⟩
theorem min_U {a b : Int} (ha : U a) (hb : U b) : U (min a b) := by obtain ⟨a1, a2⟩ := ha; obtain ⟨b1, b2⟩ := hb; exact ⟨by omega, by omega⟩
end Go.Proofs.YtoffmclbnobllaaGreatDoor

/-
  Small words for the laws on registers.
-/
import Derived.Test.YtgbanhjjieagnaaHllCount
namespace Go.Proofs.Ytgbanhjjieagnaa
open Go.RowKit
theorem sl_set2 {w : World} {g : Nat} {t : TypeId} {b : Int} {s : ByteArray} {A : Option Addr} {l : List Int} (h : Sl w w.heap.size A l) (hx : Blk w g t #[.int .i64 b, .string s]) (u v : Value) :
    Sl ((w.setCell ⟨g, 0, none⟩ u).setCell ⟨g, 1, none⟩ v) ((w.setCell ⟨g, 0, none⟩ u).setCell ⟨g, 1, none⟩ v).heap.size A l :=
  sl_turned h hx (fun z hz n e => by subst e; simp at hz) (grow_trans (grow_set1 w g 0 u) (grow_set1 _ g 1 v))
end Go.Proofs.Ytgbanhjjieagnaa

/- Words of the octet chapter (by port20.py). -/
import Derived.Test.YtfpkdbogapmhmaaOc7
namespace Go.Proofs.Ytfpkdbogapmhmaa.O
open Go.RowKit Go.Proofs.Ytfpkdbogapmhmaa.Mem
theorem rb_new (w : World) (cs : Array Value) (t : TypeId) (zs : List Int) (n : Nat) (hn : n = zs.length) (hc : cs.toList = zs.map byteC) (hm : n ≤ 9223372036854775807) : RB (w.alloc (.cells cs t)) (.slice (some ⟨w.heap.size, 0, none⟩) n n) zs := by
  subst hn
  refine ⟨_, _, rfl, Nat.le_refl _, by unfold maxLen; omega, fun hp => ⟨_, _, rfl, fun j u hu => ?_⟩⟩
  rw [Nat.zero_add]
  refine cell_row (heap_alloc_new w _) ?_
  rw [← Array.getElem?_toList, hc, List.getElem?_map, hu]
  rfl
end Go.Proofs.Ytfpkdbogapmhmaa.O

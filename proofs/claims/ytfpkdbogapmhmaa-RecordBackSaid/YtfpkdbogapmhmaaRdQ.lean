/- Record: small words of the walks: what follows is hidden; a new row that is written whole; a slice without its front. -/
import Derived.Test.YtfpkdbogapmhmaaRcO
import Derived.Test.YtfpkdbogapmhmaaRcR
namespace Go.Proofs.Ytfpkdbogapmhmaa.O
open Go.RowKit Go.Proofs.Ytfpkdbogapmhmaa.Mem
set_option linter.unusedVariables false
set_option linter.unusedSimpArgs false
theorem seq_hide {P : Program} {s1 s2 : Code} {Q : Exit → Act → World → Prop} {a : Act} {w : World} (h : ∀ r, Hid (r = s2) → (s1.seq r).wp P Q a w) : (s1.seq s2).wp P Q a w := h s2 (Lib.hid rfl)
theorem alloc_setRowQ (w : World) (old new : Array Value) (t : TypeId) : (w.alloc (.cells old t)).setRow w.heap.size new = w.alloc (.cells new t) := by
  have h : (w.heap.push (.cells old t)).modify w.heap.size (fun | .cells _ elem frozen => .cells new elem frozen | o => o) = w.heap.push (.cells new t) := by
    apply Array.ext
    · simp
    · intro i h1 h2
      rw [Array.getElem_modify]
      by_cases hi : i < w.heap.size
      · rw [if_neg (by omega), Array.getElem_push_lt hi, Array.getElem_push_lt hi]
      · have hi' : i = w.heap.size := by simp at h2; omega
        subst hi'
        simp
  exact congrArg (fun h => ({ w with heap := h } : World)) h
theorem nil_farQ (n : Nat) : ∀ b, (Value.slice none 0 0).ownBlock = some b → n ≤ b := fun b e => by simp [Value.ownBlock] at e
theorem RB.dropKQ {w : World} {g o n c : Nat} {zs : List Int} (k : Nat) (h : RB w (.slice (some ⟨g, o, none⟩) n c) zs) : RB w (.slice (some ⟨g, o + k, none⟩) (zs.drop k).length (c - k)) (zs.drop k) := by
  obtain ⟨A', c', e, h1, h2, h3⟩ := h
  obtain ⟨rfl, rfl, rfl⟩ : some ⟨g, o, none⟩ = A' ∧ n = zs.length ∧ c = c' := by simpa using e
  refine ⟨_, _, rfl, by rw [List.length_drop]; omega, by omega, fun hp => ⟨g, o + k, rfl, fun j u hu => ?_⟩⟩
  rw [List.length_drop] at hp
  obtain ⟨g', o', e', h4⟩ := h3 (by omega)
  obtain ⟨rfl, rfl⟩ : g = g' ∧ o = o' := by simpa using e'
  rw [List.getElem?_drop] at hu
  rw [Nat.add_assoc]
  exact h4 (k + j) u hu
end Go.Proofs.Ytfpkdbogapmhmaa.O

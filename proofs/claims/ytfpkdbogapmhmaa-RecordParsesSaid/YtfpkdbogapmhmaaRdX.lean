/- How long a slice that came in may be. -/
import Derived.Test.YtfpkdbogapmhmaaRcX0
namespace Go.Proofs.Ytfpkdbogapmhmaa.O
open Go.RowKit Go.WideShapes Go.ChangeShapes Go.Proofs.Ytfpkdbogapmhmaa.Open
set_option linter.unusedVariables false
variable {H : Type}
theorem few {P : Program} {ts : List TypeId} {dd : List (DataW H)} (h : (DataW.weightsEach P ts dd).all (· ≤ reachBytes) = true) {j : Nat} {t e : TypeId} {d : DataW H} {b : Nat} {β : Type} {os : List β} (ht : ts[j]? = some t) (hd : dd[j]? = some d) (hu : P.underlying t = some (.slice e)) (hb : P.bytesOf e = b) (hs : (d = .nil ∧ os = []) ∨ ∃ ds rs, d = .slice ds rs ∧ ds.length = os.length) : os.length * b ≤ 140737488351232 := by
  rcases hs with ⟨_, rfl⟩ | ⟨ds, rs, rfl, hl⟩
  · simp
  · have h1 := sized_slice h ht hd hu
    rw [hb, Nat.add_mul, hl] at h1
    have h2 : reachBytes = 140737488351232 := by decide
    omega
end Go.Proofs.Ytfpkdbogapmhmaa.O

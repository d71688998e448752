/- DomainAll: what the bound gives for the script. -/
import Derived.Test.YtepjhdppmegloaaAll
import Derived.Test.YtepjhdppmegloaaBulk
namespace Go.Proofs.Ytepjhdppmegloaa.Caps
open Go.RowKit
theorem reads_steps {H : Type} {w : World} {v : Value} {ss : List Step} {y : DataW H × List MemPlace} (h1 : Open.Lies w 7 v (ss.map Step.cells))
    (h2 : ∀ s ∈ ss, ReadsInts w s.u s.ps ∧ (s.ps = [] ∨ ∃ ds rs parts D R, y.1 = .slice D R ∧ DataW.agg parts ∈ D ∧ DataW.slice ds rs ∈ parts ∧ ds.length = s.ps.length)) (hb : Rows.uptoBulk y.1 ≤ 1048576) : ReadsSteps w v ss := by
  refine ⟨h1, fun s hs => ⟨(h2 s hs).1, ?_⟩⟩
  rcases (h2 s hs).2 with h | ⟨ds, rs, parts, D, R, e, hD, hP, hl⟩
  · rw [h]; simp
  · rw [e] at hb
    have b1 := bulks.slice_elems D R
    have b2 := bulks.part_le hD
    have b3 : Rows.uptoBulk (DataW.agg parts) = Rows.uptoBulkAll parts + 1 := by simp [Rows.uptoBulk]
    have b4 := bulks.part_le hP
    have b5 := bulks.slice_le ds rs
    omega
end Go.Proofs.Ytepjhdppmegloaa.Caps

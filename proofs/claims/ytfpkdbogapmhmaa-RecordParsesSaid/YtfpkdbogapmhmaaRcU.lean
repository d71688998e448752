/- Record: the document's Kept (written by gen_rcu.py). -/
import Derived.Test.YtfpkdbogapmhmaaRcU1
import Derived.Test.YtfpkdbogapmhmaaRcU2
import Derived.Test.YtfpkdbogapmhmaaRcU3
namespace Go.Proofs.Ytfpkdbogapmhmaa.O
open Go.RowKit Go.Proofs.Ytfpkdbogapmhmaa.Mem
set_option linter.unusedVariables false
set_option linter.unusedSimpArgs false
theorem kept_any (w : World) (c : Cl) (D G : Value) (hD : RB w D c.da) (hG : IB w G c.gi) :
    Calls Try.prog 32 #[cv c D G] w fun e w' => KC (keptC c) w e w' := by
  obtain ⟨op, by', sz, obj, hi, lo, gv, rt, off, n, da, ix, gi⟩ := c
  by_cases h1 : op = 1
  · subst h1
    exact kept_1 w by' sz obj hi lo gv rt off n da ix gi D G hD hG
  by_cases h2 : op = 2
  · subst h2
    exact kept_2 w by' sz obj hi lo gv rt off n da ix gi D G hD hG
  by_cases h3 : op = 3
  · subst h3
    exact kept_3 w by' sz obj hi lo gv rt off n da ix gi D G hD hG
  by_cases h4 : op = 4
  · subst h4
    exact kept_4 w by' sz obj hi lo gv rt off n da ix gi D G hD hG
  by_cases h5 : op = 5
  · subst h5
    cases gv with
    | false => exact kept_5f w by' sz obj hi lo rt off n da ix gi D G hD hG
    | true => exact kept_5t w by' sz obj hi lo rt off n da ix gi D G hD hG
  by_cases h6 : op = 6
  · subst h6
    cases gv with
    | false => exact kept_6f w by' sz obj hi lo rt off n da ix gi D G hD hG
    | true => exact kept_6t w by' sz obj hi lo rt off n da ix gi D G hD hG
  by_cases h7 : op = 7
  · subst h7
    exact kept_7 w by' sz obj hi lo gv rt off n da ix gi D G hD hG
  by_cases h8 : op = 8
  · subst h8
    exact kept_8 w by' sz obj hi lo gv rt off n da ix gi D G hD hG
  by_cases h9 : op = 9
  · subst h9
    exact kept_9 w by' sz obj hi lo gv rt off n da ix gi D G hD hG
  have e : keptC ⟨op, by', sz, obj, hi, lo, gv, rt, off, n, da, ix, gi⟩ = ⟨op, by', 0, 0, 0, 0, false, 0, 0, 0, [], 0, []⟩ := by simp [keptC, zc, h1, h2, h3, h4, h5, h6, h7, h8, h9]
  rw [e]
  exact kept_o w op by' sz obj hi lo gv rt off n da ix gi D G h1 h2 h3 h4 h5 h6 h7 h8 h9 hD hG
end Go.Proofs.Ytfpkdbogapmhmaa.O

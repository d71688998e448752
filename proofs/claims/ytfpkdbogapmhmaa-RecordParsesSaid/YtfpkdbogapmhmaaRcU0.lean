/- Record: the document's Kept (written by gen_rcu.py). -/
import Derived.Test.YtfpkdbogapmhmaaRcT
namespace Go.Proofs.Ytfpkdbogapmhmaa.O
open Go.RowKit Go.Proofs.Ytfpkdbogapmhmaa.Mem
set_option linter.unusedVariables false
set_option linter.unusedSimpArgs false
/-- The call with all that its Op does not use zero. -/
def keptC (c : Cl) : Cl :=
  if c.op = 1 then { zc with op := c.op, by' := c.by', sz := c.sz }
  else if c.op = 2 ∨ c.op = 4 ∨ c.op = 7 then { zc with op := c.op, by' := c.by', obj := c.obj, hi := c.hi, lo := c.lo }
  else if c.op = 3 then { zc with op := c.op, by' := c.by', obj := c.obj, hi := c.hi, lo := c.lo, rt := c.rt }
  else if c.op = 5 then { zc with op := c.op, by' := c.by', obj := c.obj, hi := if c.gv then c.hi else 0, lo := if c.gv then c.lo else 0, gv := c.gv, off := c.off, n := c.n }
  else if c.op = 6 then { zc with op := c.op, by' := c.by', obj := c.obj, hi := if c.gv then c.hi else 0, lo := if c.gv then c.lo else 0, gv := c.gv, off := c.off, da := c.da }
  else if c.op = 8 then { zc with op := c.op, by' := c.by', ix := c.ix }
  else if c.op = 9 then { zc with op := c.op, by' := c.by', gi := c.gi }
  else { zc with op := c.op, by' := c.by' }
theorem kept_iff (c : Cl) : c = keptC c ↔ nopass c ∧ restC c = zc := by
  obtain ⟨op, by', sz, obj, hi, lo, gv, rt, off, n, da, ix, gi⟩ := c
  unfold keptC nopass restC zc
  simp only
  by_cases h1 : op = 1
  · subst h1; simp; try (constructor <;> (intro h; simp_all))
  by_cases h2 : op = 2
  · subst h2; simp; try (constructor <;> (intro h; simp_all))
  by_cases h3 : op = 3
  · subst h3; simp; try (constructor <;> (intro h; simp_all))
  by_cases h4 : op = 4
  · subst h4; simp; try (constructor <;> (intro h; simp_all))
  by_cases h5 : op = 5
  · subst h5; cases gv <;> simp <;> try (constructor <;> (intro h; simp_all))
  by_cases h6 : op = 6
  · subst h6; cases gv <;> simp <;> try (constructor <;> (intro h; simp_all))
  by_cases h7 : op = 7
  · subst h7; simp; try (constructor <;> (intro h; simp_all))
  by_cases h8 : op = 8
  · subst h8; simp; try (constructor <;> (intro h; simp_all))
  by_cases h9 : op = 9
  · subst h9; simp; try (constructor <;> (intro h; simp_all))
  simp [h1, h2, h3, h4, h5, h6, h7, h8, h9]
  try (constructor <;> (intro h; simp_all))
def KC (X : Cl) (w : World) (e : Ending) (w' : World) : Prop := ∃ D G, e = .returned (cv X D G) ∧ RB w' D X.da ∧ IB w' G X.gi ∧ Below w.heap.size w w'

end Go.Proofs.Ytfpkdbogapmhmaa.O

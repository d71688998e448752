/- Record: the document's Answer (written by gen_rcz.py). -/
import Derived.Test.YtfpkdbogapmhmaaRcZ1
import Derived.Test.YtfpkdbogapmhmaaRcZ2
namespace Go.Proofs.Ytfpkdbogapmhmaa.O
open Go.RowKit Go.Proofs.Ytfpkdbogapmhmaa.Mem
set_option linter.unusedVariables false
set_option linter.unusedSimpArgs false
theorem rans_any (w : World) (op : Int) (r : Rp) (D : Value) (hD : RB w D r.da) (hh : U64 r.hi) (hl : U64 r.lo) :
    Calls Try.prog 16 #[.int .i64 op, rv r D] w fun e w' => ∃ v, e = .returned (.tuple #[v, .int .i64 (ansE op r)]) ∧ OB w' v (ansO op r) ∧ Below w.heap.size w w' ∧ Fresh w v := by
  obtain ⟨code, obj, hi, lo, da, nu⟩ := r
  obtain ⟨Ad, cd, rfl⟩ : SL D da.length := hD.sl
  by_cases hz : code = 0
  · subst hz
    by_cases h1 : op = 1
    · subst h1; exact rans_z1 w obj hi lo nu da Ad _ cd hD hh hl
    by_cases h3 : op = 3
    · subst h3; exact rans_z3 w obj hi lo nu da Ad _ cd hD hh hl
    by_cases h5 : op = 5
    · subst h5; exact rans_z5 w obj hi lo nu da Ad _ cd hD hh hl
    by_cases h9 : op = 9
    · subst h9; exact rans_z9 w obj hi lo nu da Ad _ cd hD hh hl
    exact rans_zo w obj hi lo nu da Ad _ cd hD hh hl op h1 h3 h5 h9
  · by_cases h1 : op = 1
    · subst h1; exact rans_n1 w obj hi lo nu da Ad _ cd hD hh hl code hz
    by_cases h3 : op = 3
    · subst h3; exact rans_n3 w obj hi lo nu da Ad _ cd hD hh hl code hz
    by_cases h5 : op = 5
    · subst h5; exact rans_n5 w obj hi lo nu da Ad _ cd hD hh hl code hz
    by_cases h9 : op = 9
    · subst h9; exact rans_n9 w obj hi lo nu da Ad _ cd hD hh hl code hz
    exact rans_no w obj hi lo nu da Ad _ cd hD hh hl code hz op h1 h3 h5 h9
end Go.Proofs.Ytfpkdbogapmhmaa.O

/- Record: a call that has a form comes back from its bytes: all cases (written by gen_rdk.py). -/
import Derived.Test.YtfpkdbogapmhmaaRdKa
import Derived.Test.YtfpkdbogapmhmaaRdKb
import Derived.Test.YtfpkdbogapmhmaaRdKc
import Derived.Test.YtfpkdbogapmhmaaRdKd
import Derived.Test.YtfpkdbogapmhmaaRdKe
import Derived.Test.YtfpkdbogapmhmaaRdKx
namespace Go.Proofs.Ytfpkdbogapmhmaa.O
open Go.RowKit Go.Proofs.Ytfpkdbogapmhmaa.Mem
theorem law_back (w : World) (c : Cl) (D G : Value) (cut z : Int) (hD : RB w D c.da) (hG : IB w G c.gi) (hh : U64 c.hi) (hl : U64 c.lo) (HB : Bytes c.da) (hI : I64C c) (hct : -9223372036854775808 ≤ cut ∧ cut ≤ 9223372036854775807) (hz : 0 ≤ z ∧ z < 256) :
    Calls Try.prog 6 #[cv c D G, .int .i64 cut, .int .u8 z] w fun e w' => e = .returned (.bool true) ∧ Below w.heap.size w w' := by
  by_cases h6 : (formC c).op = 6
  · by_cases h4 : (formC c).da.length ≤ 1024 <;> by_cases h5 : (32 : Int) ≤ cut % ((enc (formC c)).length : Int)
    · exact back_c w c D G cut z hD hG hh hl HB hI hct hz ⟨h6, h4, h5⟩
    · exact back_a w c D G cut z hD hG hh hl HB hI hct hz ⟨h6, h4, h5⟩
    · exact back_d w c D G cut z hD hG hh hl HB hI hct hz ⟨h6, h4, h5⟩
    · exact back_b w c D G cut z hD hG hh hl HB hI hct hz ⟨h6, h4, h5⟩
  · by_cases h8 : (formC c).op = 8
    · exact back_e8 w c D G cut z hD hG hh hl HB hI hct hz ⟨h8, rfl⟩
    · exact back_ex w c D G cut z hD hG hh hl HB hI hct hz ⟨⟨h6, h8⟩, rfl⟩
end Go.Proofs.Ytfpkdbogapmhmaa.O

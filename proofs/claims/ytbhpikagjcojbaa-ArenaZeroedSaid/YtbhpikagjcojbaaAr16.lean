/- The law's list of numbers, as it is read. -/
import Derived.Test.YtbhpikagjcojbaaAr15
import Derived.Test.YtbhpikagjcojbaaOpens
namespace Go.Proofs.Ytbhpikagjcojbaa.Ar
open Go.RowKit
theorem cells3 : Try.prog.cellsOf 3 = 1 := by kernel_rfl
theorem opened {H : Type} {enc : TypeId × Value → H} {w : World} {base : Nat} {sp : Nat → Bool} {held : Bool} {fuel : Nat} {l : List Value} {y : DataW H × List MemPlace} (h : DataW.trod enc Try.prog w base sp held fuel 29 l = some y) : ∃ u ps, l = [u] ∧ ReadsInts w u ps := by
  obtain ⟨u, ps, h1, ⟨A, c, h2, h3, h4, h5⟩, _⟩ := Open.trod_ints Try.underlying29 Try.underlying3 cells3 h
  exact ⟨u, ps, h1, A, c, h2, by omega, h5⟩
end Go.Proofs.Ytbhpikagjcojbaa.Ar

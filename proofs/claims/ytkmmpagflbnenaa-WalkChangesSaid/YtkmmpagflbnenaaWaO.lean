/- What the rows' parameters lay open. Own text; Ytkmmpagflbnenaa and the numbers between @..@ are the seat's. -/
import Derived.Test.YtkmmpagflbnenaaWaL
import Derived.Test.YtkmmpagflbnenaaOpens
import Derived.OpenShut
import Derived.SizedLaws
namespace Go.Proofs.Ytkmmpagflbnenaa.Kin
open Go.RowKit Go.Proofs.Ytkmmpagflbnenaa.Mem Go.WideShapes Go.ChangeShapes Go.Proofs.Ytkmmpagflbnenaa.Open
set_option linter.unusedVariables false
variable {H : Type} {enc : TypeId × Value → H} {w : World} {base : Nat} {sp : Nat → Bool} {held : Bool}
theorem cells_int : Try.prog.cellsOf 3 = 1 := by kernel_rfl
theorem cells_op : Try.prog.cellsOf 30 = 3 := by kernel_rfl
theorem trod_op {fuel : Nat} {l : List Value} {y : DataW H × List MemPlace} (hl : l.length = 3) (h : DataW.trod enc Try.prog w base sp held fuel 30 l = some y) : ∃ x, l = opL x := by
  obtain ⟨a, b, d, rfl⟩ : ∃ a b d, l = [a, b, d] := by
    match l, hl with
    | [a, b, d], _ => exact ⟨a, b, d, rfl⟩
  obtain ⟨m0, z0, h0⟩ := fieldAt Try.underlying30 h 0 3 0 1 rfl cells_int
  obtain ⟨m1, z1, h1⟩ := fieldAt Try.underlying30 h 1 3 1 1 rfl cells_int
  obtain ⟨m2, z2, h2⟩ := fieldAt Try.underlying30 h 2 3 2 1 rfl cells_int
  obtain ⟨n, e, _⟩ := one_int Try.underlying3 h0
  obtain ⟨n2, e2, _⟩ := one_int Try.underlying3 h1
  obtain ⟨n3, e3, _⟩ := one_int Try.underlying3 h2
  simp at e e2 e3
  exact ⟨(n, n2, n3), by simp [opL, e, e2, e3]⟩
theorem trod_ops {fuel : Nat} {l : List Value} {y : DataW H × List MemPlace} (h : DataW.trod enc Try.prog w base sp held fuel 22 l = some y) : ∃ u os, l = [u] ∧ ReadsOps w u os := by
  obtain ⟨v, els, rfl, h1, h2, h3⟩ := open_rows Try.underlying22 cells_op (by decide) h
  obtain ⟨os, rfl, _⟩ := known_each (f := opL) (Q := fun _ => True) els (fun l hl => by
    obtain ⟨hlen, m, y, hy⟩ := h2 l hl
    obtain ⟨x, e⟩ := trod_op hlen hy
    exact ⟨x, e, trivial⟩)
  obtain ⟨A, c, rfl, h4, h5, h6⟩ := h1
  rw [List.length_map] at h6 h4
  refine ⟨_, os, rfl, ⟨A, c, by rw [List.length_map], h4, h5, fun hp => ?_⟩⟩
  obtain ⟨g, o, rfl, h7⟩ := h6 hp
  exact ⟨g, o, rfl, fun i x hx j u hu => h7 i (opL x) (by rw [List.getElem?_map, hx]; rfl) j u hu⟩
end Go.Proofs.Ytkmmpagflbnenaa.Kin

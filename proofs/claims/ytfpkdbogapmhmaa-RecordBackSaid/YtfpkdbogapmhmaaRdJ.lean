/- A call that came in, with its numbers' bounds (written by gen_rdj.py). -/
import Derived.Test.YtfpkdbogapmhmaaRcX0
import Derived.Test.YtfpkdbogapmhmaaRdH
namespace Go.Proofs.Ytfpkdbogapmhmaa.O
open Go.RowKit Go.WideShapes Go.ChangeShapes Go.Proofs.Ytfpkdbogapmhmaa.Open
set_option linter.unusedVariables false
variable {H : Type} {enc : TypeId × Value → H} {w : World} {base : Nat} {sp : Nat → Bool} {held : Bool}
theorem trod_callB {fuel : Nat} {l : List Value} {y : DataW H × List MemPlace} (hl : l.length = 13) (h : DataW.trod enc Try.prog w base sp held fuel 30 l = some y) :
    ∃ (c : Cl) (D G : Value), l = (cells c D G).toList ∧ RB w D c.da ∧ IB w G c.gi ∧ U64 c.hi ∧ U64 c.lo ∧ Bytes c.da ∧ I64C c := by
  obtain ⟨x0, x1, x2, x3, x4, x5, x6, x7, x8, x9, x10, x11, x12, rfl⟩ : ∃ x0 x1 x2 x3 x4 x5 x6 x7 x8 x9 x10 x11 x12, l = [x0, x1, x2, x3, x4, x5, x6, x7, x8, x9, x10, x11, x12] := by
    match l, hl with
    | [x0, x1, x2, x3, x4, x5, x6, x7, x8, x9, x10, x11, x12], _ => exact ⟨x0, x1, x2, x3, x4, x5, x6, x7, x8, x9, x10, x11, x12, rfl⟩
  obtain ⟨_, _, h0⟩ := fieldAt Try.underlying30 h 0 3 0 1 rfl cells3
  obtain ⟨_, _, h1⟩ := fieldAt Try.underlying30 h 1 3 1 1 rfl cells3
  obtain ⟨_, _, h2⟩ := fieldAt Try.underlying30 h 2 3 2 1 rfl cells3
  obtain ⟨_, _, h3⟩ := fieldAt Try.underlying30 h 3 26 3 3 rfl cells26
  obtain ⟨_, _, h4⟩ := fieldAt Try.underlying30 h 4 4 6 1 rfl cells4
  obtain ⟨_, _, h5⟩ := fieldAt Try.underlying30 h 5 3 7 1 rfl cells3
  obtain ⟨_, _, h6⟩ := fieldAt Try.underlying30 h 6 3 8 1 rfl cells3
  obtain ⟨_, _, h7⟩ := fieldAt Try.underlying30 h 7 3 9 1 rfl cells3
  obtain ⟨_, _, h8⟩ := fieldAt Try.underlying30 h 8 27 10 1 rfl cells27
  obtain ⟨_, _, h9⟩ := fieldAt Try.underlying30 h 9 3 11 1 rfl cells3
  obtain ⟨_, _, h10⟩ := fieldAt Try.underlying30 h 10 28 12 1 rfl cells28
  obtain ⟨op, e0, r0⟩ := one_int Try.underlying3 h0
  obtain ⟨by', e1, r1⟩ := one_int Try.underlying3 h1
  obtain ⟨sz, e2, r2⟩ := one_int Try.underlying3 h2
  obtain ⟨_, _, g0⟩ := fieldAt Try.underlying26 h3 0 3 0 1 rfl cells3
  obtain ⟨ob2, eo, ro⟩ := one_int Try.underlying3 g0
  obtain ⟨obj, hi, lo, e3, u2, u3⟩ := trod_cap (by rfl) h3
  obtain ⟨gv, e4, _⟩ := DataW.trod_bool Try.underlying4 h4
  obtain ⟨rt, e5, r5⟩ := one_int Try.underlying3 h5
  obtain ⟨off, e6, r6⟩ := one_int Try.underlying3 h6
  obtain ⟨n, e7, r7⟩ := one_int Try.underlying3 h7
  obtain ⟨D, da, e8, ⟨A, k, rfl, q1, q2, q3⟩, wf, _⟩ := trod_ints Try.underlying27 Try.underlying5 cells5 h8
  obtain ⟨ix, e9, r9⟩ := one_int Try.underlying3 h9
  obtain ⟨G, gi, e10, ⟨A2, k2, rfl, p1, p2, p3⟩, wg, _⟩ := trod_ints Try.underlying28 Try.underlying3 cells3 h10
  simp at e0 e1 e2 e3 e4 e5 e6 e7 e8 e9 e10 eo
  obtain ⟨rfl, rfl, rfl⟩ := e3
  simp at eo
  subst eo
  exact ⟨⟨op, by', sz, obj, hi, lo, gv, rt, off, n, da, ix, gi⟩, .slice A da.length k, .slice A2 gi.length k2, by simp [cells, e0, e1, e2, e4, e5, e6, e7, e8, e9, e10], ⟨A, k, rfl, q1, q2, q3⟩, ⟨A2, k2, rfl, p1, p2, p3⟩, u2, u3, bytes_of wf,
    ⟨bounds_i64 r0, bounds_i64 r1, bounds_i64 r2, bounds_i64 ro, bounds_i64 r5, bounds_i64 r6, bounds_i64 r7, bounds_i64 r9, fun g hg => bounds_i64 (wg g hg)⟩⟩
set_option maxRecDepth 100000 in
theorem open_callB {r : Reach} {b0 : Nat} {v : Value} {d : DataW H} {p : List MemPlace} (hv : Value.okWide Try.prog w r b0 30 v) (h : DataW.Trod enc Try.prog w base sp held 30 v d p) :
    ∃ (c : Cl) (D G : Value), v = cv c D G ∧ RB w D c.da ∧ IB w G c.gi ∧ U64 c.hi ∧ U64 c.lo ∧ Bytes c.da ∧ I64C c := by
  obtain ⟨cs, rfl, hsz⟩ := okWide_struct Try.underlying30 hv
  obtain ⟨fuel, hf⟩ := h
  obtain ⟨c, D, G, e, h1⟩ := trod_callB (l := cs.toList) (Array.length_toList.trans (hsz.trans cells30)) hf
  refine ⟨c, D, G, ?_, h1⟩
  exact congrArg Value.agg (Array.toList_inj.1 e)
end Go.Proofs.Ytfpkdbogapmhmaa.O

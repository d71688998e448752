/- What the rows' parameters lay open: a call, a reply, bytes (written by gen_rcx.py). -/
import Derived.Test.YtfpkdbogapmhmaaRcR
import Derived.Test.YtfpkdbogapmhmaaOpens
import Derived.OpenShut
import Derived.SizedLaws
import Derived.ChangeArms
namespace Go.Proofs.Ytfpkdbogapmhmaa.O
open Go.RowKit Go.WideShapes Go.ChangeShapes Go.Proofs.Ytfpkdbogapmhmaa.Open
set_option linter.unusedVariables false
variable {H : Type} {enc : TypeId × Value → H} {w : World} {base : Nat} {sp : Nat → Bool} {held : Bool}
theorem cells3 : Try.prog.cellsOf 3 = 1 := by kernel_rfl
theorem cells4 : Try.prog.cellsOf 4 = 1 := by kernel_rfl
theorem cells5 : Try.prog.cellsOf 5 = 1 := by kernel_rfl
theorem cells22 : Try.prog.cellsOf 22 = 1 := by kernel_rfl
theorem cells24 : Try.prog.cellsOf 24 = 2 := by kernel_rfl
theorem cells26 : Try.prog.cellsOf 26 = 3 := by kernel_rfl
theorem cells27 : Try.prog.cellsOf 27 = 1 := by kernel_rfl
theorem cells28 : Try.prog.cellsOf 28 = 1 := by kernel_rfl
theorem cells30 : Try.prog.cellsOf 30 = 13 := by kernel_rfl
theorem cells31 : Try.prog.cellsOf 31 = 1 := by kernel_rfl
theorem cells45 : Try.prog.cellsOf 45 = 6 := by kernel_rfl
theorem bytes5 : Try.prog.bytesOf 5 = 1 := by kernel_rfl
theorem bytes_of {zs : List Int} (h : ∀ z ∈ zs, (Lit.int .u8 z).wf = true) : Bytes zs := fun z hz => by
  have := bounds_u8 (h z hz)
  omega
theorem trod_cap {fuel : Nat} {l : List Value} {y : DataW H × List MemPlace} (hl : l.length = 3) (h : DataW.trod enc Try.prog w base sp held fuel 26 l = some y) : ∃ obj hi lo, l = [.int .i64 obj, .int .u64 hi, .int .u64 lo] ∧ U64 hi ∧ U64 lo := by
  obtain ⟨a, b, d, rfl⟩ : ∃ a b d, l = [a, b, d] := by
    match l, hl with
    | [a, b, d], _ => exact ⟨a, b, d, rfl⟩
  obtain ⟨m0, z0, h0⟩ := fieldAt Try.underlying26 h 0 3 0 1 rfl cells3
  obtain ⟨m1, z1, h1⟩ := fieldAt Try.underlying26 h 1 24 1 2 rfl cells24
  obtain ⟨m2, z2, h2⟩ := fieldAt Try.underlying24 h1 0 22 0 1 rfl cells22
  obtain ⟨m3, z3, h3⟩ := fieldAt Try.underlying24 h1 1 22 1 1 rfl cells22
  obtain ⟨n, e, r1⟩ := one_int Try.underlying3 h0
  obtain ⟨n2, e2, r2⟩ := one_int Try.underlying22 h2
  obtain ⟨n3, e3, r3⟩ := one_int Try.underlying22 h3
  simp at e e2 e3
  have u2 := bounds_u64 r2
  have u3 := bounds_u64 r3
  exact ⟨n, n2, n3, by simp [e, e2, e3], ⟨u2.1, by omega⟩, ⟨u3.1, by omega⟩⟩
theorem trod_call {fuel : Nat} {l : List Value} {y : DataW H × List MemPlace} (hl : l.length = 13) (h : DataW.trod enc Try.prog w base sp held fuel 30 l = some y) :
    ∃ (c : Cl) (D G : Value), l = (cells c D G).toList ∧ RB w D c.da ∧ IB w G c.gi ∧ U64 c.hi ∧ U64 c.lo ∧ Bytes c.da := by
  obtain ⟨x0, x1, x2, x3, x4, x5, x6, x7, x8, x9, x10, x11, x12, rfl⟩ : ∃ x0 x1 x2 x3 x4 x5 x6 x7 x8 x9 x10 x11 x12, l = [x0, x1, x2, x3, x4, x5, x6, x7, x8, x9, x10, x11, x12] := by
    match l, hl with
    | [x0, x1, x2, x3, x4, x5, x6, x7, x8, x9, x10, x11, x12], _ => exact ⟨x0, x1, x2, x3, x4, x5, x6, x7, x8, x9, x10, x11, x12, rfl⟩
  obtain ⟨_, _, h0⟩ := fieldAt Try.underlying30 h 0 3 0 1 rfl cells3
  obtain ⟨_, _, h1⟩ := fieldAt Try.underlying30 h 1 3 1 1 rfl cells3
  obtain ⟨_, _, h2⟩ := fieldAt Try.underlying30 h 2 3 2 1 rfl cells3
  obtain ⟨_, _, h3⟩ := fieldAt Try.underlying30 h 3 26 3 3 rfl cells26
  obtain ⟨_, _, h4⟩ := fieldAt Try.underlying30 h 4 4 6 1 rfl cells4
  obtain ⟨_, _, h5⟩ := fieldAt Try.underlying30 h 5 3 7 1 rfl cells3
  obtain ⟨_, _, h6⟩ := fieldAt Try.underlying30 h 6 3 8 1 rfl cells3
  obtain ⟨_, _, h7⟩ := fieldAt Try.underlying30 h 7 3 9 1 rfl cells3
  obtain ⟨_, _, h8⟩ := fieldAt Try.underlying30 h 8 27 10 1 rfl cells27
  obtain ⟨_, _, h9⟩ := fieldAt Try.underlying30 h 9 3 11 1 rfl cells3
  obtain ⟨_, _, h10⟩ := fieldAt Try.underlying30 h 10 28 12 1 rfl cells28
  obtain ⟨op, e0, _⟩ := one_int Try.underlying3 h0
  obtain ⟨by', e1, _⟩ := one_int Try.underlying3 h1
  obtain ⟨sz, e2, _⟩ := one_int Try.underlying3 h2
  obtain ⟨obj, hi, lo, e3, u2, u3⟩ := trod_cap (by rfl) h3
  obtain ⟨gv, e4, _⟩ := DataW.trod_bool Try.underlying4 h4
  obtain ⟨rt, e5, _⟩ := one_int Try.underlying3 h5
  obtain ⟨off, e6, _⟩ := one_int Try.underlying3 h6
  obtain ⟨n, e7, _⟩ := one_int Try.underlying3 h7
  obtain ⟨D, da, e8, ⟨A, k, rfl, q1, q2, q3⟩, wf, _⟩ := trod_ints Try.underlying27 Try.underlying5 cells5 h8
  obtain ⟨ix, e9, _⟩ := one_int Try.underlying3 h9
  obtain ⟨G, gi, e10, ⟨A2, k2, rfl, p1, p2, p3⟩, _, _⟩ := trod_ints Try.underlying28 Try.underlying3 cells3 h10
  simp at e0 e1 e2 e3 e4 e5 e6 e7 e8 e9 e10
  obtain ⟨rfl, rfl, rfl⟩ := e3
  exact ⟨⟨op, by', sz, obj, hi, lo, gv, rt, off, n, da, ix, gi⟩, .slice A da.length k, .slice A2 gi.length k2, by simp [cells, e0, e1, e2, e4, e5, e6, e7, e8, e9, e10], ⟨A, k, rfl, q1, q2, q3⟩, ⟨A2, k2, rfl, p1, p2, p3⟩, u2, u3, bytes_of wf⟩
set_option maxRecDepth 100000 in
theorem open_call {r : Reach} {b0 : Nat} {v : Value} {d : DataW H} {p : List MemPlace} (hv : Value.okWide Try.prog w r b0 30 v) (h : DataW.Trod enc Try.prog w base sp held 30 v d p) :
    ∃ (c : Cl) (D G : Value), v = cv c D G ∧ RB w D c.da ∧ IB w G c.gi ∧ U64 c.hi ∧ U64 c.lo ∧ Bytes c.da := by
  obtain ⟨cs, rfl, hsz⟩ := okWide_struct Try.underlying30 hv
  obtain ⟨fuel, hf⟩ := h
  obtain ⟨c, D, G, e, h1⟩ := trod_call (l := cs.toList) (Array.length_toList.trans (hsz.trans cells30)) hf
  refine ⟨c, D, G, ?_, h1⟩
  exact congrArg Value.agg (Array.toList_inj.1 e)
theorem trod_reply {fuel : Nat} {l : List Value} {y : DataW H × List MemPlace} (hl : l.length = 6) (h : DataW.trod enc Try.prog w base sp held fuel 45 l = some y) :
    ∃ (c : Rp) (D : Value), l = (rcells c D).toList ∧ RB w D c.da ∧ U64 c.hi ∧ U64 c.lo ∧ Bytes c.da ∧ (-9223372036854775808 ≤ c.code ∧ c.code ≤ 9223372036854775807) ∧ (-9223372036854775808 ≤ c.obj ∧ c.obj ≤ 9223372036854775807) ∧ (-9223372036854775808 ≤ c.nu ∧ c.nu ≤ 9223372036854775807) := by
  obtain ⟨x0, x1, x2, x3, x4, x5, rfl⟩ : ∃ x0 x1 x2 x3 x4 x5, l = [x0, x1, x2, x3, x4, x5] := by
    match l, hl with
    | [x0, x1, x2, x3, x4, x5], _ => exact ⟨x0, x1, x2, x3, x4, x5, rfl⟩
  obtain ⟨_, _, h0⟩ := fieldAt Try.underlying45 h 0 31 0 1 rfl cells31
  obtain ⟨_, _, h1⟩ := fieldAt Try.underlying45 h 1 26 1 3 rfl cells26
  obtain ⟨_, _, h2⟩ := fieldAt Try.underlying45 h 2 27 4 1 rfl cells27
  obtain ⟨_, _, h3⟩ := fieldAt Try.underlying45 h 3 3 5 1 rfl cells3
  obtain ⟨code, e0, r0⟩ := one_int Try.underlying31 h0
  obtain ⟨D, da, e2, ⟨A, k, rfl, q1, q2, q3⟩, wf, _⟩ := trod_ints Try.underlying27 Try.underlying5 cells5 h2
  obtain ⟨nu, e3, r3⟩ := one_int Try.underlying3 h3
  obtain ⟨m3, z3, g0⟩ := fieldAt Try.underlying26 h1 0 3 0 1 rfl cells3
  obtain ⟨ob2, eo, ro⟩ := one_int Try.underlying3 g0
  obtain ⟨obj, hi, lo, e1, u2, u3⟩ := trod_cap (by rfl) h1
  simp at e0 e1 e2 e3 eo
  obtain ⟨rfl, rfl, rfl⟩ := e1
  simp at eo
  subst eo
  have b0 := bounds_i64 r0
  have b1 := bounds_i64 ro
  have b3 := bounds_i64 r3
  exact ⟨⟨code, obj, hi, lo, da, nu⟩, .slice A da.length k, by simp [rcells, e0, e2, e3], ⟨A, k, rfl, q1, q2, q3⟩, u2, u3, bytes_of wf, b0, b1, b3⟩
set_option maxRecDepth 100000 in
theorem open_reply {r : Reach} {b0 : Nat} {v : Value} {d : DataW H} {p : List MemPlace} (hv : Value.okWide Try.prog w r b0 45 v) (h : DataW.Trod enc Try.prog w base sp held 45 v d p) :
    ∃ (c : Rp) (D : Value), v = rv c D ∧ RB w D c.da ∧ U64 c.hi ∧ U64 c.lo ∧ Bytes c.da ∧ (-9223372036854775808 ≤ c.code ∧ c.code ≤ 9223372036854775807) ∧ (-9223372036854775808 ≤ c.obj ∧ c.obj ≤ 9223372036854775807) ∧ (-9223372036854775808 ≤ c.nu ∧ c.nu ≤ 9223372036854775807) := by
  obtain ⟨cs, rfl, hsz⟩ := okWide_struct Try.underlying45 hv
  obtain ⟨fuel, hf⟩ := h
  obtain ⟨c, D, e, h1⟩ := trod_reply (l := cs.toList) (Array.length_toList.trans (hsz.trans cells45)) hf
  refine ⟨c, D, ?_, h1⟩
  exact congrArg Value.agg (Array.toList_inj.1 e)
end Go.Proofs.Ytfpkdbogapmhmaa.O

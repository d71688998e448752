/- What the rows' parameters lay open: bytes, a capability. -/
import Derived.Test.YtolfmchgcelnmaaProg
import Derived.Test.YtolfmchgcelnmaaOpens
import Derived.Test.YtolfmchgcelnmaaBulk
import Derived.Test.YtolfmchgcelnmaaOc9
import Derived.OpenShut
import Derived.Lib.SmallJoins
namespace Go.Proofs.Ytolfmchgcelnmaa.O
open Go.RowKit Go.WideShapes Go.ChangeShapes Go.Joins Go.Proofs.Ytolfmchgcelnmaa.Open
variable {H : Type} {enc : TypeId × Value → H} {w : World} {base : Nat} {sp : Nat → Bool} {held : Bool}
theorem cells3 : Try.prog.cellsOf 3 = 1 := by kernel_rfl
theorem cells5 : Try.prog.cellsOf 5 = 1 := by kernel_rfl
theorem cells23 : Try.prog.cellsOf 23 = 1 := by kernel_rfl
theorem cells25 : Try.prog.cellsOf 25 = 2 := by kernel_rfl
theorem cells27 : Try.prog.cellsOf 27 = 3 := by kernel_rfl
theorem trod_cap {fuel : Nat} {l : List Value} {y : DataW H × List MemPlace} (hl : l.length = 3) (h : DataW.trod enc Try.prog w base sp held fuel 27 l = some y) : ∃ obj hi lo, l = [.int .i64 obj, .int .u64 hi, .int .u64 lo] ∧ (Lit.int .i64 obj).wf = true ∧ U64 hi ∧ U64 lo := by
  obtain ⟨a, b, d, rfl⟩ : ∃ a b d, l = [a, b, d] := by
    match l, hl with
    | [a, b, d], _ => exact ⟨a, b, d, rfl⟩
  obtain ⟨m0, z0, h0⟩ := fieldAt Try.underlying27 h 0 3 0 1 rfl cells3
  obtain ⟨m1, z1, h1⟩ := fieldAt Try.underlying27 h 1 25 1 2 rfl cells25
  obtain ⟨m2, z2, h2⟩ := fieldAt Try.underlying25 h1 0 23 0 1 rfl cells23
  obtain ⟨m3, z3, h3⟩ := fieldAt Try.underlying25 h1 1 23 1 1 rfl cells23
  obtain ⟨n, e, r1⟩ := one_int Try.underlying3 h0
  obtain ⟨n2, e2, r2⟩ := one_int Try.underlying23 h2
  obtain ⟨n3, e3, r3⟩ := one_int Try.underlying23 h3
  simp at e e2 e3
  have u2 := bounds_u64 r2
  have u3 := bounds_u64 r3
  exact ⟨n, n2, n3, by simp [e, e2, e3], r1, ⟨u2.1, by omega⟩, ⟨u3.1, by omega⟩⟩
theorem open_cap {r : Reach} {b0 : Nat} {v : Value} {d : DataW H} {p : List MemPlace} (hv : Value.okWide Try.prog w r b0 27 v) (h : DataW.Trod enc Try.prog w base sp held 27 v d p) :
    ∃ obj hi lo, v = .agg #[.int .i64 obj, .int .u64 hi, .int .u64 lo] ∧ (Lit.int .i64 obj).wf = true ∧ U64 hi ∧ U64 lo := by
  obtain ⟨cs, rfl, hsz⟩ := okWide_struct Try.underlying27 hv
  obtain ⟨c0, c1, c2, rfl⟩ := array3 (hsz.trans cells27)
  obtain ⟨fuel, hf⟩ := h
  obtain ⟨obj, hi, lo, e, h1, h2, h3⟩ := trod_cap (by rfl) hf
  refine ⟨obj, hi, lo, ?_, h1, h2, h3⟩
  simp [Value.cells] at e
  rw [e.1, e.2.1, e.2.2]
theorem few_of {d : DataW H} {zs : List Int} (hs : (d = .nil ∧ zs = []) ∨ ∃ ds rs, d = .slice ds rs ∧ ds.length = zs.length) : zs.length ≤ Rows.uptoBulk d := by
  rcases hs with ⟨rfl, rfl⟩ | ⟨ds, rs, rfl, hl⟩
  · exact Nat.zero_le _
  · have := bulks.slice_le ds rs
    omega
theorem bytes_of {zs : List Int} (h : ∀ z ∈ zs, (Lit.int .u8 z).wf = true) : Bytes zs := fun z hz => by
  have := bounds_u8 (h z hz)
  omega
end Go.Proofs.Ytolfmchgcelnmaa.O

/- What the rows' slices hold: calls, capabilities, numbers. -/
import Derived.Test.YtnebdabfandngaaCb1
import Derived.Test.YtnebdabfandngaaOpens
import Derived.SizedLaws
namespace Go.Proofs.Ytnebdabfandngaa.C
open Go.RowKit Go.Proofs.Ytnebdabfandngaa.Open
variable {H : Type} {enc : TypeId × Value → H} {w : World} {base : Nat} {sp : Nat → Bool} {held : Bool}
theorem cells3 : Try.prog.cellsOf 3 = 1 := by kernel_rfl
theorem cells34 : Try.prog.cellsOf 34 = 2 := by kernel_rfl
theorem cells36 : Try.prog.cellsOf 36 = 3 := by kernel_rfl
theorem cells38 : Try.prog.cellsOf 38 = 5 := by kernel_rfl
theorem cells32 : Try.prog.cellsOf 32 = 1 := by kernel_rfl
theorem bytes38 : Try.prog.bytesOf 38 = 40 := by kernel_rfl
theorem bytes36 : Try.prog.bytesOf 36 = 24 := by kernel_rfl
theorem bytes3 : Try.prog.bytesOf 3 = 8 := by kernel_rfl
def capL (c : Cap) : List Value := [.int .i64 c.obj, .int .u64 c.hi, .int .u64 c.lo]
theorem trod_cap {fuel : Nat} {l : List Value} {y : DataW H × List MemPlace} (hl : l.length = 3) (h : DataW.trod enc Try.prog w base sp held fuel 36 l = some y) : ∃ c, l = capL c := by
  obtain ⟨a, b, d, rfl⟩ : ∃ a b d, l = [a, b, d] := by
    match l, hl with
    | [a, b, d], _ => exact ⟨a, b, d, rfl⟩
  obtain ⟨m0, z0, h0⟩ := fieldAt Try.underlying36 h 0 3 0 1 rfl cells3
  obtain ⟨m1, z1, h1⟩ := fieldAt Try.underlying36 h 1 34 1 2 rfl cells34
  obtain ⟨m2, z2, h2⟩ := fieldAt Try.underlying34 h1 0 32 0 1 rfl cells32
  obtain ⟨m3, z3, h3⟩ := fieldAt Try.underlying34 h1 1 32 1 1 rfl cells32
  obtain ⟨n, e, _⟩ := one_int Try.underlying3 h0
  obtain ⟨n2, e2, _⟩ := one_int Try.underlying32 h2
  obtain ⟨n3, e3, _⟩ := one_int Try.underlying32 h3
  refine ⟨⟨n, n2, n3⟩, ?_⟩
  simp at e e2 e3
  simp [capL, e, e2, e3]
theorem trod_op {fuel : Nat} {l : List Value} {y : DataW H × List MemPlace} (hl : l.length = 5) (h : DataW.trod enc Try.prog w base sp held fuel 38 l = some y) : ∃ o, l = opL o := by
  obtain ⟨a, b, c, d, e, rfl⟩ : ∃ a b c d e, l = [a, b, c, d, e] := by
    match l, hl with
    | [a, b, c, d, e], _ => exact ⟨a, b, c, d, e, rfl⟩
  obtain ⟨m0, z0, h0⟩ := fieldAt Try.underlying38 h 0 3 0 1 rfl cells3
  obtain ⟨m1, z1, h1⟩ := fieldAt Try.underlying38 h 1 36 1 3 rfl cells36
  obtain ⟨m2, z2, h2⟩ := fieldAt Try.underlying38 h 2 3 4 1 rfl cells3
  obtain ⟨n, e0, _⟩ := one_int Try.underlying3 h0
  obtain ⟨c', e1⟩ := trod_cap (by simp) h1
  obtain ⟨n2, e2, _⟩ := one_int Try.underlying3 h2
  refine ⟨⟨n, c', n2⟩, ?_⟩
  simp [capL] at e0 e1 e2
  simp [opL, e0, e1, e2]
theorem trod_ops {fuel : Nat} {l : List Value} {y : DataW H × List MemPlace} (h : DataW.trod enc Try.prog w base sp held fuel 22 l = some y) :
    ∃ u os, l = [u] ∧ (∃ A c, u = .slice A os.length c ∧ os.length ≤ c ∧ c ≤ maxLen ∧ (0 < os.length → ∃ g o, A = some ⟨g, o, none⟩ ∧ ∀ i x, os[i]? = some x → ∀ j u, (opL x)[j]? = some u → w.cell? ⟨g, o + i * 5 + j, none⟩ = some u)) ∧ ((y.1 = .nil ∧ os = []) ∨ ∃ ds rs, y.1 = .slice ds rs ∧ ds.length = os.length) := by
  obtain ⟨v, els, rfl, h1, h2, h3⟩ := open_rows Try.underlying22 cells38 (by decide) h
  obtain ⟨os, rfl, _⟩ := known_each (f := opL) (Q := fun _ => True) els (fun l hl => by
    obtain ⟨hlen, m, y, hy⟩ := h2 l hl
    obtain ⟨o, e⟩ := trod_op hlen hy
    exact ⟨o, e, trivial⟩)
  obtain ⟨A, c, rfl, h4, h5, h6⟩ := h1
  rw [List.length_map] at h6 h4
  refine ⟨_, os, rfl, ⟨A, c, by rw [List.length_map], h4, h5, fun hp => ?_⟩, ?_⟩
  · obtain ⟨g, o, rfl, h7⟩ := h6 hp
    exact ⟨g, o, rfl, fun i x hx j u hu => h7 i (opL x) (by rw [List.getElem?_map, hx]; rfl) j u hu⟩
  · rcases h3 with ⟨h, h'⟩ | ⟨ds, rs, h, h', _⟩
    · exact .inl ⟨h, by simpa using h'⟩
    · exact .inr ⟨ds, rs, h, by simpa using h'⟩
theorem trod_caps {fuel : Nat} {l : List Value} {y : DataW H × List MemPlace} (h : DataW.trod enc Try.prog w base sp held fuel 49 l = some y) :
    ∃ u os, l = [u] ∧ (∃ A c, u = .slice A os.length c ∧ os.length ≤ c ∧ c ≤ maxLen ∧ (0 < os.length → ∃ g o, A = some ⟨g, o, none⟩ ∧ ∀ i x, os[i]? = some x → ∀ j u, (capL x)[j]? = some u → w.cell? ⟨g, o + i * 3 + j, none⟩ = some u)) ∧ ((y.1 = .nil ∧ os = []) ∨ ∃ ds rs, y.1 = .slice ds rs ∧ ds.length = os.length) := by
  obtain ⟨v, els, rfl, h1, h2, h3⟩ := open_rows Try.underlying49 cells36 (by decide) h
  obtain ⟨os, rfl, _⟩ := known_each (f := capL) (Q := fun _ => True) els (fun l hl => by
    obtain ⟨hlen, m, y, hy⟩ := h2 l hl
    obtain ⟨o, e⟩ := trod_cap hlen hy
    exact ⟨o, e, trivial⟩)
  obtain ⟨A, c, rfl, h4, h5, h6⟩ := h1
  rw [List.length_map] at h6 h4
  refine ⟨_, os, rfl, ⟨A, c, by rw [List.length_map], h4, h5, fun hp => ?_⟩, ?_⟩
  · obtain ⟨g, o, rfl, h7⟩ := h6 hp
    exact ⟨g, o, rfl, fun i x hx j u hu => h7 i (capL x) (by rw [List.getElem?_map, hx]; rfl) j u hu⟩
  · rcases h3 with ⟨h, h'⟩ | ⟨ds, rs, h, h', _⟩
    · exact .inl ⟨h, by simpa using h'⟩
    · exact .inr ⟨ds, rs, h, by simpa using h'⟩
/-- How long a slice that came in may be. -/
theorem few {P : Program} {ts : List TypeId} {dd : List (DataW H)} (h : (DataW.weightsEach P ts dd).all (· ≤ reachBytes) = true) {j : Nat} {t e : TypeId} {d : DataW H} {b : Nat} {β : Type} {os : List β} (ht : ts[j]? = some t) (hd : dd[j]? = some d) (hu : P.underlying t = some (.slice e)) (hb : P.bytesOf e = b) (hs : (d = .nil ∧ os = []) ∨ ∃ ds rs, d = .slice ds rs ∧ ds.length = os.length) : os.length * b ≤ 140737488351232 := by
  rcases hs with ⟨_, rfl⟩ | ⟨ds, rs, rfl, hl⟩
  · simp
  · have h1 := sized_slice h ht hd hu
    rw [hb, Nat.add_mul, hl] at h1
    have h2 : reachBytes = 140737488351232 := by decide
    omega
end Go.Proofs.Ytnebdabfandngaa.C

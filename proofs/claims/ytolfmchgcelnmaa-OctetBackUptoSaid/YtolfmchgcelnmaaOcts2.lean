/- What a row's list of calls lays open. -/
import Derived.Test.YtolfmchgcelnmaaOcts
import Derived.Test.YtolfmchgcelnmaaOc16
import Derived.SizedLaws
namespace Go.Proofs.Ytolfmchgcelnmaa.O
open Go.RowKit Go.WideShapes Go.ChangeShapes Go.Proofs.Ytolfmchgcelnmaa.Open
variable {H : Type} {enc : TypeId × Value → H} {w : World} {base : Nat} {sp : Nat → Bool} {held : Bool}
theorem cells67 : Try.prog.cellsOf 67 = 3 := by kernel_rfl
theorem bytes67 : Try.prog.bytesOf 67 = 24 := by kernel_rfl
theorem bytes5 : Try.prog.bytesOf 5 = 1 := by kernel_rfl
theorem trod_op {fuel : Nat} {l : List Value} {y : DataW H × List MemPlace} (hl : l.length = 3) (h : DataW.trod enc Try.prog w base sp held fuel 67 l = some y) : ∃ x, l = opL x ∧ x.2.2 ≤ 9223372036854775807 := by
  obtain ⟨a, b, d, rfl⟩ : ∃ a b d, l = [a, b, d] := by
    match l, hl with
    | [a, b, d], _ => exact ⟨a, b, d, rfl⟩
  obtain ⟨m0, z0, h0⟩ := fieldAt Try.underlying67 h 0 3 0 1 rfl cells3
  obtain ⟨m1, z1, h1⟩ := fieldAt Try.underlying67 h 1 3 1 1 rfl cells3
  obtain ⟨m2, z2, h2⟩ := fieldAt Try.underlying67 h 2 3 2 1 rfl cells3
  obtain ⟨n, e, _⟩ := one_int Try.underlying3 h0
  obtain ⟨n2, e2, _⟩ := one_int Try.underlying3 h1
  obtain ⟨n3, e3, r3⟩ := one_int Try.underlying3 h2
  simp at e e2 e3
  have u3 := bounds_i64 r3
  exact ⟨(n, n2, n3), by simp [opL, e, e2, e3], u3.2⟩
theorem trod_ops {fuel : Nat} {l : List Value} {y : DataW H × List MemPlace} (h : DataW.trod enc Try.prog w base sp held fuel 61 l = some y) :
    ∃ u os, l = [u] ∧ (∃ A c, u = .slice A os.length c ∧ os.length ≤ c ∧ c ≤ maxLen ∧ (∀ x ∈ os, x.2.2 ≤ 9223372036854775807) ∧ (0 < os.length → ∃ g o, A = some ⟨g, o, none⟩ ∧ ∀ i x, os[i]? = some x → ∀ j u, (opL x)[j]? = some u → w.cell? ⟨g, o + i * 3 + j, none⟩ = some u)) ∧ ((y.1 = .nil ∧ os = []) ∨ ∃ ds rs, y.1 = .slice ds rs ∧ ds.length = os.length) := by
  obtain ⟨v, els, rfl, h1, h2, h3⟩ := open_rows Try.underlying61 cells67 (by decide) h
  obtain ⟨os, rfl, hos⟩ := known_each (f := opL) (Q := fun x => x.2.2 ≤ 9223372036854775807) els (fun l hl => by
    obtain ⟨hlen, m, y, hy⟩ := h2 l hl
    exact trod_op hlen hy)
  obtain ⟨A, c, rfl, h4, h5, h6⟩ := h1
  rw [List.length_map] at h6 h4
  refine ⟨_, os, rfl, ⟨A, c, by rw [List.length_map], h4, h5, hos, fun hp => ?_⟩, ?_⟩
  · obtain ⟨g, o, rfl, h7⟩ := h6 hp
    exact ⟨g, o, rfl, fun i x hx j u hu => h7 i (opL x) (by rw [List.getElem?_map, hx]; rfl) j u hu⟩
  · rcases h3 with ⟨h, h'⟩ | ⟨ds, rs, h, h', _⟩
    · exact .inl ⟨h, by simpa using h'⟩
    · exact .inr ⟨ds, rs, h, by simpa using h'⟩
/-- How long a slice that came in may be. -/
theorem few {P : Program} {ts : List TypeId} {dd : List (DataW H)} (h : (DataW.weightsEach P ts dd).all (· ≤ reachBytes) = true) {j : Nat} {t e : TypeId} {d : DataW H} {b : Nat} {β : Type} {os : List β} (ht : ts[j]? = some t) (hd : dd[j]? = some d) (hu : P.underlying t = some (.slice e)) (hb : P.bytesOf e = b) (hs : (d = .nil ∧ os = []) ∨ ∃ ds rs, d = .slice ds rs ∧ ds.length = os.length) : os.length * b ≤ 140737488351232 := by
  rcases hs with ⟨_, rfl⟩ | ⟨ds, rs, rfl, hl⟩
  · simp
  · have h1 := sized_slice h ht hd hu
    rw [hb, Nat.add_mul, hl] at h1
    have h2 : reachBytes = 140737488351232 := by decide
    omega
end Go.Proofs.Ytolfmchgcelnmaa.O

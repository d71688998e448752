/- What a parameter that is a list of whole numbers lays open. Own text; Ytfpkdbogapmhmaa stands for the seat's name. -/
import Derived.Test.YtfpkdbogapmhmaaOpen
namespace Go.Proofs.Ytfpkdbogapmhmaa.Open
open Go.RowKit
variable {H : Type} {enc : TypeId × Value → H} {P : Program} {w : World} {base : Nat} {sp : Nat → Bool} {held : Bool}
theorem trod_ints {t e : TypeId} {k : IntKind} {fuel : Nat} {l : List Value} {y : DataW H × List MemPlace} (ht : P.underlying t = some (.slice e)) (he : P.underlying e = some (.int k)) (hc : P.cellsOf e = 1) (h : DataW.trod enc P w base sp held fuel t l = some y) :
    ∃ u ps, l = [u] ∧ (∃ A c, u = .slice A ps.length c ∧ ps.length ≤ c ∧ c ≤ maxLen ∧ (0 < ps.length → ∃ g o, A = some ⟨g, o, none⟩ ∧ ∀ j z, ps[j]? = some z → w.cell? ⟨g, o + j, none⟩ = some (.int k z))) ∧ (∀ z ∈ ps, (Lit.int k z).wf = true) ∧ ((y.1 = .nil ∧ ps = []) ∨ ∃ ds rs, y.1 = .slice ds rs ∧ ds.length = ps.length) := by
  obtain ⟨v, els, rfl, h1, h2, h3⟩ := open_rows ht hc (by decide) h
  obtain ⟨ps, rfl, hw⟩ := known_each (f := fun z : Int => [Value.int k z]) (Q := fun z => (Lit.int k z).wf = true) els (fun l hl => by
    obtain ⟨_, m, y, hy⟩ := h2 l hl
    obtain ⟨n, e, hn⟩ := one_int he hy
    exact ⟨n, e, hn⟩)
  obtain ⟨A, c, rfl, h4, h5, h6⟩ := h1
  rw [List.length_map] at h6 h4
  refine ⟨_, ps, rfl, ⟨A, c, by rw [List.length_map], h4, h5, fun hp => ?_⟩, hw, ?_⟩
  · obtain ⟨g, o, rfl, h7⟩ := h6 hp
    refine ⟨g, o, rfl, fun j u hu => ?_⟩
    have := h7 j [.int k u] (by rw [List.getElem?_map, hu]; rfl) 0 _ rfl
    simpa using this
  · rcases h3 with ⟨h, h'⟩ | ⟨ds, rs, h, h', _⟩
    · exact .inl ⟨h, by simpa using h'⟩
    · exact .inr ⟨ds, rs, h, by simpa using h'⟩
end Go.Proofs.Ytfpkdbogapmhmaa.Open

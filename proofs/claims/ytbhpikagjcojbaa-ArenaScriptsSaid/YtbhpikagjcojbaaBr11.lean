/- The law's script, as it is read: calls with lists in them. -/
import Derived.Test.YtbhpikagjcojbaaBr10
import Derived.Test.YtbhpikagjcojbaaOpens
import Derived.SizedLaws
namespace Go.Proofs.Ytbhpikagjcojbaa.Ar
open Go.RowKit Go.WideShapes Go.ChangeShapes
set_option linter.unusedVariables false
variable {H : Type} {enc : TypeId × Value → H} {w : World} {base : Nat} {sp : Nat → Bool} {held : Bool}
theorem cells3' : Try.prog.cellsOf 3 = 1 := by kernel_rfl
theorem cells5' : Try.prog.cellsOf 5 = 1 := by kernel_rfl
theorem cells29' : Try.prog.cellsOf 29 = 1 := by kernel_rfl
theorem cells36' : Try.prog.cellsOf 36 = 1 := by kernel_rfl
theorem cells48' : Try.prog.cellsOf 48 = 6 := by kernel_rfl
theorem bytes3' : Try.prog.bytesOf 3 = 8 := by kernel_rfl
theorem bytes5' : Try.prog.bytesOf 5 = 1 := by kernel_rfl
/-- A field, and which part of the struct's reading is its own. -/
theorem fieldOf {t : TypeId} {fs : Array Field} {fuel : Nat} {l : List Value} {y : DataW H × List MemPlace} (ht : Try.prog.underlying t = some (.struct fs)) (h : DataW.trod enc Try.prog w base sp held fuel t l = some y) (i : Nat) (ty : TypeId) (off n : Nat) (hf : (fs[i]?).map (fun f => (f.type, f.offset)) = some (ty, off)) (hc : Try.prog.cellsOf ty = n) :
    ∃ m z, DataW.trod enc Try.prog w base sp held m ty ((l.drop off).take n) = some z ∧ ∀ x ∈ z.1.weights Try.prog ty, x ∈ y.1.weights Try.prog t := by
  rw [Option.map_eq_some_iff] at hf
  obtain ⟨f, h1, h2⟩ := hf
  obtain ⟨rfl, rfl⟩ : f.type = ty ∧ f.offset = off := by simpa using h2
  subst hc
  obtain ⟨xs, m, _, rfl, _, h5, h6⟩ := DataW.trod_struct ht h
  have hi := (Array.getElem?_eq_some_iff.1 h1).1
  refine ⟨m, xs[i]'(by omega), ?_, fun x hx => ?_⟩
  · rw [h6 i f h1, List.getElem?_eq_getElem (by omega)]
  · simp only [DataW.weights, ht]
    refine DataW.weights_mem_each (j := i) (t := f.type) (d := (xs[i]'(by omega)).1) ?_ ?_ x hx
    · rw [List.getElem?_map, Array.getElem?_toList, h1]; rfl
    · rw [List.getElem?_map, List.getElem?_eq_getElem (by omega)]; rfl
theorem mem_all {P : Program} {e : TypeId} : ∀ {ds : List (DataW H)} {d : DataW H}, d ∈ ds → ∀ x ∈ d.weights P e, x ∈ DataW.weightsAll P e ds
  | d0 :: ds, d, h, x, hx => by
    simp only [DataW.weightsAll, List.mem_append]
    rcases List.mem_cons.1 h with rfl | h
    · exact .inl hx
    · exact .inr (mem_all h x hx)
theorem len_of {t e : TypeId} {b k : Nat} {d : DataW H} (hu : Try.prog.underlying t = some (.slice e)) (hb : Try.prog.bytesOf e = b) (hs : (d = .nil ∧ k = 0) ∨ ∃ ds rs, d = .slice ds rs ∧ ds.length = k) (hw : ∀ x ∈ d.weights Try.prog t, x ≤ reachBytes) : k * b ≤ 140737488351232 := by
  have h2 : reachBytes = 140737488351232 := by decide
  rcases hs with ⟨_, rfl⟩ | ⟨ds, rs, rfl, rfl⟩
  · simp
  · have := hw ((ds.length + rs.length) * Try.prog.bytesOf e) (by simp [DataW.weights, hu])
    rw [hb, Nat.add_mul] at this
    omega
theorem trod_cl {fuel : Nat} {l : List Value} {y : DataW H × List MemPlace} (hl : l.length = 6) (h : DataW.trod enc Try.prog w base sp held fuel 48 l = some y) (hw : ∀ x ∈ y.1.weights Try.prog 48, x ≤ reachBytes) : ∃ x : Cl, l = clL x ∧ ROp w x.k x.pg x.off x.nn x.vl x.vd := by
  obtain ⟨a, b, c, d, e, f, rfl⟩ : ∃ a b c d e f, l = [a, b, c, d, e, f] := by
    match l, hl with
    | [a, b, c, d, e, f], _ => exact ⟨a, b, c, d, e, f, rfl⟩
  obtain ⟨m0, z0, h0, _⟩ := fieldOf Try.underlying48 h 0 3 0 1 rfl cells3'
  obtain ⟨m1, z1, h1, _⟩ := fieldOf Try.underlying48 h 1 3 1 1 rfl cells3'
  obtain ⟨m2, z2, h2, _⟩ := fieldOf Try.underlying48 h 2 3 2 1 rfl cells3'
  obtain ⟨m3, z3, h3, _⟩ := fieldOf Try.underlying48 h 3 3 3 1 rfl cells3'
  obtain ⟨m4, z4, h4, w4⟩ := fieldOf Try.underlying48 h 4 29 4 1 rfl cells29'
  obtain ⟨m5, z5, h5, w5⟩ := fieldOf Try.underlying48 h 5 36 5 1 rfl cells36'
  obtain ⟨k, e0, _⟩ := Open.one_int Try.underlying3 h0
  obtain ⟨pg, e1, _⟩ := Open.one_int Try.underlying3 h1
  obtain ⟨off, e2, _⟩ := Open.one_int Try.underlying3 h2
  obtain ⟨nn, e3, _⟩ := Open.one_int Try.underlying3 h3
  obtain ⟨vl, L, e4, ⟨AL, cL, rfl, l1, l2, l3⟩, _, ld⟩ := Open.trod_ints Try.underlying29 Try.underlying3 cells3' h4
  obtain ⟨vd, D, e5, ⟨AD, cD, rfl, d1, d2, d3⟩, _, dd⟩ := Open.trod_ints Try.underlying36 Try.underlying5 cells5' h5
  simp at e0 e1 e2 e3 e4 e5
  have b4 := len_of (k := L.length) Try.underlying29 bytes3' (ld.imp (fun h => ⟨h.1, by rw [h.2]; rfl⟩) id) (fun x hx => hw x (w4 x hx))
  have b5 := len_of (k := D.length) Try.underlying36 bytes5' (dd.imp (fun h => ⟨h.1, by rw [h.2]; rfl⟩) id) (fun x hx => hw x (w5 x hx))
  refine ⟨⟨k, pg, off, nn, _, _⟩, by simp [clL, e0, e1, e2, e3, e4, e5], ⟨⟨AL, cL, L, rfl, ⟨AL, cL, rfl, by omega, l3⟩, b4⟩, ⟨AD, cD, D, rfl, d3, by omega⟩⟩⟩
theorem trod_cls {fuel : Nat} {l : List Value} {y : DataW H × List MemPlace} (h : DataW.trod enc Try.prog w base sp held fuel 42 l = some y) (hw : ∀ x ∈ y.1.weights Try.prog 42, x ≤ reachBytes) : ∃ u os, l = [u] ∧ ReadsCl w u os ∧ ∀ x ∈ os, ROp w x.k x.pg x.off x.nn x.vl x.vd := by
  obtain ⟨v, els, rfl, h1, h2, h3⟩ := Open.open_rows Try.underlying42 cells48' (by decide) h
  obtain ⟨os, rfl, hos⟩ := Open.known_each (f := clL) (Q := fun x => ROp w x.k x.pg x.off x.nn x.vl x.vd) els (fun l hl => by
    obtain ⟨i, hi⟩ := List.getElem?_of_mem hl
    rcases h3 with ⟨_, rfl⟩ | ⟨ds, rs, e, _, h4⟩
    · cases hl
    · obtain ⟨m, z, hz, hd⟩ := h4 i l hi
      refine trod_cl (h2 l hl).1 hz (fun x hx => hw x ?_)
      rw [e]
      simp only [DataW.weights, Try.underlying42, List.mem_cons, List.mem_append]
      exact .inr (.inl (mem_all (List.mem_of_getElem? hd) x hx)))
  obtain ⟨A, c, rfl, h4, h5, h6⟩ := h1
  rw [List.length_map] at h6 h4
  refine ⟨_, os, rfl, ⟨A, c, by rw [List.length_map], by omega, fun hp => ?_⟩, hos⟩
  obtain ⟨g, o, rfl, h7⟩ := h6 hp
  exact ⟨g, o, rfl, fun i x hi j u hu => h7 i (clL x) (by rw [List.getElem?_map, hi]; rfl) j u hu⟩
end Go.Proofs.Ytbhpikagjcojbaa.Ar

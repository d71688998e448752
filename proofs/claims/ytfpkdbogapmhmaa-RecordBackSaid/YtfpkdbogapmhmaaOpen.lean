/- What a row's slices lay open: the elements' cells, of elements of one cell or of several. Own text; Ytfpkdbogapmhmaa stands for the seat's name. -/
import Derived.ChangeSlices
import Derived.RowKit
import Derived.Below
import Derived.Carry
namespace Go.Proofs.Ytfpkdbogapmhmaa.Open
open Go.RowKit
variable {H : Type} {enc : TypeId × Value → H} {P : Program} {w : World} {base : Nat} {sp : Nat → Bool} {held : Bool}

/-- A row of elements of n cells each lies behind the slice: els has the elements' cells. -/
def Lies (w : World) (n : Nat) (v : Value) (els : List (List Value)) : Prop :=
  ∃ A c, v = .slice A els.length c ∧ els.length ≤ c ∧ c ≤ maxLen ∧ (0 < els.length → ∃ g o, A = some ⟨g, o, none⟩ ∧ ∀ (i : Nat) (l : List Value), els[i]? = some l → ∀ (j : Nat) (u : Value), l[j]? = some u → w.cell? ⟨g, o + i * n + j, none⟩ = some u)

theorem open_rows {t e : TypeId} {n fuel : Nat} {cs : List Value} {x : DataW H × List MemPlace} (ht : P.underlying t = some (.slice e)) (hc : P.cellsOf e = n) (hn : 0 < n)
    (h : DataW.trod enc P w base sp held fuel t cs = some x) :
    ∃ (v : Value) (els : List (List Value)), cs = [v] ∧ Lies w n v els ∧ (∀ l ∈ els, l.length = n ∧ ∃ m y, DataW.trod enc P w base sp held m e l = some y) ∧
      ((x.1 = .nil ∧ els = []) ∨ ∃ ds rs, x.1 = .slice ds rs ∧ ds.length = els.length ∧ ∀ (i : Nat) (l : List Value), els[i]? = some l → ∃ m y, DataW.trod enc P w base sp held m e l = some y ∧ ds[i]? = some y.1) := by
  subst hc
  rcases DataW.trod_slice ht h with ⟨rfl, rfl⟩ | ⟨a, len, cap, elems, rest, m, _, rfl, rfl, hb, hl, hm, hlen, hel, _, _⟩
  · exact ⟨_, [], rfl, ⟨none, 0, rfl, Nat.le_refl _, Nat.zero_le _, fun h => by simp at h⟩, by simp, .inl ⟨rfl, rfl⟩⟩
  · have each : ∀ i, i < len → ∃ l y, w.cells? base (a.add (i * P.cellsOf e)) (P.cellsOf e) = some l ∧ DataW.trod enc P w base sp held m e l = some y ∧ elems[i]? = some y := by
      intro i hi
      have := hel i hi
      rw [List.getElem?_eq_getElem (by omega), Option.bind_eq_some_iff] at this
      obtain ⟨l, h1, h2⟩ := this
      exact ⟨l, _, h1, h2, List.getElem?_eq_getElem (by omega)⟩
    have look : ∃ els : List (List Value), els.length = len ∧ ∀ i l, els[i]? = some l → w.cells? base (a.add (i * P.cellsOf e)) (P.cellsOf e) = some l ∧ ∃ y, DataW.trod enc P w base sp held m e l = some y ∧ elems[i]? = some y := by
      refine ⟨(List.range len).map fun i => (w.cells? base (a.add (i * P.cellsOf e)) (P.cellsOf e)).getD [], by simp, fun i l hi => ?_⟩
      have hil : i < len := by have := (List.getElem?_eq_some_iff.1 hi).1; simpa using this
      obtain ⟨l', y, h1, h2, h3⟩ := each i hil
      rw [List.getElem?_map, List.getElem?_range hil, Option.map_some, h1] at hi
      obtain rfl : l' = l := by simpa using hi
      exact ⟨h1, y, h2, h3⟩
    obtain ⟨els, he, hels⟩ := look
    refine ⟨_, els, rfl, ⟨some a, cap, by rw [he], by omega, hm, fun hp => ?_⟩, fun l hl => ?_, .inr ⟨_, _, rfl, by simp [he, hlen], fun i l hi => ?_⟩⟩
    · obtain ⟨l0, h0⟩ : ∃ l, els[0]? = some l := ⟨_, List.getElem?_eq_getElem hp⟩
      have hs : a.spot = none := by
        obtain ⟨_, h2, h3⟩ := World.cells?_some (hels 0 l0 h0).1
        have h4 := h3 0 hn
        rw [Nat.zero_mul, List.getElem?_eq_getElem (by omega)] at h4
        unfold World.cell? Addr.add at h4
        simp only [if_true] at h4
        split at h4
        · split at h4
          · cases h4
          · rename_i hsp
            simpa using hsp
        · cases h4
      obtain ⟨b, o, s⟩ := a
      obtain rfl : s = none := hs
      refine ⟨b, o, rfl, fun i l hi j u hu => ?_⟩
      obtain ⟨_, h2, h3⟩ := World.cells?_some (hels i l hi).1
      have hj := (List.getElem?_eq_some_iff.1 hu).1
      have h4 := (h3 j (by omega)).trans hu
      rw [← h4]
      congr 1
      unfold Addr.add
      split <;> split <;> simp_all <;> omega
    · obtain ⟨i, hi⟩ := List.getElem?_of_mem hl
      obtain ⟨h1, y, h2, _⟩ := hels i l hi
      exact ⟨(World.cells?_some h1).2.1, m, y, h2⟩
    · obtain ⟨_, y, h2, h3⟩ := hels i l hi
      exact ⟨m, y, h2, by rw [List.getElem?_map, h3]; rfl⟩

theorem Lies.len {n : Nat} {v : Value} {els : List (List Value)} (h : Lies w n v els) : els.length ≤ maxLen := by
  obtain ⟨_, _, _, h1, h2, _⟩ := h
  exact Nat.le_trans h1 h2
/-- A world that keeps all that is elder keeps the row. -/
theorem Lies.below {n : Nat} {v : Value} {els : List (List Value)} {w w' : World} (h : Lies w n v els) (hb : Below w.heap.size w w') : Lies w' n v els := by
  obtain ⟨A, c, h1, h2, h3, h4⟩ := h
  refine ⟨A, c, h1, h2, h3, fun hp => ?_⟩
  obtain ⟨g, o, h5, h6⟩ := h4 hp
  exact ⟨g, o, h5, fun i l hi j u hu => (hb.cell (World.block_lt_of_cell? w _ (h6 i l hi j u hu))).trans (h6 i l hi j u hu)⟩
/-- The elements are known one by one. -/
theorem known_each {α : Type} {f : α → List Value} {Q : α → Prop} : ∀ (els : List (List Value)), (∀ l ∈ els, ∃ a, l = f a ∧ Q a) → ∃ as : List α, els = as.map f ∧ ∀ a ∈ as, Q a
  | [], _ => ⟨[], rfl, by simp⟩
  | l :: ls, h => by
    obtain ⟨a, rfl, ha⟩ := h l (by simp)
    obtain ⟨as, rfl, has⟩ := known_each ls (fun l hl => h l (by simp [hl]))
    exact ⟨a :: as, rfl, by simpa using ⟨ha, has⟩⟩
/-- A cell of an integer. -/
theorem one_int {k : IntKind} {t : TypeId} {fuel : Nat} {l : List Value} {y : DataW H × List MemPlace} (ht : P.underlying t = some (.int k)) (h : DataW.trod enc P w base sp held fuel t l = some y) : ∃ n, l = [.int k n] ∧ (Lit.int k n).wf = true := by
  obtain ⟨n, h1, _, h2⟩ := DataW.trod_int ht h
  exact ⟨n, h1, h2⟩
/-- A struct's field: its cells are trodden by themselves. -/
theorem field {t : TypeId} {fs : Array Field} {fuel : Nat} {l : List Value} {y : DataW H × List MemPlace} (ht : P.underlying t = some (.struct fs)) (h : DataW.trod enc P w base sp held fuel t l = some y) (i : Nat) (f : Field) (hf : fs[i]? = some f) :
    ∃ m z, DataW.trod enc P w base sp held m f.type ((l.drop f.offset).take (P.cellsOf f.type)) = some z := by
  obtain ⟨xs, n, _, _, _, h2, h3⟩ := DataW.trod_struct ht h
  have hi := (Array.getElem?_eq_some_iff.1 hf).1
  refine ⟨n, xs[i]'(by omega), ?_⟩
  rw [h3 i f hf, List.getElem?_eq_getElem (by omega)]
theorem fieldAt {t : TypeId} {fs : Array Field} {fuel : Nat} {l : List Value} {y : DataW H × List MemPlace} (ht : P.underlying t = some (.struct fs)) (h : DataW.trod enc P w base sp held fuel t l = some y) (i : Nat) (ty : TypeId) (off n : Nat) (hf : (fs[i]?).map (fun f => (f.type, f.offset)) = some (ty, off)) (hc : P.cellsOf ty = n) :
    ∃ m z, DataW.trod enc P w base sp held m ty ((l.drop off).take n) = some z := by
  rw [Option.map_eq_some_iff] at hf
  obtain ⟨f, h1, h2⟩ := hf
  obtain ⟨rfl, rfl⟩ : f.type = ty ∧ f.offset = off := by simpa using h2
  subst hc
  exact field ht h i f h1
/-- The same, and where the field's reading stands in the struct's. -/
theorem fieldIn {t : TypeId} {fs : Array Field} {fuel : Nat} {l : List Value} {y : DataW H × List MemPlace} (ht : P.underlying t = some (.struct fs)) (h : DataW.trod enc P w base sp held fuel t l = some y) (i : Nat) (ty : TypeId) (off n : Nat) (hf : (fs[i]?).map (fun f => (f.type, f.offset)) = some (ty, off)) (hc : P.cellsOf ty = n) :
    ∃ m z, DataW.trod enc P w base sp held m ty ((l.drop off).take n) = some z ∧ ∃ parts, y.1 = .agg parts ∧ z.1 ∈ parts := by
  rw [Option.map_eq_some_iff] at hf
  obtain ⟨f, h1, h2⟩ := hf
  obtain ⟨rfl, rfl⟩ : f.type = ty ∧ f.offset = off := by simpa using h2
  subst hc
  obtain ⟨xs, m, _, rfl, _, h5, h6⟩ := DataW.trod_struct ht h
  have hi := (Array.getElem?_eq_some_iff.1 h1).1
  refine ⟨m, xs[i]'(by omega), ?_, _, rfl, List.mem_map.2 ⟨_, List.getElem_mem _, rfl⟩⟩
  rw [h6 i f h1, List.getElem?_eq_getElem (by omega)]
end Go.Proofs.Ytfpkdbogapmhmaa.Open

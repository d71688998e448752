/- What the rows' slices hold: capabilities, steps. -/
import Derived.Test.YtepjhdppmegloaaCaps9
namespace Go.Proofs.Ytepjhdppmegloaa.Caps
open Go.RowKit Go.Proofs.Ytepjhdppmegloaa.Open
variable {H : Type} {enc : TypeId × Value → H} {w : World} {base : Nat} {sp : Nat → Bool} {held : Bool}
def capL (c : Cap) : List Value := [.int .i64 c.obj, .int .u64 c.hi, .int .u64 c.lo]
theorem cells3 : Try.prog.cellsOf 3 = 1 := by kernel_rfl
theorem cells4 : Try.prog.cellsOf 4 = 1 := by kernel_rfl
theorem cells35 : Try.prog.cellsOf 35 = 2 := by kernel_rfl
theorem cells37 : Try.prog.cellsOf 37 = 3 := by kernel_rfl
theorem cells38 : Try.prog.cellsOf 38 = 1 := by kernel_rfl
theorem cells40 : Try.prog.cellsOf 40 = 7 := by kernel_rfl
theorem cells33 : Try.prog.cellsOf 33 = 1 := by kernel_rfl
theorem trod_cap {fuel : Nat} {l : List Value} {y : DataW H × List MemPlace} (hl : l.length = 3) (h : DataW.trod enc Try.prog w base sp held fuel 37 l = some y) : ∃ c, l = capL c := by
  obtain ⟨a, b, d, rfl⟩ : ∃ a b d, l = [a, b, d] := by
    match l, hl with
    | [a, b, d], _ => exact ⟨a, b, d, rfl⟩
  obtain ⟨m0, z0, h0⟩ := fieldAt Try.underlying37 h 0 3 0 1 rfl cells3
  obtain ⟨m1, z1, h1⟩ := fieldAt Try.underlying37 h 1 35 1 2 rfl cells35
  obtain ⟨m2, z2, h2⟩ := fieldAt Try.underlying35 h1 0 33 0 1 rfl cells33
  obtain ⟨m3, z3, h3⟩ := fieldAt Try.underlying35 h1 1 33 1 1 rfl cells33
  obtain ⟨n, e, _⟩ := one_int Try.underlying3 h0
  obtain ⟨n2, e2, _⟩ := one_int Try.underlying33 h2
  obtain ⟨n3, e3, _⟩ := one_int Try.underlying33 h3
  refine ⟨⟨n, n2, n3⟩, ?_⟩
  simp at e e2 e3
  simp [capL, e, e2, e3]
theorem trod_bool1 {t : TypeId} {fuel : Nat} {l : List Value} {y : DataW H × List MemPlace} (ht : Try.prog.underlying t = some .bool) (h : DataW.trod enc Try.prog w base sp held fuel t l = some y) : ∃ b, l = [.bool b] := by
  obtain ⟨b, h1, _⟩ := DataW.trod_bool ht h
  exact ⟨b, h1⟩
/-- A slice of whole numbers. -/
theorem trod_ints {fuel : Nat} {l : List Value} {y : DataW H × List MemPlace} (h : DataW.trod enc Try.prog w base sp held fuel 38 l = some y) :
    ∃ u ps, l = [u] ∧ ReadsInts w u ps ∧ (∀ z ∈ ps, (Lit.int .i64 z).wf = true) ∧ ((y.1 = .nil ∧ ps = []) ∨ ∃ ds rs, y.1 = .slice ds rs ∧ ds.length = ps.length) := by
  obtain ⟨v, els, rfl, h1, h2, h3⟩ := open_rows Try.underlying38 cells3 (by decide) h
  obtain ⟨ps, rfl, hw⟩ := known_each (f := fun z : Int => [Value.int .i64 z]) (Q := fun z => (Lit.int .i64 z).wf = true) els (fun l hl => by
    obtain ⟨_, m, y, hy⟩ := h2 l hl
    obtain ⟨n, e, hn⟩ := one_int Try.underlying3 hy
    exact ⟨n, e, hn⟩)
  have hlen := h1.len
  obtain ⟨A, c, rfl, h4, h5, h6⟩ := h1
  rw [List.length_map] at h6 hlen
  refine ⟨_, ps, rfl, ⟨A, c, by rw [List.length_map], hlen, fun hp => ?_⟩, hw, ?_⟩
  · obtain ⟨g, o, rfl, h7⟩ := h6 hp
    refine ⟨g, o, rfl, fun j u hu => ?_⟩
    have := h7 j [.int .i64 u] (by rw [List.getElem?_map, hu]; rfl) 0 _ rfl
    simpa using this
  · rcases h3 with ⟨h, h'⟩ | ⟨ds, rs, h, h', _⟩
    · exact .inl ⟨h, by simpa using h'⟩
    · exact .inr ⟨ds, rs, h, by simpa using h'⟩
/-- A slice of capabilities. -/
theorem trod_caps {fuel : Nat} {l : List Value} {y : DataW H × List MemPlace} (h : DataW.trod enc Try.prog w base sp held fuel 43 l = some y) :
    ∃ u cs, l = [u] ∧ ReadsCaps w u cs ∧ ((y.1 = .nil ∧ cs = []) ∨ ∃ ds rs, y.1 = .slice ds rs ∧ ds.length = cs.length) := by
  obtain ⟨v, els, rfl, h1, h2, h3⟩ := open_rows Try.underlying43 cells37 (by decide) h
  obtain ⟨cs, rfl, _⟩ := known_each (f := capL) (Q := fun _ => True) els (fun l hl => by
    obtain ⟨hl3, m, y, hy⟩ := h2 l hl
    obtain ⟨c, e⟩ := trod_cap hl3 hy
    exact ⟨c, e, trivial⟩)
  have hlen := h1.len
  obtain ⟨A, c, rfl, h4, h5, h6⟩ := h1
  rw [List.length_map] at h6 hlen
  refine ⟨_, cs, rfl, ⟨A, c, by rw [List.length_map], hlen, fun hp => ?_⟩, ?_⟩
  · obtain ⟨g, o, rfl, h7⟩ := h6 hp
    refine ⟨g, o, rfl, fun j u hu => ?_⟩
    have hj : j < cs.length * 3 := by
      have := (List.getElem?_eq_some_iff.1 hu).1
      rwa [capsC_length] at this
    have hi : j / 3 < cs.length := by omega
    have := h7 (j / 3) (capL cs[j / 3]) (by rw [List.getElem?_map, List.getElem?_eq_getElem hi]; rfl) (j % 3) u (by
      have := capsC_at cs (j / 3) (j % 3) hi (by omega)
      rw [show j / 3 * 3 + j % 3 = j by omega, hu, List.getD_eq_getElem?_getD, List.getElem?_eq_getElem hi] at this
      exact this.symm)
    rw [show o + j / 3 * 3 + j % 3 = o + j by omega] at this
    exact this
  · rcases h3 with ⟨h, h'⟩ | ⟨ds, rs, h, h', _⟩
    · exact .inl ⟨h, by simpa using h'⟩
    · exact .inr ⟨ds, rs, h, by simpa using h'⟩
/-- A step. -/
theorem trod_step {fuel : Nat} {l : List Value} {y : DataW H × List MemPlace} (hl : l.length = 7) (h : DataW.trod enc Try.prog w base sp held fuel 40 l = some y) :
    ∃ s : Step, l = s.cells ∧ ReadsInts w s.u s.ps ∧ (s.ps = [] ∨ ∃ ds rs parts, y.1 = .agg parts ∧ DataW.slice ds rs ∈ parts ∧ ds.length = s.ps.length) := by
  obtain ⟨a, b, c, d, e, f, g, rfl⟩ : ∃ a b c d e f g, l = [a, b, c, d, e, f, g] := by
    match l, hl with
    | [a, b, c, d, e, f, g], _ => exact ⟨a, b, c, d, e, f, g, rfl⟩
  obtain ⟨m0, z0, h0⟩ := fieldAt Try.underlying40 h 0 4 0 1 rfl cells4
  obtain ⟨m1, z1, h1⟩ := fieldAt Try.underlying40 h 1 3 1 1 rfl cells3
  obtain ⟨m2, z2, h2⟩ := fieldAt Try.underlying40 h 2 37 2 3 rfl cells37
  obtain ⟨m3, z3, h3⟩ := fieldAt Try.underlying40 h 3 3 5 1 rfl cells3
  obtain ⟨m4, z4, h4, parts, h5, h6⟩ := fieldIn Try.underlying40 h 4 38 6 1 rfl cells38
  obtain ⟨b0, e0⟩ := trod_bool1 Try.underlying4 h0
  obtain ⟨k, e1, _⟩ := one_int Try.underlying3 h1
  obtain ⟨x, e2⟩ := trod_cap rfl h2
  obtain ⟨n, e3, _⟩ := one_int Try.underlying3 h3
  obtain ⟨u, ps, e4, hu, _, hd⟩ := trod_ints h4
  simp [capL] at e0 e1 e2 e3 e4
  refine ⟨⟨b0, k, x, n, u, ps⟩, by simp [Step.cells, e0, e1, e2, e3, e4], hu, ?_⟩
  rcases hd with ⟨_, rfl⟩ | ⟨ds, rs, e5, e6⟩
  · exact .inl rfl
  · exact .inr ⟨ds, rs, parts, h5, by rw [← e5]; exact h6, e6⟩
/-- A script: each step, and how many places it has. -/
theorem trod_steps {fuel : Nat} {l : List Value} {y : DataW H × List MemPlace} (h : DataW.trod enc Try.prog w base sp held fuel 22 l = some y) :
    ∃ (v : Value) (ss : List Step), l = [v] ∧ Open.Lies w 7 v (ss.map Step.cells) ∧ ∀ s ∈ ss, ReadsInts w s.u s.ps ∧ (s.ps = [] ∨ ∃ ds rs parts D R, y.1 = .slice D R ∧ DataW.agg parts ∈ D ∧ DataW.slice ds rs ∈ parts ∧ ds.length = s.ps.length) := by
  obtain ⟨v, els, rfl, h1, h2, h3⟩ := open_rows Try.underlying22 cells40 (by decide) h
  obtain ⟨ss, rfl, hs⟩ := known_each (f := Step.cells) (Q := fun s => ReadsInts w s.u s.ps ∧ (s.ps = [] ∨ ∃ ds rs parts D R, y.1 = .slice D R ∧ DataW.agg parts ∈ D ∧ DataW.slice ds rs ∈ parts ∧ ds.length = s.ps.length)) els (fun l hl => by
    obtain ⟨hl7, _⟩ := h2 l hl
    rcases h3 with ⟨_, rfl⟩ | ⟨D, R, hD, hlen, h4⟩
    · simp at hl
    · obtain ⟨i, hi⟩ := List.getElem?_of_mem hl
      obtain ⟨m, z, hz, hDi⟩ := h4 i l hi
      obtain ⟨s, e, hu, hp⟩ := trod_step hl7 hz
      refine ⟨s, e, hu, hp.imp id ?_⟩
      rintro ⟨ds, rs, parts, e1, e2, e3⟩
      exact ⟨ds, rs, parts, D, R, hD, by rw [← e1]; exact List.mem_of_getElem? hDi, e2, e3⟩)
  exact ⟨v, ss, rfl, h1, hs⟩
end Go.Proofs.Ytepjhdppmegloaa.Caps

/- What a row's list of items lays open. -/
import Derived.Test.YtolfmchgcelnmaaOcts2
import Derived.Test.YtolfmchgcelnmaaOc20
namespace Go.Proofs.Ytolfmchgcelnmaa.O
open Go.RowKit Go.WideShapes Go.ChangeShapes Go.Proofs.Ytolfmchgcelnmaa.Open
variable {H : Type} {enc : TypeId × Value → H} {w : World} {base : Nat} {sp : Nat → Bool} {held : Bool}
theorem cells73 : Try.prog.cellsOf 73 = 6 := by kernel_rfl
theorem cells22 : Try.prog.cellsOf 22 = 1 := by kernel_rfl
theorem trod_item {fuel : Nat} {l : List Value} {y : DataW H × List MemPlace} (hl : l.length = 6) (h : DataW.trod enc Try.prog w base sp held fuel 73 l = some y) : ∃ x : It, l = itL x ∧ Good w x ∧ x.zs.length + 1 ≤ Rows.uptoBulk y.1 := by
  obtain ⟨a, b, d, e, f, g, rfl⟩ : ∃ a b d e f g, l = [a, b, d, e, f, g] := by
    match l, hl with
    | [a, b, d, e, f, g], _ => exact ⟨a, b, d, e, f, g, rfl⟩
  obtain ⟨m0, z0, h0⟩ := fieldAt Try.underlying73 h 0 3 0 1 rfl cells3
  obtain ⟨m1, z1, h1⟩ := fieldAt Try.underlying73 h 1 23 1 1 rfl cells23
  obtain ⟨m2, z2, h2⟩ := fieldAt Try.underlying73 h 2 27 2 3 rfl cells27
  obtain ⟨m3, z3, h3, parts, hp, hz⟩ := fieldIn Try.underlying73 h 3 22 5 1 rfl cells22
  obtain ⟨n, e0, r0⟩ := one_int Try.underlying3 h0
  obtain ⟨v, e1, r1⟩ := one_int Try.underlying23 h1
  obtain ⟨obj, hi, lo, e2, r2, u2, u3⟩ := trod_cap (by rfl) h2
  obtain ⟨vv, zs, e3, ⟨A, c, rfl, q1, q2, q3⟩, wf, ld⟩ := trod_ints Try.underlying22 Try.underlying5 cells5 h3
  simp at e0 e1 e2 e3
  obtain ⟨rfl, rfl, rfl⟩ := e2
  have b0 := bounds_i64 r0
  have b1 := bounds_u64 r1
  refine ⟨⟨n, v, obj, hi, lo, A, zs.length, c, zs⟩, by simp [itL, e0, e1, e3], ⟨b0.1, b0.2, b1.1, by have := b1.2; show v < _; omega, u2, u3, rfl, bytes_of wf, ⟨A, c, rfl, q1, q2, q3⟩⟩, ?_⟩
  rw [hp]
  have h4 := bulks.part_le hz
  have h5 := few_of ld
  show zs.length + 1 ≤ _
  simp only [Rows.uptoBulk]
  omega
theorem cost_bulk (f : Nat → It) (ds : List (DataW H)) (h : ∀ i d, ds[i]? = some d → (f i).zs.length + 1 ≤ Rows.uptoBulk d) : ∀ n, n ≤ ds.length → cost f n ≤ Rows.uptoBulkAll (ds.take n)
  | 0, _ => Nat.zero_le _
  | n + 1, hn => by
    have ih := cost_bulk f ds h n (by omega)
    have h1 := h n _ (List.getElem?_eq_getElem (show n < ds.length by omega))
    rw [List.take_succ_eq_append_getElem (show n < ds.length by omega), bulks.append]
    simp only [cost, Rows.uptoBulkAll]
    omega
theorem trod_items {fuel : Nat} {l : List Value} {y : DataW H × List MemPlace} (h : DataW.trod enc Try.prog w base sp held fuel 71 l = some y) :
    ∃ u os, l = [u] ∧ ReadsIt w u os ∧ (∀ x ∈ os, Good w x) ∧ os.length ≤ Rows.uptoBulk y.1 ∧ cost (fun i => msk ((os ++ [it0]).getD i it0)) (os.length + 1) ≤ Rows.uptoBulk y.1 + 1 := by
  obtain ⟨v, els, rfl, h1, h2, h3⟩ := open_rows Try.underlying71 cells73 (by decide) h
  obtain ⟨os, rfl, hos⟩ := known_each (f := itL) (Q := fun x => Good w x) els (fun l hl => by
    obtain ⟨hlen, m, y, hy⟩ := h2 l hl
    obtain ⟨x, e, hg, _⟩ := trod_item hlen hy
    exact ⟨x, e, hg⟩)
  obtain ⟨A, c, rfl, h4, h5, h6⟩ := h1
  rw [List.length_map] at h6 h4
  refine ⟨_, os, rfl, ⟨A, c, by rw [List.length_map], h4, h5, fun hp => ?_⟩, hos, ?_⟩
  · obtain ⟨g, o, rfl, h7⟩ := h6 hp
    refine ⟨g, o, rfl, fun j u hu => ?_⟩
    have hj := (List.getElem?_eq_some_iff.1 hu).1
    rw [itC_len] at hj
    have hd : j / 6 < os.length := by omega
    have e : j = j / 6 * 6 + j % 6 := by omega
    rw [e] at hu
    rw [itC_at os _ _ hd (by omega)] at hu
    have e2 : os.getD (j / 6) it0 = os[j / 6] := by simp [List.getD, hd]
    rw [e2] at hu
    have := h7 (j / 6) (itL os[j / 6]) (by rw [List.getElem?_map, List.getElem?_eq_getElem hd]; rfl) (j % 6) u hu
    rw [← this]
    congr 2
    omega
  · have key : ∀ (ds : List (DataW H)), ds.length = (os.map itL).length → (∀ (i : Nat) (l : List Value), (os.map itL)[i]? = some l → ∃ m y, DataW.trod enc Try.prog w base sp held m 73 l = some y ∧ ds[i]? = some y.1) → cost (fun i => msk ((os ++ [it0]).getD i it0)) (os.length + 1) ≤ Rows.uptoBulkAll ds + 1 := fun ds hd hds => by
      rw [List.length_map] at hd
      have h8 := cost_bulk (H := H) (fun i => msk ((os ++ [it0]).getD i it0)) ds (fun i d hi => by
        have hlt : i < os.length := by have := (List.getElem?_eq_some_iff.1 hi).1; omega
        obtain ⟨m, y, hy, hyd⟩ := hds i (itL os[i]) (by rw [List.getElem?_map, List.getElem?_eq_getElem hlt]; rfl)
        rw [hi] at hyd
        obtain rfl : d = y.1 := by simpa using hyd
        obtain ⟨x', e, hg, hb⟩ := trod_item (by rfl) hy
        have e1 : (os ++ [it0]).getD i it0 = os[i] := by simp [List.getD, List.getElem?_append_left hlt, hlt]
        have e2 : os[i].n = x'.n := by simp [itL] at e; exact e.2.2.2.2.2.2.1
        show ((os ++ [it0]).getD i it0).zs.length + 1 ≤ _
        rw [e1, (hos _ (List.getElem_mem hlt)).hn, e2, ← hg.hn]
        exact hb) os.length (by omega)
      rw [← hd, List.take_length] at h8
      have e3 : (os ++ [it0]).getD os.length it0 = it0 := by simp [List.getD]
      simp only [cost]
      rw [show (msk ((os ++ [it0]).getD os.length it0)).zs.length = 0 by rw [e3]; rfl, ← hd]
      omega
    rcases h3 with ⟨hn, h'⟩ | ⟨ds, rs, hn, h', h8⟩
    · obtain rfl : os = [] := by simpa using h'
      exact ⟨Nat.zero_le _, by have := key [] rfl (by simp); rw [hn]; simp [Rows.uptoBulk, Rows.uptoBulkAll] at this ⊢; omega⟩
    · have h9 := key ds h' h8
      have h10 := bulks.slice_elems ds rs
      have h11 := bulks.length_le ds
      rw [List.length_map] at h'
      rw [hn]
      exact ⟨by omega, by omega⟩
end Go.Proofs.Ytolfmchgcelnmaa.O

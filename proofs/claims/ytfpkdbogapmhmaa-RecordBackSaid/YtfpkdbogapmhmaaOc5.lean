/- The program's reader: new, what is left, the end, a number. -/
import Derived.Test.YtfpkdbogapmhmaaOc4
namespace Go.Proofs.Ytfpkdbogapmhmaa.O
open Go.RowKit Go.Proofs.Ytfpkdbogapmhmaa.Mem
/-- A reader at block r: these bytes are left; all it leads to lies in F. -/
structure RdV (T : TypeId) (w : World) (r : Nat) (A : Option Addr) (c : Nat) (zs : List Int) (F : Nat → Prop) : Prop where
  row : w.heap[r]? = some (.cells #[.slice A zs.length c] T (0, 0))
  read : RB w (.slice A zs.length c) zs
  hr : F r
  hd : 0 < zs.length → ∀ g o, A = some ⟨g, o, none⟩ → F g ∧ g ≠ r
  fm : (A = none ∧ c = 0) ∨ ∃ g o, A = some ⟨g, o, none⟩
def Rd (T : TypeId) (w : World) (r : Nat) (zs : List Int) (F : Nat → Prop) : Prop := ∃ A c, RdV T w r A c zs F
section
variable {T : TypeId} {w w' : World} {r : Nat} {A : Option Addr} {c : Nat} {zs : List Int} {F : Nat → Prop}
theorem RdV.data (h : RdV T w r A c zs F) : zs.length ≤ c ∧ c ≤ 9223372036854775807 ∧ (0 < zs.length → ∃ g o, A = some ⟨g, o, none⟩ ∧ ∀ j u, zs[j]? = some u → w.cell? ⟨g, o + j, none⟩ = some (.int .u8 u)) := by
  obtain ⟨A', c', e, h1, h2, h3⟩ := h.read
  obtain ⟨rfl, rfl⟩ : A = A' ∧ c = c' := by simpa using e
  exact ⟨h1, by unfold maxLen at h2; omega, h3⟩
theorem RdV.kept {S : Nat → Prop} (h : RdV T w r A c zs F) (hk : Kept S w w') (hS : ∀ b, F b → ¬ S b) : RdV T w' r A c zs F := by
  obtain ⟨A', c', e, h1, h2, h3⟩ := h.read
  obtain ⟨rfl, rfl⟩ : A = A' ∧ c = c' := by simpa using e
  refine ⟨hk.row h.row (hS r h.hr), ⟨A, c, rfl, h1, h2, fun hp => ?_⟩, h.hr, h.hd, h.fm⟩
  obtain ⟨g, o, rfl, h4⟩ := h3 hp
  exact ⟨g, o, rfl, fun j u hu => (hk.cell (World.block_lt_of_cell? w _ (h4 j u hu)) (hS g (h.hd hp g o rfl).1)).trans (h4 j u hu)⟩
theorem Rd.kept {S : Nat → Prop} (h : Rd T w r zs F) (hk : Kept S w w') (hS : ∀ b, F b → ¬ S b) : Rd T w' r zs F := by
  obtain ⟨A, c, h⟩ := h
  exact ⟨A, c, h.kept hk hS⟩
theorem Rd.below (h : Rd T w r zs F) (hb : Below w.heap.size w w') : Rd T w' r zs F := h.kept (S := fun _ => False) (Kept.of_below hb) (fun _ _ h => h)
theorem Rd.lt (h : Rd T w r zs F) : r < w.heap.size := by
  obtain ⟨A, c, h⟩ := h
  exact lt_of_row h.row
/-- The reader has gone on by k bytes. -/
theorem RdV.onV (h : RdV T w r A c zs F) {k : Nat} (hk : k ≤ zs.length) (_hk0 : 0 ≤ k) {A' : Option Addr} {c' : Nat} (he : (c = k ∧ A' = A ∧ c' = 0) ∨ (c ≠ k ∧ c' = c - k ∧ ∀ g o, A = some ⟨g, o, none⟩ → A' = some ⟨g, o + k, none⟩)) :
    RdV T (w.setCell ⟨r, 0, none⟩ (.slice A' (zs.length - k) c')) r A' c' (zs.drop k) F ∧ Kept (fun b => b = r) w (w.setCell ⟨r, 0, none⟩ (.slice A' (zs.length - k) c')) := by
  have hkp : Kept (fun b => b = r) w (w.setCell ⟨r, 0, none⟩ (.slice A' (zs.length - k) c')) := (Kept.refl (fun b => b = r) w).setCell (p := ⟨r, 0, none⟩) (.inl rfl) _
  obtain ⟨h1, h2, h3⟩ := h.data
  have hl : (zs.drop k).length = zs.length - k := List.length_drop
  refine ⟨⟨?_, ⟨A', c', rfl, ?_, ?_, fun hp => ?_⟩, h.hr, fun hp g o e => ?_, ?_⟩, hkp⟩
  · rw [heap_setCell_same w r 0 _ _ _ h.row, hl]
    simp
  · rw [hl]; rcases he with ⟨e1, _, e2⟩ | ⟨_, e2, _⟩ <;> omega
  · unfold maxLen; rcases he with ⟨e1, _, e2⟩ | ⟨_, e2, _⟩ <;> omega
  · rw [hl] at hp
    obtain ⟨g, o, rfl, h4⟩ := h3 (by omega)
    rcases he with ⟨e1, _, _⟩ | ⟨_, _, e2⟩
    · omega
    · refine ⟨g, o + k, e2 g o rfl, fun j u hu => ?_⟩
      rw [List.getElem?_drop] at hu
      have h5 := h4 (k + j) u hu
      rw [Nat.add_assoc]
      exact (hkp.cell (World.block_lt_of_cell? w _ h5) (h.hd (by omega) g o rfl).2).trans h5
  · rw [hl] at hp
    obtain ⟨g', o', rfl, h4⟩ := h3 (by omega)
    rcases he with ⟨e1, _, _⟩ | ⟨_, _, e2⟩
    · omega
    · rw [e2 g' o' rfl] at e
      obtain ⟨rfl, _⟩ : g' = g ∧ o' + k = o := by simpa using e
      exact h.hd (by omega) g' o' rfl
  · rcases h.fm with ⟨rfl, hc0⟩ | ⟨g, o, rfl⟩
    · rcases he with ⟨_, e1, e2⟩ | ⟨e1, _, _⟩
      · exact .inl ⟨e1, e2⟩
      · omega
    · rcases he with ⟨_, e1, _⟩ | ⟨_, _, e2⟩
      · exact .inr ⟨g, o, e1⟩
      · exact .inr ⟨g, o + k, e2 g o rfl⟩
theorem RdV.on (h : RdV T w r A c zs F) {k : Nat} (hk : k ≤ zs.length) (_hk0 : 0 ≤ k) {A' : Option Addr} {c' : Nat} (he : (c = k ∧ A' = A ∧ c' = 0) ∨ (c ≠ k ∧ c' = c - k ∧ ∀ g o, A = some ⟨g, o, none⟩ → A' = some ⟨g, o + k, none⟩)) :
    Rd T (w.setCell ⟨r, 0, none⟩ (.slice A' (zs.length - k) c')) r (zs.drop k) F ∧ Kept (fun b => b = r) w (w.setCell ⟨r, 0, none⟩ (.slice A' (zs.length - k) c')) :=
  ⟨⟨A', c', (h.onV hk _hk0 he).1⟩, (h.onV hk _hk0 he).2⟩
/-- What is made later leaves the reader as it is. -/
theorem RdV.far (h : RdV T w r A c zs F) {p : Nat} (hk : Kept (fun b => p ≤ b) w w') (hr : r < p) (hg : 0 < zs.length → ∀ g o, A = some ⟨g, o, none⟩ → g < p) : RdV T w' r A c zs F := by
  obtain ⟨A', c', e, h1, h2, h3⟩ := h.read
  obtain ⟨rfl, rfl⟩ : A = A' ∧ c = c' := by simpa using e
  refine ⟨hk.row h.row (by omega), ⟨A, c, rfl, h1, h2, fun hp => ?_⟩, h.hr, h.hd, h.fm⟩
  obtain ⟨g, o, rfl, h4⟩ := h3 hp
  exact ⟨g, o, rfl, fun j u hu => (hk.cell (World.block_lt_of_cell? w _ (h4 j u hu)) (by have := hg hp g o rfl; show ¬ p ≤ g; omega)).trans (h4 j u hu)⟩
theorem RdV.low (h : RdV T w r A c zs F) (hp : 0 < zs.length) : ∀ g o, A = some ⟨g, o, none⟩ → g < w.heap.size := fun g o e => by
  obtain ⟨g', o', e', h4⟩ := h.data.2.2 hp
  obtain ⟨rfl, rfl⟩ : g = g' ∧ o = o' := by subst e; simpa using e'
  have := h4 0 _ (List.getElem?_eq_getElem hp)
  exact World.block_lt_of_cell? w _ this
theorem RB.take {v : Value} (h : RB w (.slice A zs.length c) zs) {k : Nat} (hk : k ≤ zs.length) (hv : v = .slice A k c) : RB w v (zs.take k) := by
  subst hv
  obtain ⟨A', c', e, h1, h2, h3⟩ := h
  obtain ⟨rfl, rfl⟩ : A = A' ∧ c = c' := by simpa using e
  have hl : (zs.take k).length = k := by rw [List.length_take]; omega
  refine ⟨A, c, by rw [hl], by omega, h2, fun hp => ?_⟩
  rw [hl] at hp
  obtain ⟨g, o, rfl, h4⟩ := h3 (by omega)
  refine ⟨g, o, rfl, fun j u hu => h4 j u ?_⟩
  have hj := (List.getElem?_eq_some_iff.1 hu).1
  rw [hl] at hj
  rwa [List.getElem?_take_of_lt hj] at hu
end
set_option maxHeartbeats 1000000 in
theorem left_any (w : World) (r : Nat) (zs : List Int) (F : Nat → Prop) (h : Rd 95 w r zs F) : Calls Try.prog 72 #[.pointer (some ⟨r, 0, none⟩)] w fun e w' => e = .returned (.int .i64 zs.length) ∧ w = w' := by
  obtain ⟨A, c, h⟩ := h
  have c0 : w.cell? ⟨r, 0, none⟩ = some (.slice A zs.length c) := cell_row h.row rfl
  clear h
  go_enter Try.func72, Try.ntmps72
  go_wp2
  go_ret
  exact ⟨rfl, rfl⟩
def endZ (zs : List Int) : Int := if zs.length = 0 then 0 else 22
set_option maxHeartbeats 1000000 in
theorem reader_any (w : World) (v : Value) (zs : List Int) (hb : zs.length ≤ 140737488355000) (h : RB w v zs) : Calls Try.prog 38 #[v] w fun e w' => ∃ r, e = .returned (.pointer (some ⟨r, 0, none⟩)) ∧ Below w.heap.size w w' ∧ w.heap.size ≤ r ∧ ∀ F : Nat → Prop, (∀ b, w.heap.size ≤ b → F b) → Rd 95 w' r zs F := by
  have HC := Lib.hid (clone_any w v zs hb h)
  clear h hb
  go_enter Try.func38, Try.ntmps38
  go_wp2_with fail
  (with_reducible refine HC.out.mono ?_)
  rintro e w1 ⟨A1, c1, rfl, o1, b1, f1⟩
  have HO := Lib.hid o1
  have HB := Lib.hid b1
  have HF := Lib.hid f1
  clear o1 b1 f1 HC
  go_wp2_with fail
  go_ret
  have hbx := (Below.refl _ w1).alloc (Nat.le_refl _) (.cells #[.slice A1 zs.length c1] 95)
  have hfm : (A1 = none ∧ c1 = 0) ∨ ∃ g o, A1 = some ⟨g, o, none⟩ := by
    rcases HO.out.2 with ⟨h1, _⟩ | ⟨g, c', cur, h1, _⟩
    · obtain ⟨e1, _, e2⟩ : A1 = none ∧ zs.length = 0 ∧ c1 = 0 := by simpa using h1
      exact .inl ⟨e1, e2⟩
    · obtain ⟨e1, _⟩ : A1 = some ⟨g, 0, none⟩ ∧ c1 = c' := by simpa using h1
      exact .inr ⟨g, 0, e1⟩
  refine ⟨w1.heap.size, rfl, HB.out.trans (hbx.mono HB.out.size), HB.out.size, fun F hF => ⟨A1, c1, heap_alloc_new w1 _, (HO.out.below hbx).reads, hF _ HB.out.size, fun hp g o e => ?_, hfm⟩⟩
  subst e
  have h1 := own_lt HO.out g rfl
  exact ⟨hF g (HF.out g rfl), by omega⟩
end Go.Proofs.Ytfpkdbogapmhmaa.O

/- The document's arena: New and Take. -/
import Derived.Test.YtbhpikagjcojbaaBr1
import Derived.Deep.MidRow
namespace Go.Proofs.Ytbhpikagjcojbaa.Ar
open Go.RowKit Go.Proofs.Ytbhpikagjcojbaa.Mem
set_option linter.unusedVariables false
theorem Kept.setCells {S : Nat → Prop} {a : World} {b : Nat} : ∀ (vs : List Value) (o : Nat) {w : World}, Kept S a w → (S b ∨ a.heap.size ≤ b) → Kept S a (w.setCells b o vs)
  | [], _, _, h, _ => h
  | v :: vs, o, _, h, hb => Kept.setCells vs (o + 1) (h.setCell (p := ⟨b, o, none⟩) hb v) hb
/-- A new page: taken, all zeros. -/
def newPage : List Value := .bool true :: List.replicate 64 (byteC 0)
def zeroPage : List Value := .bool false :: List.replicate 64 (byteC 0)
theorem newPage_len : newPage.length = 65 := by simp [newPage]
theorem info75 : (Try.prog.info? 75).map (fun i => (i.size, i.bytes)) = some (65, 65) := by kernel_rfl
theorem info75s : (Try.prog.info? 75).map (·.size) = some newPage.toArray.size := by kernel_rfl
theorem newPage_one : newPage.toArray.all (·.oneCell') = true := by kernel_rfl
theorem laid_get {bs : List Int} {j i : Nat} {x : Int} (hj : j * 64 + 64 ≤ bs.length) (h : (laid bs (j * 64) zeros)[i]? = some x) : if j * 64 ≤ i ∧ i < j * 64 + 64 then x = 0 else bs[i]? = some x := by
  have hz : zeros.length = 64 := by simp [zeros]
  unfold laid at h
  rw [hz] at h
  by_cases h1 : i < j * 64
  · rw [if_neg (by omega)]
    rw [List.append_assoc, List.getElem?_append_left (by simp; omega), List.getElem?_take, if_pos h1] at h
    exact h
  · by_cases h2 : i < j * 64 + 64
    · rw [if_pos ⟨by omega, h2⟩]
      rw [List.getElem?_append_left (by simp [hz]; omega), List.getElem?_append_right (by simp; omega)] at h
      have := List.mem_of_getElem? h
      simpa [zeros] using this
    · rw [if_neg (by omega)]
      rw [List.getElem?_append_right (by simp [hz]; omega), List.getElem?_drop] at h
      rw [← h]
      congr 1
      simp [hz]
      omega
section
variable {w w' : World} {r P n : Nat} {on : List Bool} {bs : List Int}
theorem Ra.there (h : Ra w r P n on bs) {j : Nat} (hj : j < n) : w.there P (j * 65) newPage.toArray.size := fun q hq => by
  have hq' : q < 65 := by simpa [newPage] using hq
  refine ⟨?_, h.fz _⟩
  rcases Nat.eq_zero_or_pos q with rfl | h0
  · obtain ⟨b, hb⟩ : ∃ b, on[j]? = some b := ⟨_, List.getElem?_eq_getElem (by rw [h.len]; exact hj)⟩
    have := h.onc j b hb
    rw [Nat.add_zero, this]; rfl
  · obtain ⟨b, hb⟩ : ∃ b, bs[j * 64 + (q - 1)]? = some b := ⟨_, List.getElem?_eq_getElem (by rw [h.size]; omega)⟩
    have := h.byc j (q - 1) b (by omega) hb
    rw [show j * 65 + 1 + (q - 1) = j * 65 + q by omega] at this
    rw [this]; rfl
theorem Ra.take (h : Ra w r P n on bs) {j : Nat} (hj : j < n) : Ra (w.setCells P (j * 65) newPage.toArray.toList) r P n (on.set j true) (laid bs (j * 64) zeros) := by
  have hk : Kept (fun b => b = P) w (w.setCells P (j * 65) newPage.toArray.toList) := Kept.setCells _ _ (Kept.refl _ w) (.inl rfl)
  have ht := h.there hj
  have hin : ∀ q v, newPage[q]? = some v → (w.setCells P (j * 65) newPage.toArray.toList).cell? ⟨P, j * 65 + q, none⟩ = some v := w.rangeAt_setCells_same P (j * 65) newPage ht
  have hout : ∀ i, (i < j * 65 ∨ j * 65 + 65 ≤ i) → (w.setCells P (j * 65) newPage.toArray.toList).cell? ⟨P, i, none⟩ = w.cell? ⟨P, i, none⟩ := fun i hi => World.cell?_setCells_out P newPage _ w ⟨P, i, none⟩ (fun _ _ => by rw [newPage_len]; exact hi)
  have hz : zeros.length = 64 := by simp [zeros]
  have hsz := h.size
  refine ⟨hk.row h.row h.far, fun i b hb => ?_, fun i q b hq hb => ?_, fun i => by rw [World.frozen?_setCells]; exact h.fz i, Nat.lt_of_lt_of_le h.plt hk.size, by rw [List.length_set]; exact h.len, by rw [laid_len _ _ _ (by rw [hz, h.size]; omega)]; exact h.size, h.far, h.few⟩
  · rw [List.getElem?_set] at hb
    split at hb
    · next e =>
      subst e
      split at hb
      · obtain rfl := Option.some.inj hb
        have := hin 0 (.bool true) rfl
        rwa [Nat.add_zero] at this
      · cases hb
    · rw [hout (i * 65) (by omega)]
      exact h.onc i b hb
  · have hl := laid_get (by rw [hsz]; omega) hb
    by_cases hij : i = j
    · subst hij
      rw [if_pos (by omega)] at hl
      subst hl
      have := hin (1 + q) (byteC 0) (by unfold newPage; rw [Nat.add_comm, List.getElem?_cons_succ, List.getElem?_replicate, if_pos hq])
      rw [← Nat.add_assoc] at this
      exact this
    · rw [if_neg (by omega)] at hl
      rw [hout (i * 65 + 1 + q) (by omega)]
      exact h.byc i q b hq hl
theorem Ra.gave (h : Ra w r P n on bs) {j : Nat} (hj : j < n) : Ra (w.setCell ⟨P, j * 65, none⟩ (.bool false)) r P n (on.set j false) bs := by
  have hk : Kept (fun b => b = P) w (w.setCell ⟨P, j * 65, none⟩ (.bool false)) := (Kept.refl (fun b => b = P) w).setCell (.inl rfl) _
  obtain ⟨b0, hb0⟩ : ∃ b, on[j]? = some b := ⟨_, List.getElem?_eq_getElem (by rw [h.len]; exact hj)⟩
  have hsame := World.cell?_setCell_same w ⟨P, j * 65, none⟩ (.bool false) (h.onc j b0 hb0)
  refine ⟨hk.row h.row h.far, fun i b hb => ?_, fun i q b hq hb => ?_, fun i => by rw [World.frozen?_setCell]; exact h.fz i, Nat.lt_of_lt_of_le h.plt hk.size, by rw [List.length_set]; exact h.len, h.size, h.far, h.few⟩
  · rw [List.getElem?_set] at hb
    split at hb
    · next e =>
      subst e
      split at hb
      · obtain rfl := Option.some.inj hb
        exact hsame
      · cases hb
    · rw [World.cell?_setCell_other w _ _ _ (fun e => by have := congrArg Addr.off e; simp at this; omega)]
      exact h.onc i b hb
  · rw [World.cell?_setCell_other w _ _ _ (fun e => by have := congrArg Addr.off e; simp at this; omega)]
    exact h.byc i q b hq hb
theorem Ra.put (h : Ra w r P n on bs) {j q : Nat} (hj : j < n) (hq : q < 64) (x : Int) : Ra (w.setCell ⟨P, j * 65 + 1 + q, none⟩ (.int .u8 x)) r P n on (bs.set (j * 64 + q) x) := by
  have hk : Kept (fun b => b = P) w (w.setCell ⟨P, j * 65 + 1 + q, none⟩ (.int .u8 x)) := (Kept.refl (fun b => b = P) w).setCell (.inl rfl) _
  have hsz := h.size
  obtain ⟨b0, hb0⟩ : ∃ b, bs[j * 64 + q]? = some b := ⟨_, List.getElem?_eq_getElem (by rw [hsz]; omega)⟩
  have hsame := World.cell?_setCell_same w ⟨P, j * 65 + 1 + q, none⟩ (.int .u8 x) (h.byc j q b0 hq hb0)
  refine ⟨hk.row h.row h.far, fun i b hb => ?_, fun i k b hk' hb => ?_, fun i => by rw [World.frozen?_setCell]; exact h.fz i, Nat.lt_of_lt_of_le h.plt hk.size, h.len, by rw [List.length_set]; exact h.size, h.far, h.few⟩
  · rw [World.cell?_setCell_other w _ _ _ (fun e => by have := congrArg Addr.off e; simp at this; omega)]
    exact h.onc i b hb
  · rw [List.getElem?_set] at hb
    split at hb
    · next e =>
      have h1 : j = i := by omega
      have h2 : q = k := by omega
      subst h1 h2
      split at hb
      · obtain rfl := Option.some.inj hb
        exact hsame
      · cases hb
    · next e =>
      rw [World.cell?_setCell_other w _ _ _ (fun e2 => by have := congrArg Addr.off e2; simp at this; omega)]
      exact h.byc i k b hk' hb
end
/-- What Take answers. -/
def takeR (on : List Bool) (bs : List Int) (n : Nat) (m : Int) : Int × Run := if m < 0 then (6, ⟨[], on, bs⟩) else if freeN on n < m then (8, ⟨[], on, bs⟩) else (0, trun m.toNat on bs n)
theorem trun_late (m : Nat) (on : List Bool) (bs : List Int) : ∀ k j, k ≤ j → (trun m on bs k).on.getD j false = on.getD j false
  | 0, _, _ => rfl
  | k + 1, j, hj => by
    have ih := trun_late m on bs k j (by omega)
    unfold trun tstep
    split
    · exact ih
    · split
      · exact ih
      · rw [← ih]
        simp only [List.getD_eq_getElem?_getD]
        rw [List.getElem?_set_ne (by omega)]
theorem trun_count (m : Nat) (on : List Bool) (bs : List Int) : ∀ k, (trun m on bs k).out.length = min m (k - (tk on k).length)
  | 0 => by simp [trun, tk]
  | k + 1 => by
    have ih := trun_count m on bs k
    have h1 := trun_late m on bs k k (Nat.le_refl _)
    have h2 := tk_len on k
    unfold trun tstep tk
    split
    · next h => split <;> (try simp only [List.length_append, List.length_singleton]) <;> omega
    · next h =>
      rw [h1]
      split
      · (try simp only [List.length_append, List.length_singleton]); omega
      · (try simp only [List.length_append, List.length_singleton]); omega
theorem trun_full {m : Nat} {on : List Bool} {bs : List Int} {n : Nat} (h : (m : Int) ≤ freeN on n) : (trun m on bs n).out.length = m := by
  rw [trun_count]
  unfold freeN at h
  omega
end Go.Proofs.Ytbhpikagjcojbaa.Ar

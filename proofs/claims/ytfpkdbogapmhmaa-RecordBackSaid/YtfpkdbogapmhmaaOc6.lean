/- The program's reader: numbers. -/
import Derived.Test.YtfpkdbogapmhmaaOc5
namespace Go.Proofs.Ytfpkdbogapmhmaa.O
open Go.RowKit Go.Proofs.Ytfpkdbogapmhmaa.Mem
def Wd (k : Nat) : Prop := k = 1 ∨ k = 2 ∨ k = 4 ∨ k = 8
set_option maxHeartbeats 1000000 in
theorem number1 (w : World) (r : Nat) (zs : List Int) (F : Nat → Prop) (h : Rd 95 w r zs F) (hB : Bytes zs) (hl : 1 ≤ zs.length) : Calls Try.prog 68 #[.pointer (some ⟨r, 0, none⟩), .int .i64 1] w fun e w' => e = .returned (.tuple #[.int .u64 (val (zs.take 1)), .int .i64 0]) ∧ Rd 95 w' r (zs.drop 1) F ∧ Kept (fun b => b = r) w w' := by
  obtain ⟨A, c, h⟩ := h
  obtain ⟨h1, h2, h3⟩ := h.data
  obtain ⟨g, o, rfl, _⟩ := h3 (by omega)
  have c0 : w.cell? ⟨r, 0, none⟩ = some (.slice (some ⟨g, o, none⟩) zs.length c) := cell_row h.row rfl
  have f0 : w.frozen? ⟨r, 0, none⟩ = false := free_row h.row
  have HLOW := Lib.hid (low_any w (.slice (some ⟨g, o, none⟩) 1 c) (zs.take 1) (fun z hz => hB z (List.mem_of_mem_take hz)) (by rw [List.length_take]; omega) (h.read.take hl rfl))
  by_cases hck : c = 1
  · subst hck
    obtain ⟨g1, g2⟩ := h.on hl (by decide) (.inl ⟨rfl, rfl, rfl⟩)
    have hn : zs.length = 1 := by omega
    rw [hn] at c0 g1 g2
    have G1 := Lib.hid g1
    have G2 := Lib.hid g2
    clear h h3 g1 g2 hn hl h1 h2
    go_enter Try.func68, Try.ntmps68
    go_wp2_with (first | (go_at_call 73; (with_reducible refine HLOW.out.mono ?_); rintro e w1 ⟨rfl, rfl⟩) | fail)
    go_ret2
    exact ⟨rfl, G1.out, G2.out⟩
  · obtain ⟨g1, g2⟩ := h.on (A' := some ⟨g, o + 1, none⟩) (c' := c - 1) hl (by decide) (.inr ⟨hck, rfl, fun g' o' e => by cases e; rfl⟩)
    obtain ⟨n, hn⟩ : ∃ n, zs.length = n := ⟨_, rfl⟩
    rw [hn] at c0 g1 g2 hl h1
    have G1 := Lib.hid g1
    have G2 := Lib.hid g2
    clear h h3 g1 g2 hn
    go_enter Try.func68, Try.ntmps68
    go_wp2_with (first | (go_at_call 73; (with_reducible refine HLOW.out.mono ?_); rintro e w1 ⟨rfl, rfl⟩) | fail)
    go_ret2
    exact ⟨rfl, G1.out, G2.out⟩
set_option maxHeartbeats 1000000 in
theorem short1 (w : World) (r : Nat) (zs : List Int) (F : Nat → Prop) (h : Rd 95 w r zs F) (hl : zs.length < 1) : Calls Try.prog 68 #[.pointer (some ⟨r, 0, none⟩), .int .i64 1] w fun e w' => e = .returned (.tuple #[.int .u64 0, .int .i64 17]) ∧ w = w' := by
  obtain ⟨A, c, h⟩ := h
  have c0 : w.cell? ⟨r, 0, none⟩ = some (.slice A zs.length c) := cell_row h.row rfl
  clear h
  obtain ⟨n, hn⟩ : ∃ n, zs.length = n := ⟨_, rfl⟩
  rw [hn] at c0 hl
  clear hn
  go_enter Try.func68, Try.ntmps68
  go_wp2
  go_ret2
  exact ⟨rfl, rfl⟩
set_option maxHeartbeats 1000000 in
theorem number2 (w : World) (r : Nat) (zs : List Int) (F : Nat → Prop) (h : Rd 95 w r zs F) (hB : Bytes zs) (hl : 2 ≤ zs.length) : Calls Try.prog 68 #[.pointer (some ⟨r, 0, none⟩), .int .i64 2] w fun e w' => e = .returned (.tuple #[.int .u64 (val (zs.take 2)), .int .i64 0]) ∧ Rd 95 w' r (zs.drop 2) F ∧ Kept (fun b => b = r) w w' := by
  obtain ⟨A, c, h⟩ := h
  obtain ⟨h1, h2, h3⟩ := h.data
  obtain ⟨g, o, rfl, _⟩ := h3 (by omega)
  have c0 : w.cell? ⟨r, 0, none⟩ = some (.slice (some ⟨g, o, none⟩) zs.length c) := cell_row h.row rfl
  have f0 : w.frozen? ⟨r, 0, none⟩ = false := free_row h.row
  have HLOW := Lib.hid (low_any w (.slice (some ⟨g, o, none⟩) 2 c) (zs.take 2) (fun z hz => hB z (List.mem_of_mem_take hz)) (by rw [List.length_take]; omega) (h.read.take hl rfl))
  by_cases hck : c = 2
  · subst hck
    obtain ⟨g1, g2⟩ := h.on hl (by decide) (.inl ⟨rfl, rfl, rfl⟩)
    have hn : zs.length = 2 := by omega
    rw [hn] at c0 g1 g2
    have G1 := Lib.hid g1
    have G2 := Lib.hid g2
    clear h h3 g1 g2 hn hl h1 h2
    go_enter Try.func68, Try.ntmps68
    go_wp2_with (first | (go_at_call 73; (with_reducible refine HLOW.out.mono ?_); rintro e w1 ⟨rfl, rfl⟩) | fail)
    go_ret2
    exact ⟨rfl, G1.out, G2.out⟩
  · obtain ⟨g1, g2⟩ := h.on (A' := some ⟨g, o + 2, none⟩) (c' := c - 2) hl (by decide) (.inr ⟨hck, rfl, fun g' o' e => by cases e; rfl⟩)
    obtain ⟨n, hn⟩ : ∃ n, zs.length = n := ⟨_, rfl⟩
    rw [hn] at c0 g1 g2 hl h1
    have G1 := Lib.hid g1
    have G2 := Lib.hid g2
    clear h h3 g1 g2 hn
    go_enter Try.func68, Try.ntmps68
    go_wp2_with (first | (go_at_call 73; (with_reducible refine HLOW.out.mono ?_); rintro e w1 ⟨rfl, rfl⟩) | fail)
    go_ret2
    exact ⟨rfl, G1.out, G2.out⟩
set_option maxHeartbeats 1000000 in
theorem short2 (w : World) (r : Nat) (zs : List Int) (F : Nat → Prop) (h : Rd 95 w r zs F) (hl : zs.length < 2) : Calls Try.prog 68 #[.pointer (some ⟨r, 0, none⟩), .int .i64 2] w fun e w' => e = .returned (.tuple #[.int .u64 0, .int .i64 17]) ∧ w = w' := by
  obtain ⟨A, c, h⟩ := h
  have c0 : w.cell? ⟨r, 0, none⟩ = some (.slice A zs.length c) := cell_row h.row rfl
  clear h
  obtain ⟨n, hn⟩ : ∃ n, zs.length = n := ⟨_, rfl⟩
  rw [hn] at c0 hl
  clear hn
  go_enter Try.func68, Try.ntmps68
  go_wp2
  go_ret2
  exact ⟨rfl, rfl⟩
set_option maxHeartbeats 1000000 in
theorem number4 (w : World) (r : Nat) (zs : List Int) (F : Nat → Prop) (h : Rd 95 w r zs F) (hB : Bytes zs) (hl : 4 ≤ zs.length) : Calls Try.prog 68 #[.pointer (some ⟨r, 0, none⟩), .int .i64 4] w fun e w' => e = .returned (.tuple #[.int .u64 (val (zs.take 4)), .int .i64 0]) ∧ Rd 95 w' r (zs.drop 4) F ∧ Kept (fun b => b = r) w w' := by
  obtain ⟨A, c, h⟩ := h
  obtain ⟨h1, h2, h3⟩ := h.data
  obtain ⟨g, o, rfl, _⟩ := h3 (by omega)
  have c0 : w.cell? ⟨r, 0, none⟩ = some (.slice (some ⟨g, o, none⟩) zs.length c) := cell_row h.row rfl
  have f0 : w.frozen? ⟨r, 0, none⟩ = false := free_row h.row
  have HLOW := Lib.hid (low_any w (.slice (some ⟨g, o, none⟩) 4 c) (zs.take 4) (fun z hz => hB z (List.mem_of_mem_take hz)) (by rw [List.length_take]; omega) (h.read.take hl rfl))
  by_cases hck : c = 4
  · subst hck
    obtain ⟨g1, g2⟩ := h.on hl (by decide) (.inl ⟨rfl, rfl, rfl⟩)
    have hn : zs.length = 4 := by omega
    rw [hn] at c0 g1 g2
    have G1 := Lib.hid g1
    have G2 := Lib.hid g2
    clear h h3 g1 g2 hn hl h1 h2
    go_enter Try.func68, Try.ntmps68
    go_wp2_with (first | (go_at_call 73; (with_reducible refine HLOW.out.mono ?_); rintro e w1 ⟨rfl, rfl⟩) | fail)
    go_ret2
    exact ⟨rfl, G1.out, G2.out⟩
  · obtain ⟨g1, g2⟩ := h.on (A' := some ⟨g, o + 4, none⟩) (c' := c - 4) hl (by decide) (.inr ⟨hck, rfl, fun g' o' e => by cases e; rfl⟩)
    obtain ⟨n, hn⟩ : ∃ n, zs.length = n := ⟨_, rfl⟩
    rw [hn] at c0 g1 g2 hl h1
    have G1 := Lib.hid g1
    have G2 := Lib.hid g2
    clear h h3 g1 g2 hn
    go_enter Try.func68, Try.ntmps68
    go_wp2_with (first | (go_at_call 73; (with_reducible refine HLOW.out.mono ?_); rintro e w1 ⟨rfl, rfl⟩) | fail)
    go_ret2
    exact ⟨rfl, G1.out, G2.out⟩
set_option maxHeartbeats 1000000 in
theorem short4 (w : World) (r : Nat) (zs : List Int) (F : Nat → Prop) (h : Rd 95 w r zs F) (hl : zs.length < 4) : Calls Try.prog 68 #[.pointer (some ⟨r, 0, none⟩), .int .i64 4] w fun e w' => e = .returned (.tuple #[.int .u64 0, .int .i64 17]) ∧ w = w' := by
  obtain ⟨A, c, h⟩ := h
  have c0 : w.cell? ⟨r, 0, none⟩ = some (.slice A zs.length c) := cell_row h.row rfl
  clear h
  obtain ⟨n, hn⟩ : ∃ n, zs.length = n := ⟨_, rfl⟩
  rw [hn] at c0 hl
  clear hn
  go_enter Try.func68, Try.ntmps68
  go_wp2
  go_ret2
  exact ⟨rfl, rfl⟩
set_option maxHeartbeats 1000000 in
theorem number8 (w : World) (r : Nat) (zs : List Int) (F : Nat → Prop) (h : Rd 95 w r zs F) (hB : Bytes zs) (hl : 8 ≤ zs.length) : Calls Try.prog 68 #[.pointer (some ⟨r, 0, none⟩), .int .i64 8] w fun e w' => e = .returned (.tuple #[.int .u64 (val (zs.take 8)), .int .i64 0]) ∧ Rd 95 w' r (zs.drop 8) F ∧ Kept (fun b => b = r) w w' := by
  obtain ⟨A, c, h⟩ := h
  obtain ⟨h1, h2, h3⟩ := h.data
  obtain ⟨g, o, rfl, _⟩ := h3 (by omega)
  have c0 : w.cell? ⟨r, 0, none⟩ = some (.slice (some ⟨g, o, none⟩) zs.length c) := cell_row h.row rfl
  have f0 : w.frozen? ⟨r, 0, none⟩ = false := free_row h.row
  have HLOW := Lib.hid (low_any w (.slice (some ⟨g, o, none⟩) 8 c) (zs.take 8) (fun z hz => hB z (List.mem_of_mem_take hz)) (by rw [List.length_take]; omega) (h.read.take hl rfl))
  by_cases hck : c = 8
  · subst hck
    obtain ⟨g1, g2⟩ := h.on hl (by decide) (.inl ⟨rfl, rfl, rfl⟩)
    have hn : zs.length = 8 := by omega
    rw [hn] at c0 g1 g2
    have G1 := Lib.hid g1
    have G2 := Lib.hid g2
    clear h h3 g1 g2 hn hl h1 h2
    go_enter Try.func68, Try.ntmps68
    go_wp2_with (first | (go_at_call 73; (with_reducible refine HLOW.out.mono ?_); rintro e w1 ⟨rfl, rfl⟩) | fail)
    go_ret2
    exact ⟨rfl, G1.out, G2.out⟩
  · obtain ⟨g1, g2⟩ := h.on (A' := some ⟨g, o + 8, none⟩) (c' := c - 8) hl (by decide) (.inr ⟨hck, rfl, fun g' o' e => by cases e; rfl⟩)
    obtain ⟨n, hn⟩ : ∃ n, zs.length = n := ⟨_, rfl⟩
    rw [hn] at c0 g1 g2 hl h1
    have G1 := Lib.hid g1
    have G2 := Lib.hid g2
    clear h h3 g1 g2 hn
    go_enter Try.func68, Try.ntmps68
    go_wp2_with (first | (go_at_call 73; (with_reducible refine HLOW.out.mono ?_); rintro e w1 ⟨rfl, rfl⟩) | fail)
    go_ret2
    exact ⟨rfl, G1.out, G2.out⟩
set_option maxHeartbeats 1000000 in
theorem short8 (w : World) (r : Nat) (zs : List Int) (F : Nat → Prop) (h : Rd 95 w r zs F) (hl : zs.length < 8) : Calls Try.prog 68 #[.pointer (some ⟨r, 0, none⟩), .int .i64 8] w fun e w' => e = .returned (.tuple #[.int .u64 0, .int .i64 17]) ∧ w = w' := by
  obtain ⟨A, c, h⟩ := h
  have c0 : w.cell? ⟨r, 0, none⟩ = some (.slice A zs.length c) := cell_row h.row rfl
  clear h
  obtain ⟨n, hn⟩ : ∃ n, zs.length = n := ⟨_, rfl⟩
  rw [hn] at c0 hl
  clear hn
  go_enter Try.func68, Try.ntmps68
  go_wp2
  go_ret2
  exact ⟨rfl, rfl⟩
set_option maxHeartbeats 1000000 in
theorem number_bad (w : World) (r : Nat) (k : Int) (hk : ¬ (k = 1 ∨ k = 2 ∨ k = 4 ∨ k = 8)) : Calls Try.prog 68 #[.pointer (some ⟨r, 0, none⟩), .int .i64 k] w fun e w' => e = .returned (.tuple #[.int .u64 0, .int .i64 5]) ∧ w = w' := by
  have d1 : (k != 1) = true := bne_iff_ne.2 (by omega)
  have d2 : (k != 2) = true := bne_iff_ne.2 (by omega)
  have d3 : (k != 4) = true := bne_iff_ne.2 (by omega)
  have d4 : (k != 8) = true := bne_iff_ne.2 (by omega)
  clear hk
  go_enter Try.func68, Try.ntmps68
  go_wp2
  go_ret2
  exact ⟨rfl, rfl⟩
/-- What a number of so many bytes is: the number, the error, what is left. -/
def numV (zs : List Int) (k : Int) : Int := if ¬ (k = 1 ∨ k = 2 ∨ k = 4 ∨ k = 8) then 0 else if (zs.length : Int) < k then 0 else val (zs.take k.toNat)
def numE (zs : List Int) (k : Int) : Int := if ¬ (k = 1 ∨ k = 2 ∨ k = 4 ∨ k = 8) then 5 else if (zs.length : Int) < k then 17 else 0
def numL (zs : List Int) (k : Int) : List Int := if ¬ (k = 1 ∨ k = 2 ∨ k = 4 ∨ k = 8) then zs else if (zs.length : Int) < k then zs else zs.drop k.toNat
theorem number_any (w : World) (r : Nat) (zs : List Int) (F : Nat → Prop) (h : Rd 95 w r zs F) (hB : Bytes zs) (k : Int) : Calls Try.prog 68 #[.pointer (some ⟨r, 0, none⟩), .int .i64 k] w fun e w' => e = .returned (.tuple #[.int .u64 (numV zs k), .int .i64 (numE zs k)]) ∧ Rd 95 w' r (numL zs k) F ∧ Kept (fun b => b = r) w w' := by
  unfold numV numE numL
  by_cases hk : k = 1 ∨ k = 2 ∨ k = 4 ∨ k = 8
  · have hk0 : ¬ ¬ (k = 1 ∨ k = 2 ∨ k = 4 ∨ k = 8) := fun h => h hk
    rw [if_neg hk0, if_neg hk0, if_neg hk0]
    by_cases hl : (zs.length : Int) < k
    · rw [if_pos hl, if_pos hl, if_pos hl]
      rcases hk with rfl | rfl | rfl | rfl
      · exact (short1 w r zs F h (by omega)).mono (by rintro e w' ⟨rfl, rfl⟩; exact ⟨rfl, h, Kept.refl _ _⟩)
      · exact (short2 w r zs F h (by omega)).mono (by rintro e w' ⟨rfl, rfl⟩; exact ⟨rfl, h, Kept.refl _ _⟩)
      · exact (short4 w r zs F h (by omega)).mono (by rintro e w' ⟨rfl, rfl⟩; exact ⟨rfl, h, Kept.refl _ _⟩)
      · exact (short8 w r zs F h (by omega)).mono (by rintro e w' ⟨rfl, rfl⟩; exact ⟨rfl, h, Kept.refl _ _⟩)
    · rw [if_neg hl, if_neg hl, if_neg hl]
      rcases hk with rfl | rfl | rfl | rfl
      · exact number1 w r zs F h hB (by omega)
      · exact number2 w r zs F h hB (by omega)
      · exact number4 w r zs F h hB (by omega)
      · exact number8 w r zs F h hB (by omega)
  · rw [if_pos hk, if_pos hk, if_pos hk]
    exact (number_bad w r k hk).mono (by rintro e w' ⟨rfl, rfl⟩; exact ⟨rfl, h, Kept.refl _ _⟩)
theorem numV_range {zs : List Int} (hB : Bytes zs) (k : Int) : 0 ≤ numV zs k ∧ numV zs k < 18446744073709551616 := by
  unfold numV
  split
  · exact ⟨by decide, by decide⟩
  · split
    · exact ⟨by decide, by decide⟩
    · have hb : Bytes (zs.take k.toNat) := fun z hz => hB z (List.mem_of_mem_take hz)
      exact ⟨val_lo hb, val_lt (k := 8) hb (by rw [List.length_take]; omega)⟩
end Go.Proofs.Ytfpkdbogapmhmaa.O

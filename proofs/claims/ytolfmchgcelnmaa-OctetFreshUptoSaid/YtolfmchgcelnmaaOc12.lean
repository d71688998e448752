/- The document's reader: numbers. -/
import Derived.Test.YtolfmchgcelnmaaOc11
namespace Go.Proofs.Ytolfmchgcelnmaa.O
open Go.RowKit Go.Proofs.Ytolfmchgcelnmaa.Mem
set_option maxHeartbeats 1000000 in
theorem widths_no (w : World) (k : Int) (hk : ¬ (k = 1 ∨ k = 2 ∨ k = 4 ∨ k = 8)) : Calls Try.prog 51 #[.int .i64 k] w fun e w' => e = .returned (.bool false) ∧ w = w' := by
  have d1 : (k == 1) = false := beq_eq_false_iff_ne.2 (by omega)
  have d2 : (k == 2) = false := beq_eq_false_iff_ne.2 (by omega)
  have d3 : (k == 4) = false := beq_eq_false_iff_ne.2 (by omega)
  have d4 : (k == 8) = false := beq_eq_false_iff_ne.2 (by omega)
  clear hk
  go_enter Try.func51, Try.ntmps51
  go_wp2
  go_ret
  exact ⟨rfl, rfl⟩
set_option maxHeartbeats 1000000 in
theorem rend_any (w : World) (r : Nat) (zs : List Int) (F : Nat → Prop) (h : Rd 64 w r zs F) : Calls Try.prog 32 #[.pointer (some ⟨r, 0, none⟩)] w fun e w' => e = .returned (.int .i64 (endZ zs)) ∧ w = w' := by
  obtain ⟨A, c, h⟩ := h
  have c0 : w.cell? ⟨r, 0, none⟩ = some (.slice A zs.length c) := cell_row h.row rfl
  obtain ⟨n, hn⟩ : ∃ n, zs.length = n := ⟨_, rfl⟩
  unfold endZ
  rw [hn] at c0 ⊢
  clear h hn
  rcases Nat.eq_zero_or_pos n with rfl | hp
  · rw [if_pos rfl]
    go_enter Try.func32, Try.ntmps32
    go_wp2
    go_ret
    exact ⟨rfl, rfl⟩
  · rw [if_neg (by omega)]
    go_enter Try.func32, Try.ntmps32
    go_wp2
    go_ret
    exact ⟨rfl, rfl⟩
set_option maxHeartbeats 1000000 in
theorem widths1 (w : World) : Calls Try.prog 51 #[.int .i64 1] w fun e w' => e = .returned (.bool true) ∧ w = w' := by
  go_enter Try.func51, Try.ntmps51
  go_wp2
  go_ret
  exact ⟨rfl, rfl⟩
set_option maxHeartbeats 1000000 in
theorem rshort1 (w : World) (r : Nat) (zs : List Int) (F : Nat → Prop) (h : Rd 64 w r zs F) (hB : Bytes zs) (hl : zs.length < 1) : Calls Try.prog 43 #[.pointer (some ⟨r, 0, none⟩), .int .i64 1] w fun e w' => e = .returned (.tuple #[.int .u64 0, .int .i64 17]) ∧ w = w' := by
  obtain ⟨A, c, h⟩ := h
  have c0 : w.cell? ⟨r, 0, none⟩ = some (.slice A zs.length c) := cell_row h.row rfl
  have HG := Lib.hid (rget_at w (.slice A zs.length c) zs 1 1 rfl (by decide) hB h.read)
  have HW := Lib.hid (widths1 w)
  have e1 : getV zs 1 = 0 := by unfold getV; rw [if_pos hl]
  have e2 : getE zs 1 = 17 := by unfold getE; rw [if_pos hl]
  rw [e1, e2] at HG
  clear h e1 e2
  obtain ⟨n, hn⟩ : ∃ n, zs.length = n := ⟨_, rfl⟩
  rw [hn] at c0 hl HG
  clear hn
  go_enter Try.func43, Try.ntmps43
  go_wp2_with (first | (go_at_call 51; (with_reducible refine HW.out.mono ?_); rintro e w1 ⟨rfl, rfl⟩) | (go_at_call 25; (with_reducible refine HG.out.mono ?_); rintro e w1 ⟨rfl, rfl⟩) | fail)
  go_ret2
  exact ⟨rfl, rfl⟩
set_option maxHeartbeats 1000000 in
theorem rnumber1 (w : World) (r : Nat) (zs : List Int) (F : Nat → Prop) (h : Rd 64 w r zs F) (hB : Bytes zs) (hl : 1 ≤ zs.length) : Calls Try.prog 43 #[.pointer (some ⟨r, 0, none⟩), .int .i64 1] w fun e w' => e = .returned (.tuple #[.int .u64 (val (zs.take 1)), .int .i64 0]) ∧ Rd 64 w' r (zs.drop 1) F ∧ Kept (fun b => b = r) w w' := by
  obtain ⟨A, c, h⟩ := h
  obtain ⟨h1, h2, h3⟩ := h.data
  obtain ⟨g, o, rfl, _⟩ := h3 (by omega)
  have c0 : w.cell? ⟨r, 0, none⟩ = some (.slice (some ⟨g, o, none⟩) zs.length c) := cell_row h.row rfl
  have f0 : w.frozen? ⟨r, 0, none⟩ = false := free_row h.row
  have HGT := Lib.hid (rget_at w (.slice (some ⟨g, o, none⟩) zs.length c) zs 1 1 rfl (by decide) hB h.read)
  have HW := Lib.hid (widths1 w)
  have e1 : getV zs 1 = val (zs.take 1) := by unfold getV; rw [if_neg (by omega)]
  have e2 : getE zs 1 = 0 := by unfold getE; rw [if_neg (by omega)]
  rw [e1, e2] at HGT
  clear e1 e2
  by_cases hck : c = 1
  · subst hck
    obtain ⟨g1, g2⟩ := h.on hl (by decide) (.inl ⟨rfl, rfl, rfl⟩)
    have hn : zs.length = 1 := by omega
    rw [hn] at c0 g1 g2 HGT
    have G1 := Lib.hid g1
    have G2 := Lib.hid g2
    clear h h3 g1 g2 hn hl h1 h2
    go_enter Try.func43, Try.ntmps43
    go_wp2_with (first | (go_at_call 51; (with_reducible refine HW.out.mono ?_); rintro e w1 ⟨rfl, rfl⟩) | (go_at_call 25; (with_reducible refine HGT.out.mono ?_); rintro e w1 ⟨rfl, rfl⟩) | fail)
    go_ret2
    exact ⟨rfl, G1.out, G2.out⟩
  · obtain ⟨g1, g2⟩ := h.on (A' := some ⟨g, o + 1, none⟩) (c' := c - 1) hl (by decide) (.inr ⟨hck, rfl, fun g' o' e => by cases e; rfl⟩)
    obtain ⟨n, hn⟩ : ∃ n, zs.length = n := ⟨_, rfl⟩
    rw [hn] at c0 g1 g2 hl h1 HGT
    have G1 := Lib.hid g1
    have G2 := Lib.hid g2
    clear h h3 g1 g2 hn
    go_enter Try.func43, Try.ntmps43
    go_wp2_with (first | (go_at_call 51; (with_reducible refine HW.out.mono ?_); rintro e w1 ⟨rfl, rfl⟩) | (go_at_call 25; (with_reducible refine HGT.out.mono ?_); rintro e w1 ⟨rfl, rfl⟩) | fail)
    go_ret2
    exact ⟨rfl, G1.out, G2.out⟩
set_option maxHeartbeats 1000000 in
theorem rintshort1 (w : World) (r : Nat) (zs : List Int) (F : Nat → Prop) (h : Rd 64 w r zs F) (hB : Bytes zs) (hl : zs.length < 1) (m : Int) (hm : ¬ m < 0) : Calls Try.prog 44 #[.pointer (some ⟨r, 0, none⟩), .int .i64 1, .int .i64 m] w fun e w' => e = .returned (.tuple #[.int .i64 0, .int .i64 17]) ∧ w = w' := by
  obtain ⟨A, c, h⟩ := h
  have c0 : w.cell? ⟨r, 0, none⟩ = some (.slice A zs.length c) := cell_row h.row rfl
  have HG := Lib.hid (rget_at w (.slice A zs.length c) zs 1 1 rfl (by decide) hB h.read)
  have HW := Lib.hid (widths1 w)
  have e1 : getV zs 1 = 0 := by unfold getV; rw [if_pos hl]
  have e2 : getE zs 1 = 17 := by unfold getE; rw [if_pos hl]
  rw [e1, e2] at HG
  clear h e1 e2
  have dm : decide (m < 0) = false := decide_eq_false hm
  obtain ⟨n, hn⟩ : ∃ n, zs.length = n := ⟨_, rfl⟩
  rw [hn] at c0 hl HG
  clear hn
  go_enter Try.func44, Try.ntmps44
  go_wp2_with (first | (go_at_call 51; (with_reducible refine HW.out.mono ?_); rintro e w1 ⟨rfl, rfl⟩) | (go_at_call 25; (with_reducible refine HG.out.mono ?_); rintro e w1 ⟨rfl, rfl⟩) | fail)
  go_ret2
  exact ⟨rfl, rfl⟩
set_option maxHeartbeats 1000000 in
theorem rint1 (w : World) (r : Nat) (zs : List Int) (F : Nat → Prop) (h : Rd 64 w r zs F) (hB : Bytes zs) (hl : 1 ≤ zs.length) (m : Int) (hm : ¬ m < 0) (hm1 : m ≤ 9223372036854775807) : Calls Try.prog 44 #[.pointer (some ⟨r, 0, none⟩), .int .i64 1, .int .i64 m] w fun e w' => e = .returned (.tuple #[.int .i64 (if val (zs.take 1) > m then 0 else val (zs.take 1)), .int .i64 (if val (zs.take 1) > m then 5 else 0)]) ∧ Rd 64 w' r (if val (zs.take 1) > m then zs else zs.drop 1) F ∧ Kept (fun b => b = r) w w' := by
  have HH := Lib.hid h
  obtain ⟨A, c, h⟩ := h
  obtain ⟨h1, h2, h3⟩ := h.data
  obtain ⟨g, o, rfl, _⟩ := h3 (by omega)
  have c0 : w.cell? ⟨r, 0, none⟩ = some (.slice (some ⟨g, o, none⟩) zs.length c) := cell_row h.row rfl
  have f0 : w.frozen? ⟨r, 0, none⟩ = false := free_row h.row
  have HGT := Lib.hid (rget_at w (.slice (some ⟨g, o, none⟩) zs.length c) zs 1 1 rfl (by decide) hB h.read)
  have HW := Lib.hid (widths1 w)
  have e1 : getV zs 1 = val (zs.take 1) := by unfold getV; rw [if_neg (by omega)]
  have e2 : getE zs 1 = 0 := by unfold getE; rw [if_neg (by omega)]
  obtain ⟨v0, v1⟩ := getV_range hB 1
  rw [e1, e2] at HGT
  rw [e1] at v0 v1
  have dm : decide (m < 0) = false := decide_eq_false hm
  obtain ⟨V, hV⟩ : ∃ V, val (zs.take 1) = V := ⟨_, rfl⟩
  rw [hV] at HGT v0 v1
  rw [hV]
  change V < 256 at v1
  clear e1 e2 hV
  by_cases hg : V > m
  · rw [if_pos hg, if_pos hg, if_pos hg]
    obtain ⟨n, hn⟩ : ∃ n, zs.length = n := ⟨_, rfl⟩
    rw [hn] at c0 hl h1 HGT
    clear h h3 hn
    go_enter Try.func44, Try.ntmps44
    go_wp2_with (first | (go_at_call 51; (with_reducible refine HW.out.mono ?_); rintro e w1 ⟨rfl, rfl⟩) | (go_at_call 25; (with_reducible refine HGT.out.mono ?_); rintro e w1 ⟨rfl, rfl⟩) | fail)
    go_ret2
    exact ⟨rfl, HH.out, Kept.refl _ _⟩
  · rw [if_neg hg, if_neg hg, if_neg hg]
    by_cases hck : c = 1
    · subst hck
      obtain ⟨g1, g2⟩ := h.on hl (by decide) (.inl ⟨rfl, rfl, rfl⟩)
      have hn : zs.length = 1 := by omega
      rw [hn] at c0 g1 g2 HGT
      have G1 := Lib.hid g1
      have G2 := Lib.hid g2
      clear h h3 g1 g2 hn hl h1 h2
      go_enter Try.func44, Try.ntmps44
      go_wp2_with (first | (go_at_call 51; (with_reducible refine HW.out.mono ?_); rintro e w1 ⟨rfl, rfl⟩) | (go_at_call 25; (with_reducible refine HGT.out.mono ?_); rintro e w1 ⟨rfl, rfl⟩) | fail)
      go_ret2
      exact ⟨rfl, G1.out, G2.out⟩
    · obtain ⟨g1, g2⟩ := h.on (A' := some ⟨g, o + 1, none⟩) (c' := c - 1) hl (by decide) (.inr ⟨hck, rfl, fun g' o' e => by cases e; rfl⟩)
      obtain ⟨n, hn⟩ : ∃ n, zs.length = n := ⟨_, rfl⟩
      rw [hn] at c0 g1 g2 hl h1 HGT
      have G1 := Lib.hid g1
      have G2 := Lib.hid g2
      clear h h3 g1 g2 hn
      go_enter Try.func44, Try.ntmps44
      go_wp2_with (first | (go_at_call 51; (with_reducible refine HW.out.mono ?_); rintro e w1 ⟨rfl, rfl⟩) | (go_at_call 25; (with_reducible refine HGT.out.mono ?_); rintro e w1 ⟨rfl, rfl⟩) | fail)
      go_ret2
      exact ⟨rfl, G1.out, G2.out⟩
set_option maxHeartbeats 1000000 in
theorem widths2 (w : World) : Calls Try.prog 51 #[.int .i64 2] w fun e w' => e = .returned (.bool true) ∧ w = w' := by
  go_enter Try.func51, Try.ntmps51
  go_wp2
  go_ret
  exact ⟨rfl, rfl⟩
set_option maxHeartbeats 1000000 in
theorem rshort2 (w : World) (r : Nat) (zs : List Int) (F : Nat → Prop) (h : Rd 64 w r zs F) (hB : Bytes zs) (hl : zs.length < 2) : Calls Try.prog 43 #[.pointer (some ⟨r, 0, none⟩), .int .i64 2] w fun e w' => e = .returned (.tuple #[.int .u64 0, .int .i64 17]) ∧ w = w' := by
  obtain ⟨A, c, h⟩ := h
  have c0 : w.cell? ⟨r, 0, none⟩ = some (.slice A zs.length c) := cell_row h.row rfl
  have HG := Lib.hid (rget_at w (.slice A zs.length c) zs 2 2 rfl (by decide) hB h.read)
  have HW := Lib.hid (widths2 w)
  have e1 : getV zs 2 = 0 := by unfold getV; rw [if_pos hl]
  have e2 : getE zs 2 = 17 := by unfold getE; rw [if_pos hl]
  rw [e1, e2] at HG
  clear h e1 e2
  obtain ⟨n, hn⟩ : ∃ n, zs.length = n := ⟨_, rfl⟩
  rw [hn] at c0 hl HG
  clear hn
  go_enter Try.func43, Try.ntmps43
  go_wp2_with (first | (go_at_call 51; (with_reducible refine HW.out.mono ?_); rintro e w1 ⟨rfl, rfl⟩) | (go_at_call 25; (with_reducible refine HG.out.mono ?_); rintro e w1 ⟨rfl, rfl⟩) | fail)
  go_ret2
  exact ⟨rfl, rfl⟩
set_option maxHeartbeats 1000000 in
theorem rnumber2 (w : World) (r : Nat) (zs : List Int) (F : Nat → Prop) (h : Rd 64 w r zs F) (hB : Bytes zs) (hl : 2 ≤ zs.length) : Calls Try.prog 43 #[.pointer (some ⟨r, 0, none⟩), .int .i64 2] w fun e w' => e = .returned (.tuple #[.int .u64 (val (zs.take 2)), .int .i64 0]) ∧ Rd 64 w' r (zs.drop 2) F ∧ Kept (fun b => b = r) w w' := by
  obtain ⟨A, c, h⟩ := h
  obtain ⟨h1, h2, h3⟩ := h.data
  obtain ⟨g, o, rfl, _⟩ := h3 (by omega)
  have c0 : w.cell? ⟨r, 0, none⟩ = some (.slice (some ⟨g, o, none⟩) zs.length c) := cell_row h.row rfl
  have f0 : w.frozen? ⟨r, 0, none⟩ = false := free_row h.row
  have HGT := Lib.hid (rget_at w (.slice (some ⟨g, o, none⟩) zs.length c) zs 2 2 rfl (by decide) hB h.read)
  have HW := Lib.hid (widths2 w)
  have e1 : getV zs 2 = val (zs.take 2) := by unfold getV; rw [if_neg (by omega)]
  have e2 : getE zs 2 = 0 := by unfold getE; rw [if_neg (by omega)]
  rw [e1, e2] at HGT
  clear e1 e2
  by_cases hck : c = 2
  · subst hck
    obtain ⟨g1, g2⟩ := h.on hl (by decide) (.inl ⟨rfl, rfl, rfl⟩)
    have hn : zs.length = 2 := by omega
    rw [hn] at c0 g1 g2 HGT
    have G1 := Lib.hid g1
    have G2 := Lib.hid g2
    clear h h3 g1 g2 hn hl h1 h2
    go_enter Try.func43, Try.ntmps43
    go_wp2_with (first | (go_at_call 51; (with_reducible refine HW.out.mono ?_); rintro e w1 ⟨rfl, rfl⟩) | (go_at_call 25; (with_reducible refine HGT.out.mono ?_); rintro e w1 ⟨rfl, rfl⟩) | fail)
    go_ret2
    exact ⟨rfl, G1.out, G2.out⟩
  · obtain ⟨g1, g2⟩ := h.on (A' := some ⟨g, o + 2, none⟩) (c' := c - 2) hl (by decide) (.inr ⟨hck, rfl, fun g' o' e => by cases e; rfl⟩)
    obtain ⟨n, hn⟩ : ∃ n, zs.length = n := ⟨_, rfl⟩
    rw [hn] at c0 g1 g2 hl h1 HGT
    have G1 := Lib.hid g1
    have G2 := Lib.hid g2
    clear h h3 g1 g2 hn
    go_enter Try.func43, Try.ntmps43
    go_wp2_with (first | (go_at_call 51; (with_reducible refine HW.out.mono ?_); rintro e w1 ⟨rfl, rfl⟩) | (go_at_call 25; (with_reducible refine HGT.out.mono ?_); rintro e w1 ⟨rfl, rfl⟩) | fail)
    go_ret2
    exact ⟨rfl, G1.out, G2.out⟩
set_option maxHeartbeats 1000000 in
theorem rintshort2 (w : World) (r : Nat) (zs : List Int) (F : Nat → Prop) (h : Rd 64 w r zs F) (hB : Bytes zs) (hl : zs.length < 2) (m : Int) (hm : ¬ m < 0) : Calls Try.prog 44 #[.pointer (some ⟨r, 0, none⟩), .int .i64 2, .int .i64 m] w fun e w' => e = .returned (.tuple #[.int .i64 0, .int .i64 17]) ∧ w = w' := by
  obtain ⟨A, c, h⟩ := h
  have c0 : w.cell? ⟨r, 0, none⟩ = some (.slice A zs.length c) := cell_row h.row rfl
  have HG := Lib.hid (rget_at w (.slice A zs.length c) zs 2 2 rfl (by decide) hB h.read)
  have HW := Lib.hid (widths2 w)
  have e1 : getV zs 2 = 0 := by unfold getV; rw [if_pos hl]
  have e2 : getE zs 2 = 17 := by unfold getE; rw [if_pos hl]
  rw [e1, e2] at HG
  clear h e1 e2
  have dm : decide (m < 0) = false := decide_eq_false hm
  obtain ⟨n, hn⟩ : ∃ n, zs.length = n := ⟨_, rfl⟩
  rw [hn] at c0 hl HG
  clear hn
  go_enter Try.func44, Try.ntmps44
  go_wp2_with (first | (go_at_call 51; (with_reducible refine HW.out.mono ?_); rintro e w1 ⟨rfl, rfl⟩) | (go_at_call 25; (with_reducible refine HG.out.mono ?_); rintro e w1 ⟨rfl, rfl⟩) | fail)
  go_ret2
  exact ⟨rfl, rfl⟩
set_option maxHeartbeats 1000000 in
theorem rint2 (w : World) (r : Nat) (zs : List Int) (F : Nat → Prop) (h : Rd 64 w r zs F) (hB : Bytes zs) (hl : 2 ≤ zs.length) (m : Int) (hm : ¬ m < 0) (hm1 : m ≤ 9223372036854775807) : Calls Try.prog 44 #[.pointer (some ⟨r, 0, none⟩), .int .i64 2, .int .i64 m] w fun e w' => e = .returned (.tuple #[.int .i64 (if val (zs.take 2) > m then 0 else val (zs.take 2)), .int .i64 (if val (zs.take 2) > m then 5 else 0)]) ∧ Rd 64 w' r (if val (zs.take 2) > m then zs else zs.drop 2) F ∧ Kept (fun b => b = r) w w' := by
  have HH := Lib.hid h
  obtain ⟨A, c, h⟩ := h
  obtain ⟨h1, h2, h3⟩ := h.data
  obtain ⟨g, o, rfl, _⟩ := h3 (by omega)
  have c0 : w.cell? ⟨r, 0, none⟩ = some (.slice (some ⟨g, o, none⟩) zs.length c) := cell_row h.row rfl
  have f0 : w.frozen? ⟨r, 0, none⟩ = false := free_row h.row
  have HGT := Lib.hid (rget_at w (.slice (some ⟨g, o, none⟩) zs.length c) zs 2 2 rfl (by decide) hB h.read)
  have HW := Lib.hid (widths2 w)
  have e1 : getV zs 2 = val (zs.take 2) := by unfold getV; rw [if_neg (by omega)]
  have e2 : getE zs 2 = 0 := by unfold getE; rw [if_neg (by omega)]
  obtain ⟨v0, v1⟩ := getV_range hB 2
  rw [e1, e2] at HGT
  rw [e1] at v0 v1
  have dm : decide (m < 0) = false := decide_eq_false hm
  obtain ⟨V, hV⟩ : ∃ V, val (zs.take 2) = V := ⟨_, rfl⟩
  rw [hV] at HGT v0 v1
  rw [hV]
  change V < 65536 at v1
  clear e1 e2 hV
  by_cases hg : V > m
  · rw [if_pos hg, if_pos hg, if_pos hg]
    obtain ⟨n, hn⟩ : ∃ n, zs.length = n := ⟨_, rfl⟩
    rw [hn] at c0 hl h1 HGT
    clear h h3 hn
    go_enter Try.func44, Try.ntmps44
    go_wp2_with (first | (go_at_call 51; (with_reducible refine HW.out.mono ?_); rintro e w1 ⟨rfl, rfl⟩) | (go_at_call 25; (with_reducible refine HGT.out.mono ?_); rintro e w1 ⟨rfl, rfl⟩) | fail)
    go_ret2
    exact ⟨rfl, HH.out, Kept.refl _ _⟩
  · rw [if_neg hg, if_neg hg, if_neg hg]
    by_cases hck : c = 2
    · subst hck
      obtain ⟨g1, g2⟩ := h.on hl (by decide) (.inl ⟨rfl, rfl, rfl⟩)
      have hn : zs.length = 2 := by omega
      rw [hn] at c0 g1 g2 HGT
      have G1 := Lib.hid g1
      have G2 := Lib.hid g2
      clear h h3 g1 g2 hn hl h1 h2
      go_enter Try.func44, Try.ntmps44
      go_wp2_with (first | (go_at_call 51; (with_reducible refine HW.out.mono ?_); rintro e w1 ⟨rfl, rfl⟩) | (go_at_call 25; (with_reducible refine HGT.out.mono ?_); rintro e w1 ⟨rfl, rfl⟩) | fail)
      go_ret2
      exact ⟨rfl, G1.out, G2.out⟩
    · obtain ⟨g1, g2⟩ := h.on (A' := some ⟨g, o + 2, none⟩) (c' := c - 2) hl (by decide) (.inr ⟨hck, rfl, fun g' o' e => by cases e; rfl⟩)
      obtain ⟨n, hn⟩ : ∃ n, zs.length = n := ⟨_, rfl⟩
      rw [hn] at c0 g1 g2 hl h1 HGT
      have G1 := Lib.hid g1
      have G2 := Lib.hid g2
      clear h h3 g1 g2 hn
      go_enter Try.func44, Try.ntmps44
      go_wp2_with (first | (go_at_call 51; (with_reducible refine HW.out.mono ?_); rintro e w1 ⟨rfl, rfl⟩) | (go_at_call 25; (with_reducible refine HGT.out.mono ?_); rintro e w1 ⟨rfl, rfl⟩) | fail)
      go_ret2
      exact ⟨rfl, G1.out, G2.out⟩
set_option maxHeartbeats 1000000 in
theorem widths4 (w : World) : Calls Try.prog 51 #[.int .i64 4] w fun e w' => e = .returned (.bool true) ∧ w = w' := by
  go_enter Try.func51, Try.ntmps51
  go_wp2
  go_ret
  exact ⟨rfl, rfl⟩
set_option maxHeartbeats 1000000 in
theorem rshort4 (w : World) (r : Nat) (zs : List Int) (F : Nat → Prop) (h : Rd 64 w r zs F) (hB : Bytes zs) (hl : zs.length < 4) : Calls Try.prog 43 #[.pointer (some ⟨r, 0, none⟩), .int .i64 4] w fun e w' => e = .returned (.tuple #[.int .u64 0, .int .i64 17]) ∧ w = w' := by
  obtain ⟨A, c, h⟩ := h
  have c0 : w.cell? ⟨r, 0, none⟩ = some (.slice A zs.length c) := cell_row h.row rfl
  have HG := Lib.hid (rget_at w (.slice A zs.length c) zs 4 4 rfl (by decide) hB h.read)
  have HW := Lib.hid (widths4 w)
  have e1 : getV zs 4 = 0 := by unfold getV; rw [if_pos hl]
  have e2 : getE zs 4 = 17 := by unfold getE; rw [if_pos hl]
  rw [e1, e2] at HG
  clear h e1 e2
  obtain ⟨n, hn⟩ : ∃ n, zs.length = n := ⟨_, rfl⟩
  rw [hn] at c0 hl HG
  clear hn
  go_enter Try.func43, Try.ntmps43
  go_wp2_with (first | (go_at_call 51; (with_reducible refine HW.out.mono ?_); rintro e w1 ⟨rfl, rfl⟩) | (go_at_call 25; (with_reducible refine HG.out.mono ?_); rintro e w1 ⟨rfl, rfl⟩) | fail)
  go_ret2
  exact ⟨rfl, rfl⟩
set_option maxHeartbeats 1000000 in
theorem rnumber4 (w : World) (r : Nat) (zs : List Int) (F : Nat → Prop) (h : Rd 64 w r zs F) (hB : Bytes zs) (hl : 4 ≤ zs.length) : Calls Try.prog 43 #[.pointer (some ⟨r, 0, none⟩), .int .i64 4] w fun e w' => e = .returned (.tuple #[.int .u64 (val (zs.take 4)), .int .i64 0]) ∧ Rd 64 w' r (zs.drop 4) F ∧ Kept (fun b => b = r) w w' := by
  obtain ⟨A, c, h⟩ := h
  obtain ⟨h1, h2, h3⟩ := h.data
  obtain ⟨g, o, rfl, _⟩ := h3 (by omega)
  have c0 : w.cell? ⟨r, 0, none⟩ = some (.slice (some ⟨g, o, none⟩) zs.length c) := cell_row h.row rfl
  have f0 : w.frozen? ⟨r, 0, none⟩ = false := free_row h.row
  have HGT := Lib.hid (rget_at w (.slice (some ⟨g, o, none⟩) zs.length c) zs 4 4 rfl (by decide) hB h.read)
  have HW := Lib.hid (widths4 w)
  have e1 : getV zs 4 = val (zs.take 4) := by unfold getV; rw [if_neg (by omega)]
  have e2 : getE zs 4 = 0 := by unfold getE; rw [if_neg (by omega)]
  rw [e1, e2] at HGT
  clear e1 e2
  by_cases hck : c = 4
  · subst hck
    obtain ⟨g1, g2⟩ := h.on hl (by decide) (.inl ⟨rfl, rfl, rfl⟩)
    have hn : zs.length = 4 := by omega
    rw [hn] at c0 g1 g2 HGT
    have G1 := Lib.hid g1
    have G2 := Lib.hid g2
    clear h h3 g1 g2 hn hl h1 h2
    go_enter Try.func43, Try.ntmps43
    go_wp2_with (first | (go_at_call 51; (with_reducible refine HW.out.mono ?_); rintro e w1 ⟨rfl, rfl⟩) | (go_at_call 25; (with_reducible refine HGT.out.mono ?_); rintro e w1 ⟨rfl, rfl⟩) | fail)
    go_ret2
    exact ⟨rfl, G1.out, G2.out⟩
  · obtain ⟨g1, g2⟩ := h.on (A' := some ⟨g, o + 4, none⟩) (c' := c - 4) hl (by decide) (.inr ⟨hck, rfl, fun g' o' e => by cases e; rfl⟩)
    obtain ⟨n, hn⟩ : ∃ n, zs.length = n := ⟨_, rfl⟩
    rw [hn] at c0 g1 g2 hl h1 HGT
    have G1 := Lib.hid g1
    have G2 := Lib.hid g2
    clear h h3 g1 g2 hn
    go_enter Try.func43, Try.ntmps43
    go_wp2_with (first | (go_at_call 51; (with_reducible refine HW.out.mono ?_); rintro e w1 ⟨rfl, rfl⟩) | (go_at_call 25; (with_reducible refine HGT.out.mono ?_); rintro e w1 ⟨rfl, rfl⟩) | fail)
    go_ret2
    exact ⟨rfl, G1.out, G2.out⟩
set_option maxHeartbeats 1000000 in
theorem rintshort4 (w : World) (r : Nat) (zs : List Int) (F : Nat → Prop) (h : Rd 64 w r zs F) (hB : Bytes zs) (hl : zs.length < 4) (m : Int) (hm : ¬ m < 0) : Calls Try.prog 44 #[.pointer (some ⟨r, 0, none⟩), .int .i64 4, .int .i64 m] w fun e w' => e = .returned (.tuple #[.int .i64 0, .int .i64 17]) ∧ w = w' := by
  obtain ⟨A, c, h⟩ := h
  have c0 : w.cell? ⟨r, 0, none⟩ = some (.slice A zs.length c) := cell_row h.row rfl
  have HG := Lib.hid (rget_at w (.slice A zs.length c) zs 4 4 rfl (by decide) hB h.read)
  have HW := Lib.hid (widths4 w)
  have e1 : getV zs 4 = 0 := by unfold getV; rw [if_pos hl]
  have e2 : getE zs 4 = 17 := by unfold getE; rw [if_pos hl]
  rw [e1, e2] at HG
  clear h e1 e2
  have dm : decide (m < 0) = false := decide_eq_false hm
  obtain ⟨n, hn⟩ : ∃ n, zs.length = n := ⟨_, rfl⟩
  rw [hn] at c0 hl HG
  clear hn
  go_enter Try.func44, Try.ntmps44
  go_wp2_with (first | (go_at_call 51; (with_reducible refine HW.out.mono ?_); rintro e w1 ⟨rfl, rfl⟩) | (go_at_call 25; (with_reducible refine HG.out.mono ?_); rintro e w1 ⟨rfl, rfl⟩) | fail)
  go_ret2
  exact ⟨rfl, rfl⟩
set_option maxHeartbeats 1000000 in
theorem rint4 (w : World) (r : Nat) (zs : List Int) (F : Nat → Prop) (h : Rd 64 w r zs F) (hB : Bytes zs) (hl : 4 ≤ zs.length) (m : Int) (hm : ¬ m < 0) (hm1 : m ≤ 9223372036854775807) : Calls Try.prog 44 #[.pointer (some ⟨r, 0, none⟩), .int .i64 4, .int .i64 m] w fun e w' => e = .returned (.tuple #[.int .i64 (if val (zs.take 4) > m then 0 else val (zs.take 4)), .int .i64 (if val (zs.take 4) > m then 5 else 0)]) ∧ Rd 64 w' r (if val (zs.take 4) > m then zs else zs.drop 4) F ∧ Kept (fun b => b = r) w w' := by
  have HH := Lib.hid h
  obtain ⟨A, c, h⟩ := h
  obtain ⟨h1, h2, h3⟩ := h.data
  obtain ⟨g, o, rfl, _⟩ := h3 (by omega)
  have c0 : w.cell? ⟨r, 0, none⟩ = some (.slice (some ⟨g, o, none⟩) zs.length c) := cell_row h.row rfl
  have f0 : w.frozen? ⟨r, 0, none⟩ = false := free_row h.row
  have HGT := Lib.hid (rget_at w (.slice (some ⟨g, o, none⟩) zs.length c) zs 4 4 rfl (by decide) hB h.read)
  have HW := Lib.hid (widths4 w)
  have e1 : getV zs 4 = val (zs.take 4) := by unfold getV; rw [if_neg (by omega)]
  have e2 : getE zs 4 = 0 := by unfold getE; rw [if_neg (by omega)]
  obtain ⟨v0, v1⟩ := getV_range hB 4
  rw [e1, e2] at HGT
  rw [e1] at v0 v1
  have dm : decide (m < 0) = false := decide_eq_false hm
  obtain ⟨V, hV⟩ : ∃ V, val (zs.take 4) = V := ⟨_, rfl⟩
  rw [hV] at HGT v0 v1
  rw [hV]
  change V < 4294967296 at v1
  clear e1 e2 hV
  by_cases hg : V > m
  · rw [if_pos hg, if_pos hg, if_pos hg]
    obtain ⟨n, hn⟩ : ∃ n, zs.length = n := ⟨_, rfl⟩
    rw [hn] at c0 hl h1 HGT
    clear h h3 hn
    go_enter Try.func44, Try.ntmps44
    go_wp2_with (first | (go_at_call 51; (with_reducible refine HW.out.mono ?_); rintro e w1 ⟨rfl, rfl⟩) | (go_at_call 25; (with_reducible refine HGT.out.mono ?_); rintro e w1 ⟨rfl, rfl⟩) | fail)
    go_ret2
    exact ⟨rfl, HH.out, Kept.refl _ _⟩
  · rw [if_neg hg, if_neg hg, if_neg hg]
    by_cases hck : c = 4
    · subst hck
      obtain ⟨g1, g2⟩ := h.on hl (by decide) (.inl ⟨rfl, rfl, rfl⟩)
      have hn : zs.length = 4 := by omega
      rw [hn] at c0 g1 g2 HGT
      have G1 := Lib.hid g1
      have G2 := Lib.hid g2
      clear h h3 g1 g2 hn hl h1 h2
      go_enter Try.func44, Try.ntmps44
      go_wp2_with (first | (go_at_call 51; (with_reducible refine HW.out.mono ?_); rintro e w1 ⟨rfl, rfl⟩) | (go_at_call 25; (with_reducible refine HGT.out.mono ?_); rintro e w1 ⟨rfl, rfl⟩) | fail)
      go_ret2
      exact ⟨rfl, G1.out, G2.out⟩
    · obtain ⟨g1, g2⟩ := h.on (A' := some ⟨g, o + 4, none⟩) (c' := c - 4) hl (by decide) (.inr ⟨hck, rfl, fun g' o' e => by cases e; rfl⟩)
      obtain ⟨n, hn⟩ : ∃ n, zs.length = n := ⟨_, rfl⟩
      rw [hn] at c0 g1 g2 hl h1 HGT
      have G1 := Lib.hid g1
      have G2 := Lib.hid g2
      clear h h3 g1 g2 hn
      go_enter Try.func44, Try.ntmps44
      go_wp2_with (first | (go_at_call 51; (with_reducible refine HW.out.mono ?_); rintro e w1 ⟨rfl, rfl⟩) | (go_at_call 25; (with_reducible refine HGT.out.mono ?_); rintro e w1 ⟨rfl, rfl⟩) | fail)
      go_ret2
      exact ⟨rfl, G1.out, G2.out⟩
set_option maxHeartbeats 1000000 in
theorem widths8 (w : World) : Calls Try.prog 51 #[.int .i64 8] w fun e w' => e = .returned (.bool true) ∧ w = w' := by
  go_enter Try.func51, Try.ntmps51
  go_wp2
  go_ret
  exact ⟨rfl, rfl⟩
set_option maxHeartbeats 1000000 in
theorem rshort8 (w : World) (r : Nat) (zs : List Int) (F : Nat → Prop) (h : Rd 64 w r zs F) (hB : Bytes zs) (hl : zs.length < 8) : Calls Try.prog 43 #[.pointer (some ⟨r, 0, none⟩), .int .i64 8] w fun e w' => e = .returned (.tuple #[.int .u64 0, .int .i64 17]) ∧ w = w' := by
  obtain ⟨A, c, h⟩ := h
  have c0 : w.cell? ⟨r, 0, none⟩ = some (.slice A zs.length c) := cell_row h.row rfl
  have HG := Lib.hid (rget_at w (.slice A zs.length c) zs 8 8 rfl (by decide) hB h.read)
  have HW := Lib.hid (widths8 w)
  have e1 : getV zs 8 = 0 := by unfold getV; rw [if_pos hl]
  have e2 : getE zs 8 = 17 := by unfold getE; rw [if_pos hl]
  rw [e1, e2] at HG
  clear h e1 e2
  obtain ⟨n, hn⟩ : ∃ n, zs.length = n := ⟨_, rfl⟩
  rw [hn] at c0 hl HG
  clear hn
  go_enter Try.func43, Try.ntmps43
  go_wp2_with (first | (go_at_call 51; (with_reducible refine HW.out.mono ?_); rintro e w1 ⟨rfl, rfl⟩) | (go_at_call 25; (with_reducible refine HG.out.mono ?_); rintro e w1 ⟨rfl, rfl⟩) | fail)
  go_ret2
  exact ⟨rfl, rfl⟩
set_option maxHeartbeats 1000000 in
theorem rnumber8 (w : World) (r : Nat) (zs : List Int) (F : Nat → Prop) (h : Rd 64 w r zs F) (hB : Bytes zs) (hl : 8 ≤ zs.length) : Calls Try.prog 43 #[.pointer (some ⟨r, 0, none⟩), .int .i64 8] w fun e w' => e = .returned (.tuple #[.int .u64 (val (zs.take 8)), .int .i64 0]) ∧ Rd 64 w' r (zs.drop 8) F ∧ Kept (fun b => b = r) w w' := by
  obtain ⟨A, c, h⟩ := h
  obtain ⟨h1, h2, h3⟩ := h.data
  obtain ⟨g, o, rfl, _⟩ := h3 (by omega)
  have c0 : w.cell? ⟨r, 0, none⟩ = some (.slice (some ⟨g, o, none⟩) zs.length c) := cell_row h.row rfl
  have f0 : w.frozen? ⟨r, 0, none⟩ = false := free_row h.row
  have HGT := Lib.hid (rget_at w (.slice (some ⟨g, o, none⟩) zs.length c) zs 8 8 rfl (by decide) hB h.read)
  have HW := Lib.hid (widths8 w)
  have e1 : getV zs 8 = val (zs.take 8) := by unfold getV; rw [if_neg (by omega)]
  have e2 : getE zs 8 = 0 := by unfold getE; rw [if_neg (by omega)]
  rw [e1, e2] at HGT
  clear e1 e2
  by_cases hck : c = 8
  · subst hck
    obtain ⟨g1, g2⟩ := h.on hl (by decide) (.inl ⟨rfl, rfl, rfl⟩)
    have hn : zs.length = 8 := by omega
    rw [hn] at c0 g1 g2 HGT
    have G1 := Lib.hid g1
    have G2 := Lib.hid g2
    clear h h3 g1 g2 hn hl h1 h2
    go_enter Try.func43, Try.ntmps43
    go_wp2_with (first | (go_at_call 51; (with_reducible refine HW.out.mono ?_); rintro e w1 ⟨rfl, rfl⟩) | (go_at_call 25; (with_reducible refine HGT.out.mono ?_); rintro e w1 ⟨rfl, rfl⟩) | fail)
    go_ret2
    exact ⟨rfl, G1.out, G2.out⟩
  · obtain ⟨g1, g2⟩ := h.on (A' := some ⟨g, o + 8, none⟩) (c' := c - 8) hl (by decide) (.inr ⟨hck, rfl, fun g' o' e => by cases e; rfl⟩)
    obtain ⟨n, hn⟩ : ∃ n, zs.length = n := ⟨_, rfl⟩
    rw [hn] at c0 g1 g2 hl h1 HGT
    have G1 := Lib.hid g1
    have G2 := Lib.hid g2
    clear h h3 g1 g2 hn
    go_enter Try.func43, Try.ntmps43
    go_wp2_with (first | (go_at_call 51; (with_reducible refine HW.out.mono ?_); rintro e w1 ⟨rfl, rfl⟩) | (go_at_call 25; (with_reducible refine HGT.out.mono ?_); rintro e w1 ⟨rfl, rfl⟩) | fail)
    go_ret2
    exact ⟨rfl, G1.out, G2.out⟩
set_option maxHeartbeats 1000000 in
theorem rintshort8 (w : World) (r : Nat) (zs : List Int) (F : Nat → Prop) (h : Rd 64 w r zs F) (hB : Bytes zs) (hl : zs.length < 8) (m : Int) (hm : ¬ m < 0) : Calls Try.prog 44 #[.pointer (some ⟨r, 0, none⟩), .int .i64 8, .int .i64 m] w fun e w' => e = .returned (.tuple #[.int .i64 0, .int .i64 17]) ∧ w = w' := by
  obtain ⟨A, c, h⟩ := h
  have c0 : w.cell? ⟨r, 0, none⟩ = some (.slice A zs.length c) := cell_row h.row rfl
  have HG := Lib.hid (rget_at w (.slice A zs.length c) zs 8 8 rfl (by decide) hB h.read)
  have HW := Lib.hid (widths8 w)
  have e1 : getV zs 8 = 0 := by unfold getV; rw [if_pos hl]
  have e2 : getE zs 8 = 17 := by unfold getE; rw [if_pos hl]
  rw [e1, e2] at HG
  clear h e1 e2
  have dm : decide (m < 0) = false := decide_eq_false hm
  obtain ⟨n, hn⟩ : ∃ n, zs.length = n := ⟨_, rfl⟩
  rw [hn] at c0 hl HG
  clear hn
  go_enter Try.func44, Try.ntmps44
  go_wp2_with (first | (go_at_call 51; (with_reducible refine HW.out.mono ?_); rintro e w1 ⟨rfl, rfl⟩) | (go_at_call 25; (with_reducible refine HG.out.mono ?_); rintro e w1 ⟨rfl, rfl⟩) | fail)
  go_ret2
  exact ⟨rfl, rfl⟩
set_option maxHeartbeats 1000000 in
theorem rint8 (w : World) (r : Nat) (zs : List Int) (F : Nat → Prop) (h : Rd 64 w r zs F) (hB : Bytes zs) (hl : 8 ≤ zs.length) (m : Int) (hm : ¬ m < 0) (hm1 : m ≤ 9223372036854775807) : Calls Try.prog 44 #[.pointer (some ⟨r, 0, none⟩), .int .i64 8, .int .i64 m] w fun e w' => e = .returned (.tuple #[.int .i64 (if val (zs.take 8) > m then 0 else val (zs.take 8)), .int .i64 (if val (zs.take 8) > m then 5 else 0)]) ∧ Rd 64 w' r (if val (zs.take 8) > m then zs else zs.drop 8) F ∧ Kept (fun b => b = r) w w' := by
  have HH := Lib.hid h
  obtain ⟨A, c, h⟩ := h
  obtain ⟨h1, h2, h3⟩ := h.data
  obtain ⟨g, o, rfl, _⟩ := h3 (by omega)
  have c0 : w.cell? ⟨r, 0, none⟩ = some (.slice (some ⟨g, o, none⟩) zs.length c) := cell_row h.row rfl
  have f0 : w.frozen? ⟨r, 0, none⟩ = false := free_row h.row
  have HGT := Lib.hid (rget_at w (.slice (some ⟨g, o, none⟩) zs.length c) zs 8 8 rfl (by decide) hB h.read)
  have HW := Lib.hid (widths8 w)
  have e1 : getV zs 8 = val (zs.take 8) := by unfold getV; rw [if_neg (by omega)]
  have e2 : getE zs 8 = 0 := by unfold getE; rw [if_neg (by omega)]
  obtain ⟨v0, v1⟩ := getV_range hB 8
  rw [e1, e2] at HGT
  rw [e1] at v0 v1
  have dm : decide (m < 0) = false := decide_eq_false hm
  obtain ⟨V, hV⟩ : ∃ V, val (zs.take 8) = V := ⟨_, rfl⟩
  rw [hV] at HGT v0 v1
  rw [hV]
  change V < 18446744073709551616 at v1
  clear e1 e2 hV
  by_cases hg : V > m
  · rw [if_pos hg, if_pos hg, if_pos hg]
    obtain ⟨n, hn⟩ : ∃ n, zs.length = n := ⟨_, rfl⟩
    rw [hn] at c0 hl h1 HGT
    clear h h3 hn
    go_enter Try.func44, Try.ntmps44
    go_wp2_with (first | (go_at_call 51; (with_reducible refine HW.out.mono ?_); rintro e w1 ⟨rfl, rfl⟩) | (go_at_call 25; (with_reducible refine HGT.out.mono ?_); rintro e w1 ⟨rfl, rfl⟩) | fail)
    go_ret2
    exact ⟨rfl, HH.out, Kept.refl _ _⟩
  · rw [if_neg hg, if_neg hg, if_neg hg]
    by_cases hck : c = 8
    · subst hck
      obtain ⟨g1, g2⟩ := h.on hl (by decide) (.inl ⟨rfl, rfl, rfl⟩)
      have hn : zs.length = 8 := by omega
      rw [hn] at c0 g1 g2 HGT
      have G1 := Lib.hid g1
      have G2 := Lib.hid g2
      clear h h3 g1 g2 hn hl h1 h2
      go_enter Try.func44, Try.ntmps44
      go_wp2_with (first | (go_at_call 51; (with_reducible refine HW.out.mono ?_); rintro e w1 ⟨rfl, rfl⟩) | (go_at_call 25; (with_reducible refine HGT.out.mono ?_); rintro e w1 ⟨rfl, rfl⟩) | fail)
      go_ret2
      exact ⟨rfl, G1.out, G2.out⟩
    · obtain ⟨g1, g2⟩ := h.on (A' := some ⟨g, o + 8, none⟩) (c' := c - 8) hl (by decide) (.inr ⟨hck, rfl, fun g' o' e => by cases e; rfl⟩)
      obtain ⟨n, hn⟩ : ∃ n, zs.length = n := ⟨_, rfl⟩
      rw [hn] at c0 g1 g2 hl h1 HGT
      have G1 := Lib.hid g1
      have G2 := Lib.hid g2
      clear h h3 g1 g2 hn
      go_enter Try.func44, Try.ntmps44
      go_wp2_with (first | (go_at_call 51; (with_reducible refine HW.out.mono ?_); rintro e w1 ⟨rfl, rfl⟩) | (go_at_call 25; (with_reducible refine HGT.out.mono ?_); rintro e w1 ⟨rfl, rfl⟩) | fail)
      go_ret2
      exact ⟨rfl, G1.out, G2.out⟩
set_option maxHeartbeats 1000000 in
theorem rnumber_bad (w : World) (r : Nat) (k : Int) (hk : ¬ (k = 1 ∨ k = 2 ∨ k = 4 ∨ k = 8)) : Calls Try.prog 43 #[.pointer (some ⟨r, 0, none⟩), .int .i64 k] w fun e w' => e = .returned (.tuple #[.int .u64 0, .int .i64 5]) ∧ w = w' := by
  have HW := Lib.hid (widths_no w k hk)
  clear hk
  go_enter Try.func43, Try.ntmps43
  go_wp2_with (first | (go_at_call 51; (with_reducible refine HW.out.mono ?_); rintro e w1 ⟨rfl, rfl⟩) | fail)
  go_ret2
  exact ⟨rfl, rfl⟩
theorem rnumber_any (w : World) (r : Nat) (zs : List Int) (F : Nat → Prop) (h : Rd 64 w r zs F) (hB : Bytes zs) (k : Int) : Calls Try.prog 43 #[.pointer (some ⟨r, 0, none⟩), .int .i64 k] w fun e w' => e = .returned (.tuple #[.int .u64 (numV zs k), .int .i64 (numE zs k)]) ∧ Rd 64 w' r (numL zs k) F ∧ Kept (fun b => b = r) w w' := by
  unfold numV numE numL
  by_cases hk : k = 1 ∨ k = 2 ∨ k = 4 ∨ k = 8
  · have hk0 : ¬ ¬ (k = 1 ∨ k = 2 ∨ k = 4 ∨ k = 8) := fun h => h hk
    rw [if_neg hk0, if_neg hk0, if_neg hk0]
    by_cases hl : (zs.length : Int) < k
    · rw [if_pos hl, if_pos hl, if_pos hl]
      rcases hk with rfl | rfl | rfl | rfl
      · exact (rshort1 w r zs F h hB (by omega)).mono (by rintro e w' ⟨rfl, rfl⟩; exact ⟨rfl, h, Kept.refl _ _⟩)
      · exact (rshort2 w r zs F h hB (by omega)).mono (by rintro e w' ⟨rfl, rfl⟩; exact ⟨rfl, h, Kept.refl _ _⟩)
      · exact (rshort4 w r zs F h hB (by omega)).mono (by rintro e w' ⟨rfl, rfl⟩; exact ⟨rfl, h, Kept.refl _ _⟩)
      · exact (rshort8 w r zs F h hB (by omega)).mono (by rintro e w' ⟨rfl, rfl⟩; exact ⟨rfl, h, Kept.refl _ _⟩)
    · rw [if_neg hl, if_neg hl, if_neg hl]
      rcases hk with rfl | rfl | rfl | rfl
      · exact rnumber1 w r zs F h hB (by omega)
      · exact rnumber2 w r zs F h hB (by omega)
      · exact rnumber4 w r zs F h hB (by omega)
      · exact rnumber8 w r zs F h hB (by omega)
  · rw [if_pos hk, if_pos hk, if_pos hk]
    exact (rnumber_bad w r k hk).mono (by rintro e w' ⟨rfl, rfl⟩; exact ⟨rfl, h, Kept.refl _ _⟩)
set_option maxHeartbeats 1000000 in
theorem rint_bad (w : World) (r : Nat) (k m : Int) (hk : ¬ (k = 1 ∨ k = 2 ∨ k = 4 ∨ k = 8)) : Calls Try.prog 44 #[.pointer (some ⟨r, 0, none⟩), .int .i64 k, .int .i64 m] w fun e w' => e = .returned (.tuple #[.int .i64 0, .int .i64 5]) ∧ w = w' := by
  have HW := Lib.hid (widths_no w k hk)
  clear hk
  go_enter Try.func44, Try.ntmps44
  go_wp2_with (first | (go_at_call 51; (with_reducible refine HW.out.mono ?_); rintro e w1 ⟨rfl, rfl⟩) | fail)
  go_ret2
  exact ⟨rfl, rfl⟩
set_option maxHeartbeats 1000000 in
theorem rint_neg (w : World) (r : Nat) (k m : Int) (hk : k = 1 ∨ k = 2 ∨ k = 4 ∨ k = 8) (hm : m < 0) : Calls Try.prog 44 #[.pointer (some ⟨r, 0, none⟩), .int .i64 k, .int .i64 m] w fun e w' => e = .returned (.tuple #[.int .i64 0, .int .i64 5]) ∧ w = w' := by
  have HW : Hid (Calls Try.prog 51 #[.int .i64 k] w fun e w' => e = .returned (.bool true) ∧ w = w') := by
    rcases hk with rfl | rfl | rfl | rfl
    · exact widths1 w
    · exact widths2 w
    · exact widths4 w
    · exact widths8 w
  have dm : decide (m < 0) = true := decide_eq_true hm
  clear hk hm
  go_enter Try.func44, Try.ntmps44
  go_wp2_with (first | (go_at_call 51; (with_reducible refine HW.out.mono ?_); rintro e w1 ⟨rfl, rfl⟩) | fail)
  go_ret2
  exact ⟨rfl, rfl⟩
theorem rint_any (w : World) (r : Nat) (zs : List Int) (F : Nat → Prop) (h : Rd 64 w r zs F) (hB : Bytes zs) (k m : Int) (hm1 : m ≤ 9223372036854775807) : Calls Try.prog 44 #[.pointer (some ⟨r, 0, none⟩), .int .i64 k, .int .i64 m] w fun e w' => e = .returned (.tuple #[.int .i64 (intV zs k m), .int .i64 (intE zs k m)]) ∧ Rd 64 w' r (intL zs k m) F ∧ Kept (fun b => b = r) w w' := by
  unfold intV intE intL
  by_cases hk : k = 1 ∨ k = 2 ∨ k = 4 ∨ k = 8
  · by_cases hm : m < 0
    · rw [if_pos hm, if_pos hm, if_pos hm]
      exact (rint_neg w r k m hk hm).mono (by rintro e w' ⟨rfl, rfl⟩; exact ⟨rfl, h, Kept.refl _ _⟩)
    · rw [if_neg hm, if_neg hm, if_neg hm]
      have hk0 : ¬ ¬ (k = 1 ∨ k = 2 ∨ k = 4 ∨ k = 8) := fun h => h hk
      unfold numV numE numL
      rw [if_neg hk0, if_neg hk0, if_neg hk0]
      by_cases hl : (zs.length : Int) < k
      · rw [if_pos hl, if_pos hl, if_pos hl, if_pos (by decide), if_pos (by decide), if_pos (by decide)]
        rcases hk with rfl | rfl | rfl | rfl
        · exact (rintshort1 w r zs F h hB (by omega) m hm).mono (by rintro e w' ⟨rfl, rfl⟩; exact ⟨rfl, h, Kept.refl _ _⟩)
        · exact (rintshort2 w r zs F h hB (by omega) m hm).mono (by rintro e w' ⟨rfl, rfl⟩; exact ⟨rfl, h, Kept.refl _ _⟩)
        · exact (rintshort4 w r zs F h hB (by omega) m hm).mono (by rintro e w' ⟨rfl, rfl⟩; exact ⟨rfl, h, Kept.refl _ _⟩)
        · exact (rintshort8 w r zs F h hB (by omega) m hm).mono (by rintro e w' ⟨rfl, rfl⟩; exact ⟨rfl, h, Kept.refl _ _⟩)
      · have z0 : ¬ ((0 : Int) ≠ 0) := fun h => h rfl
        rw [if_neg hl, if_neg hl, if_neg hl, if_neg z0, if_neg z0, if_neg z0]
        rcases hk with rfl | rfl | rfl | rfl
        · exact rint1 w r zs F h hB (by omega) m hm hm1
        · exact rint2 w r zs F h hB (by omega) m hm hm1
        · exact rint4 w r zs F h hB (by omega) m hm hm1
        · exact rint8 w r zs F h hB (by omega) m hm hm1
  · have hE : numE zs k = 5 := by unfold numE; rw [if_pos hk]
    have hN : (if m < 0 then (5 : Int) else if numE zs k ≠ 0 then numE zs k else if numV zs k > m then 5 else 0) = 5 := by
      rw [hE]; split <;> simp
    have hN2 : (if m < 0 then (0 : Int) else if numE zs k ≠ 0 then 0 else if numV zs k > m then 0 else numV zs k) = 0 := by
      rw [hE]; split <;> simp
    have hN3 : (if m < 0 then zs else if numE zs k ≠ 0 then zs else if numV zs k > m then zs else numL zs k) = zs := by
      rw [hE]; split <;> simp
    rw [hN, hN2, hN3]
    exact (rint_bad w r k m hk).mono (by rintro e w' ⟨rfl, rfl⟩; exact ⟨rfl, h, Kept.refl _ _⟩)
end Go.Proofs.Ytolfmchgcelnmaa.O

/- A number that bytes begin with, of the program and of the document; a number that is most at most. -/
import Derived.Test.YtolfmchgcelnmaaOc6
namespace Go.Proofs.Ytolfmchgcelnmaa.O
open Go.RowKit Go.Proofs.Ytolfmchgcelnmaa.Mem
def getV (zs : List Int) (k : Nat) : Int := if zs.length < k then 0 else val (zs.take k)
def getE (zs : List Int) (k : Nat) : Int := if zs.length < k then 17 else 0
set_option maxHeartbeats 1000000 in
theorem get1 (w : World) (v : Value) (zs : List Int) (hB : Bytes zs) (h : RB w v zs) : Calls Try.prog 21 #[v] w fun e w' => e = .returned (.tuple #[.int .u8 (getV zs 1), .int .i64 (getE zs 1)]) ∧ w = w' := by
  have HW := Lib.hid (width1 w)
  obtain ⟨A, c, rfl, h1, h2, h3⟩ := h
  unfold maxLen at h2
  unfold getV getE
  by_cases hl : zs.length < 1
  · rw [if_pos hl, if_pos hl]
    obtain ⟨n, hn⟩ : ∃ n, zs.length = n := ⟨_, rfl⟩
    rw [hn] at hl h1 ⊢
    clear h3 hn hB
    go_enter Try.func21, Try.ntmps21
    go_wp2_with (first | (go_at_call 38; (with_reducible refine HW.out.mono ?_); rintro e w1 ⟨rfl, rfl⟩) | fail)
    go_ret2
    exact ⟨rfl, rfl⟩
  · rw [if_neg hl, if_neg hl]
    have hb : Bytes (zs.take 1) := fun z hz => hB z (List.mem_of_mem_take hz)
    have b0 := val_lo hb
    have b1 : val (zs.take 1) < 256 := val_lt (k := 1) hb (by rw [List.length_take]; omega)
    have HLOW := Lib.hid (low_any w (.slice A 1 c) (zs.take 1) hb (by rw [List.length_take]; omega) (RB.take (⟨A, c, rfl, h1, by unfold maxLen; omega, h3⟩ : RB w (.slice A zs.length c) zs) (by omega) rfl))
    obtain ⟨g, o, rfl, _⟩ := h3 (by omega)
    obtain ⟨V, hV⟩ : ∃ V, val (zs.take 1) = V := ⟨_, rfl⟩
    obtain ⟨n, hn⟩ : ∃ n, zs.length = n := ⟨_, rfl⟩
    rw [hn] at hl h1 ⊢
    rw [hV] at b0 b1 HLOW ⊢
    clear h3 hn hB hb hV
    go_enter Try.func21, Try.ntmps21
    go_wp2_with (first | (go_at_call 38; (with_reducible refine HW.out.mono ?_); rintro e w1 ⟨rfl, rfl⟩) | (go_at_call 42; (with_reducible refine HLOW.out.mono ?_); rintro e w1 ⟨rfl, rfl⟩) | fail)
    go_ret2
    exact ⟨rfl, rfl⟩
set_option maxHeartbeats 1000000 in
theorem get2 (w : World) (v : Value) (zs : List Int) (hB : Bytes zs) (h : RB w v zs) : Calls Try.prog 22 #[v] w fun e w' => e = .returned (.tuple #[.int .u16 (getV zs 2), .int .i64 (getE zs 2)]) ∧ w = w' := by
  have HW := Lib.hid (width2 w)
  obtain ⟨A, c, rfl, h1, h2, h3⟩ := h
  unfold maxLen at h2
  unfold getV getE
  by_cases hl : zs.length < 2
  · rw [if_pos hl, if_pos hl]
    obtain ⟨n, hn⟩ : ∃ n, zs.length = n := ⟨_, rfl⟩
    rw [hn] at hl h1 ⊢
    clear h3 hn hB
    go_enter Try.func22, Try.ntmps22
    go_wp2_with (first | (go_at_call 39; (with_reducible refine HW.out.mono ?_); rintro e w1 ⟨rfl, rfl⟩) | fail)
    go_ret2
    exact ⟨rfl, rfl⟩
  · rw [if_neg hl, if_neg hl]
    have hb : Bytes (zs.take 2) := fun z hz => hB z (List.mem_of_mem_take hz)
    have b0 := val_lo hb
    have b1 : val (zs.take 2) < 65536 := val_lt (k := 2) hb (by rw [List.length_take]; omega)
    have HLOW := Lib.hid (low_any w (.slice A 2 c) (zs.take 2) hb (by rw [List.length_take]; omega) (RB.take (⟨A, c, rfl, h1, by unfold maxLen; omega, h3⟩ : RB w (.slice A zs.length c) zs) (by omega) rfl))
    obtain ⟨g, o, rfl, _⟩ := h3 (by omega)
    obtain ⟨V, hV⟩ : ∃ V, val (zs.take 2) = V := ⟨_, rfl⟩
    obtain ⟨n, hn⟩ : ∃ n, zs.length = n := ⟨_, rfl⟩
    rw [hn] at hl h1 ⊢
    rw [hV] at b0 b1 HLOW ⊢
    clear h3 hn hB hb hV
    go_enter Try.func22, Try.ntmps22
    go_wp2_with (first | (go_at_call 39; (with_reducible refine HW.out.mono ?_); rintro e w1 ⟨rfl, rfl⟩) | (go_at_call 42; (with_reducible refine HLOW.out.mono ?_); rintro e w1 ⟨rfl, rfl⟩) | fail)
    go_ret2
    exact ⟨rfl, rfl⟩
set_option maxHeartbeats 1000000 in
theorem get4 (w : World) (v : Value) (zs : List Int) (hB : Bytes zs) (h : RB w v zs) : Calls Try.prog 23 #[v] w fun e w' => e = .returned (.tuple #[.int .u32 (getV zs 4), .int .i64 (getE zs 4)]) ∧ w = w' := by
  have HW := Lib.hid (width4 w)
  obtain ⟨A, c, rfl, h1, h2, h3⟩ := h
  unfold maxLen at h2
  unfold getV getE
  by_cases hl : zs.length < 4
  · rw [if_pos hl, if_pos hl]
    obtain ⟨n, hn⟩ : ∃ n, zs.length = n := ⟨_, rfl⟩
    rw [hn] at hl h1 ⊢
    clear h3 hn hB
    go_enter Try.func23, Try.ntmps23
    go_wp2_with (first | (go_at_call 40; (with_reducible refine HW.out.mono ?_); rintro e w1 ⟨rfl, rfl⟩) | fail)
    go_ret2
    exact ⟨rfl, rfl⟩
  · rw [if_neg hl, if_neg hl]
    have hb : Bytes (zs.take 4) := fun z hz => hB z (List.mem_of_mem_take hz)
    have b0 := val_lo hb
    have b1 : val (zs.take 4) < 4294967296 := val_lt (k := 4) hb (by rw [List.length_take]; omega)
    have HLOW := Lib.hid (low_any w (.slice A 4 c) (zs.take 4) hb (by rw [List.length_take]; omega) (RB.take (⟨A, c, rfl, h1, by unfold maxLen; omega, h3⟩ : RB w (.slice A zs.length c) zs) (by omega) rfl))
    obtain ⟨g, o, rfl, _⟩ := h3 (by omega)
    obtain ⟨V, hV⟩ : ∃ V, val (zs.take 4) = V := ⟨_, rfl⟩
    obtain ⟨n, hn⟩ : ∃ n, zs.length = n := ⟨_, rfl⟩
    rw [hn] at hl h1 ⊢
    rw [hV] at b0 b1 HLOW ⊢
    clear h3 hn hB hb hV
    go_enter Try.func23, Try.ntmps23
    go_wp2_with (first | (go_at_call 40; (with_reducible refine HW.out.mono ?_); rintro e w1 ⟨rfl, rfl⟩) | (go_at_call 42; (with_reducible refine HLOW.out.mono ?_); rintro e w1 ⟨rfl, rfl⟩) | fail)
    go_ret2
    exact ⟨rfl, rfl⟩
set_option maxHeartbeats 1000000 in
theorem get8 (w : World) (v : Value) (zs : List Int) (hB : Bytes zs) (h : RB w v zs) : Calls Try.prog 24 #[v] w fun e w' => e = .returned (.tuple #[.int .u64 (getV zs 8), .int .i64 (getE zs 8)]) ∧ w = w' := by
  have HW := Lib.hid (width8 w)
  obtain ⟨A, c, rfl, h1, h2, h3⟩ := h
  unfold maxLen at h2
  unfold getV getE
  by_cases hl : zs.length < 8
  · rw [if_pos hl, if_pos hl]
    obtain ⟨n, hn⟩ : ∃ n, zs.length = n := ⟨_, rfl⟩
    rw [hn] at hl h1 ⊢
    clear h3 hn hB
    go_enter Try.func24, Try.ntmps24
    go_wp2_with (first | (go_at_call 41; (with_reducible refine HW.out.mono ?_); rintro e w1 ⟨rfl, rfl⟩) | fail)
    go_ret2
    exact ⟨rfl, rfl⟩
  · rw [if_neg hl, if_neg hl]
    have hb : Bytes (zs.take 8) := fun z hz => hB z (List.mem_of_mem_take hz)
    have b0 := val_lo hb
    have b1 : val (zs.take 8) < 18446744073709551616 := val_lt (k := 8) hb (by rw [List.length_take]; omega)
    have HLOW := Lib.hid (low_any w (.slice A 8 c) (zs.take 8) hb (by rw [List.length_take]; omega) (RB.take (⟨A, c, rfl, h1, by unfold maxLen; omega, h3⟩ : RB w (.slice A zs.length c) zs) (by omega) rfl))
    obtain ⟨g, o, rfl, _⟩ := h3 (by omega)
    obtain ⟨V, hV⟩ : ∃ V, val (zs.take 8) = V := ⟨_, rfl⟩
    obtain ⟨n, hn⟩ : ∃ n, zs.length = n := ⟨_, rfl⟩
    rw [hn] at hl h1 ⊢
    rw [hV] at b0 b1 HLOW ⊢
    clear h3 hn hB hb hV
    go_enter Try.func24, Try.ntmps24
    go_wp2_with (first | (go_at_call 41; (with_reducible refine HW.out.mono ?_); rintro e w1 ⟨rfl, rfl⟩) | (go_at_call 42; (with_reducible refine HLOW.out.mono ?_); rintro e w1 ⟨rfl, rfl⟩) | fail)
    go_ret2
    exact ⟨rfl, rfl⟩
set_option maxHeartbeats 1000000 in
theorem rget_any (w : World) (v : Value) (zs : List Int) (k : Nat) (hk : k ≤ 8) (hB : Bytes zs) (h : RB w v zs) : Calls Try.prog 25 #[v, .int .i64 k] w fun e w' => e = .returned (.tuple #[.int .u64 (getV zs k), .int .i64 (getE zs k)]) ∧ w = w' := by
  obtain ⟨A, c, rfl, h1, h2, h3⟩ := h
  unfold maxLen at h2
  unfold getV getE
  obtain ⟨n, hn⟩ : ∃ n, zs.length = n := ⟨_, rfl⟩
  rw [hn] at h1 h3 ⊢
  have HA := Lib.hid h3
  have HN := Lib.hid hn
  have HB := Lib.hid hB
  clear h3 hn hB
  by_cases hl : n < k
  · rw [if_pos hl, if_pos hl]
    go_enter Try.func25, Try.ntmps25
    go_wp2
    go_ret2
    exact ⟨rfl, rfl⟩
  · rw [if_neg hl, if_neg hl]
    obtain ⟨ys, hys⟩ : ∃ ys, zs.take k = ys := ⟨_, rfl⟩
    have HY : Hid (ys.length = k ∧ Bytes ys ∧ ∀ (j : Nat) (u : Int), ys[j]? = some u → zs[j]? = some u) := by
      refine ⟨by rw [← hys, List.length_take, HN.out]; omega, fun z hz => HB.out z (List.mem_of_mem_take (hys ▸ hz)), fun j u hu => ?_⟩
      rw [← hys] at hu
      have hj := (List.getElem?_eq_some_iff.1 hu).1
      rw [List.length_take] at hj
      rwa [List.getElem?_take_of_lt (by omega)] at hu
    rw [hys]
    clear hys
    go_enter Try.func25, Try.ntmps25
    go_wp2
    go_loop [6, 7] (fun v3 v4 => ∃ j : Nat, j ≤ k ∧ v4 = .int .i64 ((j : Int) - 1) ∧ v3 = .int .u64 (val (ys.drop j))) (fun _ v4 => (intOf v4 + 1).toNat)
    case atStart => exact ⟨k, Nat.le_refl _, rfl, by rw [List.drop_of_length_le (by rw [HY.out.1]; exact Nat.le_refl _)]; rfl⟩
    case round =>
      obtain ⟨j, hj, rfl, rfl⟩ := hrel
      rcases Nat.eq_zero_or_pos j with rfl | hj0
      · go_wp2
        go_ret2
        exact ⟨by simp, rfl⟩
      · obtain ⟨i, rfl⟩ : ∃ i, j = i + 1 := ⟨j - 1, by omega⟩
        rw [show ((i + 1 : Nat) : Int) - 1 = (i : Int) by omega]
        obtain ⟨z, hz⟩ : ∃ z, ys[i]? = some z := ⟨_, List.getElem?_eq_getElem (by rw [HY.out.1]; omega)⟩
        obtain ⟨g, o, rfl, hc⟩ := HA.out (by omega)
        have y0 := hc i z (HY.out.2.2 i z hz)
        have hzb := HY.out.2.1 z (List.mem_of_getElem? hz)
        obtain ⟨hz0, hz1⟩ := hzb
        have hbd : Bytes (ys.drop (i + 1)) := fun y hy => HY.out.2.1 y (List.mem_of_mem_drop hy)
        have v0 := val_lo hbd
        have hdr : Hid (ys.drop i = z :: ys.drop (i + 1)) := by
          obtain ⟨hlt, e⟩ := List.getElem?_eq_some_iff.1 hz
          show ys.drop i = z :: ys.drop (i + 1)
          rw [List.drop_eq_getElem_cons hlt, e]
        have v2 : val (ys.drop (i + 1)) < 72057594037927936 := by
          have hle : (ys.drop (i + 1)).length ≤ 7 := by rw [List.length_drop, HY.out.1]; omega
          exact val_lt hbd hle
        obtain ⟨V, hV⟩ : ∃ V, val (ys.drop (i + 1)) = V := ⟨_, rfl⟩
        rw [hV] at v0 v2 ⊢
        have HV := Lib.hid hV
        clear hc hz hbd hV
        go_wp2
        exact ⟨⟨i, by omega, by first | rfl | (congr 1; omega), by rw [hdr.out, val, HV.out]; congr 1; omega⟩, by simp [intOf]⟩
theorem RdV.back {T : TypeId} {w w' : World} {r : Nat} {A : Option Addr} {c : Nat} {zs ys : List Int} {F : Nat → Prop} (h : RdV T w r A c zs F) (h2 : Rd T w' r ys F) (hk : Kept (fun b => b = r) w w') :
    Rd T (w'.setCell ⟨r, 0, none⟩ (.slice A zs.length c)) r zs F ∧ Kept (fun b => b = r) w (w'.setCell ⟨r, 0, none⟩ (.slice A zs.length c)) := by
  have hkp : Kept (fun b => b = r) w (w'.setCell ⟨r, 0, none⟩ (.slice A zs.length c)) := hk.setCell (p := ⟨r, 0, none⟩) (.inl rfl) _
  obtain ⟨A2, c2, h2⟩ := h2
  obtain ⟨A', c', e, h3, h4, h5⟩ := h.read
  obtain ⟨rfl, rfl⟩ : A = A' ∧ c = c' := by simpa using e
  refine ⟨⟨A, c, ?_, ⟨A, c, rfl, h3, h4, fun hp => ?_⟩, h.hr, h.hd, h.fm⟩, hkp⟩
  · rw [heap_setCell_same w' r 0 _ _ _ h2.row]
    simp
  · obtain ⟨g, o, rfl, h6⟩ := h5 hp
    exact ⟨g, o, rfl, fun j u hu => (hkp.cell (World.block_lt_of_cell? w _ (h6 j u hu)) (h.hd hp g o rfl).2).trans (h6 j u hu)⟩
/-- What a number that is most at most is. -/
def intE (zs : List Int) (k m : Int) : Int := if m < 0 then 5 else if numE zs k ≠ 0 then numE zs k else if numV zs k > m then 5 else 0
def intV (zs : List Int) (k m : Int) : Int := if m < 0 then 0 else if numE zs k ≠ 0 then 0 else if numV zs k > m then 0 else numV zs k
def intL (zs : List Int) (k m : Int) : List Int := if m < 0 then zs else if numE zs k ≠ 0 then zs else if numV zs k > m then zs else numL zs k
theorem numL_bad {zs : List Int} {k : Int} (h : numE zs k ≠ 0) : numL zs k = zs := by
  unfold numE at h
  unfold numL
  split
  · rfl
  · rename_i hk
    rw [if_neg hk] at h
    split
    · rfl
    · rename_i hl
      rw [if_neg hl] at h
      exact absurd rfl h
set_option maxHeartbeats 4000000 in
theorem int_any (w : World) (r : Nat) (zs : List Int) (F : Nat → Prop) (h : Rd 82 w r zs F) (hB : Bytes zs) (k m : Int) (hm1 : m ≤ 9223372036854775807) : Calls Try.prog 36 #[.pointer (some ⟨r, 0, none⟩), .int .i64 k, .int .i64 m] w fun e w' => e = .returned (.tuple #[.int .i64 (intV zs k m), .int .i64 (intE zs k m)]) ∧ Rd 82 w' r (intL zs k m) F ∧ Kept (fun b => b = r) w w' := by
  unfold intV intE intL
  by_cases hm : m < 0
  · rw [if_pos hm, if_pos hm, if_pos hm]
    go_enter Try.func36, Try.ntmps36
    go_wp2
    go_ret2
    exact ⟨rfl, h, Kept.refl _ _⟩
  · rw [if_neg hm, if_neg hm, if_neg hm]
    have HN := Lib.hid (number_any w r zs F h hB k)
    obtain ⟨v0, v1⟩ := numV_range hB k
    have HL : Hid (numE zs k ≠ 0 → numL zs k = zs) := numL_bad
    obtain ⟨V, hV⟩ : ∃ V, numV zs k = V := ⟨_, rfl⟩
    obtain ⟨E, hE⟩ : ∃ E, numE zs k = E := ⟨_, rfl⟩
    obtain ⟨L, hL⟩ : ∃ L, numL zs k = L := ⟨_, rfl⟩
    rw [hV, hE, hL] at HN
    rw [hE, hL] at HL
    rw [hV] at v0 v1
    rw [hV, hE, hL]
    clear hV hE hL
    obtain ⟨A, c, h⟩ := h
    have c0 : w.cell? ⟨r, 0, none⟩ = some (.slice A zs.length c) := cell_row h.row rfl
    have HH := Lib.hid h
    clear h
    by_cases hE0 : E ≠ 0
    · rw [if_pos hE0, if_pos hE0, if_pos hE0]
      have hE1 : (E != 0) = true := bne_iff_ne.2 hE0
      obtain ⟨n, hn⟩ : ∃ n, zs.length = n := ⟨_, rfl⟩
      rw [hn] at c0
      clear hn
      go_enter Try.func36, Try.ntmps36
      go_wp2_with (first | (go_at_call 35; (with_reducible refine HN.out.mono ?_); rintro e w1 ⟨rfl, g1, g2⟩) | fail)
      go_ret2
      exact ⟨rfl, HL.out hE0 ▸ g1, g2⟩
    · obtain rfl : E = 0 := by omega
      rw [if_neg hE0, if_neg hE0, if_neg hE0]
      clear hE0
      by_cases hb : V > m
      · rw [if_pos hb, if_pos hb, if_pos hb]
        obtain ⟨n, hn⟩ : ∃ n, zs.length = n := ⟨_, rfl⟩
        have HBK : Hid (∀ w' ys, Rd 82 w' r ys F → Kept (fun b => b = r) w w' → Rd 82 (w'.setCell ⟨r, 0, none⟩ (.slice A n c)) r zs F ∧ Kept (fun b => b = r) w (w'.setCell ⟨r, 0, none⟩ (.slice A n c))) := fun w' ys h1 h2 => hn ▸ HH.out.back h1 h2
        rw [hn] at c0
        clear hn
        go_enter Try.func36, Try.ntmps36
        go_wp2_with (first | (go_at_call 35; (with_reducible refine HN.out.mono ?_); rintro e w1 ⟨rfl, g1, g2⟩; have G := Lib.hid (HBK.out _ _ g1 g2); (obtain ⟨A2, c2, g1⟩ := g1); have d0 := cell_row (j := 0) g1.row rfl; have f0 := free_row (j := 0) g1.row; clear g1 g2) | fail)
        go_ret2
        exact ⟨rfl, G.out⟩
      · rw [if_neg hb, if_neg hb, if_neg hb]
        obtain ⟨n, hn⟩ : ∃ n, zs.length = n := ⟨_, rfl⟩
        rw [hn] at c0
        clear hn
        go_enter Try.func36, Try.ntmps36
        go_wp2_with (first | (go_at_call 35; (with_reducible refine HN.out.mono ?_); rintro e w1 ⟨rfl, g1, g2⟩; have G := Lib.hid (And.intro g1 g2); clear g1 g2) | fail)
        go_ret2
        exact ⟨rfl, G.out⟩
end Go.Proofs.Ytolfmchgcelnmaa.O

/- The witness; the document's put where there are no sets. -/
import Derived.Test.YtnebdabfandngaaCa8
namespace Go.Proofs.Ytnebdabfandngaa.C
open Go.RowKit Go.Proofs.Ytnebdabfandngaa.Mem
@[reducible] def c17 : Cap := ⟨1, 0, 7⟩
theorem put_first (knob : Int) : putL 2 1 knob [] c17 5 = [⟨c17, 5⟩] := by
  simp [putL, lput, lcut, knownR, countR]
theorem look_first : look [⟨c17, 5⟩] c17 = some 5 := by simp [look]
set_option maxHeartbeats 4000000 in
theorem alive_any (w : World) : Calls Try.prog 9 #[] w fun e w' => e = .returned (.bool true) ∧ Below w.heap.size w w' := by
  have hnew := Lib.hid (k_new w 2 1 64 (by decide) (by decide) (by decide) (by decide) (by decide))
  have HPF := Lib.hid (put_first 64)
  have HLF := Lib.hid look_first
  go_enter Try.func9, Try.ntmps9
  go_wp2_with fail
  refine hnew.out.mono ?_
  rintro e w1 ⟨p, rfl, h1, b1, hp⟩
  have HK1 := Lib.hid h1
  have HB1 := Lib.hid b1
  have hpl := h1.lt
  clear h1 b1 hnew
  go_wp2_with (first | (go_at_call 8; (with_reducible refine (num_any _ _).mono ?_); rintro e w2 ⟨rfl, rfl⟩) | fail)
  have hbx := (Below.refl _ w1).alloc (Nat.le_refl _) (.cells #[.int .i64 1, .int .u64 0, .int .u64 7] 36)
  refine (k_put _ p 2 1 64 [] 0 0 0 0 (HK1.out.below hbx) (by decide) (by decide) (by decide) (by decide) c17 5).mono ?_
  rintro e w2 ⟨rfl, h2, k2⟩
  rw [HPF.out] at h2
  have hne : w1.heap.size ≠ p := by omega
  have hlx : w1.heap.size < (w1.alloc (.cells #[.int .i64 1, .int .u64 0, .int .u64 7] 36)).heap.size := by simp
  have y0 : w2.cell? ⟨w1.heap.size, 0, none⟩ = some (.int .i64 1) := (k2.cell hlx hne).trans (by simp)
  have y1 : w2.cell? ⟨w1.heap.size, 1, none⟩ = some (.int .u64 0) := (k2.cell hlx hne).trans (by simp)
  have y2 : w2.cell? ⟨w1.heap.size, 2, none⟩ = some (.int .u64 7) := (k2.cell hlx hne).trans (by simp)
  have HB2 : Hid (Below w.heap.size w w2) := (HB1.out.trans (hbx.mono HB1.out.size)).trans (k2.below (fun b hb => by rw [hb]; exact hp) (by simp; have := HB1.out.size; omega))
  have HK2 := Lib.hid h2
  clear h2 k2 hlx
  go_wp2_with fail
  refine (k_get _ p 2 1 64 _ _ _ _ _ HK2.out (by decide) (by decide) c17).mono ?_
  rw [HLF.out]
  rintro e w3 ⟨rfl, h3, k3⟩
  have hl2 := World.block_lt_of_cell? w2 _ y0
  have z0 := (k3.cell (p := ⟨w1.heap.size, 0, none⟩) hl2 hne).trans y0
  have z1 := (k3.cell (p := ⟨w1.heap.size, 1, none⟩) hl2 hne).trans y1
  have z2 := (k3.cell (p := ⟨w1.heap.size, 2, none⟩) hl2 hne).trans y2
  have HB3 : Hid (Below w.heap.size w w3) := HB2.out.trans (k3.below (fun b hb => by rw [hb]; exact hp) HB2.out.size)
  have HK3 := Lib.hid h3
  clear h3 k3 y0 y1 y2 hl2 HK2 HB2
  go_wp2_with fail
  refine (k_turn _ p 2 1 64 _ _ _ _ _ HK3.out).mono ?_
  rintro e w4 ⟨rfl, h4, k4⟩
  have hl3 := World.block_lt_of_cell? w3 _ z0
  have y0 := (k4.cell (p := ⟨w1.heap.size, 0, none⟩) hl3 hne).trans z0
  have y1 := (k4.cell (p := ⟨w1.heap.size, 1, none⟩) hl3 hne).trans z1
  have y2 := (k4.cell (p := ⟨w1.heap.size, 2, none⟩) hl3 hne).trans z2
  have HB4 : Hid (Below w.heap.size w w4) := HB3.out.trans (k4.below (fun b hb => by rw [hb]; exact hp) HB3.out.size)
  have HK4 := Lib.hid h4
  clear h4 k4 z0 z1 z2 hl3 HK3 HB3
  go_wp2_with fail
  refine (k_get _ p 2 1 64 _ _ _ _ _ HK4.out (by decide) (by decide) c17).mono ?_
  rw [show look [] c17 = none from rfl]
  rintro e w5 ⟨rfl, h5, k5⟩
  have HB5 : Hid (Below w.heap.size w w5) := HB4.out.trans (k5.below (fun b hb => by rw [hb]; exact hp) HB4.out.size)
  have h6 : KAt w5 p 2 1 64 [] 1 1 (wrap64 (0 + 1)) (wrap64 (0 + 1)) := h5
  rw [show wrap64 (0 + 1) = 1 by decide +kernel] at h6
  have HK5 := Lib.hid h6
  clear h5 h6 k5 y0 y1 y2 HK4 HB4
  go_wp2_with fail
  refine (k_hits _ p 2 1 64 _ _ _ _ _ HK5.out).mono ?_
  rintro e w6 ⟨rfl, n6, rfl⟩
  have HK6 := Lib.hid (HK5.out.below (below_drewN w5 n6))
  have HB6 := Lib.hid (below_q HB5.out n6)
  go_wp2_with (first | (go_at_call 17; (with_reducible refine (k_epoch _ p 2 1 64 _ _ _ _ _ HK6.out).mono ?_); rintro e w7 ⟨rfl, rfl⟩) | fail)
  go_ret
  exact ⟨rfl, HB6.out⟩
set_option maxHeartbeats 4000000 in
theorem rput_zero (w : World) (r : Nat) (a k e y n : Int) (L : List En) (F : Nat → Prop) (h : RAt w r 0 a k e y n L F) (c : Cap) (rr : Int) :
    Calls Try.prog 13 #[.pointer (some ⟨r, 0, none⟩), capV c, .int .i64 rr] w fun x w' => x = .returned (.tuple #[]) ∧ RAt w' r 0 a k e y n L F ∧ Kept F w w' := by
  obtain ⟨v, h⟩ := h
  have hb := (Below.refl w.heap.size w).alloc (Nat.le_refl _) (.cells #[.int .i64 c.obj, .int .u64 c.hi, .int .u64 c.lo] 36)
  have H0 := Lib.hid (h.below hb)
  have HB0 := Lib.hid hb
  have c0 := H0.out.cells.1
  clear h hb
  go_enter Try.func13, Try.ntmps13
  go_wp2_with fail
  exact bodyPost_ret (v := .tuple #[]) (by simp [results, go_sem]) rfl ⟨rfl, ⟨v, H0.out⟩, Kept.of_below HB0.out⟩
theorem rput_k (w : World) (r : Nat) (s ways : Nat) (k e y n : Int) (L : List En) (F : Nat → Prop) (hF : ∀ b, w.heap.size ≤ b → F b) (h : RAt w r s ways k e y n L F) (hs16 : s ≤ 16) (hL : L.length ≤ 1000) (hw4 : ways ≤ 4) (hw0 : 0 < ways) (c : Cap) (rr : Int) :
    Calls Try.prog 13 #[.pointer (some ⟨r, 0, none⟩), capV c, .int .i64 rr] w fun x w' => x = .returned (.tuple #[]) ∧ RAt w' r s ways k e y n (putL s ways k L c rr) F ∧ Kept F w w' := by
  rcases Nat.eq_zero_or_pos s with rfl | hp
  · rw [putL, if_pos rfl]
    exact rput_zero w r ways k e y n L F h c rr
  · rw [putL, if_neg (by omega)]
    exact rput_any w r s ways k e y n L F hF h hp hs16 hL hw4 hw0 c rr
end Go.Proofs.Ytnebdabfandngaa.C

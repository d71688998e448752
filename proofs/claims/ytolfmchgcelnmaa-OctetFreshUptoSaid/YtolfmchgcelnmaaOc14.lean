/- The document's reader: a capability. -/
import Derived.Test.YtolfmchgcelnmaaOc13
namespace Go.Proofs.Ytolfmchgcelnmaa.O
open Go.RowKit Go.Proofs.Ytolfmchgcelnmaa.Mem
set_option maxHeartbeats 4000000 in
theorem rka_bad (w : World) (r : Nat) (zs : List Int) (F : Nat → Prop) (h : Rd 64 w r zs F) (hl : zs.length < 24) : Calls Try.prog 49 #[.pointer (some ⟨r, 0, none⟩)] w fun e w' => e = .returned (.tuple #[.agg #[.int .i64 0, .int .u64 0, .int .u64 0], .int .i64 17]) ∧ Below w.heap.size w w' := by
  obtain ⟨A, c, h⟩ := h
  have c0 : w.cell? ⟨r, 0, none⟩ = some (.slice A zs.length c) := cell_row h.row rfl
  have hr := lt_of_row h.row
  obtain ⟨m, hm⟩ : ∃ m, zs.length = m := ⟨_, rfl⟩
  rw [hm] at c0 hl
  clear h hm
  have hbx := (Below.refl w.heap.size w).alloc (Nat.le_refl _) (.cells #[.int .i64 0, .int .u64 0, .int .u64 0] 27)
  go_enter Try.func49, Try.ntmps49
  go_wp2
  go_returns
  exact ⟨rfl, hbx⟩
set_option maxHeartbeats 4000000 in
theorem rka_great (w : World) (r : Nat) (zs : List Int) (F : Nat → Prop) (h : Rd 64 w r zs F) (hl : ¬ zs.length < 24) (hB : Bytes zs) (hg : val (zs.take 8) > 4611686018427387904) : Calls Try.prog 49 #[.pointer (some ⟨r, 0, none⟩)] w fun e w' => e = .returned (.tuple #[.agg #[.int .i64 0, .int .u64 0, .int .u64 0], .int .i64 5]) ∧ Rd 64 w' r zs F ∧ Kept (fun b => b = r) w w' := by
  have hbx := (Below.refl w.heap.size w).alloc (Nat.le_refl _) (.cells #[.int .i64 0, .int .u64 0, .int .u64 0] 27)
  have hr := h.lt
  have HT := Lib.hid (h.tight.below hbx)
  obtain ⟨A, c, h⟩ := h
  obtain ⟨h1, h2, h3⟩ := h.data
  obtain ⟨g, o, rfl, _⟩ := h3 (by omega)
  have hro := Rd.below' h hbx
  have HG1 := Lib.hid (rget_at (w.alloc (.cells #[.int .i64 0, .int .u64 0, .int .u64 0] 27)) (.slice (some ⟨g, o, none⟩) zs.length c) zs 8 8 rfl (by decide) hB hro.read)
  have e1 : getV zs 8 = val (zs.take 8) := by unfold getV; rw [if_neg (by omega)]
  rw [e1] at HG1
  have brow := Lib.hid (heap_alloc_new w (.cells #[.int .i64 0, .int .u64 0, .int .u64 0] 27))
  have HBX := Lib.hid hbx
  have HR := Lib.hid hr
  have HRO := Lib.hid hro
  have c0 : w.cell? ⟨r, 0, none⟩ = some (.slice (some ⟨g, o, none⟩) zs.length c) := cell_row h.row rfl
  obtain ⟨m, hm⟩ : ∃ m, zs.length = m := ⟨_, rfl⟩
  have HM := Lib.hid hm
  rw [hm] at c0 HG1 hl h1
  have hl' : ¬ ((m : Int) < 24) := by omega
  have hc8 : (8 : Int) ≤ (c : Int) := by omega
  have hm8 : (8 : Int) ≤ (m : Int) := by omega
  have hc8' : ¬ c = 8 := by omega
  obtain ⟨U, hU⟩ : ∃ U, val (zs.take 8) = U := ⟨_, rfl⟩
  rw [hU] at HG1 hg
  have hgd : decide (4611686018427387904 < U) = true := decide_eq_true hg
  clear h h3 hbx hro hU e1 hm hg
  go_enter Try.func49, Try.ntmps49
  go_wp2_with fail
  clear c0 hr
  have y0 : (w.alloc (.cells #[.int .i64 0, .int .u64 0, .int .u64 0] 27)).cell? ⟨r, 0, none⟩ = some (.slice (some ⟨g, o, none⟩) m c) := HM.out ▸ cell_row HRO.out.row rfl
  have yf := free_row (j := 0) HRO.out.row
  have hpq := lt_of_row brow.out
  have z0 : (w.alloc (.cells #[.int .i64 0, .int .u64 0, .int .u64 0] 27)).cell? ⟨w.heap.size, 0, none⟩ = some (.int .i64 0) := cell_row brow.out rfl
  have z1 : (w.alloc (.cells #[.int .i64 0, .int .u64 0, .int .u64 0] 27)).cell? ⟨w.heap.size, 1, none⟩ = some (.int .u64 0) := cell_row brow.out rfl
  have z2 : (w.alloc (.cells #[.int .i64 0, .int .u64 0, .int .u64 0] 27)).cell? ⟨w.heap.size, 2, none⟩ = some (.int .u64 0) := cell_row brow.out rfl
  have zf0 := free_row (j := 0) brow.out
  have zf1 := free_row (j := 1) brow.out
  have zf2 := free_row (j := 2) brow.out
  generalize w.alloc (.cells #[.int .i64 0, .int .u64 0, .int .u64 0] 27) = w0 at *
  obtain ⟨p, hp⟩ : ∃ p, w.heap.size = p := ⟨_, rfl⟩
  have HP := Lib.hid hp
  rw [hp] at brow HR HT z0 z1 z2 zf0 zf1 zf2 hpq
  rw [hp]
  clear hp
  go_wp2_with (first | (go_at_call 25; (with_reducible refine HG1.out.mono ?_); rintro e w1 ⟨rfl, rfl⟩) | fail)
  (try simp only [Exit.inBlock, Exit.then])
  refine bodyPost_ret (box_ret rfl _ _ p (.agg #[.int .i64 0, .int .u64 0, .int .u64 0]) rfl (run_loadVar_row _ p 27 27 _ (0, 0) _ (box_three brow.out) Try.underlying27 rfl info27)) rfl ?_
  have FIN : Hid (∀ W3, Kept (fun b => p ≤ b) w0 W3 → Rd 64 W3 r zs F ∧ Kept (fun b => b = r) w W3) := fun W3 hk => ⟨(HT.out.kept hk (fun b hb => by have := hb.2; omega)).mono (fun b hb => hb.1), (Kept.of_below (S := fun b => b = r) HBX.out).trans hk (fun x hx => .inr (by rw [HP.out]; exact hx))⟩
  exact ⟨rfl, FIN.out _ (kept3 _ _ _ _ _)⟩
set_option maxHeartbeats 4000000 in
theorem rka_ok (w : World) (r : Nat) (zs : List Int) (F : Nat → Prop) (h : Rd 64 w r zs F) (hl : ¬ zs.length < 24) (hB : Bytes zs) (hg : ¬ val (zs.take 8) > 4611686018427387904) : Calls Try.prog 49 #[.pointer (some ⟨r, 0, none⟩)] w fun e w' => e = .returned (.tuple #[.agg #[.int .i64 (val (zs.take 8)), .int .u64 (val ((zs.drop 16).take 8)), .int .u64 (val ((zs.drop 8).take 8))], .int .i64 0]) ∧ Rd 64 w' r (zs.drop 24) F ∧ Kept (fun b => b = r) w w' := by
  have hbx := (Below.refl w.heap.size w).alloc (Nat.le_refl _) (.cells #[.int .i64 0, .int .u64 0, .int .u64 0] 27)
  have hr := h.lt
  have HT := Lib.hid (h.tight.below hbx)
  obtain ⟨A, c, h⟩ := h
  obtain ⟨h1, h2, h3⟩ := h.data
  obtain ⟨g, o, rfl, _⟩ := h3 (by omega)
  have hro := Rd.below' h hbx
  have HG1 := Lib.hid (rget_at (w.alloc (.cells #[.int .i64 0, .int .u64 0, .int .u64 0] 27)) (.slice (some ⟨g, o, none⟩) zs.length c) zs 8 8 rfl (by decide) hB hro.read)
  have e1 : getV zs 8 = val (zs.take 8) := by unfold getV; rw [if_neg (by omega)]
  rw [e1] at HG1
  have brow := Lib.hid (heap_alloc_new w (.cells #[.int .i64 0, .int .u64 0, .int .u64 0] 27))
  have HBX := Lib.hid hbx
  have HR := Lib.hid hr
  have HRO := Lib.hid hro
  have c0 : w.cell? ⟨r, 0, none⟩ = some (.slice (some ⟨g, o, none⟩) zs.length c) := cell_row h.row rfl
  obtain ⟨m, hm⟩ : ∃ m, zs.length = m := ⟨_, rfl⟩
  have HM := Lib.hid hm
  rw [hm] at c0 HG1 hl h1
  have hl' : ¬ ((m : Int) < 24) := by omega
  have hc8 : (8 : Int) ≤ (c : Int) := by omega
  have hm8 : (8 : Int) ≤ (m : Int) := by omega
  have hc8' : ¬ c = 8 := by omega
  have HW : Hid (∀ w1 G, Rd 64 w1 r (zs.drop 8) G → Calls Try.prog 47 #[.pointer (some ⟨r, 0, none⟩)] w1 fun e w' => e = .returned (.tuple #[.agg #[.int .u64 (val ((zs.drop 16).take 8)), .int .u64 (val ((zs.drop 8).take 8))], .int .i64 0]) ∧ Rd 64 w' r (zs.drop 24) G ∧ Kept (fun b => b = r) w1 w') := fun w1 G hw1 => by
    have := rwd_ok w1 r (zs.drop 8) _ hw1 (by rw [List.length_drop]; omega) (fun z hz => hB z (List.mem_of_mem_drop hz))
    rwa [List.drop_drop, List.drop_drop] at this
  have HON : Hid (Rd 64 ((w.alloc (.cells #[.int .i64 0, .int .u64 0, .int .u64 0] 27)).setCell ⟨r, 0, none⟩ (.slice (some ⟨g, o + 8, none⟩) (m - 8) (c - 8))) r (zs.drop 8) (fun b => F b ∧ b < w.heap.size) ∧ Kept (fun b => b = r) (w.alloc (.cells #[.int .i64 0, .int .u64 0, .int .u64 0] 27)) ((w.alloc (.cells #[.int .i64 0, .int .u64 0, .int .u64 0] 27)).setCell ⟨r, 0, none⟩ (.slice (some ⟨g, o + 8, none⟩) (m - 8) (c - 8)))) := by
    have hv : RdV 64 (w.alloc (.cells #[.int .i64 0, .int .u64 0, .int .u64 0] 27)) r (some ⟨g, o, none⟩) c zs (fun b => F b ∧ b < w.heap.size) := ⟨hro.row, hro.read, ⟨hro.hr, hr⟩, fun hp g' o' e => ⟨⟨(hro.hd hp g' o' e).1, h.low (by omega) g' o' e⟩, (hro.hd hp g' o' e).2⟩, hro.fm⟩
    have := hv.on (A' := some ⟨g, o + 8, none⟩) (c' := c - 8) (k := 8) (by omega) (by decide) (.inr ⟨hc8', rfl, fun g' o' e => by cases e; rfl⟩)
    rwa [HM.out] at this
  obtain ⟨V, hV⟩ : ∃ V, val ((zs.drop 16).take 8) = V := ⟨_, rfl⟩
  obtain ⟨T, hT⟩ : ∃ T, val ((zs.drop 8).take 8) = T := ⟨_, rfl⟩
  have hb0 : 0 ≤ val (zs.take 8) := val_lo (fun z hz => hB z (List.mem_of_mem_take hz))
  obtain ⟨U, hU⟩ : ∃ U, val (zs.take 8) = U := ⟨_, rfl⟩
  rw [hU] at HG1 hg hb0
  rw [hV, hT] at HW
  rw [hU, hV, hT]
  have hgd : decide (4611686018427387904 < U) = false := decide_eq_false hg
  have hg' : U ≤ 4611686018427387904 := by omega
  clear h h3 hbx hro hU e1 hm hV hT HT hg
  go_enter Try.func49, Try.ntmps49
  go_wp2_with fail
  clear c0 hr
  have y0 : (w.alloc (.cells #[.int .i64 0, .int .u64 0, .int .u64 0] 27)).cell? ⟨r, 0, none⟩ = some (.slice (some ⟨g, o, none⟩) m c) := HM.out ▸ cell_row HRO.out.row rfl
  have yf := free_row (j := 0) HRO.out.row
  have hpq := lt_of_row brow.out
  have z0 : (w.alloc (.cells #[.int .i64 0, .int .u64 0, .int .u64 0] 27)).cell? ⟨w.heap.size, 0, none⟩ = some (.int .i64 0) := cell_row brow.out rfl
  have z1 : (w.alloc (.cells #[.int .i64 0, .int .u64 0, .int .u64 0] 27)).cell? ⟨w.heap.size, 1, none⟩ = some (.int .u64 0) := cell_row brow.out rfl
  have z2 : (w.alloc (.cells #[.int .i64 0, .int .u64 0, .int .u64 0] 27)).cell? ⟨w.heap.size, 2, none⟩ = some (.int .u64 0) := cell_row brow.out rfl
  have zf0 := free_row (j := 0) brow.out
  have zf1 := free_row (j := 1) brow.out
  have zf2 := free_row (j := 2) brow.out
  generalize w.alloc (.cells #[.int .i64 0, .int .u64 0, .int .u64 0] 27) = w0 at *
  obtain ⟨p, hp⟩ : ∃ p, w.heap.size = p := ⟨_, rfl⟩
  have HP := Lib.hid hp
  rw [hp] at brow HR HON z0 z1 z2 zf0 zf1 zf2 hpq
  rw [hp]
  clear hp
  go_wp2_with (first | (go_at_call 25; (with_reducible refine HG1.out.mono ?_); rintro e w1 ⟨rfl, rfl⟩) | fail)
  have HX := Lib.hid (HW.out _ _ HON.out.1)
  have HK := Lib.hid HON.out.2
  have hprow := Lib.hid (HON.out.2.row brow.out (by have := HR.out; omega : ¬ p = r))
  generalize w0.setCell ⟨r, 0, none⟩ (.slice (some ⟨g, o + 8, none⟩) (m - 8) (c - 8)) = w1 at *
  clear z0 z1 z2 zf0 zf1 zf2 y0 yf hpq HW HON
  (with_reducible refine HX.out.mono ?_)
  rintro e w2 ⟨rfl, g3, g4⟩
  have G3 := Lib.hid g3
  have G4 := Lib.hid (HK.out.trans g4 (fun x hx => .inl hx))
  have prow2 := g4.row hprow.out (by have := HR.out; omega : ¬ p = r)
  have z0 : w2.cell? ⟨p, 0, none⟩ = some (.int .i64 0) := cell_row prow2 rfl
  have z1 : w2.cell? ⟨p, 1, none⟩ = some (.int .u64 0) := cell_row prow2 rfl
  have z2 : w2.cell? ⟨p, 2, none⟩ = some (.int .u64 0) := cell_row prow2 rfl
  have zf0 := free_row (j := 0) prow2
  have zf1 := free_row (j := 1) prow2
  have zf2 := free_row (j := 2) prow2
  have PROW := Lib.hid prow2
  have hpw := lt_of_row prow2
  clear g3 g4 prow2 HX
  go_wp2_with fail
  (try simp only [Exit.inBlock, Exit.then])
  refine bodyPost_ret (box_ret rfl _ _ p (.agg #[.int .i64 U, .int .u64 V, .int .u64 T]) rfl (run_loadVar_row _ p 27 27 _ (0, 0) _ (((Kept.refl (fun _ => False) _).alloc _).row (box_three PROW.out) (fun h => h)) Try.underlying27 rfl info27)) rfl ?_
  have FIN : Hid (∀ W3, Kept (fun b => p ≤ b) w2 W3 → Rd 64 W3 r (zs.drop 24) F ∧ Kept (fun b => b = r) w W3) := fun W3 hk => ⟨(G3.out.kept hk (fun b hb => by have := hb.2; omega)).mono (fun b hb => hb.1), ((Kept.of_below (S := fun b => b = r) HBX.out).trans G4.out (fun x hx => .inl hx)).trans hk (fun x hx => .inr (by rw [HP.out]; exact hx))⟩
  exact ⟨rfl, FIN.out _ ((kept3 _ _ _ _ _).alloc _)⟩
theorem rka_all (w : World) (r : Nat) (zs : List Int) (F : Nat → Prop) (h : Rd 64 w r zs F) (hB : Bytes zs) : Calls Try.prog 49 #[.pointer (some ⟨r, 0, none⟩)] w fun e w' => e = .returned (.tuple #[.agg #[.int .i64 (kaO zs), .int .u64 (kaH zs), .int .u64 (kaL zs)], .int .i64 (kaE zs)]) ∧ Rd 64 w' r (kaR zs) F ∧ Kept (fun b => b = r) w w' := by
  unfold kaO kaH kaL kaE kaR
  by_cases hl : zs.length < 24
  · rw [if_pos hl, if_pos hl, if_pos hl, if_pos hl, if_pos hl]
    refine (rka_bad w r zs F h hl).mono ?_
    rintro e w' ⟨rfl, hb⟩
    exact ⟨rfl, h.below hb, Kept.of_below hb⟩
  · rw [if_neg hl, if_neg hl, if_neg hl, if_neg hl, if_neg hl]
    by_cases hg : val (zs.take 8) > 4611686018427387904
    · rw [if_pos hg, if_pos hg, if_pos hg, if_pos hg, if_pos hg]
      exact rka_great w r zs F h hl hB hg
    · rw [if_neg hg, if_neg hg, if_neg hg, if_neg hg, if_neg hg]
      exact rka_ok w r zs F h hl hB hg
end Go.Proofs.Ytolfmchgcelnmaa.O

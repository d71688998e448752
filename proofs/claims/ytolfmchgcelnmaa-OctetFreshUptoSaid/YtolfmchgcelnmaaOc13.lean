/- The document's reader: rows, words, capabilities. -/
import Derived.Test.YtolfmchgcelnmaaOc12
namespace Go.Proofs.Ytolfmchgcelnmaa.O
open Go.RowKit Go.Proofs.Ytolfmchgcelnmaa.Mem
set_option maxHeartbeats 4000000 in
theorem rrow_ok (w : World) (r : Nat) (zs : List Int) (F : Nat → Prop) (h : Rd 64 w r zs F) (k : Nat) (hk : k ≤ zs.length) (hb : zs.length ≤ 140737488355000) : Calls Try.prog 45 #[.pointer (some ⟨r, 0, none⟩), .int .i64 k] w fun e w' => ∃ A c, e = .returned (.tuple #[.slice A k c, .int .i64 0]) ∧ OB w' (.slice A k c) (zs.take k) ∧ Rd 64 w' r (zs.drop k) F ∧ Kept (fun b => b = r) w w' ∧ Fresh w (.slice A k c) := by
  obtain ⟨A, c, h⟩ := h
  obtain ⟨h1, h2, h3⟩ := h.data
  have hl : (zs.take k).length = k := by rw [List.length_take]; omega
  have HS : Hid (Holds w A ((zs.take k).map byteC)) := (h.read.take hk (v := .slice A k c) rfl).holds.2
  have HL : Hid (((zs.take k).map byteC).length = k * 1) := by show _ = _; rw [List.length_map, hl, Nat.mul_one]
  have HLL := Lib.hid hl
  have c0 : w.cell? ⟨r, 0, none⟩ = some (.slice A zs.length c) := cell_row h.row rfl
  have HV := Lib.hid h
  have fin : Hid (∀ (w1 : World) (A' : Option Addr) (c' : Nat), Below w.heap.size w w1 → ((c = k ∧ A' = A ∧ c' = 0) ∨ (c ≠ k ∧ c' = c - k ∧ ∀ g o, A = some ⟨g, o, none⟩ → A' = some ⟨g, o + k, none⟩)) → Rd 64 (w1.setCell ⟨r, 0, none⟩ (.slice A' (zs.length - k) c')) r (zs.drop k) F ∧ Kept (fun b => b = r) w (w1.setCell ⟨r, 0, none⟩ (.slice A' (zs.length - k) c'))) := fun w1 A' c' hbl he => by
    obtain ⟨g1, g2⟩ := (Rd.below' h hbl).on hk (Nat.zero_le _) he
    exact ⟨g1, (Kept.of_below (S := fun b => b = r) hbl).trans g2 (fun x hx => .inl hx)⟩
  obtain ⟨n, hn⟩ : ∃ n, zs.length = n := ⟨_, rfl⟩
  rw [hn] at c0 fin h1 hk hb
  have hfm := h.fm
  clear h h3 hl hn
  rcases hfm with ⟨rfl, rfl⟩ | ⟨g, o, rfl⟩
  · obtain rfl : n = 0 := by omega
    obtain rfl : k = 0 := by omega
    go_enter Try.func45, Try.ntmps45
    go_wp2_with (at_builtin; refine list_app2 rfl (.tmp 16) (.tmp 22) 22 rfl 5 0 _ 1 1 Try.underlying22 info5 rfl (by decide) (by decide) (.slice none 0 0) 0 [] rfl (World.ownsRow_nil _ _ _ _) none 0 0 ((zs.take 0).map byteC) rfl HL.out HS.out one8 (by omega) (Nat.zero_le _) ?_; intro v1 w1 hown1 hwent1; obtain ⟨A1, c1, rfl, _⟩ := own_slice hown1; have HO1 := Lib.hid hown1; have HW1 := Lib.hid hwent1; clear hown1 hwent1; have b1 : Hid (Below w.heap.size w w1) := HW1.out.kept.below (fun b hb => by simp [Value.ownBlock] at hb) (Nat.le_refl _); have HG := Lib.hid (fin.out w1 none 0 b1.out (.inl ⟨by simp, rfl, rfl⟩)); have hr1 := (Rd.below' HV.out b1.out).row; have c1' : w1.cell? ⟨r, 0, none⟩ = some (.slice none 0 0) := (b1.out.cell (World.block_lt_of_cell? w _ c0)).trans c0; have f0 := free_row (j := 0) hr1; clear hr1 fin)
    go_ret2
    have HF : Fresh w (.slice A1 (0 + 0) c1) := fresh_went (w := w) (fun b hb => by simp [Value.ownBlock] at hb) (Nat.le_refl _) HW1.out
    have HO : OB w1 (.slice A1 (0 + 0) c1) (zs.take 0) := by have := HO1.out; unfold OB; rw [HLL.out]; simpa using this
    exact ⟨_, _, rfl, OB.set HO HF (lt_of_row HV.out.row) _, HG.out.1, HG.out.2, HF⟩
  · by_cases hck : c = k
    · subst hck
      obtain rfl : n = c := by omega
      go_enter Try.func45, Try.ntmps45
      go_wp2_with (at_builtin; refine list_app2 rfl (.tmp 16) (.tmp 22) 22 rfl 5 0 _ 1 1 Try.underlying22 info5 rfl (by decide) (by decide) (.slice none 0 0) 0 [] rfl (World.ownsRow_nil _ _ _ _) (some ⟨g, o, none⟩) n n ((zs.take n).map byteC) rfl HL.out HS.out one8 (by omega) (Nat.zero_le _) ?_; intro v1 w1 hown1 hwent1; obtain ⟨A1, c1, rfl, _⟩ := own_slice hown1; have HO1 := Lib.hid hown1; have HW1 := Lib.hid hwent1; clear hown1 hwent1; have b1 : Hid (Below w.heap.size w w1) := HW1.out.kept.below (fun b hb => by simp [Value.ownBlock] at hb) (Nat.le_refl _); have HG := Lib.hid (fin.out w1 (some ⟨g, o, none⟩) 0 b1.out (.inl ⟨by simp, rfl, rfl⟩)); rw [Nat.sub_self] at HG; have hr1 := (Rd.below' HV.out b1.out).row; have c1' : w1.cell? ⟨r, 0, none⟩ = some (.slice (some ⟨g, o, none⟩) n n) := (b1.out.cell (World.block_lt_of_cell? w _ c0)).trans c0; have f0 := free_row (j := 0) hr1; clear hr1 fin)
      go_ret2
      have HF : Fresh w (.slice A1 (0 + n) c1) := fresh_went (w := w) (fun b hb => by simp [Value.ownBlock] at hb) (Nat.le_refl _) HW1.out
      have HO : OB w1 (.slice A1 (0 + n) c1) (zs.take n) := by have := HO1.out; unfold OB; rw [HLL.out]; simpa using this
      rw [Nat.zero_add] at HO HF
      exact ⟨_, _, rfl, OB.set HO HF (lt_of_row HV.out.row) _, HG.out.1, HG.out.2, HF⟩
    · go_enter Try.func45, Try.ntmps45
      go_wp2_with (at_builtin; refine list_app2 rfl (.tmp 16) (.tmp 22) 22 rfl 5 0 _ 1 1 Try.underlying22 info5 rfl (by decide) (by decide) (.slice none 0 0) 0 [] rfl (World.ownsRow_nil _ _ _ _) (some ⟨g, o, none⟩) k c ((zs.take k).map byteC) rfl HL.out HS.out one8 (by omega) (Nat.zero_le _) ?_; intro v1 w1 hown1 hwent1; obtain ⟨A1, c1, rfl, _⟩ := own_slice hown1; have HO1 := Lib.hid hown1; have HW1 := Lib.hid hwent1; clear hown1 hwent1; have b1 : Hid (Below w.heap.size w w1) := HW1.out.kept.below (fun b hb => by simp [Value.ownBlock] at hb) (Nat.le_refl _); have HG := Lib.hid (fin.out w1 (some ⟨g, o + k, none⟩) (c - k) b1.out (.inr ⟨hck, rfl, fun g' o' e => by cases e; rfl⟩)); have hr1 := (Rd.below' HV.out b1.out).row; have c1' : w1.cell? ⟨r, 0, none⟩ = some (.slice (some ⟨g, o, none⟩) n c) := (b1.out.cell (World.block_lt_of_cell? w _ c0)).trans c0; have f0 := free_row (j := 0) hr1; clear hr1 fin)
      go_ret2
      have HF : Fresh w (.slice A1 (0 + k) c1) := fresh_went (w := w) (fun b hb => by simp [Value.ownBlock] at hb) (Nat.le_refl _) HW1.out
      have HO : OB w1 (.slice A1 (0 + k) c1) (zs.take k) := by have := HO1.out; unfold OB; rw [HLL.out]; simpa using this
      rw [Nat.zero_add] at HO HF
      exact ⟨_, _, rfl, OB.set HO HF (lt_of_row HV.out.row) _, HG.out.1, HG.out.2, HF⟩
theorem rrow_any (w : World) (r : Nat) (zs : List Int) (F : Nat → Prop) (h : Rd 64 w r zs F) (n : Int) (hb : zs.length ≤ 140737488355000) : Calls Try.prog 45 #[.pointer (some ⟨r, 0, none⟩), .int .i64 n] w fun e w' => ∃ A c, e = .returned (.tuple #[.slice A (rowZ zs n).length c, .int .i64 (rowE zs n)]) ∧ OB w' (.slice A (rowZ zs n).length c) (rowZ zs n) ∧ Rd 64 w' r (rowL zs n) F ∧ Kept (fun b => b = r) w w' ∧ Fresh w (.slice A (rowZ zs n).length c) := by
  unfold rowZ rowE rowL
  by_cases h0 : n < 0
  · rw [if_pos h0, if_pos h0, if_pos h0]
    go_enter Try.func45, Try.ntmps45
    go_wp2
    go_ret2
    exact ⟨none, 0, rfl, OB.nil w, h, Kept.refl _ _, fun k hk => by simp [Value.ownBlock] at hk⟩
  · rw [if_neg h0, if_neg h0, if_neg h0]
    by_cases h1 : (zs.length : Int) < n
    · rw [if_pos h1, if_pos h1, if_pos h1]
      have HH := Lib.hid h
      obtain ⟨A, c, h⟩ := h
      have c0 : w.cell? ⟨r, 0, none⟩ = some (.slice A zs.length c) := cell_row h.row rfl
      obtain ⟨m, hm⟩ : ∃ m, zs.length = m := ⟨_, rfl⟩
      rw [hm] at c0 h1
      clear h hm
      go_enter Try.func45, Try.ntmps45
      go_wp2
      go_ret2
      exact ⟨none, 0, rfl, OB.nil w, HH.out, Kept.refl _ _, fun k hk => by simp [Value.ownBlock] at hk⟩
    · rw [if_neg h1, if_neg h1, if_neg h1]
      obtain ⟨k, rfl⟩ : ∃ k : Nat, n = (k : Int) := ⟨n.toNat, by omega⟩
      have hk : k ≤ zs.length := by omega
      have hl : (zs.take (k : Int).toNat).length = k := by rw [List.length_take]; omega
      rw [hl]
      exact rrow_ok w r zs F h k hk hb
set_option maxHeartbeats 4000000 in
theorem rwd_bad (w : World) (r : Nat) (zs : List Int) (F : Nat → Prop) (h : Rd 64 w r zs F) (hl : zs.length < 16) : Calls Try.prog 47 #[.pointer (some ⟨r, 0, none⟩)] w fun e w' => e = .returned (.tuple #[.agg #[.int .u64 0, .int .u64 0], .int .i64 17]) ∧ Below w.heap.size w w' := by
  obtain ⟨A, c, h⟩ := h
  have c0 : w.cell? ⟨r, 0, none⟩ = some (.slice A zs.length c) := cell_row h.row rfl
  have hr := lt_of_row h.row
  obtain ⟨m, hm⟩ : ∃ m, zs.length = m := ⟨_, rfl⟩
  rw [hm] at c0 hl
  clear h hm
  have hbx := (Below.refl w.heap.size w).alloc (Nat.le_refl _) (.cells #[.int .u64 0, .int .u64 0] 25)
  go_enter Try.func47, Try.ntmps47
  go_wp2
  go_returns
  exact ⟨rfl, hbx⟩
set_option maxHeartbeats 4000000 in
theorem rwd_ok (w : World) (r : Nat) (zs : List Int) (F : Nat → Prop) (h : Rd 64 w r zs F) (hl : 16 ≤ zs.length) (hB : Bytes zs) : Calls Try.prog 47 #[.pointer (some ⟨r, 0, none⟩)] w fun e w' => e = .returned (.tuple #[.agg #[.int .u64 (val ((zs.drop 8).take 8)), .int .u64 (val (zs.take 8))], .int .i64 0]) ∧ Rd 64 w' r (zs.drop 16) F ∧ Kept (fun b => b = r) w w' := by
  obtain ⟨A, c, h⟩ := h
  obtain ⟨h1, h2, h3⟩ := h.data
  have hr := lt_of_row h.row
  obtain ⟨g, o, rfl, _⟩ := h3 (by omega)
  have hbx := (Below.refl w.heap.size w).alloc (Nat.le_refl _) (.cells #[.int .u64 0, .int .u64 0] 25)
  have hro := Rd.below' h hbx
  have y0 : (w.alloc (.cells #[.int .u64 0, .int .u64 0] 25)).cell? ⟨r, 0, none⟩ = some (.slice (some ⟨g, o, none⟩) zs.length c) := cell_row hro.row rfl
  have HG1 := Lib.hid (rget_at (w.alloc (.cells #[.int .u64 0, .int .u64 0] 25)) (.slice (some ⟨g, o, none⟩) zs.length c) zs 8 8 rfl (by decide) hB hro.read)
  have HG2 := Lib.hid (rget_at (w.alloc (.cells #[.int .u64 0, .int .u64 0] 25)) (.slice (some ⟨g, o + 8, none⟩) (zs.drop 8).length (c - 8)) (zs.drop 8) 8 8 rfl (by decide) (fun z hz => hB z (List.mem_of_mem_drop hz)) hro.read.drop8)
  have e1 : getV zs 8 = val (zs.take 8) := by unfold getV; rw [if_neg (by omega)]
  have e2 : getV (zs.drop 8) 8 = val ((zs.drop 8).take 8) := by unfold getV; rw [if_neg (by rw [List.length_drop]; omega)]
  rw [e1] at HG1
  rw [e2, List.length_drop] at HG2
  have brow := Lib.hid (heap_alloc_new w (.cells #[.int .u64 0, .int .u64 0] 25))
  have HBX := Lib.hid hbx
  have HR := Lib.hid hr
  have HG := Lib.hid (h.low (by omega) g o rfl)
  have HRO := Lib.hid hro
  have HLL := Lib.hid hl
  have yf := free_row (j := 0) hro.row
  have zf0 := free_row (j := 0) brow.out
  have zf1 := free_row (j := 1) brow.out
  have z0 : (w.alloc (.cells #[.int .u64 0, .int .u64 0] 25)).cell? ⟨w.heap.size, 0, none⟩ = some (.int .u64 0) := cell_row brow.out rfl
  have z1 : (w.alloc (.cells #[.int .u64 0, .int .u64 0] 25)).cell? ⟨w.heap.size, 1, none⟩ = some (.int .u64 0) := cell_row brow.out rfl
  have c0 : w.cell? ⟨r, 0, none⟩ = some (.slice (some ⟨g, o, none⟩) zs.length c) := cell_row h.row rfl
  have hpr : w.heap.size ≠ r := by omega
  obtain ⟨m, hm⟩ : ∃ m, zs.length = m := ⟨_, rfl⟩
  have HM := Lib.hid hm
  obtain ⟨V, hV⟩ : ∃ V, val ((zs.drop 8).take 8) = V := ⟨_, rfl⟩
  obtain ⟨U, hU⟩ : ∃ U, val (zs.take 8) = U := ⟨_, rfl⟩
  rw [hU] at HG1
  rw [hV] at HG2
  rw [hV, hU]
  rw [hm] at c0 y0 HG1 HG2 hl h1
  have hc8 : (8 : Int) ≤ (c : Int) := by omega
  have hc16 : (16 : Int) ≤ (c : Int) := by omega
  have hm8 : (8 : Int) ≤ (m : Int) := by omega
  have hc8' : ¬ c = 8 := by omega
  clear h h3 hbx hro hV hU e1 e2 hm y0
  go_enter Try.func47, Try.ntmps47
  go_wp2_with fail
  clear c0 hr
  have y0 : (w.alloc (.cells #[.int .u64 0, .int .u64 0] 25)).cell? ⟨r, 0, none⟩ = some (.slice (some ⟨g, o, none⟩) m c) := HM.out ▸ cell_row HRO.out.row rfl
  have hpq := lt_of_row brow.out
  generalize w.alloc (.cells #[.int .u64 0, .int .u64 0] 25) = w0 at *
  obtain ⟨p, hp⟩ : ∃ p, w.heap.size = p := ⟨_, rfl⟩
  have HP := Lib.hid hp
  rw [hp] at brow HR HG z0 z1 zf0 zf1 hpr hpq
  rw [hp]
  clear hp
  have FIN : Hid (∀ (A' : Option Addr) (c' : Nat) (W3 : World), ((c = 16 ∧ A' = some ⟨g, o, none⟩ ∧ c' = 0) ∨ (c ≠ 16 ∧ c' = c - 16 ∧ A' = some ⟨g, o + 16, none⟩)) → Kept (fun b => p ≤ b) (w0.setCell ⟨r, 0, none⟩ (.slice A' (m - 16) c')) W3 → Rd 64 W3 r (zs.drop 16) F ∧ Kept (fun b => b = r) w W3) := fun A' c' W3 he hk => word_fin HRO.out HBX.out HP.out HR.out HG.out HLL.out HM.out he hk
  by_cases hc16e : c = 16
  · subst hc16e
    obtain rfl : m = 16 := by omega
    go_wp2_with (first | (go_at_call 25; (with_reducible refine HG1.out.mono ?_); rintro e w1 ⟨rfl, rfl⟩) | (go_at_call 25; (with_reducible refine HG2.out.mono ?_); rintro e w1 ⟨rfl, rfl⟩) | fail)
    (try simp only [Exit.inBlock, Exit.then])
    refine bodyPost_ret (box_ret rfl _ _ p (.agg #[.int .u64 V, .int .u64 U]) rfl (run_loadVar_row _ p 25 25 _ (0, 0) _ (box_two brow.out hpr) Try.underlying25 rfl info25)) rfl ?_
    exact ⟨rfl, FIN.out _ _ _ (.inl ⟨by trivial, rfl, rfl⟩) (((Kept.refl _ _).setCell (p := ⟨p, 0, none⟩) (.inl (Nat.le_refl _)) _).setCell (p := ⟨p, 1, none⟩) (.inl (Nat.le_refl _)) _)⟩
  · go_wp2_with (first | (go_at_call 25; (with_reducible refine HG1.out.mono ?_); rintro e w1 ⟨rfl, rfl⟩) | (go_at_call 25; (with_reducible refine HG2.out.mono ?_); rintro e w1 ⟨rfl, rfl⟩) | fail)
    (try simp only [Exit.inBlock, Exit.then])
    refine bodyPost_ret (box_ret rfl _ _ p (.agg #[.int .u64 V, .int .u64 U]) rfl (run_loadVar_row _ p 25 25 _ (0, 0) _ (box_two brow.out hpr) Try.underlying25 rfl info25)) rfl ?_
    exact ⟨rfl, FIN.out _ _ _ (.inr ⟨hc16e, rfl, rfl⟩) (((Kept.refl _ _).setCell (p := ⟨p, 0, none⟩) (.inl (Nat.le_refl _)) _).setCell (p := ⟨p, 1, none⟩) (.inl (Nat.le_refl _)) _)⟩
theorem rwd_all (w : World) (r : Nat) (zs : List Int) (F : Nat → Prop) (h : Rd 64 w r zs F) (hB : Bytes zs) : Calls Try.prog 47 #[.pointer (some ⟨r, 0, none⟩)] w fun e w' => e = .returned (.tuple #[.agg #[.int .u64 (wordH zs), .int .u64 (wordL zs)], .int .i64 (wordE zs)]) ∧ Rd 64 w' r (wordR zs) F ∧ Kept (fun b => b = r) w w' := by
  unfold wordH wordL wordE wordR
  by_cases hl : zs.length < 16
  · rw [if_pos hl, if_pos hl, if_pos hl, if_pos hl]
    refine (rwd_bad w r zs F h hl).mono ?_
    rintro e w' ⟨rfl, hb⟩
    exact ⟨rfl, h.below hb, Kept.of_below hb⟩
  · rw [if_neg hl, if_neg hl, if_neg hl, if_neg hl]
    exact rwd_ok w r zs F h (by omega) hB
end Go.Proofs.Ytolfmchgcelnmaa.O

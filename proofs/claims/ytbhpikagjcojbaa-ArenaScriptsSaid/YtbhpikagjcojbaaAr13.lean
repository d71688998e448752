/- ArenaKeeps: the walk. -/
import Derived.Test.YtbhpikagjcojbaaAr12
namespace Go.Proofs.Ytbhpikagjcojbaa.Ar
open Go.RowKit Go.Proofs.Ytbhpikagjcojbaa.Mem
theorem read_laid {N j : Nat} (hj : j < N) (x y : Int) : ((laid (Z N) (j * 64 + 60) [x, y]).drop (j * 64 + 60)).take 4 = [x, y, 0, 0] := by
  unfold laid Z
  rw [List.take_replicate, Nat.min_eq_left (by omega), List.drop_replicate, List.append_assoc, List.drop_left' (by simp)]
  obtain ⟨r, hr⟩ : ∃ r, N * 64 - (j * 64 + 60 + [x, y].length) = r + 2 := ⟨N * 64 - (j * 64 + 60 + 2) - 2, by simp; omega⟩
  rw [hr, List.replicate_succ, List.replicate_succ]
  rfl
/-- A row that was written into is a row still. -/
theorem own_wrote {e : TypeId} {w w' : World} {g n c : Nat} {xs : List Value} {cur cur' : Array Value} (h : w.ownsRow 0 e 1 (.slice (some ⟨g, 0, none⟩) n c) n xs) (hc : w.heap[g]? = some (.cells cur e (0, 0))) (hc' : w'.heap[g]? = some (.cells cur' e (0, 0))) (hs : cur'.size = cur.size) : ∃ xs', w'.ownsRow 0 e 1 (.slice (some ⟨g, 0, none⟩) n c) n xs' := by
  obtain ⟨h1, h2⟩ := h
  rcases h2 with ⟨h2, _⟩ | ⟨g', c', cu, e1, hb, hg, hnc, hcm, hcs, ht⟩
  · simp at h2
  · obtain ⟨rfl, rfl⟩ : g = g' ∧ c = c' := by simpa using e1
    rw [hc] at hg
    obtain rfl : cur = cu := by simpa using hg
    refine ⟨cur'.toList.take (n * 1), ?_, .inr ⟨g, c, cur', rfl, hb, hc', hnc, hcm, hs.trans hcs, rfl⟩⟩
    rw [List.length_take, Array.length_toList, hs]
    omega
theorem conv_new (w : World) (zs : List Int) (cs : Array Value) (n : Nat) (hn : zs.length = n) (hc : cs.toList = zs.map byteC) : (convert 36 9 (.slice (some ⟨w.heap.size, 0, none⟩) n n)).run Try.prog (w.alloc (.cells cs 5)) = .ok (.string (strOfNums zs)) (w.alloc (.cells cs 5)) :=
  run_convert_bytes_arg (w.alloc (.cells cs 5)) 36 5 Try.underlying36 Try.underlying5 w.heap.size 0 n n zs hn (fun i hi => by
    rw [Nat.zero_add]
    refine cell_row (heap_alloc_new w _) ?_
    rw [← Array.getElem?_toList, hc, List.getElem?_map, List.getD_eq_getElem?_getD, List.getElem?_eq_getElem (by omega)]
    rfl) 9 Try.underlying9
/-- The four lists that were answered. -/
theorem arena_rows {w2 w3 w4 w5 w6 W : World} {a t : Nat} {vl vm vs vt : Value} {k N : Nat} {zl zm zs zt : List Int} (hal : a < w2.heap.size) (htl : t < w2.heap.size) (OL : w3.ownsRow 0 3 1 vl k (zl.map (Value.int .i64))) (FL : Fresh w2 vl) (K3 : Kept (fun b => b = a ∨ b = t) w2 w3) (OM : w4.ownsRow 0 3 1 vm k (zm.map (Value.int .i64))) (FM : Fresh w3 vm) (K4 : Kept (fun b => b = a ∨ b = t) w3 w4)
    (OS : w5.ownsRow 0 3 1 vs N (zs.map (Value.int .i64))) (FS : Fresh w4 vs) (K5 : Below w4.heap.size w4 w5) (OT : w6.ownsRow 0 3 1 vt N (zt.map (Value.int .i64))) (FT : Fresh w5 vt) (K6 : Below w5.heap.size w5 w6) (KW : Below w6.heap.size w6 W) :
    Mem.Rows 3 1 W 4 (sel vl vm vs vt) (sel k k N N) (fun j => (sel zl zm zs zt j).map (Value.int .i64)) ∧ ∀ b, Touch 4 (sel vl vm vs vt) b → w2.heap.size ≤ b ∧ b < w6.heap.size := by
  have r0 : ∀ b, vl.ownBlock = some b → w2.heap.size ≤ b ∧ b < w3.heap.size := fun b hb => ⟨FL b hb, own_lt OL b hb⟩
  have r1 : ∀ b, vm.ownBlock = some b → w3.heap.size ≤ b ∧ b < w4.heap.size := fun b hb => ⟨FM b hb, own_lt OM b hb⟩
  have r2 : ∀ b, vs.ownBlock = some b → w4.heap.size ≤ b ∧ b < w5.heap.size := fun b hb => ⟨FS b hb, own_lt OS b hb⟩
  have r3 : ∀ b, vt.ownBlock = some b → w5.heap.size ≤ b ∧ b < w6.heap.size := fun b hb => ⟨FT b hb, own_lt OT b hb⟩
  have s0 := K3.size
  have s1 := K4.size
  have s2 := K5.size
  have s3 := K6.size
  have k5 : Below w5.heap.size w5 W := K6.trans (KW.mono s3)
  have k4 : Below w4.heap.size w4 W := K5.trans (k5.mono s2)
  refine ⟨⟨fun j hj => ?_, fun i j b hi hj h1 h2 => ?_⟩, ?_⟩
  · rcases four_cases hj with rfl | rfl | rfl | rfl
    · exact own_keeps (own_kept OL K4 (fun b hb e => by have := r0 b hb; omega)) (Kept.of_below k4)
    · exact own_keeps OM (Kept.of_below k4)
    · exact own_keeps OS (Kept.of_below k5)
    · exact own_keeps OT (Kept.of_below KW)
  · rcases four_cases hi with rfl | rfl | rfl | rfl <;> rcases four_cases hj with rfl | rfl | rfl | rfl
    all_goals first | rfl | skip
    all_goals simp only [sel] at h1 h2
    all_goals first | (have e1 := r0 b h1) | (have e1 := r1 b h1) | (have e1 := r2 b h1) | (have e1 := r3 b h1)
    all_goals first | (have e2 := r0 b h2) | (have e2 := r1 b h2) | (have e2 := r2 b h2) | (have e2 := r3 b h2)
    all_goals omega
  · rintro b ⟨j, hj, hb⟩
    rcases four_cases hj with rfl | rfl | rfl | rfl
    · have := r0 b hb; omega
    · have := r1 b hb; omega
    · have := r2 b hb; omega
    · have := r3 b hb; omega
set_option maxHeartbeats 4000000 in
set_option maxRecDepth 100000 in
theorem law_keeps (w : World) (n0 page : Int) (x : Int) : Calls Try.prog 3 #[.int .i64 n0, .int .i64 page, .int .u8 x] w fun e w' => e = .returned (.bool true) ∧ Below w.heap.size w w' := by
  have HI := Lib.hid (fun w => rest_any w n0 20 (by decide) (by decide))
  have q0 := restI_lo n0 (top := 20) (by decide)
  have q1 := restI_hi n0 (top := 20) (by decide)
  obtain ⟨qi, hq⟩ : ∃ q, restI n0 20 = q := ⟨_, rfl⟩
  rw [hq] at HI q0 q1
  obtain ⟨q, rfl⟩ : ∃ q : Nat, qi = (q : Int) := ⟨qi.toNat, by omega⟩
  have hq20 : q < 20 := by omega
  clear hq q0 q1
  have HNEW : Hid (Calls Try.prog 7 #[.int .i64 (2 * (1 + (q : Int)))] w fun e w' => ∃ p a t, e = .returned (.tuple #[.pointer (some ⟨p, 0, none⟩), .int .i64 0]) ∧ At w' p a t (2 * (1 + q)) (onC 0 (2 * (1 + q))) (Z (2 * (1 + q))) ∧ Below w.heap.size w w' ∧ w.heap.size ≤ p ∧ w.heap.size ≤ a ∧ w.heap.size ≤ t) := by
    have := new_in w (2 * (1 + q)) (by omega)
    rw [show ((2 * (1 + q) : Nat) : Int) = 2 * (1 + (q : Int)) by omega, onC_none] at this
    exact this
  have HNUM := Lib.hid num_any
  go_enter Try.func3, Try.ntmps3
  go_wp2_with (go_at_call 6; (with_reducible refine (HI.out _).mono ?_); rintro e w1 ⟨rfl, rfl⟩)
  (with_reducible refine HNEW.out.mono ?_)
  rintro e w1 ⟨p, a, t, rfl, h1, b1, hp, ha, ht⟩
  have HA1 := Lib.hid h1
  have HB1 := Lib.hid b1
  clear h1 b1 HNEW
  go_wp2_with (first | (go_at_call 8; (with_reducible refine (HNUM.out _ _).mono ?_); rintro e w2 ⟨rfl, rfl⟩) | (go_at_call 9; (with_reducible refine (alive_any _).mono ?_); rintro e w2 ⟨rfl, b2⟩; have HA2 := Lib.hid (HA1.out.below b2); have HB2 := Lib.hid (HB1.out.trans (b2.mono HB1.out.size)); clear b2))
  have e1q : ((1 + q : Nat) : Int) = 1 + (q : Int) := by omega
  have HT1 : Hid (Calls Try.prog 10 #[.pointer (some ⟨p, 0, none⟩), .int .i64 (1 + (q : Int))] w2 fun e w' => ∃ A d, e = .returned (.tuple #[.slice A (1 + q) d, .int .i64 0]) ∧ w'.ownsRow 0 3 1 (.slice A (1 + q) d) (1 + q) ((ints 0 (1 + q)).map (Value.int .i64)) ∧ At w' p a t (2 * (1 + q)) (onC (1 + q) (2 * (1 + q))) (Z (2 * (1 + q))) ∧ Kept (fun b => b = a ∨ b = t) w2 w' ∧ Fresh w2 (.slice A (1 + q) d)) := by
    have := take_onC w2 p a t (2 * (1 + q)) 0 (1 + q) (by omega) (by omega) HA2.out
    rwa [e1q, Nat.zero_add] at this
  (with_reducible refine HT1.out.mono ?_)
  rintro e w3 ⟨Al, dl, rfl, ol, h3, k3, fl⟩
  have HA3 := Lib.hid h3
  have OL3 := Lib.hid ol
  have FL := Lib.hid fl
  have K3 := Lib.hid k3
  have HB3 : Hid (Below w.heap.size w w3) := HB2.out.trans (k3.below (fun b hb => by rcases hb with rfl | rfl <;> omega) HB2.out.size)
  clear h3 ol fl k3 HT1 HA1 HB1
  have HT2 : Hid (Calls Try.prog 10 #[.pointer (some ⟨p, 0, none⟩), .int .i64 (1 + (q : Int))] w3 fun e w' => ∃ A d, e = .returned (.tuple #[.slice A (1 + q) d, .int .i64 0]) ∧ w'.ownsRow 0 3 1 (.slice A (1 + q) d) (1 + q) ((ints (1 + q) (1 + q)).map (Value.int .i64)) ∧ At w' p a t (2 * (1 + q)) (onC (2 * (1 + q)) (2 * (1 + q))) (Z (2 * (1 + q))) ∧ Kept (fun b => b = a ∨ b = t) w3 w' ∧ Fresh w3 (.slice A (1 + q) d)) := by
    have := take_onC w3 p a t (2 * (1 + q)) (1 + q) (1 + q) (by omega) (by omega) HA3.out
    rwa [e1q, show 1 + q + (1 + q) = 2 * (1 + q) by omega] at this
  go_wp2_with fail
  (with_reducible refine HT2.out.mono ?_)
  rintro e w4 ⟨Am, dm, rfl, om, h4, k4, fm⟩
  have HA4 := Lib.hid h4
  have OM4 := Lib.hid om
  have FM := Lib.hid fm
  have K4 := Lib.hid k4
  have HB4 : Hid (Below w.heap.size w w4) := HB3.out.trans (k4.below (fun b hb => by rcases hb with rfl | rfl <;> omega) HB3.out.size)
  clear h4 om fm k4 HT2
  have HT3 := Lib.hid (taken_onC w4 p a t (2 * (1 + q)) (2 * (1 + q)) (Nat.le_refl _) _ HA4.out)
  go_wp2_with fail
  (with_reducible refine HT3.out.mono ?_)
  rintro e w5 ⟨As, ds, rfl, os, b5, fs⟩
  have HA5 := Lib.hid (HA4.out.below b5)
  have OS5 := Lib.hid os
  have FS := Lib.hid fs
  have K5 := Lib.hid b5
  clear os b5 fs HT3
  have HT4 := Lib.hid (taken_onC w5 p a t (2 * (1 + q)) (2 * (1 + q)) (Nat.le_refl _) _ HA5.out)
  go_wp2_with fail
  (with_reducible refine HT4.out.mono ?_)
  rintro e w6 ⟨At', dt, rfl, ot, b6, ft⟩
  have HA6 := Lib.hid (HA5.out.below b6)
  have OT6 := Lib.hid ot
  have FT := Lib.hid ft
  have K6 := Lib.hid b6
  clear ot b6 ft HT4
  go_wp2_with fail
  go_loopw [16, 17, 18, 19] (fun v16 v17 v18 v19 wr => ∃ (i m0 m1 : Nat) (B0 B1 B2 : Option Addr) (d0 d1 d2 : Nat), i ≤ 2 * (1 + q) ∧ v19 = .int .i64 i ∧ v16 = .slice B0 m0 d0 ∧ v17 = .slice B1 m1 d1 ∧ v18 = .slice B2 i d2 ∧ Hid (m0 = min i (1 + q)) ∧ Hid (m1 = i - (1 + q)) ∧ m0 ≤ i ∧ m1 ≤ i ∧ Hid (Own3 w6 (.slice B0 m0 d0) (.slice B1 m1 d1) (.slice B2 i d2) m0 m1 i (ints 0 m0) (ints (1 + q) m1) (ints 0 i) wr)) (fun _ _ _ v19 _ => 2 * (1 + q) - (intOf v19).toNat)
  case atStart => exact ⟨0, 0, 0, none, none, none, 0, 0, 0, Nat.zero_le _, rfl, rfl, rfl, rfl, by show _ = _; omega, by show _ = _; omega, Nat.le_refl _, Nat.le_refl _, own3_start w6⟩
  case round =>
    obtain ⟨i, m0, m1, B0, B1, B2, d0, d1, d2, hi, rfl, rfl, rfl, rfl, HM0, HM1, hm0, hm1, HO⟩ := hrel
    by_cases hlt : i < 2 * (1 + q)
    · have hlt' : (i : Int) < 2 * (1 + (q : Int)) := by omega
      by_cases hone : i < 1 + q
      · have hone' : (i : Int) < 1 + (q : Int) := by omega
        have E0 : Hid (m0 = i) := by show _ = _; rw [HM0.out]; omega
        go_wp2_with (first | (at_builtin; refine list_app2 rfl (.tmp 72) (.tmp 74) 29 rfl 3 0 _ 1 8 Try.underlying29 info3 rfl (by decide) (by decide) (.slice B2 i d2) i _ rfl (own_keeps HO.out.o2 ((Kept.refl _ _).alloc _)) (some ⟨wr.heap.size, 0, none⟩) 1 1 [.int .i64 i] rfl rfl (holds_new _ _ _ _ _ rfl) (by simp [Value.oneCell']) (by omega) (Nat.zero_le _) ?_; intro v7 w7 hown7 hwent7; have HO7 := Lib.hid ((HO.out.box ((Below.refl _ wr).alloc (Nat.le_refl _) (.cells #[.int .i64 i] 3))).grow2 hown7 hwent7); clear hown7 hwent7) | (at_builtin; refine list_app2 rfl (.tmp 79) (.tmp 81) 29 rfl 3 0 _ 1 8 Try.underlying29 info3 rfl (by decide) (by decide) (.slice B0 m0 d0) m0 _ rfl (own_keeps HO7.out.o0 ((Kept.refl _ _).alloc _)) (some ⟨w7.heap.size, 0, none⟩) 1 1 [.int .i64 i] rfl rfl (holds_new _ _ _ _ _ rfl) (by simp [Value.oneCell']) (by omega) (Nat.zero_le _) ?_; intro v8 w8 hown8 hwent8; have HO8 := Lib.hid ((HO7.out.box ((Below.refl _ w7).alloc (Nat.le_refl _) (.cells #[.int .i64 i] 3))).grow0 hown8 hwent8); clear hown8 hwent8))
        obtain ⟨C2, f2, rfl, _⟩ := own_slice HO8.out.o2
        obtain ⟨C0, f0, rfl, _⟩ := own_slice HO8.out.o0
        refine ⟨⟨i + 1, m0 + 1, m1, C0, B1, C2, f0, d1, f2, by omega, by simp, rfl, rfl, rfl, by show _ = _; have := E0.out; omega, by show _ = _; have := HM1.out; omega, by omega, by omega, ?_⟩, by simp [intOf]; omega⟩
        have h9 := HO8.out
        rw [show ints 0 m0 ++ [(i : Int)] = ints 0 (m0 + 1) by rw [ints_succ, Nat.zero_add, E0.out], show ints 0 i ++ [(i : Int)] = ints 0 (i + 1) by rw [ints_succ, Nat.zero_add]] at h9
        exact h9
      · have hone' : 1 + (q : Int) ≤ (i : Int) := by omega
        have E0 : Hid (1 + q + m1 = i) := by show _ = _; have := HM1.out; omega
        go_wp2_with (first | (at_builtin; refine list_app2 rfl (.tmp 72) (.tmp 74) 29 rfl 3 0 _ 1 8 Try.underlying29 info3 rfl (by decide) (by decide) (.slice B2 i d2) i _ rfl (own_keeps HO.out.o2 ((Kept.refl _ _).alloc _)) (some ⟨wr.heap.size, 0, none⟩) 1 1 [.int .i64 i] rfl rfl (holds_new _ _ _ _ _ rfl) (by simp [Value.oneCell']) (by omega) (Nat.zero_le _) ?_; intro v7 w7 hown7 hwent7; have HO7 := Lib.hid ((HO.out.box ((Below.refl _ wr).alloc (Nat.le_refl _) (.cells #[.int .i64 i] 3))).grow2 hown7 hwent7); clear hown7 hwent7) | (at_builtin; refine list_app2 rfl (.tmp 83) (.tmp 85) 29 rfl 3 0 _ 1 8 Try.underlying29 info3 rfl (by decide) (by decide) (.slice B1 m1 d1) m1 _ rfl (own_keeps HO7.out.o1 ((Kept.refl _ _).alloc _)) (some ⟨w7.heap.size, 0, none⟩) 1 1 [.int .i64 i] rfl rfl (holds_new _ _ _ _ _ rfl) (by simp [Value.oneCell']) (by omega) (Nat.zero_le _) ?_; intro v8 w8 hown8 hwent8; have HO8 := Lib.hid ((HO7.out.box ((Below.refl _ w7).alloc (Nat.le_refl _) (.cells #[.int .i64 i] 3))).grow1 hown8 hwent8); clear hown8 hwent8))
        obtain ⟨C2, f2, rfl, _⟩ := own_slice HO8.out.o2
        obtain ⟨C1, f1, rfl, _⟩ := own_slice HO8.out.o1
        refine ⟨⟨i + 1, m0, m1 + 1, B0, C1, C2, d0, f1, f2, by omega, by simp, rfl, rfl, rfl, by show _ = _; have := HM0.out; omega, by show _ = _; have := HM1.out; omega, by omega, by omega, ?_⟩, by simp [intOf]; omega⟩
        have h9 := HO8.out
        rw [show ints (1 + q) m1 ++ [(i : Int)] = ints (1 + q) (m1 + 1) by rw [ints_succ, E0.out], show ints 0 i ++ [(i : Int)] = ints 0 (i + 1) by rw [ints_succ, Nat.zero_add]] at h9
        exact h9
    · have : i = 2 * (1 + q) := by omega
      subst this
      obtain rfl : m0 = 1 + q := by rw [HM0.out]; omega
      obtain rfl : m1 = 1 + q := by rw [HM1.out]; omega
      clear hlt HM0 HM1
      go_wp2_with fail
      obtain ⟨_, _, _, _, hpl2, hal2, htl2⟩ := HA2.out.cells
      have KW0 := HO.out.below
      have bx1 : Below wr.heap.size wr (wr.alloc (.cells #[.slice Al (1 + q) dl, .slice Am (1 + q) dm, .slice As (2 * (1 + q)) ds, .slice At' (2 * (1 + q)) dt] 29)) := (Below.refl _ _).alloc (Nat.le_refl _) _
      obtain ⟨wx, hwx⟩ : ∃ wx, wr.alloc (.cells #[.slice Al (1 + q) dl, .slice Am (1 + q) dm, .slice As (2 * (1 + q)) ds, .slice At' (2 * (1 + q)) dt] 29) = wx := ⟨_, rfl⟩
      have hX := heap_alloc_new wr (.cells #[.slice Al (1 + q) dl, .slice Am (1 + q) dm, .slice As (2 * (1 + q)) ds, .slice At' (2 * (1 + q)) dt] 29)
      have hXs : (wr.alloc (.cells #[.slice Al (1 + q) dl, .slice Am (1 + q) dm, .slice As (2 * (1 + q)) ds, .slice At' (2 * (1 + q)) dt] 29)).heap.size = wr.heap.size + 1 := by simp
      rw [hwx] at bx1 hX hXs ⊢
      have bx2 : Below wx.heap.size wx (wx.alloc (.cells #[.slice B0 (1 + q) d0, .slice B1 (1 + q) d1, .slice B2 (2 * (1 + q)) d2, .slice B2 (2 * (1 + q)) d2] 29)) := (Below.refl _ _).alloc (Nat.le_refl _) _
      have hY := heap_alloc_new wx (.cells #[.slice B0 (1 + q) d0, .slice B1 (1 + q) d1, .slice B2 (2 * (1 + q)) d2, .slice B2 (2 * (1 + q)) d2] 29)
      have hX2 := (bx2.block _ (lt_of_row hX)).trans hX
      have HOW := Lib.hid ((HO.out.box bx1).box bx2)
      have KW := Lib.hid (HOW.out.below)
      have ROWS := Lib.hid (arena_rows hal2 htl2 OL3.out FL.out K3.out OM4.out FM.out K4.out OS5.out FS.out K5.out OT6.out FT.out K6.out KW.out)
      have HAP := Lib.hid (apart_any (wx.alloc (.cells #[.slice B0 (1 + q) d0, .slice B1 (1 + q) d1, .slice B2 (2 * (1 + q)) d2, .slice B2 (2 * (1 + q)) d2] 29)) 4 (by decide) _ (sel (.slice B0 (1 + q) d0) (.slice B1 (1 + q) d1) (.slice B2 (2 * (1 + q)) d2) (.slice B2 (2 * (1 + q)) d2)) _ _ ROWS.out.1 (fun j hj => by rcases four_cases hj with rfl | rfl | rfl | rfl <;> exact ints_len _ _)
        (fun j hj => by
          rcases four_cases hj with rfl | rfl | rfl | rfl
          · exact reads_own (ints_len _ _) HOW.out.o0
          · exact reads_own (ints_len _ _) HOW.out.o1
          · exact reads_own (ints_len _ _) HOW.out.o2
          · exact reads_own (ints_len _ _) HOW.out.o2)
        (fun j hj => by rcases four_cases hj with rfl | rfl | rfl | rfl <;> simp only [sel] <;> omega) wr.heap.size 0 4 wx.heap.size 0 4
        (fun j hj => by rcases four_cases hj with rfl | rfl | rfl | rfl <;> exact cell_row hX2 rfl)
        (fun j hj => by rcases four_cases hj with rfl | rfl | rfl | rfl <;> exact cell_row hY rfl)
        (fun j hj hb => by
          have h1 := (ROWS.out.2 _ ⟨j, hj, hb⟩).2
          have h2 := KW0.size
          omega) (by simp; omega))
      rw [hXs] at HAP
      clear bx1 bx2 hX hY hX2 KW0 hXs
      (with_reducible refine HAP.out.mono ?_)
      rintro e wa ⟨rfl, ka⟩
      have K2 : w2.heap.size ≤ w6.heap.size := Nat.le_trans K3.out.size (Nat.le_trans K4.out.size (Nat.le_trans K5.out.size K6.out.size))
      have hTl : ∀ b, Touch 4 (sel (.slice Al (1 + q) dl) (.slice Am (1 + q) dm) (.slice As (2 * (1 + q)) ds) (.slice At' (2 * (1 + q)) dt)) b → w2.heap.size ≤ b ∧ b < w6.heap.size := ROWS.out.2
      have HAa := Lib.hid ((HA6.out.below KW.out).kept ka (fun e => by have := hTl _ e; omega) (fun e => by have := hTl _ e; omega) (fun e => by have := hTl _ e; omega))
      have HB6 : Below w.heap.size w w6 := HB4.out.trans ((K5.out.trans (K6.out.mono K5.out.size)).mono HB4.out.size)
      have HBa : Hid (Below w.heap.size w wa) := (HB6.trans (KW.out.mono HB6.size)).trans (ka.below (fun b hb => Nat.le_trans HB2.out.size (hTl b hb).1) (Nat.le_trans HB6.size KW.out.size))
      have HALL := Lib.hid (own_kept HOW.out.o2 ka (fun b hb e => by have h1 := hTl b e; have h2 := HOW.out.fresh 2 b (by omega) hb; omega))
      have hpa : p < wa.heap.size := HAa.out.cells.2.2.2.2.1
      have HP := Lib.hid hp
      clear hTl HB6 ka HAP ROWS HOW KW HA6 HA5 HA4 HA3 HA2 OL3 OM4 OS5 OT6 FL FM FS FT K3 K4 K5 K6 HB4 HB3 HO hwx K2 hal2 htl2 hpl2 hpa hp
      have HTK := Lib.hid (taken_onC wa p a t (2 * (1 + q)) (2 * (1 + q)) (Nat.le_refl _) _ HAa.out)
      have hr0 := restI_lo page (top := 2 * (1 + (q : Int))) (by omega)
      have hr1 := restI_hi page (top := 2 * (1 + (q : Int))) (by omega)
      have HRS := Lib.hid (fun w => rest_any w page (2 * (1 + (q : Int))) (by omega) (by omega))
      obtain ⟨ri, hri⟩ : ∃ r, restI page (2 * (1 + (q : Int))) = r := ⟨_, rfl⟩
      rw [hri] at HRS hr0 hr1
      obtain ⟨r, rfl⟩ : ∃ r : Nat, ri = (r : Int) := ⟨ri.toNat, by omega⟩
      have hrN : r < 2 * (1 + q) := by omega
      clear hri hr0 hr1
      obtain ⟨y, hy⟩ : ∃ y, IntKind.u8.wrap (x + 1) = y := ⟨_, rfl⟩
      go_wp2_with (first | (go_at_call 11; (with_reducible refine HTK.out.mono ?_); rintro e wb ⟨A9, d9, rfl, o9, b9, _⟩; have HNS := Lib.hid (numbers_same wb _ _ (ints 0 (2 * (1 + q))) (reads_own (ints_len _ _) o9) (reads_own (ints_len _ _) (own_keeps HALL.out (Kept.of_below b9)))); have HAb := Lib.hid (HAa.out.below b9); have HBb := Lib.hid (HBa.out.trans (b9.mono HBa.out.size)); clear o9 b9) | (go_at_call 13; (with_reducible refine HNS.out.mono ?_); rintro e wc ⟨rfl, bc⟩; have HAc := Lib.hid (HAb.out.below bc); have HBc := Lib.hid (HBb.out.trans (bc.mono HBb.out.size)); clear bc) | (go_at_call 6; (with_reducible refine (HRS.out _).mono ?_); rintro e wd ⟨rfl, rfl⟩))
      have hplace : ∀ k : Int, 0 ≤ k → k ≤ 4 → placeE (onC (2 * (1 + q)) (2 * (1 + q))) (r : Int) 60 k = 0 := fun k h0 h4 => by
        unfold placeE
        rw [if_pos (isB_all hrN), if_neg (by omega)]
      have HPL := Lib.hid hplace
      obtain ⟨wv, hwv⟩ : ∃ wv, wc.alloc (.cells #[.int .u8 x, .int .u8 y] 5) = wv := ⟨_, rfl⟩
      have bv : Below wc.heap.size wc wv := by rw [← hwv]; exact (Below.refl _ _).alloc (Nat.le_refl _) _
      have hvs : wv.heap.size = wc.heap.size + 1 := by rw [← hwv]; simp
      have hrd : ReadsB wv (some ⟨wc.heap.size, 0, none⟩) [x, y] := fun _ => ⟨wc.heap.size, 0, rfl, fun j u hu => by
        rw [← hwv, Nat.zero_add]
        refine cell_row (heap_alloc_new wc _) ?_
        match j, hu with
        | 0, hu => simpa using hu
        | 1, hu => simpa using hu⟩
      rw [hwv]
      have HLE := Lib.hid (lent_any wv (some ⟨wc.heap.size, 0, none⟩) 2 2 [x, y] rfl (by decide) hrd)
      have HAv := Lib.hid (HAc.out.below bv)
      have HBv := Lib.hid (HBc.out.trans (bv.mono HBc.out.size))
      clear bv hvs hrd hwv hplace
      (with_reducible refine HLE.out.mono ?_)
      rintro e wl ⟨rfl, hrl, bl⟩
      have hav := HAv.out.cells.2.2.2.2
      obtain ⟨D, hD⟩ : ∃ D, wv.heap.size = D := ⟨_, rfl⟩
      have HAl := Lib.hid (HAv.out.below bl)
      have HBl := Lib.hid (HBv.out.trans (bl.mono HBv.out.size))
      have hwD := HBv.out.size
      rw [hD] at hrl hav hwD ⊢
      have hDl := lt_of_row hrl
      have hlc : (((lentL [x, y]).map byteC).toArray)[0]? = some (.int .u8 x) ∧ (((lentL [x, y]).map byteC).toArray)[1]? = some (.int .u8 y) := ⟨rfl, rfl⟩
      have HHOL : Hid (Holds wl (some ⟨D, 0, none⟩) ([x, y].map byteC)) := fun _ => ⟨_, rfl, fun j u hu => by
        have e2 : (⟨D, 0, none⟩ : Addr).add j = ⟨D, j, none⟩ := by unfold Addr.add; split <;> simp_all
        rw [e2]
        refine cell_row hrl ?_
        match j, hu with
        | 0, hu => exact hu
        | 1, hu => exact hu⟩
      have HRL := Lib.hid hrl
      clear hrl bl hlc HLE HAv HBv
      have HWR : Hid (Calls Try.prog 15 #[.pointer (some ⟨p, 0, none⟩), .int .i64 r, .int .i64 60, .slice (some ⟨D, 0, none⟩) 2 122] wl fun e w' => e = .returned (.int .i64 0) ∧ At w' p a t (2 * (1 + q)) (onC (2 * (1 + q)) (2 * (1 + q))) (laid (Z (2 * (1 + q))) (r * 64 + 60) [x, y]) ∧ Kept (fun b => b = a) wl w') :=
        write_in wl p a t _ _ _ r 60 2 _ 122 [x, y] HAl.out hrN (HPL.out 2 (by decide) (by decide)) (by decide) rfl HHOL.out
      go_wp2_with fail
      (with_reducible refine HWR.out.mono ?_)
      rintro e wt ⟨rfl, ht1, kt⟩
      have HAt := Lib.hid ht1
      have HBt := Lib.hid (HBl.out.trans (kt.below (fun b hb => by rw [hb]; exact ha) HBl.out.size))
      have HRT := Lib.hid (kt.row HRL.out (fun e => by omega))
      clear ht1 kt HWR HAl HBl HRL HHOL
      have HRD : Hid (∀ w', At w' p a t (2 * (1 + q)) (onC (2 * (1 + q)) (2 * (1 + q))) (laid (Z (2 * (1 + q))) (r * 64 + 60) [x, y]) → Calls Try.prog 16 #[.pointer (some ⟨p, 0, none⟩), .int .i64 r, .int .i64 60, .int .i64 4] w' fun e w2 => ∃ A c', e = .returned (.tuple #[.slice A 4 c', .int .i64 0]) ∧ w2.ownsRow 0 5 1 (.slice A 4 c') 4 ([x, y, 0, 0].map byteC) ∧ Below w'.heap.size w' w2 ∧ Fresh w' (.slice A 4 c')) := fun w' h' => by
        have := read_in w' p a t _ _ _ r 60 4 h' hrN (HPL.out 4 (by decide) (by decide)) (by decide)
        rw [read_laid hrN] at this
        exact this
      go_wp2_with fail
      (with_reducible refine (HRD.out _ HAt.out).mono ?_)
      rintro e wf ⟨Ab, cb, rfl, ob, bf, fb⟩
      have HAf := Lib.hid (HAt.out.below bf)
      have HBf := Lib.hid (HBt.out.trans (bf.mono HBt.out.size))
      have HRF := Lib.hid ((bf.block _ (lt_of_row HRT.out)).trans HRT.out)
      have OB := Lib.hid ob
      have hDt := lt_of_row HRT.out
      have FB := Lib.hid (show ∀ b, (Value.slice Ab 4 cb).ownBlock = some b → D < b ∧ b < wf.heap.size ∧ p < b ∧ a < b ∧ t < b from fun b hb => ⟨Nat.lt_of_lt_of_le hDt (fb b hb), own_lt ob b hb, by have := HAt.out.cells.2.2.2.2; have := fb b hb; omega, by have := HAt.out.cells.2.2.2.2; have := fb b hb; omega, by have := HAt.out.cells.2.2.2.2; have := fb b hb; omega⟩)
      clear ob bf fb HRT HAt HBt
      go_wp2_with fail
      (with_reducible refine (HRD.out _ HAf.out).mono ?_)
      rintro e wg ⟨Ac, cc, rfl, oc, bg, fc⟩
      have HAg := Lib.hid (HAf.out.below bg)
      have HBg := Lib.hid (HBf.out.trans (bg.mono HBf.out.size))
      have hrg := (bg.block _ (lt_of_row HRF.out)).trans HRF.out
      have OBg := Lib.hid (own_keeps OB.out (Kept.of_below bg))
      have OC := Lib.hid oc
      have FC := Lib.hid (show ∀ b, (Value.slice Ac 4 cc).ownBlock = some b → D < b ∧ wf.heap.size ≤ b from fun b hb => ⟨Nat.lt_of_lt_of_le (lt_of_row HRF.out) (fc b hb), fc b hb⟩)
      have z0 : wg.cell? ⟨D, 0, none⟩ = some (.int .u8 x) := cell_row hrg rfl
      have z1 : wg.frozen? ⟨D, 0, none⟩ = false := free_row hrg
      clear oc bg fc HRF HAf HBf OB hrg
      obtain ⟨gb, cb', cub, e1, hgb, hb4, hbm, hbs, _, hbc⟩ := own_form OBg.out (by omega)
      obtain ⟨rfl, rfl⟩ : Ab = some ⟨gb, 0, none⟩ ∧ cb = cb' := by simpa using e1
      have hbD := FB.out gb rfl
      have hatg := HAg.out.cells.2.2.2.2
      have hne : ¬ gb = D := by omega
      have y0 : ∀ v, (wg.setCell ⟨D, 0, none⟩ v).cell? ⟨gb, 0, none⟩ = some (.int .u8 x) := fun v => (((Kept.refl (fun b => b = D) wg).setCell (p := ⟨D, 0, none⟩) (.inl rfl) v).cell (lt_of_row hgb) hne).trans (hbc 0 _ rfl)
      have y1 : ∀ v, (wg.setCell ⟨D, 0, none⟩ v).frozen? ⟨gb, 0, none⟩ = false := fun v => (((Kept.refl (fun b => b = D) wg).setCell (p := ⟨D, 0, none⟩) (.inl rfl) v).frozen (lt_of_row hgb) hne).trans (free_row hgb)
      obtain ⟨s9, hs9⟩ : ∃ s9, IntKind.u8.wrap (x + 9) = s9 := ⟨_, rfl⟩
      unfold maxLen at hbm
      have HKW : Hid (∀ v1 v2, Kept (fun b => b = D ∨ b = gb) wg ((wg.setCell ⟨D, 0, none⟩ v1).setCell ⟨gb, 0, none⟩ v2)) := fun v1 v2 => ((Kept.refl (fun b => b = D ∨ b = gb) wg).setCell (p := ⟨D, 0, none⟩) (.inl (.inl rfl)) v1).setCell (p := ⟨gb, 0, none⟩) (.inl (.inr rfl)) v2
      have HOX : Hid (∀ v1 v2, ∃ xs, ((wg.setCell ⟨D, 0, none⟩ v1).setCell ⟨gb, 0, none⟩ v2).ownsRow 0 5 1 (.slice (some ⟨gb, 0, none⟩) 4 cb) 4 xs) := fun v1 v2 => by
        have h1 := ((Kept.refl (fun b => b = D) wg).setCell (p := ⟨D, 0, none⟩) (.inl rfl) v1).row hgb hne
        exact own_wrote OBg.out hgb (heap_setCell_same _ gb 0 _ _ v2 h1) (by simp)
      clear hbc hgb e1 OBg
      have hx4 : 0 < 4 := by decide
      go_wp2_with (first | (go_at_call 8; (with_reducible refine (HNUM.out _ _).mono ?_); rintro e w2 ⟨rfl, rfl⟩) | (at_builtin; refine list_app2 rfl (.tmp 167) (.tmp 168) 36 rfl 5 0 _ 1 1 Try.underlying36 info5 rfl (by decide) (by decide) (.slice (some ⟨gb, 0, none⟩) 4 cb) 4 _ rfl (own_keeps (HOX.out _ _).choose_spec ((Kept.refl _ _).alloc _)) (some ⟨wg.heap.size, 0, none⟩) 3 3 [.int .u8 9, .int .u8 9, .int .u8 9] rfl rfl (by simpa using holds_new ((wg.setCell ⟨D, 0, none⟩ (.int .u8 s9)).setCell ⟨gb, 0, none⟩ (.int .u8 y)) #[.int .u8 9, .int .u8 9, .int .u8 9] 5 (0, 0) _ rfl) (by simp [Value.oneCell']) (by omega) (Nat.zero_le _) ?_; intro v8 w8 hown8 hwent8; have HK8 := Lib.hid (((HKW.out _ _).alloc _).trans hwent8.kept (fun b hb => .inl (.inr (Option.some.inj hb).symm))); obtain ⟨A8, c8, rfl, _⟩ := own_slice hown8; clear hown8 hwent8))
      have HA8 := Lib.hid (HAg.out.kept HK8.out (by omega) (by omega) (by omega))
      have hwg := HBg.out.size
      have HB8 : Hid (Below w.heap.size w w8) := HBg.out.trans (HK8.out.below (fun b hb => by rcases hb with rfl | rfl <;> omega) HBg.out.size)
      have HC8 := Lib.hid (own_kept OC.out HK8.out (fun b hb e => by have h1 := FC.out b hb; rcases e with rfl | rfl <;> omega))
      clear hwg
      (with_reducible refine (HRD.out _ HA8.out).mono ?_)
      rintro e wi ⟨Ad, cd, rfl, od, bi, _⟩
      have HBi := Lib.hid (HB8.out.trans (bi.mono HB8.out.size))
      have HCi := own_keeps HC8.out (Kept.of_below bi)
      obtain ⟨S0, hS0⟩ : ∃ S0, strOfNums [x, y, 0, 0] = S0 := ⟨_, rfl⟩
      have kbox : Kept (fun _ => False) wi (wi.alloc (.cells #[.int .u8 x, .int .u8 y, .int .u8 0, .int .u8 0] 5)) := (Kept.refl _ _).alloc _
      have cv0 := conv_own HCi (by decide)
      have cv1 := conv_new wi [x, y, 0, 0] #[.int .u8 x, .int .u8 y, .int .u8 0, .int .u8 0] 4 rfl rfl
      have cv2 := conv_own (own_keeps od kbox) (by decide)
      have cv3 := conv_own (own_keeps HCi kbox) (by decide)
      rw [hS0] at cv0 cv1 cv2 cv3
      clear hS0 kbox od bi HCi
      go_wp2_with fail
      go_ret
      exact ⟨rfl, HBi.out.trans ((Below.refl _ wi).alloc (Nat.le_refl _) _ |>.mono HBi.out.size)⟩
end Go.Proofs.Ytbhpikagjcojbaa.Ar

/- Bytes: copied, put behind others, read as a number. -/
import Derived.Test.YtfpkdbogapmhmaaOc1
import Derived.Test.YtfpkdbogapmhmaaNum
namespace Go.Proofs.Ytfpkdbogapmhmaa.O
open Go.RowKit Go.Proofs.Ytfpkdbogapmhmaa.Mem
theorem OB.nil (w : World) : OB w (.slice none 0 0) [] := World.ownsRow_nil _ _ _ _
theorem fresh_went {w w1 w9 : World} {v v9 : Value} {n m : Nat} (hv : ∀ b, v.ownBlock = some b → w.heap.size ≤ b) (hs : w.heap.size ≤ w1.heap.size) (hw : Went w1 w9 v v9 n m) : Fresh w v9 := fun b hb => by
  rcases hw.block with e | e
  · exact hv b (e ▸ hb)
  · have := Option.some.inj (e.symm.trans hb)
    omega
set_option maxHeartbeats 4000000 in
theorem clone_any (w : World) (v : Value) (zs : List Int) (hb : zs.length ≤ 140737488355000) (h : RB w v zs) :
    Calls Try.prog 50 #[v] w fun e w' => ∃ A c, e = .returned (.slice A zs.length c) ∧ OB w' (.slice A zs.length c) zs ∧ Below w.heap.size w w' ∧ Fresh w (.slice A zs.length c) := by
  obtain ⟨A, c, rfl, h1, h2, h3⟩ := h
  obtain ⟨n, hn⟩ : ∃ n, zs.length = n := ⟨_, rfl⟩
  have hR : RB w (.slice A n c) zs := ⟨A, c, by rw [hn], h1, h2, h3⟩
  have HS := Lib.hid hR.holds.2
  rw [hn] at hb h1 h3 ⊢
  have HN := Lib.hid hn
  cases A with
  | none =>
    have hn0 : n = 0 := by
      rcases Nat.eq_zero_or_pos n with h0 | h0
      · exact h0
      · obtain ⟨g, o, e, _⟩ := h3 h0
        cases e
    subst hn0
    have hz : zs = [] := List.length_eq_zero_iff.1 hn
    subst hz
    clear hR h3 hn
    have hnil : ∀ w, (binOp .eql 27 (.slice none 0 c) (.slice none 0 0)).run Try.prog w = .ok (.bool true) w := fun w => by
      rw [show binOp .eql 27 (.slice none 0 c) (.slice none 0 0) = (do return .bool (← Op.equal 27 (.slice none 0 c) (.slice none 0 0))) from rfl]
      simp [run_equal_slice_nil w 27 5 none 0 c Try.underlying27]
    go_enter Try.func50, Try.ntmps50
    go_wp2
    go_ret
    exact ⟨none, 0, rfl, OB.nil w, Below.refl _ _, fun k hk => by simp [Value.ownBlock] at hk⟩
  | some ad =>
    clear hR h3 hn
    have hnil : ∀ w, (binOp .eql 27 (.slice (some ad) n c) (.slice none 0 0)).run Try.prog w = .ok (.bool false) w := fun w => by
      rw [show binOp .eql 27 (.slice (some ad) n c) (.slice none 0 0) = (do return .bool (← Op.equal 27 (.slice (some ad) n c) (.slice none 0 0))) from rfl]
      simp [run_equal_slice_nil w 27 5 (some ad) n c Try.underlying27]
    go_enter Try.func50, Try.ntmps50
    go_wp2_with (at_builtin; refine list_app2 rfl (.tmp 5) (.tmp 6) 27 rfl 5 0 _ 1 1 Try.underlying27 info5 rfl (by decide) (by decide) (.slice (some ⟨w.heap.size, 0, none⟩) 0 0) 0 [] rfl (World.ownsRow_made w #[] 0 (Nat.zero_le _) (Nat.zero_le _) rfl) (some ad) n c (zs.map byteC) rfl (by rw [List.length_map, HN.out, Nat.mul_one]) ?_ (fun u hu => by obtain ⟨_, _, rfl⟩ := List.mem_map.1 hu; rfl) (by omega) (Nat.zero_le _) ?_)
    · intro hp
      obtain ⟨ad', e, h4⟩ := HS.out hp
      exact ⟨ad', e, fun j u hu => (((Below.refl _ w).alloc (Nat.le_refl _) _).cell (World.block_lt_of_cell? w _ (h4 j u hu))).trans (h4 j u hu)⟩
    · intro v9 w9 hown9 hwent9
      obtain ⟨A9, c9, rfl, _⟩ := own_slice hown9
      go_wp2
      go_ret
      have hb9 : Below w.heap.size w w9 := ((Below.refl _ w).alloc (Nat.le_refl _) (.cells #[] 5)).trans (hwent9.kept.below (B := w.heap.size) (fun k hk => Nat.le_of_eq (by simpa [Value.ownBlock] using hk)) (by simp))
      refine ⟨A9, c9, by simp, by unfold OB; rw [HN.out]; simpa using hown9, hb9, ?_⟩
      have := fresh_went (w := w) (fun b hb => Nat.le_of_eq (by simpa [Value.ownBlock] using hb)) (by simp) hwent9
      simpa [Fresh] using this
set_option maxHeartbeats 1000000 in
theorem low_any (w : World) (v : Value) (zs : List Int) (hb : Bytes zs) (hl : zs.length ≤ 8) (h : RB w v zs) : Calls Try.prog 73 #[v] w fun e w' => e = .returned (.int .u64 (val zs)) ∧ w = w' := by
  obtain ⟨A, c, rfl, h1, h2, h3⟩ := h
  obtain ⟨n, hn⟩ : ∃ n, zs.length = n := ⟨_, rfl⟩
  rw [hn] at h1 h3 hl ⊢
  unfold maxLen at h2
  have HA := Lib.hid h3
  have HN := Lib.hid hn
  have HB := Lib.hid hb
  clear h3 hn hb
  go_enter Try.func73, Try.ntmps73
  go_wp2
  go_loop [3, 4] (fun v3 v4 => ∃ j : Nat, j ≤ n ∧ v4 = .int .i64 ((j : Int) - 1) ∧ v3 = .int .u64 (val (zs.drop j))) (fun _ v4 => (intOf v4 + 1).toNat)
  case atStart => exact ⟨n, Nat.le_refl _, rfl, by rw [List.drop_of_length_le (by rw [HN.out]; exact Nat.le_refl _)]; rfl⟩
  case round =>
    obtain ⟨j, hj, rfl, rfl⟩ := hrel
    rcases Nat.eq_zero_or_pos j with rfl | hj0
    · go_wp2
      go_ret
      exact ⟨by simp, rfl⟩
    · obtain ⟨i, rfl⟩ : ∃ i, j = i + 1 := ⟨j - 1, by omega⟩
      rw [show ((i + 1 : Nat) : Int) - 1 = (i : Int) by omega]
      obtain ⟨z, hz⟩ : ∃ z, zs[i]? = some z := ⟨_, List.getElem?_eq_getElem (by rw [HN.out]; omega)⟩
      obtain ⟨g, o, rfl, hc⟩ := HA.out (by omega)
      have y0 := hc i z hz
      have hzb := HB.out z (List.mem_of_getElem? hz)
      obtain ⟨hz0, hz1⟩ := hzb
      have hbd : Bytes (zs.drop (i + 1)) := fun y hy => HB.out y (List.mem_of_mem_drop hy)
      have v0 := val_lo hbd
      have hdr : Hid (zs.drop i = z :: zs.drop (i + 1)) := by
        obtain ⟨hlt, e⟩ := List.getElem?_eq_some_iff.1 hz
        show zs.drop i = z :: zs.drop (i + 1)
        rw [List.drop_eq_getElem_cons hlt, e]
      have v2 : val (zs.drop (i + 1)) < 72057594037927936 := by
        have hle : (zs.drop (i + 1)).length ≤ 7 := by rw [List.length_drop, HN.out]; omega
        exact val_lt hbd hle
      obtain ⟨V, hV⟩ : ∃ V, val (zs.drop (i + 1)) = V := ⟨_, rfl⟩
      rw [hV] at v0 v2 ⊢
      have HV := Lib.hid hV
      have hor := or_byte V z v0 v2 hz0 hz1
      clear hc hz hbd hV
      go_wp2
      exact ⟨⟨i, by omega, rfl, by rw [hdr.out, val, HV.out]; congr 1; omega⟩, by simp [intOf]⟩
theorem pow_byte (i : Nat) : (2 : Int) ^ (8 * i) = 256 ^ i := by rw [Int.pow_mul]; rfl
theorem own_snoc {w wr w9 : World} {A : Option Addr} {m c k : Nat} {zs : List Int} {x b : Int} {v9 : Value} {o : Obj} (hs : w.heap.size ≤ wr.heap.size) (HF : Fresh w (.slice A m c)) (hb : b = x / 256 ^ k % 256) (h : w9.ownsRow 0 5 1 v9 (m + 1) ((zs ++ le k x).map byteC ++ [.int .u8 b])) (hw : Went (wr.alloc o) w9 (.slice A m c) v9 m 1) :
    w9.ownsRow 0 5 1 v9 (m + 1) ((zs ++ le (k + 1) x).map byteC) ∧ Fresh w v9 := by
  refine ⟨?_, fresh_went (w := w) (fun b hb => HF b hb) (by simp; omega) hw⟩
  rw [le_snoc, ← List.append_assoc, List.map_append, ← hb]
  exact h
set_option maxHeartbeats 4000000 in
set_option maxRecDepth 100000 in
theorem put1_any (w : World) (v : Value) (zs : List Int) (x : Int) (h0 : 0 ≤ x) (h1 : x < 256) (hb : zs.length ≤ 140737488354000) (h : RB w v zs) :
    Calls Try.prog 26 #[v, .int .u8 x] w fun e w' => ∃ A c, e = .returned (.slice A (zs.length + 1) c) ∧ OB w' (.slice A (zs.length + 1) c) (zs ++ le 1 x) ∧ Below w.heap.size w w' ∧ Fresh w (.slice A (zs.length + 1) c) := by
  have HC := Lib.hid (clone_any w v zs (by omega) h)
  obtain ⟨n, hn⟩ : ∃ n, zs.length = n := ⟨_, rfl⟩
  rw [hn] at HC hb ⊢
  have HN := Lib.hid hn
  clear h hn
  go_enter Try.func26, Try.ntmps26
  go_wp2_with fail
  (with_reducible refine HC.out.mono ?_)
  rintro e w1 ⟨A1, c1, rfl, o1, b1, f1⟩
  have HO : Hid (w1.ownsRow 0 5 1 (.slice A1 (n + 0) c1) (n + 0) ((zs ++ le 0 x).map byteC)) := by
    have := o1
    unfold OB at this
    rw [HN.out] at this
    show w1.ownsRow 0 5 1 (.slice A1 (n + 0) c1) (n + 0) ((zs ++ le 0 x).map byteC)
    simpa [le] using this
  have HB := Lib.hid b1
  have HF := Lib.hid f1
  clear o1 b1 f1 HC
  go_wp2_with (first | (go_at_call 52; (with_reducible refine (width1 _).mono ?_); rintro e w2 ⟨rfl, rfl⟩) | fail)
  go_loopw [5, 10] (fun v5 v10 wr => ∃ (i : Nat) (A : Option Addr) (c : Nat), i ≤ 1 ∧ v10 = .int .i64 i ∧ v5 = .slice A (n + i) c ∧ Hid (wr.ownsRow 0 5 1 (.slice A (n + i) c) (n + i) ((zs ++ le i x).map byteC)) ∧ Hid (Below w.heap.size w wr) ∧ Hid (Fresh w (.slice A (n + i) c))) (fun _ v10 _ => 1 - (intOf v10).toNat)
  case atStart => exact ⟨0, A1, c1, by decide, rfl, rfl, HO, HB, HF⟩
  case round =>
    clear HO HB HF
    obtain ⟨i, A, c, hi, rfl, rfl, HO, HB, HF⟩ := hrel
    by_cases hlt : i < 1
    · go_wp2_with (at_builtin; refine list_app2 rfl (.tmp 13) (.tmp 20) 27 rfl 5 0 _ 1 1 Try.underlying27 info5 rfl (by decide) (by decide) (.slice A (n + i) c) (n + i) _ rfl (own_keeps HO.out ((Kept.refl _ _).alloc _)) (some ⟨wr.heap.size, 0, none⟩) 1 1 [.int .u8 (x / 2 ^ (8 * i) % 256)] rfl rfl (holds_new _ _ _ _ _ rfl) (by simp [Value.oneCell']) (by omega) (Nat.zero_le _) ?_; intro v9 w9 hown9 hwent9)
      obtain ⟨A9, c9, rfl, _⟩ := own_slice hown9
      obtain ⟨g1, g2⟩ := own_snoc (x := x) HB.out.size HF.out (by rw [pow_byte]) hown9 hwent9
      have hb9 : Hid (Below w.heap.size w w9) := (HB.out.trans (((Below.refl _ wr).alloc (Nat.le_refl _) _).mono HB.out.size)).trans (hwent9.kept.below (fun b hb => HF.out b hb) (by simp; have := HB.out.size; omega))
      exact ⟨⟨i + 1, A9, c9, by omega, by simp, rfl, g1, hb9, g2⟩, by simp [intOf]; omega⟩
    · have : i = 1 := by omega
      subst this
      go_wp2_with fail
      go_ret
      exact ⟨A, c, rfl, (by have := HO.out; unfold OB; rw [List.length_append, le_len, HN.out]; exact this), HB.out, HF.out⟩
set_option maxHeartbeats 4000000 in
set_option maxRecDepth 100000 in
theorem put2_any (w : World) (v : Value) (zs : List Int) (x : Int) (h0 : 0 ≤ x) (h1 : x < 65536) (hb : zs.length ≤ 140737488354000) (h : RB w v zs) :
    Calls Try.prog 25 #[v, .int .u16 x] w fun e w' => ∃ A c, e = .returned (.slice A (zs.length + 2) c) ∧ OB w' (.slice A (zs.length + 2) c) (zs ++ le 2 x) ∧ Below w.heap.size w w' ∧ Fresh w (.slice A (zs.length + 2) c) := by
  have HC := Lib.hid (clone_any w v zs (by omega) h)
  obtain ⟨n, hn⟩ : ∃ n, zs.length = n := ⟨_, rfl⟩
  rw [hn] at HC hb ⊢
  have HN := Lib.hid hn
  clear h hn
  go_enter Try.func25, Try.ntmps25
  go_wp2_with fail
  (with_reducible refine HC.out.mono ?_)
  rintro e w1 ⟨A1, c1, rfl, o1, b1, f1⟩
  have HO : Hid (w1.ownsRow 0 5 1 (.slice A1 (n + 0) c1) (n + 0) ((zs ++ le 0 x).map byteC)) := by
    have := o1
    unfold OB at this
    rw [HN.out] at this
    show w1.ownsRow 0 5 1 (.slice A1 (n + 0) c1) (n + 0) ((zs ++ le 0 x).map byteC)
    simpa [le] using this
  have HB := Lib.hid b1
  have HF := Lib.hid f1
  clear o1 b1 f1 HC
  go_wp2_with (first | (go_at_call 51; (with_reducible refine (width2 _).mono ?_); rintro e w2 ⟨rfl, rfl⟩) | fail)
  go_loopw [5, 10] (fun v5 v10 wr => ∃ (i : Nat) (A : Option Addr) (c : Nat), i ≤ 2 ∧ v10 = .int .i64 i ∧ v5 = .slice A (n + i) c ∧ Hid (wr.ownsRow 0 5 1 (.slice A (n + i) c) (n + i) ((zs ++ le i x).map byteC)) ∧ Hid (Below w.heap.size w wr) ∧ Hid (Fresh w (.slice A (n + i) c))) (fun _ v10 _ => 2 - (intOf v10).toNat)
  case atStart => exact ⟨0, A1, c1, by decide, rfl, rfl, HO, HB, HF⟩
  case round =>
    clear HO HB HF
    obtain ⟨i, A, c, hi, rfl, rfl, HO, HB, HF⟩ := hrel
    by_cases hlt : i < 2
    · go_wp2_with (at_builtin; refine list_app2 rfl (.tmp 13) (.tmp 20) 27 rfl 5 0 _ 1 1 Try.underlying27 info5 rfl (by decide) (by decide) (.slice A (n + i) c) (n + i) _ rfl (own_keeps HO.out ((Kept.refl _ _).alloc _)) (some ⟨wr.heap.size, 0, none⟩) 1 1 [.int .u8 (x / 2 ^ (8 * i) % 256)] rfl rfl (holds_new _ _ _ _ _ rfl) (by simp [Value.oneCell']) (by omega) (Nat.zero_le _) ?_; intro v9 w9 hown9 hwent9)
      obtain ⟨A9, c9, rfl, _⟩ := own_slice hown9
      obtain ⟨g1, g2⟩ := own_snoc (x := x) HB.out.size HF.out (by rw [pow_byte]) hown9 hwent9
      have hb9 : Hid (Below w.heap.size w w9) := (HB.out.trans (((Below.refl _ wr).alloc (Nat.le_refl _) _).mono HB.out.size)).trans (hwent9.kept.below (fun b hb => HF.out b hb) (by simp; have := HB.out.size; omega))
      exact ⟨⟨i + 1, A9, c9, by omega, by simp, rfl, g1, hb9, g2⟩, by simp [intOf]; omega⟩
    · have : i = 2 := by omega
      subst this
      go_wp2_with fail
      go_ret
      exact ⟨A, c, rfl, (by have := HO.out; unfold OB; rw [List.length_append, le_len, HN.out]; exact this), HB.out, HF.out⟩
set_option maxHeartbeats 4000000 in
set_option maxRecDepth 100000 in
theorem put4_any (w : World) (v : Value) (zs : List Int) (x : Int) (h0 : 0 ≤ x) (h1 : x < 4294967296) (hb : zs.length ≤ 140737488354000) (h : RB w v zs) :
    Calls Try.prog 27 #[v, .int .u32 x] w fun e w' => ∃ A c, e = .returned (.slice A (zs.length + 4) c) ∧ OB w' (.slice A (zs.length + 4) c) (zs ++ le 4 x) ∧ Below w.heap.size w w' ∧ Fresh w (.slice A (zs.length + 4) c) := by
  have HC := Lib.hid (clone_any w v zs (by omega) h)
  obtain ⟨n, hn⟩ : ∃ n, zs.length = n := ⟨_, rfl⟩
  rw [hn] at HC hb ⊢
  have HN := Lib.hid hn
  clear h hn
  go_enter Try.func27, Try.ntmps27
  go_wp2_with fail
  (with_reducible refine HC.out.mono ?_)
  rintro e w1 ⟨A1, c1, rfl, o1, b1, f1⟩
  have HO : Hid (w1.ownsRow 0 5 1 (.slice A1 (n + 0) c1) (n + 0) ((zs ++ le 0 x).map byteC)) := by
    have := o1
    unfold OB at this
    rw [HN.out] at this
    show w1.ownsRow 0 5 1 (.slice A1 (n + 0) c1) (n + 0) ((zs ++ le 0 x).map byteC)
    simpa [le] using this
  have HB := Lib.hid b1
  have HF := Lib.hid f1
  clear o1 b1 f1 HC
  go_wp2_with (first | (go_at_call 53; (with_reducible refine (width4 _).mono ?_); rintro e w2 ⟨rfl, rfl⟩) | fail)
  go_loopw [5, 10] (fun v5 v10 wr => ∃ (i : Nat) (A : Option Addr) (c : Nat), i ≤ 4 ∧ v10 = .int .i64 i ∧ v5 = .slice A (n + i) c ∧ Hid (wr.ownsRow 0 5 1 (.slice A (n + i) c) (n + i) ((zs ++ le i x).map byteC)) ∧ Hid (Below w.heap.size w wr) ∧ Hid (Fresh w (.slice A (n + i) c))) (fun _ v10 _ => 4 - (intOf v10).toNat)
  case atStart => exact ⟨0, A1, c1, by decide, rfl, rfl, HO, HB, HF⟩
  case round =>
    clear HO HB HF
    obtain ⟨i, A, c, hi, rfl, rfl, HO, HB, HF⟩ := hrel
    by_cases hlt : i < 4
    · go_wp2_with (at_builtin; refine list_app2 rfl (.tmp 13) (.tmp 20) 27 rfl 5 0 _ 1 1 Try.underlying27 info5 rfl (by decide) (by decide) (.slice A (n + i) c) (n + i) _ rfl (own_keeps HO.out ((Kept.refl _ _).alloc _)) (some ⟨wr.heap.size, 0, none⟩) 1 1 [.int .u8 (x / 2 ^ (8 * i) % 256)] rfl rfl (holds_new _ _ _ _ _ rfl) (by simp [Value.oneCell']) (by omega) (Nat.zero_le _) ?_; intro v9 w9 hown9 hwent9)
      obtain ⟨A9, c9, rfl, _⟩ := own_slice hown9
      obtain ⟨g1, g2⟩ := own_snoc (x := x) HB.out.size HF.out (by rw [pow_byte]) hown9 hwent9
      have hb9 : Hid (Below w.heap.size w w9) := (HB.out.trans (((Below.refl _ wr).alloc (Nat.le_refl _) _).mono HB.out.size)).trans (hwent9.kept.below (fun b hb => HF.out b hb) (by simp; have := HB.out.size; omega))
      exact ⟨⟨i + 1, A9, c9, by omega, by simp, rfl, g1, hb9, g2⟩, by simp [intOf]; omega⟩
    · have : i = 4 := by omega
      subst this
      go_wp2_with fail
      go_ret
      exact ⟨A, c, rfl, (by have := HO.out; unfold OB; rw [List.length_append, le_len, HN.out]; exact this), HB.out, HF.out⟩
set_option maxHeartbeats 4000000 in
set_option maxRecDepth 100000 in
theorem put8_any (w : World) (v : Value) (zs : List Int) (x : Int) (h0 : 0 ≤ x) (h1 : x < 18446744073709551616) (hb : zs.length ≤ 140737488354000) (h : RB w v zs) :
    Calls Try.prog 55 #[v, .int .u64 x] w fun e w' => ∃ A c, e = .returned (.slice A (zs.length + 8) c) ∧ OB w' (.slice A (zs.length + 8) c) (zs ++ le 8 x) ∧ Below w.heap.size w w' ∧ Fresh w (.slice A (zs.length + 8) c) := by
  have HC := Lib.hid (clone_any w v zs (by omega) h)
  obtain ⟨n, hn⟩ : ∃ n, zs.length = n := ⟨_, rfl⟩
  rw [hn] at HC hb ⊢
  have HN := Lib.hid hn
  clear h hn
  go_enter Try.func55, Try.ntmps55
  go_wp2_with fail
  (with_reducible refine HC.out.mono ?_)
  rintro e w1 ⟨A1, c1, rfl, o1, b1, f1⟩
  have HO : Hid (w1.ownsRow 0 5 1 (.slice A1 (n + 0) c1) (n + 0) ((zs ++ le 0 x).map byteC)) := by
    have := o1
    unfold OB at this
    rw [HN.out] at this
    show w1.ownsRow 0 5 1 (.slice A1 (n + 0) c1) (n + 0) ((zs ++ le 0 x).map byteC)
    simpa [le] using this
  have HB := Lib.hid b1
  have HF := Lib.hid f1
  clear o1 b1 f1 HC
  go_wp2_with (first | (go_at_call 67; (with_reducible refine (width8 _).mono ?_); rintro e w2 ⟨rfl, rfl⟩) | fail)
  go_loopw [5, 10] (fun v5 v10 wr => ∃ (i : Nat) (A : Option Addr) (c : Nat), i ≤ 8 ∧ v10 = .int .i64 i ∧ v5 = .slice A (n + i) c ∧ Hid (wr.ownsRow 0 5 1 (.slice A (n + i) c) (n + i) ((zs ++ le i x).map byteC)) ∧ Hid (Below w.heap.size w wr) ∧ Hid (Fresh w (.slice A (n + i) c))) (fun _ v10 _ => 8 - (intOf v10).toNat)
  case atStart => exact ⟨0, A1, c1, by decide, rfl, rfl, HO, HB, HF⟩
  case round =>
    clear HO HB HF
    obtain ⟨i, A, c, hi, rfl, rfl, HO, HB, HF⟩ := hrel
    by_cases hlt : i < 8
    · go_wp2_with (at_builtin; refine list_app2 rfl (.tmp 13) (.tmp 19) 27 rfl 5 0 _ 1 1 Try.underlying27 info5 rfl (by decide) (by decide) (.slice A (n + i) c) (n + i) _ rfl (own_keeps HO.out ((Kept.refl _ _).alloc _)) (some ⟨wr.heap.size, 0, none⟩) 1 1 [.int .u8 (x / 2 ^ (8 * i) % 256)] rfl rfl (holds_new _ _ _ _ _ rfl) (by simp [Value.oneCell']) (by omega) (Nat.zero_le _) ?_; intro v9 w9 hown9 hwent9)
      obtain ⟨A9, c9, rfl, _⟩ := own_slice hown9
      obtain ⟨g1, g2⟩ := own_snoc (x := x) HB.out.size HF.out (by rw [pow_byte]) hown9 hwent9
      have hb9 : Hid (Below w.heap.size w w9) := (HB.out.trans (((Below.refl _ wr).alloc (Nat.le_refl _) _).mono HB.out.size)).trans (hwent9.kept.below (fun b hb => HF.out b hb) (by simp; have := HB.out.size; omega))
      exact ⟨⟨i + 1, A9, c9, by omega, by simp, rfl, g1, hb9, g2⟩, by simp [intOf]; omega⟩
    · have : i = 8 := by omega
      subst this
      go_wp2_with fail
      go_ret
      exact ⟨A, c, rfl, (by have := HO.out; unfold OB; rw [List.length_append, le_len, HN.out]; exact this), HB.out, HF.out⟩
end Go.Proofs.Ytfpkdbogapmhmaa.O

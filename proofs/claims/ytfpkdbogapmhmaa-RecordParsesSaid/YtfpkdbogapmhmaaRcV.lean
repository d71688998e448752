/- Record: the document's within, signed, right, capped (written by gen_rcv.py). -/
import Derived.Test.YtfpkdbogapmhmaaRcU0
namespace Go.Proofs.Ytfpkdbogapmhmaa.O
open Go.RowKit Go.Proofs.Ytfpkdbogapmhmaa.Mem
set_option linter.unusedVariables false
set_option linter.unusedSimpArgs false
set_option maxHeartbeats 4000000 in
theorem rin_any (w : World) (n lo hi : Int) : Calls Try.prog 42 #[.int .i64 n, .int .i64 lo, .int .i64 hi] w fun e w' => e = .returned (.bool (decide (lo ≤ n ∧ n ≤ hi))) ∧ w = w' := by
  by_cases h1 : lo ≤ n
  · by_cases h2 : n ≤ hi
    · rw [decide_eq_true (And.intro h1 h2)]
      go_enter Try.func42, Try.ntmps42
      go_wp2
      go_ret
      exact ⟨rfl, rfl⟩
    · rw [decide_eq_false (fun h => h2 h.2)]
      go_enter Try.func42, Try.ntmps42
      go_wp2
      go_ret
      exact ⟨rfl, rfl⟩
  · rw [decide_eq_false (fun h => h1 h.1)]
    go_enter Try.func42, Try.ntmps42
    go_wp2
    go_ret
    exact ⟨rfl, rfl⟩
theorem rin_t (w : World) {n lo hi : Int} (h : lo ≤ n ∧ n ≤ hi) : Calls Try.prog 42 #[.int .i64 n, .int .i64 lo, .int .i64 hi] w fun e w' => e = .returned (.bool true) ∧ w = w' := by
  have := rin_any w n lo hi
  rwa [decide_eq_true h] at this
theorem rin_f (w : World) {n lo hi : Int} (h : ¬ (lo ≤ n ∧ n ≤ hi)) : Calls Try.prog 42 #[.int .i64 n, .int .i64 lo, .int .i64 hi] w fun e w' => e = .returned (.bool false) ∧ w = w' := by
  have := rin_any w n lo hi
  rwa [decide_eq_false h] at this
theorem sig_any (w : World) (n : Int) : Calls Try.prog 57 #[.int .i64 n] w fun e w' => e = .returned (.bool (decide (-2147483648 ≤ n ∧ n ≤ 2147483647))) ∧ w = w' := by
  have H := Lib.hid (rin_any w n (-2147483648) 2147483647)
  obtain ⟨b, hb⟩ : ∃ b, decide (-2147483648 ≤ n ∧ n ≤ 2147483647) = b := ⟨_, rfl⟩
  rw [hb] at H ⊢
  clear hb
  go_enter Try.func57, Try.ntmps57
  go_wp2_with (first | (go_at_call 42; (with_reducible refine H.out.mono ?_); rintro e w1 ⟨rfl, rfl⟩) | fail)
  go_ret
  exact ⟨rfl, rfl⟩
theorem sig_t (w : World) {n : Int} (h : -2147483648 ≤ n ∧ n ≤ 2147483647) : Calls Try.prog 57 #[.int .i64 n] w fun e w' => e = .returned (.bool true) ∧ w = w' := by
  have := sig_any w n
  rwa [decide_eq_true h] at this
theorem sig_f (w : World) {n : Int} (h : ¬ (-2147483648 ≤ n ∧ n ≤ 2147483647)) : Calls Try.prog 57 #[.int .i64 n] w fun e w' => e = .returned (.bool false) ∧ w = w' := by
  have := sig_any w n
  rwa [decide_eq_false h] at this
set_option maxHeartbeats 4000000 in
set_option maxRecDepth 100000 in
theorem right_any (w : World) (c : Cl) (D G : Value) (hD : SL D c.da.length) (hG : IB w G c.gi) :
    Calls Try.prog 31 #[cv c D G] w fun e w' => e = .returned (.bool (decide (wide1 c ∧ wide2 c ∧ wide3 c))) ∧ Below w.heap.size w w' := by
  obtain ⟨TT, hT⟩ : ∃ b, decide (wide1 c ∧ wide2 c ∧ wide3 c) = b := ⟨_, rfl⟩
  rw [hT]
  have HT := Lib.hid hT
  obtain ⟨op, by', sz, obj, hi, lo, gv, rt, off, n, da, ix, gi⟩ := c
  obtain ⟨nd, hnd⟩ : ∃ nd, da.length = nd := ⟨_, rfl⟩
  obtain ⟨ng, hng⟩ : ∃ ng, gi.length = ng := ⟨_, rfl⟩
  obtain ⟨Ag, cg, rfl, hgc, hgm, hgr⟩ := hG
  obtain ⟨Ad, cd, rfl⟩ := hD
  unfold cv cells
  simp only [hnd, hng] at hgc hgr ⊢
  have hgl : ng ≤ 9223372036854775807 := by unfold maxLen at hgm; omega
  have HGR := Lib.hid hgr
  have HNG := Lib.hid hng
  have HND := Lib.hid hnd
  have HBX := Lib.hid ((Below.refl w.heap.size w).alloc (Nat.le_refl _) (.cells #[.int .i64 op, .int .i64 by', .int .i64 sz, .int .i64 obj, .int .u64 hi, .int .u64 lo, .bool gv, .int .i64 rt, .int .i64 off, .int .i64 n, .slice Ad nd cd, .int .i64 ix, .slice Ag ng cg] 30))
  clear hT hnd hng hgr hgm hgc
  go_enter Try.func31, Try.ntmps31
  go_wp2_with fail
  go_loopw [3] (fun v3 we => ∃ i : Nat, i ≤ ng ∧ v3 = .int .i64 i ∧ Hid (∀ g ∈ gi.take i, 0 ≤ g ∧ g ≤ 65535) ∧ we = (w.alloc (.cells #[.int .i64 op, .int .i64 by', .int .i64 sz, .int .i64 obj, .int .u64 hi, .int .u64 lo, .bool gv, .int .i64 rt, .int .i64 off, .int .i64 n, .slice Ad nd cd, .int .i64 ix, .slice Ag ng cg] 30))) (fun v3 _ => ng - (intOf v3).toNat)
  case atStart => exact ⟨0, by omega, rfl, Lib.hid (by simp), rfl⟩
  case round =>
    obtain ⟨i, hile, rfl, HI, rfl⟩ := hrel
    by_cases hlt : i < ng
    · have hlt' : (i : Int) < (ng : Int) := by omega
      obtain ⟨u, hu⟩ : ∃ u, gi[i]? = some u := ⟨_, List.getElem?_eq_getElem (by show i < gi.length; rw [HNG.out]; exact hlt)⟩
      have HU := Lib.hid hu
      obtain ⟨g0, o0, hA, hc⟩ := HGR.out (by omega)
      subst hA
      have hy := hc i u hu
      have hy2 := HBX.out.cell (World.block_lt_of_cell? w _ hy)
      rw [hy] at hy2
      clear hc hu hy
      by_cases h5 : 0 ≤ u ∧ u ≤ 65535
      · go_wp2_with (first | (go_at_call 42; first | (refine (rin_t _ (by first | assumption | omega)).mono ?_; rintro e w' ⟨rfl, rfl⟩) | (refine (rin_f _ (by first | assumption | omega)).mono ?_; rintro e w' ⟨rfl, rfl⟩)) | (go_at_call 57; first | (refine (sig_t _ (by assumption)).mono ?_; rintro e w' ⟨rfl, rfl⟩) | (refine (sig_f _ (by assumption)).mono ?_; rintro e w' ⟨rfl, rfl⟩)) | fail)
        exact ⟨⟨i + 1, by omega, rfl, Lib.hid (fun g hg => by rw [List.take_add_one, HU.out] at hg; rcases List.mem_append.1 hg with hg | hg; exact HI.out g hg; obtain rfl := List.mem_singleton.1 hg; exact h5), by trivial⟩, by simp [intOf]; omega⟩
      · obtain rfl : TT = false := by rw [← HT.out]; exact decide_eq_false (fun h => h5 (h.2.2 u (List.mem_of_getElem? HU.out)))
        go_wp2_with (first | (go_at_call 42; first | (refine (rin_t _ (by first | assumption | omega)).mono ?_; rintro e w' ⟨rfl, rfl⟩) | (refine (rin_f _ (by first | assumption | omega)).mono ?_; rintro e w' ⟨rfl, rfl⟩)) | (go_at_call 57; first | (refine (sig_t _ (by assumption)).mono ?_; rintro e w' ⟨rfl, rfl⟩) | (refine (sig_f _ (by assumption)).mono ?_; rintro e w' ⟨rfl, rfl⟩)) | fail)
        go_ret
        exact ⟨rfl, HBX.out⟩
    · have hin : ng = i := by omega
      subst hin
      have H3 : Hid (wide3 (⟨op, by', sz, obj, hi, lo, gv, rt, off, n, da, ix, gi⟩ : Cl)) := by
        show ∀ g ∈ gi, 0 ≤ g ∧ g ≤ 65535
        have h := HI.out
        rwa [List.take_of_length_le (by rw [HNG.out]; exact Nat.le_refl _)] at h
      go_upto_region 6 with fail
      go_cut [45] from 18 to 45 (fun v45 wc => ∃ p, v45 = .bool p ∧ Hid (p = false ↔ wide1 (⟨op, by', sz, obj, hi, lo, gv, rt, off, n, da, ix, gi⟩ : Cl)) ∧ wc = (w.alloc (.cells #[.int .i64 op, .int .i64 by', .int .i64 sz, .int .i64 obj, .int .u64 hi, .int .u64 lo, .bool gv, .int .i64 rt, .int .i64 off, .int .i64 n, .slice Ad nd cd, .int .i64 ix, .slice Ag ng cg] 30)))
      case first =>
        by_cases h0 : 1 ≤ op ∧ op ≤ 10
        rotate_left
        · skip
          go_wp2_with (first | (go_at_call 42; first | (refine (rin_t _ (by first | assumption | omega)).mono ?_; rintro e w' ⟨rfl, rfl⟩) | (refine (rin_f _ (by first | assumption | omega)).mono ?_; rintro e w' ⟨rfl, rfl⟩)) | (go_at_call 57; first | (refine (sig_t _ (by assumption)).mono ?_; rintro e w' ⟨rfl, rfl⟩) | (refine (sig_f _ (by assumption)).mono ?_; rintro e w' ⟨rfl, rfl⟩)) | fail)
          go_meet
          exact ⟨true, by first | rfl | (simp; done), Lib.hid ⟨fun e => (by cases e), fun e => absurd e.1 h0⟩, rfl⟩
        by_cases h1 : 0 ≤ by' ∧ by' ≤ 65535
        rotate_left
        · skip
          go_wp2_with (first | (go_at_call 42; first | (refine (rin_t _ (by first | assumption | omega)).mono ?_; rintro e w' ⟨rfl, rfl⟩) | (refine (rin_f _ (by first | assumption | omega)).mono ?_; rintro e w' ⟨rfl, rfl⟩)) | (go_at_call 57; first | (refine (sig_t _ (by assumption)).mono ?_; rintro e w' ⟨rfl, rfl⟩) | (refine (sig_f _ (by assumption)).mono ?_; rintro e w' ⟨rfl, rfl⟩)) | fail)
          go_meet
          exact ⟨true, by first | rfl | (simp; done), Lib.hid ⟨fun e => (by cases e), fun e => absurd e.2.1 h1⟩, rfl⟩
        by_cases h2 : -2147483648 ≤ sz ∧ sz ≤ 2147483647
        rotate_left
        · skip
          go_wp2_with (first | (go_at_call 42; first | (refine (rin_t _ (by first | assumption | omega)).mono ?_; rintro e w' ⟨rfl, rfl⟩) | (refine (rin_f _ (by first | assumption | omega)).mono ?_; rintro e w' ⟨rfl, rfl⟩)) | (go_at_call 57; first | (refine (sig_t _ (by assumption)).mono ?_; rintro e w' ⟨rfl, rfl⟩) | (refine (sig_f _ (by assumption)).mono ?_; rintro e w' ⟨rfl, rfl⟩)) | fail)
          go_meet
          exact ⟨true, by first | rfl | (simp; done), Lib.hid ⟨fun e => (by cases e), fun e => absurd e.2.2.1 h2⟩, rfl⟩
        by_cases h3 : -2147483648 ≤ off ∧ off ≤ 2147483647
        rotate_left
        · skip
          go_wp2_with (first | (go_at_call 42; first | (refine (rin_t _ (by first | assumption | omega)).mono ?_; rintro e w' ⟨rfl, rfl⟩) | (refine (rin_f _ (by first | assumption | omega)).mono ?_; rintro e w' ⟨rfl, rfl⟩)) | (go_at_call 57; first | (refine (sig_t _ (by assumption)).mono ?_; rintro e w' ⟨rfl, rfl⟩) | (refine (sig_f _ (by assumption)).mono ?_; rintro e w' ⟨rfl, rfl⟩)) | fail)
          go_meet
          exact ⟨true, by first | rfl | (simp; done), Lib.hid ⟨fun e => (by cases e), fun e => absurd e.2.2.2.1 h3⟩, rfl⟩
        by_cases h4 : -2147483648 ≤ n ∧ n ≤ 2147483647
        rotate_left
        · skip
          go_wp2_with (first | (go_at_call 42; first | (refine (rin_t _ (by first | assumption | omega)).mono ?_; rintro e w' ⟨rfl, rfl⟩) | (refine (rin_f _ (by first | assumption | omega)).mono ?_; rintro e w' ⟨rfl, rfl⟩)) | (go_at_call 57; first | (refine (sig_t _ (by assumption)).mono ?_; rintro e w' ⟨rfl, rfl⟩) | (refine (sig_f _ (by assumption)).mono ?_; rintro e w' ⟨rfl, rfl⟩)) | fail)
          go_meet
          exact ⟨true, by first | rfl | (simp; done), Lib.hid ⟨fun e => (by cases e), fun e => absurd e.2.2.2.2 h4⟩, rfl⟩
        go_wp2_with (first | (go_at_call 42; first | (refine (rin_t _ (by first | assumption | omega)).mono ?_; rintro e w' ⟨rfl, rfl⟩) | (refine (rin_f _ (by first | assumption | omega)).mono ?_; rintro e w' ⟨rfl, rfl⟩)) | (go_at_call 57; first | (refine (sig_t _ (by assumption)).mono ?_; rintro e w' ⟨rfl, rfl⟩) | (refine (sig_f _ (by assumption)).mono ?_; rintro e w' ⟨rfl, rfl⟩)) | fail)
        go_meet
        exact ⟨false, by first | rfl | (simp; done), Lib.hid ⟨fun _ => ⟨h0, h1, h2, h3, h4⟩, fun _ => rfl⟩, rfl⟩
      obtain ⟨p, rfl, HP, rfl⟩ := hcut
      cases p with
      | true =>
        obtain rfl : TT = false := by rw [← HT.out]; exact decide_eq_false (fun h => by have h2 := HP.out.2 h.1; cases h2)
        go_wp2
        go_ret
        exact ⟨rfl, HBX.out⟩
      | false =>
        have H1 := Lib.hid (HP.out.1 rfl)
        by_cases h0 : 0 ≤ obj ∧ obj ≤ 4611686018427387904
        rotate_left
        · skip
          obtain rfl : TT = false := by rw [← HT.out]; exact decide_eq_false (fun h => absurd h.2.1.1 h0)
          go_wp2_with (first | (go_at_call 42; first | (refine (rin_t _ (by first | assumption | omega)).mono ?_; rintro e w' ⟨rfl, rfl⟩) | (refine (rin_f _ (by first | assumption | omega)).mono ?_; rintro e w' ⟨rfl, rfl⟩)) | (go_at_call 57; first | (refine (sig_t _ (by assumption)).mono ?_; rintro e w' ⟨rfl, rfl⟩) | (refine (sig_f _ (by assumption)).mono ?_; rintro e w' ⟨rfl, rfl⟩)) | fail)
          go_ret
          exact ⟨by first | rfl | exact ret_bool rfl (by first | rfl | (simp; done) | (simp; omega)), HBX.out⟩
        by_cases h1 : 0 ≤ rt ∧ rt ≤ 255
        rotate_left
        · skip
          obtain rfl : TT = false := by rw [← HT.out]; exact decide_eq_false (fun h => absurd h.2.1.2.1 h1)
          go_wp2_with (first | (go_at_call 42; first | (refine (rin_t _ (by first | assumption | omega)).mono ?_; rintro e w' ⟨rfl, rfl⟩) | (refine (rin_f _ (by first | assumption | omega)).mono ?_; rintro e w' ⟨rfl, rfl⟩)) | (go_at_call 57; first | (refine (sig_t _ (by assumption)).mono ?_; rintro e w' ⟨rfl, rfl⟩) | (refine (sig_f _ (by assumption)).mono ?_; rintro e w' ⟨rfl, rfl⟩)) | fail)
          go_ret
          exact ⟨by first | rfl | exact ret_bool rfl (by first | rfl | (simp; done) | (simp; omega)), HBX.out⟩
        by_cases h2 : 0 ≤ ix ∧ ix ≤ 65535
        rotate_left
        · skip
          obtain rfl : TT = false := by rw [← HT.out]; exact decide_eq_false (fun h => absurd h.2.1.2.2.1 h2)
          go_wp2_with (first | (go_at_call 42; first | (refine (rin_t _ (by first | assumption | omega)).mono ?_; rintro e w' ⟨rfl, rfl⟩) | (refine (rin_f _ (by first | assumption | omega)).mono ?_; rintro e w' ⟨rfl, rfl⟩)) | (go_at_call 57; first | (refine (sig_t _ (by assumption)).mono ?_; rintro e w' ⟨rfl, rfl⟩) | (refine (sig_f _ (by assumption)).mono ?_; rintro e w' ⟨rfl, rfl⟩)) | fail)
          go_ret
          exact ⟨by first | rfl | exact ret_bool rfl (by first | rfl | (simp; done) | (simp; omega)), HBX.out⟩
        by_cases h3 : ng ≤ 255
        rotate_left
        · have hz3 : ¬ (((ng : Nat) : Int) ≤ 255) := by omega
          obtain rfl : TT = false := by rw [← HT.out]; exact decide_eq_false (fun h => absurd h.2.1.2.2.2.1 (by show ¬ gi.length ≤ 255; rw [HNG.out]; exact h3))
          go_wp2_with (first | (go_at_call 42; first | (refine (rin_t _ (by first | assumption | omega)).mono ?_; rintro e w' ⟨rfl, rfl⟩) | (refine (rin_f _ (by first | assumption | omega)).mono ?_; rintro e w' ⟨rfl, rfl⟩)) | (go_at_call 57; first | (refine (sig_t _ (by assumption)).mono ?_; rintro e w' ⟨rfl, rfl⟩) | (refine (sig_f _ (by assumption)).mono ?_; rintro e w' ⟨rfl, rfl⟩)) | fail)
          go_ret
          exact ⟨by first | rfl | exact ret_bool rfl (by first | rfl | (simp; done) | (simp; omega)), HBX.out⟩
        have hy3 : ((ng : Nat) : Int) ≤ 255 := by omega
        by_cases h4 : nd ≤ 1025
        rotate_left
        · have hz4 : ¬ (((nd : Nat) : Int) ≤ 1025) := by omega
          obtain rfl : TT = false := by rw [← HT.out]; exact decide_eq_false (fun h => absurd h.2.1.2.2.2.2 (by show ¬ da.length ≤ 1025; rw [HND.out]; exact h4))
          go_wp2_with (first | (go_at_call 42; first | (refine (rin_t _ (by first | assumption | omega)).mono ?_; rintro e w' ⟨rfl, rfl⟩) | (refine (rin_f _ (by first | assumption | omega)).mono ?_; rintro e w' ⟨rfl, rfl⟩)) | (go_at_call 57; first | (refine (sig_t _ (by assumption)).mono ?_; rintro e w' ⟨rfl, rfl⟩) | (refine (sig_f _ (by assumption)).mono ?_; rintro e w' ⟨rfl, rfl⟩)) | fail)
          go_ret
          exact ⟨by first | rfl | exact ret_bool rfl (by first | rfl | (simp; done) | (simp; omega)), HBX.out⟩
        have hy4 : ((nd : Nat) : Int) ≤ 1025 := by omega
        obtain rfl : TT = true := by rw [← HT.out]; exact decide_eq_true ⟨H1.out, ⟨h0, h1, h2, by show gi.length ≤ 255; rw [HNG.out]; exact h3, by show da.length ≤ 1025; rw [HND.out]; exact h4⟩, H3.out⟩
        go_wp2_with (first | (go_at_call 42; first | (refine (rin_t _ (by first | assumption | omega)).mono ?_; rintro e w' ⟨rfl, rfl⟩) | (refine (rin_f _ (by first | assumption | omega)).mono ?_; rintro e w' ⟨rfl, rfl⟩)) | (go_at_call 57; first | (refine (sig_t _ (by assumption)).mono ?_; rintro e w' ⟨rfl, rfl⟩) | (refine (sig_f _ (by assumption)).mono ?_; rintro e w' ⟨rfl, rfl⟩)) | fail)
        go_ret
        exact ⟨by first | rfl | exact ret_bool rfl (by first | rfl | (simp; done) | (simp; omega)), HBX.out⟩
theorem rput_k' (w : World) (v : Value) (zs : List Int) (x : Int) (n : Nat) (K : Int) (hK : (n : Int) = K) (hx0 : -9223372036854775808 ≤ x) (hx1 : x ≤ 9223372036854775807) (hn : n ≤ 8) (hl : zs.length ≤ 140737488354000) (h : OB w v zs) :
    Calls Try.prog 33 #[v, .int .i64 x, .int .i64 K] w fun e w' => GK w v (zs ++ le n x) e w' := hK ▸ rput_k w v zs x n hx0 hx1 hn hl h
set_option maxHeartbeats 4000000 in
set_option maxRecDepth 100000 in
theorem capped_k (w : World) (v : Value) (zs : List Int) (obj hi lo : Int) (h0 : 0 ≤ obj) (h1 : obj ≤ 4611686018427387904) (hh : U64 hi) (hl : U64 lo) (hlen : zs.length ≤ 140737488350000) (h : OB w v zs) :
    Calls Try.prog 34 #[v, .agg #[.int .i64 obj, .int .u64 hi, .int .u64 lo]] w fun e w' => GK w v (zs ++ capB obj hi lo) e w' := by
  have hbx : Below w.heap.size w (w.alloc (.cells #[.int .i64 obj, .int .u64 hi, .int .u64 lo] 26)) := (Below.refl _ w).alloc (Nat.le_refl _) _
  have P1 := Lib.hid (rput_k' (w.alloc (.cells #[.int .i64 obj, .int .u64 hi, .int .u64 lo] 26)) v zs obj 8 8 rfl (by omega) (by omega) (by omega) (by omega) (h.below hbx))
  have P2 := Lib.hid (fun a => bytes01_any a hi lo hh hl)
  obtain ⟨B, hB⟩ : ∃ B, w.heap.size = B := ⟨_, rfl⟩
  have HRW : Hid ((w.alloc (.cells #[.int .i64 obj, .int .u64 hi, .int .u64 lo] 26)).heap[B]? = some (.cells #[.int .i64 obj, .int .u64 hi, .int .u64 lo] 26)) := Lib.hid (row_new hB.symm)
  have HBL : Hid (∀ b, v.ownBlock = some b → b ≠ B) := Lib.hid (fun b hb => by have := own_lt h b hb; omega)
  have HS : Hid ((w.alloc (.cells #[.int .i64 obj, .int .u64 hi, .int .u64 lo] 26)).heap.size = B + 1) := Lib.hid (by simp [hB])
  obtain ⟨m, hm⟩ : ∃ m, zs.length = m := ⟨_, rfl⟩
  have HM := Lib.hid hm
  have HBX := Lib.hid hbx
  have HBB := Lib.hid hB
  have HL := Lib.hid hlen
  clear h0 h1 hh hl h hbx hlen hm
  go_enter Try.func34, Try.ntmps34
  go_upto_region 2 with (first | (go_at_call 33; (with_reducible refine P1.out.mono ?_); rintro e w1 ⟨v1, rfl, ho, hk1, hf1⟩; have HO := Lib.hid ho; have HK1 := Lib.hid hk1; have HF1 := Lib.hid hf1; have hrow := hk1.row HRW.out (fun e => HBL.out _ e rfl); have y1 := cell_row (j := 1) hrow rfl; have y2 := cell_row (j := 2) hrow rfl; clear ho hk1 hf1 hrow) | fail)
  go_wp2_with (first | (go_at_call 35; (with_reducible refine (P2.out _).mono ?_); rintro e w2 ⟨u, rfl, hu, hb2, hfu⟩; obtain ⟨Au, nu, cu, rfl⟩ : ∃ A n c, u = .slice A n c := (by obtain ⟨A, c, e, _⟩ := own_slice hu; exact ⟨_, _, _, e⟩); have HU := Lib.hid hu; have HB2 := Lib.hid hb2; have HNU : Hid ((wordB hi lo).length = nu) := Lib.hid (by obtain ⟨A, c, e, _⟩ := hu.reads; cases e; rfl); clear hu hb2 hfu) | (at_builtin; refine list_app2 rfl (.tmp 9) (.tmp 12) 27 rfl 5 0 _ 1 1 Try.underlying27 info5 rfl (by decide) (by decide) v1 (zs ++ le 8 obj).length _ rfl (own_keeps HO.out (Kept.of_below HB2.out)) Au nu cu ((wordB hi lo).map byteC) rfl (by rw [List.length_map, HNU.out, Nat.mul_one]) (HU.out.reads.holds.2) one8 (by have h1 := HNU.out; have h2 := HM.out; have h3 := HL.out; simp [le_len, wordB] at *; omega) (Nat.zero_le _) ?_; intro v9 w9 hown9 hwent9; have HO9 := Lib.hid hown9; have HW9 := Lib.hid hwent9; clear hown9 hwent9) | fail)
  go_ret
  have hkb : Kept (fun b => v.ownBlock = some b) w w2 := ((Kept.of_below (S := fun b => v.ownBlock = some b) HBX.out).trans HK1.out (fun b hb => .inl hb)).then_below HB2.out
  have hv1 : ∀ b, v1.ownBlock = some b → v.ownBlock = some b ∨ w.heap.size ≤ b := fun b hb => (HF1.out b hb).elim .inl (fun h => .inr (Nat.le_trans HBX.out.size h))
  refine ⟨_, rfl, ?_, hkb.trans HW9.out.kept (fun b hb => hv1 b hb), went_or (p := fun b => v.ownBlock = some b ∨ w.heap.size ≤ b) hv1 (.inr hkb.size) HW9.out⟩
  have h9 := HO9.out
  unfold OB
  rw [show zs ++ capB obj hi lo = (zs ++ le 8 obj) ++ wordB hi lo by rw [capB, List.append_assoc], show ((zs ++ le 8 obj) ++ wordB hi lo).length = (zs ++ le 8 obj).length + nu by rw [List.length_append (bs := wordB hi lo), HNU.out], show ((zs ++ le 8 obj) ++ wordB hi lo).map byteC = (zs ++ le 8 obj).map byteC ++ (wordB hi lo).map byteC from List.map_append]
  exact h9
end Go.Proofs.Ytfpkdbogapmhmaa.O

/- Record: formed tells whether a call has a form (written by gen_rcb.py). -/
import Derived.Test.YtfpkdbogapmhmaaRcA
import Derived.Deep.CutRange
import Derived.Deep.CutBlock
namespace Go.Proofs.Ytfpkdbogapmhmaa.O
open Go.RowKit Go.Proofs.Ytfpkdbogapmhmaa.Mem
set_option linter.unusedVariables false
theorem within_t (w : World) {n lo hi : Int} (h : lo ≤ n ∧ n ≤ hi) : Calls Try.prog 47 #[.int .i64 n, .int .i64 lo, .int .i64 hi] w fun e w' => e = .returned (.bool true) ∧ w = w' := by
  have := within_any w n lo hi
  rwa [decide_eq_true h] at this
theorem within_f (w : World) {n lo hi : Int} (h : ¬ (lo ≤ n ∧ n ≤ hi)) : Calls Try.prog 47 #[.int .i64 n, .int .i64 lo, .int .i64 hi] w fun e w' => e = .returned (.bool false) ∧ w = w' := by
  have := within_any w n lo hi
  rwa [decide_eq_false h] at this
/-- A list of numbers, read. -/
def numC (b : Int) : Value := .int .i64 b
def IB (w : World) (v : Value) (zs : List Int) : Prop :=
  ∃ A c, v = .slice A zs.length c ∧ zs.length ≤ c ∧ c ≤ maxLen ∧ (0 < zs.length → ∃ g o, A = some ⟨g, o, none⟩ ∧ ∀ j u, zs[j]? = some u → w.cell? ⟨g, o + j, none⟩ = some (.int .i64 u))
theorem IB.below {w w' : World} {v : Value} {l : List Int} (h : IB w v l) (hb : Below w.heap.size w w') : IB w' v l := by
  obtain ⟨A, c, h1, h2, h3, h4⟩ := h
  refine ⟨A, c, h1, h2, h3, fun hne => ?_⟩
  obtain ⟨b, o, e, h5⟩ := h4 hne
  exact ⟨b, o, e, fun j u hu => (hb.cell (World.block_lt_of_cell? w _ (h5 j u hu))).trans (h5 j u hu)⟩
theorem IB.sl {w : World} {v : Value} {l : List Int} (h : IB w v l) : SL v l.length := by obtain ⟨A, c, h1, _⟩ := h; exact ⟨A, c, h1⟩
theorem RB.sl {w : World} {v : Value} {l : List Int} (h : RB w v l) : SL v l.length := by obtain ⟨A, c, h1, _⟩ := h; exact ⟨A, c, h1⟩
theorem zero_cl (w : World) (c : Cl) (D G : Value) (hD : SL D c.da.length) (hG : SL G c.gi.length) : Calls Try.prog 48 #[cv c D G] w fun e w' => e = .returned (.bool (decide (c = zc))) ∧ Below w.heap.size w w' := by
  obtain ⟨op, by', sz, obj, hi, lo, gv, rt, off, n, da, ix, gi⟩ := c
  obtain ⟨Ad, cd, rfl⟩ := hD
  obtain ⟨Ag, cg, rfl⟩ := hG
  refine zero_any w op by' sz obj hi lo gv rt off n ix Ad Ag _ cd _ cg _ ?_
  simp [zc, and_assoc]

set_option maxHeartbeats 4000000 in
set_option maxRecDepth 100000 in
theorem formed_any (w : World) (c : Cl) (D G : Value) (hD : SL D c.da.length) (hG : IB w G c.gi) (hgl : c.gi.length ≤ 9223372036854775807) :
    Calls Try.prog 24 #[cv c D G] w fun e w' => e = .returned (.bool (decide (form c))) ∧ Below w.heap.size w w' := by
  have hG' := hG.sl
  have HRR := rest_any
  obtain ⟨op, by', sz, obj, hi, lo, gv, rt, off, n, da, ix, gi⟩ := c
  obtain ⟨nd, hnd⟩ : ∃ nd, da.length = nd := ⟨_, rfl⟩
  obtain ⟨ng, hng⟩ : ∃ ng, gi.length = ng := ⟨_, rfl⟩
  obtain ⟨Ag, cg, rfl, hgc, hgm, hgr⟩ := hG
  obtain ⟨Ad, cd, rfl⟩ := hD
  have HR := Lib.hid (fun W => rest_any W (⟨op, by', sz, obj, hi, lo, gv, rt, off, n, da, ix, gi⟩ : Cl) (.slice Ad da.length cd) (.slice Ag gi.length cg) ⟨_, _, rfl⟩ ⟨_, _, rfl⟩)
  have HGR := Lib.hid hgr
  have HNG := Lib.hid hng
  have HND := Lib.hid hnd
  obtain ⟨FM, hFM⟩ : ∃ b, decide (form (⟨op, by', sz, obj, hi, lo, gv, rt, off, n, da, ix, gi⟩ : Cl)) = b := ⟨_, rfl⟩
  have HFM := Lib.hid hFM
  rw [hFM]
  unfold cv cells at HR ⊢
  simp only at HR ⊢
  simp only [hnd, hng] at HR hgl ⊢
  clear hnd hng hgr hG' HRR hFM
  go_enter Try.func24, Try.ntmps24
  go_upto_region 1 with fail
  go_cut [3] from 6 to 28 (fun v3 wc => ∃ k, v3 = .bool k ∧ (k = true ↔ wide1 (⟨op, by', sz, obj, hi, lo, gv, rt, off, n, da, ix, gi⟩ : Cl)) ∧ wc = (w.alloc (.cells #[.int .i64 op, .int .i64 by', .int .i64 sz, .int .i64 obj, .int .u64 hi, .int .u64 lo, .bool gv, .int .i64 rt, .int .i64 off, .int .i64 n, .slice Ad nd cd, .int .i64 ix, .slice Ag ng cg] 30)))
  case first =>
    by_cases h0 : 1 ≤ op ∧ op ≤ 10
    rotate_left
    · go_wp2_with (first | (go_at_call 47; first | (refine (within_t _ (by first | assumption | exact ⟨h1a, h1b⟩)).mono ?_; rintro e w' ⟨rfl, rfl⟩) | (refine (within_f _ (by assumption)).mono ?_; rintro e w' ⟨rfl, rfl⟩)) | fail)
      go_meet
      exact ⟨false, rfl, ⟨fun e => (by cases e), fun e => absurd e.1 h0⟩, rfl⟩
    by_cases h1 : 0 ≤ by' ∧ by' ≤ 65535
    rotate_left
    · go_wp2_with (first | (go_at_call 47; first | (refine (within_t _ (by first | assumption | exact ⟨h1a, h1b⟩)).mono ?_; rintro e w' ⟨rfl, rfl⟩) | (refine (within_f _ (by assumption)).mono ?_; rintro e w' ⟨rfl, rfl⟩)) | fail)
      go_meet
      exact ⟨false, rfl, ⟨fun e => (by cases e), fun e => absurd e.2.1 h1⟩, rfl⟩
    by_cases h2 : -2147483648 ≤ sz ∧ sz ≤ 2147483647
    rotate_left
    · go_wp2_with (first | (go_at_call 47; first | (refine (within_t _ (by first | assumption | exact ⟨h1a, h1b⟩)).mono ?_; rintro e w' ⟨rfl, rfl⟩) | (refine (within_f _ (by assumption)).mono ?_; rintro e w' ⟨rfl, rfl⟩)) | fail)
      go_meet
      exact ⟨false, rfl, ⟨fun e => (by cases e), fun e => absurd e.2.2.1 h2⟩, rfl⟩
    by_cases h3 : -2147483648 ≤ off ∧ off ≤ 2147483647
    rotate_left
    · go_wp2_with (first | (go_at_call 47; first | (refine (within_t _ (by first | assumption | exact ⟨h1a, h1b⟩)).mono ?_; rintro e w' ⟨rfl, rfl⟩) | (refine (within_f _ (by assumption)).mono ?_; rintro e w' ⟨rfl, rfl⟩)) | fail)
      go_meet
      exact ⟨false, rfl, ⟨fun e => (by cases e), fun e => absurd e.2.2.2.1 h3⟩, rfl⟩
    by_cases h4 : -2147483648 ≤ n ∧ n ≤ 2147483647
    rotate_left
    · go_wp2_with (first | (go_at_call 47; first | (refine (within_t _ (by first | assumption | exact ⟨h1a, h1b⟩)).mono ?_; rintro e w' ⟨rfl, rfl⟩) | (refine (within_f _ (by assumption)).mono ?_; rintro e w' ⟨rfl, rfl⟩)) | fail)
      go_meet
      exact ⟨false, rfl, ⟨fun e => (by cases e), fun e => absurd e.2.2.2.2 h4⟩, rfl⟩
    go_wp2_with (first | (go_at_call 47; first | (refine (within_t _ (by first | assumption | exact ⟨h1a, h1b⟩)).mono ?_; rintro e w' ⟨rfl, rfl⟩) | (refine (within_f _ (by assumption)).mono ?_; rintro e w' ⟨rfl, rfl⟩)) | fail)
    go_meet
    exact ⟨true, rfl, ⟨fun _ => ⟨h0, h1, h2, h3, h4⟩, fun _ => rfl⟩, rfl⟩
  obtain ⟨k1, rfl, HK1, rfl⟩ := hcut
  replace HK1 := Lib.hid HK1
  go_upto_region 2 with fail
  go_cut [3] from 29 to 57 (fun v3 wc => ∃ k, v3 = .bool k ∧ (k = true ↔ wide1 (⟨op, by', sz, obj, hi, lo, gv, rt, off, n, da, ix, gi⟩ : Cl) ∧ wide2 (⟨op, by', sz, obj, hi, lo, gv, rt, off, n, da, ix, gi⟩ : Cl)) ∧ wc = (w.alloc (.cells #[.int .i64 op, .int .i64 by', .int .i64 sz, .int .i64 obj, .int .u64 hi, .int .u64 lo, .bool gv, .int .i64 rt, .int .i64 off, .int .i64 n, .slice Ad nd cd, .int .i64 ix, .slice Ag ng cg] 30)))
  case first =>
    cases k1 with
    | false =>
      go_wp2
      go_meet
      exact ⟨false, rfl, ⟨fun e => (by cases e), fun e => HK1.out.2 e.1⟩, rfl⟩
    | true =>
      by_cases h0 : 0 ≤ obj ∧ obj ≤ 4611686018427387904
      rotate_left
      · skip
        go_wp2_with (first | (go_at_call 47; first | (refine (within_t _ (by first | assumption | exact ⟨h1a, h1b⟩)).mono ?_; rintro e w' ⟨rfl, rfl⟩) | (refine (within_f _ (by assumption)).mono ?_; rintro e w' ⟨rfl, rfl⟩)) | fail)
        go_meet
        exact ⟨false, rfl, ⟨fun e => (by cases e), fun e => absurd e.2.1 h0⟩, rfl⟩
      by_cases h1 : 0 ≤ rt ∧ rt ≤ 255
      rotate_left
      · skip
        go_wp2_with (first | (go_at_call 47; first | (refine (within_t _ (by first | assumption | exact ⟨h1a, h1b⟩)).mono ?_; rintro e w' ⟨rfl, rfl⟩) | (refine (within_f _ (by assumption)).mono ?_; rintro e w' ⟨rfl, rfl⟩)) | fail)
        go_meet
        exact ⟨false, rfl, ⟨fun e => (by cases e), fun e => absurd e.2.2.1 h1⟩, rfl⟩
      by_cases h2 : 0 ≤ ix ∧ ix ≤ 65535
      rotate_left
      · skip
        go_wp2_with (first | (go_at_call 47; first | (refine (within_t _ (by first | assumption | exact ⟨h1a, h1b⟩)).mono ?_; rintro e w' ⟨rfl, rfl⟩) | (refine (within_f _ (by assumption)).mono ?_; rintro e w' ⟨rfl, rfl⟩)) | fail)
        go_meet
        exact ⟨false, rfl, ⟨fun e => (by cases e), fun e => absurd e.2.2.2.1 h2⟩, rfl⟩
      by_cases h3 : ng ≤ 255
      rotate_left
      · have hz3 : ¬ (((ng : Nat) : Int) ≤ 255) := by omega
        go_wp2_with (first | (go_at_call 47; first | (refine (within_t _ (by first | assumption | exact ⟨h1a, h1b⟩)).mono ?_; rintro e w' ⟨rfl, rfl⟩) | (refine (within_f _ (by assumption)).mono ?_; rintro e w' ⟨rfl, rfl⟩)) | fail)
        go_meet
        exact ⟨false, rfl, ⟨fun e => (by cases e), fun e => absurd e.2.2.2.2.1 (by show ¬ gi.length ≤ 255; rw [HNG.out]; exact h3)⟩, rfl⟩
      have hy3 : ((ng : Nat) : Int) ≤ 255 := by omega
      by_cases h4 : nd ≤ 1025
      rotate_left
      · have hz4 : ¬ (((nd : Nat) : Int) ≤ 1025) := by omega
        go_wp2_with (first | (go_at_call 47; first | (refine (within_t _ (by first | assumption | exact ⟨h1a, h1b⟩)).mono ?_; rintro e w' ⟨rfl, rfl⟩) | (refine (within_f _ (by assumption)).mono ?_; rintro e w' ⟨rfl, rfl⟩)) | fail)
        go_meet
        exact ⟨false, by rw [decide_eq_false (by omega)], ⟨fun e => (by cases e), fun e => absurd e.2.2.2.2.2 (by show ¬ da.length ≤ 1025; rw [HND.out]; exact h4)⟩, rfl⟩
      have hy4 : ((nd : Nat) : Int) ≤ 1025 := by omega
      go_wp2_with (first | (go_at_call 47; first | (refine (within_t _ (by first | assumption | exact ⟨h1a, h1b⟩)).mono ?_; rintro e w' ⟨rfl, rfl⟩) | (refine (within_f _ (by assumption)).mono ?_; rintro e w' ⟨rfl, rfl⟩)) | fail)
      go_meet
      exact ⟨true, by first | rfl | rw [decide_eq_true hy4], ⟨fun _ => ⟨HK1.out.1 (by first | rfl | trivial), h0, h1, h2, by show gi.length ≤ 255; rw [HNG.out]; exact h3, by show da.length ≤ 1025; rw [HND.out]; exact h4⟩, fun _ => rfl⟩, rfl⟩
  obtain ⟨k2, rfl, HK2, rfl⟩ := hcut
  replace HK2 := Lib.hid HK2
  clear HK1
  go_wp2_with fail
  go_loopw [3, 5, 61] (fun v3 v5 v61 we => ∃ (k : Bool) (i : Nat), i ≤ ng ∧ v3 = .bool k ∧ v61 = .int .i64 i ∧ Hid (k = true ↔ (k2 = true ∧ ∀ g ∈ gi.take i, 0 ≤ g ∧ g ≤ 65535)) ∧ we = (w.alloc (.cells #[.int .i64 op, .int .i64 by', .int .i64 sz, .int .i64 obj, .int .u64 hi, .int .u64 lo, .bool gv, .int .i64 rt, .int .i64 off, .int .i64 n, .slice Ad nd cd, .int .i64 ix, .slice Ag ng cg] 30))) (fun _ _ v61 _ => ng - (intOf v61).toNat)
  case atStart => exact ⟨k2, 0, by omega, rfl, rfl, Lib.hid (by simp), rfl⟩
  case round =>
    obtain ⟨k, i, hile, rfl, rfl, HK, rfl⟩ := hrel
    by_cases hlt : i < ng
    · have hlt' : (i : Int) < (ng : Int) := by omega
      obtain ⟨u, hu⟩ : ∃ u, gi[i]? = some u := ⟨_, List.getElem?_eq_getElem (by show i < gi.length; rw [HNG.out]; exact hlt)⟩
      have HU := Lib.hid hu
      obtain ⟨g0, o0, hA, hc⟩ := HGR.out (by show 0 < gi.length; rw [HNG.out]; omega)
      subst hA
      have hy := hc i u hu
      have hlt2 := World.block_lt_of_cell? w _ hy
      have hy2 : (w.alloc (.cells #[.int .i64 op, .int .i64 by', .int .i64 sz, .int .i64 obj, .int .u64 hi, .int .u64 lo, .bool gv, .int .i64 rt, .int .i64 off, .int .i64 n, .slice Ad nd cd, .int .i64 ix, .slice (some ⟨g0, o0, none⟩) ng cg] 30)).cell? ⟨g0, o0 + i, none⟩ = some (.int .i64 u) := (((Below.refl _ w).alloc (Nat.le_refl _) _).cell hlt2).trans hy
      have htk : Hid (gi.take (i + 1) = gi.take i ++ [u]) := by
        show gi.take (i + 1) = gi.take i ++ [u]
        rw [List.take_add_one, HU.out]; rfl
      clear hc hu hy hlt2
      cases k with
      | false =>
        go_wp2
        exact ⟨⟨false, i + 1, by omega, rfl, rfl, Lib.hid ⟨fun e => (by cases e), fun e => HK.out.2 ⟨e.1, fun g hg => e.2 g (by rw [htk.out]; exact List.mem_append_left _ hg)⟩⟩, by trivial⟩, by simp [intOf]; omega⟩
      | true =>
        by_cases h5 : 0 ≤ u ∧ u ≤ 65535
        · go_wp2_with (first | (go_at_call 47; first | (refine (within_t _ (by first | assumption | exact ⟨h1a, h1b⟩)).mono ?_; rintro e w' ⟨rfl, rfl⟩) | (refine (within_f _ (by assumption)).mono ?_; rintro e w' ⟨rfl, rfl⟩)) | fail)
          exact ⟨⟨true, i + 1, by omega, rfl, rfl, Lib.hid ⟨fun _ => ⟨(HK.out.1 (by trivial)).1, fun g hg => by rw [htk.out] at hg; rcases List.mem_append.1 hg with hg | hg; exact (HK.out.1 (by trivial)).2 g hg; obtain rfl := List.mem_singleton.1 hg; exact h5⟩, fun _ => by trivial⟩, by trivial⟩, by simp [intOf]; omega⟩
        · go_wp2_with (first | (go_at_call 47; first | (refine (within_t _ (by first | assumption | exact ⟨h1a, h1b⟩)).mono ?_; rintro e w' ⟨rfl, rfl⟩) | (refine (within_f _ (by assumption)).mono ?_; rintro e w' ⟨rfl, rfl⟩)) | fail)
          exact ⟨⟨false, i + 1, by omega, rfl, rfl, Lib.hid ⟨fun e => (by cases e), fun e => absurd (e.2 u (by rw [htk.out]; simp)) h5⟩, by trivial⟩, by simp [intOf]; omega⟩
    · obtain rfl : i = ng := by omega
      have HKK : Hid (k = true ↔ wide1 (⟨op, by', sz, obj, hi, lo, gv, rt, off, n, da, ix, gi⟩ : Cl) ∧ wide2 (⟨op, by', sz, obj, hi, lo, gv, rt, off, n, da, ix, gi⟩ : Cl) ∧ wide3 (⟨op, by', sz, obj, hi, lo, gv, rt, off, n, da, ix, gi⟩ : Cl)) := by
        refine HK.out.trans ?_
        rw [HK2.out, and_assoc]
        show _ ↔ _ ∧ _ ∧ ∀ g ∈ gi, 0 ≤ g ∧ g ≤ 65535
        rw [List.take_of_length_le (by rw [HNG.out]; exact Nat.le_refl _)]
      clear HK HK2
      go_upto_region 8 with fail
      go_cut [90] from 71 to 90 (fun v90 wc => ∃ p, v90 = .bool p ∧ (p = true ↔ ¬ nopass (⟨op, by', sz, obj, hi, lo, gv, rt, off, n, da, ix, gi⟩ : Cl)) ∧ wc = (w.alloc (.cells #[.int .i64 op, .int .i64 by', .int .i64 sz, .int .i64 obj, .int .u64 hi, .int .u64 lo, .bool gv, .int .i64 rt, .int .i64 off, .int .i64 n, .slice Ad nd cd, .int .i64 ix, .slice Ag i cg] 30)))
      case first =>
        by_cases o5 : op = 5
        · subst o5
          cases gv with
          | true => (go_wp2; go_meet; exact ⟨false, rfl, ⟨fun e => (by cases e), fun e => absurd (fun _ h => (by cases h)) e⟩, rfl⟩)
          | false =>
            by_cases z1 : hi = 0
            · subst z1
              by_cases z2 : lo = 0
              · subst z2
                go_wp2
                go_meet
                exact ⟨false, rfl, ⟨fun e => (by cases e), fun e => absurd (fun _ _ => ⟨rfl, rfl⟩) e⟩, rfl⟩
              · go_wp2
                go_meet
                exact ⟨true, by first | rfl | (symm; simpa using z2), ⟨fun _ h => z2 (h (by simp) rfl).2, fun _ => rfl⟩, rfl⟩
            · go_wp2
              go_meet
              exact ⟨true, rfl, ⟨fun _ h => z1 (h (by simp) rfl).1, fun _ => rfl⟩, rfl⟩
        · by_cases o6 : op = 6
          · subst o6
            cases gv with
            | true => (go_wp2; go_meet; exact ⟨false, rfl, ⟨fun e => (by cases e), fun e => absurd (fun _ h => (by cases h)) e⟩, rfl⟩)
            | false =>
              by_cases z1 : hi = 0
              · subst z1
                by_cases z2 : lo = 0
                · subst z2
                  go_wp2
                  go_meet
                  exact ⟨false, rfl, ⟨fun e => (by cases e), fun e => absurd (fun _ _ => ⟨rfl, rfl⟩) e⟩, rfl⟩
                · go_wp2
                  go_meet
                  exact ⟨true, by first | rfl | (symm; simpa using z2), ⟨fun _ h => z2 (h (by simp) rfl).2, fun _ => rfl⟩, rfl⟩
              · go_wp2
                go_meet
                exact ⟨true, rfl, ⟨fun _ h => z1 (h (by simp) rfl).1, fun _ => rfl⟩, rfl⟩
          · go_wp2
            go_meet
            exact ⟨false, rfl, ⟨fun e => (by cases e), fun e => absurd (fun o => (by rcases o with o | o; exact absurd o o5; exact absurd o o6)) e⟩, rfl⟩
      case rest =>
        obtain ⟨p, rfl, HP, rfl⟩ := hcut
        replace HP := Lib.hid HP
        cases p with
        | true =>
          obtain rfl : FM = false := by rw [← HFM.out]; exact decide_eq_false (fun h => HP.out.1 rfl h.2.2.2.1)
          go_wp2
          go_ret
          exact ⟨rfl, (Below.refl _ w).alloc (Nat.le_refl _) _⟩
        | false =>
          cases k with
          | false =>
            obtain rfl : FM = false := by rw [← HFM.out]; exact decide_eq_false (fun h => by have := HKK.out.2 ⟨h.1, h.2.1, h.2.2.1⟩; cases this)
            go_wp2
            go_ret
            exact ⟨rfl, (Below.refl _ w).alloc (Nat.le_refl _) _⟩
          | true =>
            have HE : Hid (decide (restC (⟨op, by', sz, obj, hi, lo, gv, rt, off, n, da, ix, gi⟩ : Cl) = zc) = FM) := by
              show decide (restC (⟨op, by', sz, obj, hi, lo, gv, rt, off, n, da, ix, gi⟩ : Cl) = zc) = FM
              have h1 := HKK.out.1 rfl
              have h2 : nopass (⟨op, by', sz, obj, hi, lo, gv, rt, off, n, da, ix, gi⟩ : Cl) := Decidable.byContradiction (fun h => by have := HP.out.2 h; cases this)
              rw [← HFM.out]
              by_cases h3 : restC (⟨op, by', sz, obj, hi, lo, gv, rt, off, n, da, ix, gi⟩ : Cl) = zc
              · rw [decide_eq_true h3]; exact (decide_eq_true (show form (⟨op, by', sz, obj, hi, lo, gv, rt, off, n, da, ix, gi⟩ : Cl) from ⟨h1.1, h1.2.1, h1.2.2, h2, h3⟩)).symm
              · rw [decide_eq_false h3]; exact (decide_eq_false (fun h : form (⟨op, by', sz, obj, hi, lo, gv, rt, off, n, da, ix, gi⟩ : Cl) => h3 h.2.2.2.2)).symm
            go_wp2_with (first | (go_at_call 49; refine (HR.out _).mono ?_; rintro e w1 ⟨⟨D', G', rfl, hD', hG'⟩, hb1⟩; have HZ := Lib.hid (zero_cl w1 _ D' G' hD' hG'); have HB1 := Lib.hid hb1; clear hD' hG' hb1; unfold cv cells at HZ) | (go_at_call 48; refine HZ.out.mono ?_; rintro e w2 ⟨rfl, hb2⟩; have HB2 := Lib.hid hb2; clear hb2) | fail)
            rw [HE.out]
            go_ret
            exact ⟨rfl, ((Below.refl _ w).alloc (Nat.le_refl _) _).trans ((HB1.out.trans (HB2.out.mono HB1.out.size)).mono (by simp))⟩
end Go.Proofs.Ytfpkdbogapmhmaa.O

/- Record: the document's Answer (written by gen_rcz.py). -/
import Derived.Test.YtfpkdbogapmhmaaRcW
import Derived.Test.YtfpkdbogapmhmaaRcL
namespace Go.Proofs.Ytfpkdbogapmhmaa.O
open Go.RowKit Go.Proofs.Ytfpkdbogapmhmaa.Mem
set_option linter.unusedVariables false
set_option linter.unusedSimpArgs false
set_option maxHeartbeats 4000000 in
set_option maxRecDepth 100000 in
theorem rans_n1 (w : World) (obj hi lo nu : Int) (da : List Int) (Ad : Option Addr) (nd cd : Nat) (hD : RB w (.slice Ad nd cd) da) (hh : U64 hi) (hl : U64 lo) (code : Int) (hcn : ¬ code = 0) :
    Calls Try.prog 16 #[.int .i64 1, .agg #[.int .i64 code, .int .i64 obj, .int .u64 hi, .int .u64 lo, .slice Ad nd cd, .int .i64 nu]] w fun e w' => ∃ v, e = .returned (.tuple #[v, .int .i64 (ansE 1 (⟨code, obj, hi, lo, da, nu⟩ : Rp))]) ∧ OB w' v (ansO 1 (⟨code, obj, hi, lo, da, nu⟩ : Rp)) ∧ Below w.heap.size w w' ∧ Fresh w v := by
  suffices ∀ R : Ending → World → Prop, (∀ e w', (∃ v, e = .returned (.tuple #[v, .int .i64 (ansE 1 (⟨code, obj, hi, lo, da, nu⟩ : Rp))]) ∧ OB w' v (ansO 1 (⟨code, obj, hi, lo, da, nu⟩ : Rp)) ∧ Below w.heap.size w w' ∧ Fresh w v) → R e w') → Calls Try.prog 16 #[.int .i64 1, .agg #[.int .i64 code, .int .i64 obj, .int .u64 hi, .int .u64 lo, .slice Ad nd cd, .int .i64 nu]] w R from this _ (fun _ _ h => h)
  intro R HR
  replace HR := Lib.hid HR
  have hnd : da.length = nd := by obtain ⟨A, c, e, _⟩ := hD; cases e; rfl
  have HND := Lib.hid hnd
  have HD := Lib.hid hD
  have HH := Lib.hid (And.intro hh hl)
  have HBX := Lib.hid ((Below.refl w.heap.size w).alloc (Nat.le_refl _) (.cells #[.int .i64 code, .int .i64 obj, .int .u64 hi, .int .u64 lo, .slice Ad nd cd, .int .i64 nu] 45))
  have NO : Hid (¬ toldR 1 (⟨code, obj, hi, lo, da, nu⟩ : Rp) → ∀ W, Below w.heap.size w W → R (.returned (.tuple #[.slice none 0 0, .int .i64 1])) W) := Lib.hid (fun hn W hb => HR.out _ _ ⟨_, by rw [show ansE 1 (⟨code, obj, hi, lo, da, nu⟩ : Rp) = 1 from if_neg hn], by rw [show ansO 1 (⟨code, obj, hi, lo, da, nu⟩ : Rp) = [] from if_neg hn]; exact OB.nil _, hb, fresh_nil _⟩)
  clear hD hh hl hnd
  go_enter Try.func16, Try.ntmps16
  go_upto_region 3 with fail
  go_cut [32] from 17 to 32 (fun v32 wc => ∃ p, v32 = .bool p ∧ Hid (p = false ↔ toldA 1 (⟨code, obj, hi, lo, da, nu⟩ : Rp)) ∧ wc = (w.alloc (.cells #[.int .i64 code, .int .i64 obj, .int .u64 hi, .int .u64 lo, .slice Ad nd cd, .int .i64 nu] 45)))
  case first =>
    by_cases h0 : 0 ≤ code ∧ code ≤ 65535
    rotate_left
    · skip
      go_wp2_with (first | (go_at_call 42; first | (refine (rin_t _ (by first | assumption | decide)).mono ?_; rintro e w' ⟨rfl, rfl⟩) | (refine (rin_f _ (by first | assumption | decide)).mono ?_; rintro e w' ⟨rfl, rfl⟩)) | fail)
      go_meet
      exact ⟨true, by first | rfl | (simp; done), Lib.hid ⟨fun e => (by cases e), fun e => absurd e (by rintro ⟨a, b, d⟩; dsimp only at a b d; omega)⟩, rfl⟩
    go_wp2_with (first | (go_at_call 42; first | (refine (rin_t _ (by first | assumption | decide)).mono ?_; rintro e w' ⟨rfl, rfl⟩) | (refine (rin_f _ (by first | assumption | decide)).mono ?_; rintro e w' ⟨rfl, rfl⟩)) | fail)
    go_meet
    exact ⟨false, by first | rfl | (simp; done) | simpa using hcn, Lib.hid ⟨fun _ => ⟨by first | assumption | decide | (dsimp only; decide), by first | assumption | decide | (dsimp only; decide), by first | decide | (dsimp only; omega)⟩, fun _ => rfl⟩, rfl⟩
  obtain ⟨p, rfl, HP, rfl⟩ := hcut
  cases p with
  | true =>
    go_wp2
    exact NO.out (fun h => by have := HP.out.2 h.1; cases this) _ HBX.out
  | false =>
    have HA := Lib.hid (HP.out.1 rfl)
    clear HP
    go_upto_region 5 with fail
    go_cut [71] from 33 to 71 (fun v71 wc => ∃ p, v71 = .bool p ∧ Hid (p = false ↔ toldB 1 (⟨code, obj, hi, lo, da, nu⟩ : Rp)) ∧ wc = (w.alloc (.cells #[.int .i64 code, .int .i64 obj, .int .u64 hi, .int .u64 lo, .slice Ad nd cd, .int .i64 nu] 45)))
    case first =>
      by_cases q0 : obj = 0
      · subst q0
        by_cases q1 : hi = 0
        · subst q1
          by_cases q2 : lo = 0
          · subst q2
            by_cases q3 : nd = 0
            · subst q3
              by_cases q4 : nu = 0
              · subst q4
                go_wp2
                go_meet
                exact ⟨_, rfl, Lib.hid (by unfold toldB untR; simp_all [HND.out]), rfl⟩
              · skip
                go_wp2
                go_meet
                exact ⟨_, rfl, Lib.hid (by unfold toldB untR; simp_all [HND.out]), rfl⟩
            · have q3' : (0 : Int) < (nd : Int) := by omega
              by_cases q4 : nu = 0
              · subst q4
                go_wp2
                go_meet
                exact ⟨_, rfl, Lib.hid (by unfold toldB untR; simp_all [HND.out]), rfl⟩
              · skip
                go_wp2
                go_meet
                exact ⟨_, rfl, Lib.hid (by unfold toldB untR; simp_all [HND.out]), rfl⟩
          · skip
            by_cases q3 : nd = 0
            · subst q3
              by_cases q4 : nu = 0
              · subst q4
                go_wp2
                go_meet
                exact ⟨_, rfl, Lib.hid (by unfold toldB untR; simp_all [HND.out]), rfl⟩
              · skip
                go_wp2
                go_meet
                exact ⟨_, rfl, Lib.hid (by unfold toldB untR; simp_all [HND.out]), rfl⟩
            · have q3' : (0 : Int) < (nd : Int) := by omega
              by_cases q4 : nu = 0
              · subst q4
                go_wp2
                go_meet
                exact ⟨_, rfl, Lib.hid (by unfold toldB untR; simp_all [HND.out]), rfl⟩
              · skip
                go_wp2
                go_meet
                exact ⟨_, rfl, Lib.hid (by unfold toldB untR; simp_all [HND.out]), rfl⟩
        · skip
          by_cases q3 : nd = 0
          · subst q3
            by_cases q4 : nu = 0
            · subst q4
              go_wp2
              go_meet
              exact ⟨_, rfl, Lib.hid (by unfold toldB untR; simp_all [HND.out]), rfl⟩
            · skip
              go_wp2
              go_meet
              exact ⟨_, rfl, Lib.hid (by unfold toldB untR; simp_all [HND.out]), rfl⟩
          · have q3' : (0 : Int) < (nd : Int) := by omega
            by_cases q4 : nu = 0
            · subst q4
              go_wp2
              go_meet
              exact ⟨_, rfl, Lib.hid (by unfold toldB untR; simp_all [HND.out]), rfl⟩
            · skip
              go_wp2
              go_meet
              exact ⟨_, rfl, Lib.hid (by unfold toldB untR; simp_all [HND.out]), rfl⟩
      · skip
        by_cases q3 : nd = 0
        · subst q3
          by_cases q4 : nu = 0
          · subst q4
            go_wp2
            go_meet
            exact ⟨_, rfl, Lib.hid (by unfold toldB untR; simp_all [HND.out]), rfl⟩
          · skip
            go_wp2
            go_meet
            exact ⟨_, rfl, Lib.hid (by unfold toldB untR; simp_all [HND.out]), rfl⟩
        · have q3' : (0 : Int) < (nd : Int) := by omega
          by_cases q4 : nu = 0
          · subst q4
            go_wp2
            go_meet
            exact ⟨_, rfl, Lib.hid (by unfold toldB untR; simp_all [HND.out]), rfl⟩
          · skip
            go_wp2
            go_meet
            exact ⟨_, rfl, Lib.hid (by unfold toldB untR; simp_all [HND.out]), rfl⟩
    obtain ⟨p2, rfl, HP, rfl⟩ := hcut
    cases p2 with
    | true =>
      go_wp2
      exact NO.out (fun h => by have := HP.out.2 h.2.1; cases this) _ HBX.out
    | false =>
      have HBB := Lib.hid (HP.out.1 rfl)
      clear HP
      go_upto_region 7 with fail
      go_cut [88] from 72 to 88 (fun v88 wc => ∃ p, v88 = .bool p ∧ Hid (p = false ↔ toldC (⟨code, obj, hi, lo, da, nu⟩ : Rp)) ∧ wc = (w.alloc (.cells #[.int .i64 code, .int .i64 obj, .int .u64 hi, .int .u64 lo, .slice Ad nd cd, .int .i64 nu] 45)))
      case first =>
        by_cases g0 : 0 ≤ obj ∧ obj ≤ 4611686018427387904
        rotate_left
        · skip
          go_wp2_with (first | (go_at_call 42; first | (refine (rin_t _ (by first | assumption | decide)).mono ?_; rintro e w' ⟨rfl, rfl⟩) | (refine (rin_f _ (by first | assumption | decide)).mono ?_; rintro e w' ⟨rfl, rfl⟩)) | fail)
          go_meet
          exact ⟨true, by first | rfl | (simp; done) | (simp; omega), Lib.hid ⟨fun e => (by cases e), fun e => absurd e.1 g0⟩, rfl⟩
        by_cases g1 : 0 ≤ nu ∧ nu ≤ 65535
        rotate_left
        · skip
          go_wp2_with (first | (go_at_call 42; first | (refine (rin_t _ (by first | assumption | decide)).mono ?_; rintro e w' ⟨rfl, rfl⟩) | (refine (rin_f _ (by first | assumption | decide)).mono ?_; rintro e w' ⟨rfl, rfl⟩)) | fail)
          go_meet
          exact ⟨true, by first | rfl | (simp; done) | (simp; omega), Lib.hid ⟨fun e => (by cases e), fun e => absurd e.2.1 g1⟩, rfl⟩
        by_cases g2 : nd ≤ 1024
        rotate_left
        · have gy2 : (1024 : Int) < (nd : Int) := by omega
          go_wp2_with (first | (go_at_call 42; first | (refine (rin_t _ (by first | assumption | decide)).mono ?_; rintro e w' ⟨rfl, rfl⟩) | (refine (rin_f _ (by first | assumption | decide)).mono ?_; rintro e w' ⟨rfl, rfl⟩)) | fail)
          go_meet
          exact ⟨true, by first | rfl | (simp; done) | (simp; omega), Lib.hid ⟨fun e => (by cases e), fun e => absurd e.2.2 (by show ¬ da.length ≤ 1024; rw [HND.out]; exact g2)⟩, rfl⟩
        have gz2 : ¬ ((1024 : Int) < (nd : Int)) := by omega
        go_wp2_with (first | (go_at_call 42; first | (refine (rin_t _ (by first | assumption | decide)).mono ?_; rintro e w' ⟨rfl, rfl⟩) | (refine (rin_f _ (by first | assumption | decide)).mono ?_; rintro e w' ⟨rfl, rfl⟩)) | fail)
        go_meet
        exact ⟨false, by first | rfl | (simp; done) | (simp; omega), Lib.hid ⟨fun _ => ⟨g0, g1, by show da.length ≤ 1024; rw [HND.out]; exact g2⟩, fun _ => rfl⟩, rfl⟩
      obtain ⟨p3, rfl, HP, rfl⟩ := hcut
      cases p3 with
      | true =>
        go_wp2
        exact NO.out (fun h => by have := HP.out.2 h.2.2; cases this) _ HBX.out
      | false =>
        have HTO : Hid (toldR 1 (⟨code, obj, hi, lo, da, nu⟩ : Rp)) := Lib.hid ⟨HA.out, HBB.out, HP.out.1 rfl⟩
        have HCC := Lib.hid (HP.out.1 rfl)
        clear HP
        have YES : Hid (∀ v W, OB W v (encR 1 (⟨code, obj, hi, lo, da, nu⟩ : Rp)) → Below w.heap.size w W → Fresh w v → R (.returned (.tuple #[v, .int .i64 0])) W) := Lib.hid (fun v W h1 h2 h3 => HR.out _ _ ⟨v, by rw [show ansE 1 (⟨code, obj, hi, lo, da, nu⟩ : Rp) = 0 from if_pos HTO.out], by rw [show ansO 1 (⟨code, obj, hi, lo, da, nu⟩ : Rp) = encR 1 (⟨code, obj, hi, lo, da, nu⟩ : Rp) from if_pos HTO.out]; exact h1, h2, h3⟩)
        obtain ⟨B, hB⟩ : ∃ B, w.heap.size = B := ⟨_, rfl⟩
        have HRW : Hid ((w.alloc (.cells #[.int .i64 code, .int .i64 obj, .int .u64 hi, .int .u64 lo, .slice Ad nd cd, .int .i64 nu] 45)).heap[B]? = some (.cells #[.int .i64 code, .int .i64 obj, .int .u64 hi, .int .u64 lo, .slice Ad nd cd, .int .i64 nu] 45)) := Lib.hid (row_new hB.symm)
        have HSZ : Hid (B < (w.alloc (.cells #[.int .i64 code, .int .i64 obj, .int .u64 hi, .int .u64 lo, .slice Ad nd cd, .int .i64 nu] 45)).heap.size) := Lib.hid (by simp [hB])
        generalize (w.alloc (.cells #[.int .i64 code, .int .i64 obj, .int .u64 hi, .int .u64 lo, .slice Ad nd cd, .int .i64 nu] 45)) = W1 at HBX HRW HSZ ⊢
        have hca := HA.out.2.1
        have P1 := Lib.hid (put_r W1 W1 (.slice none 0 0) [] code 2 2 (by omega) (by have h := HA.out.2.1; dsimp only at h; omega) (by have h := HA.out.2.1; dsimp only at h; omega) (by omega) (by decide) (Below.refl _ _) (fresh_nil _) (OB.nil _))
        clear hca
        go_upto_region 10 with (first | (go_at_call 33; (with_reducible refine P1.out.mono ?_); rintro e w2 ⟨v2, rfl, o2, b2, f2⟩; have O2 := Lib.hid o2; have B2 := Lib.hid b2; have F2 := Lib.hid f2; have R2 := Lib.hid (row_on b2 HRW.out); have y1 := cell_row (j := 1) R2.out rfl; have y2 := cell_row (j := 2) R2.out rfl; have y3 := cell_row (j := 3) R2.out rfl; have y4 := cell_row (j := 4) R2.out rfl; have y5 := cell_row (j := 5) R2.out rfl; clear o2 b2 f2) | fail)
        go_wp2
        have HE : encR 1 (⟨code, obj, hi, lo, da, nu⟩ : Rp) = ([] ++ le 2 code) := by simp [encR, hcn]
        exact YES.out _ _ (by rw [HE]; exact O2.out) (HBX.out.trans (B2.out.mono HBX.out.size)) (fun b e => Nat.le_trans HBX.out.size (F2.out b e))
set_option maxHeartbeats 4000000 in
set_option maxRecDepth 100000 in
theorem rans_n3 (w : World) (obj hi lo nu : Int) (da : List Int) (Ad : Option Addr) (nd cd : Nat) (hD : RB w (.slice Ad nd cd) da) (hh : U64 hi) (hl : U64 lo) (code : Int) (hcn : ¬ code = 0) :
    Calls Try.prog 16 #[.int .i64 3, .agg #[.int .i64 code, .int .i64 obj, .int .u64 hi, .int .u64 lo, .slice Ad nd cd, .int .i64 nu]] w fun e w' => ∃ v, e = .returned (.tuple #[v, .int .i64 (ansE 3 (⟨code, obj, hi, lo, da, nu⟩ : Rp))]) ∧ OB w' v (ansO 3 (⟨code, obj, hi, lo, da, nu⟩ : Rp)) ∧ Below w.heap.size w w' ∧ Fresh w v := by
  suffices ∀ R : Ending → World → Prop, (∀ e w', (∃ v, e = .returned (.tuple #[v, .int .i64 (ansE 3 (⟨code, obj, hi, lo, da, nu⟩ : Rp))]) ∧ OB w' v (ansO 3 (⟨code, obj, hi, lo, da, nu⟩ : Rp)) ∧ Below w.heap.size w w' ∧ Fresh w v) → R e w') → Calls Try.prog 16 #[.int .i64 3, .agg #[.int .i64 code, .int .i64 obj, .int .u64 hi, .int .u64 lo, .slice Ad nd cd, .int .i64 nu]] w R from this _ (fun _ _ h => h)
  intro R HR
  replace HR := Lib.hid HR
  have hnd : da.length = nd := by obtain ⟨A, c, e, _⟩ := hD; cases e; rfl
  have HND := Lib.hid hnd
  have HD := Lib.hid hD
  have HH := Lib.hid (And.intro hh hl)
  have HBX := Lib.hid ((Below.refl w.heap.size w).alloc (Nat.le_refl _) (.cells #[.int .i64 code, .int .i64 obj, .int .u64 hi, .int .u64 lo, .slice Ad nd cd, .int .i64 nu] 45))
  have NO : Hid (¬ toldR 3 (⟨code, obj, hi, lo, da, nu⟩ : Rp) → ∀ W, Below w.heap.size w W → R (.returned (.tuple #[.slice none 0 0, .int .i64 1])) W) := Lib.hid (fun hn W hb => HR.out _ _ ⟨_, by rw [show ansE 3 (⟨code, obj, hi, lo, da, nu⟩ : Rp) = 1 from if_neg hn], by rw [show ansO 3 (⟨code, obj, hi, lo, da, nu⟩ : Rp) = [] from if_neg hn]; exact OB.nil _, hb, fresh_nil _⟩)
  clear hD hh hl hnd
  go_enter Try.func16, Try.ntmps16
  go_upto_region 3 with fail
  go_cut [32] from 17 to 32 (fun v32 wc => ∃ p, v32 = .bool p ∧ Hid (p = false ↔ toldA 3 (⟨code, obj, hi, lo, da, nu⟩ : Rp)) ∧ wc = (w.alloc (.cells #[.int .i64 code, .int .i64 obj, .int .u64 hi, .int .u64 lo, .slice Ad nd cd, .int .i64 nu] 45)))
  case first =>
    by_cases h0 : 0 ≤ code ∧ code ≤ 65535
    rotate_left
    · skip
      go_wp2_with (first | (go_at_call 42; first | (refine (rin_t _ (by first | assumption | decide)).mono ?_; rintro e w' ⟨rfl, rfl⟩) | (refine (rin_f _ (by first | assumption | decide)).mono ?_; rintro e w' ⟨rfl, rfl⟩)) | fail)
      go_meet
      exact ⟨true, by first | rfl | (simp; done), Lib.hid ⟨fun e => (by cases e), fun e => absurd e (by rintro ⟨a, b, d⟩; dsimp only at a b d; omega)⟩, rfl⟩
    go_wp2_with (first | (go_at_call 42; first | (refine (rin_t _ (by first | assumption | decide)).mono ?_; rintro e w' ⟨rfl, rfl⟩) | (refine (rin_f _ (by first | assumption | decide)).mono ?_; rintro e w' ⟨rfl, rfl⟩)) | fail)
    go_meet
    exact ⟨false, by first | rfl | (simp; done) | simpa using hcn, Lib.hid ⟨fun _ => ⟨by first | assumption | decide | (dsimp only; decide), by first | assumption | decide | (dsimp only; decide), by first | decide | (dsimp only; omega)⟩, fun _ => rfl⟩, rfl⟩
  obtain ⟨p, rfl, HP, rfl⟩ := hcut
  cases p with
  | true =>
    go_wp2
    exact NO.out (fun h => by have := HP.out.2 h.1; cases this) _ HBX.out
  | false =>
    have HA := Lib.hid (HP.out.1 rfl)
    clear HP
    go_upto_region 5 with fail
    go_cut [71] from 33 to 71 (fun v71 wc => ∃ p, v71 = .bool p ∧ Hid (p = false ↔ toldB 3 (⟨code, obj, hi, lo, da, nu⟩ : Rp)) ∧ wc = (w.alloc (.cells #[.int .i64 code, .int .i64 obj, .int .u64 hi, .int .u64 lo, .slice Ad nd cd, .int .i64 nu] 45)))
    case first =>
      by_cases q0 : obj = 0
      · subst q0
        by_cases q1 : hi = 0
        · subst q1
          by_cases q2 : lo = 0
          · subst q2
            by_cases q3 : nd = 0
            · subst q3
              by_cases q4 : nu = 0
              · subst q4
                go_wp2
                go_meet
                exact ⟨_, rfl, Lib.hid (by unfold toldB untR; simp_all [HND.out]), rfl⟩
              · skip
                go_wp2
                go_meet
                exact ⟨_, rfl, Lib.hid (by unfold toldB untR; simp_all [HND.out]), rfl⟩
            · have q3' : (0 : Int) < (nd : Int) := by omega
              by_cases q4 : nu = 0
              · subst q4
                go_wp2
                go_meet
                exact ⟨_, rfl, Lib.hid (by unfold toldB untR; simp_all [HND.out]), rfl⟩
              · skip
                go_wp2
                go_meet
                exact ⟨_, rfl, Lib.hid (by unfold toldB untR; simp_all [HND.out]), rfl⟩
          · skip
            by_cases q3 : nd = 0
            · subst q3
              by_cases q4 : nu = 0
              · subst q4
                go_wp2
                go_meet
                exact ⟨_, rfl, Lib.hid (by unfold toldB untR; simp_all [HND.out]), rfl⟩
              · skip
                go_wp2
                go_meet
                exact ⟨_, rfl, Lib.hid (by unfold toldB untR; simp_all [HND.out]), rfl⟩
            · have q3' : (0 : Int) < (nd : Int) := by omega
              by_cases q4 : nu = 0
              · subst q4
                go_wp2
                go_meet
                exact ⟨_, rfl, Lib.hid (by unfold toldB untR; simp_all [HND.out]), rfl⟩
              · skip
                go_wp2
                go_meet
                exact ⟨_, rfl, Lib.hid (by unfold toldB untR; simp_all [HND.out]), rfl⟩
        · skip
          by_cases q3 : nd = 0
          · subst q3
            by_cases q4 : nu = 0
            · subst q4
              go_wp2
              go_meet
              exact ⟨_, rfl, Lib.hid (by unfold toldB untR; simp_all [HND.out]), rfl⟩
            · skip
              go_wp2
              go_meet
              exact ⟨_, rfl, Lib.hid (by unfold toldB untR; simp_all [HND.out]), rfl⟩
          · have q3' : (0 : Int) < (nd : Int) := by omega
            by_cases q4 : nu = 0
            · subst q4
              go_wp2
              go_meet
              exact ⟨_, rfl, Lib.hid (by unfold toldB untR; simp_all [HND.out]), rfl⟩
            · skip
              go_wp2
              go_meet
              exact ⟨_, rfl, Lib.hid (by unfold toldB untR; simp_all [HND.out]), rfl⟩
      · skip
        by_cases q3 : nd = 0
        · subst q3
          by_cases q4 : nu = 0
          · subst q4
            go_wp2
            go_meet
            exact ⟨_, rfl, Lib.hid (by unfold toldB untR; simp_all [HND.out]), rfl⟩
          · skip
            go_wp2
            go_meet
            exact ⟨_, rfl, Lib.hid (by unfold toldB untR; simp_all [HND.out]), rfl⟩
        · have q3' : (0 : Int) < (nd : Int) := by omega
          by_cases q4 : nu = 0
          · subst q4
            go_wp2
            go_meet
            exact ⟨_, rfl, Lib.hid (by unfold toldB untR; simp_all [HND.out]), rfl⟩
          · skip
            go_wp2
            go_meet
            exact ⟨_, rfl, Lib.hid (by unfold toldB untR; simp_all [HND.out]), rfl⟩
    obtain ⟨p2, rfl, HP, rfl⟩ := hcut
    cases p2 with
    | true =>
      go_wp2
      exact NO.out (fun h => by have := HP.out.2 h.2.1; cases this) _ HBX.out
    | false =>
      have HBB := Lib.hid (HP.out.1 rfl)
      clear HP
      go_upto_region 7 with fail
      go_cut [88] from 72 to 88 (fun v88 wc => ∃ p, v88 = .bool p ∧ Hid (p = false ↔ toldC (⟨code, obj, hi, lo, da, nu⟩ : Rp)) ∧ wc = (w.alloc (.cells #[.int .i64 code, .int .i64 obj, .int .u64 hi, .int .u64 lo, .slice Ad nd cd, .int .i64 nu] 45)))
      case first =>
        by_cases g0 : 0 ≤ obj ∧ obj ≤ 4611686018427387904
        rotate_left
        · skip
          go_wp2_with (first | (go_at_call 42; first | (refine (rin_t _ (by first | assumption | decide)).mono ?_; rintro e w' ⟨rfl, rfl⟩) | (refine (rin_f _ (by first | assumption | decide)).mono ?_; rintro e w' ⟨rfl, rfl⟩)) | fail)
          go_meet
          exact ⟨true, by first | rfl | (simp; done) | (simp; omega), Lib.hid ⟨fun e => (by cases e), fun e => absurd e.1 g0⟩, rfl⟩
        by_cases g1 : 0 ≤ nu ∧ nu ≤ 65535
        rotate_left
        · skip
          go_wp2_with (first | (go_at_call 42; first | (refine (rin_t _ (by first | assumption | decide)).mono ?_; rintro e w' ⟨rfl, rfl⟩) | (refine (rin_f _ (by first | assumption | decide)).mono ?_; rintro e w' ⟨rfl, rfl⟩)) | fail)
          go_meet
          exact ⟨true, by first | rfl | (simp; done) | (simp; omega), Lib.hid ⟨fun e => (by cases e), fun e => absurd e.2.1 g1⟩, rfl⟩
        by_cases g2 : nd ≤ 1024
        rotate_left
        · have gy2 : (1024 : Int) < (nd : Int) := by omega
          go_wp2_with (first | (go_at_call 42; first | (refine (rin_t _ (by first | assumption | decide)).mono ?_; rintro e w' ⟨rfl, rfl⟩) | (refine (rin_f _ (by first | assumption | decide)).mono ?_; rintro e w' ⟨rfl, rfl⟩)) | fail)
          go_meet
          exact ⟨true, by first | rfl | (simp; done) | (simp; omega), Lib.hid ⟨fun e => (by cases e), fun e => absurd e.2.2 (by show ¬ da.length ≤ 1024; rw [HND.out]; exact g2)⟩, rfl⟩
        have gz2 : ¬ ((1024 : Int) < (nd : Int)) := by omega
        go_wp2_with (first | (go_at_call 42; first | (refine (rin_t _ (by first | assumption | decide)).mono ?_; rintro e w' ⟨rfl, rfl⟩) | (refine (rin_f _ (by first | assumption | decide)).mono ?_; rintro e w' ⟨rfl, rfl⟩)) | fail)
        go_meet
        exact ⟨false, by first | rfl | (simp; done) | (simp; omega), Lib.hid ⟨fun _ => ⟨g0, g1, by show da.length ≤ 1024; rw [HND.out]; exact g2⟩, fun _ => rfl⟩, rfl⟩
      obtain ⟨p3, rfl, HP, rfl⟩ := hcut
      cases p3 with
      | true =>
        go_wp2
        exact NO.out (fun h => by have := HP.out.2 h.2.2; cases this) _ HBX.out
      | false =>
        have HTO : Hid (toldR 3 (⟨code, obj, hi, lo, da, nu⟩ : Rp)) := Lib.hid ⟨HA.out, HBB.out, HP.out.1 rfl⟩
        have HCC := Lib.hid (HP.out.1 rfl)
        clear HP
        have YES : Hid (∀ v W, OB W v (encR 3 (⟨code, obj, hi, lo, da, nu⟩ : Rp)) → Below w.heap.size w W → Fresh w v → R (.returned (.tuple #[v, .int .i64 0])) W) := Lib.hid (fun v W h1 h2 h3 => HR.out _ _ ⟨v, by rw [show ansE 3 (⟨code, obj, hi, lo, da, nu⟩ : Rp) = 0 from if_pos HTO.out], by rw [show ansO 3 (⟨code, obj, hi, lo, da, nu⟩ : Rp) = encR 3 (⟨code, obj, hi, lo, da, nu⟩ : Rp) from if_pos HTO.out]; exact h1, h2, h3⟩)
        obtain ⟨B, hB⟩ : ∃ B, w.heap.size = B := ⟨_, rfl⟩
        have HRW : Hid ((w.alloc (.cells #[.int .i64 code, .int .i64 obj, .int .u64 hi, .int .u64 lo, .slice Ad nd cd, .int .i64 nu] 45)).heap[B]? = some (.cells #[.int .i64 code, .int .i64 obj, .int .u64 hi, .int .u64 lo, .slice Ad nd cd, .int .i64 nu] 45)) := Lib.hid (row_new hB.symm)
        have HSZ : Hid (B < (w.alloc (.cells #[.int .i64 code, .int .i64 obj, .int .u64 hi, .int .u64 lo, .slice Ad nd cd, .int .i64 nu] 45)).heap.size) := Lib.hid (by simp [hB])
        generalize (w.alloc (.cells #[.int .i64 code, .int .i64 obj, .int .u64 hi, .int .u64 lo, .slice Ad nd cd, .int .i64 nu] 45)) = W1 at HBX HRW HSZ ⊢
        have hca := HA.out.2.1
        have P1 := Lib.hid (put_r W1 W1 (.slice none 0 0) [] code 2 2 (by omega) (by have h := HA.out.2.1; dsimp only at h; omega) (by have h := HA.out.2.1; dsimp only at h; omega) (by omega) (by decide) (Below.refl _ _) (fresh_nil _) (OB.nil _))
        clear hca
        go_upto_region 10 with (first | (go_at_call 33; (with_reducible refine P1.out.mono ?_); rintro e w2 ⟨v2, rfl, o2, b2, f2⟩; have O2 := Lib.hid o2; have B2 := Lib.hid b2; have F2 := Lib.hid f2; have R2 := Lib.hid (row_on b2 HRW.out); have y1 := cell_row (j := 1) R2.out rfl; have y2 := cell_row (j := 2) R2.out rfl; have y3 := cell_row (j := 3) R2.out rfl; have y4 := cell_row (j := 4) R2.out rfl; have y5 := cell_row (j := 5) R2.out rfl; clear o2 b2 f2) | fail)
        go_wp2
        have HE : encR 3 (⟨code, obj, hi, lo, da, nu⟩ : Rp) = ([] ++ le 2 code) := by simp [encR, hcn]
        exact YES.out _ _ (by rw [HE]; exact O2.out) (HBX.out.trans (B2.out.mono HBX.out.size)) (fun b e => Nat.le_trans HBX.out.size (F2.out b e))
set_option maxHeartbeats 4000000 in
set_option maxRecDepth 100000 in
theorem rans_n5 (w : World) (obj hi lo nu : Int) (da : List Int) (Ad : Option Addr) (nd cd : Nat) (hD : RB w (.slice Ad nd cd) da) (hh : U64 hi) (hl : U64 lo) (code : Int) (hcn : ¬ code = 0) :
    Calls Try.prog 16 #[.int .i64 5, .agg #[.int .i64 code, .int .i64 obj, .int .u64 hi, .int .u64 lo, .slice Ad nd cd, .int .i64 nu]] w fun e w' => ∃ v, e = .returned (.tuple #[v, .int .i64 (ansE 5 (⟨code, obj, hi, lo, da, nu⟩ : Rp))]) ∧ OB w' v (ansO 5 (⟨code, obj, hi, lo, da, nu⟩ : Rp)) ∧ Below w.heap.size w w' ∧ Fresh w v := by
  suffices ∀ R : Ending → World → Prop, (∀ e w', (∃ v, e = .returned (.tuple #[v, .int .i64 (ansE 5 (⟨code, obj, hi, lo, da, nu⟩ : Rp))]) ∧ OB w' v (ansO 5 (⟨code, obj, hi, lo, da, nu⟩ : Rp)) ∧ Below w.heap.size w w' ∧ Fresh w v) → R e w') → Calls Try.prog 16 #[.int .i64 5, .agg #[.int .i64 code, .int .i64 obj, .int .u64 hi, .int .u64 lo, .slice Ad nd cd, .int .i64 nu]] w R from this _ (fun _ _ h => h)
  intro R HR
  replace HR := Lib.hid HR
  have hnd : da.length = nd := by obtain ⟨A, c, e, _⟩ := hD; cases e; rfl
  have HND := Lib.hid hnd
  have HD := Lib.hid hD
  have HH := Lib.hid (And.intro hh hl)
  have HBX := Lib.hid ((Below.refl w.heap.size w).alloc (Nat.le_refl _) (.cells #[.int .i64 code, .int .i64 obj, .int .u64 hi, .int .u64 lo, .slice Ad nd cd, .int .i64 nu] 45))
  have NO : Hid (¬ toldR 5 (⟨code, obj, hi, lo, da, nu⟩ : Rp) → ∀ W, Below w.heap.size w W → R (.returned (.tuple #[.slice none 0 0, .int .i64 1])) W) := Lib.hid (fun hn W hb => HR.out _ _ ⟨_, by rw [show ansE 5 (⟨code, obj, hi, lo, da, nu⟩ : Rp) = 1 from if_neg hn], by rw [show ansO 5 (⟨code, obj, hi, lo, da, nu⟩ : Rp) = [] from if_neg hn]; exact OB.nil _, hb, fresh_nil _⟩)
  clear hD hh hl hnd
  go_enter Try.func16, Try.ntmps16
  go_upto_region 3 with fail
  go_cut [32] from 17 to 32 (fun v32 wc => ∃ p, v32 = .bool p ∧ Hid (p = false ↔ toldA 5 (⟨code, obj, hi, lo, da, nu⟩ : Rp)) ∧ wc = (w.alloc (.cells #[.int .i64 code, .int .i64 obj, .int .u64 hi, .int .u64 lo, .slice Ad nd cd, .int .i64 nu] 45)))
  case first =>
    by_cases h0 : 0 ≤ code ∧ code ≤ 65535
    rotate_left
    · skip
      go_wp2_with (first | (go_at_call 42; first | (refine (rin_t _ (by first | assumption | decide)).mono ?_; rintro e w' ⟨rfl, rfl⟩) | (refine (rin_f _ (by first | assumption | decide)).mono ?_; rintro e w' ⟨rfl, rfl⟩)) | fail)
      go_meet
      exact ⟨true, by first | rfl | (simp; done), Lib.hid ⟨fun e => (by cases e), fun e => absurd e (by rintro ⟨a, b, d⟩; dsimp only at a b d; omega)⟩, rfl⟩
    go_wp2_with (first | (go_at_call 42; first | (refine (rin_t _ (by first | assumption | decide)).mono ?_; rintro e w' ⟨rfl, rfl⟩) | (refine (rin_f _ (by first | assumption | decide)).mono ?_; rintro e w' ⟨rfl, rfl⟩)) | fail)
    go_meet
    exact ⟨false, by first | rfl | (simp; done) | simpa using hcn, Lib.hid ⟨fun _ => ⟨by first | assumption | decide | (dsimp only; decide), by first | assumption | decide | (dsimp only; decide), by first | decide | (dsimp only; omega)⟩, fun _ => rfl⟩, rfl⟩
  obtain ⟨p, rfl, HP, rfl⟩ := hcut
  cases p with
  | true =>
    go_wp2
    exact NO.out (fun h => by have := HP.out.2 h.1; cases this) _ HBX.out
  | false =>
    have HA := Lib.hid (HP.out.1 rfl)
    clear HP
    go_upto_region 5 with fail
    go_cut [71] from 33 to 71 (fun v71 wc => ∃ p, v71 = .bool p ∧ Hid (p = false ↔ toldB 5 (⟨code, obj, hi, lo, da, nu⟩ : Rp)) ∧ wc = (w.alloc (.cells #[.int .i64 code, .int .i64 obj, .int .u64 hi, .int .u64 lo, .slice Ad nd cd, .int .i64 nu] 45)))
    case first =>
      by_cases q0 : obj = 0
      · subst q0
        by_cases q1 : hi = 0
        · subst q1
          by_cases q2 : lo = 0
          · subst q2
            by_cases q3 : nd = 0
            · subst q3
              by_cases q4 : nu = 0
              · subst q4
                go_wp2
                go_meet
                exact ⟨_, rfl, Lib.hid (by unfold toldB untR; simp_all [HND.out]), rfl⟩
              · skip
                go_wp2
                go_meet
                exact ⟨_, rfl, Lib.hid (by unfold toldB untR; simp_all [HND.out]), rfl⟩
            · have q3' : (0 : Int) < (nd : Int) := by omega
              by_cases q4 : nu = 0
              · subst q4
                go_wp2
                go_meet
                exact ⟨_, rfl, Lib.hid (by unfold toldB untR; simp_all [HND.out]), rfl⟩
              · skip
                go_wp2
                go_meet
                exact ⟨_, rfl, Lib.hid (by unfold toldB untR; simp_all [HND.out]), rfl⟩
          · skip
            by_cases q3 : nd = 0
            · subst q3
              by_cases q4 : nu = 0
              · subst q4
                go_wp2
                go_meet
                exact ⟨_, rfl, Lib.hid (by unfold toldB untR; simp_all [HND.out]), rfl⟩
              · skip
                go_wp2
                go_meet
                exact ⟨_, rfl, Lib.hid (by unfold toldB untR; simp_all [HND.out]), rfl⟩
            · have q3' : (0 : Int) < (nd : Int) := by omega
              by_cases q4 : nu = 0
              · subst q4
                go_wp2
                go_meet
                exact ⟨_, rfl, Lib.hid (by unfold toldB untR; simp_all [HND.out]), rfl⟩
              · skip
                go_wp2
                go_meet
                exact ⟨_, rfl, Lib.hid (by unfold toldB untR; simp_all [HND.out]), rfl⟩
        · skip
          by_cases q3 : nd = 0
          · subst q3
            by_cases q4 : nu = 0
            · subst q4
              go_wp2
              go_meet
              exact ⟨_, rfl, Lib.hid (by unfold toldB untR; simp_all [HND.out]), rfl⟩
            · skip
              go_wp2
              go_meet
              exact ⟨_, rfl, Lib.hid (by unfold toldB untR; simp_all [HND.out]), rfl⟩
          · have q3' : (0 : Int) < (nd : Int) := by omega
            by_cases q4 : nu = 0
            · subst q4
              go_wp2
              go_meet
              exact ⟨_, rfl, Lib.hid (by unfold toldB untR; simp_all [HND.out]), rfl⟩
            · skip
              go_wp2
              go_meet
              exact ⟨_, rfl, Lib.hid (by unfold toldB untR; simp_all [HND.out]), rfl⟩
      · skip
        by_cases q3 : nd = 0
        · subst q3
          by_cases q4 : nu = 0
          · subst q4
            go_wp2
            go_meet
            exact ⟨_, rfl, Lib.hid (by unfold toldB untR; simp_all [HND.out]), rfl⟩
          · skip
            go_wp2
            go_meet
            exact ⟨_, rfl, Lib.hid (by unfold toldB untR; simp_all [HND.out]), rfl⟩
        · have q3' : (0 : Int) < (nd : Int) := by omega
          by_cases q4 : nu = 0
          · subst q4
            go_wp2
            go_meet
            exact ⟨_, rfl, Lib.hid (by unfold toldB untR; simp_all [HND.out]), rfl⟩
          · skip
            go_wp2
            go_meet
            exact ⟨_, rfl, Lib.hid (by unfold toldB untR; simp_all [HND.out]), rfl⟩
    obtain ⟨p2, rfl, HP, rfl⟩ := hcut
    cases p2 with
    | true =>
      go_wp2
      exact NO.out (fun h => by have := HP.out.2 h.2.1; cases this) _ HBX.out
    | false =>
      have HBB := Lib.hid (HP.out.1 rfl)
      clear HP
      go_upto_region 7 with fail
      go_cut [88] from 72 to 88 (fun v88 wc => ∃ p, v88 = .bool p ∧ Hid (p = false ↔ toldC (⟨code, obj, hi, lo, da, nu⟩ : Rp)) ∧ wc = (w.alloc (.cells #[.int .i64 code, .int .i64 obj, .int .u64 hi, .int .u64 lo, .slice Ad nd cd, .int .i64 nu] 45)))
      case first =>
        by_cases g0 : 0 ≤ obj ∧ obj ≤ 4611686018427387904
        rotate_left
        · skip
          go_wp2_with (first | (go_at_call 42; first | (refine (rin_t _ (by first | assumption | decide)).mono ?_; rintro e w' ⟨rfl, rfl⟩) | (refine (rin_f _ (by first | assumption | decide)).mono ?_; rintro e w' ⟨rfl, rfl⟩)) | fail)
          go_meet
          exact ⟨true, by first | rfl | (simp; done) | (simp; omega), Lib.hid ⟨fun e => (by cases e), fun e => absurd e.1 g0⟩, rfl⟩
        by_cases g1 : 0 ≤ nu ∧ nu ≤ 65535
        rotate_left
        · skip
          go_wp2_with (first | (go_at_call 42; first | (refine (rin_t _ (by first | assumption | decide)).mono ?_; rintro e w' ⟨rfl, rfl⟩) | (refine (rin_f _ (by first | assumption | decide)).mono ?_; rintro e w' ⟨rfl, rfl⟩)) | fail)
          go_meet
          exact ⟨true, by first | rfl | (simp; done) | (simp; omega), Lib.hid ⟨fun e => (by cases e), fun e => absurd e.2.1 g1⟩, rfl⟩
        by_cases g2 : nd ≤ 1024
        rotate_left
        · have gy2 : (1024 : Int) < (nd : Int) := by omega
          go_wp2_with (first | (go_at_call 42; first | (refine (rin_t _ (by first | assumption | decide)).mono ?_; rintro e w' ⟨rfl, rfl⟩) | (refine (rin_f _ (by first | assumption | decide)).mono ?_; rintro e w' ⟨rfl, rfl⟩)) | fail)
          go_meet
          exact ⟨true, by first | rfl | (simp; done) | (simp; omega), Lib.hid ⟨fun e => (by cases e), fun e => absurd e.2.2 (by show ¬ da.length ≤ 1024; rw [HND.out]; exact g2)⟩, rfl⟩
        have gz2 : ¬ ((1024 : Int) < (nd : Int)) := by omega
        go_wp2_with (first | (go_at_call 42; first | (refine (rin_t _ (by first | assumption | decide)).mono ?_; rintro e w' ⟨rfl, rfl⟩) | (refine (rin_f _ (by first | assumption | decide)).mono ?_; rintro e w' ⟨rfl, rfl⟩)) | fail)
        go_meet
        exact ⟨false, by first | rfl | (simp; done) | (simp; omega), Lib.hid ⟨fun _ => ⟨g0, g1, by show da.length ≤ 1024; rw [HND.out]; exact g2⟩, fun _ => rfl⟩, rfl⟩
      obtain ⟨p3, rfl, HP, rfl⟩ := hcut
      cases p3 with
      | true =>
        go_wp2
        exact NO.out (fun h => by have := HP.out.2 h.2.2; cases this) _ HBX.out
      | false =>
        have HTO : Hid (toldR 5 (⟨code, obj, hi, lo, da, nu⟩ : Rp)) := Lib.hid ⟨HA.out, HBB.out, HP.out.1 rfl⟩
        have HCC := Lib.hid (HP.out.1 rfl)
        clear HP
        have YES : Hid (∀ v W, OB W v (encR 5 (⟨code, obj, hi, lo, da, nu⟩ : Rp)) → Below w.heap.size w W → Fresh w v → R (.returned (.tuple #[v, .int .i64 0])) W) := Lib.hid (fun v W h1 h2 h3 => HR.out _ _ ⟨v, by rw [show ansE 5 (⟨code, obj, hi, lo, da, nu⟩ : Rp) = 0 from if_pos HTO.out], by rw [show ansO 5 (⟨code, obj, hi, lo, da, nu⟩ : Rp) = encR 5 (⟨code, obj, hi, lo, da, nu⟩ : Rp) from if_pos HTO.out]; exact h1, h2, h3⟩)
        obtain ⟨B, hB⟩ : ∃ B, w.heap.size = B := ⟨_, rfl⟩
        have HRW : Hid ((w.alloc (.cells #[.int .i64 code, .int .i64 obj, .int .u64 hi, .int .u64 lo, .slice Ad nd cd, .int .i64 nu] 45)).heap[B]? = some (.cells #[.int .i64 code, .int .i64 obj, .int .u64 hi, .int .u64 lo, .slice Ad nd cd, .int .i64 nu] 45)) := Lib.hid (row_new hB.symm)
        have HSZ : Hid (B < (w.alloc (.cells #[.int .i64 code, .int .i64 obj, .int .u64 hi, .int .u64 lo, .slice Ad nd cd, .int .i64 nu] 45)).heap.size) := Lib.hid (by simp [hB])
        generalize (w.alloc (.cells #[.int .i64 code, .int .i64 obj, .int .u64 hi, .int .u64 lo, .slice Ad nd cd, .int .i64 nu] 45)) = W1 at HBX HRW HSZ ⊢
        have hca := HA.out.2.1
        have P1 := Lib.hid (put_r W1 W1 (.slice none 0 0) [] code 2 2 (by omega) (by have h := HA.out.2.1; dsimp only at h; omega) (by have h := HA.out.2.1; dsimp only at h; omega) (by omega) (by decide) (Below.refl _ _) (fresh_nil _) (OB.nil _))
        clear hca
        go_upto_region 10 with (first | (go_at_call 33; (with_reducible refine P1.out.mono ?_); rintro e w2 ⟨v2, rfl, o2, b2, f2⟩; have O2 := Lib.hid o2; have B2 := Lib.hid b2; have F2 := Lib.hid f2; have R2 := Lib.hid (row_on b2 HRW.out); have y1 := cell_row (j := 1) R2.out rfl; have y2 := cell_row (j := 2) R2.out rfl; have y3 := cell_row (j := 3) R2.out rfl; have y4 := cell_row (j := 4) R2.out rfl; have y5 := cell_row (j := 5) R2.out rfl; clear o2 b2 f2) | fail)
        go_wp2
        have HE : encR 5 (⟨code, obj, hi, lo, da, nu⟩ : Rp) = ([] ++ le 2 code) := by simp [encR, hcn]
        exact YES.out _ _ (by rw [HE]; exact O2.out) (HBX.out.trans (B2.out.mono HBX.out.size)) (fun b e => Nat.le_trans HBX.out.size (F2.out b e))
set_option maxHeartbeats 4000000 in
set_option maxRecDepth 100000 in
theorem rans_n9 (w : World) (obj hi lo nu : Int) (da : List Int) (Ad : Option Addr) (nd cd : Nat) (hD : RB w (.slice Ad nd cd) da) (hh : U64 hi) (hl : U64 lo) (code : Int) (hcn : ¬ code = 0) :
    Calls Try.prog 16 #[.int .i64 9, .agg #[.int .i64 code, .int .i64 obj, .int .u64 hi, .int .u64 lo, .slice Ad nd cd, .int .i64 nu]] w fun e w' => ∃ v, e = .returned (.tuple #[v, .int .i64 (ansE 9 (⟨code, obj, hi, lo, da, nu⟩ : Rp))]) ∧ OB w' v (ansO 9 (⟨code, obj, hi, lo, da, nu⟩ : Rp)) ∧ Below w.heap.size w w' ∧ Fresh w v := by
  suffices ∀ R : Ending → World → Prop, (∀ e w', (∃ v, e = .returned (.tuple #[v, .int .i64 (ansE 9 (⟨code, obj, hi, lo, da, nu⟩ : Rp))]) ∧ OB w' v (ansO 9 (⟨code, obj, hi, lo, da, nu⟩ : Rp)) ∧ Below w.heap.size w w' ∧ Fresh w v) → R e w') → Calls Try.prog 16 #[.int .i64 9, .agg #[.int .i64 code, .int .i64 obj, .int .u64 hi, .int .u64 lo, .slice Ad nd cd, .int .i64 nu]] w R from this _ (fun _ _ h => h)
  intro R HR
  replace HR := Lib.hid HR
  have hnd : da.length = nd := by obtain ⟨A, c, e, _⟩ := hD; cases e; rfl
  have HND := Lib.hid hnd
  have HD := Lib.hid hD
  have HH := Lib.hid (And.intro hh hl)
  have HBX := Lib.hid ((Below.refl w.heap.size w).alloc (Nat.le_refl _) (.cells #[.int .i64 code, .int .i64 obj, .int .u64 hi, .int .u64 lo, .slice Ad nd cd, .int .i64 nu] 45))
  have NO : Hid (¬ toldR 9 (⟨code, obj, hi, lo, da, nu⟩ : Rp) → ∀ W, Below w.heap.size w W → R (.returned (.tuple #[.slice none 0 0, .int .i64 1])) W) := Lib.hid (fun hn W hb => HR.out _ _ ⟨_, by rw [show ansE 9 (⟨code, obj, hi, lo, da, nu⟩ : Rp) = 1 from if_neg hn], by rw [show ansO 9 (⟨code, obj, hi, lo, da, nu⟩ : Rp) = [] from if_neg hn]; exact OB.nil _, hb, fresh_nil _⟩)
  clear hD hh hl hnd
  go_enter Try.func16, Try.ntmps16
  go_upto_region 3 with fail
  go_cut [32] from 17 to 32 (fun v32 wc => ∃ p, v32 = .bool p ∧ Hid (p = false ↔ toldA 9 (⟨code, obj, hi, lo, da, nu⟩ : Rp)) ∧ wc = (w.alloc (.cells #[.int .i64 code, .int .i64 obj, .int .u64 hi, .int .u64 lo, .slice Ad nd cd, .int .i64 nu] 45)))
  case first =>
    by_cases h0 : 0 ≤ code ∧ code ≤ 65535
    rotate_left
    · skip
      go_wp2_with (first | (go_at_call 42; first | (refine (rin_t _ (by first | assumption | decide)).mono ?_; rintro e w' ⟨rfl, rfl⟩) | (refine (rin_f _ (by first | assumption | decide)).mono ?_; rintro e w' ⟨rfl, rfl⟩)) | fail)
      go_meet
      exact ⟨true, by first | rfl | (simp; done), Lib.hid ⟨fun e => (by cases e), fun e => absurd e (by rintro ⟨a, b, d⟩; dsimp only at a b d; omega)⟩, rfl⟩
    go_wp2_with (first | (go_at_call 42; first | (refine (rin_t _ (by first | assumption | decide)).mono ?_; rintro e w' ⟨rfl, rfl⟩) | (refine (rin_f _ (by first | assumption | decide)).mono ?_; rintro e w' ⟨rfl, rfl⟩)) | fail)
    go_meet
    exact ⟨false, by first | rfl | (simp; done) | simpa using hcn, Lib.hid ⟨fun _ => ⟨by first | assumption | decide | (dsimp only; decide), by first | assumption | decide | (dsimp only; decide), by first | decide | (dsimp only; omega)⟩, fun _ => rfl⟩, rfl⟩
  obtain ⟨p, rfl, HP, rfl⟩ := hcut
  cases p with
  | true =>
    go_wp2
    exact NO.out (fun h => by have := HP.out.2 h.1; cases this) _ HBX.out
  | false =>
    have HA := Lib.hid (HP.out.1 rfl)
    clear HP
    go_upto_region 5 with fail
    go_cut [71] from 33 to 71 (fun v71 wc => ∃ p, v71 = .bool p ∧ Hid (p = false ↔ toldB 9 (⟨code, obj, hi, lo, da, nu⟩ : Rp)) ∧ wc = (w.alloc (.cells #[.int .i64 code, .int .i64 obj, .int .u64 hi, .int .u64 lo, .slice Ad nd cd, .int .i64 nu] 45)))
    case first =>
      by_cases q0 : obj = 0
      · subst q0
        by_cases q1 : hi = 0
        · subst q1
          by_cases q2 : lo = 0
          · subst q2
            by_cases q3 : nd = 0
            · subst q3
              by_cases q4 : nu = 0
              · subst q4
                go_wp2
                go_meet
                exact ⟨_, rfl, Lib.hid (by unfold toldB untR; simp_all [HND.out]), rfl⟩
              · skip
                go_wp2
                go_meet
                exact ⟨_, rfl, Lib.hid (by unfold toldB untR; simp_all [HND.out]), rfl⟩
            · have q3' : (0 : Int) < (nd : Int) := by omega
              by_cases q4 : nu = 0
              · subst q4
                go_wp2
                go_meet
                exact ⟨_, rfl, Lib.hid (by unfold toldB untR; simp_all [HND.out]), rfl⟩
              · skip
                go_wp2
                go_meet
                exact ⟨_, rfl, Lib.hid (by unfold toldB untR; simp_all [HND.out]), rfl⟩
          · skip
            by_cases q3 : nd = 0
            · subst q3
              by_cases q4 : nu = 0
              · subst q4
                go_wp2
                go_meet
                exact ⟨_, rfl, Lib.hid (by unfold toldB untR; simp_all [HND.out]), rfl⟩
              · skip
                go_wp2
                go_meet
                exact ⟨_, rfl, Lib.hid (by unfold toldB untR; simp_all [HND.out]), rfl⟩
            · have q3' : (0 : Int) < (nd : Int) := by omega
              by_cases q4 : nu = 0
              · subst q4
                go_wp2
                go_meet
                exact ⟨_, rfl, Lib.hid (by unfold toldB untR; simp_all [HND.out]), rfl⟩
              · skip
                go_wp2
                go_meet
                exact ⟨_, rfl, Lib.hid (by unfold toldB untR; simp_all [HND.out]), rfl⟩
        · skip
          by_cases q3 : nd = 0
          · subst q3
            by_cases q4 : nu = 0
            · subst q4
              go_wp2
              go_meet
              exact ⟨_, rfl, Lib.hid (by unfold toldB untR; simp_all [HND.out]), rfl⟩
            · skip
              go_wp2
              go_meet
              exact ⟨_, rfl, Lib.hid (by unfold toldB untR; simp_all [HND.out]), rfl⟩
          · have q3' : (0 : Int) < (nd : Int) := by omega
            by_cases q4 : nu = 0
            · subst q4
              go_wp2
              go_meet
              exact ⟨_, rfl, Lib.hid (by unfold toldB untR; simp_all [HND.out]), rfl⟩
            · skip
              go_wp2
              go_meet
              exact ⟨_, rfl, Lib.hid (by unfold toldB untR; simp_all [HND.out]), rfl⟩
      · skip
        by_cases q3 : nd = 0
        · subst q3
          by_cases q4 : nu = 0
          · subst q4
            go_wp2
            go_meet
            exact ⟨_, rfl, Lib.hid (by unfold toldB untR; simp_all [HND.out]), rfl⟩
          · skip
            go_wp2
            go_meet
            exact ⟨_, rfl, Lib.hid (by unfold toldB untR; simp_all [HND.out]), rfl⟩
        · have q3' : (0 : Int) < (nd : Int) := by omega
          by_cases q4 : nu = 0
          · subst q4
            go_wp2
            go_meet
            exact ⟨_, rfl, Lib.hid (by unfold toldB untR; simp_all [HND.out]), rfl⟩
          · skip
            go_wp2
            go_meet
            exact ⟨_, rfl, Lib.hid (by unfold toldB untR; simp_all [HND.out]), rfl⟩
    obtain ⟨p2, rfl, HP, rfl⟩ := hcut
    cases p2 with
    | true =>
      go_wp2
      exact NO.out (fun h => by have := HP.out.2 h.2.1; cases this) _ HBX.out
    | false =>
      have HBB := Lib.hid (HP.out.1 rfl)
      clear HP
      go_upto_region 7 with fail
      go_cut [88] from 72 to 88 (fun v88 wc => ∃ p, v88 = .bool p ∧ Hid (p = false ↔ toldC (⟨code, obj, hi, lo, da, nu⟩ : Rp)) ∧ wc = (w.alloc (.cells #[.int .i64 code, .int .i64 obj, .int .u64 hi, .int .u64 lo, .slice Ad nd cd, .int .i64 nu] 45)))
      case first =>
        by_cases g0 : 0 ≤ obj ∧ obj ≤ 4611686018427387904
        rotate_left
        · skip
          go_wp2_with (first | (go_at_call 42; first | (refine (rin_t _ (by first | assumption | decide)).mono ?_; rintro e w' ⟨rfl, rfl⟩) | (refine (rin_f _ (by first | assumption | decide)).mono ?_; rintro e w' ⟨rfl, rfl⟩)) | fail)
          go_meet
          exact ⟨true, by first | rfl | (simp; done) | (simp; omega), Lib.hid ⟨fun e => (by cases e), fun e => absurd e.1 g0⟩, rfl⟩
        by_cases g1 : 0 ≤ nu ∧ nu ≤ 65535
        rotate_left
        · skip
          go_wp2_with (first | (go_at_call 42; first | (refine (rin_t _ (by first | assumption | decide)).mono ?_; rintro e w' ⟨rfl, rfl⟩) | (refine (rin_f _ (by first | assumption | decide)).mono ?_; rintro e w' ⟨rfl, rfl⟩)) | fail)
          go_meet
          exact ⟨true, by first | rfl | (simp; done) | (simp; omega), Lib.hid ⟨fun e => (by cases e), fun e => absurd e.2.1 g1⟩, rfl⟩
        by_cases g2 : nd ≤ 1024
        rotate_left
        · have gy2 : (1024 : Int) < (nd : Int) := by omega
          go_wp2_with (first | (go_at_call 42; first | (refine (rin_t _ (by first | assumption | decide)).mono ?_; rintro e w' ⟨rfl, rfl⟩) | (refine (rin_f _ (by first | assumption | decide)).mono ?_; rintro e w' ⟨rfl, rfl⟩)) | fail)
          go_meet
          exact ⟨true, by first | rfl | (simp; done) | (simp; omega), Lib.hid ⟨fun e => (by cases e), fun e => absurd e.2.2 (by show ¬ da.length ≤ 1024; rw [HND.out]; exact g2)⟩, rfl⟩
        have gz2 : ¬ ((1024 : Int) < (nd : Int)) := by omega
        go_wp2_with (first | (go_at_call 42; first | (refine (rin_t _ (by first | assumption | decide)).mono ?_; rintro e w' ⟨rfl, rfl⟩) | (refine (rin_f _ (by first | assumption | decide)).mono ?_; rintro e w' ⟨rfl, rfl⟩)) | fail)
        go_meet
        exact ⟨false, by first | rfl | (simp; done) | (simp; omega), Lib.hid ⟨fun _ => ⟨g0, g1, by show da.length ≤ 1024; rw [HND.out]; exact g2⟩, fun _ => rfl⟩, rfl⟩
      obtain ⟨p3, rfl, HP, rfl⟩ := hcut
      cases p3 with
      | true =>
        go_wp2
        exact NO.out (fun h => by have := HP.out.2 h.2.2; cases this) _ HBX.out
      | false =>
        have HTO : Hid (toldR 9 (⟨code, obj, hi, lo, da, nu⟩ : Rp)) := Lib.hid ⟨HA.out, HBB.out, HP.out.1 rfl⟩
        have HCC := Lib.hid (HP.out.1 rfl)
        clear HP
        have YES : Hid (∀ v W, OB W v (encR 9 (⟨code, obj, hi, lo, da, nu⟩ : Rp)) → Below w.heap.size w W → Fresh w v → R (.returned (.tuple #[v, .int .i64 0])) W) := Lib.hid (fun v W h1 h2 h3 => HR.out _ _ ⟨v, by rw [show ansE 9 (⟨code, obj, hi, lo, da, nu⟩ : Rp) = 0 from if_pos HTO.out], by rw [show ansO 9 (⟨code, obj, hi, lo, da, nu⟩ : Rp) = encR 9 (⟨code, obj, hi, lo, da, nu⟩ : Rp) from if_pos HTO.out]; exact h1, h2, h3⟩)
        obtain ⟨B, hB⟩ : ∃ B, w.heap.size = B := ⟨_, rfl⟩
        have HRW : Hid ((w.alloc (.cells #[.int .i64 code, .int .i64 obj, .int .u64 hi, .int .u64 lo, .slice Ad nd cd, .int .i64 nu] 45)).heap[B]? = some (.cells #[.int .i64 code, .int .i64 obj, .int .u64 hi, .int .u64 lo, .slice Ad nd cd, .int .i64 nu] 45)) := Lib.hid (row_new hB.symm)
        have HSZ : Hid (B < (w.alloc (.cells #[.int .i64 code, .int .i64 obj, .int .u64 hi, .int .u64 lo, .slice Ad nd cd, .int .i64 nu] 45)).heap.size) := Lib.hid (by simp [hB])
        generalize (w.alloc (.cells #[.int .i64 code, .int .i64 obj, .int .u64 hi, .int .u64 lo, .slice Ad nd cd, .int .i64 nu] 45)) = W1 at HBX HRW HSZ ⊢
        have hca := HA.out.2.1
        have P1 := Lib.hid (put_r W1 W1 (.slice none 0 0) [] code 2 2 (by omega) (by have h := HA.out.2.1; dsimp only at h; omega) (by have h := HA.out.2.1; dsimp only at h; omega) (by omega) (by decide) (Below.refl _ _) (fresh_nil _) (OB.nil _))
        clear hca
        go_upto_region 10 with (first | (go_at_call 33; (with_reducible refine P1.out.mono ?_); rintro e w2 ⟨v2, rfl, o2, b2, f2⟩; have O2 := Lib.hid o2; have B2 := Lib.hid b2; have F2 := Lib.hid f2; have R2 := Lib.hid (row_on b2 HRW.out); have y1 := cell_row (j := 1) R2.out rfl; have y2 := cell_row (j := 2) R2.out rfl; have y3 := cell_row (j := 3) R2.out rfl; have y4 := cell_row (j := 4) R2.out rfl; have y5 := cell_row (j := 5) R2.out rfl; clear o2 b2 f2) | fail)
        go_wp2
        have HE : encR 9 (⟨code, obj, hi, lo, da, nu⟩ : Rp) = ([] ++ le 2 code) := by simp [encR, hcn]
        exact YES.out _ _ (by rw [HE]; exact O2.out) (HBX.out.trans (B2.out.mono HBX.out.size)) (fun b e => Nat.le_trans HBX.out.size (F2.out b e))
set_option maxHeartbeats 4000000 in
set_option maxRecDepth 100000 in
theorem rans_no (w : World) (obj hi lo nu : Int) (da : List Int) (Ad : Option Addr) (nd cd : Nat) (hD : RB w (.slice Ad nd cd) da) (hh : U64 hi) (hl : U64 lo) (code : Int) (hcn : ¬ code = 0) (op : Int) (h1 : ¬ op = 1) (h3 : ¬ op = 3) (h5 : ¬ op = 5) (h9 : ¬ op = 9) :
    Calls Try.prog 16 #[.int .i64 op, .agg #[.int .i64 code, .int .i64 obj, .int .u64 hi, .int .u64 lo, .slice Ad nd cd, .int .i64 nu]] w fun e w' => ∃ v, e = .returned (.tuple #[v, .int .i64 (ansE op (⟨code, obj, hi, lo, da, nu⟩ : Rp))]) ∧ OB w' v (ansO op (⟨code, obj, hi, lo, da, nu⟩ : Rp)) ∧ Below w.heap.size w w' ∧ Fresh w v := by
  suffices ∀ R : Ending → World → Prop, (∀ e w', (∃ v, e = .returned (.tuple #[v, .int .i64 (ansE op (⟨code, obj, hi, lo, da, nu⟩ : Rp))]) ∧ OB w' v (ansO op (⟨code, obj, hi, lo, da, nu⟩ : Rp)) ∧ Below w.heap.size w w' ∧ Fresh w v) → R e w') → Calls Try.prog 16 #[.int .i64 op, .agg #[.int .i64 code, .int .i64 obj, .int .u64 hi, .int .u64 lo, .slice Ad nd cd, .int .i64 nu]] w R from this _ (fun _ _ h => h)
  intro R HR
  replace HR := Lib.hid HR
  have hnd : da.length = nd := by obtain ⟨A, c, e, _⟩ := hD; cases e; rfl
  have HND := Lib.hid hnd
  have HD := Lib.hid hD
  have HH := Lib.hid (And.intro hh hl)
  have HBX := Lib.hid ((Below.refl w.heap.size w).alloc (Nat.le_refl _) (.cells #[.int .i64 code, .int .i64 obj, .int .u64 hi, .int .u64 lo, .slice Ad nd cd, .int .i64 nu] 45))
  have NO : Hid (¬ toldR op (⟨code, obj, hi, lo, da, nu⟩ : Rp) → ∀ W, Below w.heap.size w W → R (.returned (.tuple #[.slice none 0 0, .int .i64 1])) W) := Lib.hid (fun hn W hb => HR.out _ _ ⟨_, by rw [show ansE op (⟨code, obj, hi, lo, da, nu⟩ : Rp) = 1 from if_neg hn], by rw [show ansO op (⟨code, obj, hi, lo, da, nu⟩ : Rp) = [] from if_neg hn]; exact OB.nil _, hb, fresh_nil _⟩)
  clear hD hh hl hnd
  have e1 : (op == 1) = false := by simpa using h1
  have e3 : (op == 3) = false := by simpa using h3
  have e5 : (op == 5) = false := by simpa using h5
  have e9 : (op == 9) = false := by simpa using h9
  go_enter Try.func16, Try.ntmps16
  go_upto_region 3 with fail
  go_cut [32] from 17 to 32 (fun v32 wc => ∃ p, v32 = .bool p ∧ Hid (p = false ↔ toldA op (⟨code, obj, hi, lo, da, nu⟩ : Rp)) ∧ wc = (w.alloc (.cells #[.int .i64 code, .int .i64 obj, .int .u64 hi, .int .u64 lo, .slice Ad nd cd, .int .i64 nu] 45)))
  case first =>
    by_cases hz0 : op = 0
    · subst hz0
      by_cases h0 : 0 ≤ code ∧ code ≤ 65535
      rotate_left
      · skip
        go_wp2_with (first | (go_at_call 42; first | (refine (rin_t _ (by first | assumption | decide)).mono ?_; rintro e w' ⟨rfl, rfl⟩) | (refine (rin_f _ (by first | assumption | decide)).mono ?_; rintro e w' ⟨rfl, rfl⟩)) | fail)
        go_meet
        exact ⟨true, by first | rfl | (simp; done), Lib.hid ⟨fun e => (by cases e), fun e => absurd e (by rintro ⟨a, b, d⟩; dsimp only at a b d; omega)⟩, rfl⟩
      go_wp2_with (first | (go_at_call 42; first | (refine (rin_t _ (by first | assumption | decide)).mono ?_; rintro e w' ⟨rfl, rfl⟩) | (refine (rin_f _ (by first | assumption | decide)).mono ?_; rintro e w' ⟨rfl, rfl⟩)) | fail)
      go_meet
      exact ⟨false, by first | rfl | (simp; done) | simpa using hcn, Lib.hid ⟨fun _ => ⟨by first | assumption | decide | (dsimp only; decide), by first | assumption | decide | (dsimp only; decide), by first | decide | (dsimp only; omega)⟩, fun _ => rfl⟩, rfl⟩
    · skip
      by_cases h0 : 0 ≤ op ∧ op ≤ 10
      rotate_left
      · skip
        go_wp2_with (first | (go_at_call 42; first | (refine (rin_t _ (by first | assumption | decide)).mono ?_; rintro e w' ⟨rfl, rfl⟩) | (refine (rin_f _ (by first | assumption | decide)).mono ?_; rintro e w' ⟨rfl, rfl⟩)) | fail)
        go_meet
        exact ⟨true, by first | rfl | (simp; done), Lib.hid ⟨fun e => (by cases e), fun e => absurd e (by rintro ⟨a, b, d⟩; dsimp only at a b d; omega)⟩, rfl⟩
      by_cases h1 : 0 ≤ code ∧ code ≤ 65535
      rotate_left
      · skip
        go_wp2_with (first | (go_at_call 42; first | (refine (rin_t _ (by first | assumption | decide)).mono ?_; rintro e w' ⟨rfl, rfl⟩) | (refine (rin_f _ (by first | assumption | decide)).mono ?_; rintro e w' ⟨rfl, rfl⟩)) | fail)
        go_meet
        exact ⟨true, by first | rfl | (simp; done), Lib.hid ⟨fun e => (by cases e), fun e => absurd e (by rintro ⟨a, b, d⟩; dsimp only at a b d; omega)⟩, rfl⟩
      go_wp2_with (first | (go_at_call 42; first | (refine (rin_t _ (by first | assumption | decide)).mono ?_; rintro e w' ⟨rfl, rfl⟩) | (refine (rin_f _ (by first | assumption | decide)).mono ?_; rintro e w' ⟨rfl, rfl⟩)) | fail)
      go_meet
      exact ⟨false, by first | rfl | (simp; done) | simpa using hcn, Lib.hid ⟨fun _ => ⟨by first | assumption | decide | (dsimp only; decide), by first | assumption | decide | (dsimp only; decide), by first | decide | (dsimp only; omega)⟩, fun _ => rfl⟩, rfl⟩
  obtain ⟨p, rfl, HP, rfl⟩ := hcut
  cases p with
  | true =>
    go_wp2
    exact NO.out (fun h => by have := HP.out.2 h.1; cases this) _ HBX.out
  | false =>
    have HA := Lib.hid (HP.out.1 rfl)
    clear HP
    go_upto_region 5 with fail
    go_cut [71] from 33 to 71 (fun v71 wc => ∃ p, v71 = .bool p ∧ Hid (p = false ↔ toldB op (⟨code, obj, hi, lo, da, nu⟩ : Rp)) ∧ wc = (w.alloc (.cells #[.int .i64 code, .int .i64 obj, .int .u64 hi, .int .u64 lo, .slice Ad nd cd, .int .i64 nu] 45)))
    case first =>
      by_cases q0 : obj = 0
      · subst q0
        by_cases q1 : hi = 0
        · subst q1
          by_cases q2 : lo = 0
          · subst q2
            by_cases q3 : nd = 0
            · subst q3
              by_cases q4 : nu = 0
              · subst q4
                go_wp2
                go_meet
                exact ⟨_, rfl, Lib.hid (by unfold toldB untR; simp_all [HND.out]), rfl⟩
              · skip
                go_wp2
                go_meet
                exact ⟨_, rfl, Lib.hid (by unfold toldB untR; simp_all [HND.out]), rfl⟩
            · have q3' : (0 : Int) < (nd : Int) := by omega
              by_cases q4 : nu = 0
              · subst q4
                go_wp2
                go_meet
                exact ⟨_, rfl, Lib.hid (by unfold toldB untR; simp_all [HND.out]), rfl⟩
              · skip
                go_wp2
                go_meet
                exact ⟨_, rfl, Lib.hid (by unfold toldB untR; simp_all [HND.out]), rfl⟩
          · skip
            by_cases q3 : nd = 0
            · subst q3
              by_cases q4 : nu = 0
              · subst q4
                go_wp2
                go_meet
                exact ⟨_, rfl, Lib.hid (by unfold toldB untR; simp_all [HND.out]), rfl⟩
              · skip
                go_wp2
                go_meet
                exact ⟨_, rfl, Lib.hid (by unfold toldB untR; simp_all [HND.out]), rfl⟩
            · have q3' : (0 : Int) < (nd : Int) := by omega
              by_cases q4 : nu = 0
              · subst q4
                go_wp2
                go_meet
                exact ⟨_, rfl, Lib.hid (by unfold toldB untR; simp_all [HND.out]), rfl⟩
              · skip
                go_wp2
                go_meet
                exact ⟨_, rfl, Lib.hid (by unfold toldB untR; simp_all [HND.out]), rfl⟩
        · skip
          by_cases q3 : nd = 0
          · subst q3
            by_cases q4 : nu = 0
            · subst q4
              go_wp2
              go_meet
              exact ⟨_, rfl, Lib.hid (by unfold toldB untR; simp_all [HND.out]), rfl⟩
            · skip
              go_wp2
              go_meet
              exact ⟨_, rfl, Lib.hid (by unfold toldB untR; simp_all [HND.out]), rfl⟩
          · have q3' : (0 : Int) < (nd : Int) := by omega
            by_cases q4 : nu = 0
            · subst q4
              go_wp2
              go_meet
              exact ⟨_, rfl, Lib.hid (by unfold toldB untR; simp_all [HND.out]), rfl⟩
            · skip
              go_wp2
              go_meet
              exact ⟨_, rfl, Lib.hid (by unfold toldB untR; simp_all [HND.out]), rfl⟩
      · skip
        by_cases q3 : nd = 0
        · subst q3
          by_cases q4 : nu = 0
          · subst q4
            go_wp2
            go_meet
            exact ⟨_, rfl, Lib.hid (by unfold toldB untR; simp_all [HND.out]), rfl⟩
          · skip
            go_wp2
            go_meet
            exact ⟨_, rfl, Lib.hid (by unfold toldB untR; simp_all [HND.out]), rfl⟩
        · have q3' : (0 : Int) < (nd : Int) := by omega
          by_cases q4 : nu = 0
          · subst q4
            go_wp2
            go_meet
            exact ⟨_, rfl, Lib.hid (by unfold toldB untR; simp_all [HND.out]), rfl⟩
          · skip
            go_wp2
            go_meet
            exact ⟨_, rfl, Lib.hid (by unfold toldB untR; simp_all [HND.out]), rfl⟩
    obtain ⟨p2, rfl, HP, rfl⟩ := hcut
    cases p2 with
    | true =>
      go_wp2
      exact NO.out (fun h => by have := HP.out.2 h.2.1; cases this) _ HBX.out
    | false =>
      have HBB := Lib.hid (HP.out.1 rfl)
      clear HP
      go_upto_region 7 with fail
      go_cut [88] from 72 to 88 (fun v88 wc => ∃ p, v88 = .bool p ∧ Hid (p = false ↔ toldC (⟨code, obj, hi, lo, da, nu⟩ : Rp)) ∧ wc = (w.alloc (.cells #[.int .i64 code, .int .i64 obj, .int .u64 hi, .int .u64 lo, .slice Ad nd cd, .int .i64 nu] 45)))
      case first =>
        by_cases g0 : 0 ≤ obj ∧ obj ≤ 4611686018427387904
        rotate_left
        · skip
          go_wp2_with (first | (go_at_call 42; first | (refine (rin_t _ (by first | assumption | decide)).mono ?_; rintro e w' ⟨rfl, rfl⟩) | (refine (rin_f _ (by first | assumption | decide)).mono ?_; rintro e w' ⟨rfl, rfl⟩)) | fail)
          go_meet
          exact ⟨true, by first | rfl | (simp; done) | (simp; omega), Lib.hid ⟨fun e => (by cases e), fun e => absurd e.1 g0⟩, rfl⟩
        by_cases g1 : 0 ≤ nu ∧ nu ≤ 65535
        rotate_left
        · skip
          go_wp2_with (first | (go_at_call 42; first | (refine (rin_t _ (by first | assumption | decide)).mono ?_; rintro e w' ⟨rfl, rfl⟩) | (refine (rin_f _ (by first | assumption | decide)).mono ?_; rintro e w' ⟨rfl, rfl⟩)) | fail)
          go_meet
          exact ⟨true, by first | rfl | (simp; done) | (simp; omega), Lib.hid ⟨fun e => (by cases e), fun e => absurd e.2.1 g1⟩, rfl⟩
        by_cases g2 : nd ≤ 1024
        rotate_left
        · have gy2 : (1024 : Int) < (nd : Int) := by omega
          go_wp2_with (first | (go_at_call 42; first | (refine (rin_t _ (by first | assumption | decide)).mono ?_; rintro e w' ⟨rfl, rfl⟩) | (refine (rin_f _ (by first | assumption | decide)).mono ?_; rintro e w' ⟨rfl, rfl⟩)) | fail)
          go_meet
          exact ⟨true, by first | rfl | (simp; done) | (simp; omega), Lib.hid ⟨fun e => (by cases e), fun e => absurd e.2.2 (by show ¬ da.length ≤ 1024; rw [HND.out]; exact g2)⟩, rfl⟩
        have gz2 : ¬ ((1024 : Int) < (nd : Int)) := by omega
        go_wp2_with (first | (go_at_call 42; first | (refine (rin_t _ (by first | assumption | decide)).mono ?_; rintro e w' ⟨rfl, rfl⟩) | (refine (rin_f _ (by first | assumption | decide)).mono ?_; rintro e w' ⟨rfl, rfl⟩)) | fail)
        go_meet
        exact ⟨false, by first | rfl | (simp; done) | (simp; omega), Lib.hid ⟨fun _ => ⟨g0, g1, by show da.length ≤ 1024; rw [HND.out]; exact g2⟩, fun _ => rfl⟩, rfl⟩
      obtain ⟨p3, rfl, HP, rfl⟩ := hcut
      cases p3 with
      | true =>
        go_wp2
        exact NO.out (fun h => by have := HP.out.2 h.2.2; cases this) _ HBX.out
      | false =>
        have HTO : Hid (toldR op (⟨code, obj, hi, lo, da, nu⟩ : Rp)) := Lib.hid ⟨HA.out, HBB.out, HP.out.1 rfl⟩
        have HCC := Lib.hid (HP.out.1 rfl)
        clear HP
        have YES : Hid (∀ v W, OB W v (encR op (⟨code, obj, hi, lo, da, nu⟩ : Rp)) → Below w.heap.size w W → Fresh w v → R (.returned (.tuple #[v, .int .i64 0])) W) := Lib.hid (fun v W h1 h2 h3 => HR.out _ _ ⟨v, by rw [show ansE op (⟨code, obj, hi, lo, da, nu⟩ : Rp) = 0 from if_pos HTO.out], by rw [show ansO op (⟨code, obj, hi, lo, da, nu⟩ : Rp) = encR op (⟨code, obj, hi, lo, da, nu⟩ : Rp) from if_pos HTO.out]; exact h1, h2, h3⟩)
        obtain ⟨B, hB⟩ : ∃ B, w.heap.size = B := ⟨_, rfl⟩
        have HRW : Hid ((w.alloc (.cells #[.int .i64 code, .int .i64 obj, .int .u64 hi, .int .u64 lo, .slice Ad nd cd, .int .i64 nu] 45)).heap[B]? = some (.cells #[.int .i64 code, .int .i64 obj, .int .u64 hi, .int .u64 lo, .slice Ad nd cd, .int .i64 nu] 45)) := Lib.hid (row_new hB.symm)
        have HSZ : Hid (B < (w.alloc (.cells #[.int .i64 code, .int .i64 obj, .int .u64 hi, .int .u64 lo, .slice Ad nd cd, .int .i64 nu] 45)).heap.size) := Lib.hid (by simp [hB])
        generalize (w.alloc (.cells #[.int .i64 code, .int .i64 obj, .int .u64 hi, .int .u64 lo, .slice Ad nd cd, .int .i64 nu] 45)) = W1 at HBX HRW HSZ ⊢
        have hca := HA.out.2.1
        have P1 := Lib.hid (put_r W1 W1 (.slice none 0 0) [] code 2 2 (by omega) (by have h := HA.out.2.1; dsimp only at h; omega) (by have h := HA.out.2.1; dsimp only at h; omega) (by omega) (by decide) (Below.refl _ _) (fresh_nil _) (OB.nil _))
        clear hca
        go_upto_region 10 with (first | (go_at_call 33; (with_reducible refine P1.out.mono ?_); rintro e w2 ⟨v2, rfl, o2, b2, f2⟩; have O2 := Lib.hid o2; have B2 := Lib.hid b2; have F2 := Lib.hid f2; have R2 := Lib.hid (row_on b2 HRW.out); have y1 := cell_row (j := 1) R2.out rfl; have y2 := cell_row (j := 2) R2.out rfl; have y3 := cell_row (j := 3) R2.out rfl; have y4 := cell_row (j := 4) R2.out rfl; have y5 := cell_row (j := 5) R2.out rfl; clear o2 b2 f2) | fail)
        go_wp2
        have HE : encR op (⟨code, obj, hi, lo, da, nu⟩ : Rp) = ([] ++ le 2 code) := by simp [encR, hcn]
        exact YES.out _ _ (by rw [HE]; exact O2.out) (HBX.out.trans (B2.out.mono HBX.out.size)) (fun b e => Nat.le_trans HBX.out.size (F2.out b e))
end Go.Proofs.Ytfpkdbogapmhmaa.O

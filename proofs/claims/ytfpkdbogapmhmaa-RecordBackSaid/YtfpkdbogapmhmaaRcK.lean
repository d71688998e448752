/- Record: Answer writes a reply (written by gen_rck.py). -/
import Derived.Test.YtfpkdbogapmhmaaRcG
import Derived.Test.YtfpkdbogapmhmaaRcI
namespace Go.Proofs.Ytfpkdbogapmhmaa.O
open Go.RowKit Go.Proofs.Ytfpkdbogapmhmaa.Mem
set_option linter.unusedVariables false
set_option linter.unusedSimpArgs false
def rcells (r : Rp) (D : Value) : Array Value := #[.int .i64 r.code, .int .i64 r.obj, .int .u64 r.hi, .int .u64 r.lo, D, .int .i64 r.nu]
def rv (r : Rp) (D : Value) : Value := .agg (rcells r D)
def UR (X : Rp) (e : Ending) : Prop := ∃ A k n, e = .returned (rv X (.slice A n k)) ∧ n = X.da.length
set_option maxHeartbeats 4000000 in
set_option maxRecDepth 100000 in
theorem untold_any (w : World) (op : Int) (r : Rp) (D : Value) (hD : SL D r.da.length) :
    Calls Try.prog 65 #[.int .i64 op, rv r D] w fun e w' => UR (untR op r) e ∧ Below w.heap.size w w' := by
  obtain ⟨code, obj, hi, lo, da, nu⟩ := r
  obtain ⟨Ad, cd, rfl⟩ := hD
  obtain ⟨nd, hnd⟩ : ∃ nd, da.length = nd := ⟨_, rfl⟩
  simp only [hnd]
  have HD := Lib.hid hnd
  clear hnd
  unfold untR rv rcells
  simp only
  by_cases h0 : code = 0
  rotate_left
  · rw [if_pos h0]
    go_enter Try.func65, Try.ntmps65
    go_wp2
    refine bodyPost_ret (results_cell_row rfl _ _ (w.heap.size + 1) 45 _ (0, 0) _ rfl (row_new (by simp)) Try.underlying45 rfl info45) rfl ?_
    refine ⟨?_, ((Below.refl _ w).alloc (Nat.le_refl _) _).alloc (by simp) _⟩
    first | exact ⟨_, _, _, rfl, HD.out.symm⟩ | exact ⟨_, _, _, rfl, rfl⟩
  subst h0
  simp only [ne_eq, not_true_eq_false, if_false]
  by_cases h1 : op = 1
  · subst h1
    go_enter Try.func65, Try.ntmps65
    go_wp2
    refine bodyPost_ret (results_cell_row rfl _ _ (w.heap.size + 1) 45 _ (0, 0) _ rfl (row_new (by simp)) Try.underlying45 rfl info45) rfl ?_
    refine ⟨?_, ((Below.refl _ w).alloc (Nat.le_refl _) _).alloc (by simp) _⟩
    first | exact ⟨_, _, _, rfl, HD.out.symm⟩ | exact ⟨_, _, _, rfl, rfl⟩
  by_cases h3 : op = 3
  · subst h3
    go_enter Try.func65, Try.ntmps65
    go_wp2
    refine bodyPost_ret (results_cell_row rfl _ _ (w.heap.size + 1) 45 _ (0, 0) _ rfl (row_new (by simp)) Try.underlying45 rfl info45) rfl ?_
    refine ⟨?_, ((Below.refl _ w).alloc (Nat.le_refl _) _).alloc (by simp) _⟩
    first | exact ⟨_, _, _, rfl, HD.out.symm⟩ | exact ⟨_, _, _, rfl, rfl⟩
  by_cases h5 : op = 5
  · subst h5
    go_enter Try.func65, Try.ntmps65
    go_wp2
    refine bodyPost_ret (results_cell_row rfl _ _ (w.heap.size + 1) 45 _ (0, 0) _ rfl (row_new (by simp)) Try.underlying45 rfl info45) rfl ?_
    refine ⟨?_, ((Below.refl _ w).alloc (Nat.le_refl _) _).alloc (by simp) _⟩
    first | exact ⟨_, _, _, rfl, HD.out.symm⟩ | exact ⟨_, _, _, rfl, rfl⟩
  by_cases h9 : op = 9
  · subst h9
    go_enter Try.func65, Try.ntmps65
    go_wp2
    refine bodyPost_ret (results_cell_row rfl _ _ (w.heap.size + 1) 45 _ (0, 0) _ rfl (row_new (by simp)) Try.underlying45 rfl info45) rfl ?_
    refine ⟨?_, ((Below.refl _ w).alloc (Nat.le_refl _) _).alloc (by simp) _⟩
    first | exact ⟨_, _, _, rfl, HD.out.symm⟩ | exact ⟨_, _, _, rfl, rfl⟩
  rw [if_neg (by omega), if_neg h5, if_neg h9]
  go_enter Try.func65, Try.ntmps65
  go_wp2
  refine bodyPost_ret (results_cell_row rfl _ _ (w.heap.size + 1) 45 _ (0, 0) _ rfl (row_new (by simp)) Try.underlying45 rfl info45) rfl ?_
  refine ⟨?_, ((Below.refl _ w).alloc (Nat.le_refl _) _).alloc (by simp) _⟩
  first | exact ⟨_, _, _, rfl, HD.out.symm⟩ | exact ⟨_, _, _, rfl, rfl⟩
set_option maxHeartbeats 4000000 in
set_option maxRecDepth 100000 in
theorem told_any (w : World) (op : Int) (r : Rp) (D : Value) (hD : SL D r.da.length) :
    Calls Try.prog 41 #[.int .i64 op, rv r D] w fun e w' => e = .returned (.bool (decide (toldR op r))) ∧ Below w.heap.size w w' := by
  obtain ⟨TT, hT⟩ : ∃ b, decide (toldR op r) = b := ⟨_, rfl⟩
  rw [hT]
  have HT := Lib.hid hT
  have HU := Lib.hid (fun a => untold_any a op r D hD)
  obtain ⟨U, hU⟩ : ∃ U, untR op r = U := ⟨_, rfl⟩
  have HUU := Lib.hid hU
  rw [hU] at HU
  obtain ⟨code, obj, hi, lo, da, nu⟩ := r
  obtain ⟨c', o', h', l', d', n'⟩ := U
  obtain ⟨Ad, cd, rfl⟩ := hD
  obtain ⟨nd, hnd⟩ : ∃ nd, da.length = nd := ⟨_, rfl⟩
  unfold rv rcells at HU ⊢
  simp only [hnd] at HU ⊢
  have HND := Lib.hid hnd
  have HBX := Lib.hid ((Below.refl w.heap.size w).alloc (Nat.le_refl _) (.cells #[.int .i64 code, .int .i64 obj, .int .u64 hi, .int .u64 lo, .slice Ad nd cd, .int .i64 nu] 45))
  have HRW : Hid ((w.alloc (.cells #[.int .i64 code, .int .i64 obj, .int .u64 hi, .int .u64 lo, .slice Ad nd cd, .int .i64 nu] 45)).heap[w.heap.size]? = some (.cells #[.int .i64 code, .int .i64 obj, .int .u64 hi, .int .u64 lo, .slice Ad nd cd, .int .i64 nu] 45)) := row_new rfl
  obtain ⟨B, hB⟩ : ∃ B, w.heap.size = B := ⟨_, rfl⟩
  have HBB := Lib.hid hB
  clear hnd hT hU
  go_enter Try.func41, Try.ntmps41
  go_upto_region 2 with (first | (go_at_call 65; refine (HU.out _).mono ?_; rintro e w1 ⟨⟨A1, k1, m1, he, hm1⟩, hb1⟩; simp only [rv, rcells] at he; subst he; have HM1 := Lib.hid hm1; have HB1 := Lib.hid hb1; have hrow := row_on hb1 HRW.out; rw [hB] at hrow; have HROW := Lib.hid hrow; have y0 := cell_row (j := 0) hrow rfl; have y1 := cell_row (j := 1) hrow rfl; have y4 := cell_row (j := 4) hrow rfl; have y5 := cell_row (j := 5) hrow rfl; have hlt := lt_of_row hrow; have hne := Nat.ne_of_lt hlt; clear hm1 hb1 hrow) | fail)
  go_cut [43] from 9 to 43 (fun v43 wc => ∃ p, v43 = .bool p ∧ (p = false ↔ toldA op (⟨code, obj, hi, lo, da, nu⟩ : Rp) ∧ ((o' = 0 ∧ h' = 0 ∧ l' = 0) ∧ m1 = 0 ∧ n' = 0)) ∧ wc = (w1.alloc (.cells #[.int .i64 c', .int .i64 o', .int .u64 h', .int .u64 l', .slice A1 m1 k1, .int .i64 n'] 45)))
  case first =>
    by_cases hop : op = 0
    · subst hop
      by_cases h0 : 0 ≤ code ∧ code ≤ 65535
      rotate_left
      · skip
        go_wp2_with (first | (go_at_call 47; first | (refine (within_t _ (by first | assumption | decide)).mono ?_; rintro e w' ⟨rfl, rfl⟩) | (refine (within_f _ (by assumption)).mono ?_; rintro e w' ⟨rfl, rfl⟩)) | fail)
        go_meet
        exact ⟨true, by first | rfl | (symm; simpa using h0) | (simp; omega), ⟨fun e => (by cases e), fun e => absurd e.1.2.1 h0⟩, rfl⟩
      by_cases h1 : ¬ code = 0
      rotate_left
      · skip
        obtain rfl : code = 0 := by omega
        go_wp2_with (first | (go_at_call 47; first | (refine (within_t _ (by first | assumption | decide)).mono ?_; rintro e w' ⟨rfl, rfl⟩) | (refine (within_f _ (by assumption)).mono ?_; rintro e w' ⟨rfl, rfl⟩)) | fail)
        go_meet
        exact ⟨true, by first | rfl | (symm; simpa using h1) | (simp; omega), ⟨fun e => (by cases e), fun e => (e.1.2.2 ⟨rfl, rfl⟩).elim⟩, rfl⟩
      by_cases h2 : o' = 0
      rotate_left
      · skip
        go_wp2_with (first | (go_at_call 47; first | (refine (within_t _ (by first | assumption | decide)).mono ?_; rintro e w' ⟨rfl, rfl⟩) | (refine (within_f _ (by assumption)).mono ?_; rintro e w' ⟨rfl, rfl⟩)) | fail)
        go_meet
        exact ⟨true, by first | rfl | (symm; simpa using h2) | (simp; omega), ⟨fun e => (by cases e), fun e => absurd e.2.1.1 h2⟩, rfl⟩
      subst h2
      by_cases h3 : h' = 0
      rotate_left
      · skip
        go_wp2_with (first | (go_at_call 47; first | (refine (within_t _ (by first | assumption | decide)).mono ?_; rintro e w' ⟨rfl, rfl⟩) | (refine (within_f _ (by assumption)).mono ?_; rintro e w' ⟨rfl, rfl⟩)) | fail)
        go_meet
        exact ⟨true, by first | rfl | (symm; simpa using h3) | (simp; omega), ⟨fun e => (by cases e), fun e => absurd e.2.1.2.1 h3⟩, rfl⟩
      subst h3
      by_cases h4 : l' = 0
      rotate_left
      · skip
        go_wp2_with (first | (go_at_call 47; first | (refine (within_t _ (by first | assumption | decide)).mono ?_; rintro e w' ⟨rfl, rfl⟩) | (refine (within_f _ (by assumption)).mono ?_; rintro e w' ⟨rfl, rfl⟩)) | fail)
        go_meet
        exact ⟨true, by first | rfl | (symm; simpa using h4) | (simp; omega), ⟨fun e => (by cases e), fun e => absurd e.2.1.2.2 h4⟩, rfl⟩
      subst h4
      by_cases h5 : m1 = 0
      rotate_left
      · skip
        have h6' : 0 < m1 := by omega
        go_wp2_with (first | (go_at_call 47; first | (refine (within_t _ (by first | assumption | decide)).mono ?_; rintro e w' ⟨rfl, rfl⟩) | (refine (within_f _ (by assumption)).mono ?_; rintro e w' ⟨rfl, rfl⟩)) | fail)
        go_meet
        exact ⟨true, by first | rfl | (symm; simpa using h5) | (simp; omega), ⟨fun e => (by cases e), fun e => absurd e.2.2.1 h5⟩, rfl⟩
      subst h5
      by_cases h6 : n' = 0
      rotate_left
      · skip
        go_wp2_with (first | (go_at_call 47; first | (refine (within_t _ (by first | assumption | decide)).mono ?_; rintro e w' ⟨rfl, rfl⟩) | (refine (within_f _ (by assumption)).mono ?_; rintro e w' ⟨rfl, rfl⟩)) | fail)
        go_meet
        exact ⟨true, by first | rfl | (symm; simpa using h6) | (simp; omega), ⟨fun e => (by cases e), fun e => absurd e.2.2.2 h6⟩, rfl⟩
      subst h6
      go_wp2_with (first | (go_at_call 47; first | (refine (within_t _ (by first | assumption | decide)).mono ?_; rintro e w' ⟨rfl, rfl⟩) | (refine (within_f _ (by assumption)).mono ?_; rintro e w' ⟨rfl, rfl⟩)) | fail)
      go_meet
      exact ⟨false, by first | rfl | (simp; done) | simpa using h1 | (simp; omega), ⟨fun _ => ⟨⟨⟨by decide, by decide⟩, h0, fun e => absurd e.2 (by first | assumption | omega | simpa using h1)⟩, by simp⟩, fun _ => by trivial⟩, rfl⟩
    · skip
      by_cases h0 : 0 ≤ op ∧ op ≤ 10
      rotate_left
      · skip
        go_wp2_with (first | (go_at_call 47; first | (refine (within_t _ (by first | assumption | decide)).mono ?_; rintro e w' ⟨rfl, rfl⟩) | (refine (within_f _ (by assumption)).mono ?_; rintro e w' ⟨rfl, rfl⟩)) | fail)
        go_meet
        exact ⟨true, by first | rfl | (symm; simpa using h0) | (simp; omega), ⟨fun e => (by cases e), fun e => absurd e.1.1 h0⟩, rfl⟩
      by_cases h1 : 0 ≤ code ∧ code ≤ 65535
      rotate_left
      · skip
        go_wp2_with (first | (go_at_call 47; first | (refine (within_t _ (by first | assumption | decide)).mono ?_; rintro e w' ⟨rfl, rfl⟩) | (refine (within_f _ (by assumption)).mono ?_; rintro e w' ⟨rfl, rfl⟩)) | fail)
        go_meet
        exact ⟨true, by first | rfl | (symm; simpa using h1) | (simp; omega), ⟨fun e => (by cases e), fun e => absurd e.1.2.1 h1⟩, rfl⟩
      by_cases h2 : o' = 0
      rotate_left
      · skip
        go_wp2_with (first | (go_at_call 47; first | (refine (within_t _ (by first | assumption | decide)).mono ?_; rintro e w' ⟨rfl, rfl⟩) | (refine (within_f _ (by assumption)).mono ?_; rintro e w' ⟨rfl, rfl⟩)) | fail)
        go_meet
        exact ⟨true, by first | rfl | (symm; simpa using h2) | (simp; omega), ⟨fun e => (by cases e), fun e => absurd e.2.1.1 h2⟩, rfl⟩
      subst h2
      by_cases h3 : h' = 0
      rotate_left
      · skip
        go_wp2_with (first | (go_at_call 47; first | (refine (within_t _ (by first | assumption | decide)).mono ?_; rintro e w' ⟨rfl, rfl⟩) | (refine (within_f _ (by assumption)).mono ?_; rintro e w' ⟨rfl, rfl⟩)) | fail)
        go_meet
        exact ⟨true, by first | rfl | (symm; simpa using h3) | (simp; omega), ⟨fun e => (by cases e), fun e => absurd e.2.1.2.1 h3⟩, rfl⟩
      subst h3
      by_cases h4 : l' = 0
      rotate_left
      · skip
        go_wp2_with (first | (go_at_call 47; first | (refine (within_t _ (by first | assumption | decide)).mono ?_; rintro e w' ⟨rfl, rfl⟩) | (refine (within_f _ (by assumption)).mono ?_; rintro e w' ⟨rfl, rfl⟩)) | fail)
        go_meet
        exact ⟨true, by first | rfl | (symm; simpa using h4) | (simp; omega), ⟨fun e => (by cases e), fun e => absurd e.2.1.2.2 h4⟩, rfl⟩
      subst h4
      by_cases h5 : m1 = 0
      rotate_left
      · skip
        have h6' : 0 < m1 := by omega
        go_wp2_with (first | (go_at_call 47; first | (refine (within_t _ (by first | assumption | decide)).mono ?_; rintro e w' ⟨rfl, rfl⟩) | (refine (within_f _ (by assumption)).mono ?_; rintro e w' ⟨rfl, rfl⟩)) | fail)
        go_meet
        exact ⟨true, by first | rfl | (symm; simpa using h5) | (simp; omega), ⟨fun e => (by cases e), fun e => absurd e.2.2.1 h5⟩, rfl⟩
      subst h5
      by_cases h6 : n' = 0
      rotate_left
      · skip
        go_wp2_with (first | (go_at_call 47; first | (refine (within_t _ (by first | assumption | decide)).mono ?_; rintro e w' ⟨rfl, rfl⟩) | (refine (within_f _ (by assumption)).mono ?_; rintro e w' ⟨rfl, rfl⟩)) | fail)
        go_meet
        exact ⟨true, by first | rfl | (symm; simpa using h6) | (simp; omega), ⟨fun e => (by cases e), fun e => absurd e.2.2.2 h6⟩, rfl⟩
      subst h6
      go_wp2_with (first | (go_at_call 47; first | (refine (within_t _ (by first | assumption | decide)).mono ?_; rintro e w' ⟨rfl, rfl⟩) | (refine (within_f _ (by assumption)).mono ?_; rintro e w' ⟨rfl, rfl⟩)) | fail)
      go_meet
      exact ⟨false, by first | rfl | (simp; done) | simpa using h1 | (simp; omega), ⟨fun _ => ⟨⟨h0, h1, fun e => hop e.1⟩, by simp⟩, fun _ => by trivial⟩, rfl⟩
  case rest =>
    obtain ⟨p, rfl, HP, rfl⟩ := hcut
    replace HP := Lib.hid HP
    have HAB : Hid (toldR op (⟨code, obj, hi, lo, da, nu⟩ : Rp) ↔ (p = false ∧ toldC (⟨code, obj, hi, lo, da, nu⟩ : Rp))) := by
      show toldR op (⟨code, obj, hi, lo, da, nu⟩ : Rp) ↔ (p = false ∧ toldC (⟨code, obj, hi, lo, da, nu⟩ : Rp))
      rw [HP.out, ← HM1.out.symm]
      unfold toldR toldB
      rw [HUU.out]
      simp only
      constructor
      · rintro ⟨a, b, c⟩; exact ⟨⟨a, b⟩, c⟩
      · rintro ⟨⟨a, b⟩, c⟩; exact ⟨a, b, c⟩
    have HW1 : Hid (Below w.heap.size w w1) := Lib.hid (HBX.out.trans (HB1.out.mono HBX.out.size))
    cases p with
    | true =>
      obtain rfl : TT = false := by rw [← HT.out]; exact decide_eq_false (fun h => by have := (HAB.out.1 h).1; cases this)
      go_wp2
      go_ret
      exact ⟨rfl, HW1.out.alloc HW1.out.size _⟩
    | false =>
      have HC : Hid (decide (toldC (⟨code, obj, hi, lo, da, nu⟩ : Rp)) = TT) := by
        show decide (toldC (⟨code, obj, hi, lo, da, nu⟩ : Rp)) = TT
        rw [← HT.out]
        by_cases h : toldC (⟨code, obj, hi, lo, da, nu⟩ : Rp)
        · rw [decide_eq_true h]; exact (decide_eq_true (HAB.out.2 ⟨rfl, h⟩)).symm
        · rw [decide_eq_false h]; exact (decide_eq_false (fun h2 => h (HAB.out.1 h2).2)).symm
      by_cases h0 : 0 ≤ obj ∧ obj ≤ 4611686018427387904
      rotate_left
      · skip
        obtain rfl : TT = false := by rw [← HC.out]; exact decide_eq_false (fun e => absurd e.1 h0)
        go_wp2_with (first | (go_at_call 47; first | (refine (within_t _ (by first | assumption | decide)).mono ?_; rintro e w' ⟨rfl, rfl⟩) | (refine (within_f _ (by assumption)).mono ?_; rintro e w' ⟨rfl, rfl⟩)) | fail)
        go_ret
        exact ⟨ret_bool rfl (by first | rfl | (simp; omega)), HW1.out.alloc HW1.out.size _⟩
      by_cases h1 : 0 ≤ nu ∧ nu ≤ 65535
      rotate_left
      · skip
        obtain rfl : TT = false := by rw [← HC.out]; exact decide_eq_false (fun e => absurd e.2.1 h1)
        go_wp2_with (first | (go_at_call 47; first | (refine (within_t _ (by first | assumption | decide)).mono ?_; rintro e w' ⟨rfl, rfl⟩) | (refine (within_f _ (by assumption)).mono ?_; rintro e w' ⟨rfl, rfl⟩)) | fail)
        go_ret
        exact ⟨ret_bool rfl (by first | rfl | (simp; omega)), HW1.out.alloc HW1.out.size _⟩
      by_cases h2 : nd ≤ 1024
      rotate_left
      · skip
        have hz2 : ¬ (((nd : Nat) : Int) ≤ 1024) := by omega
        obtain rfl : TT = false := by rw [← HC.out]; exact decide_eq_false (fun e => absurd e.2.2 (by show ¬ da.length ≤ 1024; rw [HND.out]; exact h2))
        go_wp2_with (first | (go_at_call 47; first | (refine (within_t _ (by first | assumption | decide)).mono ?_; rintro e w' ⟨rfl, rfl⟩) | (refine (within_f _ (by assumption)).mono ?_; rintro e w' ⟨rfl, rfl⟩)) | fail)
        go_ret
        exact ⟨ret_bool rfl (by first | rfl | (simp; omega)), HW1.out.alloc HW1.out.size _⟩
      have hy2 : ((nd : Nat) : Int) ≤ 1024 := by omega
      obtain rfl : TT = true := by rw [← HC.out]; exact decide_eq_true ⟨h0, h1, by show da.length ≤ 1024; rw [HND.out]; exact h2⟩
      go_wp2_with (first | (go_at_call 47; first | (refine (within_t _ (by first | assumption | decide)).mono ?_; rintro e w' ⟨rfl, rfl⟩) | (refine (within_f _ (by assumption)).mono ?_; rintro e w' ⟨rfl, rfl⟩)) | fail)
      go_ret
      exact ⟨ret_bool rfl (by first | rfl | simp | (simp; omega)), HW1.out.alloc HW1.out.size _⟩

end Go.Proofs.Ytfpkdbogapmhmaa.O

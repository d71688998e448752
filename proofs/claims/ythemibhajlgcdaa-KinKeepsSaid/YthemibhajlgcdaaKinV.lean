/- alive, does, should. Own text; Ythemibhajlgcdaa and the numbers between @..@ are the seat's. -/
import Derived.Test.YthemibhajlgcdaaKinU
namespace Go.Proofs.Ythemibhajlgcdaa.Kin
open Go.RowKit Go.Proofs.Ythemibhajlgcdaa.Mem
set_option linter.unusedVariables false
set_option maxHeartbeats 4000000 in
theorem alive_any (w : World) : Calls Try.prog 9 #[] w fun e w' => e = .returned (.bool true) ∧ Below w.heap.size w w' := by
  have HX := Lib.hid (new_in w 4 (by decide))
  rw [show ((4 : Nat) : Int) = 4 from rfl] at HX
  go_enter Try.func9, Try.ntmps9
  go_wp2_with fail
  (with_reducible refine HX.out.mono ?_)
  rintro e w1 ⟨p, g, rfl, b1, k1⟩
  have HW := Lib.hid b1
  have HK := Lib.hid k1
  clear HX b1 k1
  have HX := Lib.hid (root_any w1 p g 4 [] _ _ HK.out 2)
  have step : ∀ (a b : World) (L : List (Int × Int)), Below w.heap.size w a → Kept (fun b => w.heap.size ≤ b) a b → (∃ V', Kt b p g 4 L V' (fun x => w.heap.size ≤ x ∨ a.heap.size ≤ x)) → Below w.heap.size w b ∧ ∃ V', Kt b p g 4 L V' (fun x => w.heap.size ≤ x) := fun _ _ _ h1 h2 h3 => by
    obtain ⟨V', h4⟩ := h3
    exact ⟨h1.trans (h2.below (fun x hx => hx) h1.size), V', h4.mono (fun x hx => by have := h1.size; rcases hx with e | e <;> omega)⟩
  have STEP := Lib.hid step
  clear step
  go_wp2_with (first | (go_at_call 8; (refine (num_any _ _).mono ?_); rintro e w9 ⟨rfl, rfl⟩) | fail)
  (with_reducible refine HX.out.mono ?_)
  rintro e w2 ⟨rfl, k2, v2⟩
  obtain ⟨HW2, V2, K2⟩ := STEP.out _ _ _ HW.out k2 v2
  replace HW := Lib.hid HW2
  replace HK := Lib.hid K2
  rw [show rootL 4 [] 2 = [(2, -1)] by decide] at HK
  rw [show rootE 4 [] 2 = 0 by decide]
  clear HX k2 v2 HW2 K2
  have HX := Lib.hid (child_any w2 p g 4 _ _ _ HK.out 2 0)
  go_wp2_with (first | (go_at_call 8; (refine (num_any _ _).mono ?_); rintro e w9 ⟨rfl, rfl⟩) | fail)
  (with_reducible refine HX.out.mono ?_)
  rintro e w3 ⟨rfl, k2, v2⟩
  obtain ⟨HW2, V3, K2⟩ := STEP.out _ _ _ HW.out k2 v2
  replace HW := Lib.hid HW2
  replace HK := Lib.hid K2
  rw [show childL 4 [(2, -1)] 2 0 = [(2, -1), (0, 2)] by decide] at HK
  rw [show childE 4 [(2, -1)] 2 0 = 0 by decide]
  clear HX k2 v2 HW2 K2
  have HX := Lib.hid (cut_any w3 p g 4 _ _ _ HK.out 2)
  go_wp2_with (first | (go_at_call 8; (refine (num_any _ _).mono ?_); rintro e w9 ⟨rfl, rfl⟩) | fail)
  (with_reducible refine HX.out.mono ?_)
  rintro e w4 ⟨rfl, k2, v2⟩
  obtain ⟨HW2, V4, K2⟩ := STEP.out _ _ _ HW.out k2 v2
  replace HW := Lib.hid HW2
  replace HK := Lib.hid K2
  rw [show cutL [(2, -1), (0, 2)] 2 = [(2, -1), (0, 2)] by decide] at HK
  rw [show cutE [(2, -1), (0, 2)] 2 = 19 by decide]
  clear HX k2 v2 HW2 K2
  have HX := Lib.hid (parent_any w4 p g 4 _ _ _ HK.out 0)
  rw [show par [(2, -1), (0, 2)] 0 = 2 by decide, show has [(2, -1), (0, 2)] 0 = true by decide] at HX
  have HY := Lib.hid (has_any w4 p g 4 _ _ _ HK.out 0)
  rw [show has [(2, -1), (0, 2)] 0 = true by decide] at HY
  have HZ := Lib.hid (children_any w4 p g 4 _ _ _ HK.out 2)
  rw [show kids [(2, -1), (0, 2)] 2 = [0] by decide, show ([0] : List Int).length = 1 from rfl] at HZ
  go_wp2_with (first | (go_at_call 8; (refine (num_any _ _).mono ?_); rintro e w9 ⟨rfl, rfl⟩) | fail)
  (with_reducible refine HX.out.mono ?_)
  rintro e w9 ⟨rfl, rfl⟩
  go_wp2_with fail
  (with_reducible refine HY.out.mono ?_)
  rintro e w9 ⟨rfl, rfl⟩
  go_wp2_with fail
  (with_reducible refine HZ.out.mono ?_)
  rintro e w5 ⟨A, c, rfl, o5, b5, _⟩
  have HA := (Below.refl _ w5).alloc (Nat.le_refl _) (.cells #[.int .i64 0] 3)
  have NS := Lib.hid (numbers_same (w5.alloc (.cells #[.int .i64 0] 3)) _ _ [0] (reads_own rfl (own_keeps o5 (Kept.of_below HA))) (reads_new [0] 1 rfl (by decide) _ rfl))
  have HW5 : Hid (Below w.heap.size w (w5.alloc (.cells #[.int .i64 0] 3))) := (HW.out.trans (b5.mono HW.out.size)).alloc (Nat.le_trans HW.out.size b5.size) _
  clear o5 b5 HA
  go_wp2_with fail
  (with_reducible refine NS.out.mono ?_)
  rintro e w6 ⟨rfl, b6⟩
  have HW6 : Hid (Below w.heap.size w w6) := HW5.out.trans (b6.mono HW5.out.size)
  clear b6
  go_wp2_with fail
  go_ret
  exact ⟨rfl, HW6.out⟩
def doE (m : Nat) (L : List (Int × Int)) (k q n : Int) : Int := if k = 1 then rootE m L n else if k = 2 then childE m L q n else if k = 3 then cutE L n else 0
def doL (m : Nat) (L : List (Int × Int)) (k q n : Int) : List (Int × Int) := if k = 1 then rootL m L n else if k = 2 then childL m L q n else if k = 3 then cutL L n else L
theorem doE_rng (m : Nat) (L : List (Int × Int)) (k q n : Int) : 0 ≤ doE m L k q n ∧ doE m L k q n ≤ 20 := by
  unfold doE rootE childE cutE
  repeat' split
  all_goals omega
set_option maxHeartbeats 2000000 in
theorem does_any (w : World) (p g m : Nat) (L : List (Int × Int)) (V : Nat → Value) (F : Nat → Prop) (h : Kt w p g m L V F) (k q n : Int) : Calls Try.prog 10 #[.pointer (some ⟨p, 0, none⟩), .agg #[.int .i64 k, .int .i64 q, .int .i64 n]] w fun e w' => e = .returned (.int .i64 (doE m L k q n)) ∧ Kept F w w' ∧ ∃ V', Kt w' p g m (doL m L k q n) V' (fun b => F b ∨ w.heap.size ≤ b) := by
  have hb := (Below.refl _ w).alloc (Nat.le_refl _) (.cells #[.int .i64 k, .int .i64 q, .int .i64 n] 33)
  have HB := Lib.hid hb
  have h1 := h.below hb
  have brow := Lib.hid (heap_alloc_new w (.cells #[.int .i64 k, .int .i64 q, .int .i64 n] 33))
  have back : ∀ (w' : World) (L' : List (Int × Int)), Kept F (w.alloc (.cells #[.int .i64 k, .int .i64 q, .int .i64 n] 33)) w' → (∃ V', Kt w' p g m L' V' (fun b => F b ∨ (w.alloc (.cells #[.int .i64 k, .int .i64 q, .int .i64 n] 33)).heap.size ≤ b)) → Kept F w w' ∧ ∃ V', Kt w' p g m L' V' (fun b => F b ∨ w.heap.size ≤ b) := fun _ _ h1 h2 => by
    obtain ⟨V', h3⟩ := h2
    exact ⟨((Kept.refl F w).alloc _).trans h1 (fun x hx => .inl hx), V', h3.mono (fun b hb => by simp at hb; rcases hb with e | e; exact .inl e; exact .inr (by omega))⟩
  have BACK := Lib.hid back
  clear hb back
  unfold doE doL
  by_cases e1 : k = 1
  · rw [if_pos e1, if_pos e1]
    subst e1
    have HX := Lib.hid (root_any _ p g m L V F h1 n)
    clear h h1
    go_enter Try.func10, Try.ntmps10
    go_wp2_with fail
    (with_reducible refine HX.out.mono ?_)
    rintro e w2 ⟨rfl, k2, v2⟩
    have FIN := Lib.hid (BACK.out _ _ k2 v2)
    clear k2 v2
    go_wp2_with (first | (go_at_call 8; (refine (num_any _ _).mono ?_); rintro e w9 ⟨rfl, rfl⟩) | fail)
    go_ret
    exact ⟨rfl, FIN.out⟩
  rw [if_neg e1, if_neg e1]
  by_cases e2 : k = 2
  · rw [if_pos e2, if_pos e2]
    subst e2
    have HX := Lib.hid (child_any _ p g m L V F h1 q n)
    clear h h1 e1
    go_enter Try.func10, Try.ntmps10
    go_wp2_with fail
    (with_reducible refine HX.out.mono ?_)
    rintro e w2 ⟨rfl, k2, v2⟩
    have FIN := Lib.hid (BACK.out _ _ k2 v2)
    clear k2 v2
    go_wp2_with (first | (go_at_call 8; (refine (num_any _ _).mono ?_); rintro e w9 ⟨rfl, rfl⟩) | fail)
    go_ret
    exact ⟨rfl, FIN.out⟩
  rw [if_neg e2, if_neg e2]
  by_cases e3 : k = 3
  · rw [if_pos e3, if_pos e3]
    subst e3
    have HX := Lib.hid (cut_any _ p g m L V F h1 n)
    clear h h1 e1 e2
    go_enter Try.func10, Try.ntmps10
    go_wp2_with fail
    (with_reducible refine HX.out.mono ?_)
    rintro e w2 ⟨rfl, k2, v2⟩
    have FIN := Lib.hid (BACK.out _ _ k2 v2)
    clear k2 v2
    go_wp2_with (first | (go_at_call 8; (refine (num_any _ _).mono ?_); rintro e w9 ⟨rfl, rfl⟩) | fail)
    go_ret
    exact ⟨rfl, FIN.out⟩
  rw [if_neg e3, if_neg e3]
  have FIN := Lib.hid (BACK.out _ _ (Kept.refl _ _) ⟨V, h1.mono (fun b hb => .inl hb)⟩)
  clear h h1
  go_enter Try.func10, Try.ntmps10
  go_wp2_with fail
  go_ret
  exact ⟨rfl, FIN.out⟩
set_option maxHeartbeats 2000000 in
theorem should_any (w : World) (r m : Nat) (L : List (Int × Int)) (F : Nat → Prop) (h : Rg w r m L F) (k q n : Int) : Calls Try.prog 11 #[.pointer (some ⟨r, 0, none⟩), .agg #[.int .i64 k, .int .i64 q, .int .i64 n]] w fun e w' => e = .returned (.int .i64 (doE m L k q n)) ∧ Kept F w w' ∧ Rg w' r m (doL m L k q n) (fun b => F b ∨ w.heap.size ≤ b) := by
  have hb := (Below.refl _ w).alloc (Nat.le_refl _) (.cells #[.int .i64 k, .int .i64 q, .int .i64 n] 33)
  have h1 := h.below hb
  have back : ∀ (w' : World) (L' : List (Int × Int)), Kept F (w.alloc (.cells #[.int .i64 k, .int .i64 q, .int .i64 n] 33)) w' → Rg w' r m L' (fun b => F b ∨ (w.alloc (.cells #[.int .i64 k, .int .i64 q, .int .i64 n] 33)).heap.size ≤ b) → Kept F w w' ∧ Rg w' r m L' (fun b => F b ∨ w.heap.size ≤ b) := fun _ _ h1 h2 =>
    ⟨((Kept.refl F w).alloc _).trans h1 (fun x hx => .inl hx), h2.mono (fun b hb => by simp at hb; rcases hb with e | e; exact .inl e; exact .inr (by omega))⟩
  have BACK := Lib.hid back
  clear hb back
  unfold doE doL
  by_cases e1 : k = 1
  · rw [if_pos e1, if_pos e1]
    subst e1
    have HX := Lib.hid (rroot_any _ r m L F h1 n)
    clear h h1
    go_enter Try.func11, Try.ntmps11
    go_wp2_with fail
    (with_reducible refine HX.out.mono ?_)
    rintro e w2 ⟨rfl, k2, v2⟩
    have FIN := Lib.hid (BACK.out _ _ k2 v2)
    clear k2 v2
    go_wp2_with fail
    go_ret
    exact ⟨rfl, FIN.out⟩
  rw [if_neg e1, if_neg e1]
  by_cases e2 : k = 2
  · rw [if_pos e2, if_pos e2]
    subst e2
    have HX := Lib.hid (rchild_any _ r m L F h1 q n)
    clear h h1 e1
    go_enter Try.func11, Try.ntmps11
    go_wp2_with fail
    (with_reducible refine HX.out.mono ?_)
    rintro e w2 ⟨rfl, k2, v2⟩
    have FIN := Lib.hid (BACK.out _ _ k2 v2)
    clear k2 v2
    go_wp2_with fail
    go_ret
    exact ⟨rfl, FIN.out⟩
  rw [if_neg e2, if_neg e2]
  by_cases e3 : k = 3
  · rw [if_pos e3, if_pos e3]
    subst e3
    have HX := Lib.hid (rcut_any _ r m L F h1 n)
    clear h h1 e1 e2
    go_enter Try.func11, Try.ntmps11
    go_wp2_with fail
    (with_reducible refine HX.out.mono ?_)
    rintro e w2 ⟨rfl, k2, v2⟩
    have FIN := Lib.hid (BACK.out _ _ k2 v2)
    clear k2 v2
    go_wp2_with fail
    go_ret
    exact ⟨rfl, FIN.out⟩
  rw [if_neg e3, if_neg e3]
  have FIN := Lib.hid (BACK.out _ _ (Kept.refl _ _) (h1.mono (fun b hb => .inl hb)))
  clear h h1
  go_enter Try.func11, Try.ntmps11
  go_wp2_with fail
  go_ret
  exact ⟨rfl, FIN.out⟩
end Go.Proofs.Ythemibhajlgcdaa.Kin

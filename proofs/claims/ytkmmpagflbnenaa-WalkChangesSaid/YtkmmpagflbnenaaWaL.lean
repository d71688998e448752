/- alive. Own text; Ytkmmpagflbnenaa and the numbers between @..@ are the seat's. -/
import Derived.Test.YtkmmpagflbnenaaWaK
namespace Go.Proofs.Ytkmmpagflbnenaa.Kin
open Go.RowKit Go.Proofs.Ytkmmpagflbnenaa.Mem
set_option linter.unusedVariables false
def scr : List (Int × Int × Int) := [(1, 0, 2), (2, 2, 0), (2, 2, 3), (2, 0, 1), (2, 3, 5), (1, 0, 4)]
theorem scr_run : runL 6 scr = [(2, -1), (0, 2), (3, 2), (1, 0), (5, 3), (4, -1)] := by decide
set_option maxHeartbeats 4000000 in
theorem alive_any (w : World) : Calls Try.prog 8 #[] w fun e w' => e = .returned (.bool true) ∧ Below w.heap.size w w' := by
  have HW : Hid (∀ cs : Array Value, cs = #[.int .i64 1, .int .i64 0, .int .i64 2, .int .i64 2, .int .i64 2, .int .i64 0, .int .i64 2, .int .i64 2, .int .i64 3, .int .i64 2, .int .i64 0, .int .i64 1, .int .i64 2, .int .i64 3, .int .i64 5, .int .i64 1, .int .i64 0, .int .i64 4] → ReadsOps (w.alloc (.cells cs 30)) (.slice (some ⟨w.heap.size, 0, none⟩) 6 6) scr) := fun cs hcs => by
    refine ⟨_, _, rfl, by decide, by decide, fun _ => ⟨w.heap.size, 0, rfl, fun i x hx j u hu => ?_⟩⟩
    refine cell_row (heap_alloc_new w _) ?_
    subst hcs
    rw [Nat.zero_add]
    have hi : i < 6 := (List.getElem?_eq_some_iff.1 hx).1
    have hj : j < 3 := (List.getElem?_eq_some_iff.1 hu).1
    match i, hi with
    | 0, _ | 1, _ | 2, _ | 3, _ | 4, _ | 5, _ =>
      obtain rfl := Option.some.inj hx
      match j, hj with
      | 0, _ | 1, _ | 2, _ => exact hu
  have HB0 : Hid (∀ o, Below w.heap.size w (w.alloc o)) := fun o => (Below.refl _ w).alloc (Nat.le_refl _) _
  have HX := Lib.hid (forest_any _ 6 (by decide) _ scr (HW.out _ rfl))
  rw [scr_run, show ((6 : Nat) : Int) = 6 from rfl] at HX
  go_enter Try.func8, Try.ntmps8
  go_wp2_with fail
  (with_reducible refine HX.out.mono ?_)
  rintro e w1 ⟨p, g, r, rfl, d1, b1⟩
  have B : Hid (Below w.heap.size w w1) := (HB0.out _).trans (b1.mono (HB0.out _).size)
  obtain ⟨V, F, G, k1, _, _, _⟩ := d1
  have HK : Hid (∀ w', Below w1.heap.size w1 w' → Kt w' p g 6 [(2, -1), (0, 2), (3, 2), (1, 0), (5, 3), (4, -1)] V F) := fun w' hb => k1.below hb
  clear k1 b1 HX HW HB0
  have C := Lib.hid (downs_any w1 p g 6 _ V F (HK.out w1 (Below.refl _ _)) 2)
  rw [show dnl [(2, -1), (0, 2), (3, 2), (1, 0), (5, 3), (4, -1)] false 2 = [2, 0, 1, 3, 5] by decide, show ([2, 0, 1, 3, 5] : List Int).length = 5 from rfl] at C
  go_wp2_with fail
  (with_reducible refine C.out.mono ?_)
  rintro e w2 ⟨A2, c2, rfl, o2, b2, _⟩
  have B2 := Lib.hid b2
  have O2 := Lib.hid o2
  replace C := Lib.hid (ups_any w2 p g 6 _ V F (HK.out w2 b2) 1)
  rw [show upl [(2, -1), (0, 2), (3, 2), (1, 0), (5, 3), (4, -1)] 1 = [1, 0, 2] by decide, show ([1, 0, 2] : List Int).length = 3 from rfl] at C
  clear o2 b2
  go_wp2_with fail
  (with_reducible refine C.out.mono ?_)
  rintro e w3 ⟨A3, c3, rfl, o3, b3, _⟩
  replace O2 := Lib.hid (own_keeps O2.out (Kept.of_below b3))
  replace B2 := Lib.hid (B2.out.trans (b3.mono B2.out.size))
  have O3 := Lib.hid o3
  clear o3 b3 C
  have HA4 := (Below.refl _ w3).alloc (Nat.le_refl _) (.cells #[.int .i64 2, .int .i64 0, .int .i64 1, .int .i64 3, .int .i64 5] 3)
  have NS := Lib.hid (numbers_same (w3.alloc (.cells #[.int .i64 2, .int .i64 0, .int .i64 1, .int .i64 3, .int .i64 5] 3)) _ _ [2, 0, 1, 3, 5] (reads_own rfl (own_keeps O2.out (Kept.of_below HA4))) (reads_new [2, 0, 1, 3, 5] 5 rfl (by decide) _ rfl))
  replace O3 := Lib.hid (own_keeps O3.out (Kept.of_below HA4))
  replace B2 : Hid (Below w1.heap.size w1 (w3.alloc (.cells #[.int .i64 2, .int .i64 0, .int .i64 1, .int .i64 3, .int .i64 5] 3))) := B2.out.trans (HA4.mono B2.out.size)
  clear HA4 O2
  go_wp2_with fail
  (with_reducible refine NS.out.mono ?_)
  rintro e w4 ⟨rfl, b4⟩
  replace O3 := Lib.hid (own_keeps O3.out (Kept.of_below b4))
  replace B2 := Lib.hid (B2.out.trans (b4.mono B2.out.size))
  have HA5 := (Below.refl _ w4).alloc (Nat.le_refl _) (.cells #[.int .i64 1, .int .i64 0, .int .i64 2] 3)
  replace NS := Lib.hid (numbers_same (w4.alloc (.cells #[.int .i64 1, .int .i64 0, .int .i64 2] 3)) _ _ [1, 0, 2] (reads_own rfl (own_keeps O3.out (Kept.of_below HA5))) (reads_new [1, 0, 2] 3 rfl (by decide) _ rfl))
  replace B2 : Hid (Below w1.heap.size w1 (w4.alloc (.cells #[.int .i64 1, .int .i64 0, .int .i64 2] 3))) := B2.out.trans (HA5.mono B2.out.size)
  clear HA5 O3 b4
  go_wp2_with fail
  (with_reducible refine NS.out.mono ?_)
  rintro e w5 ⟨rfl, b5⟩
  replace B2 := Lib.hid (B2.out.trans (b5.mono B2.out.size))
  have CU := Lib.hid (under_any w5 p g 6 _ V F (HK.out w5 B2.out) 2 5)
  rw [show decide ((2 : Int) ∈ upl [(2, -1), (0, 2), (3, 2), (1, 0), (5, 3), (4, -1)] 5) = true by decide] at CU
  clear b5 NS
  go_wp2_with fail
  (with_reducible refine CU.out.mono ?_)
  rintro e w6 ⟨rfl, b6⟩
  replace B2 := Lib.hid (B2.out.trans (b6.mono B2.out.size))
  have CF := Lib.hid (fall_any w6 p g 6 _ V F (HK.out w6 B2.out) 2)
  rw [show fall [(2, -1), (0, 2), (3, 2), (1, 0), (5, 3), (4, -1)] 2 = [1, 0, 5, 3, 2] by decide, show ([1, 0, 5, 3, 2] : List Int).length = 5 from rfl] at CF
  clear b6 CU
  go_wp2_with fail
  (with_reducible refine CF.out.mono ?_)
  rintro e w7 ⟨A7, c7, rfl, o7, b7, _⟩
  have HA8 := (Below.refl _ w7).alloc (Nat.le_refl _) (.cells #[.int .i64 1, .int .i64 0, .int .i64 5, .int .i64 3, .int .i64 2] 3)
  have NS := Lib.hid (numbers_same (w7.alloc (.cells #[.int .i64 1, .int .i64 0, .int .i64 5, .int .i64 3, .int .i64 2] 3)) _ _ [1, 0, 5, 3, 2] (reads_own rfl (own_keeps o7 (Kept.of_below HA8))) (reads_new [1, 0, 5, 3, 2] 5 rfl (by decide) _ rfl))
  replace B2 := Lib.hid (B2.out.trans (b7.mono B2.out.size))
  replace B2 : Hid (Below w1.heap.size w1 (w7.alloc (.cells #[.int .i64 1, .int .i64 0, .int .i64 5, .int .i64 3, .int .i64 2] 3))) := B2.out.trans (HA8.mono B2.out.size)
  clear HA8 o7 b7 CF
  go_wp2_with fail
  (with_reducible refine NS.out.mono ?_)
  rintro e w8 ⟨rfl, b8⟩
  have FIN : Hid (Below w.heap.size w w8) := B.out.trans ((B2.out.trans (b8.mono B2.out.size)).mono B.out.size)
  clear b8
  go_wp2_with fail
  go_ret
  exact ⟨rfl, FIN.out⟩
end Go.Proofs.Ytkmmpagflbnenaa.Kin

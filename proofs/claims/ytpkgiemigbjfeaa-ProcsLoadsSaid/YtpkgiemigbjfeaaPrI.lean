/- The law's own check: alive. Own text; Ytpkgiemigbjfeaa and the numbers between @..@ are the seat's. -/
import Derived.Test.YtpkgiemigbjfeaaPrG
namespace Go.Proofs.Ytpkgiemigbjfeaa.Kin
open Go.RowKit Go.Proofs.Ytpkgiemigbjfeaa.Mem
set_option linter.unusedVariables false
set_option maxHeartbeats 4000000 in
theorem alive_any (w : World) : Calls Try.prog 9 #[] w fun e w' => e = .returned (.bool true) ∧ Below w.heap.size w w' := by
  have HX := Lib.hid (new_in w 2 (by decide) (by decide))
  rw [show ((2 : Nat) : Int) = 2 from rfl] at HX
  go_enter Try.func9, Try.ntmps9
  go_wp2_with fail
  (with_reducible refine HX.out.mono ?_)
  rintro e w1 ⟨p, rfl, b1, k1⟩
  have HW := Lib.hid b1
  have HK := Lib.hid k1
  clear HX b1 k1
  have HX := Lib.hid (live_any w1 p 2 1 [0] _ HK.out 0)
  rw [show isB [0] 0 = true by decide] at HX
  go_wp2_with (first | (go_at_call 8; (refine (num_any _ _).mono ?_); rintro e w9 ⟨rfl, rfl⟩) | fail)
  (with_reducible refine HX.out.mono ?_)
  rintro e w9 ⟨rfl, rfl⟩
  clear HX
  have HX := Lib.hid (spawn_any w1 p 2 1 [0] _ HK.out)
  rw [show spN 2 1 [0] = 1 by decide, show spE 2 1 [0] = 0 by decide, show spX 2 1 [0] = 2 by decide, show spL 2 1 [0] = [0, 1] by decide] at HX
  go_wp2_with fail
  (with_reducible refine HX.out.mono ?_)
  rintro e w2 ⟨rfl, k2, v2⟩
  have HW2 : Hid (Below w.heap.size w w2) := HW.out.trans (k2.below (fun x hx => hx) HW.out.size)
  have HK2 : Hid (Pt 54 w2 p 2 2 [0, 1] (fun x => w.heap.size ≤ x)) := v2.mono (fun b hb => by have := HW.out.size; rcases hb with e | e <;> omega)
  clear HX k2 v2 HW HK
  have HZ := Lib.hid (numbers_any w2 p 2 2 [0, 1] _ HK2.out)
  rw [show ([0, 1] : List Int).length = 2 from rfl] at HZ
  go_wp2_with (first | (go_at_call 8; (refine (num_any _ _).mono ?_); rintro e w9 ⟨rfl, rfl⟩) | fail)
  (with_reducible refine HZ.out.mono ?_)
  rintro e w5 ⟨A, c, rfl, o5, b5, _⟩
  have HA := (Below.refl _ w5).alloc (Nat.le_refl _) (.cells #[.int .i64 0, .int .i64 1] 3)
  have NS := Lib.hid (numbers_same (w5.alloc (.cells #[.int .i64 0, .int .i64 1] 3)) _ _ [0, 1] (reads_own rfl (own_keeps o5 (Kept.of_below HA))) (reads_new [0, 1] 2 rfl (by decide) _ rfl))
  have HB5 : Hid (Below w2.heap.size w2 (w5.alloc (.cells #[.int .i64 0, .int .i64 1] 3))) := b5.alloc b5.size _
  clear o5 b5 HA HZ
  go_wp2_with fail
  (with_reducible refine NS.out.mono ?_)
  rintro e w6 ⟨rfl, b6⟩
  have HB6 : Hid (Below w2.heap.size w2 w6) := HB5.out.trans (b6.mono HB5.out.size)
  clear b6 NS HB5
  have K6 := Lib.hid (HK2.out.below HB6.out)
  have HN := Lib.hid (next_any w6 p 2 2 [0, 1] _ K6.out)
  have HE := Lib.hid (exit_any w6 p 2 2 [0, 1] _ K6.out 9)
  rw [show exE [0, 1] 9 = 20 by decide] at HE
  go_wp2_with fail
  (with_reducible refine HN.out.mono ?_)
  rintro e w9 ⟨rfl, rfl⟩
  go_wp2_with fail
  (with_reducible refine HE.out.mono ?_)
  rintro e w7 ⟨rfl, k7, _⟩
  have FIN : Hid (Below w.heap.size w w7) := by
    have h1 := HW2.out.trans (HB6.out.mono HW2.out.size)
    exact h1.trans (k7.below (fun x hx => hx) h1.size)
  clear k7
  go_wp2_with (first | (go_at_call 8; (refine (num_any _ _).mono ?_); rintro e w9 ⟨rfl, rfl⟩) | fail)
  go_ret
  exact ⟨rfl, FIN.out⟩
end Go.Proofs.Ytpkgiemigbjfeaa.Kin

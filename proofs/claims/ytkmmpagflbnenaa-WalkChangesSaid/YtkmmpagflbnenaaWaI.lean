/- asks: all four as the document says. Own text; Ytkmmpagflbnenaa and the numbers between @..@ are the seat's. -/
import Derived.Test.YtkmmpagflbnenaaWaH
import Derived.Test.YtkmmpagflbnenaaKinM
import Derived.Test.YtkmmpagflbnenaaKinG
namespace Go.Proofs.Ytkmmpagflbnenaa.Kin
open Go.RowKit Go.Proofs.Ytkmmpagflbnenaa.Mem
set_option linter.unusedVariables false
theorem und_same {m : Nat} {L : List (Int × Int)} (h : Inv m L) (a n : Int) : undB L a n = decide (a ∈ upl L n) := by
  unfold undB dnl
  by_cases ha : has L a = true
  · rw [if_pos ha]
    exact decide_eq_decide.2 (h.dn_mem false ha n)
  · rw [if_neg ha]
    refine decide_eq_decide.2 ⟨fun e => (by cases e), fun e => absurd (h.up_mem e).1 ha⟩
section
variable (w : World) (p g m r : Nat) (L : List (Int × Int)) (V : Nat → Value) (F G : Nat → Prop) (h : Kt w p g m L V F) (hR : Rg w r m L G)
include h hR
set_option maxHeartbeats 4000000 in
theorem asks_any (a n : Int) : Calls Try.prog 9 #[.pointer (some ⟨p, 0, none⟩), .pointer (some ⟨r, 0, none⟩), .int .i64 a, .int .i64 n] w fun e w' => e = .returned (.bool true) ∧ Below w.heap.size w w' := by
  have HK : Hid (∀ w', Below w.heap.size w w' → Kt w' p g m L V F ∧ Rg w' r m L G) := fun w' hb => ⟨h.below hb, hR.below hb⟩
  have HU := Lib.hid (und_same h.inv a n)
  have C1 := Lib.hid (downs_any w p g m L V F h a)
  have hi := Lib.hid h.inv
  clear h hR
  obtain ⟨N1, hN1⟩ : ∃ N, (dnl L false a).length = N := ⟨_, rfl⟩
  obtain ⟨N2, hN2⟩ : ∃ N, (upl L a).length = N := ⟨_, rfl⟩
  obtain ⟨N3, hN3⟩ : ∃ N, (fall L a).length = N := ⟨_, rfl⟩
  have H1 := Lib.hid hN1
  have H2 := Lib.hid hN2
  have H3 := Lib.hid hN3
  rw [hN1] at C1
  clear hN1 hN2 hN3
  go_enter Try.func9, Try.ntmps9
  go_wp2_with fail
  (with_reducible refine C1.out.mono ?_)
  rintro e w1 ⟨A1, c1, rfl, o1, b1, _⟩
  have C := Lib.hid (ups_any w1 p g m L V F (HK.out w1 b1).1 a)
  rw [H2.out] at C
  have O1 := Lib.hid o1
  have B := Lib.hid b1
  clear o1 b1 C1
  go_wp2_with fail
  (with_reducible refine C.out.mono ?_)
  rintro e w2 ⟨A2, c2, rfl, o2, b2, _⟩
  replace O1 := Lib.hid (own_keeps O1.out (Kept.of_below b2))
  replace B := Lib.hid (B.out.trans (b2.mono B.out.size))
  replace C := Lib.hid (fall_any w2 p g m L V F (HK.out w2 B.out).1 a)
  rw [H3.out] at C
  have O2 := Lib.hid o2
  clear o2 b2
  go_wp2_with fail
  (with_reducible refine C.out.mono ?_)
  rintro e w3 ⟨A3, c3, rfl, o3, b3, _⟩
  replace O1 := Lib.hid (own_keeps O1.out (Kept.of_below b3))
  replace O2 := Lib.hid (own_keeps O2.out (Kept.of_below b3))
  replace B := Lib.hid (B.out.trans (b3.mono B.out.size))
  replace C := Lib.hid (rdown_any r m L G (L.length - rk L a + 1) a w3 (HK.out w3 B.out).2 (by omega))
  rw [H1.out] at C
  have O3 := Lib.hid o3
  clear o3 b3
  go_wp2_with fail
  (with_reducible refine C.out.mono ?_)
  rintro e w4 ⟨A4, c4, rfl, o4, b4, _⟩
  replace O2 := Lib.hid (own_keeps O2.out (Kept.of_below b4))
  replace O3 := Lib.hid (own_keeps O3.out (Kept.of_below b4))
  replace B := Lib.hid (B.out.trans (b4.mono B.out.size))
  have NS := Lib.hid (numbers_same w4 _ _ _ (reads_own H1.out (own_keeps O1.out (Kept.of_below b4))) (reads_own H1.out o4))
  clear o4 b4 O1
  go_wp2_with fail
  (with_reducible refine NS.out.mono ?_)
  rintro e w5 ⟨rfl, b5⟩
  replace O2 := Lib.hid (own_keeps O2.out (Kept.of_below b5))
  replace O3 := Lib.hid (own_keeps O3.out (Kept.of_below b5))
  replace B := Lib.hid (B.out.trans (b5.mono B.out.size))
  replace C := Lib.hid (rup_any r m L G (rk L a + 1) a w5 (HK.out w5 B.out).2 (fun _ => by omega))
  rw [H2.out] at C
  clear b5 NS
  go_wp2_with fail
  (with_reducible refine C.out.mono ?_)
  rintro e w6 ⟨A6, c6, rfl, o6, b6, _⟩
  replace O3 := Lib.hid (own_keeps O3.out (Kept.of_below b6))
  replace B := Lib.hid (B.out.trans (b6.mono B.out.size))
  have NS := Lib.hid (numbers_same w6 _ _ _ (reads_own H2.out (own_keeps O2.out (Kept.of_below b6))) (reads_own H2.out o6))
  clear o6 b6 O2
  go_wp2_with fail
  (with_reducible refine NS.out.mono ?_)
  rintro e w7 ⟨rfl, b7⟩
  replace O3 := Lib.hid (own_keeps O3.out (Kept.of_below b7))
  replace B := Lib.hid (B.out.trans (b7.mono B.out.size))
  replace C := Lib.hid (rfall_any r m L G (L.length - rk L a + 1) a w7 (HK.out w7 B.out).2 (by omega))
  rw [H3.out] at C
  clear b7 NS
  go_wp2_with fail
  (with_reducible refine C.out.mono ?_)
  rintro e w8 ⟨A8, c8, rfl, o8, b8, _⟩
  replace B := Lib.hid (B.out.trans (b8.mono B.out.size))
  have NS := Lib.hid (numbers_same w8 _ _ _ (reads_own H3.out (own_keeps O3.out (Kept.of_below b8))) (reads_own H3.out o8))
  clear o8 b8 O3 C
  go_wp2_with fail
  (with_reducible refine NS.out.mono ?_)
  rintro e w9 ⟨rfl, b9⟩
  replace B := Lib.hid (B.out.trans (b9.mono B.out.size))
  have CU := Lib.hid (under_any w9 p g m L V F (HK.out w9 B.out).1 a n)
  obtain ⟨u, hu⟩ : ∃ u, decide (a ∈ upl L n) = u := ⟨_, rfl⟩
  rw [hu] at CU HU
  have hue : (u == u) = true := by simp
  clear b9 NS hu
  go_wp2_with fail
  (with_reducible refine CU.out.mono ?_)
  rintro e w10 ⟨rfl, b10⟩
  replace B := Lib.hid (B.out.trans (b10.mono B.out.size))
  have CV := Lib.hid (runder_any r m L G a n w10 (HK.out w10 B.out).2)
  rw [HU.out] at CV
  clear b10 CU
  go_wp2_with fail
  (with_reducible refine CV.out.mono ?_)
  rintro e w11 ⟨rfl, b11⟩
  replace B := Lib.hid (B.out.trans (b11.mono B.out.size))
  clear b11 CV
  go_wp2_with fail
  go_ret
  exact ⟨rfl, B.out⟩
end
end Go.Proofs.Ytkmmpagflbnenaa.Kin

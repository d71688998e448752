/- Record: every Bytes of any call answers as the document's (written by gen_rcx.py). -/
import Derived.Test.YtfpkdbogapmhmaaRcW
import Derived.Test.YtfpkdbogapmhmaaRcX0
namespace Go.Proofs.Ytfpkdbogapmhmaa.O
open Go.RowKit Go.Proofs.Ytfpkdbogapmhmaa.Mem
set_option linter.unusedVariables false
set_option linter.unusedSimpArgs false
set_option maxHeartbeats 4000000 in
set_option maxRecDepth 100000 in
theorem law_calls (w : World) (c : Cl) (D G : Value) (hD : RB w D c.da) (hG : IB w G c.gi) (hh : U64 c.hi) (hl : U64 c.lo) (HB : Bytes c.da) :
    Calls Try.prog 3 #[cv c D G] w fun e w' => e = .returned (.bool true) ∧ Below w.heap.size w w' := by
  have hgl : c.gi.length ≤ 9223372036854775807 := by obtain ⟨A, k, e, h1, h2, _⟩ := hG; unfold maxLen at h2; omega
  have H1 := Lib.hid (fun a (ha : Below w.heap.size w a) => bytes_any a c D G (hD.below ha) (hG.below ha) hgl hh hl)
  have H2 := Lib.hid (fun a (ha : Below w.heap.size w a) => rbytes_any a c D G (hD.below ha) (hG.below ha) hh hl HB)
  have HBX := Lib.hid (fun R => (Below.refl w.heap.size w).alloc (Nat.le_refl _) (.cells R 30))
  obtain ⟨E, hE⟩ : ∃ E, encE c = E := ⟨_, rfl⟩
  obtain ⟨Z, hZ⟩ : ∃ Z, encO c = Z := ⟨_, rfl⟩
  obtain ⟨S, hS⟩ : ∃ S, strOfNums Z = S := ⟨_, rfl⟩
  rw [hE, hZ] at H1 H2
  obtain ⟨op, by', sz, obj, hi, lo, gv, rt, off, n, da, ix, gi⟩ := c
  obtain ⟨Ad, cd, rfl⟩ : SL D da.length := hD.sl
  obtain ⟨Ag, cg, rfl⟩ : SL G gi.length := hG.sl
  have HSS := Lib.hid hS
  unfold cv cells at H1 H2 ⊢
  simp only at H1 H2 ⊢
  clear hD hG hh hl HB hgl hE hZ hS
  go_enter Try.func3, Try.ntmps3
  go_wp2_with (first | (go_at_call 9; refine (H1.out _ (HBX.out _)).mono ?_; rintro e w1 ⟨v1, rfl, o1, hb1, _⟩; have O1 := Lib.hid o1; have B1 := Lib.hid hb1; have hrow := row_on hb1 (row_new rfl); have y0 := cell_row (j := 0) hrow rfl; have y1 := cell_row (j := 1) hrow rfl; have y2 := cell_row (j := 2) hrow rfl; have y3 := cell_row (j := 3) hrow rfl; have y4 := cell_row (j := 4) hrow rfl; have y5 := cell_row (j := 5) hrow rfl; have y6 := cell_row (j := 6) hrow rfl; have y7 := cell_row (j := 7) hrow rfl; have y8 := cell_row (j := 8) hrow rfl; have y9 := cell_row (j := 9) hrow rfl; have y10 := cell_row (j := 10) hrow rfl; have y11 := cell_row (j := 11) hrow rfl; have y12 := cell_row (j := 12) hrow rfl; clear o1 hb1 hrow) | (go_at_call 10; refine (H2.out _ ((HBX.out _).trans (B1.out.mono (HBX.out _).size))).mono ?_; rintro e w2 ⟨v2, rfl, o2, hb2, _⟩; have O2 := Lib.hid o2; have B2 := Lib.hid hb2; clear o2 hb2 y0 y1 y2 y3 y4 y5 y6 y7 y8 y9 y10 y11 y12) | (go_at_call 11; refine (known_any _).mono ?_; rintro e w3 ⟨rfl, hb3⟩; have B3 := Lib.hid hb3; have c1 := (O1.out.below (B2.out.trans (hb3.mono B2.out.size))).reads.conv; have c2 := (O2.out.below hb3).reads.conv; rw [HSS.out] at c1 c2; clear hb3) | fail)
  go_ret
  have hx := (HBX.out #[.int .i64 op, .int .i64 by', .int .i64 sz, .int .i64 obj, .int .u64 hi, .int .u64 lo, .bool gv, .int .i64 rt, .int .i64 off, .int .i64 n, .slice Ad da.length cd, .int .i64 ix, .slice Ag gi.length cg])
  have k1 := hx.trans (B1.out.mono hx.size)
  have k2 := k1.trans (B2.out.mono k1.size)
  exact ⟨by first | rfl | exact ret_bool rfl (by simp), k2.trans (B3.out.mono k2.size)⟩
end Go.Proofs.Ytfpkdbogapmhmaa.O

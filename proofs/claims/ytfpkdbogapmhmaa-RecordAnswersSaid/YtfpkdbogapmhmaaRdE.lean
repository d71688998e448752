/- Record: every Answer and ParseAnswer answers as the document's (written by gen_rde.py). -/
import Derived.Test.YtfpkdbogapmhmaaRdD
import Derived.Test.YtfpkdbogapmhmaaRcX0
namespace Go.Proofs.Ytfpkdbogapmhmaa.O
open Go.RowKit Go.Proofs.Ytfpkdbogapmhmaa.Mem
set_option linter.unusedVariables false
set_option linter.unusedSimpArgs false
set_option maxHeartbeats 4000000 in
set_option maxRecDepth 100000 in
theorem law_answers (w : World) (op : Int) (r : Rp) (D v : Value) (zs : List Int) (hD : RB w D r.da) (hh : U64 r.hi) (hl : U64 r.lo) (HB : Bytes r.da) (hv : RB w v zs) (hB : Bytes zs) (hb : zs.length ≤ 140737488351300) :
    Calls Try.prog 5 #[.int .i64 op, rv r D, v] w fun e w' => e = .returned (.bool true) ∧ Below w.heap.size w w' := by
  have H1 := Lib.hid (fun a (ha : Below w.heap.size w a) => answer_any a op r D (hD.below ha) hh hl)
  have H2 := Lib.hid (fun a (ha : Below w.heap.size w a) => rans_any a op r D (hD.below ha) hh hl)
  have H3 := Lib.hid (fun a (ha : Below w.heap.size w a) => rparseA_any a op v zs hb hB (hv.below ha))
  have H4 := Lib.hid (fun a (ha : Below w.heap.size w a) => parseA_any a op v zs hb hB (hv.below ha))
  have HBX := Lib.hid (fun R => (Below.refl w.heap.size w).alloc (Nat.le_refl _) (.cells R 45))
  have hXB : Bytes ((parseR op zs).getD zr).da := by
    cases hp : parseR op zs with
    | none => exact fun z hz => by cases hz
    | some c =>
      have hg := parseR_guess op hB
      rw [hp] at hg
      split at hg
      · obtain rfl := Option.some.inj hg
        exact (guessR_facts op hB).2.2
      · cases hg
  obtain ⟨X, hX⟩ : ∃ X, (parseR op zs).getD zr = X := ⟨_, rfl⟩
  obtain ⟨F, hF⟩ : ∃ F : Int, (if (parseR op zs).isSome then (0 : Int) else 1) = F := ⟨_, rfl⟩
  obtain ⟨E, hE⟩ : ∃ E, ansE op r = E := ⟨_, rfl⟩
  obtain ⟨Z, hZ⟩ : ∃ Z, ansO op r = Z := ⟨_, rfl⟩
  obtain ⟨S, hS⟩ : ∃ S, strOfNums Z = S := ⟨_, rfl⟩
  simp only [PA, hX, hF] at H3 H4
  rw [hX] at hXB
  rw [hE, hZ] at H1 H2
  have HSS := Lib.hid hS
  have HXB := Lib.hid hXB
  clear hXB hX hF hE hZ hS
  obtain ⟨xc, xo, xh, xl, xd, xn⟩ := X
  obtain ⟨code, obj, hi, lo, da, nu⟩ := r
  obtain ⟨Ad, cd, rfl⟩ : SL D da.length := hD.sl
  obtain ⟨Av, cv', rfl⟩ : SL v zs.length := hv.sl
  obtain ⟨nv, hnv⟩ : ∃ n, zs.length = n := ⟨_, rfl⟩
  unfold rv rcells at H1 H2 H3 H4 ⊢
  simp only at H1 H2 H3 H4 HXB ⊢
  rw [hnv] at H3 H4 ⊢
  clear hD hh hl HB hv hB hb hnv
  go_enter Try.func5, Try.ntmps5
  go_upto_region 5 with (first | (go_at_call 15; refine (H1.out _ (HBX.out _)).mono ?_; rintro e w1 ⟨v1, rfl, o1, hb1, _⟩; have O1 := Lib.hid o1; have B1 := Lib.hid ((HBX.out _).trans (hb1.mono (HBX.out _).size)); have hrow := row_on hb1 (row_new rfl); have y0 := cell_row (j := 0) hrow rfl; have y1 := cell_row (j := 1) hrow rfl; have y2 := cell_row (j := 2) hrow rfl; have y3 := cell_row (j := 3) hrow rfl; have y4 := cell_row (j := 4) hrow rfl; have y5 := cell_row (j := 5) hrow rfl; clear o1 hb1 hrow) | (go_at_call 16; refine (H2.out _ B1.out).mono ?_; rintro e w2 ⟨v2, rfl, o2, hb2, _⟩; have O2 := Lib.hid o2; have B12 := Lib.hid hb2; have B2 := Lib.hid (B1.out.trans (hb2.mono B1.out.size)); clear o2 hb2 y0 y1 y2 y3 y4 y5) | (go_at_call 17; refine (H3.out _ B2.out).mono ?_; rintro e w3 ⟨D3, rfl, o3, _, hb3⟩; obtain ⟨A3, n3, k3, rfl⟩ : ∃ A n c, D3 = .slice A n c := (by obtain ⟨A, c, e, _⟩ := own_slice o3; exact ⟨_, _, _, e⟩); have O3 := Lib.hid o3; have B23 := Lib.hid (hb3.alloc hb3.size (.cells #[.int .i64 xc, .int .i64 xo, .int .u64 xh, .int .u64 xl, .slice A3 n3 k3, .int .i64 xn] 45)); have B3 := Lib.hid (B2.out.trans (B23.out.mono B2.out.size)); have HB3 := Lib.hid hb3; clear o3 hb3) | (go_at_call 18; refine (H4.out _ B3.out).mono ?_; rintro e w4 ⟨D4, rfl, o4, _, hb4⟩; obtain ⟨A4, n4, k4, rfl⟩ : ∃ A n c, D4 = .slice A n c := (by obtain ⟨A, c, e, _⟩ := own_slice o4; exact ⟨_, _, _, e⟩); have O4 := Lib.hid o4; have B34 := Lib.hid (hb4.alloc hb4.size (.cells #[.int .i64 xc, .int .i64 xo, .int .u64 xh, .int .u64 xl, .slice A4 n4 k4, .int .i64 xn] 45)); have HB4 := Lib.hid hb4; clear o4 hb4) | fail)
  have HR3 : Hid ((w4.alloc (.cells #[.int .i64 xc, .int .i64 xo, .int .u64 xh, .int .u64 xl, .slice A4 n4 k4, .int .i64 xn] 45)).heap[w3.heap.size]? = some (.cells #[.int .i64 xc, .int .i64 xo, .int .u64 xh, .int .u64 xl, .slice A3 n3 k3, .int .i64 xn] 45)) := Lib.hid (row_on B34.out (row_new rfl))
  have HR4 : Hid ((w4.alloc (.cells #[.int .i64 xc, .int .i64 xo, .int .u64 xh, .int .u64 xl, .slice A4 n4 k4, .int .i64 xn] 45)).heap[w4.heap.size]? = some (.cells #[.int .i64 xc, .int .i64 xo, .int .u64 xh, .int .u64 xl, .slice A4 n4 k4, .int .i64 xn] 45)) := Lib.hid (row_new rfl)
  have HO3 : Hid (OB (w4.alloc (.cells #[.int .i64 xc, .int .i64 xo, .int .u64 xh, .int .u64 xl, .slice A4 n4 k4, .int .i64 xn] 45)) (.slice A3 n3 k3) xd) := Lib.hid ((O3.out.below ((Below.refl _ _).alloc (Nat.le_refl _) _)).below B34.out)
  have HO4 : Hid (OB (w4.alloc (.cells #[.int .i64 xc, .int .i64 xo, .int .u64 xh, .int .u64 xl, .slice A4 n4 k4, .int .i64 xn] 45)) (.slice A4 n4 k4) xd) := Lib.hid (O4.out.below ((Below.refl _ _).alloc (Nat.le_refl _) _))
  have HO2 : Hid (OB (w4.alloc (.cells #[.int .i64 xc, .int .i64 xo, .int .u64 xh, .int .u64 xl, .slice A4 n4 k4, .int .i64 xn] 45)) v2 Z) := Lib.hid ((O2.out.below B23.out).below B34.out)
  have HO1 : Hid (OB (w4.alloc (.cells #[.int .i64 xc, .int .i64 xo, .int .u64 xh, .int .u64 xl, .slice A4 n4 k4, .int .i64 xn] 45)) v1 Z) := Lib.hid (((O1.out.below B12.out).below B23.out).below B34.out)
  have HBB : Hid (Below w.heap.size w (w4.alloc (.cells #[.int .i64 xc, .int .i64 xo, .int .u64 xh, .int .u64 xl, .slice A4 n4 k4, .int .i64 xn] 45))) := Lib.hid (B3.out.trans (B34.out.mono B3.out.size))
  clear H1 H2 H3 H4 HBX O1 O2 O3 O4 B1 B12 B2 B23 HB3 B3 B34 HB4
  generalize w4.alloc (.cells #[.int .i64 xc, .int .i64 xo, .int .u64 xh, .int .u64 xl, .slice A4 n4 k4, .int .i64 xn] 45) = W at *
  go_wp2_with (first | (go_at_call 11; refine (known_any _).mono ?_; rintro e w5 ⟨rfl, hb5⟩; have B5 := Lib.hid hb5; have c1 := (HO1.out.below hb5).reads.conv; have c2 := (HO2.out.below hb5).reads.conv; rw [HSS.out] at c1 c2; have hrow3 := row_on hb5 HR3.out; have hrow4 := row_on hb5 HR4.out; have p0 := cell_row (j := 0) hrow3 rfl; have p1 := cell_row (j := 1) hrow3 rfl; have p2 := cell_row (j := 2) hrow3 rfl; have p3 := cell_row (j := 3) hrow3 rfl; have p4 := cell_row (j := 4) hrow3 rfl; have p5 := cell_row (j := 5) hrow3 rfl; have q0 := cell_row (j := 0) hrow4 rfl; have q1 := cell_row (j := 1) hrow4 rfl; have q2 := cell_row (j := 2) hrow4 rfl; have q3 := cell_row (j := 3) hrow4 rfl; have q4 := cell_row (j := 4) hrow4 rfl; have q5 := cell_row (j := 5) hrow4 rfl; have HSM := sameR_any w5 ⟨xc, xo, xh, xl, xd, xn⟩ ⟨xc, xo, xh, xl, xd, xn⟩ (.slice A4 n4 k4) (.slice A3 n3 k3) (HO4.out.below hb5).reads (HO3.out.below hb5).reads HXB.out HXB.out; rw [decide_eq_true rfl] at HSM; unfold rv rcells at HSM; replace HSM := Lib.hid HSM; clear hb5 hrow3 hrow4) | (go_at_call 19; refine HSM.out.mono ?_; rintro e w6 ⟨rfl, hb6⟩; have B6 := Lib.hid hb6; clear hb6) | fail)
  go_ret
  have k5 := HBB.out.trans (B5.out.mono HBB.out.size)
  exact ⟨by first | rfl | exact ret_bool rfl (by simp), k5.trans (B6.out.mono k5.size)⟩
end Go.Proofs.Ytfpkdbogapmhmaa.O

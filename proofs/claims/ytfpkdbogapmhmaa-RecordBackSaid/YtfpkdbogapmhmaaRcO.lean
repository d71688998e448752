/- Record: Same, SameReply (written by gen_rco.py). -/
import Derived.Test.YtfpkdbogapmhmaaRcN
namespace Go.Proofs.Ytfpkdbogapmhmaa.O
open Go.RowKit Go.Proofs.Ytfpkdbogapmhmaa.Mem
set_option linter.unusedVariables false
set_option linter.unusedSimpArgs false
theorem below_drewN' (B : Nat) (w : World) (k : Nat) : Below B w (w.drewN k) := ⟨rfl, rfl, rfl, Nat.le_refl _, fun _ _ => rfl⟩
set_option maxHeartbeats 4000000 in
set_option maxRecDepth 100000 in
theorem same_any (w : World) (c d : Cl) (D1 G1 D2 G2 : Value) (hD1 : RB w D1 c.da) (hG1 : IB w G1 c.gi) (hD2 : RB w D2 d.da) (hG2 : IB w G2 d.gi) (hB1 : Bytes c.da) (hB2 : Bytes d.da) :
    Calls Try.prog 14 #[cv c D1 G1, cv d D2 G2] w fun e w' => e = .returned (.bool (decide (c = d))) ∧ Below w.heap.size w w' := by
  obtain ⟨TT, hT⟩ : ∃ b, decide (c = d) = b := ⟨_, rfl⟩
  rw [hT]
  have HT := Lib.hid hT
  obtain ⟨op1, by1, sz1, obj1, hi1, lo1, gv1, rt1, off1, n1, da1, ix1, gi1⟩ := c
  obtain ⟨op2, by2, sz2, obj2, hi2, lo2, gv2, rt2, off2, n2, da2, ix2, gi2⟩ := d
  simp only at hD1 hG1 hD2 hG2 hB1 hB2
  have hbx : ∀ R1 R2, Below w.heap.size w ((w.alloc (.cells R1 30)).alloc (.cells R2 30)) := fun R1 R2 => ((Below.refl _ w).alloc (Nat.le_refl _) _).alloc (by simp) _
  obtain ⟨Ad1, cd1, rfl⟩ := hD1.sl
  obtain ⟨Ad2, cd2, rfl⟩ := hD2.sl
  obtain ⟨Ag1, cg1, rfl, hgc1, hgm1, hgr1⟩ := hG1
  obtain ⟨Ag2, cg2, rfl, hgc2, hgm2, hgr2⟩ := hG2
  have HC1 := Lib.hid (fun R1 R2 => (hD1.below (hbx R1 R2)).conv)
  have HC2 := Lib.hid (fun R1 R2 => (hD2.below (hbx R1 R2)).conv)
  have HSQ := Lib.hid (str_eq hB1 hB2)
  obtain ⟨S1, hS1⟩ : ∃ S, strOfNums da1 = S := ⟨_, rfl⟩
  obtain ⟨S2, hS2⟩ : ∃ S, strOfNums da2 = S := ⟨_, rfl⟩
  rw [hS1] at HC1 HSQ
  rw [hS2] at HC2 HSQ
  obtain ⟨nd1, hnd1⟩ : ∃ n, da1.length = n := ⟨_, rfl⟩
  obtain ⟨nd2, hnd2⟩ : ∃ n, da2.length = n := ⟨_, rfl⟩
  obtain ⟨ng1, hng1⟩ : ∃ n, gi1.length = n := ⟨_, rfl⟩
  obtain ⟨ng2, hng2⟩ : ∃ n, gi2.length = n := ⟨_, rfl⟩
  unfold cv cells
  simp only [hnd1, hnd2, hng1, hng2] at HC1 HC2 hgc1 hgc2 hgr1 hgr2 ⊢
  have HGR1 := Lib.hid hgr1
  have HGR2 := Lib.hid hgr2
  have HNG1 := Lib.hid hng1
  have HNG2 := Lib.hid hng2
  have hgl : ng1 ≤ 9223372036854775807 := by unfold maxLen at hgm1; omega
  have HBX := Lib.hid (fun R1 R2 => ((Below.refl w.heap.size w).alloc (Nat.le_refl _) (.cells R1 30)).alloc (by simp) (.cells R2 30))
  clear hT hbx hD1 hD2 hB1 hB2 hgr1 hgr2 hS1 hS2 hnd1 hnd2 hng1 hng2 hgm1 hgm2 hgc1 hgc2
  go_enter Try.func14, Try.ntmps14
  go_upto_region 1 with fail
  go_cut [59] from 6 to 59 (fun v59 wc => ∃ p, v59 = .bool p ∧ Hid (p = false ↔ (op1 = op2 ∧ by1 = by2 ∧ sz1 = sz2 ∧ obj1 = obj2 ∧ hi1 = hi2 ∧ lo1 = lo2 ∧ gv1 = gv2 ∧ rt1 = rt2 ∧ off1 = off2 ∧ n1 = n2)) ∧ wc = ((w.alloc (.cells #[.int .i64 op1, .int .i64 by1, .int .i64 sz1, .int .i64 obj1, .int .u64 hi1, .int .u64 lo1, .bool gv1, .int .i64 rt1, .int .i64 off1, .int .i64 n1, .slice Ad1 nd1 cd1, .int .i64 ix1, .slice Ag1 ng1 cg1] 30)).alloc (.cells #[.int .i64 op2, .int .i64 by2, .int .i64 sz2, .int .i64 obj2, .int .u64 hi2, .int .u64 lo2, .bool gv2, .int .i64 rt2, .int .i64 off2, .int .i64 n2, .slice Ad2 nd2 cd2, .int .i64 ix2, .slice Ag2 ng2 cg2] 30)))
  case first =>
    by_cases h0 : op1 = op2
    rotate_left
    · skip
      go_wp2
      go_meet
      exact ⟨true, by first | rfl | (symm; simpa using h0) | (simp; omega), Lib.hid ⟨fun e => (by cases e), fun e => absurd e.1 h0⟩, rfl⟩
    subst h0
    by_cases h1 : by1 = by2
    rotate_left
    · skip
      go_wp2
      go_meet
      exact ⟨true, by first | rfl | (symm; simpa using h1) | (simp; omega), Lib.hid ⟨fun e => (by cases e), fun e => absurd e.2.1 h1⟩, rfl⟩
    subst h1
    by_cases h2 : sz1 = sz2
    rotate_left
    · skip
      go_wp2
      go_meet
      exact ⟨true, by first | rfl | (symm; simpa using h2) | (simp; omega), Lib.hid ⟨fun e => (by cases e), fun e => absurd e.2.2.1 h2⟩, rfl⟩
    subst h2
    by_cases h3 : obj1 = obj2
    rotate_left
    · skip
      go_wp2
      go_meet
      exact ⟨true, by first | rfl | (symm; simpa using h3) | (simp; omega), Lib.hid ⟨fun e => (by cases e), fun e => absurd e.2.2.2.1 h3⟩, rfl⟩
    subst h3
    by_cases h4 : hi1 = hi2
    rotate_left
    · skip
      go_wp2
      go_meet
      exact ⟨true, by first | rfl | (symm; simpa using h4) | (simp; omega), Lib.hid ⟨fun e => (by cases e), fun e => absurd e.2.2.2.2.1 h4⟩, rfl⟩
    subst h4
    by_cases h5 : lo1 = lo2
    rotate_left
    · skip
      go_wp2
      go_meet
      exact ⟨true, by first | rfl | (symm; simpa using h5) | (simp; omega), Lib.hid ⟨fun e => (by cases e), fun e => absurd e.2.2.2.2.2.1 h5⟩, rfl⟩
    subst h5
    by_cases h6 : gv1 = gv2
    rotate_left
    · skip
      have hb6 : (gv1 != gv2) = true := by cases gv1 <;> cases gv2 <;> simp_all
      go_wp2
      go_meet
      exact ⟨true, by first | rfl | (symm; simpa using h6) | (simp; omega), Lib.hid ⟨fun e => (by cases e), fun e => absurd e.2.2.2.2.2.2.1 h6⟩, rfl⟩
    subst h6
    have hbg : (gv1 != gv1) = false := by cases gv1 <;> rfl
    by_cases h7 : rt1 = rt2
    rotate_left
    · skip
      go_wp2
      go_meet
      exact ⟨true, by first | rfl | (symm; simpa using h7) | (simp; omega), Lib.hid ⟨fun e => (by cases e), fun e => absurd e.2.2.2.2.2.2.2.1 h7⟩, rfl⟩
    subst h7
    by_cases h8 : off1 = off2
    rotate_left
    · skip
      go_wp2
      go_meet
      exact ⟨true, by first | rfl | (symm; simpa using h8) | (simp; omega), Lib.hid ⟨fun e => (by cases e), fun e => absurd e.2.2.2.2.2.2.2.2.1 h8⟩, rfl⟩
    subst h8
    by_cases h9 : n1 = n2
    rotate_left
    · skip
      go_wp2
      go_meet
      exact ⟨true, by first | rfl | (symm; simpa using h9) | (simp; omega), Lib.hid ⟨fun e => (by cases e), fun e => absurd e.2.2.2.2.2.2.2.2.2 h9⟩, rfl⟩
    subst h9
    go_wp2
    go_meet
    exact ⟨false, by first | rfl | (simp; done), Lib.hid ⟨fun _ => by simp, fun _ => rfl⟩, rfl⟩
  obtain ⟨p, rfl, HP, rfl⟩ := hcut
  cases p with
  | true =>
    obtain rfl : TT = false := by rw [← HT.out]; exact decide_eq_false (fun h => by have h2 := HP.out.2 (by injection h; simp [*]); cases h2)
    go_wp2
    go_ret
    exact ⟨rfl, HBX.out _ _⟩
  | false =>
    have HPP := Lib.hid (HP.out.1 rfl)
    clear HP
    have c1 := HC1.out #[.int .i64 op1, .int .i64 by1, .int .i64 sz1, .int .i64 obj1, .int .u64 hi1, .int .u64 lo1, .bool gv1, .int .i64 rt1, .int .i64 off1, .int .i64 n1, .slice Ad1 nd1 cd1, .int .i64 ix1, .slice Ag1 ng1 cg1] #[.int .i64 op2, .int .i64 by2, .int .i64 sz2, .int .i64 obj2, .int .u64 hi2, .int .u64 lo2, .bool gv2, .int .i64 rt2, .int .i64 off2, .int .i64 n2, .slice Ad2 nd2 cd2, .int .i64 ix2, .slice Ag2 ng2 cg2]
    have c2 := HC2.out #[.int .i64 op1, .int .i64 by1, .int .i64 sz1, .int .i64 obj1, .int .u64 hi1, .int .u64 lo1, .bool gv1, .int .i64 rt1, .int .i64 off1, .int .i64 n1, .slice Ad1 nd1 cd1, .int .i64 ix1, .slice Ag1 ng1 cg1] #[.int .i64 op2, .int .i64 by2, .int .i64 sz2, .int .i64 obj2, .int .u64 hi2, .int .u64 lo2, .bool gv2, .int .i64 rt2, .int .i64 off2, .int .i64 n2, .slice Ad2 nd2 cd2, .int .i64 ix2, .slice Ag2 ng2 cg2]
    go_upto_region 3 with fail
    go_cut [82] from 60 to 82 (fun v82 wc => ∃ q, v82 = .bool q ∧ Hid (q = false ↔ (ix1 = ix2 ∧ da1 = da2 ∧ ng1 = ng2)) ∧ wc = ((w.alloc (.cells #[.int .i64 op1, .int .i64 by1, .int .i64 sz1, .int .i64 obj1, .int .u64 hi1, .int .u64 lo1, .bool gv1, .int .i64 rt1, .int .i64 off1, .int .i64 n1, .slice Ad1 nd1 cd1, .int .i64 ix1, .slice Ag1 ng1 cg1] 30)).alloc (.cells #[.int .i64 op2, .int .i64 by2, .int .i64 sz2, .int .i64 obj2, .int .u64 hi2, .int .u64 lo2, .bool gv2, .int .i64 rt2, .int .i64 off2, .int .i64 n2, .slice Ad2 nd2 cd2, .int .i64 ix2, .slice Ag2 ng2 cg2] 30)))
    case first =>
      by_cases h0 : ix1 = ix2
      rotate_left
      · go_wp2
        go_meet
        exact ⟨true, by first | rfl | (symm; simpa using h0), Lib.hid ⟨fun e => (by cases e), fun e => absurd e.1 h0⟩, rfl⟩
      subst h0
      by_cases h1 : da1 = da2
      rotate_left
      · have hs : (S1.toList == S2.toList) = false := by rw [HSQ.out]; exact decide_eq_false h1
        have hs2 : (S1.toList != S2.toList) = true := by unfold bne; rw [hs]; rfl
        go_wp2
        go_meet
        exact ⟨true, by first | rfl | (simp; done), Lib.hid ⟨fun e => (by cases e), fun e => absurd e.2.1 h1⟩, rfl⟩
      have hs : (S1.toList == S2.toList) = true := by rw [HSQ.out]; exact decide_eq_true h1
      have hs2 : (S1.toList != S2.toList) = false := by unfold bne; rw [hs]; rfl
      by_cases h2 : ng1 = ng2
      rotate_left
      · have h2' : ¬ ((ng1 : Int) = (ng2 : Int)) := by omega
        go_wp2
        go_meet
        exact ⟨true, by first | rfl | (simp; omega), Lib.hid ⟨fun e => (by cases e), fun e => absurd e.2.2 h2⟩, rfl⟩
      subst h2
      go_wp2
      go_meet
      exact ⟨false, by first | rfl | (simp; done), Lib.hid ⟨fun _ => by simp [h1], fun _ => rfl⟩, rfl⟩
    clear c1 c2
    obtain ⟨q, rfl, HQ, rfl⟩ := hcut
    cases q with
    | true =>
      obtain rfl : TT = false := by rw [← HT.out]; exact decide_eq_false (fun h => by have h2 := HQ.out.2 (by injection h with _ _ _ _ _ _ _ _ _ _ h1 h2 h3; exact ⟨h2, h1, by rw [← HNG1.out, ← HNG2.out, h3]⟩); cases h2)
      go_wp2
      go_ret
      exact ⟨rfl, HBX.out _ _⟩
    | false =>
      have HQQ := Lib.hid (HQ.out.1 rfl)
      obtain rfl : ng1 = ng2 := HQQ.out.2.2
      have HALL : Hid (decide (gi1 = gi2) = TT) := by
        show decide (gi1 = gi2) = TT
        rw [← HT.out]
        by_cases h : gi1 = gi2
        · rw [decide_eq_true h]
          have h1 := HPP.out
          have h2 := HQQ.out
          refine (decide_eq_true ?_).symm
          obtain ⟨rfl, rfl, rfl, rfl, rfl, rfl, rfl, rfl, rfl, rfl⟩ := h1
          simp [*]
        · rw [decide_eq_false h]; exact (decide_eq_false (fun e => h (by injection e))).symm
      clear HQ
      go_wp2_with fail
      go_loopw [5] (fun v5 we => ∃ i : Nat, i ≤ ng1 ∧ v5 = .int .i64 i ∧ Hid (gi1.take i = gi2.take i) ∧ ∃ m, we = ((w.alloc (.cells #[.int .i64 op1, .int .i64 by1, .int .i64 sz1, .int .i64 obj1, .int .u64 hi1, .int .u64 lo1, .bool gv1, .int .i64 rt1, .int .i64 off1, .int .i64 n1, .slice Ad1 nd1 cd1, .int .i64 ix1, .slice Ag1 ng1 cg1] 30)).alloc (.cells #[.int .i64 op2, .int .i64 by2, .int .i64 sz2, .int .i64 obj2, .int .u64 hi2, .int .u64 lo2, .bool gv2, .int .i64 rt2, .int .i64 off2, .int .i64 n2, .slice Ad2 nd2 cd2, .int .i64 ix2, .slice Ag2 ng1 cg2] 30)).drewN m) (fun v5 _ => ng1 - (intOf v5).toNat)
      case atStart => exact ⟨0, by omega, rfl, Lib.hid rfl, 0, rfl⟩
      case round =>
        obtain ⟨i, hile, rfl, HI, m, rfl⟩ := hrel
        by_cases hlt : i < ng1
        · have hlt' : (i : Int) < (ng1 : Int) := by omega
          obtain ⟨u, hu⟩ : ∃ u, gi1[i]? = some u := ⟨_, List.getElem?_eq_getElem (by show i < gi1.length; rw [HNG1.out]; exact hlt)⟩
          obtain ⟨v, hv⟩ : ∃ v, gi2[i]? = some v := ⟨_, List.getElem?_eq_getElem (by show i < gi2.length; rw [HNG2.out]; exact hlt)⟩
          obtain ⟨g1, o1, hA1, hc1⟩ := HGR1.out (by omega)
          obtain ⟨g2, o2, hA2, hc2⟩ := HGR2.out (by omega)
          subst hA1 hA2
          have hy1 := hc1 i u hu
          have hy2 := hc2 i v hv
          have z1 := (HBX.out #[.int .i64 op1, .int .i64 by1, .int .i64 sz1, .int .i64 obj1, .int .u64 hi1, .int .u64 lo1, .bool gv1, .int .i64 rt1, .int .i64 off1, .int .i64 n1, .slice Ad1 nd1 cd1, .int .i64 ix1, .slice (some ⟨g1, o1, none⟩) ng1 cg1] #[.int .i64 op2, .int .i64 by2, .int .i64 sz2, .int .i64 obj2, .int .u64 hi2, .int .u64 lo2, .bool gv2, .int .i64 rt2, .int .i64 off2, .int .i64 n2, .slice Ad2 nd2 cd2, .int .i64 ix2, .slice (some ⟨g2, o2, none⟩) ng1 cg2]).cell (World.block_lt_of_cell? w _ hy1)
          have z2 := (HBX.out #[.int .i64 op1, .int .i64 by1, .int .i64 sz1, .int .i64 obj1, .int .u64 hi1, .int .u64 lo1, .bool gv1, .int .i64 rt1, .int .i64 off1, .int .i64 n1, .slice Ad1 nd1 cd1, .int .i64 ix1, .slice (some ⟨g1, o1, none⟩) ng1 cg1] #[.int .i64 op2, .int .i64 by2, .int .i64 sz2, .int .i64 obj2, .int .u64 hi2, .int .u64 lo2, .bool gv2, .int .i64 rt2, .int .i64 off2, .int .i64 n2, .slice Ad2 nd2 cd2, .int .i64 ix2, .slice (some ⟨g2, o2, none⟩) ng1 cg2]).cell (World.block_lt_of_cell? w _ hy2)
          rw [hy1] at z1
          rw [hy2] at z2
          have HU := Lib.hid hu
          have HV := Lib.hid hv
          clear hc1 hc2 hy1 hy2 hu hv
          by_cases huv : u = v
          · subst huv
            go_wp2_with fail
            go_quiet (fail)
            go_wp2
            exact ⟨⟨i + 1, by omega, rfl, Lib.hid (by rw [List.take_add_one, List.take_add_one, HI.out, HU.out, HV.out]), _, by first | rfl | simp⟩, by simp [intOf]; omega⟩
          · obtain rfl : TT = false := by rw [← HALL.out]; exact decide_eq_false (fun h => by have h2 := HU.out; rw [h, HV.out] at h2; exact huv (Option.some.inj h2).symm)
            go_wp2_with fail
            go_quiet (fail)
            go_wp2
            go_ret
            first | exact ⟨rfl, (HBX.out _ _).trans (below_drewN' _ _ _)⟩ | exact ⟨rfl, ((HBX.out _ _).trans (below_drewN' _ _ _)).trans (below_drewN' _ _ _)⟩
        · have hin : ng1 = i := by omega
          subst hin
          obtain rfl : TT = true := by rw [← HALL.out]; exact decide_eq_true (by have h := HI.out; rw [List.take_of_length_le (by rw [HNG1.out]; exact Nat.le_refl _), List.take_of_length_le (by rw [HNG2.out]; exact Nat.le_refl _)] at h; exact h)
          go_wp2
          go_ret
          first | exact ⟨rfl, (HBX.out _ _).trans (below_drewN' _ _ _)⟩ | exact ⟨rfl, ((HBX.out _ _).trans (below_drewN' _ _ _)).trans (below_drewN' _ _ _)⟩
end Go.Proofs.Ytfpkdbogapmhmaa.O

/- Record: known, SameReply (written by gen_rcp2.py). -/
import Derived.Test.YtfpkdbogapmhmaaRcN
namespace Go.Proofs.Ytfpkdbogapmhmaa.O
open Go.RowKit Go.Proofs.Ytfpkdbogapmhmaa.Mem
set_option linter.unusedVariables false
set_option linter.unusedSimpArgs false
theorem ib_nil (w : World) : IB w (.slice none 0 0) [] := (OI.nil w).reads
theorem rb_nil (w : World) : RB w (.slice none 0 0) [] := (OB.nil w).reads
theorem u64_0 : U64 0 := by unfold U64; omega
theorem alloc_then {a w : World} {o : Obj} (h : Below (a.alloc o).heap.size (a.alloc o) w) : Below a.heap.size a w := ((Below.refl _ a).alloc (Nat.le_refl _) o).trans (h.mono (by simp))
set_option maxHeartbeats 4000000 in
set_option maxRecDepth 100000 in
theorem known_any (w : World) : Calls Try.prog 11 #[] w fun e w' => e = .returned (.bool true) ∧ Below w.heap.size w w' := by
  have C1 := Lib.hid (fun a => bytes_any a ⟨1, 3, -1, 0, 0, 0, false, 0, 0, 0, [], 0, []⟩ (.slice none 0 0) (.slice none 0 0) (rb_nil a) (ib_nil a) (by decide) u64_0 u64_0)
  have e1 : encE ⟨1, 3, -1, 0, 0, 0, false, 0, 0, 0, [], 0, []⟩ = 0 := by decide
  have e2 : encO ⟨1, 3, -1, 0, 0, 0, false, 0, 0, 0, [], 0, []⟩ = [1, 3, 0, 255, 255, 255, 255] := by decide
  rw [e1, e2] at C1
  have C2 := Lib.hid (fun a => parse_any (a.alloc (.cells #[.int .u8 10, .int .u8 0, .int .u8 0] 5)) (.slice (some ⟨a.heap.size, 0, none⟩) 3 3) [10, 0, 0] (by decide) (by unfold Bytes; decide) (rb_new a #[.int .u8 10, .int .u8 0, .int .u8 0] 5 [10, 0, 0] 3 rfl rfl (by decide)))
  have e3 : parseC [10, 0, 0] = some ⟨10, 0, 0, 0, 0, 0, false, 0, 0, 0, [], 0, []⟩ := by decide
  rw [e3] at C2
  have C3 := Lib.hid (fun a => answer_any a 0 ⟨1, 0, 0, 0, [], 0⟩ (.slice none 0 0) (rb_nil a) u64_0 u64_0)
  have e4 : ansE 0 ⟨1, 0, 0, 0, [], 0⟩ = 0 := by decide
  have e5 : ansO 0 ⟨1, 0, 0, 0, [], 0⟩ = [1, 0] := by decide
  rw [e4, e5] at C3
  have C4 := Lib.hid (fun a => parseA_any (a.alloc (.cells #[.int .u8 0, .int .u8 0, .int .u8 5, .int .u8 0] 5)) 9 (.slice (some ⟨a.heap.size, 0, none⟩) 4 4) [0, 0, 5, 0] (by decide) (by unfold Bytes; decide) (rb_new a #[.int .u8 0, .int .u8 0, .int .u8 5, .int .u8 0] 5 [0, 0, 5, 0] 4 rfl rfl (by decide)))
  have e6 : parseR 9 [0, 0, 5, 0] = some ⟨0, 0, 0, 0, [], 5⟩ := by decide
  rw [e6] at C4
  simp only [PP, PA, cv, cells, rv, rcells, Option.getD_some, Option.isSome_some, if_true] at C1 C2 C3 C4
  clear e1 e2 e3 e4 e5 e6
  go_enter Try.func11, Try.ntmps11
  go_upto_region 5 with (first | (go_at_call 9; refine (C1.out _).mono ?_; rintro e w1 ⟨v1, rfl, ho, hb, _⟩; have O1 := Lib.hid ho; have B1 := Lib.hid hb; clear ho hb) | (go_at_call 13; refine (C2.out _).mono ?_; rintro e w2 ⟨D2, G2, rfl, hd, hg, _, _, hb⟩; have B2 := Lib.hid hb; obtain ⟨A2, n2, k2, rfl⟩ : ∃ A n c, D2 = .slice A n c := (by obtain ⟨A, c, e, _⟩ := own_slice hd; exact ⟨_, _, _, e⟩); obtain ⟨A3, n3, k3, rfl⟩ : ∃ A n c, G2 = .slice A n c := (by obtain ⟨A, c, e, _⟩ := own_slice hg; exact ⟨_, _, _, e⟩); clear hd hg hb) | (go_at_call 15; refine (C3.out _).mono ?_; rintro e w3 ⟨v3, rfl, ho, hb, _⟩; have O3 := Lib.hid ho; have B3 := Lib.hid hb; clear ho hb) | (go_at_call 18; refine (C4.out _).mono ?_; rintro e w4 ⟨D4, rfl, hd, _, hb⟩; have B4 := Lib.hid hb; obtain ⟨A4, n4, k4, rfl⟩ : ∃ A n c, D4 = .slice A n c := (by obtain ⟨A, c, e, _⟩ := own_slice hd; exact ⟨_, _, _, e⟩); clear hd hb) | fail)
  have b12 := alloc_then B2.out
  have b23 := alloc_then B3.out
  have b34 := alloc_then B4.out
  have b4f := (Below.refl w4.heap.size w4).alloc (Nat.le_refl _) (.cells #[.int .i64 0, .int .i64 0, .int .u64 0, .int .u64 0, .slice A4 n4 k4, .int .i64 5] 45)
  have b3f := b34.trans (b4f.mono b34.size)
  have b2f := b23.trans (b3f.mono b23.size)
  have b1f := b12.trans (b2f.mono b12.size)
  have c1 := (O1.out.below b1f).reads.conv
  have c3 := (O3.out.below b3f).reads.conv
  rw [show strOfNums [1, 3, 0, 255, 255, 255, 255] = ⟨#[1, 3, 0, 255, 255, 255, 255]⟩ from rfl] at c1
  rw [show strOfNums [1, 0] = ⟨#[1, 0]⟩ from rfl] at c3
  have y2 := cell_row (j := 0) (row_on b3f (row_on B3.out (row_new rfl))) rfl
  have HF := Lib.hid (B1.out.trans (b1f.mono B1.out.size))
  clear b12 b23 b34 b4f b3f b2f b1f
  go_wp2
  go_ret
  exact ⟨rfl, HF.out⟩
set_option maxHeartbeats 4000000 in
set_option maxRecDepth 100000 in
theorem sameR_any (w : World) (c d : Rp) (D1 D2 : Value) (hD1 : RB w D1 c.da) (hD2 : RB w D2 d.da) (hB1 : Bytes c.da) (hB2 : Bytes d.da) :
    Calls Try.prog 19 #[rv c D1, rv d D2] w fun e w' => e = .returned (.bool (decide (c = d))) ∧ Below w.heap.size w w' := by
  obtain ⟨TT, hT⟩ : ∃ b, decide (c = d) = b := ⟨_, rfl⟩
  rw [hT]
  obtain ⟨code1, obj1, hi1, lo1, da1, nu1⟩ := c
  obtain ⟨code2, obj2, hi2, lo2, da2, nu2⟩ := d
  simp only at hD1 hD2 hB1 hB2
  have hbx : ∀ R1 R2, Below w.heap.size w ((w.alloc (.cells R1 45)).alloc (.cells R2 45)) := fun R1 R2 => ((Below.refl _ w).alloc (Nat.le_refl _) _).alloc (by simp) _
  obtain ⟨Ad1, cd1, rfl⟩ := hD1.sl
  obtain ⟨Ad2, cd2, rfl⟩ := hD2.sl
  have HC1 := Lib.hid (fun R1 R2 => (hD1.below (hbx R1 R2)).conv)
  have HC2 := Lib.hid (fun R1 R2 => (hD2.below (hbx R1 R2)).conv)
  have HSQ := Lib.hid (str_eq hB1 hB2)
  obtain ⟨S1, hS1⟩ : ∃ S, strOfNums da1 = S := ⟨_, rfl⟩
  obtain ⟨S2, hS2⟩ : ∃ S, strOfNums da2 = S := ⟨_, rfl⟩
  rw [hS1] at HC1 HSQ
  rw [hS2] at HC2 HSQ
  obtain ⟨nd1, hnd1⟩ : ∃ n, da1.length = n := ⟨_, rfl⟩
  obtain ⟨nd2, hnd2⟩ : ∃ n, da2.length = n := ⟨_, rfl⟩
  unfold rv rcells
  simp only [hnd1, hnd2] at HC1 HC2 ⊢
  have c1 := HC1.out #[.int .i64 code1, .int .i64 obj1, .int .u64 hi1, .int .u64 lo1, .slice Ad1 nd1 cd1, .int .i64 nu1] #[.int .i64 code2, .int .i64 obj2, .int .u64 hi2, .int .u64 lo2, .slice Ad2 nd2 cd2, .int .i64 nu2]
  have c2 := HC2.out #[.int .i64 code1, .int .i64 obj1, .int .u64 hi1, .int .u64 lo1, .slice Ad1 nd1 cd1, .int .i64 nu1] #[.int .i64 code2, .int .i64 obj2, .int .u64 hi2, .int .u64 lo2, .slice Ad2 nd2 cd2, .int .i64 nu2]
  have HBX := Lib.hid hbx
  clear hbx hD1 hD2 hB1 hB2 hS1 hS2 hnd1 hnd2 HC1 HC2
  by_cases h0 : code1 = code2
  rotate_left
  · obtain rfl : TT = false := by rw [← hT]; exact decide_eq_false (fun e => h0 (by injection e))
    clear hT c1 c2
    go_enter Try.func19, Try.ntmps19
    go_wp2
    go_ret
    exact ⟨by first | rfl | exact ret_bool rfl (by first | (simp; omega) | (simpa using h0)), HBX.out _ _⟩
  subst h0
  by_cases h1 : obj1 = obj2
  rotate_left
  · obtain rfl : TT = false := by rw [← hT]; exact decide_eq_false (fun e => h1 (by injection e))
    clear hT c1 c2
    go_enter Try.func19, Try.ntmps19
    go_wp2
    go_ret
    exact ⟨by first | rfl | exact ret_bool rfl (by first | (simp; omega) | (simpa using h1)), HBX.out _ _⟩
  subst h1
  by_cases h2 : hi1 = hi2
  rotate_left
  · obtain rfl : TT = false := by rw [← hT]; exact decide_eq_false (fun e => h2 (by injection e))
    clear hT c1 c2
    go_enter Try.func19, Try.ntmps19
    go_wp2
    go_ret
    exact ⟨by first | rfl | exact ret_bool rfl (by first | (simp; omega) | (simpa using h2)), HBX.out _ _⟩
  subst h2
  by_cases h3 : lo1 = lo2
  rotate_left
  · obtain rfl : TT = false := by rw [← hT]; exact decide_eq_false (fun e => h3 (by injection e))
    clear hT c1 c2
    go_enter Try.func19, Try.ntmps19
    go_wp2
    go_ret
    exact ⟨by first | rfl | exact ret_bool rfl (by first | (simp; omega) | (simpa using h3)), HBX.out _ _⟩
  subst h3
  by_cases h4 : nu1 = nu2
  rotate_left
  · obtain rfl : TT = false := by rw [← hT]; exact decide_eq_false (fun e => h4 (by injection e))
    clear hT c1 c2
    go_enter Try.func19, Try.ntmps19
    go_wp2
    go_ret
    exact ⟨by first | rfl | exact ret_bool rfl (by first | (simp; omega) | (simpa using h4)), HBX.out _ _⟩
  subst h4
  by_cases h5 : da1 = da2
  rotate_left
  · obtain rfl : TT = false := by rw [← hT]; exact decide_eq_false (fun e => h5 (by injection e))
    have hs : (S1.toList == S2.toList) = false := by rw [HSQ.out]; exact decide_eq_false h5
    clear hT
    go_enter Try.func19, Try.ntmps19
    go_wp2
    go_ret
    exact ⟨by first | rfl | exact ret_bool rfl hs, HBX.out _ _⟩
  obtain rfl : TT = true := by rw [← hT]; exact decide_eq_true (by rw [h5])
  have hs : (S1.toList == S2.toList) = true := by rw [HSQ.out]; exact decide_eq_true h5
  clear hT
  go_enter Try.func19, Try.ntmps19
  go_wp2
  go_ret
  exact ⟨by first | rfl | exact ret_bool rfl hs, HBX.out _ _⟩
end Go.Proofs.Ytfpkdbogapmhmaa.O

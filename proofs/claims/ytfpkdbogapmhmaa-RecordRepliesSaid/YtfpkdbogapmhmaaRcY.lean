/- Record: replies come back (written by gen_rcy2.py). -/
import Derived.Test.YtfpkdbogapmhmaaRcY0
import Derived.Test.YtfpkdbogapmhmaaRcN
import Derived.Deep.CutRange
namespace Go.Proofs.Ytfpkdbogapmhmaa.O
open Go.RowKit Go.Proofs.Ytfpkdbogapmhmaa.Mem
set_option linter.unusedVariables false
set_option linter.unusedSimpArgs false
theorem OB.owns2 {w w' : World} {v : Value} {zs : List Int} (h : OB w v zs) (hb : Below w.heap.size w w') : w'.ownsRow 0 5 1 v zs.length (zs.map byteC) := own_keeps h (Kept.of_below hb)
theorem app_r2 {w0 w w9 : World} {v v9 : Value} {zs ys : List Int} {n : Nat} (hn : ys.length = n) (hb : Below w0.heap.size w0 w) (hf : Fresh w0 v) (h : w9.ownsRow 0 5 1 v9 (zs.length + n) (zs.map byteC ++ ys.map byteC)) (hw : Went w w9 v v9 zs.length n) : OB w9 v9 (zs ++ ys) ∧ Below w0.heap.size w0 w9 ∧ Fresh w0 v9 := by
  subst hn
  exact ⟨by unfold OB; rw [List.length_append, List.map_append]; exact h, hb.trans (hw.kept.below (fun b hb => hf b hb) hb.size), fresh_went hf hb.size hw⟩
theorem made_row {W : World} {g : Nat} (h : W.heap[g]? = some (.cells #[] 5)) : W.ownsRow 0 5 1 (.slice (some ⟨g, 0, none⟩) 0 0) 0 [] := ⟨rfl, .inr ⟨g, 0, #[], rfl, Nat.zero_le _, h, Nat.le_refl _, Nat.zero_le _, rfl, rfl⟩⟩
set_option maxHeartbeats 4000000 in
set_option maxRecDepth 100000 in
theorem replies_e (w : World) (op m code cm obj hi lo nu cut : Int) (da : List Int) (Ad : Option Addr) (nd cd : Nat) (hm : op % 10 = m) (hcm : code % 65536 = cm) (ho : -9223372036854775808 ≤ op ∧ op ≤ 9223372036854775807) (hcd : -9223372036854775808 ≤ code ∧ code ≤ 9223372036854775807) (hob : -9223372036854775808 ≤ obj ∧ obj ≤ 9223372036854775807) (hnu : -9223372036854775808 ≤ nu ∧ nu ≤ 9223372036854775807) (hct : -9223372036854775808 ≤ cut ∧ cut ≤ 9223372036854775807) (hh : U64 hi) (hl : U64 lo) (hD : RB w (.slice Ad nd cd) da) (HB : Bytes da) (hz : cm = 0) (m0 : ¬ m = 0) (m2 : ¬ m = 2) (m4 : ¬ m = 4) (m8 : ¬ m = 8) :
    Calls Try.prog 7 #[.int .i64 op, .agg #[.int .i64 code, .int .i64 obj, .int .u64 hi, .int .u64 lo, .slice Ad nd cd, .int .i64 nu], .int .i64 cut] w fun e w' => e = .returned (.bool true) ∧ Below w.heap.size w w' := by
  have hm0 : 0 ≤ m ∧ m < 10 := by omega
  have hc0 : 0 ≤ cm ∧ cm < 65536 := by omega
  have I1 := Lib.hid (fun a => by have := into_any a op 10 ho.1 ho.2 (by decide) (by decide); rwa [hm] at this)
  have I2 := Lib.hid (fun a => by have := into_any a code 65536 hcd.1 hcd.2 (by decide) (by decide); rwa [hcm] at this)
  have hw1 : IntKind.i64.wrap (1 + m) = 1 + m := by rw [IntKind.wrap_i64]; omega
  subst hz
  have HTO : Hid (toldR (1 + m) (⟨0, 0, 0, 0, [], 0⟩ : Rp)) := Lib.hid (by refine ⟨⟨⟨by omega, by omega⟩, ⟨by first | decide | (dsimp only; decide) | (dsimp only; omega), by first | decide | (dsimp only; decide) | (dsimp only; omega)⟩, by omega⟩, ?_, ⟨by first | decide | (dsimp only; decide) | (dsimp only; omega), by first | decide | (dsimp only; decide) | (dsimp only; omega)⟩, ⟨by first | decide | (dsimp only; decide) | (dsimp only; omega), by first | decide | (dsimp only; decide) | (dsimp only; omega)⟩, by first | decide | (dsimp only; decide) | (dsimp only; omega)⟩; unfold toldB untR; rw [if_neg (by first | decide | (dsimp only; decide) | (dsimp only; omega)), if_neg (by omega), if_neg (by omega), if_neg (by omega)]; exact ⟨⟨rfl, rfl, rfl⟩, rfl, rfl⟩)
  have HRB : Hid (∀ a, Below w.heap.size w a → RB a (.slice none 0 0) []) := Lib.hid (fun a ha => rb_nil a)
  have HUO : Hid (U64 0 ∧ U64 0) := Lib.hid ⟨by first | exact u64_0 | exact hh, by first | exact u64_0 | exact hl⟩
  have HDA : Hid (Bytes []) := Lib.hid (by first | exact HB | exact (fun z hz => by cases hz) | exact (fun z hz => HB z (List.mem_of_mem_take hz)))
  obtain ⟨bb, hbb⟩ : ∃ b, encR (1 + m) (⟨0, 0, 0, 0, [], 0⟩ : Rp) = b := ⟨_, rfl⟩
  have HBL : Hid (bb.length = 2) := Lib.hid (by rw [← hbb, encR_len]; rw [if_neg (by decide), if_neg (by omega), if_neg (by omega), if_neg (by omega)])
  have HBY : Hid (Bytes bb) := Lib.hid (by rw [← hbb]; exact encR_bytes HDA.out)
  have HPS : Hid (parseR (1 + m) bb = some (⟨0, 0, 0, 0, [], 0⟩ : Rp)) := Lib.hid (parseR_iff _ _ _ HUO.out.1 HUO.out.2 HTO.out hbb)
  have HGE : Hid (∀ k, k < 2 → ((parseR (1 + m) (bb.take k)).isSome = true ↔ (((1 + m) : Int) = 5 ∧ (0 : Int) = 0 ∧ 2 ≤ k))) := Lib.hid (fun k hk => by have := cutR HTO.out k (by rw [hbb, HBL.out]; exact hk); rw [hbb] at this; exact this)
  have HMO : Hid ((parseR (1 + m) (bb ++ [0])).isSome = true ↔ (((1 + m) : Int) = 5 ∧ (0 : Int) = 0 ∧ ([] : List Int).length < 1024)) := Lib.hid (by have := moreR HTO.out; rw [hbb] at this; exact this)
  have HS5 : Hid (2 ≤ 1026) := Lib.hid (by decide)
  have ANS := Lib.hid (fun a (ha : Below w.heap.size w a) => by
    have := answer_any a (1 + m) (⟨0, 0, 0, 0, [], 0⟩ : Rp) (.slice none 0 0) (HRB.out a ha) HUO.out.1 HUO.out.2
    rw [show ansE (1 + m) (⟨0, 0, 0, 0, [], 0⟩ : Rp) = 0 from if_pos HTO.out, show ansO (1 + m) (⟨0, 0, 0, 0, [], 0⟩ : Rp) = bb from (if_pos HTO.out).trans hbb] at this
    exact this)
  have PAR := Lib.hid (fun a v (hv : OB a v bb) => by
    have := parseA_any a (1 + m) v bb (by rw [HBL.out]; have := HS5.out; omega) HBY.out hv.reads
    rw [HPS.out] at this
    exact this)
  have CUT := Lib.hid (fun a v k (hv : RB a v (bb.take k)) => parseA_any a (1 + m) v (bb.take k) (by rw [List.length_take, HBL.out]; have := HS5.out; omega) (fun z hz => HBY.out z (List.mem_of_mem_take hz)) hv)
  have MOR := Lib.hid (fun a v (hv : OB a v (bb ++ [0])) => parseA_any a (1 + m) v (bb ++ [0]) (by rw [List.length_append, HBL.out, List.length_singleton]; have := HS5.out; omega) (app_bytes HBY.out (fun z hz => by obtain rfl := List.mem_singleton.1 hz; omega)) hv.reads)
  have N7 := Lib.hid (fun a (ha : Below w.heap.size w a) => answer_no a (1 + m) (⟨7, 0, 0, 0, [], 1⟩ : Rp) (.slice none 0 0) (HRB.out a ha).sl (fun h => by have h1 := h.2.1.2.2; unfold untR at h1; rw [if_pos (by first | decide | (dsimp only; decide) | (dsimp only; omega))] at h1; exact absurd h1 (by first | decide | (dsimp only; decide) | (dsimp only; omega))))
  have N0 := Lib.hid (fun a => answer_no a 0 ⟨0, 0, 0, 0, [], 0⟩ (.slice none 0 0) ⟨_, _, rfl⟩ (by decide))
  have N11 := Lib.hid (fun a => answer_no a 11 ⟨7, 0, 0, 0, [], 0⟩ (.slice none 0 0) ⟨_, _, rfl⟩ (by decide))
  have SAM := Lib.hid (fun a D2 (h1 : RB a D2 []) (h2 : RB a (.slice none 0 0) []) => by
    have := sameR_any a (⟨0, 0, 0, 0, [], 0⟩ : Rp) (⟨0, 0, 0, 0, [], 0⟩ : Rp) D2 (.slice none 0 0) h1 h2 HDA.out HDA.out
    rwa [decide_eq_true rfl] at this)
  obtain ⟨kN, hkN⟩ : ∃ k : Nat, cut % 2 = (k : Int) := ⟨(cut % 2).toNat, by have := Int.emod_nonneg cut (b := 2) (by decide); omega⟩
  have hkl : kN < 2 := by have := Int.emod_lt_of_pos cut (b := 2) (by decide); omega
  have I4 := Lib.hid (fun a => by have := into_any a cut 2 hct.1 hct.2 (by decide) (by have := HS5.out; omega); rwa [hkN] at this)
  simp only [PA, rv, rcells, Option.getD_some, Option.isSome_some, if_true] at ANS PAR N7 N0 N11 SAM
  clear hm hcm ho hcd hob hnu hct hh hl hD HB hbb hkN HTO hc0
  go_enter Try.func7, Try.ntmps7
  go_upto_region 4 with (first | (go_at_call 21; (with_reducible refine (I1.out _).mono ?_); rintro e wx ⟨rfl, rfl⟩) | (go_at_call 21; (with_reducible refine (I2.out _).mono ?_); rintro e wx ⟨rfl, rfl⟩) | fail)
  go_upto_region 16 with fail
  refine wp_any (fun W => Below w.heap.size w W ∧ W.heap[w.heap.size + 1]? = some (.cells #[.int .i64 0, .int .i64 0, .int .u64 0, .int .u64 0, .slice none 0 0, .int .i64 0] 45)) ⟨((Below.refl _ w).alloc (Nat.le_refl _) _).alloc (by simp) _, row_new (by simp)⟩ (fun W5 hI5 => ?_)
  have B5 := Lib.hid hI5.1
  have R5 := Lib.hid hI5.2
  clear hI5
  go_upto_region 17 with (first | (refine wpList_load_row rfl 45 (.tmp 7) rfl (w.heap.size + 1) 45 #[.int .i64 0, .int .i64 0, .int .u64 0, .int .u64 0, .slice none 0 0, .int .i64 0] (0, 0) _ rfl R5.out Try.underlying45 rfl info45 ?_) | (go_at_call 15; refine (ANS.out _ B5.out).mono ?_; rintro e w1 ⟨v1, rfl, o1, b1, f1⟩; obtain ⟨A1, c1, he, hec⟩ := own_slice o1; rw [HBL.out] at he hec; subst he; have O1 := Lib.hid o1; have B1 := Lib.hid b1; have R1 := Lib.hid (row_on b1 R5.out); have X1 := Lib.hid (B5.out.trans (b1.mono B5.out.size)); clear o1 b1 f1) | fail)
  obtain ⟨g1, p1, rfl⟩ : ∃ g o, A1 = some ⟨g, o, none⟩ := by
    obtain ⟨A, c, e, _, _, h⟩ := O1.out.reads
    obtain ⟨g, o, e2, _⟩ := h (by rw [HBL.out]; omega)
    injection e with e1
    exact ⟨g, o, e1.trans e2⟩
  go_upto_region 18 with (first | (go_at_call 18; refine (PAR.out _ _ O1.out).mono ?_; rintro e w2 ⟨D2, rfl, d2, _, b2⟩; obtain ⟨A2, n2, c2, rfl⟩ : ∃ A n c, D2 = .slice A n c := (by obtain ⟨A, c, e, _⟩ := own_slice d2; exact ⟨_, _, _, e⟩); have DD2 := Lib.hid d2; have B2 := Lib.hid b2; have R2 := Lib.hid (row_on b2 R1.out); have X2 := Lib.hid (X1.out.trans (b2.mono X1.out.size)); have O2 := Lib.hid (O1.out.below b2); clear d2 b2) | fail)
  have ba := (Below.refl w2.heap.size w2).alloc (Nat.le_refl _) (.cells #[.int .i64 0, .int .i64 0, .int .u64 0, .int .u64 0, .slice A2 n2 c2, .int .i64 0] 45)
  refine wp_any (fun W => Below w2.heap.size w2 W ∧ W.heap[w2.heap.size]? = some (.cells #[.int .i64 0, .int .i64 0, .int .u64 0, .int .u64 0, .slice A2 n2 c2, .int .i64 0] 45)) ⟨ba, row_new rfl⟩ (fun W6 hI6 => ?_)
  have X6 := Lib.hid (X2.out.trans (hI6.1.mono X2.out.size))
  have R6 := Lib.hid (row_on hI6.1 R2.out)
  have O6 := Lib.hid (O2.out.below hI6.1)
  have D6 := Lib.hid (DD2.out.below hI6.1)
  have T6 := Lib.hid hI6.2
  clear hI6 ba
  go_upto_region 20 with (first | (go_at_call 11; refine (known_any _).mono ?_; rintro e w3 ⟨rfl, b3⟩; have X3 := Lib.hid (X6.out.trans (b3.mono X6.out.size)); have R3 := Lib.hid (row_on b3 R6.out); have O3 := Lib.hid (O6.out.below b3); have D3 := Lib.hid (D6.out.below b3); have T3 := Lib.hid (row_on b3 T6.out); have ty0 := cell_row (j := 0) T3.out rfl; have ry0 := cell_row (j := 0) R3.out rfl; have ty1 := cell_row (j := 1) T3.out rfl; have ry1 := cell_row (j := 1) R3.out rfl; have ty2 := cell_row (j := 2) T3.out rfl; have ry2 := cell_row (j := 2) R3.out rfl; have ty3 := cell_row (j := 3) T3.out rfl; have ry3 := cell_row (j := 3) R3.out rfl; have ty4 := cell_row (j := 4) T3.out rfl; have ry4 := cell_row (j := 4) R3.out rfl; have ty5 := cell_row (j := 5) T3.out rfl; have ry5 := cell_row (j := 5) R3.out rfl; clear b3) | (go_at_call 19; clear ty0 ry0 ty1 ry1 ty2 ry2 ty3 ry3 ty4 ry4 ty5 ry5; refine (SAM.out _ _ D3.out.reads (HRB.out _ X3.out)).mono ?_; rintro e w4 ⟨rfl, b4⟩; have X4 := Lib.hid (X3.out.trans (b4.mono X3.out.size)); have R4 := Lib.hid (row_on b4 R3.out); have O4 := Lib.hid (O3.out.below b4); clear b4) | fail)
  have hk0 : (0 : Int) ≤ (kN : Int) := by omega
  have hk1 : (kN : Int) ≤ (c1 : Int) := by omega
  have hk2 : kN ≤ c1 := by omega
  have hk3 : kN ≤ 2 := by omega
  obtain ⟨gg, hgg⟩ : ∃ g, parseR (1 + m) (bb.take kN) = g := ⟨_, rfl⟩
  have HG := Lib.hid (HGE.out kN hkl)
  have HCT := Lib.hid (fun a v (hv : RB a v (bb.take kN)) => CUT.out a v kN hv)
  rw [hgg] at HG HCT
  obtain ⟨xx, hxx⟩ : ∃ x, gg.getD zr = x := ⟨_, rfl⟩
  obtain ⟨yb, hyb⟩ : ∃ b, gg.isSome = b := ⟨_, rfl⟩
  rw [hyb] at HG
  simp only [PA, hxx, hyb, rv, rcells] at HCT
  clear hgg hxx hyb
  obtain ⟨hh2, hhh⟩ : ∃ g, parseR (1 + m) (bb ++ [0]) = g := ⟨_, rfl⟩
  rw [hhh] at HMO MOR
  obtain ⟨zx, hzx⟩ : ∃ x, hh2.getD zr = x := ⟨_, rfl⟩
  obtain ⟨zb, hzb⟩ : ∃ b, hh2.isSome = b := ⟨_, rfl⟩
  rw [hzb] at HMO
  simp only [PA, hzx, hzb, rv, rcells] at MOR
  clear hhh hzx hzb
  obtain rfl : yb = false := by cases yb with | false => rfl | true => exact absurd (HG.out.1 rfl).1 (by omega)
  obtain rfl : zb = false := by cases zb with | false => rfl | true => exact absurd (HMO.out.1 rfl).1 (by omega)
  have hm5 : ¬ (1 + m = 5) := by omega
  go_upto_region 21 with (first | (go_at_call 21; (with_reducible refine (I4.out _).mono ?_); rintro e wx ⟨rfl, rfl⟩) | fail)
  go_upto_region 22 with (first | (go_at_call 18; refine (HCT.out _ _ (RB.take (c := c1) (by rw [HBL.out]; exact O4.out.reads) (by rw [HBL.out]; exact hk3) rfl)).mono ?_; rintro e w5 ⟨D5, rfl, d5, _, b5⟩; obtain ⟨A5, n5, c5, rfl⟩ : ∃ A n c, D5 = .slice A n c := (by obtain ⟨A, c, e, _⟩ := own_slice d5; exact ⟨_, _, _, e⟩); have X5 := Lib.hid (X4.out.trans (b5.mono X4.out.size)); have R55 := Lib.hid (row_on b5 R4.out); have O5 := Lib.hid (O4.out.below b5); clear d5 b5) | fail)
  have ba5 := (Below.refl w5.heap.size w5).alloc (Nat.le_refl _) (.cells #[.int .i64 xx.code, .int .i64 xx.obj, .int .u64 xx.hi, .int .u64 xx.lo, .slice A5 n5 c5, .int .i64 xx.nu] 45)
  refine wp_any (fun W => Below w5.heap.size w5 W) ba5 (fun W7 hI7 => ?_)
  have X7 := Lib.hid (X5.out.trans (hI7.mono X5.out.size))
  have R7 := Lib.hid (row_on hI7 R55.out)
  have O7 := Lib.hid (O5.out.below hI7)
  clear hI7 ba5
  have yr0 := cell_row (j := 0) R7.out rfl
  go_upto_region 23 with fail
  have BE := Lib.hid ((Below.refl W7.heap.size W7).alloc (Nat.le_refl _) (.cells #[] 5))
  go_upto_region 24 with (first | (at_builtin; refine list_app2 rfl (.tmp 123) (.tmp 124) 27 rfl 5 0 _ 1 1 Try.underlying27 info5 rfl (by decide) (by decide) (.slice (some ⟨W7.heap.size, 0, none⟩) 0 0) 0 [] rfl (made_row (row_new rfl)) (some ⟨g1, p1, none⟩) 2 c1 (bb.map byteC) rfl (by rw [List.length_map, HBL.out, Nat.mul_one]) ((O7.out.below BE.out).reads.holds.2) one8 (by have := HS5.out; omega) (Nat.zero_le _) ?_; intro v9 w9 hw1 hw2; obtain ⟨o9, b9, f9⟩ := app_r2 (w0 := W7) (zs := []) (ys := bb) HBL.out BE.out (fun b hb => Nat.le_of_eq (by simpa [Value.ownBlock] using hb)) hw1 hw2; have O9 := Lib.hid o9; have B9 := Lib.hid b9; have F9 := Lib.hid f9; clear hw1 hw2 o9 b9 f9) | (at_builtin; refine list_app2 rfl (.tmp 125) (.tmp 126) 27 rfl 5 0 _ 1 1 Try.underlying27 info5 rfl (by decide) (by decide) v9 ([] ++ bb).length _ rfl (OB.owns2 O9.out ((Below.refl _ _).alloc (Nat.le_refl _) _)) (some ⟨w9.heap.size, 0, none⟩) 1 1 [.int .u8 0] rfl rfl (holds_new _ _ _ _ _ rfl) (by simp [Value.oneCell']) (by have := HS5.out; have := HBL.out; rw [List.nil_append]; omega) (Nat.zero_le _) ?_; intro v10 w10 hw1 hw2; obtain ⟨o10, b10, f10⟩ := app_r2 (w0 := W7) (zs := [] ++ bb) (ys := [0]) (n := 1) rfl (B9.out.trans (((Below.refl _ w9).alloc (Nat.le_refl _) _).mono B9.out.size)) F9.out hw1 hw2; rw [List.nil_append] at o10; have O10 := Lib.hid o10; have B10 := Lib.hid b10; clear hw1 hw2 o10 b10 f10) | (go_at_call 18; refine (MOR.out _ _ O10.out).mono ?_; rintro e w11 ⟨D11, rfl, d11, _, b11⟩; obtain ⟨A11, n11, c11, rfl⟩ : ∃ A n c, D11 = .slice A n c := (by obtain ⟨A, c, e, _⟩ := own_slice d11; exact ⟨_, _, _, e⟩); have B11 := Lib.hid (B10.out.trans (b11.mono B10.out.size)); clear d11 b11) | fail)
  have ba11 := (Below.refl w11.heap.size w11).alloc (Nat.le_refl _) (.cells #[.int .i64 zx.code, .int .i64 zx.obj, .int .u64 zx.hi, .int .u64 zx.lo, .slice A11 n11 c11, .int .i64 zx.nu] 45)
  refine wp_any (fun W => Below w11.heap.size w11 W) ba11 (fun W8 hI8 => ?_)
  have B78 := B11.out.trans (hI8.mono B11.out.size)
  have X8 := Lib.hid (X7.out.trans (B78.mono X7.out.size))
  have R8 := Lib.hid (row_on B78 R7.out)
  clear hI8 ba11 B78 yr0
  have yr0 := cell_row (j := 0) R8.out rfl
  have yr4 := cell_row (j := 4) R8.out rfl
  have yr5 := cell_row (j := 5) R8.out rfl
  have zr0 := free_row (j := 0) R8.out
  have zr5 := free_row (j := 5) R8.out
  go_upto_region 28 with fail
  have K9 : Kept (fun b => b = w.heap.size + 1) W8 ((W8.setCell ⟨w.heap.size + 1, 0, none⟩ (.int .i64 7)).setCell ⟨w.heap.size + 1, 5, none⟩ (.int .i64 1)) := ((Kept.refl (fun b => b = w.heap.size + 1) W8).setCell (p := ⟨w.heap.size + 1, 0, none⟩) (.inl rfl) _).setCell (p := ⟨w.heap.size + 1, 5, none⟩) (.inl rfl) _
  have R9 := heap_setCell_same _ (w.heap.size + 1) 5 _ _ (.int .i64 1) (heap_setCell_same _ (w.heap.size + 1) 0 _ _ (.int .i64 7) R8.out)
  refine wp_any (fun W => Below w.heap.size w W ∧ W.heap[w.heap.size + 1]? = some (.cells #[.int .i64 7, .int .i64 0, .int .u64 0, .int .u64 0, .slice none 0 0, .int .i64 1] 45)) ⟨X8.out.trans (K9.below (B := w.heap.size) (fun x hx => by have h3 : x = w.heap.size + 1 := hx; omega) X8.out.size), R9⟩ (fun W9 hI9 => ?_)
  have X9 := Lib.hid hI9.1
  have R99 := Lib.hid hI9.2
  clear hI9 K9 R9 yr0 yr4 yr5 zr0 zr5
  go_wp2_with (first | (refine wpList_load_row rfl 45 (.tmp 7) rfl (w.heap.size + 1) 45 #[.int .i64 7, .int .i64 0, .int .u64 0, .int .u64 0, .slice none 0 0, .int .i64 1] (0, 0) _ rfl R99.out Try.underlying45 rfl info45 ?_) | (go_at_call 15; (with_reducible refine (N7.out _ X9.out).mono ?_); rintro e w12 ⟨rfl, b12⟩; have X12 := Lib.hid (X9.out.trans (b12.mono X9.out.size)); clear b12) | (go_at_call 15; (with_reducible refine (N0.out _).mono ?_); rintro e w13 ⟨rfl, b13⟩; have X13 := Lib.hid (X12.out.trans (b13.mono X12.out.size)); clear b13) | (go_at_call 15; (with_reducible refine (N11.out _).mono ?_); rintro e w14 ⟨rfl, b14⟩; have X14 := Lib.hid (X13.out.trans (b14.mono X13.out.size)); clear b14) | fail)
  go_ret
  exact ⟨rfl, X14.out⟩
set_option maxHeartbeats 4000000 in
set_option maxRecDepth 100000 in
theorem replies_a5 (w : World) (op m code cm obj hi lo nu cut : Int) (da : List Int) (Ad : Option Addr) (nd cd : Nat) (hm : op % 10 = m) (hcm : code % 65536 = cm) (ho : -9223372036854775808 ≤ op ∧ op ≤ 9223372036854775807) (hcd : -9223372036854775808 ≤ code ∧ code ≤ 9223372036854775807) (hob : -9223372036854775808 ≤ obj ∧ obj ≤ 9223372036854775807) (hnu : -9223372036854775808 ≤ nu ∧ nu ≤ 9223372036854775807) (hct : -9223372036854775808 ≤ cut ∧ cut ≤ 9223372036854775807) (hh : U64 hi) (hl : U64 lo) (hD : RB w (.slice Ad nd cd) da) (HB : Bytes da) (hz : cm ≠ 0) (h4 : m = 4) :
    Calls Try.prog 7 #[.int .i64 op, .agg #[.int .i64 code, .int .i64 obj, .int .u64 hi, .int .u64 lo, .slice Ad nd cd, .int .i64 nu], .int .i64 cut] w fun e w' => e = .returned (.bool true) ∧ Below w.heap.size w w' := by
  have hm0 : 0 ≤ m ∧ m < 10 := by omega
  have hc0 : 0 ≤ cm ∧ cm < 65536 := by omega
  have I1 := Lib.hid (fun a => by have := into_any a op 10 ho.1 ho.2 (by decide) (by decide); rwa [hm] at this)
  have I2 := Lib.hid (fun a => by have := into_any a code 65536 hcd.1 hcd.2 (by decide) (by decide); rwa [hcm] at this)
  have hw1 : IntKind.i64.wrap (1 + m) = 1 + m := by rw [IntKind.wrap_i64]; omega
  subst h4
  have HTO : Hid (toldR 5 (⟨cm, 0, 0, 0, [], 0⟩ : Rp)) := Lib.hid (by refine ⟨⟨⟨by omega, by omega⟩, ⟨hc0.1, by show cm ≤ 65535; omega⟩, fun h => hz h.2⟩, ?_, ⟨by first | decide | (dsimp only; decide) | (dsimp only; omega), by first | decide | (dsimp only; decide) | (dsimp only; omega)⟩, ⟨by first | decide | (dsimp only; decide) | (dsimp only; omega), by first | decide | (dsimp only; decide) | (dsimp only; omega)⟩, by first | decide | (dsimp only; decide) | (dsimp only; omega)⟩; unfold toldB untR; rw [if_pos hz]; exact ⟨⟨rfl, rfl, rfl⟩, rfl, rfl⟩)
  have HRB : Hid (∀ a, Below w.heap.size w a → RB a (.slice none 0 0) []) := Lib.hid (fun a ha => rb_nil a)
  have HUO : Hid (U64 0 ∧ U64 0) := Lib.hid ⟨by first | exact u64_0 | exact hh, by first | exact u64_0 | exact hl⟩
  have HDA : Hid (Bytes []) := Lib.hid (by first | exact HB | exact (fun z hz => by cases hz) | exact (fun z hz => HB z (List.mem_of_mem_take hz)))
  obtain ⟨bb, hbb⟩ : ∃ b, encR 5 (⟨cm, 0, 0, 0, [], 0⟩ : Rp) = b := ⟨_, rfl⟩
  have HBL : Hid (bb.length = 2) := Lib.hid (by rw [← hbb, encR_len]; rw [if_pos hz])
  have HBY : Hid (Bytes bb) := Lib.hid (by rw [← hbb]; exact encR_bytes HDA.out)
  have HPS : Hid (parseR 5 bb = some (⟨cm, 0, 0, 0, [], 0⟩ : Rp)) := Lib.hid (parseR_iff _ _ _ HUO.out.1 HUO.out.2 HTO.out hbb)
  have HGE : Hid (∀ k, k < 2 → ((parseR 5 (bb.take k)).isSome = true ↔ ((5 : Int) = 5 ∧ (cm : Int) = 0 ∧ 2 ≤ k))) := Lib.hid (fun k hk => by have := cutR HTO.out k (by rw [hbb, HBL.out]; exact hk); rw [hbb] at this; exact this)
  have HMO : Hid ((parseR 5 (bb ++ [0])).isSome = true ↔ ((5 : Int) = 5 ∧ (cm : Int) = 0 ∧ ([] : List Int).length < 1024)) := Lib.hid (by have := moreR HTO.out; rw [hbb] at this; exact this)
  have HS5 : Hid (2 ≤ 1026) := Lib.hid (by decide)
  have ANS := Lib.hid (fun a (ha : Below w.heap.size w a) => by
    have := answer_any a 5 (⟨cm, 0, 0, 0, [], 0⟩ : Rp) (.slice none 0 0) (HRB.out a ha) HUO.out.1 HUO.out.2
    rw [show ansE 5 (⟨cm, 0, 0, 0, [], 0⟩ : Rp) = 0 from if_pos HTO.out, show ansO 5 (⟨cm, 0, 0, 0, [], 0⟩ : Rp) = bb from (if_pos HTO.out).trans hbb] at this
    exact this)
  have PAR := Lib.hid (fun a v (hv : OB a v bb) => by
    have := parseA_any a 5 v bb (by rw [HBL.out]; have := HS5.out; omega) HBY.out hv.reads
    rw [HPS.out] at this
    exact this)
  have CUT := Lib.hid (fun a v k (hv : RB a v (bb.take k)) => parseA_any a 5 v (bb.take k) (by rw [List.length_take, HBL.out]; have := HS5.out; omega) (fun z hz => HBY.out z (List.mem_of_mem_take hz)) hv)
  have MOR := Lib.hid (fun a v (hv : OB a v (bb ++ [0])) => parseA_any a 5 v (bb ++ [0]) (by rw [List.length_append, HBL.out, List.length_singleton]; have := HS5.out; omega) (app_bytes HBY.out (fun z hz => by obtain rfl := List.mem_singleton.1 hz; omega)) hv.reads)
  have N7 := Lib.hid (fun a (ha : Below w.heap.size w a) => answer_no a 5 (⟨7, 0, 0, 0, [], 1⟩ : Rp) (.slice none 0 0) (HRB.out a ha).sl (fun h => by have h1 := h.2.1.2.2; unfold untR at h1; rw [if_pos (by first | decide | (dsimp only; decide) | (dsimp only; omega))] at h1; exact absurd h1 (by first | decide | (dsimp only; decide) | (dsimp only; omega))))
  have N0 := Lib.hid (fun a => answer_no a 0 ⟨0, 0, 0, 0, [], 0⟩ (.slice none 0 0) ⟨_, _, rfl⟩ (by decide))
  have N11 := Lib.hid (fun a => answer_no a 11 ⟨7, 0, 0, 0, [], 0⟩ (.slice none 0 0) ⟨_, _, rfl⟩ (by decide))
  have SAM := Lib.hid (fun a D2 (h1 : RB a D2 []) (h2 : RB a (.slice none 0 0) []) => by
    have := sameR_any a (⟨cm, 0, 0, 0, [], 0⟩ : Rp) (⟨cm, 0, 0, 0, [], 0⟩ : Rp) D2 (.slice none 0 0) h1 h2 HDA.out HDA.out
    rwa [decide_eq_true rfl] at this)
  obtain ⟨kN, hkN⟩ : ∃ k : Nat, cut % 2 = (k : Int) := ⟨(cut % 2).toNat, by have := Int.emod_nonneg cut (b := 2) (by decide); omega⟩
  have hkl : kN < 2 := by have := Int.emod_lt_of_pos cut (b := 2) (by decide); omega
  have I4 := Lib.hid (fun a => by have := into_any a cut 2 hct.1 hct.2 (by decide) (by have := HS5.out; omega); rwa [hkN] at this)
  simp only [PA, rv, rcells, Option.getD_some, Option.isSome_some, if_true] at ANS PAR N7 N0 N11 SAM
  clear hm hcm ho hcd hob hnu hct hh hl hD HB hbb hkN HTO hc0
  go_enter Try.func7, Try.ntmps7
  go_upto_region 4 with (first | (go_at_call 21; (with_reducible refine (I1.out _).mono ?_); rintro e wx ⟨rfl, rfl⟩) | (go_at_call 21; (with_reducible refine (I2.out _).mono ?_); rintro e wx ⟨rfl, rfl⟩) | fail)
  go_upto_region 16 with fail
  refine wp_any (fun W => Below w.heap.size w W ∧ W.heap[w.heap.size + 1]? = some (.cells #[.int .i64 cm, .int .i64 0, .int .u64 0, .int .u64 0, .slice none 0 0, .int .i64 0] 45)) ⟨((Below.refl _ w).alloc (Nat.le_refl _) _).alloc (by simp) _, row_new (by simp)⟩ (fun W5 hI5 => ?_)
  have B5 := Lib.hid hI5.1
  have R5 := Lib.hid hI5.2
  clear hI5
  go_upto_region 17 with (first | (refine wpList_load_row rfl 45 (.tmp 7) rfl (w.heap.size + 1) 45 #[.int .i64 cm, .int .i64 0, .int .u64 0, .int .u64 0, .slice none 0 0, .int .i64 0] (0, 0) _ rfl R5.out Try.underlying45 rfl info45 ?_) | (go_at_call 15; refine (ANS.out _ B5.out).mono ?_; rintro e w1 ⟨v1, rfl, o1, b1, f1⟩; obtain ⟨A1, c1, he, hec⟩ := own_slice o1; rw [HBL.out] at he hec; subst he; have O1 := Lib.hid o1; have B1 := Lib.hid b1; have R1 := Lib.hid (row_on b1 R5.out); have X1 := Lib.hid (B5.out.trans (b1.mono B5.out.size)); clear o1 b1 f1) | fail)
  obtain ⟨g1, p1, rfl⟩ : ∃ g o, A1 = some ⟨g, o, none⟩ := by
    obtain ⟨A, c, e, _, _, h⟩ := O1.out.reads
    obtain ⟨g, o, e2, _⟩ := h (by rw [HBL.out]; omega)
    injection e with e1
    exact ⟨g, o, e1.trans e2⟩
  go_upto_region 18 with (first | (go_at_call 18; refine (PAR.out _ _ O1.out).mono ?_; rintro e w2 ⟨D2, rfl, d2, _, b2⟩; obtain ⟨A2, n2, c2, rfl⟩ : ∃ A n c, D2 = .slice A n c := (by obtain ⟨A, c, e, _⟩ := own_slice d2; exact ⟨_, _, _, e⟩); have DD2 := Lib.hid d2; have B2 := Lib.hid b2; have R2 := Lib.hid (row_on b2 R1.out); have X2 := Lib.hid (X1.out.trans (b2.mono X1.out.size)); have O2 := Lib.hid (O1.out.below b2); clear d2 b2) | fail)
  have ba := (Below.refl w2.heap.size w2).alloc (Nat.le_refl _) (.cells #[.int .i64 cm, .int .i64 0, .int .u64 0, .int .u64 0, .slice A2 n2 c2, .int .i64 0] 45)
  refine wp_any (fun W => Below w2.heap.size w2 W ∧ W.heap[w2.heap.size]? = some (.cells #[.int .i64 cm, .int .i64 0, .int .u64 0, .int .u64 0, .slice A2 n2 c2, .int .i64 0] 45)) ⟨ba, row_new rfl⟩ (fun W6 hI6 => ?_)
  have X6 := Lib.hid (X2.out.trans (hI6.1.mono X2.out.size))
  have R6 := Lib.hid (row_on hI6.1 R2.out)
  have O6 := Lib.hid (O2.out.below hI6.1)
  have D6 := Lib.hid (DD2.out.below hI6.1)
  have T6 := Lib.hid hI6.2
  clear hI6 ba
  go_upto_region 20 with (first | (go_at_call 11; refine (known_any _).mono ?_; rintro e w3 ⟨rfl, b3⟩; have X3 := Lib.hid (X6.out.trans (b3.mono X6.out.size)); have R3 := Lib.hid (row_on b3 R6.out); have O3 := Lib.hid (O6.out.below b3); have D3 := Lib.hid (D6.out.below b3); have T3 := Lib.hid (row_on b3 T6.out); have ty0 := cell_row (j := 0) T3.out rfl; have ry0 := cell_row (j := 0) R3.out rfl; have ty1 := cell_row (j := 1) T3.out rfl; have ry1 := cell_row (j := 1) R3.out rfl; have ty2 := cell_row (j := 2) T3.out rfl; have ry2 := cell_row (j := 2) R3.out rfl; have ty3 := cell_row (j := 3) T3.out rfl; have ry3 := cell_row (j := 3) R3.out rfl; have ty4 := cell_row (j := 4) T3.out rfl; have ry4 := cell_row (j := 4) R3.out rfl; have ty5 := cell_row (j := 5) T3.out rfl; have ry5 := cell_row (j := 5) R3.out rfl; clear b3) | (go_at_call 19; clear ty0 ry0 ty1 ry1 ty2 ry2 ty3 ry3 ty4 ry4 ty5 ry5; refine (SAM.out _ _ D3.out.reads (HRB.out _ X3.out)).mono ?_; rintro e w4 ⟨rfl, b4⟩; have X4 := Lib.hid (X3.out.trans (b4.mono X3.out.size)); have R4 := Lib.hid (row_on b4 R3.out); have O4 := Lib.hid (O3.out.below b4); clear b4) | fail)
  have hk0 : (0 : Int) ≤ (kN : Int) := by omega
  have hk1 : (kN : Int) ≤ (c1 : Int) := by omega
  have hk2 : kN ≤ c1 := by omega
  have hk3 : kN ≤ 2 := by omega
  obtain ⟨gg, hgg⟩ : ∃ g, parseR 5 (bb.take kN) = g := ⟨_, rfl⟩
  have HG := Lib.hid (HGE.out kN hkl)
  have HCT := Lib.hid (fun a v (hv : RB a v (bb.take kN)) => CUT.out a v kN hv)
  rw [hgg] at HG HCT
  obtain ⟨xx, hxx⟩ : ∃ x, gg.getD zr = x := ⟨_, rfl⟩
  obtain ⟨yb, hyb⟩ : ∃ b, gg.isSome = b := ⟨_, rfl⟩
  rw [hyb] at HG
  simp only [PA, hxx, hyb, rv, rcells] at HCT
  clear hgg hxx hyb
  obtain ⟨hh2, hhh⟩ : ∃ g, parseR 5 (bb ++ [0]) = g := ⟨_, rfl⟩
  rw [hhh] at HMO MOR
  obtain ⟨zx, hzx⟩ : ∃ x, hh2.getD zr = x := ⟨_, rfl⟩
  obtain ⟨zb, hzb⟩ : ∃ b, hh2.isSome = b := ⟨_, rfl⟩
  rw [hzb] at HMO
  simp only [PA, hzx, hzb, rv, rcells] at MOR
  clear hhh hzx hzb
  obtain rfl : yb = false := by cases yb with | false => rfl | true => exact absurd (HG.out.1 rfl) (fun h => hz h.2.1)
  obtain rfl : zb = false := by cases zb with | false => rfl | true => exact absurd (HMO.out.1 rfl) (fun h => hz h.2.1)
  go_upto_region 21 with (first | (go_at_call 21; (with_reducible refine (I4.out _).mono ?_); rintro e wx ⟨rfl, rfl⟩) | fail)
  go_upto_region 22 with (first | (go_at_call 18; refine (HCT.out _ _ (RB.take (c := c1) (by rw [HBL.out]; exact O4.out.reads) (by rw [HBL.out]; exact hk3) rfl)).mono ?_; rintro e w5 ⟨D5, rfl, d5, _, b5⟩; obtain ⟨A5, n5, c5, rfl⟩ : ∃ A n c, D5 = .slice A n c := (by obtain ⟨A, c, e, _⟩ := own_slice d5; exact ⟨_, _, _, e⟩); have X5 := Lib.hid (X4.out.trans (b5.mono X4.out.size)); have R55 := Lib.hid (row_on b5 R4.out); have O5 := Lib.hid (O4.out.below b5); clear d5 b5) | fail)
  have ba5 := (Below.refl w5.heap.size w5).alloc (Nat.le_refl _) (.cells #[.int .i64 xx.code, .int .i64 xx.obj, .int .u64 xx.hi, .int .u64 xx.lo, .slice A5 n5 c5, .int .i64 xx.nu] 45)
  refine wp_any (fun W => Below w5.heap.size w5 W) ba5 (fun W7 hI7 => ?_)
  have X7 := Lib.hid (X5.out.trans (hI7.mono X5.out.size))
  have R7 := Lib.hid (row_on hI7 R55.out)
  have O7 := Lib.hid (O5.out.below hI7)
  clear hI7 ba5
  have yr0 := cell_row (j := 0) R7.out rfl
  go_upto_region 23 with fail
  have BE := Lib.hid ((Below.refl W7.heap.size W7).alloc (Nat.le_refl _) (.cells #[] 5))
  go_upto_region 24 with (first | (at_builtin; refine list_app2 rfl (.tmp 123) (.tmp 124) 27 rfl 5 0 _ 1 1 Try.underlying27 info5 rfl (by decide) (by decide) (.slice (some ⟨W7.heap.size, 0, none⟩) 0 0) 0 [] rfl (made_row (row_new rfl)) (some ⟨g1, p1, none⟩) 2 c1 (bb.map byteC) rfl (by rw [List.length_map, HBL.out, Nat.mul_one]) ((O7.out.below BE.out).reads.holds.2) one8 (by have := HS5.out; omega) (Nat.zero_le _) ?_; intro v9 w9 hw1 hw2; obtain ⟨o9, b9, f9⟩ := app_r2 (w0 := W7) (zs := []) (ys := bb) HBL.out BE.out (fun b hb => Nat.le_of_eq (by simpa [Value.ownBlock] using hb)) hw1 hw2; have O9 := Lib.hid o9; have B9 := Lib.hid b9; have F9 := Lib.hid f9; clear hw1 hw2 o9 b9 f9) | (at_builtin; refine list_app2 rfl (.tmp 125) (.tmp 126) 27 rfl 5 0 _ 1 1 Try.underlying27 info5 rfl (by decide) (by decide) v9 ([] ++ bb).length _ rfl (OB.owns2 O9.out ((Below.refl _ _).alloc (Nat.le_refl _) _)) (some ⟨w9.heap.size, 0, none⟩) 1 1 [.int .u8 0] rfl rfl (holds_new _ _ _ _ _ rfl) (by simp [Value.oneCell']) (by have := HS5.out; have := HBL.out; rw [List.nil_append]; omega) (Nat.zero_le _) ?_; intro v10 w10 hw1 hw2; obtain ⟨o10, b10, f10⟩ := app_r2 (w0 := W7) (zs := [] ++ bb) (ys := [0]) (n := 1) rfl (B9.out.trans (((Below.refl _ w9).alloc (Nat.le_refl _) _).mono B9.out.size)) F9.out hw1 hw2; rw [List.nil_append] at o10; have O10 := Lib.hid o10; have B10 := Lib.hid b10; clear hw1 hw2 o10 b10 f10) | (go_at_call 18; refine (MOR.out _ _ O10.out).mono ?_; rintro e w11 ⟨D11, rfl, d11, _, b11⟩; obtain ⟨A11, n11, c11, rfl⟩ : ∃ A n c, D11 = .slice A n c := (by obtain ⟨A, c, e, _⟩ := own_slice d11; exact ⟨_, _, _, e⟩); have B11 := Lib.hid (B10.out.trans (b11.mono B10.out.size)); clear d11 b11) | fail)
  have ba11 := (Below.refl w11.heap.size w11).alloc (Nat.le_refl _) (.cells #[.int .i64 zx.code, .int .i64 zx.obj, .int .u64 zx.hi, .int .u64 zx.lo, .slice A11 n11 c11, .int .i64 zx.nu] 45)
  refine wp_any (fun W => Below w11.heap.size w11 W) ba11 (fun W8 hI8 => ?_)
  have B78 := B11.out.trans (hI8.mono B11.out.size)
  have X8 := Lib.hid (X7.out.trans (B78.mono X7.out.size))
  have R8 := Lib.hid (row_on B78 R7.out)
  clear hI8 ba11 B78 yr0
  have yr0 := cell_row (j := 0) R8.out rfl
  have yr4 := cell_row (j := 4) R8.out rfl
  have yr5 := cell_row (j := 5) R8.out rfl
  have zr0 := free_row (j := 0) R8.out
  have zr5 := free_row (j := 5) R8.out
  go_upto_region 28 with fail
  have K9 : Kept (fun b => b = w.heap.size + 1) W8 ((W8.setCell ⟨w.heap.size + 1, 0, none⟩ (.int .i64 7)).setCell ⟨w.heap.size + 1, 5, none⟩ (.int .i64 1)) := ((Kept.refl (fun b => b = w.heap.size + 1) W8).setCell (p := ⟨w.heap.size + 1, 0, none⟩) (.inl rfl) _).setCell (p := ⟨w.heap.size + 1, 5, none⟩) (.inl rfl) _
  have R9 := heap_setCell_same _ (w.heap.size + 1) 5 _ _ (.int .i64 1) (heap_setCell_same _ (w.heap.size + 1) 0 _ _ (.int .i64 7) R8.out)
  refine wp_any (fun W => Below w.heap.size w W ∧ W.heap[w.heap.size + 1]? = some (.cells #[.int .i64 7, .int .i64 0, .int .u64 0, .int .u64 0, .slice none 0 0, .int .i64 1] 45)) ⟨X8.out.trans (K9.below (B := w.heap.size) (fun x hx => by have h3 : x = w.heap.size + 1 := hx; omega) X8.out.size), R9⟩ (fun W9 hI9 => ?_)
  have X9 := Lib.hid hI9.1
  have R99 := Lib.hid hI9.2
  clear hI9 K9 R9 yr0 yr4 yr5 zr0 zr5
  go_wp2_with (first | (refine wpList_load_row rfl 45 (.tmp 7) rfl (w.heap.size + 1) 45 #[.int .i64 7, .int .i64 0, .int .u64 0, .int .u64 0, .slice none 0 0, .int .i64 1] (0, 0) _ rfl R99.out Try.underlying45 rfl info45 ?_) | (go_at_call 15; (with_reducible refine (N7.out _ X9.out).mono ?_); rintro e w12 ⟨rfl, b12⟩; have X12 := Lib.hid (X9.out.trans (b12.mono X9.out.size)); clear b12) | (go_at_call 15; (with_reducible refine (N0.out _).mono ?_); rintro e w13 ⟨rfl, b13⟩; have X13 := Lib.hid (X12.out.trans (b13.mono X12.out.size)); clear b13) | (go_at_call 15; (with_reducible refine (N11.out _).mono ?_); rintro e w14 ⟨rfl, b14⟩; have X14 := Lib.hid (X13.out.trans (b14.mono X13.out.size)); clear b14) | fail)
  go_ret
  exact ⟨rfl, X14.out⟩
set_option maxHeartbeats 4000000 in
set_option maxRecDepth 100000 in
theorem replies_a (w : World) (op m code cm obj hi lo nu cut : Int) (da : List Int) (Ad : Option Addr) (nd cd : Nat) (hm : op % 10 = m) (hcm : code % 65536 = cm) (ho : -9223372036854775808 ≤ op ∧ op ≤ 9223372036854775807) (hcd : -9223372036854775808 ≤ code ∧ code ≤ 9223372036854775807) (hob : -9223372036854775808 ≤ obj ∧ obj ≤ 9223372036854775807) (hnu : -9223372036854775808 ≤ nu ∧ nu ≤ 9223372036854775807) (hct : -9223372036854775808 ≤ cut ∧ cut ≤ 9223372036854775807) (hh : U64 hi) (hl : U64 lo) (hD : RB w (.slice Ad nd cd) da) (HB : Bytes da) (hz : cm ≠ 0) (h4 : ¬ m = 4) :
    Calls Try.prog 7 #[.int .i64 op, .agg #[.int .i64 code, .int .i64 obj, .int .u64 hi, .int .u64 lo, .slice Ad nd cd, .int .i64 nu], .int .i64 cut] w fun e w' => e = .returned (.bool true) ∧ Below w.heap.size w w' := by
  have hm0 : 0 ≤ m ∧ m < 10 := by omega
  have hc0 : 0 ≤ cm ∧ cm < 65536 := by omega
  have I1 := Lib.hid (fun a => by have := into_any a op 10 ho.1 ho.2 (by decide) (by decide); rwa [hm] at this)
  have I2 := Lib.hid (fun a => by have := into_any a code 65536 hcd.1 hcd.2 (by decide) (by decide); rwa [hcm] at this)
  have hw1 : IntKind.i64.wrap (1 + m) = 1 + m := by rw [IntKind.wrap_i64]; omega
  have hm5 : ¬ (1 + m = 5) := by omega
  have HTO : Hid (toldR (1 + m) (⟨cm, 0, 0, 0, [], 0⟩ : Rp)) := Lib.hid (by refine ⟨⟨⟨by omega, by omega⟩, ⟨hc0.1, by show cm ≤ 65535; omega⟩, fun h => hz h.2⟩, ?_, ⟨by first | decide | (dsimp only; decide) | (dsimp only; omega), by first | decide | (dsimp only; decide) | (dsimp only; omega)⟩, ⟨by first | decide | (dsimp only; decide) | (dsimp only; omega), by first | decide | (dsimp only; decide) | (dsimp only; omega)⟩, by first | decide | (dsimp only; decide) | (dsimp only; omega)⟩; unfold toldB untR; rw [if_pos hz]; exact ⟨⟨rfl, rfl, rfl⟩, rfl, rfl⟩)
  have HRB : Hid (∀ a, Below w.heap.size w a → RB a (.slice none 0 0) []) := Lib.hid (fun a ha => rb_nil a)
  have HUO : Hid (U64 0 ∧ U64 0) := Lib.hid ⟨by first | exact u64_0 | exact hh, by first | exact u64_0 | exact hl⟩
  have HDA : Hid (Bytes []) := Lib.hid (by first | exact HB | exact (fun z hz => by cases hz) | exact (fun z hz => HB z (List.mem_of_mem_take hz)))
  obtain ⟨bb, hbb⟩ : ∃ b, encR (1 + m) (⟨cm, 0, 0, 0, [], 0⟩ : Rp) = b := ⟨_, rfl⟩
  have HBL : Hid (bb.length = 2) := Lib.hid (by rw [← hbb, encR_len]; rw [if_pos hz])
  have HBY : Hid (Bytes bb) := Lib.hid (by rw [← hbb]; exact encR_bytes HDA.out)
  have HPS : Hid (parseR (1 + m) bb = some (⟨cm, 0, 0, 0, [], 0⟩ : Rp)) := Lib.hid (parseR_iff _ _ _ HUO.out.1 HUO.out.2 HTO.out hbb)
  have HGE : Hid (∀ k, k < 2 → ((parseR (1 + m) (bb.take k)).isSome = true ↔ (((1 + m) : Int) = 5 ∧ (cm : Int) = 0 ∧ 2 ≤ k))) := Lib.hid (fun k hk => by have := cutR HTO.out k (by rw [hbb, HBL.out]; exact hk); rw [hbb] at this; exact this)
  have HMO : Hid ((parseR (1 + m) (bb ++ [0])).isSome = true ↔ (((1 + m) : Int) = 5 ∧ (cm : Int) = 0 ∧ ([] : List Int).length < 1024)) := Lib.hid (by have := moreR HTO.out; rw [hbb] at this; exact this)
  have HS5 : Hid (2 ≤ 1026) := Lib.hid (by decide)
  have ANS := Lib.hid (fun a (ha : Below w.heap.size w a) => by
    have := answer_any a (1 + m) (⟨cm, 0, 0, 0, [], 0⟩ : Rp) (.slice none 0 0) (HRB.out a ha) HUO.out.1 HUO.out.2
    rw [show ansE (1 + m) (⟨cm, 0, 0, 0, [], 0⟩ : Rp) = 0 from if_pos HTO.out, show ansO (1 + m) (⟨cm, 0, 0, 0, [], 0⟩ : Rp) = bb from (if_pos HTO.out).trans hbb] at this
    exact this)
  have PAR := Lib.hid (fun a v (hv : OB a v bb) => by
    have := parseA_any a (1 + m) v bb (by rw [HBL.out]; have := HS5.out; omega) HBY.out hv.reads
    rw [HPS.out] at this
    exact this)
  have CUT := Lib.hid (fun a v k (hv : RB a v (bb.take k)) => parseA_any a (1 + m) v (bb.take k) (by rw [List.length_take, HBL.out]; have := HS5.out; omega) (fun z hz => HBY.out z (List.mem_of_mem_take hz)) hv)
  have MOR := Lib.hid (fun a v (hv : OB a v (bb ++ [0])) => parseA_any a (1 + m) v (bb ++ [0]) (by rw [List.length_append, HBL.out, List.length_singleton]; have := HS5.out; omega) (app_bytes HBY.out (fun z hz => by obtain rfl := List.mem_singleton.1 hz; omega)) hv.reads)
  have N7 := Lib.hid (fun a (ha : Below w.heap.size w a) => answer_no a (1 + m) (⟨7, 0, 0, 0, [], 1⟩ : Rp) (.slice none 0 0) (HRB.out a ha).sl (fun h => by have h1 := h.2.1.2.2; unfold untR at h1; rw [if_pos (by first | decide | (dsimp only; decide) | (dsimp only; omega))] at h1; exact absurd h1 (by first | decide | (dsimp only; decide) | (dsimp only; omega))))
  have N0 := Lib.hid (fun a => answer_no a 0 ⟨0, 0, 0, 0, [], 0⟩ (.slice none 0 0) ⟨_, _, rfl⟩ (by decide))
  have N11 := Lib.hid (fun a => answer_no a 11 ⟨7, 0, 0, 0, [], 0⟩ (.slice none 0 0) ⟨_, _, rfl⟩ (by decide))
  have SAM := Lib.hid (fun a D2 (h1 : RB a D2 []) (h2 : RB a (.slice none 0 0) []) => by
    have := sameR_any a (⟨cm, 0, 0, 0, [], 0⟩ : Rp) (⟨cm, 0, 0, 0, [], 0⟩ : Rp) D2 (.slice none 0 0) h1 h2 HDA.out HDA.out
    rwa [decide_eq_true rfl] at this)
  obtain ⟨kN, hkN⟩ : ∃ k : Nat, cut % 2 = (k : Int) := ⟨(cut % 2).toNat, by have := Int.emod_nonneg cut (b := 2) (by decide); omega⟩
  have hkl : kN < 2 := by have := Int.emod_lt_of_pos cut (b := 2) (by decide); omega
  have I4 := Lib.hid (fun a => by have := into_any a cut 2 hct.1 hct.2 (by decide) (by have := HS5.out; omega); rwa [hkN] at this)
  simp only [PA, rv, rcells, Option.getD_some, Option.isSome_some, if_true] at ANS PAR N7 N0 N11 SAM
  clear hm hcm ho hcd hob hnu hct hh hl hD HB hbb hkN HTO hc0
  go_enter Try.func7, Try.ntmps7
  go_upto_region 4 with (first | (go_at_call 21; (with_reducible refine (I1.out _).mono ?_); rintro e wx ⟨rfl, rfl⟩) | (go_at_call 21; (with_reducible refine (I2.out _).mono ?_); rintro e wx ⟨rfl, rfl⟩) | fail)
  go_upto_region 16 with fail
  refine wp_any (fun W => Below w.heap.size w W ∧ W.heap[w.heap.size + 1]? = some (.cells #[.int .i64 cm, .int .i64 0, .int .u64 0, .int .u64 0, .slice none 0 0, .int .i64 0] 45)) ⟨((Below.refl _ w).alloc (Nat.le_refl _) _).alloc (by simp) _, row_new (by simp)⟩ (fun W5 hI5 => ?_)
  have B5 := Lib.hid hI5.1
  have R5 := Lib.hid hI5.2
  clear hI5
  go_upto_region 17 with (first | (refine wpList_load_row rfl 45 (.tmp 7) rfl (w.heap.size + 1) 45 #[.int .i64 cm, .int .i64 0, .int .u64 0, .int .u64 0, .slice none 0 0, .int .i64 0] (0, 0) _ rfl R5.out Try.underlying45 rfl info45 ?_) | (go_at_call 15; refine (ANS.out _ B5.out).mono ?_; rintro e w1 ⟨v1, rfl, o1, b1, f1⟩; obtain ⟨A1, c1, he, hec⟩ := own_slice o1; rw [HBL.out] at he hec; subst he; have O1 := Lib.hid o1; have B1 := Lib.hid b1; have R1 := Lib.hid (row_on b1 R5.out); have X1 := Lib.hid (B5.out.trans (b1.mono B5.out.size)); clear o1 b1 f1) | fail)
  obtain ⟨g1, p1, rfl⟩ : ∃ g o, A1 = some ⟨g, o, none⟩ := by
    obtain ⟨A, c, e, _, _, h⟩ := O1.out.reads
    obtain ⟨g, o, e2, _⟩ := h (by rw [HBL.out]; omega)
    injection e with e1
    exact ⟨g, o, e1.trans e2⟩
  go_upto_region 18 with (first | (go_at_call 18; refine (PAR.out _ _ O1.out).mono ?_; rintro e w2 ⟨D2, rfl, d2, _, b2⟩; obtain ⟨A2, n2, c2, rfl⟩ : ∃ A n c, D2 = .slice A n c := (by obtain ⟨A, c, e, _⟩ := own_slice d2; exact ⟨_, _, _, e⟩); have DD2 := Lib.hid d2; have B2 := Lib.hid b2; have R2 := Lib.hid (row_on b2 R1.out); have X2 := Lib.hid (X1.out.trans (b2.mono X1.out.size)); have O2 := Lib.hid (O1.out.below b2); clear d2 b2) | fail)
  have ba := (Below.refl w2.heap.size w2).alloc (Nat.le_refl _) (.cells #[.int .i64 cm, .int .i64 0, .int .u64 0, .int .u64 0, .slice A2 n2 c2, .int .i64 0] 45)
  refine wp_any (fun W => Below w2.heap.size w2 W ∧ W.heap[w2.heap.size]? = some (.cells #[.int .i64 cm, .int .i64 0, .int .u64 0, .int .u64 0, .slice A2 n2 c2, .int .i64 0] 45)) ⟨ba, row_new rfl⟩ (fun W6 hI6 => ?_)
  have X6 := Lib.hid (X2.out.trans (hI6.1.mono X2.out.size))
  have R6 := Lib.hid (row_on hI6.1 R2.out)
  have O6 := Lib.hid (O2.out.below hI6.1)
  have D6 := Lib.hid (DD2.out.below hI6.1)
  have T6 := Lib.hid hI6.2
  clear hI6 ba
  go_upto_region 20 with (first | (go_at_call 11; refine (known_any _).mono ?_; rintro e w3 ⟨rfl, b3⟩; have X3 := Lib.hid (X6.out.trans (b3.mono X6.out.size)); have R3 := Lib.hid (row_on b3 R6.out); have O3 := Lib.hid (O6.out.below b3); have D3 := Lib.hid (D6.out.below b3); have T3 := Lib.hid (row_on b3 T6.out); have ty0 := cell_row (j := 0) T3.out rfl; have ry0 := cell_row (j := 0) R3.out rfl; have ty1 := cell_row (j := 1) T3.out rfl; have ry1 := cell_row (j := 1) R3.out rfl; have ty2 := cell_row (j := 2) T3.out rfl; have ry2 := cell_row (j := 2) R3.out rfl; have ty3 := cell_row (j := 3) T3.out rfl; have ry3 := cell_row (j := 3) R3.out rfl; have ty4 := cell_row (j := 4) T3.out rfl; have ry4 := cell_row (j := 4) R3.out rfl; have ty5 := cell_row (j := 5) T3.out rfl; have ry5 := cell_row (j := 5) R3.out rfl; clear b3) | (go_at_call 19; clear ty0 ry0 ty1 ry1 ty2 ry2 ty3 ry3 ty4 ry4 ty5 ry5; refine (SAM.out _ _ D3.out.reads (HRB.out _ X3.out)).mono ?_; rintro e w4 ⟨rfl, b4⟩; have X4 := Lib.hid (X3.out.trans (b4.mono X3.out.size)); have R4 := Lib.hid (row_on b4 R3.out); have O4 := Lib.hid (O3.out.below b4); clear b4) | fail)
  have hk0 : (0 : Int) ≤ (kN : Int) := by omega
  have hk1 : (kN : Int) ≤ (c1 : Int) := by omega
  have hk2 : kN ≤ c1 := by omega
  have hk3 : kN ≤ 2 := by omega
  obtain ⟨gg, hgg⟩ : ∃ g, parseR (1 + m) (bb.take kN) = g := ⟨_, rfl⟩
  have HG := Lib.hid (HGE.out kN hkl)
  have HCT := Lib.hid (fun a v (hv : RB a v (bb.take kN)) => CUT.out a v kN hv)
  rw [hgg] at HG HCT
  obtain ⟨xx, hxx⟩ : ∃ x, gg.getD zr = x := ⟨_, rfl⟩
  obtain ⟨yb, hyb⟩ : ∃ b, gg.isSome = b := ⟨_, rfl⟩
  rw [hyb] at HG
  simp only [PA, hxx, hyb, rv, rcells] at HCT
  clear hgg hxx hyb
  obtain ⟨hh2, hhh⟩ : ∃ g, parseR (1 + m) (bb ++ [0]) = g := ⟨_, rfl⟩
  rw [hhh] at HMO MOR
  obtain ⟨zx, hzx⟩ : ∃ x, hh2.getD zr = x := ⟨_, rfl⟩
  obtain ⟨zb, hzb⟩ : ∃ b, hh2.isSome = b := ⟨_, rfl⟩
  rw [hzb] at HMO
  simp only [PA, hzx, hzb, rv, rcells] at MOR
  clear hhh hzx hzb
  obtain rfl : yb = false := by cases yb with | false => rfl | true => exact absurd (HG.out.1 rfl) (fun h => hz h.2.1)
  obtain rfl : zb = false := by cases zb with | false => rfl | true => exact absurd (HMO.out.1 rfl) (fun h => hz h.2.1)
  go_upto_region 21 with (first | (go_at_call 21; (with_reducible refine (I4.out _).mono ?_); rintro e wx ⟨rfl, rfl⟩) | fail)
  go_upto_region 22 with (first | (go_at_call 18; refine (HCT.out _ _ (RB.take (c := c1) (by rw [HBL.out]; exact O4.out.reads) (by rw [HBL.out]; exact hk3) rfl)).mono ?_; rintro e w5 ⟨D5, rfl, d5, _, b5⟩; obtain ⟨A5, n5, c5, rfl⟩ : ∃ A n c, D5 = .slice A n c := (by obtain ⟨A, c, e, _⟩ := own_slice d5; exact ⟨_, _, _, e⟩); have X5 := Lib.hid (X4.out.trans (b5.mono X4.out.size)); have R55 := Lib.hid (row_on b5 R4.out); have O5 := Lib.hid (O4.out.below b5); clear d5 b5) | fail)
  have ba5 := (Below.refl w5.heap.size w5).alloc (Nat.le_refl _) (.cells #[.int .i64 xx.code, .int .i64 xx.obj, .int .u64 xx.hi, .int .u64 xx.lo, .slice A5 n5 c5, .int .i64 xx.nu] 45)
  refine wp_any (fun W => Below w5.heap.size w5 W) ba5 (fun W7 hI7 => ?_)
  have X7 := Lib.hid (X5.out.trans (hI7.mono X5.out.size))
  have R7 := Lib.hid (row_on hI7 R55.out)
  have O7 := Lib.hid (O5.out.below hI7)
  clear hI7 ba5
  have yr0 := cell_row (j := 0) R7.out rfl
  go_upto_region 23 with fail
  have BE := Lib.hid ((Below.refl W7.heap.size W7).alloc (Nat.le_refl _) (.cells #[] 5))
  go_upto_region 24 with (first | (at_builtin; refine list_app2 rfl (.tmp 123) (.tmp 124) 27 rfl 5 0 _ 1 1 Try.underlying27 info5 rfl (by decide) (by decide) (.slice (some ⟨W7.heap.size, 0, none⟩) 0 0) 0 [] rfl (made_row (row_new rfl)) (some ⟨g1, p1, none⟩) 2 c1 (bb.map byteC) rfl (by rw [List.length_map, HBL.out, Nat.mul_one]) ((O7.out.below BE.out).reads.holds.2) one8 (by have := HS5.out; omega) (Nat.zero_le _) ?_; intro v9 w9 hw1 hw2; obtain ⟨o9, b9, f9⟩ := app_r2 (w0 := W7) (zs := []) (ys := bb) HBL.out BE.out (fun b hb => Nat.le_of_eq (by simpa [Value.ownBlock] using hb)) hw1 hw2; have O9 := Lib.hid o9; have B9 := Lib.hid b9; have F9 := Lib.hid f9; clear hw1 hw2 o9 b9 f9) | (at_builtin; refine list_app2 rfl (.tmp 125) (.tmp 126) 27 rfl 5 0 _ 1 1 Try.underlying27 info5 rfl (by decide) (by decide) v9 ([] ++ bb).length _ rfl (OB.owns2 O9.out ((Below.refl _ _).alloc (Nat.le_refl _) _)) (some ⟨w9.heap.size, 0, none⟩) 1 1 [.int .u8 0] rfl rfl (holds_new _ _ _ _ _ rfl) (by simp [Value.oneCell']) (by have := HS5.out; have := HBL.out; rw [List.nil_append]; omega) (Nat.zero_le _) ?_; intro v10 w10 hw1 hw2; obtain ⟨o10, b10, f10⟩ := app_r2 (w0 := W7) (zs := [] ++ bb) (ys := [0]) (n := 1) rfl (B9.out.trans (((Below.refl _ w9).alloc (Nat.le_refl _) _).mono B9.out.size)) F9.out hw1 hw2; rw [List.nil_append] at o10; have O10 := Lib.hid o10; have B10 := Lib.hid b10; clear hw1 hw2 o10 b10 f10) | (go_at_call 18; refine (MOR.out _ _ O10.out).mono ?_; rintro e w11 ⟨D11, rfl, d11, _, b11⟩; obtain ⟨A11, n11, c11, rfl⟩ : ∃ A n c, D11 = .slice A n c := (by obtain ⟨A, c, e, _⟩ := own_slice d11; exact ⟨_, _, _, e⟩); have B11 := Lib.hid (B10.out.trans (b11.mono B10.out.size)); clear d11 b11) | fail)
  have ba11 := (Below.refl w11.heap.size w11).alloc (Nat.le_refl _) (.cells #[.int .i64 zx.code, .int .i64 zx.obj, .int .u64 zx.hi, .int .u64 zx.lo, .slice A11 n11 c11, .int .i64 zx.nu] 45)
  refine wp_any (fun W => Below w11.heap.size w11 W) ba11 (fun W8 hI8 => ?_)
  have B78 := B11.out.trans (hI8.mono B11.out.size)
  have X8 := Lib.hid (X7.out.trans (B78.mono X7.out.size))
  have R8 := Lib.hid (row_on B78 R7.out)
  clear hI8 ba11 B78 yr0
  have yr0 := cell_row (j := 0) R8.out rfl
  have yr4 := cell_row (j := 4) R8.out rfl
  have yr5 := cell_row (j := 5) R8.out rfl
  have zr0 := free_row (j := 0) R8.out
  have zr5 := free_row (j := 5) R8.out
  go_upto_region 28 with fail
  have K9 : Kept (fun b => b = w.heap.size + 1) W8 ((W8.setCell ⟨w.heap.size + 1, 0, none⟩ (.int .i64 7)).setCell ⟨w.heap.size + 1, 5, none⟩ (.int .i64 1)) := ((Kept.refl (fun b => b = w.heap.size + 1) W8).setCell (p := ⟨w.heap.size + 1, 0, none⟩) (.inl rfl) _).setCell (p := ⟨w.heap.size + 1, 5, none⟩) (.inl rfl) _
  have R9 := heap_setCell_same _ (w.heap.size + 1) 5 _ _ (.int .i64 1) (heap_setCell_same _ (w.heap.size + 1) 0 _ _ (.int .i64 7) R8.out)
  refine wp_any (fun W => Below w.heap.size w W ∧ W.heap[w.heap.size + 1]? = some (.cells #[.int .i64 7, .int .i64 0, .int .u64 0, .int .u64 0, .slice none 0 0, .int .i64 1] 45)) ⟨X8.out.trans (K9.below (B := w.heap.size) (fun x hx => by have h3 : x = w.heap.size + 1 := hx; omega) X8.out.size), R9⟩ (fun W9 hI9 => ?_)
  have X9 := Lib.hid hI9.1
  have R99 := Lib.hid hI9.2
  clear hI9 K9 R9 yr0 yr4 yr5 zr0 zr5
  go_wp2_with (first | (refine wpList_load_row rfl 45 (.tmp 7) rfl (w.heap.size + 1) 45 #[.int .i64 7, .int .i64 0, .int .u64 0, .int .u64 0, .slice none 0 0, .int .i64 1] (0, 0) _ rfl R99.out Try.underlying45 rfl info45 ?_) | (go_at_call 15; (with_reducible refine (N7.out _ X9.out).mono ?_); rintro e w12 ⟨rfl, b12⟩; have X12 := Lib.hid (X9.out.trans (b12.mono X9.out.size)); clear b12) | (go_at_call 15; (with_reducible refine (N0.out _).mono ?_); rintro e w13 ⟨rfl, b13⟩; have X13 := Lib.hid (X12.out.trans (b13.mono X12.out.size)); clear b13) | (go_at_call 15; (with_reducible refine (N11.out _).mono ?_); rintro e w14 ⟨rfl, b14⟩; have X14 := Lib.hid (X13.out.trans (b14.mono X13.out.size)); clear b14) | fail)
  go_ret
  exact ⟨rfl, X14.out⟩
set_option maxHeartbeats 4000000 in
set_option maxRecDepth 100000 in
theorem replies_d (w : World) (op m code cm obj hi lo nu cut : Int) (da : List Int) (Ad : Option Addr) (nd cd : Nat) (hm : op % 10 = m) (hcm : code % 65536 = cm) (ho : -9223372036854775808 ≤ op ∧ op ≤ 9223372036854775807) (hcd : -9223372036854775808 ≤ code ∧ code ≤ 9223372036854775807) (hob : -9223372036854775808 ≤ obj ∧ obj ≤ 9223372036854775807) (hnu : -9223372036854775808 ≤ nu ∧ nu ≤ 9223372036854775807) (hct : -9223372036854775808 ≤ cut ∧ cut ≤ 9223372036854775807) (hh : U64 hi) (hl : U64 lo) (hD : RB w (.slice Ad nd cd) da) (HB : Bytes da) (hz : cm = 0) (h8 : m = 8) (n9 : Int) (hn : nu % 65536 = n9) :
    Calls Try.prog 7 #[.int .i64 op, .agg #[.int .i64 code, .int .i64 obj, .int .u64 hi, .int .u64 lo, .slice Ad nd cd, .int .i64 nu], .int .i64 cut] w fun e w' => e = .returned (.bool true) ∧ Below w.heap.size w w' := by
  have hm0 : 0 ≤ m ∧ m < 10 := by omega
  have hc0 : 0 ≤ cm ∧ cm < 65536 := by omega
  have I1 := Lib.hid (fun a => by have := into_any a op 10 ho.1 ho.2 (by decide) (by decide); rwa [hm] at this)
  have I2 := Lib.hid (fun a => by have := into_any a code 65536 hcd.1 hcd.2 (by decide) (by decide); rwa [hcm] at this)
  have hw1 : IntKind.i64.wrap (1 + m) = 1 + m := by rw [IntKind.wrap_i64]; omega
  subst hz h8
  have hn9 : 0 ≤ n9 ∧ n9 < 65536 := by omega
  have I3 := Lib.hid (fun a => by have := into_any a nu 65536 hnu.1 hnu.2 (by decide) (by decide); rwa [hn] at this)
  have HTO : Hid (toldR 9 (⟨0, 0, 0, 0, [], n9⟩ : Rp)) := Lib.hid (by refine ⟨⟨⟨by first | decide | (dsimp only; decide) | (dsimp only; omega), by first | decide | (dsimp only; decide) | (dsimp only; omega)⟩, ⟨by first | decide | (dsimp only; decide) | (dsimp only; omega), by first | decide | (dsimp only; decide) | (dsimp only; omega)⟩, by first | decide | (dsimp only; decide) | (dsimp only; omega)⟩, ?_, ⟨by first | decide | (dsimp only; decide) | (dsimp only; omega), by first | decide | (dsimp only; decide) | (dsimp only; omega)⟩, ⟨hn9.1, by show n9 ≤ 65535; omega⟩, by first | decide | (dsimp only; decide) | (dsimp only; omega)⟩; unfold toldB untR; rw [if_neg (by first | decide | (dsimp only; decide) | (dsimp only; omega)), if_neg (by first | decide | (dsimp only; decide) | (dsimp only; omega)), if_neg (by first | decide | (dsimp only; decide) | (dsimp only; omega)), if_pos rfl]; exact ⟨⟨rfl, rfl, rfl⟩, rfl, rfl⟩)
  have HRB : Hid (∀ a, Below w.heap.size w a → RB a (.slice none 0 0) []) := Lib.hid (fun a ha => rb_nil a)
  have HUO : Hid (U64 0 ∧ U64 0) := Lib.hid ⟨by first | exact u64_0 | exact hh, by first | exact u64_0 | exact hl⟩
  have HDA : Hid (Bytes []) := Lib.hid (by first | exact HB | exact (fun z hz => by cases hz) | exact (fun z hz => HB z (List.mem_of_mem_take hz)))
  obtain ⟨bb, hbb⟩ : ∃ b, encR 9 (⟨0, 0, 0, 0, [], n9⟩ : Rp) = b := ⟨_, rfl⟩
  have HBL : Hid (bb.length = 4) := Lib.hid (by rw [← hbb, encR_len]; rw [if_neg (by first | decide | (dsimp only; decide) | (dsimp only; omega)), if_neg (by first | decide | (dsimp only; decide) | (dsimp only; omega)), if_neg (by first | decide | (dsimp only; decide) | (dsimp only; omega)), if_pos rfl])
  have HBY : Hid (Bytes bb) := Lib.hid (by rw [← hbb]; exact encR_bytes HDA.out)
  have HPS : Hid (parseR 9 bb = some (⟨0, 0, 0, 0, [], n9⟩ : Rp)) := Lib.hid (parseR_iff _ _ _ HUO.out.1 HUO.out.2 HTO.out hbb)
  have HGE : Hid (∀ k, k < 4 → ((parseR 9 (bb.take k)).isSome = true ↔ ((9 : Int) = 5 ∧ (0 : Int) = 0 ∧ 2 ≤ k))) := Lib.hid (fun k hk => by have := cutR HTO.out k (by rw [hbb, HBL.out]; exact hk); rw [hbb] at this; exact this)
  have HMO : Hid ((parseR 9 (bb ++ [0])).isSome = true ↔ ((9 : Int) = 5 ∧ (0 : Int) = 0 ∧ ([] : List Int).length < 1024)) := Lib.hid (by have := moreR HTO.out; rw [hbb] at this; exact this)
  have HS5 : Hid (4 ≤ 1026) := Lib.hid (by decide)
  have ANS := Lib.hid (fun a (ha : Below w.heap.size w a) => by
    have := answer_any a 9 (⟨0, 0, 0, 0, [], n9⟩ : Rp) (.slice none 0 0) (HRB.out a ha) HUO.out.1 HUO.out.2
    rw [show ansE 9 (⟨0, 0, 0, 0, [], n9⟩ : Rp) = 0 from if_pos HTO.out, show ansO 9 (⟨0, 0, 0, 0, [], n9⟩ : Rp) = bb from (if_pos HTO.out).trans hbb] at this
    exact this)
  have PAR := Lib.hid (fun a v (hv : OB a v bb) => by
    have := parseA_any a 9 v bb (by rw [HBL.out]; have := HS5.out; omega) HBY.out hv.reads
    rw [HPS.out] at this
    exact this)
  have CUT := Lib.hid (fun a v k (hv : RB a v (bb.take k)) => parseA_any a 9 v (bb.take k) (by rw [List.length_take, HBL.out]; have := HS5.out; omega) (fun z hz => HBY.out z (List.mem_of_mem_take hz)) hv)
  have MOR := Lib.hid (fun a v (hv : OB a v (bb ++ [0])) => parseA_any a 9 v (bb ++ [0]) (by rw [List.length_append, HBL.out, List.length_singleton]; have := HS5.out; omega) (app_bytes HBY.out (fun z hz => by obtain rfl := List.mem_singleton.1 hz; omega)) hv.reads)
  have N7 := Lib.hid (fun a (ha : Below w.heap.size w a) => answer_no a 9 (⟨7, 0, 0, 0, [], 1⟩ : Rp) (.slice none 0 0) (HRB.out a ha).sl (fun h => by have h1 := h.2.1.2.2; unfold untR at h1; rw [if_pos (by first | decide | (dsimp only; decide) | (dsimp only; omega))] at h1; exact absurd h1 (by first | decide | (dsimp only; decide) | (dsimp only; omega))))
  have N0 := Lib.hid (fun a => answer_no a 0 ⟨0, 0, 0, 0, [], 0⟩ (.slice none 0 0) ⟨_, _, rfl⟩ (by decide))
  have N11 := Lib.hid (fun a => answer_no a 11 ⟨7, 0, 0, 0, [], 0⟩ (.slice none 0 0) ⟨_, _, rfl⟩ (by decide))
  have SAM := Lib.hid (fun a D2 (h1 : RB a D2 []) (h2 : RB a (.slice none 0 0) []) => by
    have := sameR_any a (⟨0, 0, 0, 0, [], n9⟩ : Rp) (⟨0, 0, 0, 0, [], n9⟩ : Rp) D2 (.slice none 0 0) h1 h2 HDA.out HDA.out
    rwa [decide_eq_true rfl] at this)
  obtain ⟨kN, hkN⟩ : ∃ k : Nat, cut % 4 = (k : Int) := ⟨(cut % 4).toNat, by have := Int.emod_nonneg cut (b := 4) (by decide); omega⟩
  have hkl : kN < 4 := by have := Int.emod_lt_of_pos cut (b := 4) (by decide); omega
  have I4 := Lib.hid (fun a => by have := into_any a cut 4 hct.1 hct.2 (by decide) (by have := HS5.out; omega); rwa [hkN] at this)
  simp only [PA, rv, rcells, Option.getD_some, Option.isSome_some, if_true] at ANS PAR N7 N0 N11 SAM
  clear hm hcm ho hcd hob hnu hct hh hl hD HB hbb hkN HTO hc0 hn hn9
  go_enter Try.func7, Try.ntmps7
  go_upto_region 4 with (first | (go_at_call 21; (with_reducible refine (I1.out _).mono ?_); rintro e wx ⟨rfl, rfl⟩) | (go_at_call 21; (with_reducible refine (I2.out _).mono ?_); rintro e wx ⟨rfl, rfl⟩) | fail)
  go_upto_region 16 with (first | (go_at_call 21; (with_reducible refine (I3.out _).mono ?_); rintro e wx ⟨rfl, rfl⟩) | fail)
  refine wp_any (fun W => Below w.heap.size w W ∧ W.heap[w.heap.size + 1]? = some (.cells #[.int .i64 0, .int .i64 0, .int .u64 0, .int .u64 0, .slice none 0 0, .int .i64 n9] 45)) ⟨((Below.refl _ w).alloc (Nat.le_refl _) _).alloc (by simp) _, row_new (by simp)⟩ (fun W5 hI5 => ?_)
  have B5 := Lib.hid hI5.1
  have R5 := Lib.hid hI5.2
  clear hI5
  go_upto_region 17 with (first | (refine wpList_load_row rfl 45 (.tmp 7) rfl (w.heap.size + 1) 45 #[.int .i64 0, .int .i64 0, .int .u64 0, .int .u64 0, .slice none 0 0, .int .i64 n9] (0, 0) _ rfl R5.out Try.underlying45 rfl info45 ?_) | (go_at_call 15; refine (ANS.out _ B5.out).mono ?_; rintro e w1 ⟨v1, rfl, o1, b1, f1⟩; obtain ⟨A1, c1, he, hec⟩ := own_slice o1; rw [HBL.out] at he hec; subst he; have O1 := Lib.hid o1; have B1 := Lib.hid b1; have R1 := Lib.hid (row_on b1 R5.out); have X1 := Lib.hid (B5.out.trans (b1.mono B5.out.size)); clear o1 b1 f1) | fail)
  obtain ⟨g1, p1, rfl⟩ : ∃ g o, A1 = some ⟨g, o, none⟩ := by
    obtain ⟨A, c, e, _, _, h⟩ := O1.out.reads
    obtain ⟨g, o, e2, _⟩ := h (by rw [HBL.out]; omega)
    injection e with e1
    exact ⟨g, o, e1.trans e2⟩
  go_upto_region 18 with (first | (go_at_call 18; refine (PAR.out _ _ O1.out).mono ?_; rintro e w2 ⟨D2, rfl, d2, _, b2⟩; obtain ⟨A2, n2, c2, rfl⟩ : ∃ A n c, D2 = .slice A n c := (by obtain ⟨A, c, e, _⟩ := own_slice d2; exact ⟨_, _, _, e⟩); have DD2 := Lib.hid d2; have B2 := Lib.hid b2; have R2 := Lib.hid (row_on b2 R1.out); have X2 := Lib.hid (X1.out.trans (b2.mono X1.out.size)); have O2 := Lib.hid (O1.out.below b2); clear d2 b2) | fail)
  have ba := (Below.refl w2.heap.size w2).alloc (Nat.le_refl _) (.cells #[.int .i64 0, .int .i64 0, .int .u64 0, .int .u64 0, .slice A2 n2 c2, .int .i64 n9] 45)
  refine wp_any (fun W => Below w2.heap.size w2 W ∧ W.heap[w2.heap.size]? = some (.cells #[.int .i64 0, .int .i64 0, .int .u64 0, .int .u64 0, .slice A2 n2 c2, .int .i64 n9] 45)) ⟨ba, row_new rfl⟩ (fun W6 hI6 => ?_)
  have X6 := Lib.hid (X2.out.trans (hI6.1.mono X2.out.size))
  have R6 := Lib.hid (row_on hI6.1 R2.out)
  have O6 := Lib.hid (O2.out.below hI6.1)
  have D6 := Lib.hid (DD2.out.below hI6.1)
  have T6 := Lib.hid hI6.2
  clear hI6 ba
  go_upto_region 20 with (first | (go_at_call 11; refine (known_any _).mono ?_; rintro e w3 ⟨rfl, b3⟩; have X3 := Lib.hid (X6.out.trans (b3.mono X6.out.size)); have R3 := Lib.hid (row_on b3 R6.out); have O3 := Lib.hid (O6.out.below b3); have D3 := Lib.hid (D6.out.below b3); have T3 := Lib.hid (row_on b3 T6.out); have ty0 := cell_row (j := 0) T3.out rfl; have ry0 := cell_row (j := 0) R3.out rfl; have ty1 := cell_row (j := 1) T3.out rfl; have ry1 := cell_row (j := 1) R3.out rfl; have ty2 := cell_row (j := 2) T3.out rfl; have ry2 := cell_row (j := 2) R3.out rfl; have ty3 := cell_row (j := 3) T3.out rfl; have ry3 := cell_row (j := 3) R3.out rfl; have ty4 := cell_row (j := 4) T3.out rfl; have ry4 := cell_row (j := 4) R3.out rfl; have ty5 := cell_row (j := 5) T3.out rfl; have ry5 := cell_row (j := 5) R3.out rfl; clear b3) | (go_at_call 19; clear ty0 ry0 ty1 ry1 ty2 ry2 ty3 ry3 ty4 ry4 ty5 ry5; refine (SAM.out _ _ D3.out.reads (HRB.out _ X3.out)).mono ?_; rintro e w4 ⟨rfl, b4⟩; have X4 := Lib.hid (X3.out.trans (b4.mono X3.out.size)); have R4 := Lib.hid (row_on b4 R3.out); have O4 := Lib.hid (O3.out.below b4); clear b4) | fail)
  have hk0 : (0 : Int) ≤ (kN : Int) := by omega
  have hk1 : (kN : Int) ≤ (c1 : Int) := by omega
  have hk2 : kN ≤ c1 := by omega
  have hk3 : kN ≤ 4 := by omega
  obtain ⟨gg, hgg⟩ : ∃ g, parseR 9 (bb.take kN) = g := ⟨_, rfl⟩
  have HG := Lib.hid (HGE.out kN hkl)
  have HCT := Lib.hid (fun a v (hv : RB a v (bb.take kN)) => CUT.out a v kN hv)
  rw [hgg] at HG HCT
  obtain ⟨xx, hxx⟩ : ∃ x, gg.getD zr = x := ⟨_, rfl⟩
  obtain ⟨yb, hyb⟩ : ∃ b, gg.isSome = b := ⟨_, rfl⟩
  rw [hyb] at HG
  simp only [PA, hxx, hyb, rv, rcells] at HCT
  clear hgg hxx hyb
  obtain ⟨hh2, hhh⟩ : ∃ g, parseR 9 (bb ++ [0]) = g := ⟨_, rfl⟩
  rw [hhh] at HMO MOR
  obtain ⟨zx, hzx⟩ : ∃ x, hh2.getD zr = x := ⟨_, rfl⟩
  obtain ⟨zb, hzb⟩ : ∃ b, hh2.isSome = b := ⟨_, rfl⟩
  rw [hzb] at HMO
  simp only [PA, hzx, hzb, rv, rcells] at MOR
  clear hhh hzx hzb
  obtain rfl : yb = false := by cases yb with | false => rfl | true => exact absurd (HG.out.1 rfl) (fun h => absurd h.1 (by decide))
  obtain rfl : zb = false := by cases zb with | false => rfl | true => exact absurd (HMO.out.1 rfl) (fun h => absurd h.1 (by decide))
  go_upto_region 21 with (first | (go_at_call 21; (with_reducible refine (I4.out _).mono ?_); rintro e wx ⟨rfl, rfl⟩) | fail)
  go_upto_region 22 with (first | (go_at_call 18; refine (HCT.out _ _ (RB.take (c := c1) (by rw [HBL.out]; exact O4.out.reads) (by rw [HBL.out]; exact hk3) rfl)).mono ?_; rintro e w5 ⟨D5, rfl, d5, _, b5⟩; obtain ⟨A5, n5, c5, rfl⟩ : ∃ A n c, D5 = .slice A n c := (by obtain ⟨A, c, e, _⟩ := own_slice d5; exact ⟨_, _, _, e⟩); have X5 := Lib.hid (X4.out.trans (b5.mono X4.out.size)); have R55 := Lib.hid (row_on b5 R4.out); have O5 := Lib.hid (O4.out.below b5); clear d5 b5) | fail)
  have ba5 := (Below.refl w5.heap.size w5).alloc (Nat.le_refl _) (.cells #[.int .i64 xx.code, .int .i64 xx.obj, .int .u64 xx.hi, .int .u64 xx.lo, .slice A5 n5 c5, .int .i64 xx.nu] 45)
  refine wp_any (fun W => Below w5.heap.size w5 W) ba5 (fun W7 hI7 => ?_)
  have X7 := Lib.hid (X5.out.trans (hI7.mono X5.out.size))
  have R7 := Lib.hid (row_on hI7 R55.out)
  have O7 := Lib.hid (O5.out.below hI7)
  clear hI7 ba5
  have yr0 := cell_row (j := 0) R7.out rfl
  go_upto_region 23 with fail
  have BE := Lib.hid ((Below.refl W7.heap.size W7).alloc (Nat.le_refl _) (.cells #[] 5))
  go_upto_region 24 with (first | (at_builtin; refine list_app2 rfl (.tmp 123) (.tmp 124) 27 rfl 5 0 _ 1 1 Try.underlying27 info5 rfl (by decide) (by decide) (.slice (some ⟨W7.heap.size, 0, none⟩) 0 0) 0 [] rfl (made_row (row_new rfl)) (some ⟨g1, p1, none⟩) 4 c1 (bb.map byteC) rfl (by rw [List.length_map, HBL.out, Nat.mul_one]) ((O7.out.below BE.out).reads.holds.2) one8 (by have := HS5.out; omega) (Nat.zero_le _) ?_; intro v9 w9 hw1 hw2; obtain ⟨o9, b9, f9⟩ := app_r2 (w0 := W7) (zs := []) (ys := bb) HBL.out BE.out (fun b hb => Nat.le_of_eq (by simpa [Value.ownBlock] using hb)) hw1 hw2; have O9 := Lib.hid o9; have B9 := Lib.hid b9; have F9 := Lib.hid f9; clear hw1 hw2 o9 b9 f9) | (at_builtin; refine list_app2 rfl (.tmp 125) (.tmp 126) 27 rfl 5 0 _ 1 1 Try.underlying27 info5 rfl (by decide) (by decide) v9 ([] ++ bb).length _ rfl (OB.owns2 O9.out ((Below.refl _ _).alloc (Nat.le_refl _) _)) (some ⟨w9.heap.size, 0, none⟩) 1 1 [.int .u8 0] rfl rfl (holds_new _ _ _ _ _ rfl) (by simp [Value.oneCell']) (by have := HS5.out; have := HBL.out; rw [List.nil_append]; omega) (Nat.zero_le _) ?_; intro v10 w10 hw1 hw2; obtain ⟨o10, b10, f10⟩ := app_r2 (w0 := W7) (zs := [] ++ bb) (ys := [0]) (n := 1) rfl (B9.out.trans (((Below.refl _ w9).alloc (Nat.le_refl _) _).mono B9.out.size)) F9.out hw1 hw2; rw [List.nil_append] at o10; have O10 := Lib.hid o10; have B10 := Lib.hid b10; clear hw1 hw2 o10 b10 f10) | (go_at_call 18; refine (MOR.out _ _ O10.out).mono ?_; rintro e w11 ⟨D11, rfl, d11, _, b11⟩; obtain ⟨A11, n11, c11, rfl⟩ : ∃ A n c, D11 = .slice A n c := (by obtain ⟨A, c, e, _⟩ := own_slice d11; exact ⟨_, _, _, e⟩); have B11 := Lib.hid (B10.out.trans (b11.mono B10.out.size)); clear d11 b11) | fail)
  have ba11 := (Below.refl w11.heap.size w11).alloc (Nat.le_refl _) (.cells #[.int .i64 zx.code, .int .i64 zx.obj, .int .u64 zx.hi, .int .u64 zx.lo, .slice A11 n11 c11, .int .i64 zx.nu] 45)
  refine wp_any (fun W => Below w11.heap.size w11 W) ba11 (fun W8 hI8 => ?_)
  have B78 := B11.out.trans (hI8.mono B11.out.size)
  have X8 := Lib.hid (X7.out.trans (B78.mono X7.out.size))
  have R8 := Lib.hid (row_on B78 R7.out)
  clear hI8 ba11 B78 yr0
  have yr0 := cell_row (j := 0) R8.out rfl
  have yr4 := cell_row (j := 4) R8.out rfl
  have yr5 := cell_row (j := 5) R8.out rfl
  have zr0 := free_row (j := 0) R8.out
  have zr5 := free_row (j := 5) R8.out
  go_upto_region 28 with fail
  have K9 : Kept (fun b => b = w.heap.size + 1) W8 ((W8.setCell ⟨w.heap.size + 1, 0, none⟩ (.int .i64 7)).setCell ⟨w.heap.size + 1, 5, none⟩ (.int .i64 1)) := ((Kept.refl (fun b => b = w.heap.size + 1) W8).setCell (p := ⟨w.heap.size + 1, 0, none⟩) (.inl rfl) _).setCell (p := ⟨w.heap.size + 1, 5, none⟩) (.inl rfl) _
  have R9 := heap_setCell_same _ (w.heap.size + 1) 5 _ _ (.int .i64 1) (heap_setCell_same _ (w.heap.size + 1) 0 _ _ (.int .i64 7) R8.out)
  refine wp_any (fun W => Below w.heap.size w W ∧ W.heap[w.heap.size + 1]? = some (.cells #[.int .i64 7, .int .i64 0, .int .u64 0, .int .u64 0, .slice none 0 0, .int .i64 1] 45)) ⟨X8.out.trans (K9.below (B := w.heap.size) (fun x hx => by have h3 : x = w.heap.size + 1 := hx; omega) X8.out.size), R9⟩ (fun W9 hI9 => ?_)
  have X9 := Lib.hid hI9.1
  have R99 := Lib.hid hI9.2
  clear hI9 K9 R9 yr0 yr4 yr5 zr0 zr5
  go_wp2_with (first | (refine wpList_load_row rfl 45 (.tmp 7) rfl (w.heap.size + 1) 45 #[.int .i64 7, .int .i64 0, .int .u64 0, .int .u64 0, .slice none 0 0, .int .i64 1] (0, 0) _ rfl R99.out Try.underlying45 rfl info45 ?_) | (go_at_call 15; (with_reducible refine (N7.out _ X9.out).mono ?_); rintro e w12 ⟨rfl, b12⟩; have X12 := Lib.hid (X9.out.trans (b12.mono X9.out.size)); clear b12) | (go_at_call 15; (with_reducible refine (N0.out _).mono ?_); rintro e w13 ⟨rfl, b13⟩; have X13 := Lib.hid (X12.out.trans (b13.mono X12.out.size)); clear b13) | (go_at_call 15; (with_reducible refine (N11.out _).mono ?_); rintro e w14 ⟨rfl, b14⟩; have X14 := Lib.hid (X13.out.trans (b14.mono X13.out.size)); clear b14) | fail)
  go_ret
  exact ⟨rfl, X14.out⟩
set_option maxHeartbeats 4000000 in
set_option maxRecDepth 100000 in
theorem replies_b1 (w : World) (op m code cm obj hi lo nu cut : Int) (da : List Int) (Ad : Option Addr) (nd cd : Nat) (hm : op % 10 = m) (hcm : code % 65536 = cm) (ho : -9223372036854775808 ≤ op ∧ op ≤ 9223372036854775807) (hcd : -9223372036854775808 ≤ code ∧ code ≤ 9223372036854775807) (hob : -9223372036854775808 ≤ obj ∧ obj ≤ 9223372036854775807) (hnu : -9223372036854775808 ≤ nu ∧ nu ≤ 9223372036854775807) (hct : -9223372036854775808 ≤ cut ∧ cut ≤ 9223372036854775807) (hh : U64 hi) (hl : U64 lo) (hD : RB w (.slice Ad nd cd) da) (HB : Bytes da) (hz : cm = 0) (h8 : m = 0) (ob : Int) (hn : obj % 4611686018427387904 = ob) :
    Calls Try.prog 7 #[.int .i64 op, .agg #[.int .i64 code, .int .i64 obj, .int .u64 hi, .int .u64 lo, .slice Ad nd cd, .int .i64 nu], .int .i64 cut] w fun e w' => e = .returned (.bool true) ∧ Below w.heap.size w w' := by
  have hm0 : 0 ≤ m ∧ m < 10 := by omega
  have hc0 : 0 ≤ cm ∧ cm < 65536 := by omega
  have I1 := Lib.hid (fun a => by have := into_any a op 10 ho.1 ho.2 (by decide) (by decide); rwa [hm] at this)
  have I2 := Lib.hid (fun a => by have := into_any a code 65536 hcd.1 hcd.2 (by decide) (by decide); rwa [hcm] at this)
  have hw1 : IntKind.i64.wrap (1 + m) = 1 + m := by rw [IntKind.wrap_i64]; omega
  subst hz h8
  have hb9 : 0 ≤ ob ∧ ob < 4611686018427387904 := by omega
  have I3 := Lib.hid (fun a => by have := into_any a obj 4611686018427387904 hob.1 hob.2 (by decide) (by decide); rwa [hn] at this)
  have HTO : Hid (toldR 1 (⟨0, ob, hi, lo, [], 0⟩ : Rp)) := Lib.hid (by refine ⟨⟨⟨by first | decide | (dsimp only; decide) | (dsimp only; omega), by first | decide | (dsimp only; decide) | (dsimp only; omega)⟩, ⟨by first | decide | (dsimp only; decide) | (dsimp only; omega), by first | decide | (dsimp only; decide) | (dsimp only; omega)⟩, by first | decide | (dsimp only; decide) | (dsimp only; omega)⟩, ?_, ⟨hb9.1, by show ob ≤ 4611686018427387904; omega⟩, ⟨by first | decide | (dsimp only; decide) | (dsimp only; omega), by first | decide | (dsimp only; decide) | (dsimp only; omega)⟩, by first | decide | (dsimp only; decide) | (dsimp only; omega)⟩; unfold toldB untR; rw [if_neg (by first | decide | (dsimp only; decide) | (dsimp only; omega)), if_pos (by first | decide | (dsimp only; decide) | (dsimp only; omega))]; exact ⟨⟨rfl, rfl, rfl⟩, rfl, rfl⟩)
  have HRB : Hid (∀ a, Below w.heap.size w a → RB a (.slice none 0 0) []) := Lib.hid (fun a ha => rb_nil a)
  have HUO : Hid (U64 hi ∧ U64 lo) := Lib.hid ⟨by first | exact u64_0 | exact hh, by first | exact u64_0 | exact hl⟩
  have HDA : Hid (Bytes []) := Lib.hid (by first | exact HB | exact (fun z hz => by cases hz) | exact (fun z hz => HB z (List.mem_of_mem_take hz)))
  obtain ⟨bb, hbb⟩ : ∃ b, encR 1 (⟨0, ob, hi, lo, [], 0⟩ : Rp) = b := ⟨_, rfl⟩
  have HBL : Hid (bb.length = 26) := Lib.hid (by rw [← hbb, encR_len]; rw [if_neg (by first | decide | (dsimp only; decide) | (dsimp only; omega)), if_pos (by first | decide | (dsimp only; decide) | (dsimp only; omega))])
  have HBY : Hid (Bytes bb) := Lib.hid (by rw [← hbb]; exact encR_bytes HDA.out)
  have HPS : Hid (parseR 1 bb = some (⟨0, ob, hi, lo, [], 0⟩ : Rp)) := Lib.hid (parseR_iff _ _ _ HUO.out.1 HUO.out.2 HTO.out hbb)
  have HGE : Hid (∀ k, k < 26 → ((parseR 1 (bb.take k)).isSome = true ↔ ((1 : Int) = 5 ∧ (0 : Int) = 0 ∧ 2 ≤ k))) := Lib.hid (fun k hk => by have := cutR HTO.out k (by rw [hbb, HBL.out]; exact hk); rw [hbb] at this; exact this)
  have HMO : Hid ((parseR 1 (bb ++ [0])).isSome = true ↔ ((1 : Int) = 5 ∧ (0 : Int) = 0 ∧ ([] : List Int).length < 1024)) := Lib.hid (by have := moreR HTO.out; rw [hbb] at this; exact this)
  have HS5 : Hid (26 ≤ 1026) := Lib.hid (by decide)
  have ANS := Lib.hid (fun a (ha : Below w.heap.size w a) => by
    have := answer_any a 1 (⟨0, ob, hi, lo, [], 0⟩ : Rp) (.slice none 0 0) (HRB.out a ha) HUO.out.1 HUO.out.2
    rw [show ansE 1 (⟨0, ob, hi, lo, [], 0⟩ : Rp) = 0 from if_pos HTO.out, show ansO 1 (⟨0, ob, hi, lo, [], 0⟩ : Rp) = bb from (if_pos HTO.out).trans hbb] at this
    exact this)
  have PAR := Lib.hid (fun a v (hv : OB a v bb) => by
    have := parseA_any a 1 v bb (by rw [HBL.out]; have := HS5.out; omega) HBY.out hv.reads
    rw [HPS.out] at this
    exact this)
  have CUT := Lib.hid (fun a v k (hv : RB a v (bb.take k)) => parseA_any a 1 v (bb.take k) (by rw [List.length_take, HBL.out]; have := HS5.out; omega) (fun z hz => HBY.out z (List.mem_of_mem_take hz)) hv)
  have MOR := Lib.hid (fun a v (hv : OB a v (bb ++ [0])) => parseA_any a 1 v (bb ++ [0]) (by rw [List.length_append, HBL.out, List.length_singleton]; have := HS5.out; omega) (app_bytes HBY.out (fun z hz => by obtain rfl := List.mem_singleton.1 hz; omega)) hv.reads)
  have N7 := Lib.hid (fun a (ha : Below w.heap.size w a) => answer_no a 1 (⟨7, ob, hi, lo, [], 1⟩ : Rp) (.slice none 0 0) (HRB.out a ha).sl (fun h => by have h1 := h.2.1.2.2; unfold untR at h1; rw [if_pos (by first | decide | (dsimp only; decide) | (dsimp only; omega))] at h1; exact absurd h1 (by first | decide | (dsimp only; decide) | (dsimp only; omega))))
  have N0 := Lib.hid (fun a => answer_no a 0 ⟨0, 0, 0, 0, [], 0⟩ (.slice none 0 0) ⟨_, _, rfl⟩ (by decide))
  have N11 := Lib.hid (fun a => answer_no a 11 ⟨7, 0, 0, 0, [], 0⟩ (.slice none 0 0) ⟨_, _, rfl⟩ (by decide))
  have SAM := Lib.hid (fun a D2 (h1 : RB a D2 []) (h2 : RB a (.slice none 0 0) []) => by
    have := sameR_any a (⟨0, ob, hi, lo, [], 0⟩ : Rp) (⟨0, ob, hi, lo, [], 0⟩ : Rp) D2 (.slice none 0 0) h1 h2 HDA.out HDA.out
    rwa [decide_eq_true rfl] at this)
  obtain ⟨kN, hkN⟩ : ∃ k : Nat, cut % 26 = (k : Int) := ⟨(cut % 26).toNat, by have := Int.emod_nonneg cut (b := 26) (by decide); omega⟩
  have hkl : kN < 26 := by have := Int.emod_lt_of_pos cut (b := 26) (by decide); omega
  have I4 := Lib.hid (fun a => by have := into_any a cut 26 hct.1 hct.2 (by decide) (by have := HS5.out; omega); rwa [hkN] at this)
  simp only [PA, rv, rcells, Option.getD_some, Option.isSome_some, if_true] at ANS PAR N7 N0 N11 SAM
  clear hm hcm ho hcd hob hnu hct hh hl hD HB hbb hkN HTO hc0 hn hb9
  go_enter Try.func7, Try.ntmps7
  go_upto_region 4 with (first | (go_at_call 21; (with_reducible refine (I1.out _).mono ?_); rintro e wx ⟨rfl, rfl⟩) | (go_at_call 21; (with_reducible refine (I2.out _).mono ?_); rintro e wx ⟨rfl, rfl⟩) | fail)
  go_upto_region 8 with fail
  refine wp_any (fun W => Below w.heap.size w W ∧ W.heap[w.heap.size]? = some (.cells #[.int .i64 code, .int .i64 obj, .int .u64 hi, .int .u64 lo, .slice Ad nd cd, .int .i64 nu] 45) ∧ W.heap[w.heap.size + 1]? = some (.cells #[.int .i64 0, .int .i64 0, .int .u64 0, .int .u64 0, .slice none 0 0, .int .i64 0] 45)) ⟨((Below.refl _ w).alloc (Nat.le_refl _) _).alloc (by simp) _, row_on ((Below.refl _ _).alloc (Nat.le_refl _) _) (row_new rfl), row_new (by simp)⟩ (fun W4 hI4 => ?_)
  have B4 := Lib.hid hI4.1
  have P4 := Lib.hid hI4.2.1
  have R4 := Lib.hid hI4.2.2
  clear hI4
  have KW : Hid (Kept (fun b => b = w.heap.size + 1) W4 (((W4.setCell ⟨w.heap.size + 1, 1, none⟩ (.int .i64 ob)).setCell ⟨w.heap.size + 1, 2, none⟩ (.int .u64 hi)).setCell ⟨w.heap.size + 1, 3, none⟩ (.int .u64 lo)).drew) := Lib.hid (((((Kept.refl (fun b => b = w.heap.size + 1) W4).setCell (p := ⟨w.heap.size + 1, 1, none⟩) (.inl rfl) _).setCell (p := ⟨w.heap.size + 1, 2, none⟩) (.inl rfl) _).setCell (p := ⟨w.heap.size + 1, 3, none⟩) (.inl rfl) _).drew)
  have KS : Hid (((((W4.setCell ⟨w.heap.size + 1, 1, none⟩ (.int .i64 ob)).setCell ⟨w.heap.size + 1, 2, none⟩ (.int .u64 hi)).setCell ⟨w.heap.size + 1, 3, none⟩ (.int .u64 lo)).drew).heap[w.heap.size]? = some (.cells #[.int .i64 code, .int .i64 obj, .int .u64 hi, .int .u64 lo, .slice Ad nd cd, .int .i64 nu] 45) ∧ Kept (fun b => b = w.heap.size + 1) W4 (((W4.setCell ⟨w.heap.size + 1, 1, none⟩ (.int .i64 ob)).setCell ⟨w.heap.size + 1, 2, none⟩ (.int .u64 hi)).setCell ⟨w.heap.size + 1, 3, none⟩ (.int .u64 lo)).drew) := Lib.hid ⟨KW.out.row P4.out (by omega), KW.out⟩
  have RO := Lib.hid (heap_setCell_same _ (w.heap.size + 1) 3 _ _ (.int .u64 lo) (heap_setCell_same _ (w.heap.size + 1) 2 _ _ (.int .u64 hi) (heap_setCell_same _ (w.heap.size + 1) 1 _ _ (.int .i64 ob) R4.out)))
  refine wp_region_noPanic ?_
  refine wp_region_held_drew (S := fun W' => W'.heap[w.heap.size]? = some (.cells #[.int .i64 code, .int .i64 obj, .int .u64 hi, .int .u64 lo, .slice Ad nd cd, .int .i64 nu] 45) ∧ Kept (fun b => b = w.heap.size + 1) W4 W') (by kernel_rfl) (⟨P4.out, (Kept.refl _ W4).drew⟩) (fun hHeld => ?_)
  refine wpAnyH_take (i := 0) (oi := { dst := some 39, op := Go.Op.fieldAddr 45 (Go.Operand.tmp 4) 1, type := 0, pos := "law.go:125", after := #[], guard := none }) (v := ?_) rfl (by kernel_rfl) (by kernel_rfl) (by kernel_rfl) (fun _ _ _ h => h) (Or.inl ⟨by rfl, ?hy0_1⟩) (by assumption) ?rest0_1
  case hy0_1 => (intro w hSw; go_simp; try with_reducible rfl)
  try simp only [Act.put, List.setIfInBounds_toArray, List.set_cons_zero, List.set_cons_succ]
  refine wpAnyH_take (i := 4) (oi := { dst := some 43, op := Go.Op.fieldAddr 45 (Go.Operand.tmp 4) 1, type := 0, pos := "law.go:125", after := #[], guard := none }) (v := ?_) rfl (by kernel_rfl) (by kernel_rfl) (by kernel_rfl) (fun _ _ _ h => h) (Or.inl ⟨by rfl, ?hy4_2⟩) (by assumption) ?rest4_2
  case hy4_2 => (intro w hSw; go_simp; try with_reducible rfl)
  try simp only [Act.put, List.setIfInBounds_toArray, List.set_cons_zero, List.set_cons_succ]
  refine wpAnyH_take (i := 1) (oi := { dst := some 40, op := Go.Op.fieldAddr 26 (Go.Operand.tmp 39) 0, type := 0, pos := "law.go:125", after := #[{ on := 0, ground := Go.Ground.data }], guard := none }) (v := ?_) rfl (by kernel_rfl) (by kernel_rfl) (by kernel_rfl) (fun _ _ _ h => h) (Or.inl ⟨by rfl, ?hy1_3⟩) (by assumption) ?rest1_3
  case hy1_3 => (intro w hSw; go_simp; try with_reducible rfl)
  try simp only [Act.put, List.setIfInBounds_toArray, List.set_cons_zero, List.set_cons_succ]
  refine wpAnyH_take (i := 5) (oi := { dst := some 44, op := Go.Op.fieldAddr 26 (Go.Operand.tmp 43) 1, type := 0, pos := "law.go:125", after := #[{ on := 4, ground := Go.Ground.data }], guard := none }) (v := ?_) rfl (by kernel_rfl) (by kernel_rfl) (by kernel_rfl) (fun _ _ _ h => h) (Or.inl ⟨by rfl, ?hy5_4⟩) (by assumption) ?rest5_4
  case hy5_4 => (intro w hSw; go_simp; try with_reducible rfl)
  try simp only [Act.put, List.setIfInBounds_toArray, List.set_cons_zero, List.set_cons_succ]
  refine wpAnyH_take (i := 2) (oi := { dst := some 41, op := Go.Op.load 3 (Go.Operand.tmp 40), type := 3, pos := "law.go:125", after := #[{ on := 1, ground := Go.Ground.data }], guard := none }) (v := ?_) rfl (by kernel_rfl) (by kernel_rfl) (by kernel_rfl) (fun _ _ _ h => h) (Or.inl ⟨by rfl, ?hy2_5⟩) (by assumption) ?rest2_5
  case hy2_5 => (intro w hSw; have z := cell_row (j := 1) hSw.1 rfl; go_simp; try with_reducible rfl)
  try simp only [Act.put, List.setIfInBounds_toArray, List.set_cons_zero, List.set_cons_succ]
  refine wpAnyH_take (i := 6) (oi := { dst := some 45, op := Go.Op.load 24 (Go.Operand.tmp 44), type := 24, pos := "law.go:125", after := #[{ on := 5, ground := Go.Ground.data }], guard := none }) (v := .agg #[.int .u64 hi, .int .u64 lo]) rfl (by kernel_rfl) (by kernel_rfl) (by kernel_rfl) (fun _ _ _ h => h) (yieldsIf_load_mid (by rfl) 24 (.tmp 44) rfl w.heap.size 2 rfl [.int .u64 hi, .int .u64 lo] _ (fun w hSw => range_row hSw.1 (by rfl)) Try.underlying24 rfl info25) (by assumption) ?_
  try simp only [Act.put, List.setIfInBounds_toArray, List.set_cons_zero, List.set_cons_succ]
  refine wpAnyH_ready (rs := [3]) (by kernel_rfl) (by simp) ?_
  refine AllReadyH.cons (o := { dst := some 42, op := Go.Op.call { callee := Go.Callee.value (Go.Operand.func 21), args := #[Go.Operand.tmp 41, Go.Operand.const (Go.Value.int Go.IntKind.i64 4611686018427387904)], argTypes := #[3, 3] }, type := 3, pos := "law.go:125", after := #[{ on := 2, ground := Go.Ground.data }], guard := none }) rfl (fun K hK => ?_) AllReadyH.nil
  go_simp
  go_at_call 21
  (refine (I3.out _).mono ?_)
  rintro e wx ⟨rfl, rfl⟩
  refine hK.out _ _ (hHeld) (fun hHeld2 => ?_)
  clear hK K hHeld
  have hHeld := hHeld2
  clear hHeld2
  try simp only [Act.put, List.setIfInBounds_toArray, List.set_cons_zero, List.set_cons_succ]
  refine wpAnyH_take (i := 7) (oi := { dst := some 46, op := Go.Op.build 26 #[(0, Go.Operand.tmp 42), (1, Go.Operand.tmp 45)], type := 26, pos := "law.go:125", after := #[{ on := 3, ground := Go.Ground.data }, { on := 6, ground := Go.Ground.data }], guard := none }) (v := ?_) rfl (by kernel_rfl) (by kernel_rfl) (by kernel_rfl) (fun _ _ _ h => h) (Or.inl ⟨by rfl, ?hy7_6⟩) (by assumption) ?rest7_6
  case hy7_6 => (intro w hSw; go_simp; try with_reducible rfl)
  try simp only [Act.put, List.setIfInBounds_toArray, List.set_cons_zero, List.set_cons_succ]
  refine wpAnyH_take (i := 8) (oi := { dst := some 47, op := Go.Op.fieldAddr 45 (Go.Operand.tmp 7) 1, type := 0, pos := "law.go:125", after := #[{ on := 0, ground := Go.Ground.phase }, { on := 1, ground := Go.Ground.phase }, { on := 2, ground := Go.Ground.phase }, { on := 3, ground := Go.Ground.phase }, { on := 4, ground := Go.Ground.phase }, { on := 5, ground := Go.Ground.phase }, { on := 6, ground := Go.Ground.phase }, { on := 7, ground := Go.Ground.phase }], guard := none }) (v := ?_) rfl (by kernel_rfl) (by kernel_rfl) (by kernel_rfl) (fun _ _ _ h => h) (Or.inl ⟨by rfl, ?hy8_7⟩) (by assumption) ?rest8_7
  case hy8_7 => (intro w hSw; go_simp; try with_reducible rfl)
  try simp only [Act.put, List.setIfInBounds_toArray, List.set_cons_zero, List.set_cons_succ]
  refine wpAnyH_ready (rs := [9]) (by kernel_rfl) (by simp) ?_
  refine AllReadyH.cons (o := { dst := none, op := Go.Op.store 26 (Go.Operand.tmp 47) (Go.Operand.tmp 46), type := 0, pos := "law.go:125", after := #[{ on := 8, ground := Go.Ground.data }, { on := 7, ground := Go.Ground.data }, { on := 3, ground := Go.Ground.chain }, { on := 0, ground := Go.Ground.phase }, { on := 1, ground := Go.Ground.phase }, { on := 2, ground := Go.Ground.phase }, { on := 3, ground := Go.Ground.phase }, { on := 4, ground := Go.Ground.phase }, { on := 5, ground := Go.Ground.phase }, { on := 6, ground := Go.Ground.phase }, { on := 7, ground := Go.Ground.phase }], guard := none }) rfl (fun K hK => ?_) AllReadyH.nil
  have y1 : W4.cell? ⟨w.heap.size + 1, 1, none⟩ = some (.int .i64 0) := cell_row R4.out rfl
  have y2 : W4.cell? ⟨w.heap.size + 1, 2, none⟩ = some (.int .u64 0) := cell_row R4.out rfl
  have y3 : W4.cell? ⟨w.heap.size + 1, 3, none⟩ = some (.int .u64 0) := cell_row R4.out rfl
  have z1 : W4.frozen? ⟨w.heap.size + 1, 1, none⟩ = false := free_row R4.out
  have z2 : W4.frozen? ⟨w.heap.size + 1, 2, none⟩ = false := free_row R4.out
  have z3 : W4.frozen? ⟨w.heap.size + 1, 3, none⟩ = false := free_row R4.out
  go_simp
  clear y1 y2 y3 z1 z2 z3
  refine hK.out _ _ (KS.out) (fun hHeld2 => ?_)
  clear hK K hHeld
  have hHeld := hHeld2
  clear hHeld2
  try simp only [Act.put, List.setIfInBounds_toArray, List.set_cons_zero, List.set_cons_succ]
  refine wpAnyH_done (by kernel_rfl) ?_ _
  refine NoPanic.normal ?_
  try simp only [Act.put, List.setIfInBounds_toArray, List.set_cons_zero, List.set_cons_succ]
  go_upto_region 16 with fail
  refine wp_any (fun W => Below w.heap.size w W ∧ W.heap[w.heap.size + 1]? = some (.cells #[.int .i64 0, .int .i64 ob, .int .u64 hi, .int .u64 lo, .slice none 0 0, .int .i64 0] 45)) ⟨B4.out.trans (KW.out.below (B := w.heap.size) (fun x hx => by have h3 : x = w.heap.size + 1 := hx; omega) B4.out.size), RO.out⟩ (fun W5 hI5 => ?_)
  have B5 := Lib.hid hI5.1
  have R5 := Lib.hid hI5.2
  clear hI5
  go_upto_region 17 with (first | (refine wpList_load_row rfl 45 (.tmp 7) rfl (w.heap.size + 1) 45 #[.int .i64 0, .int .i64 ob, .int .u64 hi, .int .u64 lo, .slice none 0 0, .int .i64 0] (0, 0) _ rfl R5.out Try.underlying45 rfl info45 ?_) | (go_at_call 15; refine (ANS.out _ B5.out).mono ?_; rintro e w1 ⟨v1, rfl, o1, b1, f1⟩; obtain ⟨A1, c1, he, hec⟩ := own_slice o1; rw [HBL.out] at he hec; subst he; have O1 := Lib.hid o1; have B1 := Lib.hid b1; have R1 := Lib.hid (row_on b1 R5.out); have X1 := Lib.hid (B5.out.trans (b1.mono B5.out.size)); clear o1 b1 f1) | fail)
  obtain ⟨g1, p1, rfl⟩ : ∃ g o, A1 = some ⟨g, o, none⟩ := by
    obtain ⟨A, c, e, _, _, h⟩ := O1.out.reads
    obtain ⟨g, o, e2, _⟩ := h (by rw [HBL.out]; omega)
    injection e with e1
    exact ⟨g, o, e1.trans e2⟩
  go_upto_region 18 with (first | (go_at_call 18; refine (PAR.out _ _ O1.out).mono ?_; rintro e w2 ⟨D2, rfl, d2, _, b2⟩; obtain ⟨A2, n2, c2, rfl⟩ : ∃ A n c, D2 = .slice A n c := (by obtain ⟨A, c, e, _⟩ := own_slice d2; exact ⟨_, _, _, e⟩); have DD2 := Lib.hid d2; have B2 := Lib.hid b2; have R2 := Lib.hid (row_on b2 R1.out); have X2 := Lib.hid (X1.out.trans (b2.mono X1.out.size)); have O2 := Lib.hid (O1.out.below b2); clear d2 b2) | fail)
  have ba := (Below.refl w2.heap.size w2).alloc (Nat.le_refl _) (.cells #[.int .i64 0, .int .i64 ob, .int .u64 hi, .int .u64 lo, .slice A2 n2 c2, .int .i64 0] 45)
  refine wp_any (fun W => Below w2.heap.size w2 W ∧ W.heap[w2.heap.size]? = some (.cells #[.int .i64 0, .int .i64 ob, .int .u64 hi, .int .u64 lo, .slice A2 n2 c2, .int .i64 0] 45)) ⟨ba, row_new rfl⟩ (fun W6 hI6 => ?_)
  have X6 := Lib.hid (X2.out.trans (hI6.1.mono X2.out.size))
  have R6 := Lib.hid (row_on hI6.1 R2.out)
  have O6 := Lib.hid (O2.out.below hI6.1)
  have D6 := Lib.hid (DD2.out.below hI6.1)
  have T6 := Lib.hid hI6.2
  clear hI6 ba
  go_upto_region 20 with (first | (go_at_call 11; refine (known_any _).mono ?_; rintro e w3 ⟨rfl, b3⟩; have X3 := Lib.hid (X6.out.trans (b3.mono X6.out.size)); have R3 := Lib.hid (row_on b3 R6.out); have O3 := Lib.hid (O6.out.below b3); have D3 := Lib.hid (D6.out.below b3); have T3 := Lib.hid (row_on b3 T6.out); have ty0 := cell_row (j := 0) T3.out rfl; have ry0 := cell_row (j := 0) R3.out rfl; have ty1 := cell_row (j := 1) T3.out rfl; have ry1 := cell_row (j := 1) R3.out rfl; have ty2 := cell_row (j := 2) T3.out rfl; have ry2 := cell_row (j := 2) R3.out rfl; have ty3 := cell_row (j := 3) T3.out rfl; have ry3 := cell_row (j := 3) R3.out rfl; have ty4 := cell_row (j := 4) T3.out rfl; have ry4 := cell_row (j := 4) R3.out rfl; have ty5 := cell_row (j := 5) T3.out rfl; have ry5 := cell_row (j := 5) R3.out rfl; clear b3) | (go_at_call 19; clear ty0 ry0 ty1 ry1 ty2 ry2 ty3 ry3 ty4 ry4 ty5 ry5; refine (SAM.out _ _ D3.out.reads (HRB.out _ X3.out)).mono ?_; rintro e w4 ⟨rfl, b4⟩; have X4 := Lib.hid (X3.out.trans (b4.mono X3.out.size)); have R4 := Lib.hid (row_on b4 R3.out); have O4 := Lib.hid (O3.out.below b4); clear b4) | fail)
  have hk0 : (0 : Int) ≤ (kN : Int) := by omega
  have hk1 : (kN : Int) ≤ (c1 : Int) := by omega
  have hk2 : kN ≤ c1 := by omega
  have hk3 : kN ≤ 26 := by omega
  obtain ⟨gg, hgg⟩ : ∃ g, parseR 1 (bb.take kN) = g := ⟨_, rfl⟩
  have HG := Lib.hid (HGE.out kN hkl)
  have HCT := Lib.hid (fun a v (hv : RB a v (bb.take kN)) => CUT.out a v kN hv)
  rw [hgg] at HG HCT
  obtain ⟨xx, hxx⟩ : ∃ x, gg.getD zr = x := ⟨_, rfl⟩
  obtain ⟨yb, hyb⟩ : ∃ b, gg.isSome = b := ⟨_, rfl⟩
  rw [hyb] at HG
  simp only [PA, hxx, hyb, rv, rcells] at HCT
  clear hgg hxx hyb
  obtain ⟨hh2, hhh⟩ : ∃ g, parseR 1 (bb ++ [0]) = g := ⟨_, rfl⟩
  rw [hhh] at HMO MOR
  obtain ⟨zx, hzx⟩ : ∃ x, hh2.getD zr = x := ⟨_, rfl⟩
  obtain ⟨zb, hzb⟩ : ∃ b, hh2.isSome = b := ⟨_, rfl⟩
  rw [hzb] at HMO
  simp only [PA, hzx, hzb, rv, rcells] at MOR
  clear hhh hzx hzb
  obtain rfl : yb = false := by cases yb with | false => rfl | true => exact absurd (HG.out.1 rfl) (fun h => absurd h.1 (by decide))
  obtain rfl : zb = false := by cases zb with | false => rfl | true => exact absurd (HMO.out.1 rfl) (fun h => absurd h.1 (by decide))
  go_upto_region 21 with (first | (go_at_call 21; (with_reducible refine (I4.out _).mono ?_); rintro e wx ⟨rfl, rfl⟩) | fail)
  go_upto_region 22 with (first | (go_at_call 18; refine (HCT.out _ _ (RB.take (c := c1) (by rw [HBL.out]; exact O4.out.reads) (by rw [HBL.out]; exact hk3) rfl)).mono ?_; rintro e w5 ⟨D5, rfl, d5, _, b5⟩; obtain ⟨A5, n5, c5, rfl⟩ : ∃ A n c, D5 = .slice A n c := (by obtain ⟨A, c, e, _⟩ := own_slice d5; exact ⟨_, _, _, e⟩); have X5 := Lib.hid (X4.out.trans (b5.mono X4.out.size)); have R55 := Lib.hid (row_on b5 R4.out); have O5 := Lib.hid (O4.out.below b5); clear d5 b5) | fail)
  have ba5 := (Below.refl w5.heap.size w5).alloc (Nat.le_refl _) (.cells #[.int .i64 xx.code, .int .i64 xx.obj, .int .u64 xx.hi, .int .u64 xx.lo, .slice A5 n5 c5, .int .i64 xx.nu] 45)
  refine wp_any (fun W => Below w5.heap.size w5 W) ba5 (fun W7 hI7 => ?_)
  have X7 := Lib.hid (X5.out.trans (hI7.mono X5.out.size))
  have R7 := Lib.hid (row_on hI7 R55.out)
  have O7 := Lib.hid (O5.out.below hI7)
  clear hI7 ba5
  have yr0 := cell_row (j := 0) R7.out rfl
  go_upto_region 23 with fail
  have BE := Lib.hid ((Below.refl W7.heap.size W7).alloc (Nat.le_refl _) (.cells #[] 5))
  go_upto_region 24 with (first | (at_builtin; refine list_app2 rfl (.tmp 123) (.tmp 124) 27 rfl 5 0 _ 1 1 Try.underlying27 info5 rfl (by decide) (by decide) (.slice (some ⟨W7.heap.size, 0, none⟩) 0 0) 0 [] rfl (made_row (row_new rfl)) (some ⟨g1, p1, none⟩) 26 c1 (bb.map byteC) rfl (by rw [List.length_map, HBL.out, Nat.mul_one]) ((O7.out.below BE.out).reads.holds.2) one8 (by have := HS5.out; omega) (Nat.zero_le _) ?_; intro v9 w9 hw1 hw2; obtain ⟨o9, b9, f9⟩ := app_r2 (w0 := W7) (zs := []) (ys := bb) HBL.out BE.out (fun b hb => Nat.le_of_eq (by simpa [Value.ownBlock] using hb)) hw1 hw2; have O9 := Lib.hid o9; have B9 := Lib.hid b9; have F9 := Lib.hid f9; clear hw1 hw2 o9 b9 f9) | (at_builtin; refine list_app2 rfl (.tmp 125) (.tmp 126) 27 rfl 5 0 _ 1 1 Try.underlying27 info5 rfl (by decide) (by decide) v9 ([] ++ bb).length _ rfl (OB.owns2 O9.out ((Below.refl _ _).alloc (Nat.le_refl _) _)) (some ⟨w9.heap.size, 0, none⟩) 1 1 [.int .u8 0] rfl rfl (holds_new _ _ _ _ _ rfl) (by simp [Value.oneCell']) (by have := HS5.out; have := HBL.out; rw [List.nil_append]; omega) (Nat.zero_le _) ?_; intro v10 w10 hw1 hw2; obtain ⟨o10, b10, f10⟩ := app_r2 (w0 := W7) (zs := [] ++ bb) (ys := [0]) (n := 1) rfl (B9.out.trans (((Below.refl _ w9).alloc (Nat.le_refl _) _).mono B9.out.size)) F9.out hw1 hw2; rw [List.nil_append] at o10; have O10 := Lib.hid o10; have B10 := Lib.hid b10; clear hw1 hw2 o10 b10 f10) | (go_at_call 18; refine (MOR.out _ _ O10.out).mono ?_; rintro e w11 ⟨D11, rfl, d11, _, b11⟩; obtain ⟨A11, n11, c11, rfl⟩ : ∃ A n c, D11 = .slice A n c := (by obtain ⟨A, c, e, _⟩ := own_slice d11; exact ⟨_, _, _, e⟩); have B11 := Lib.hid (B10.out.trans (b11.mono B10.out.size)); clear d11 b11) | fail)
  have ba11 := (Below.refl w11.heap.size w11).alloc (Nat.le_refl _) (.cells #[.int .i64 zx.code, .int .i64 zx.obj, .int .u64 zx.hi, .int .u64 zx.lo, .slice A11 n11 c11, .int .i64 zx.nu] 45)
  refine wp_any (fun W => Below w11.heap.size w11 W) ba11 (fun W8 hI8 => ?_)
  have B78 := B11.out.trans (hI8.mono B11.out.size)
  have X8 := Lib.hid (X7.out.trans (B78.mono X7.out.size))
  have R8 := Lib.hid (row_on B78 R7.out)
  clear hI8 ba11 B78 yr0
  have yr0 := cell_row (j := 0) R8.out rfl
  have yr4 := cell_row (j := 4) R8.out rfl
  have yr5 := cell_row (j := 5) R8.out rfl
  have zr0 := free_row (j := 0) R8.out
  have zr5 := free_row (j := 5) R8.out
  go_upto_region 28 with fail
  have K9 : Kept (fun b => b = w.heap.size + 1) W8 ((W8.setCell ⟨w.heap.size + 1, 0, none⟩ (.int .i64 7)).setCell ⟨w.heap.size + 1, 5, none⟩ (.int .i64 1)) := ((Kept.refl (fun b => b = w.heap.size + 1) W8).setCell (p := ⟨w.heap.size + 1, 0, none⟩) (.inl rfl) _).setCell (p := ⟨w.heap.size + 1, 5, none⟩) (.inl rfl) _
  have R9 := heap_setCell_same _ (w.heap.size + 1) 5 _ _ (.int .i64 1) (heap_setCell_same _ (w.heap.size + 1) 0 _ _ (.int .i64 7) R8.out)
  refine wp_any (fun W => Below w.heap.size w W ∧ W.heap[w.heap.size + 1]? = some (.cells #[.int .i64 7, .int .i64 ob, .int .u64 hi, .int .u64 lo, .slice none 0 0, .int .i64 1] 45)) ⟨X8.out.trans (K9.below (B := w.heap.size) (fun x hx => by have h3 : x = w.heap.size + 1 := hx; omega) X8.out.size), R9⟩ (fun W9 hI9 => ?_)
  have X9 := Lib.hid hI9.1
  have R99 := Lib.hid hI9.2
  clear hI9 K9 R9 yr0 yr4 yr5 zr0 zr5
  go_wp2_with (first | (refine wpList_load_row rfl 45 (.tmp 7) rfl (w.heap.size + 1) 45 #[.int .i64 7, .int .i64 ob, .int .u64 hi, .int .u64 lo, .slice none 0 0, .int .i64 1] (0, 0) _ rfl R99.out Try.underlying45 rfl info45 ?_) | (go_at_call 15; (with_reducible refine (N7.out _ X9.out).mono ?_); rintro e w12 ⟨rfl, b12⟩; have X12 := Lib.hid (X9.out.trans (b12.mono X9.out.size)); clear b12) | (go_at_call 15; (with_reducible refine (N0.out _).mono ?_); rintro e w13 ⟨rfl, b13⟩; have X13 := Lib.hid (X12.out.trans (b13.mono X12.out.size)); clear b13) | (go_at_call 15; (with_reducible refine (N11.out _).mono ?_); rintro e w14 ⟨rfl, b14⟩; have X14 := Lib.hid (X13.out.trans (b14.mono X13.out.size)); clear b14) | fail)
  go_ret
  exact ⟨rfl, X14.out⟩
set_option maxHeartbeats 4000000 in
set_option maxRecDepth 100000 in
theorem replies_b3 (w : World) (op m code cm obj hi lo nu cut : Int) (da : List Int) (Ad : Option Addr) (nd cd : Nat) (hm : op % 10 = m) (hcm : code % 65536 = cm) (ho : -9223372036854775808 ≤ op ∧ op ≤ 9223372036854775807) (hcd : -9223372036854775808 ≤ code ∧ code ≤ 9223372036854775807) (hob : -9223372036854775808 ≤ obj ∧ obj ≤ 9223372036854775807) (hnu : -9223372036854775808 ≤ nu ∧ nu ≤ 9223372036854775807) (hct : -9223372036854775808 ≤ cut ∧ cut ≤ 9223372036854775807) (hh : U64 hi) (hl : U64 lo) (hD : RB w (.slice Ad nd cd) da) (HB : Bytes da) (hz : cm = 0) (h8 : m = 2) (ob : Int) (hn : obj % 4611686018427387904 = ob) :
    Calls Try.prog 7 #[.int .i64 op, .agg #[.int .i64 code, .int .i64 obj, .int .u64 hi, .int .u64 lo, .slice Ad nd cd, .int .i64 nu], .int .i64 cut] w fun e w' => e = .returned (.bool true) ∧ Below w.heap.size w w' := by
  have hm0 : 0 ≤ m ∧ m < 10 := by omega
  have hc0 : 0 ≤ cm ∧ cm < 65536 := by omega
  have I1 := Lib.hid (fun a => by have := into_any a op 10 ho.1 ho.2 (by decide) (by decide); rwa [hm] at this)
  have I2 := Lib.hid (fun a => by have := into_any a code 65536 hcd.1 hcd.2 (by decide) (by decide); rwa [hcm] at this)
  have hw1 : IntKind.i64.wrap (1 + m) = 1 + m := by rw [IntKind.wrap_i64]; omega
  subst hz h8
  have hb9 : 0 ≤ ob ∧ ob < 4611686018427387904 := by omega
  have I3 := Lib.hid (fun a => by have := into_any a obj 4611686018427387904 hob.1 hob.2 (by decide) (by decide); rwa [hn] at this)
  have HTO : Hid (toldR 3 (⟨0, ob, hi, lo, [], 0⟩ : Rp)) := Lib.hid (by refine ⟨⟨⟨by first | decide | (dsimp only; decide) | (dsimp only; omega), by first | decide | (dsimp only; decide) | (dsimp only; omega)⟩, ⟨by first | decide | (dsimp only; decide) | (dsimp only; omega), by first | decide | (dsimp only; decide) | (dsimp only; omega)⟩, by first | decide | (dsimp only; decide) | (dsimp only; omega)⟩, ?_, ⟨hb9.1, by show ob ≤ 4611686018427387904; omega⟩, ⟨by first | decide | (dsimp only; decide) | (dsimp only; omega), by first | decide | (dsimp only; decide) | (dsimp only; omega)⟩, by first | decide | (dsimp only; decide) | (dsimp only; omega)⟩; unfold toldB untR; rw [if_neg (by first | decide | (dsimp only; decide) | (dsimp only; omega)), if_pos (by first | decide | (dsimp only; decide) | (dsimp only; omega))]; exact ⟨⟨rfl, rfl, rfl⟩, rfl, rfl⟩)
  have HRB : Hid (∀ a, Below w.heap.size w a → RB a (.slice none 0 0) []) := Lib.hid (fun a ha => rb_nil a)
  have HUO : Hid (U64 hi ∧ U64 lo) := Lib.hid ⟨by first | exact u64_0 | exact hh, by first | exact u64_0 | exact hl⟩
  have HDA : Hid (Bytes []) := Lib.hid (by first | exact HB | exact (fun z hz => by cases hz) | exact (fun z hz => HB z (List.mem_of_mem_take hz)))
  obtain ⟨bb, hbb⟩ : ∃ b, encR 3 (⟨0, ob, hi, lo, [], 0⟩ : Rp) = b := ⟨_, rfl⟩
  have HBL : Hid (bb.length = 26) := Lib.hid (by rw [← hbb, encR_len]; rw [if_neg (by first | decide | (dsimp only; decide) | (dsimp only; omega)), if_pos (by first | decide | (dsimp only; decide) | (dsimp only; omega))])
  have HBY : Hid (Bytes bb) := Lib.hid (by rw [← hbb]; exact encR_bytes HDA.out)
  have HPS : Hid (parseR 3 bb = some (⟨0, ob, hi, lo, [], 0⟩ : Rp)) := Lib.hid (parseR_iff _ _ _ HUO.out.1 HUO.out.2 HTO.out hbb)
  have HGE : Hid (∀ k, k < 26 → ((parseR 3 (bb.take k)).isSome = true ↔ ((3 : Int) = 5 ∧ (0 : Int) = 0 ∧ 2 ≤ k))) := Lib.hid (fun k hk => by have := cutR HTO.out k (by rw [hbb, HBL.out]; exact hk); rw [hbb] at this; exact this)
  have HMO : Hid ((parseR 3 (bb ++ [0])).isSome = true ↔ ((3 : Int) = 5 ∧ (0 : Int) = 0 ∧ ([] : List Int).length < 1024)) := Lib.hid (by have := moreR HTO.out; rw [hbb] at this; exact this)
  have HS5 : Hid (26 ≤ 1026) := Lib.hid (by decide)
  have ANS := Lib.hid (fun a (ha : Below w.heap.size w a) => by
    have := answer_any a 3 (⟨0, ob, hi, lo, [], 0⟩ : Rp) (.slice none 0 0) (HRB.out a ha) HUO.out.1 HUO.out.2
    rw [show ansE 3 (⟨0, ob, hi, lo, [], 0⟩ : Rp) = 0 from if_pos HTO.out, show ansO 3 (⟨0, ob, hi, lo, [], 0⟩ : Rp) = bb from (if_pos HTO.out).trans hbb] at this
    exact this)
  have PAR := Lib.hid (fun a v (hv : OB a v bb) => by
    have := parseA_any a 3 v bb (by rw [HBL.out]; have := HS5.out; omega) HBY.out hv.reads
    rw [HPS.out] at this
    exact this)
  have CUT := Lib.hid (fun a v k (hv : RB a v (bb.take k)) => parseA_any a 3 v (bb.take k) (by rw [List.length_take, HBL.out]; have := HS5.out; omega) (fun z hz => HBY.out z (List.mem_of_mem_take hz)) hv)
  have MOR := Lib.hid (fun a v (hv : OB a v (bb ++ [0])) => parseA_any a 3 v (bb ++ [0]) (by rw [List.length_append, HBL.out, List.length_singleton]; have := HS5.out; omega) (app_bytes HBY.out (fun z hz => by obtain rfl := List.mem_singleton.1 hz; omega)) hv.reads)
  have N7 := Lib.hid (fun a (ha : Below w.heap.size w a) => answer_no a 3 (⟨7, ob, hi, lo, [], 1⟩ : Rp) (.slice none 0 0) (HRB.out a ha).sl (fun h => by have h1 := h.2.1.2.2; unfold untR at h1; rw [if_pos (by first | decide | (dsimp only; decide) | (dsimp only; omega))] at h1; exact absurd h1 (by first | decide | (dsimp only; decide) | (dsimp only; omega))))
  have N0 := Lib.hid (fun a => answer_no a 0 ⟨0, 0, 0, 0, [], 0⟩ (.slice none 0 0) ⟨_, _, rfl⟩ (by decide))
  have N11 := Lib.hid (fun a => answer_no a 11 ⟨7, 0, 0, 0, [], 0⟩ (.slice none 0 0) ⟨_, _, rfl⟩ (by decide))
  have SAM := Lib.hid (fun a D2 (h1 : RB a D2 []) (h2 : RB a (.slice none 0 0) []) => by
    have := sameR_any a (⟨0, ob, hi, lo, [], 0⟩ : Rp) (⟨0, ob, hi, lo, [], 0⟩ : Rp) D2 (.slice none 0 0) h1 h2 HDA.out HDA.out
    rwa [decide_eq_true rfl] at this)
  obtain ⟨kN, hkN⟩ : ∃ k : Nat, cut % 26 = (k : Int) := ⟨(cut % 26).toNat, by have := Int.emod_nonneg cut (b := 26) (by decide); omega⟩
  have hkl : kN < 26 := by have := Int.emod_lt_of_pos cut (b := 26) (by decide); omega
  have I4 := Lib.hid (fun a => by have := into_any a cut 26 hct.1 hct.2 (by decide) (by have := HS5.out; omega); rwa [hkN] at this)
  simp only [PA, rv, rcells, Option.getD_some, Option.isSome_some, if_true] at ANS PAR N7 N0 N11 SAM
  clear hm hcm ho hcd hob hnu hct hh hl hD HB hbb hkN HTO hc0 hn hb9
  go_enter Try.func7, Try.ntmps7
  go_upto_region 4 with (first | (go_at_call 21; (with_reducible refine (I1.out _).mono ?_); rintro e wx ⟨rfl, rfl⟩) | (go_at_call 21; (with_reducible refine (I2.out _).mono ?_); rintro e wx ⟨rfl, rfl⟩) | fail)
  go_upto_region 8 with fail
  refine wp_any (fun W => Below w.heap.size w W ∧ W.heap[w.heap.size]? = some (.cells #[.int .i64 code, .int .i64 obj, .int .u64 hi, .int .u64 lo, .slice Ad nd cd, .int .i64 nu] 45) ∧ W.heap[w.heap.size + 1]? = some (.cells #[.int .i64 0, .int .i64 0, .int .u64 0, .int .u64 0, .slice none 0 0, .int .i64 0] 45)) ⟨((Below.refl _ w).alloc (Nat.le_refl _) _).alloc (by simp) _, row_on ((Below.refl _ _).alloc (Nat.le_refl _) _) (row_new rfl), row_new (by simp)⟩ (fun W4 hI4 => ?_)
  have B4 := Lib.hid hI4.1
  have P4 := Lib.hid hI4.2.1
  have R4 := Lib.hid hI4.2.2
  clear hI4
  have KW : Hid (Kept (fun b => b = w.heap.size + 1) W4 (((W4.setCell ⟨w.heap.size + 1, 1, none⟩ (.int .i64 ob)).setCell ⟨w.heap.size + 1, 2, none⟩ (.int .u64 hi)).setCell ⟨w.heap.size + 1, 3, none⟩ (.int .u64 lo)).drew) := Lib.hid (((((Kept.refl (fun b => b = w.heap.size + 1) W4).setCell (p := ⟨w.heap.size + 1, 1, none⟩) (.inl rfl) _).setCell (p := ⟨w.heap.size + 1, 2, none⟩) (.inl rfl) _).setCell (p := ⟨w.heap.size + 1, 3, none⟩) (.inl rfl) _).drew)
  have KS : Hid (((((W4.setCell ⟨w.heap.size + 1, 1, none⟩ (.int .i64 ob)).setCell ⟨w.heap.size + 1, 2, none⟩ (.int .u64 hi)).setCell ⟨w.heap.size + 1, 3, none⟩ (.int .u64 lo)).drew).heap[w.heap.size]? = some (.cells #[.int .i64 code, .int .i64 obj, .int .u64 hi, .int .u64 lo, .slice Ad nd cd, .int .i64 nu] 45) ∧ Kept (fun b => b = w.heap.size + 1) W4 (((W4.setCell ⟨w.heap.size + 1, 1, none⟩ (.int .i64 ob)).setCell ⟨w.heap.size + 1, 2, none⟩ (.int .u64 hi)).setCell ⟨w.heap.size + 1, 3, none⟩ (.int .u64 lo)).drew) := Lib.hid ⟨KW.out.row P4.out (by omega), KW.out⟩
  have RO := Lib.hid (heap_setCell_same _ (w.heap.size + 1) 3 _ _ (.int .u64 lo) (heap_setCell_same _ (w.heap.size + 1) 2 _ _ (.int .u64 hi) (heap_setCell_same _ (w.heap.size + 1) 1 _ _ (.int .i64 ob) R4.out)))
  refine wp_region_noPanic ?_
  refine wp_region_held_drew (S := fun W' => W'.heap[w.heap.size]? = some (.cells #[.int .i64 code, .int .i64 obj, .int .u64 hi, .int .u64 lo, .slice Ad nd cd, .int .i64 nu] 45) ∧ Kept (fun b => b = w.heap.size + 1) W4 W') (by kernel_rfl) (⟨P4.out, (Kept.refl _ W4).drew⟩) (fun hHeld => ?_)
  refine wpAnyH_take (i := 0) (oi := { dst := some 39, op := Go.Op.fieldAddr 45 (Go.Operand.tmp 4) 1, type := 0, pos := "law.go:125", after := #[], guard := none }) (v := ?_) rfl (by kernel_rfl) (by kernel_rfl) (by kernel_rfl) (fun _ _ _ h => h) (Or.inl ⟨by rfl, ?hy0_8⟩) (by assumption) ?rest0_8
  case hy0_8 => (intro w hSw; go_simp; try with_reducible rfl)
  try simp only [Act.put, List.setIfInBounds_toArray, List.set_cons_zero, List.set_cons_succ]
  refine wpAnyH_take (i := 4) (oi := { dst := some 43, op := Go.Op.fieldAddr 45 (Go.Operand.tmp 4) 1, type := 0, pos := "law.go:125", after := #[], guard := none }) (v := ?_) rfl (by kernel_rfl) (by kernel_rfl) (by kernel_rfl) (fun _ _ _ h => h) (Or.inl ⟨by rfl, ?hy4_9⟩) (by assumption) ?rest4_9
  case hy4_9 => (intro w hSw; go_simp; try with_reducible rfl)
  try simp only [Act.put, List.setIfInBounds_toArray, List.set_cons_zero, List.set_cons_succ]
  refine wpAnyH_take (i := 1) (oi := { dst := some 40, op := Go.Op.fieldAddr 26 (Go.Operand.tmp 39) 0, type := 0, pos := "law.go:125", after := #[{ on := 0, ground := Go.Ground.data }], guard := none }) (v := ?_) rfl (by kernel_rfl) (by kernel_rfl) (by kernel_rfl) (fun _ _ _ h => h) (Or.inl ⟨by rfl, ?hy1_10⟩) (by assumption) ?rest1_10
  case hy1_10 => (intro w hSw; go_simp; try with_reducible rfl)
  try simp only [Act.put, List.setIfInBounds_toArray, List.set_cons_zero, List.set_cons_succ]
  refine wpAnyH_take (i := 5) (oi := { dst := some 44, op := Go.Op.fieldAddr 26 (Go.Operand.tmp 43) 1, type := 0, pos := "law.go:125", after := #[{ on := 4, ground := Go.Ground.data }], guard := none }) (v := ?_) rfl (by kernel_rfl) (by kernel_rfl) (by kernel_rfl) (fun _ _ _ h => h) (Or.inl ⟨by rfl, ?hy5_11⟩) (by assumption) ?rest5_11
  case hy5_11 => (intro w hSw; go_simp; try with_reducible rfl)
  try simp only [Act.put, List.setIfInBounds_toArray, List.set_cons_zero, List.set_cons_succ]
  refine wpAnyH_take (i := 2) (oi := { dst := some 41, op := Go.Op.load 3 (Go.Operand.tmp 40), type := 3, pos := "law.go:125", after := #[{ on := 1, ground := Go.Ground.data }], guard := none }) (v := ?_) rfl (by kernel_rfl) (by kernel_rfl) (by kernel_rfl) (fun _ _ _ h => h) (Or.inl ⟨by rfl, ?hy2_12⟩) (by assumption) ?rest2_12
  case hy2_12 => (intro w hSw; have z := cell_row (j := 1) hSw.1 rfl; go_simp; try with_reducible rfl)
  try simp only [Act.put, List.setIfInBounds_toArray, List.set_cons_zero, List.set_cons_succ]
  refine wpAnyH_take (i := 6) (oi := { dst := some 45, op := Go.Op.load 24 (Go.Operand.tmp 44), type := 24, pos := "law.go:125", after := #[{ on := 5, ground := Go.Ground.data }], guard := none }) (v := .agg #[.int .u64 hi, .int .u64 lo]) rfl (by kernel_rfl) (by kernel_rfl) (by kernel_rfl) (fun _ _ _ h => h) (yieldsIf_load_mid (by rfl) 24 (.tmp 44) rfl w.heap.size 2 rfl [.int .u64 hi, .int .u64 lo] _ (fun w hSw => range_row hSw.1 (by rfl)) Try.underlying24 rfl info25) (by assumption) ?_
  try simp only [Act.put, List.setIfInBounds_toArray, List.set_cons_zero, List.set_cons_succ]
  refine wpAnyH_ready (rs := [3]) (by kernel_rfl) (by simp) ?_
  refine AllReadyH.cons (o := { dst := some 42, op := Go.Op.call { callee := Go.Callee.value (Go.Operand.func 21), args := #[Go.Operand.tmp 41, Go.Operand.const (Go.Value.int Go.IntKind.i64 4611686018427387904)], argTypes := #[3, 3] }, type := 3, pos := "law.go:125", after := #[{ on := 2, ground := Go.Ground.data }], guard := none }) rfl (fun K hK => ?_) AllReadyH.nil
  go_simp
  go_at_call 21
  (refine (I3.out _).mono ?_)
  rintro e wx ⟨rfl, rfl⟩
  refine hK.out _ _ (hHeld) (fun hHeld2 => ?_)
  clear hK K hHeld
  have hHeld := hHeld2
  clear hHeld2
  try simp only [Act.put, List.setIfInBounds_toArray, List.set_cons_zero, List.set_cons_succ]
  refine wpAnyH_take (i := 7) (oi := { dst := some 46, op := Go.Op.build 26 #[(0, Go.Operand.tmp 42), (1, Go.Operand.tmp 45)], type := 26, pos := "law.go:125", after := #[{ on := 3, ground := Go.Ground.data }, { on := 6, ground := Go.Ground.data }], guard := none }) (v := ?_) rfl (by kernel_rfl) (by kernel_rfl) (by kernel_rfl) (fun _ _ _ h => h) (Or.inl ⟨by rfl, ?hy7_13⟩) (by assumption) ?rest7_13
  case hy7_13 => (intro w hSw; go_simp; try with_reducible rfl)
  try simp only [Act.put, List.setIfInBounds_toArray, List.set_cons_zero, List.set_cons_succ]
  refine wpAnyH_take (i := 8) (oi := { dst := some 47, op := Go.Op.fieldAddr 45 (Go.Operand.tmp 7) 1, type := 0, pos := "law.go:125", after := #[{ on := 0, ground := Go.Ground.phase }, { on := 1, ground := Go.Ground.phase }, { on := 2, ground := Go.Ground.phase }, { on := 3, ground := Go.Ground.phase }, { on := 4, ground := Go.Ground.phase }, { on := 5, ground := Go.Ground.phase }, { on := 6, ground := Go.Ground.phase }, { on := 7, ground := Go.Ground.phase }], guard := none }) (v := ?_) rfl (by kernel_rfl) (by kernel_rfl) (by kernel_rfl) (fun _ _ _ h => h) (Or.inl ⟨by rfl, ?hy8_14⟩) (by assumption) ?rest8_14
  case hy8_14 => (intro w hSw; go_simp; try with_reducible rfl)
  try simp only [Act.put, List.setIfInBounds_toArray, List.set_cons_zero, List.set_cons_succ]
  refine wpAnyH_ready (rs := [9]) (by kernel_rfl) (by simp) ?_
  refine AllReadyH.cons (o := { dst := none, op := Go.Op.store 26 (Go.Operand.tmp 47) (Go.Operand.tmp 46), type := 0, pos := "law.go:125", after := #[{ on := 8, ground := Go.Ground.data }, { on := 7, ground := Go.Ground.data }, { on := 3, ground := Go.Ground.chain }, { on := 0, ground := Go.Ground.phase }, { on := 1, ground := Go.Ground.phase }, { on := 2, ground := Go.Ground.phase }, { on := 3, ground := Go.Ground.phase }, { on := 4, ground := Go.Ground.phase }, { on := 5, ground := Go.Ground.phase }, { on := 6, ground := Go.Ground.phase }, { on := 7, ground := Go.Ground.phase }], guard := none }) rfl (fun K hK => ?_) AllReadyH.nil
  have y1 : W4.cell? ⟨w.heap.size + 1, 1, none⟩ = some (.int .i64 0) := cell_row R4.out rfl
  have y2 : W4.cell? ⟨w.heap.size + 1, 2, none⟩ = some (.int .u64 0) := cell_row R4.out rfl
  have y3 : W4.cell? ⟨w.heap.size + 1, 3, none⟩ = some (.int .u64 0) := cell_row R4.out rfl
  have z1 : W4.frozen? ⟨w.heap.size + 1, 1, none⟩ = false := free_row R4.out
  have z2 : W4.frozen? ⟨w.heap.size + 1, 2, none⟩ = false := free_row R4.out
  have z3 : W4.frozen? ⟨w.heap.size + 1, 3, none⟩ = false := free_row R4.out
  go_simp
  clear y1 y2 y3 z1 z2 z3
  refine hK.out _ _ (KS.out) (fun hHeld2 => ?_)
  clear hK K hHeld
  have hHeld := hHeld2
  clear hHeld2
  try simp only [Act.put, List.setIfInBounds_toArray, List.set_cons_zero, List.set_cons_succ]
  refine wpAnyH_done (by kernel_rfl) ?_ _
  refine NoPanic.normal ?_
  try simp only [Act.put, List.setIfInBounds_toArray, List.set_cons_zero, List.set_cons_succ]
  go_upto_region 16 with fail
  refine wp_any (fun W => Below w.heap.size w W ∧ W.heap[w.heap.size + 1]? = some (.cells #[.int .i64 0, .int .i64 ob, .int .u64 hi, .int .u64 lo, .slice none 0 0, .int .i64 0] 45)) ⟨B4.out.trans (KW.out.below (B := w.heap.size) (fun x hx => by have h3 : x = w.heap.size + 1 := hx; omega) B4.out.size), RO.out⟩ (fun W5 hI5 => ?_)
  have B5 := Lib.hid hI5.1
  have R5 := Lib.hid hI5.2
  clear hI5
  go_upto_region 17 with (first | (refine wpList_load_row rfl 45 (.tmp 7) rfl (w.heap.size + 1) 45 #[.int .i64 0, .int .i64 ob, .int .u64 hi, .int .u64 lo, .slice none 0 0, .int .i64 0] (0, 0) _ rfl R5.out Try.underlying45 rfl info45 ?_) | (go_at_call 15; refine (ANS.out _ B5.out).mono ?_; rintro e w1 ⟨v1, rfl, o1, b1, f1⟩; obtain ⟨A1, c1, he, hec⟩ := own_slice o1; rw [HBL.out] at he hec; subst he; have O1 := Lib.hid o1; have B1 := Lib.hid b1; have R1 := Lib.hid (row_on b1 R5.out); have X1 := Lib.hid (B5.out.trans (b1.mono B5.out.size)); clear o1 b1 f1) | fail)
  obtain ⟨g1, p1, rfl⟩ : ∃ g o, A1 = some ⟨g, o, none⟩ := by
    obtain ⟨A, c, e, _, _, h⟩ := O1.out.reads
    obtain ⟨g, o, e2, _⟩ := h (by rw [HBL.out]; omega)
    injection e with e1
    exact ⟨g, o, e1.trans e2⟩
  go_upto_region 18 with (first | (go_at_call 18; refine (PAR.out _ _ O1.out).mono ?_; rintro e w2 ⟨D2, rfl, d2, _, b2⟩; obtain ⟨A2, n2, c2, rfl⟩ : ∃ A n c, D2 = .slice A n c := (by obtain ⟨A, c, e, _⟩ := own_slice d2; exact ⟨_, _, _, e⟩); have DD2 := Lib.hid d2; have B2 := Lib.hid b2; have R2 := Lib.hid (row_on b2 R1.out); have X2 := Lib.hid (X1.out.trans (b2.mono X1.out.size)); have O2 := Lib.hid (O1.out.below b2); clear d2 b2) | fail)
  have ba := (Below.refl w2.heap.size w2).alloc (Nat.le_refl _) (.cells #[.int .i64 0, .int .i64 ob, .int .u64 hi, .int .u64 lo, .slice A2 n2 c2, .int .i64 0] 45)
  refine wp_any (fun W => Below w2.heap.size w2 W ∧ W.heap[w2.heap.size]? = some (.cells #[.int .i64 0, .int .i64 ob, .int .u64 hi, .int .u64 lo, .slice A2 n2 c2, .int .i64 0] 45)) ⟨ba, row_new rfl⟩ (fun W6 hI6 => ?_)
  have X6 := Lib.hid (X2.out.trans (hI6.1.mono X2.out.size))
  have R6 := Lib.hid (row_on hI6.1 R2.out)
  have O6 := Lib.hid (O2.out.below hI6.1)
  have D6 := Lib.hid (DD2.out.below hI6.1)
  have T6 := Lib.hid hI6.2
  clear hI6 ba
  go_upto_region 20 with (first | (go_at_call 11; refine (known_any _).mono ?_; rintro e w3 ⟨rfl, b3⟩; have X3 := Lib.hid (X6.out.trans (b3.mono X6.out.size)); have R3 := Lib.hid (row_on b3 R6.out); have O3 := Lib.hid (O6.out.below b3); have D3 := Lib.hid (D6.out.below b3); have T3 := Lib.hid (row_on b3 T6.out); have ty0 := cell_row (j := 0) T3.out rfl; have ry0 := cell_row (j := 0) R3.out rfl; have ty1 := cell_row (j := 1) T3.out rfl; have ry1 := cell_row (j := 1) R3.out rfl; have ty2 := cell_row (j := 2) T3.out rfl; have ry2 := cell_row (j := 2) R3.out rfl; have ty3 := cell_row (j := 3) T3.out rfl; have ry3 := cell_row (j := 3) R3.out rfl; have ty4 := cell_row (j := 4) T3.out rfl; have ry4 := cell_row (j := 4) R3.out rfl; have ty5 := cell_row (j := 5) T3.out rfl; have ry5 := cell_row (j := 5) R3.out rfl; clear b3) | (go_at_call 19; clear ty0 ry0 ty1 ry1 ty2 ry2 ty3 ry3 ty4 ry4 ty5 ry5; refine (SAM.out _ _ D3.out.reads (HRB.out _ X3.out)).mono ?_; rintro e w4 ⟨rfl, b4⟩; have X4 := Lib.hid (X3.out.trans (b4.mono X3.out.size)); have R4 := Lib.hid (row_on b4 R3.out); have O4 := Lib.hid (O3.out.below b4); clear b4) | fail)
  have hk0 : (0 : Int) ≤ (kN : Int) := by omega
  have hk1 : (kN : Int) ≤ (c1 : Int) := by omega
  have hk2 : kN ≤ c1 := by omega
  have hk3 : kN ≤ 26 := by omega
  obtain ⟨gg, hgg⟩ : ∃ g, parseR 3 (bb.take kN) = g := ⟨_, rfl⟩
  have HG := Lib.hid (HGE.out kN hkl)
  have HCT := Lib.hid (fun a v (hv : RB a v (bb.take kN)) => CUT.out a v kN hv)
  rw [hgg] at HG HCT
  obtain ⟨xx, hxx⟩ : ∃ x, gg.getD zr = x := ⟨_, rfl⟩
  obtain ⟨yb, hyb⟩ : ∃ b, gg.isSome = b := ⟨_, rfl⟩
  rw [hyb] at HG
  simp only [PA, hxx, hyb, rv, rcells] at HCT
  clear hgg hxx hyb
  obtain ⟨hh2, hhh⟩ : ∃ g, parseR 3 (bb ++ [0]) = g := ⟨_, rfl⟩
  rw [hhh] at HMO MOR
  obtain ⟨zx, hzx⟩ : ∃ x, hh2.getD zr = x := ⟨_, rfl⟩
  obtain ⟨zb, hzb⟩ : ∃ b, hh2.isSome = b := ⟨_, rfl⟩
  rw [hzb] at HMO
  simp only [PA, hzx, hzb, rv, rcells] at MOR
  clear hhh hzx hzb
  obtain rfl : yb = false := by cases yb with | false => rfl | true => exact absurd (HG.out.1 rfl) (fun h => absurd h.1 (by decide))
  obtain rfl : zb = false := by cases zb with | false => rfl | true => exact absurd (HMO.out.1 rfl) (fun h => absurd h.1 (by decide))
  go_upto_region 21 with (first | (go_at_call 21; (with_reducible refine (I4.out _).mono ?_); rintro e wx ⟨rfl, rfl⟩) | fail)
  go_upto_region 22 with (first | (go_at_call 18; refine (HCT.out _ _ (RB.take (c := c1) (by rw [HBL.out]; exact O4.out.reads) (by rw [HBL.out]; exact hk3) rfl)).mono ?_; rintro e w5 ⟨D5, rfl, d5, _, b5⟩; obtain ⟨A5, n5, c5, rfl⟩ : ∃ A n c, D5 = .slice A n c := (by obtain ⟨A, c, e, _⟩ := own_slice d5; exact ⟨_, _, _, e⟩); have X5 := Lib.hid (X4.out.trans (b5.mono X4.out.size)); have R55 := Lib.hid (row_on b5 R4.out); have O5 := Lib.hid (O4.out.below b5); clear d5 b5) | fail)
  have ba5 := (Below.refl w5.heap.size w5).alloc (Nat.le_refl _) (.cells #[.int .i64 xx.code, .int .i64 xx.obj, .int .u64 xx.hi, .int .u64 xx.lo, .slice A5 n5 c5, .int .i64 xx.nu] 45)
  refine wp_any (fun W => Below w5.heap.size w5 W) ba5 (fun W7 hI7 => ?_)
  have X7 := Lib.hid (X5.out.trans (hI7.mono X5.out.size))
  have R7 := Lib.hid (row_on hI7 R55.out)
  have O7 := Lib.hid (O5.out.below hI7)
  clear hI7 ba5
  have yr0 := cell_row (j := 0) R7.out rfl
  go_upto_region 23 with fail
  have BE := Lib.hid ((Below.refl W7.heap.size W7).alloc (Nat.le_refl _) (.cells #[] 5))
  go_upto_region 24 with (first | (at_builtin; refine list_app2 rfl (.tmp 123) (.tmp 124) 27 rfl 5 0 _ 1 1 Try.underlying27 info5 rfl (by decide) (by decide) (.slice (some ⟨W7.heap.size, 0, none⟩) 0 0) 0 [] rfl (made_row (row_new rfl)) (some ⟨g1, p1, none⟩) 26 c1 (bb.map byteC) rfl (by rw [List.length_map, HBL.out, Nat.mul_one]) ((O7.out.below BE.out).reads.holds.2) one8 (by have := HS5.out; omega) (Nat.zero_le _) ?_; intro v9 w9 hw1 hw2; obtain ⟨o9, b9, f9⟩ := app_r2 (w0 := W7) (zs := []) (ys := bb) HBL.out BE.out (fun b hb => Nat.le_of_eq (by simpa [Value.ownBlock] using hb)) hw1 hw2; have O9 := Lib.hid o9; have B9 := Lib.hid b9; have F9 := Lib.hid f9; clear hw1 hw2 o9 b9 f9) | (at_builtin; refine list_app2 rfl (.tmp 125) (.tmp 126) 27 rfl 5 0 _ 1 1 Try.underlying27 info5 rfl (by decide) (by decide) v9 ([] ++ bb).length _ rfl (OB.owns2 O9.out ((Below.refl _ _).alloc (Nat.le_refl _) _)) (some ⟨w9.heap.size, 0, none⟩) 1 1 [.int .u8 0] rfl rfl (holds_new _ _ _ _ _ rfl) (by simp [Value.oneCell']) (by have := HS5.out; have := HBL.out; rw [List.nil_append]; omega) (Nat.zero_le _) ?_; intro v10 w10 hw1 hw2; obtain ⟨o10, b10, f10⟩ := app_r2 (w0 := W7) (zs := [] ++ bb) (ys := [0]) (n := 1) rfl (B9.out.trans (((Below.refl _ w9).alloc (Nat.le_refl _) _).mono B9.out.size)) F9.out hw1 hw2; rw [List.nil_append] at o10; have O10 := Lib.hid o10; have B10 := Lib.hid b10; clear hw1 hw2 o10 b10 f10) | (go_at_call 18; refine (MOR.out _ _ O10.out).mono ?_; rintro e w11 ⟨D11, rfl, d11, _, b11⟩; obtain ⟨A11, n11, c11, rfl⟩ : ∃ A n c, D11 = .slice A n c := (by obtain ⟨A, c, e, _⟩ := own_slice d11; exact ⟨_, _, _, e⟩); have B11 := Lib.hid (B10.out.trans (b11.mono B10.out.size)); clear d11 b11) | fail)
  have ba11 := (Below.refl w11.heap.size w11).alloc (Nat.le_refl _) (.cells #[.int .i64 zx.code, .int .i64 zx.obj, .int .u64 zx.hi, .int .u64 zx.lo, .slice A11 n11 c11, .int .i64 zx.nu] 45)
  refine wp_any (fun W => Below w11.heap.size w11 W) ba11 (fun W8 hI8 => ?_)
  have B78 := B11.out.trans (hI8.mono B11.out.size)
  have X8 := Lib.hid (X7.out.trans (B78.mono X7.out.size))
  have R8 := Lib.hid (row_on B78 R7.out)
  clear hI8 ba11 B78 yr0
  have yr0 := cell_row (j := 0) R8.out rfl
  have yr4 := cell_row (j := 4) R8.out rfl
  have yr5 := cell_row (j := 5) R8.out rfl
  have zr0 := free_row (j := 0) R8.out
  have zr5 := free_row (j := 5) R8.out
  go_upto_region 28 with fail
  have K9 : Kept (fun b => b = w.heap.size + 1) W8 ((W8.setCell ⟨w.heap.size + 1, 0, none⟩ (.int .i64 7)).setCell ⟨w.heap.size + 1, 5, none⟩ (.int .i64 1)) := ((Kept.refl (fun b => b = w.heap.size + 1) W8).setCell (p := ⟨w.heap.size + 1, 0, none⟩) (.inl rfl) _).setCell (p := ⟨w.heap.size + 1, 5, none⟩) (.inl rfl) _
  have R9 := heap_setCell_same _ (w.heap.size + 1) 5 _ _ (.int .i64 1) (heap_setCell_same _ (w.heap.size + 1) 0 _ _ (.int .i64 7) R8.out)
  refine wp_any (fun W => Below w.heap.size w W ∧ W.heap[w.heap.size + 1]? = some (.cells #[.int .i64 7, .int .i64 ob, .int .u64 hi, .int .u64 lo, .slice none 0 0, .int .i64 1] 45)) ⟨X8.out.trans (K9.below (B := w.heap.size) (fun x hx => by have h3 : x = w.heap.size + 1 := hx; omega) X8.out.size), R9⟩ (fun W9 hI9 => ?_)
  have X9 := Lib.hid hI9.1
  have R99 := Lib.hid hI9.2
  clear hI9 K9 R9 yr0 yr4 yr5 zr0 zr5
  go_wp2_with (first | (refine wpList_load_row rfl 45 (.tmp 7) rfl (w.heap.size + 1) 45 #[.int .i64 7, .int .i64 ob, .int .u64 hi, .int .u64 lo, .slice none 0 0, .int .i64 1] (0, 0) _ rfl R99.out Try.underlying45 rfl info45 ?_) | (go_at_call 15; (with_reducible refine (N7.out _ X9.out).mono ?_); rintro e w12 ⟨rfl, b12⟩; have X12 := Lib.hid (X9.out.trans (b12.mono X9.out.size)); clear b12) | (go_at_call 15; (with_reducible refine (N0.out _).mono ?_); rintro e w13 ⟨rfl, b13⟩; have X13 := Lib.hid (X12.out.trans (b13.mono X12.out.size)); clear b13) | (go_at_call 15; (with_reducible refine (N11.out _).mono ?_); rintro e w14 ⟨rfl, b14⟩; have X14 := Lib.hid (X13.out.trans (b14.mono X13.out.size)); clear b14) | fail)
  go_ret
  exact ⟨rfl, X14.out⟩
set_option maxHeartbeats 4000000 in
set_option maxRecDepth 100000 in
theorem replies_ca (w : World) (op m code cm obj hi lo nu cut : Int) (da : List Int) (Ad : Option Addr) (nd cd : Nat) (hm : op % 10 = m) (hcm : code % 65536 = cm) (ho : -9223372036854775808 ≤ op ∧ op ≤ 9223372036854775807) (hcd : -9223372036854775808 ≤ code ∧ code ≤ 9223372036854775807) (hob : -9223372036854775808 ≤ obj ∧ obj ≤ 9223372036854775807) (hnu : -9223372036854775808 ≤ nu ∧ nu ≤ 9223372036854775807) (hct : -9223372036854775808 ≤ cut ∧ cut ≤ 9223372036854775807) (hh : U64 hi) (hl : U64 lo) (hD : RB w (.slice Ad nd cd) da) (HB : Bytes da) (hz : cm = 0) (h8 : m = 4) (hlt : nd < 1024) :
    Calls Try.prog 7 #[.int .i64 op, .agg #[.int .i64 code, .int .i64 obj, .int .u64 hi, .int .u64 lo, .slice Ad nd cd, .int .i64 nu], .int .i64 cut] w fun e w' => e = .returned (.bool true) ∧ Below w.heap.size w w' := by
  have hm0 : 0 ≤ m ∧ m < 10 := by omega
  have hc0 : 0 ≤ cm ∧ cm < 65536 := by omega
  have I1 := Lib.hid (fun a => by have := into_any a op 10 ho.1 ho.2 (by decide) (by decide); rwa [hm] at this)
  have I2 := Lib.hid (fun a => by have := into_any a code 65536 hcd.1 hcd.2 (by decide) (by decide); rwa [hcm] at this)
  have hw1 : IntKind.i64.wrap (1 + m) = 1 + m := by rw [IntKind.wrap_i64]; omega
  subst hz h8
  have hlen : da.length = nd := by obtain ⟨A, c, e, _⟩ := hD; cases e; rfl
  have hcd2 : nd ≤ cd := by obtain ⟨A, c, e, h1, _⟩ := hD; cases e; exact h1
  obtain ⟨s, hs⟩ : ∃ s, 2 + nd = s := ⟨_, rfl⟩
  have HSN := Lib.hid hs
  have hq1 : (nd : Int) < 1024 := by omega
  have hq3 : (nd : Int) ≤ 1024 := by omega
  have hq2 : (nd : Int) ≤ (cd : Int) := by omega
  have hs2 : (2 : Int) + (nd : Int) = (s : Int) := by omega
  have hw2 : IntKind.i64.wrap (s : Int) = (s : Int) := by rw [IntKind.wrap_i64]; omega
  have HLT := Lib.hid hlt
  have HLN : Hid ((da).length = nd) := Lib.hid (hlen)
  have HTO : Hid (toldR 5 (⟨0, 0, 0, 0, da, 0⟩ : Rp)) := Lib.hid (by refine ⟨⟨⟨by first | decide | (dsimp only; decide) | (dsimp only; omega), by first | decide | (dsimp only; decide) | (dsimp only; omega)⟩, ⟨by first | decide | (dsimp only; decide) | (dsimp only; omega), by first | decide | (dsimp only; decide) | (dsimp only; omega)⟩, by first | decide | (dsimp only; decide) | (dsimp only; omega)⟩, ?_, ⟨by first | decide | (dsimp only; decide) | (dsimp only; omega), by first | decide | (dsimp only; decide) | (dsimp only; omega)⟩, ⟨by first | decide | (dsimp only; decide) | (dsimp only; omega), by first | decide | (dsimp only; decide) | (dsimp only; omega)⟩, by show (da).length ≤ 1024; rw [HLN.out]; omega⟩; unfold toldB untR; rw [if_neg (by first | decide | (dsimp only; decide) | (dsimp only; omega)), if_neg (by first | decide | (dsimp only; decide) | (dsimp only; omega)), if_pos rfl]; exact ⟨⟨rfl, rfl, rfl⟩, rfl, rfl⟩)
  have HRB : Hid (∀ a, Below w.heap.size w a → RB a (.slice Ad nd cd) da) := Lib.hid (fun a ha => hD.below ha)
  have HUO : Hid (U64 0 ∧ U64 0) := Lib.hid ⟨by first | exact u64_0 | exact hh, by first | exact u64_0 | exact hl⟩
  have HDA : Hid (Bytes da) := Lib.hid (by first | exact HB | exact (fun z hz => by cases hz) | exact (fun z hz => HB z (List.mem_of_mem_take hz)))
  obtain ⟨bb, hbb⟩ : ∃ b, encR 5 (⟨0, 0, 0, 0, da, 0⟩ : Rp) = b := ⟨_, rfl⟩
  have HBL : Hid (bb.length = s) := Lib.hid (by rw [← hbb, encR_len]; rw [if_neg (by first | decide | (dsimp only; decide) | (dsimp only; omega)), if_neg (by first | decide | (dsimp only; decide) | (dsimp only; omega)), if_pos rfl]; show 2 + (da).length = s; rw [HLN.out]; exact HSN.out)
  have HBY : Hid (Bytes bb) := Lib.hid (by rw [← hbb]; exact encR_bytes HDA.out)
  have HPS : Hid (parseR 5 bb = some (⟨0, 0, 0, 0, da, 0⟩ : Rp)) := Lib.hid (parseR_iff _ _ _ HUO.out.1 HUO.out.2 HTO.out hbb)
  have HGE : Hid (∀ k, k < s → ((parseR 5 (bb.take k)).isSome = true ↔ ((5 : Int) = 5 ∧ (0 : Int) = 0 ∧ 2 ≤ k))) := Lib.hid (fun k hk => by have := cutR HTO.out k (by rw [hbb, HBL.out]; exact hk); rw [hbb] at this; exact this)
  have HMO : Hid ((parseR 5 (bb ++ [0])).isSome = true ↔ ((5 : Int) = 5 ∧ (0 : Int) = 0 ∧ (da : List Int).length < 1024)) := Lib.hid (by have := moreR HTO.out; rw [hbb] at this; exact this)
  have HS5 : Hid (s ≤ 1026) := Lib.hid (by have := HSN.out; have := HLT.out; omega)
  have ANS := Lib.hid (fun a (ha : Below w.heap.size w a) => by
    have := answer_any a 5 (⟨0, 0, 0, 0, da, 0⟩ : Rp) (.slice Ad nd cd) (HRB.out a ha) HUO.out.1 HUO.out.2
    rw [show ansE 5 (⟨0, 0, 0, 0, da, 0⟩ : Rp) = 0 from if_pos HTO.out, show ansO 5 (⟨0, 0, 0, 0, da, 0⟩ : Rp) = bb from (if_pos HTO.out).trans hbb] at this
    exact this)
  have PAR := Lib.hid (fun a v (hv : OB a v bb) => by
    have := parseA_any a 5 v bb (by rw [HBL.out]; have := HS5.out; omega) HBY.out hv.reads
    rw [HPS.out] at this
    exact this)
  have CUT := Lib.hid (fun a v k (hv : RB a v (bb.take k)) => parseA_any a 5 v (bb.take k) (by rw [List.length_take, HBL.out]; have := HS5.out; omega) (fun z hz => HBY.out z (List.mem_of_mem_take hz)) hv)
  have MOR := Lib.hid (fun a v (hv : OB a v (bb ++ [0])) => parseA_any a 5 v (bb ++ [0]) (by rw [List.length_append, HBL.out, List.length_singleton]; have := HS5.out; omega) (app_bytes HBY.out (fun z hz => by obtain rfl := List.mem_singleton.1 hz; omega)) hv.reads)
  have N7 := Lib.hid (fun a (ha : Below w.heap.size w a) => answer_no a 5 (⟨7, 0, 0, 0, da, 1⟩ : Rp) (.slice Ad nd cd) (HRB.out a ha).sl (fun h => by have h1 := h.2.1.2.2; unfold untR at h1; rw [if_pos (by first | decide | (dsimp only; decide) | (dsimp only; omega))] at h1; exact absurd h1 (by first | decide | (dsimp only; decide) | (dsimp only; omega))))
  have N0 := Lib.hid (fun a => answer_no a 0 ⟨0, 0, 0, 0, [], 0⟩ (.slice none 0 0) ⟨_, _, rfl⟩ (by decide))
  have N11 := Lib.hid (fun a => answer_no a 11 ⟨7, 0, 0, 0, [], 0⟩ (.slice none 0 0) ⟨_, _, rfl⟩ (by decide))
  have SAM := Lib.hid (fun a D2 (h1 : RB a D2 da) (h2 : RB a (.slice Ad nd cd) da) => by
    have := sameR_any a (⟨0, 0, 0, 0, da, 0⟩ : Rp) (⟨0, 0, 0, 0, da, 0⟩ : Rp) D2 (.slice Ad nd cd) h1 h2 HDA.out HDA.out
    rwa [decide_eq_true rfl] at this)
  obtain ⟨kN, hkN⟩ : ∃ k : Nat, cut % (s : Int) = (k : Int) := ⟨(cut % (s : Int)).toNat, by have := Int.emod_nonneg cut (b := (s : Int)) (by omega); omega⟩
  have hkl : kN < s := by have := Int.emod_lt_of_pos cut (b := (s : Int)) (by omega); omega
  have I4 := Lib.hid (fun a => by have := into_any a cut (s : Int) hct.1 hct.2 (by omega) (by have := HS5.out; omega); rwa [hkN] at this)
  simp only [PA, rv, rcells, Option.getD_some, Option.isSome_some, if_true] at ANS PAR N7 N0 N11 SAM
  clear hm hcm ho hcd hob hnu hct hh hl hD HB hbb hkN HTO hc0 hlen hcd2 hs hlt
  go_enter Try.func7, Try.ntmps7
  go_upto_region 4 with (first | (go_at_call 21; (with_reducible refine (I1.out _).mono ?_); rintro e wx ⟨rfl, rfl⟩) | (go_at_call 21; (with_reducible refine (I2.out _).mono ?_); rintro e wx ⟨rfl, rfl⟩) | fail)
  go_upto_region 16 with fail
  refine wp_any (fun W => Below w.heap.size w W ∧ W.heap[w.heap.size + 1]? = some (.cells #[.int .i64 0, .int .i64 0, .int .u64 0, .int .u64 0, .slice Ad nd cd, .int .i64 0] 45)) ⟨((Below.refl _ w).alloc (Nat.le_refl _) _).alloc (by simp) _, row_new (by simp)⟩ (fun W5 hI5 => ?_)
  have B5 := Lib.hid hI5.1
  have R5 := Lib.hid hI5.2
  clear hI5
  go_upto_region 17 with (first | (refine wpList_load_row rfl 45 (.tmp 7) rfl (w.heap.size + 1) 45 #[.int .i64 0, .int .i64 0, .int .u64 0, .int .u64 0, .slice Ad nd cd, .int .i64 0] (0, 0) _ rfl R5.out Try.underlying45 rfl info45 ?_) | (go_at_call 15; refine (ANS.out _ B5.out).mono ?_; rintro e w1 ⟨v1, rfl, o1, b1, f1⟩; obtain ⟨A1, c1, he, hec⟩ := own_slice o1; rw [HBL.out] at he hec; subst he; have O1 := Lib.hid o1; have B1 := Lib.hid b1; have R1 := Lib.hid (row_on b1 R5.out); have X1 := Lib.hid (B5.out.trans (b1.mono B5.out.size)); clear o1 b1 f1) | fail)
  obtain ⟨g1, p1, rfl⟩ : ∃ g o, A1 = some ⟨g, o, none⟩ := by
    obtain ⟨A, c, e, _, _, h⟩ := O1.out.reads
    obtain ⟨g, o, e2, _⟩ := h (by rw [HBL.out]; omega)
    injection e with e1
    exact ⟨g, o, e1.trans e2⟩
  go_upto_region 18 with (first | (go_at_call 18; refine (PAR.out _ _ O1.out).mono ?_; rintro e w2 ⟨D2, rfl, d2, _, b2⟩; obtain ⟨A2, n2, c2, rfl⟩ : ∃ A n c, D2 = .slice A n c := (by obtain ⟨A, c, e, _⟩ := own_slice d2; exact ⟨_, _, _, e⟩); have DD2 := Lib.hid d2; have B2 := Lib.hid b2; have R2 := Lib.hid (row_on b2 R1.out); have X2 := Lib.hid (X1.out.trans (b2.mono X1.out.size)); have O2 := Lib.hid (O1.out.below b2); clear d2 b2) | fail)
  have ba := (Below.refl w2.heap.size w2).alloc (Nat.le_refl _) (.cells #[.int .i64 0, .int .i64 0, .int .u64 0, .int .u64 0, .slice A2 n2 c2, .int .i64 0] 45)
  refine wp_any (fun W => Below w2.heap.size w2 W ∧ W.heap[w2.heap.size]? = some (.cells #[.int .i64 0, .int .i64 0, .int .u64 0, .int .u64 0, .slice A2 n2 c2, .int .i64 0] 45)) ⟨ba, row_new rfl⟩ (fun W6 hI6 => ?_)
  have X6 := Lib.hid (X2.out.trans (hI6.1.mono X2.out.size))
  have R6 := Lib.hid (row_on hI6.1 R2.out)
  have O6 := Lib.hid (O2.out.below hI6.1)
  have D6 := Lib.hid (DD2.out.below hI6.1)
  have T6 := Lib.hid hI6.2
  clear hI6 ba
  go_upto_region 20 with (first | (go_at_call 11; refine (known_any _).mono ?_; rintro e w3 ⟨rfl, b3⟩; have X3 := Lib.hid (X6.out.trans (b3.mono X6.out.size)); have R3 := Lib.hid (row_on b3 R6.out); have O3 := Lib.hid (O6.out.below b3); have D3 := Lib.hid (D6.out.below b3); have T3 := Lib.hid (row_on b3 T6.out); have ty0 := cell_row (j := 0) T3.out rfl; have ry0 := cell_row (j := 0) R3.out rfl; have ty1 := cell_row (j := 1) T3.out rfl; have ry1 := cell_row (j := 1) R3.out rfl; have ty2 := cell_row (j := 2) T3.out rfl; have ry2 := cell_row (j := 2) R3.out rfl; have ty3 := cell_row (j := 3) T3.out rfl; have ry3 := cell_row (j := 3) R3.out rfl; have ty4 := cell_row (j := 4) T3.out rfl; have ry4 := cell_row (j := 4) R3.out rfl; have ty5 := cell_row (j := 5) T3.out rfl; have ry5 := cell_row (j := 5) R3.out rfl; clear b3) | (go_at_call 19; clear ty0 ry0 ty1 ry1 ty2 ry2 ty3 ry3 ty4 ry4 ty5 ry5; refine (SAM.out _ _ D3.out.reads (HRB.out _ X3.out)).mono ?_; rintro e w4 ⟨rfl, b4⟩; have X4 := Lib.hid (X3.out.trans (b4.mono X3.out.size)); have R4 := Lib.hid (row_on b4 R3.out); have O4 := Lib.hid (O3.out.below b4); clear b4) | fail)
  have hk0 : (0 : Int) ≤ (kN : Int) := by omega
  have hk1 : (kN : Int) ≤ (c1 : Int) := by omega
  have hk2 : kN ≤ c1 := by omega
  have hk3 : kN ≤ s := by omega
  obtain ⟨gg, hgg⟩ : ∃ g, parseR 5 (bb.take kN) = g := ⟨_, rfl⟩
  have HG := Lib.hid (HGE.out kN hkl)
  have HCT := Lib.hid (fun a v (hv : RB a v (bb.take kN)) => CUT.out a v kN hv)
  rw [hgg] at HG HCT
  obtain ⟨xx, hxx⟩ : ∃ x, gg.getD zr = x := ⟨_, rfl⟩
  obtain ⟨yb, hyb⟩ : ∃ b, gg.isSome = b := ⟨_, rfl⟩
  rw [hyb] at HG
  simp only [PA, hxx, hyb, rv, rcells] at HCT
  clear hgg hxx hyb
  obtain ⟨hh2, hhh⟩ : ∃ g, parseR 5 (bb ++ [0]) = g := ⟨_, rfl⟩
  rw [hhh] at HMO MOR
  obtain ⟨zx, hzx⟩ : ∃ x, hh2.getD zr = x := ⟨_, rfl⟩
  obtain ⟨zb, hzb⟩ : ∃ b, hh2.isSome = b := ⟨_, rfl⟩
  rw [hzb] at HMO
  simp only [PA, hzx, hzb, rv, rcells] at MOR
  clear hhh hzx hzb
  by_cases hkk : 2 ≤ kN
  · obtain rfl : yb = true := HG.out.2 ⟨by first | rfl | trivial, by first | rfl | trivial, hkk⟩
    obtain rfl : zb = true := HMO.out.2 ⟨by first | rfl | trivial, by first | rfl | trivial, by rw [HLN.out]; exact HLT.out⟩
    have hk5 : (2 : Int) ≤ (kN : Int) := by omega
    go_upto_region 21 with (first | (go_at_call 21; (with_reducible refine (I4.out _).mono ?_); rintro e wx ⟨rfl, rfl⟩) | fail)
    go_upto_region 22 with (first | (go_at_call 18; refine (HCT.out _ _ (RB.take (c := c1) (by rw [HBL.out]; exact O4.out.reads) (by rw [HBL.out]; exact hk3) rfl)).mono ?_; rintro e w5 ⟨D5, rfl, d5, _, b5⟩; obtain ⟨A5, n5, c5, rfl⟩ : ∃ A n c, D5 = .slice A n c := (by obtain ⟨A, c, e, _⟩ := own_slice d5; exact ⟨_, _, _, e⟩); have X5 := Lib.hid (X4.out.trans (b5.mono X4.out.size)); have R55 := Lib.hid (row_on b5 R4.out); have O5 := Lib.hid (O4.out.below b5); clear d5 b5) | fail)
    have ba5 := (Below.refl w5.heap.size w5).alloc (Nat.le_refl _) (.cells #[.int .i64 xx.code, .int .i64 xx.obj, .int .u64 xx.hi, .int .u64 xx.lo, .slice A5 n5 c5, .int .i64 xx.nu] 45)
    refine wp_any (fun W => Below w5.heap.size w5 W) ba5 (fun W7 hI7 => ?_)
    have X7 := Lib.hid (X5.out.trans (hI7.mono X5.out.size))
    have R7 := Lib.hid (row_on hI7 R55.out)
    have O7 := Lib.hid (O5.out.below hI7)
    clear hI7 ba5
    have yr0 := cell_row (j := 0) R7.out rfl
    go_upto_region 23 with fail
    have BE := Lib.hid ((Below.refl W7.heap.size W7).alloc (Nat.le_refl _) (.cells #[] 5))
    go_upto_region 24 with (first | (at_builtin; refine list_app2 rfl (.tmp 123) (.tmp 124) 27 rfl 5 0 _ 1 1 Try.underlying27 info5 rfl (by decide) (by decide) (.slice (some ⟨W7.heap.size, 0, none⟩) 0 0) 0 [] rfl (made_row (row_new rfl)) (some ⟨g1, p1, none⟩) s c1 (bb.map byteC) rfl (by rw [List.length_map, HBL.out, Nat.mul_one]) ((O7.out.below BE.out).reads.holds.2) one8 (by have := HS5.out; omega) (Nat.zero_le _) ?_; intro v9 w9 hw1 hw2; obtain ⟨o9, b9, f9⟩ := app_r2 (w0 := W7) (zs := []) (ys := bb) HBL.out BE.out (fun b hb => Nat.le_of_eq (by simpa [Value.ownBlock] using hb)) hw1 hw2; have O9 := Lib.hid o9; have B9 := Lib.hid b9; have F9 := Lib.hid f9; clear hw1 hw2 o9 b9 f9) | (at_builtin; refine list_app2 rfl (.tmp 125) (.tmp 126) 27 rfl 5 0 _ 1 1 Try.underlying27 info5 rfl (by decide) (by decide) v9 ([] ++ bb).length _ rfl (OB.owns2 O9.out ((Below.refl _ _).alloc (Nat.le_refl _) _)) (some ⟨w9.heap.size, 0, none⟩) 1 1 [.int .u8 0] rfl rfl (holds_new _ _ _ _ _ rfl) (by simp [Value.oneCell']) (by have := HS5.out; have := HBL.out; rw [List.nil_append]; omega) (Nat.zero_le _) ?_; intro v10 w10 hw1 hw2; obtain ⟨o10, b10, f10⟩ := app_r2 (w0 := W7) (zs := [] ++ bb) (ys := [0]) (n := 1) rfl (B9.out.trans (((Below.refl _ w9).alloc (Nat.le_refl _) _).mono B9.out.size)) F9.out hw1 hw2; rw [List.nil_append] at o10; have O10 := Lib.hid o10; have B10 := Lib.hid b10; clear hw1 hw2 o10 b10 f10) | (go_at_call 18; refine (MOR.out _ _ O10.out).mono ?_; rintro e w11 ⟨D11, rfl, d11, _, b11⟩; obtain ⟨A11, n11, c11, rfl⟩ : ∃ A n c, D11 = .slice A n c := (by obtain ⟨A, c, e, _⟩ := own_slice d11; exact ⟨_, _, _, e⟩); have B11 := Lib.hid (B10.out.trans (b11.mono B10.out.size)); clear d11 b11) | fail)
    have ba11 := (Below.refl w11.heap.size w11).alloc (Nat.le_refl _) (.cells #[.int .i64 zx.code, .int .i64 zx.obj, .int .u64 zx.hi, .int .u64 zx.lo, .slice A11 n11 c11, .int .i64 zx.nu] 45)
    refine wp_any (fun W => Below w11.heap.size w11 W) ba11 (fun W8 hI8 => ?_)
    have B78 := B11.out.trans (hI8.mono B11.out.size)
    have X8 := Lib.hid (X7.out.trans (B78.mono X7.out.size))
    have R8 := Lib.hid (row_on B78 R7.out)
    clear hI8 ba11 B78 yr0
    have yr0 := cell_row (j := 0) R8.out rfl
    have yr4 := cell_row (j := 4) R8.out rfl
    have yr5 := cell_row (j := 5) R8.out rfl
    have zr0 := free_row (j := 0) R8.out
    have zr5 := free_row (j := 5) R8.out
    go_upto_region 28 with fail
    have K9 : Kept (fun b => b = w.heap.size + 1) W8 ((W8.setCell ⟨w.heap.size + 1, 0, none⟩ (.int .i64 7)).setCell ⟨w.heap.size + 1, 5, none⟩ (.int .i64 1)) := ((Kept.refl (fun b => b = w.heap.size + 1) W8).setCell (p := ⟨w.heap.size + 1, 0, none⟩) (.inl rfl) _).setCell (p := ⟨w.heap.size + 1, 5, none⟩) (.inl rfl) _
    have R9 := heap_setCell_same _ (w.heap.size + 1) 5 _ _ (.int .i64 1) (heap_setCell_same _ (w.heap.size + 1) 0 _ _ (.int .i64 7) R8.out)
    refine wp_any (fun W => Below w.heap.size w W ∧ W.heap[w.heap.size + 1]? = some (.cells #[.int .i64 7, .int .i64 0, .int .u64 0, .int .u64 0, .slice Ad nd cd, .int .i64 1] 45)) ⟨X8.out.trans (K9.below (B := w.heap.size) (fun x hx => by have h3 : x = w.heap.size + 1 := hx; omega) X8.out.size), R9⟩ (fun W9 hI9 => ?_)
    have X9 := Lib.hid hI9.1
    have R99 := Lib.hid hI9.2
    clear hI9 K9 R9 yr0 yr4 yr5 zr0 zr5
    go_wp2_with (first | (refine wpList_load_row rfl 45 (.tmp 7) rfl (w.heap.size + 1) 45 #[.int .i64 7, .int .i64 0, .int .u64 0, .int .u64 0, .slice Ad nd cd, .int .i64 1] (0, 0) _ rfl R99.out Try.underlying45 rfl info45 ?_) | (go_at_call 15; (with_reducible refine (N7.out _ X9.out).mono ?_); rintro e w12 ⟨rfl, b12⟩; have X12 := Lib.hid (X9.out.trans (b12.mono X9.out.size)); clear b12) | (go_at_call 15; (with_reducible refine (N0.out _).mono ?_); rintro e w13 ⟨rfl, b13⟩; have X13 := Lib.hid (X12.out.trans (b13.mono X12.out.size)); clear b13) | (go_at_call 15; (with_reducible refine (N11.out _).mono ?_); rintro e w14 ⟨rfl, b14⟩; have X14 := Lib.hid (X13.out.trans (b14.mono X13.out.size)); clear b14) | fail)
    go_ret
    exact ⟨rfl, X14.out⟩
  · obtain rfl : yb = false := by cases yb with | false => rfl | true => exact absurd (HG.out.1 rfl).2.2 hkk
    obtain rfl : zb = true := HMO.out.2 ⟨by first | rfl | trivial, by first | rfl | trivial, by rw [HLN.out]; exact HLT.out⟩
    have hk5 : ¬ ((2 : Int) ≤ (kN : Int)) := by omega
    go_upto_region 21 with (first | (go_at_call 21; (with_reducible refine (I4.out _).mono ?_); rintro e wx ⟨rfl, rfl⟩) | fail)
    go_upto_region 22 with (first | (go_at_call 18; refine (HCT.out _ _ (RB.take (c := c1) (by rw [HBL.out]; exact O4.out.reads) (by rw [HBL.out]; exact hk3) rfl)).mono ?_; rintro e w5 ⟨D5, rfl, d5, _, b5⟩; obtain ⟨A5, n5, c5, rfl⟩ : ∃ A n c, D5 = .slice A n c := (by obtain ⟨A, c, e, _⟩ := own_slice d5; exact ⟨_, _, _, e⟩); have X5 := Lib.hid (X4.out.trans (b5.mono X4.out.size)); have R55 := Lib.hid (row_on b5 R4.out); have O5 := Lib.hid (O4.out.below b5); clear d5 b5) | fail)
    have ba5 := (Below.refl w5.heap.size w5).alloc (Nat.le_refl _) (.cells #[.int .i64 xx.code, .int .i64 xx.obj, .int .u64 xx.hi, .int .u64 xx.lo, .slice A5 n5 c5, .int .i64 xx.nu] 45)
    refine wp_any (fun W => Below w5.heap.size w5 W) ba5 (fun W7 hI7 => ?_)
    have X7 := Lib.hid (X5.out.trans (hI7.mono X5.out.size))
    have R7 := Lib.hid (row_on hI7 R55.out)
    have O7 := Lib.hid (O5.out.below hI7)
    clear hI7 ba5
    have yr0 := cell_row (j := 0) R7.out rfl
    go_upto_region 23 with fail
    have BE := Lib.hid ((Below.refl W7.heap.size W7).alloc (Nat.le_refl _) (.cells #[] 5))
    go_upto_region 24 with (first | (at_builtin; refine list_app2 rfl (.tmp 123) (.tmp 124) 27 rfl 5 0 _ 1 1 Try.underlying27 info5 rfl (by decide) (by decide) (.slice (some ⟨W7.heap.size, 0, none⟩) 0 0) 0 [] rfl (made_row (row_new rfl)) (some ⟨g1, p1, none⟩) s c1 (bb.map byteC) rfl (by rw [List.length_map, HBL.out, Nat.mul_one]) ((O7.out.below BE.out).reads.holds.2) one8 (by have := HS5.out; omega) (Nat.zero_le _) ?_; intro v9 w9 hw1 hw2; obtain ⟨o9, b9, f9⟩ := app_r2 (w0 := W7) (zs := []) (ys := bb) HBL.out BE.out (fun b hb => Nat.le_of_eq (by simpa [Value.ownBlock] using hb)) hw1 hw2; have O9 := Lib.hid o9; have B9 := Lib.hid b9; have F9 := Lib.hid f9; clear hw1 hw2 o9 b9 f9) | (at_builtin; refine list_app2 rfl (.tmp 125) (.tmp 126) 27 rfl 5 0 _ 1 1 Try.underlying27 info5 rfl (by decide) (by decide) v9 ([] ++ bb).length _ rfl (OB.owns2 O9.out ((Below.refl _ _).alloc (Nat.le_refl _) _)) (some ⟨w9.heap.size, 0, none⟩) 1 1 [.int .u8 0] rfl rfl (holds_new _ _ _ _ _ rfl) (by simp [Value.oneCell']) (by have := HS5.out; have := HBL.out; rw [List.nil_append]; omega) (Nat.zero_le _) ?_; intro v10 w10 hw1 hw2; obtain ⟨o10, b10, f10⟩ := app_r2 (w0 := W7) (zs := [] ++ bb) (ys := [0]) (n := 1) rfl (B9.out.trans (((Below.refl _ w9).alloc (Nat.le_refl _) _).mono B9.out.size)) F9.out hw1 hw2; rw [List.nil_append] at o10; have O10 := Lib.hid o10; have B10 := Lib.hid b10; clear hw1 hw2 o10 b10 f10) | (go_at_call 18; refine (MOR.out _ _ O10.out).mono ?_; rintro e w11 ⟨D11, rfl, d11, _, b11⟩; obtain ⟨A11, n11, c11, rfl⟩ : ∃ A n c, D11 = .slice A n c := (by obtain ⟨A, c, e, _⟩ := own_slice d11; exact ⟨_, _, _, e⟩); have B11 := Lib.hid (B10.out.trans (b11.mono B10.out.size)); clear d11 b11) | fail)
    have ba11 := (Below.refl w11.heap.size w11).alloc (Nat.le_refl _) (.cells #[.int .i64 zx.code, .int .i64 zx.obj, .int .u64 zx.hi, .int .u64 zx.lo, .slice A11 n11 c11, .int .i64 zx.nu] 45)
    refine wp_any (fun W => Below w11.heap.size w11 W) ba11 (fun W8 hI8 => ?_)
    have B78 := B11.out.trans (hI8.mono B11.out.size)
    have X8 := Lib.hid (X7.out.trans (B78.mono X7.out.size))
    have R8 := Lib.hid (row_on B78 R7.out)
    clear hI8 ba11 B78 yr0
    have yr0 := cell_row (j := 0) R8.out rfl
    have yr4 := cell_row (j := 4) R8.out rfl
    have yr5 := cell_row (j := 5) R8.out rfl
    have zr0 := free_row (j := 0) R8.out
    have zr5 := free_row (j := 5) R8.out
    go_upto_region 28 with fail
    have K9 : Kept (fun b => b = w.heap.size + 1) W8 ((W8.setCell ⟨w.heap.size + 1, 0, none⟩ (.int .i64 7)).setCell ⟨w.heap.size + 1, 5, none⟩ (.int .i64 1)) := ((Kept.refl (fun b => b = w.heap.size + 1) W8).setCell (p := ⟨w.heap.size + 1, 0, none⟩) (.inl rfl) _).setCell (p := ⟨w.heap.size + 1, 5, none⟩) (.inl rfl) _
    have R9 := heap_setCell_same _ (w.heap.size + 1) 5 _ _ (.int .i64 1) (heap_setCell_same _ (w.heap.size + 1) 0 _ _ (.int .i64 7) R8.out)
    refine wp_any (fun W => Below w.heap.size w W ∧ W.heap[w.heap.size + 1]? = some (.cells #[.int .i64 7, .int .i64 0, .int .u64 0, .int .u64 0, .slice Ad nd cd, .int .i64 1] 45)) ⟨X8.out.trans (K9.below (B := w.heap.size) (fun x hx => by have h3 : x = w.heap.size + 1 := hx; omega) X8.out.size), R9⟩ (fun W9 hI9 => ?_)
    have X9 := Lib.hid hI9.1
    have R99 := Lib.hid hI9.2
    clear hI9 K9 R9 yr0 yr4 yr5 zr0 zr5
    go_wp2_with (first | (refine wpList_load_row rfl 45 (.tmp 7) rfl (w.heap.size + 1) 45 #[.int .i64 7, .int .i64 0, .int .u64 0, .int .u64 0, .slice Ad nd cd, .int .i64 1] (0, 0) _ rfl R99.out Try.underlying45 rfl info45 ?_) | (go_at_call 15; (with_reducible refine (N7.out _ X9.out).mono ?_); rintro e w12 ⟨rfl, b12⟩; have X12 := Lib.hid (X9.out.trans (b12.mono X9.out.size)); clear b12) | (go_at_call 15; (with_reducible refine (N0.out _).mono ?_); rintro e w13 ⟨rfl, b13⟩; have X13 := Lib.hid (X12.out.trans (b13.mono X12.out.size)); clear b13) | (go_at_call 15; (with_reducible refine (N11.out _).mono ?_); rintro e w14 ⟨rfl, b14⟩; have X14 := Lib.hid (X13.out.trans (b14.mono X13.out.size)); clear b14) | fail)
    go_ret
    exact ⟨rfl, X14.out⟩
set_option maxHeartbeats 4000000 in
set_option maxRecDepth 100000 in
theorem replies_cb (w : World) (op m code cm obj hi lo nu cut : Int) (da : List Int) (Ad : Option Addr) (nd cd : Nat) (hm : op % 10 = m) (hcm : code % 65536 = cm) (ho : -9223372036854775808 ≤ op ∧ op ≤ 9223372036854775807) (hcd : -9223372036854775808 ≤ code ∧ code ≤ 9223372036854775807) (hob : -9223372036854775808 ≤ obj ∧ obj ≤ 9223372036854775807) (hnu : -9223372036854775808 ≤ nu ∧ nu ≤ 9223372036854775807) (hct : -9223372036854775808 ≤ cut ∧ cut ≤ 9223372036854775807) (hh : U64 hi) (hl : U64 lo) (hD : RB w (.slice Ad nd cd) da) (HB : Bytes da) (hz : cm = 0) (h8 : m = 4) (hlt : nd = 1024) :
    Calls Try.prog 7 #[.int .i64 op, .agg #[.int .i64 code, .int .i64 obj, .int .u64 hi, .int .u64 lo, .slice Ad nd cd, .int .i64 nu], .int .i64 cut] w fun e w' => e = .returned (.bool true) ∧ Below w.heap.size w w' := by
  have hm0 : 0 ≤ m ∧ m < 10 := by omega
  have hc0 : 0 ≤ cm ∧ cm < 65536 := by omega
  have I1 := Lib.hid (fun a => by have := into_any a op 10 ho.1 ho.2 (by decide) (by decide); rwa [hm] at this)
  have I2 := Lib.hid (fun a => by have := into_any a code 65536 hcd.1 hcd.2 (by decide) (by decide); rwa [hcm] at this)
  have hw1 : IntKind.i64.wrap (1 + m) = 1 + m := by rw [IntKind.wrap_i64]; omega
  subst hz h8
  have hlen : da.length = nd := by obtain ⟨A, c, e, _⟩ := hD; cases e; rfl
  have hcd2 : nd ≤ cd := by obtain ⟨A, c, e, h1, _⟩ := hD; cases e; exact h1
  subst hlt
  have hq2 : (1024 : Int) ≤ (cd : Int) := by omega
  have hq5 : 1024 ≤ cd := hcd2
  have HLN : Hid ((da).length = 1024) := Lib.hid (hlen)
  have HTO : Hid (toldR 5 (⟨0, 0, 0, 0, da, 0⟩ : Rp)) := Lib.hid (by refine ⟨⟨⟨by first | decide | (dsimp only; decide) | (dsimp only; omega), by first | decide | (dsimp only; decide) | (dsimp only; omega)⟩, ⟨by first | decide | (dsimp only; decide) | (dsimp only; omega), by first | decide | (dsimp only; decide) | (dsimp only; omega)⟩, by first | decide | (dsimp only; decide) | (dsimp only; omega)⟩, ?_, ⟨by first | decide | (dsimp only; decide) | (dsimp only; omega), by first | decide | (dsimp only; decide) | (dsimp only; omega)⟩, ⟨by first | decide | (dsimp only; decide) | (dsimp only; omega), by first | decide | (dsimp only; decide) | (dsimp only; omega)⟩, by show (da).length ≤ 1024; rw [HLN.out]; omega⟩; unfold toldB untR; rw [if_neg (by first | decide | (dsimp only; decide) | (dsimp only; omega)), if_neg (by first | decide | (dsimp only; decide) | (dsimp only; omega)), if_pos rfl]; exact ⟨⟨rfl, rfl, rfl⟩, rfl, rfl⟩)
  have HRB : Hid (∀ a, Below w.heap.size w a → RB a (.slice Ad 1024 cd) da) := Lib.hid (fun a ha => hD.below ha)
  have HUO : Hid (U64 0 ∧ U64 0) := Lib.hid ⟨by first | exact u64_0 | exact hh, by first | exact u64_0 | exact hl⟩
  have HDA : Hid (Bytes da) := Lib.hid (by first | exact HB | exact (fun z hz => by cases hz) | exact (fun z hz => HB z (List.mem_of_mem_take hz)))
  obtain ⟨bb, hbb⟩ : ∃ b, encR 5 (⟨0, 0, 0, 0, da, 0⟩ : Rp) = b := ⟨_, rfl⟩
  have HBL : Hid (bb.length = 1026) := Lib.hid (by rw [← hbb, encR_len]; rw [if_neg (by first | decide | (dsimp only; decide) | (dsimp only; omega)), if_neg (by first | decide | (dsimp only; decide) | (dsimp only; omega)), if_pos rfl]; show 2 + (da).length = 1026; rw [HLN.out])
  have HBY : Hid (Bytes bb) := Lib.hid (by rw [← hbb]; exact encR_bytes HDA.out)
  have HPS : Hid (parseR 5 bb = some (⟨0, 0, 0, 0, da, 0⟩ : Rp)) := Lib.hid (parseR_iff _ _ _ HUO.out.1 HUO.out.2 HTO.out hbb)
  have HGE : Hid (∀ k, k < 1026 → ((parseR 5 (bb.take k)).isSome = true ↔ ((5 : Int) = 5 ∧ (0 : Int) = 0 ∧ 2 ≤ k))) := Lib.hid (fun k hk => by have := cutR HTO.out k (by rw [hbb, HBL.out]; exact hk); rw [hbb] at this; exact this)
  have HMO : Hid ((parseR 5 (bb ++ [0])).isSome = true ↔ ((5 : Int) = 5 ∧ (0 : Int) = 0 ∧ (da : List Int).length < 1024)) := Lib.hid (by have := moreR HTO.out; rw [hbb] at this; exact this)
  have HS5 : Hid (1026 ≤ 1026) := Lib.hid (by decide)
  have ANS := Lib.hid (fun a (ha : Below w.heap.size w a) => by
    have := answer_any a 5 (⟨0, 0, 0, 0, da, 0⟩ : Rp) (.slice Ad 1024 cd) (HRB.out a ha) HUO.out.1 HUO.out.2
    rw [show ansE 5 (⟨0, 0, 0, 0, da, 0⟩ : Rp) = 0 from if_pos HTO.out, show ansO 5 (⟨0, 0, 0, 0, da, 0⟩ : Rp) = bb from (if_pos HTO.out).trans hbb] at this
    exact this)
  have PAR := Lib.hid (fun a v (hv : OB a v bb) => by
    have := parseA_any a 5 v bb (by rw [HBL.out]; have := HS5.out; omega) HBY.out hv.reads
    rw [HPS.out] at this
    exact this)
  have CUT := Lib.hid (fun a v k (hv : RB a v (bb.take k)) => parseA_any a 5 v (bb.take k) (by rw [List.length_take, HBL.out]; have := HS5.out; omega) (fun z hz => HBY.out z (List.mem_of_mem_take hz)) hv)
  have MOR := Lib.hid (fun a v (hv : OB a v (bb ++ [0])) => parseA_any a 5 v (bb ++ [0]) (by rw [List.length_append, HBL.out, List.length_singleton]; have := HS5.out; omega) (app_bytes HBY.out (fun z hz => by obtain rfl := List.mem_singleton.1 hz; omega)) hv.reads)
  have N7 := Lib.hid (fun a (ha : Below w.heap.size w a) => answer_no a 5 (⟨7, 0, 0, 0, da, 1⟩ : Rp) (.slice Ad 1024 cd) (HRB.out a ha).sl (fun h => by have h1 := h.2.1.2.2; unfold untR at h1; rw [if_pos (by first | decide | (dsimp only; decide) | (dsimp only; omega))] at h1; exact absurd h1 (by first | decide | (dsimp only; decide) | (dsimp only; omega))))
  have N0 := Lib.hid (fun a => answer_no a 0 ⟨0, 0, 0, 0, [], 0⟩ (.slice none 0 0) ⟨_, _, rfl⟩ (by decide))
  have N11 := Lib.hid (fun a => answer_no a 11 ⟨7, 0, 0, 0, [], 0⟩ (.slice none 0 0) ⟨_, _, rfl⟩ (by decide))
  have SAM := Lib.hid (fun a D2 (h1 : RB a D2 da) (h2 : RB a (.slice Ad 1024 cd) da) => by
    have := sameR_any a (⟨0, 0, 0, 0, da, 0⟩ : Rp) (⟨0, 0, 0, 0, da, 0⟩ : Rp) D2 (.slice Ad 1024 cd) h1 h2 HDA.out HDA.out
    rwa [decide_eq_true rfl] at this)
  obtain ⟨kN, hkN⟩ : ∃ k : Nat, cut % 1026 = (k : Int) := ⟨(cut % 1026).toNat, by have := Int.emod_nonneg cut (b := 1026) (by decide); omega⟩
  have hkl : kN < 1026 := by have := Int.emod_lt_of_pos cut (b := 1026) (by decide); omega
  have I4 := Lib.hid (fun a => by have := into_any a cut 1026 hct.1 hct.2 (by decide) (by have := HS5.out; omega); rwa [hkN] at this)
  simp only [PA, rv, rcells, Option.getD_some, Option.isSome_some, if_true] at ANS PAR N7 N0 N11 SAM
  clear hm hcm ho hcd hob hnu hct hh hl hD HB hbb hkN HTO hc0 hlen hcd2
  go_enter Try.func7, Try.ntmps7
  go_upto_region 4 with (first | (go_at_call 21; (with_reducible refine (I1.out _).mono ?_); rintro e wx ⟨rfl, rfl⟩) | (go_at_call 21; (with_reducible refine (I2.out _).mono ?_); rintro e wx ⟨rfl, rfl⟩) | fail)
  go_upto_region 16 with fail
  refine wp_any (fun W => Below w.heap.size w W ∧ W.heap[w.heap.size + 1]? = some (.cells #[.int .i64 0, .int .i64 0, .int .u64 0, .int .u64 0, .slice Ad 1024 cd, .int .i64 0] 45)) ⟨((Below.refl _ w).alloc (Nat.le_refl _) _).alloc (by simp) _, row_new (by simp)⟩ (fun W5 hI5 => ?_)
  have B5 := Lib.hid hI5.1
  have R5 := Lib.hid hI5.2
  clear hI5
  go_upto_region 17 with (first | (refine wpList_load_row rfl 45 (.tmp 7) rfl (w.heap.size + 1) 45 #[.int .i64 0, .int .i64 0, .int .u64 0, .int .u64 0, .slice Ad 1024 cd, .int .i64 0] (0, 0) _ rfl R5.out Try.underlying45 rfl info45 ?_) | (go_at_call 15; refine (ANS.out _ B5.out).mono ?_; rintro e w1 ⟨v1, rfl, o1, b1, f1⟩; obtain ⟨A1, c1, he, hec⟩ := own_slice o1; rw [HBL.out] at he hec; subst he; have O1 := Lib.hid o1; have B1 := Lib.hid b1; have R1 := Lib.hid (row_on b1 R5.out); have X1 := Lib.hid (B5.out.trans (b1.mono B5.out.size)); clear o1 b1 f1) | fail)
  obtain ⟨g1, p1, rfl⟩ : ∃ g o, A1 = some ⟨g, o, none⟩ := by
    obtain ⟨A, c, e, _, _, h⟩ := O1.out.reads
    obtain ⟨g, o, e2, _⟩ := h (by rw [HBL.out]; omega)
    injection e with e1
    exact ⟨g, o, e1.trans e2⟩
  go_upto_region 18 with (first | (go_at_call 18; refine (PAR.out _ _ O1.out).mono ?_; rintro e w2 ⟨D2, rfl, d2, _, b2⟩; obtain ⟨A2, n2, c2, rfl⟩ : ∃ A n c, D2 = .slice A n c := (by obtain ⟨A, c, e, _⟩ := own_slice d2; exact ⟨_, _, _, e⟩); have DD2 := Lib.hid d2; have B2 := Lib.hid b2; have R2 := Lib.hid (row_on b2 R1.out); have X2 := Lib.hid (X1.out.trans (b2.mono X1.out.size)); have O2 := Lib.hid (O1.out.below b2); clear d2 b2) | fail)
  have ba := (Below.refl w2.heap.size w2).alloc (Nat.le_refl _) (.cells #[.int .i64 0, .int .i64 0, .int .u64 0, .int .u64 0, .slice A2 n2 c2, .int .i64 0] 45)
  refine wp_any (fun W => Below w2.heap.size w2 W ∧ W.heap[w2.heap.size]? = some (.cells #[.int .i64 0, .int .i64 0, .int .u64 0, .int .u64 0, .slice A2 n2 c2, .int .i64 0] 45)) ⟨ba, row_new rfl⟩ (fun W6 hI6 => ?_)
  have X6 := Lib.hid (X2.out.trans (hI6.1.mono X2.out.size))
  have R6 := Lib.hid (row_on hI6.1 R2.out)
  have O6 := Lib.hid (O2.out.below hI6.1)
  have D6 := Lib.hid (DD2.out.below hI6.1)
  have T6 := Lib.hid hI6.2
  clear hI6 ba
  go_upto_region 20 with (first | (go_at_call 11; refine (known_any _).mono ?_; rintro e w3 ⟨rfl, b3⟩; have X3 := Lib.hid (X6.out.trans (b3.mono X6.out.size)); have R3 := Lib.hid (row_on b3 R6.out); have O3 := Lib.hid (O6.out.below b3); have D3 := Lib.hid (D6.out.below b3); have T3 := Lib.hid (row_on b3 T6.out); have ty0 := cell_row (j := 0) T3.out rfl; have ry0 := cell_row (j := 0) R3.out rfl; have ty1 := cell_row (j := 1) T3.out rfl; have ry1 := cell_row (j := 1) R3.out rfl; have ty2 := cell_row (j := 2) T3.out rfl; have ry2 := cell_row (j := 2) R3.out rfl; have ty3 := cell_row (j := 3) T3.out rfl; have ry3 := cell_row (j := 3) R3.out rfl; have ty4 := cell_row (j := 4) T3.out rfl; have ry4 := cell_row (j := 4) R3.out rfl; have ty5 := cell_row (j := 5) T3.out rfl; have ry5 := cell_row (j := 5) R3.out rfl; clear b3) | (go_at_call 19; clear ty0 ry0 ty1 ry1 ty2 ry2 ty3 ry3 ty4 ry4 ty5 ry5; refine (SAM.out _ _ D3.out.reads (HRB.out _ X3.out)).mono ?_; rintro e w4 ⟨rfl, b4⟩; have X4 := Lib.hid (X3.out.trans (b4.mono X3.out.size)); have R4 := Lib.hid (row_on b4 R3.out); have O4 := Lib.hid (O3.out.below b4); clear b4) | fail)
  have hk0 : (0 : Int) ≤ (kN : Int) := by omega
  have hk1 : (kN : Int) ≤ (c1 : Int) := by omega
  have hk2 : kN ≤ c1 := by omega
  have hk3 : kN ≤ 1026 := by omega
  obtain ⟨gg, hgg⟩ : ∃ g, parseR 5 (bb.take kN) = g := ⟨_, rfl⟩
  have HG := Lib.hid (HGE.out kN hkl)
  have HCT := Lib.hid (fun a v (hv : RB a v (bb.take kN)) => CUT.out a v kN hv)
  rw [hgg] at HG HCT
  obtain ⟨xx, hxx⟩ : ∃ x, gg.getD zr = x := ⟨_, rfl⟩
  obtain ⟨yb, hyb⟩ : ∃ b, gg.isSome = b := ⟨_, rfl⟩
  rw [hyb] at HG
  simp only [PA, hxx, hyb, rv, rcells] at HCT
  clear hgg hxx hyb
  obtain ⟨hh2, hhh⟩ : ∃ g, parseR 5 (bb ++ [0]) = g := ⟨_, rfl⟩
  rw [hhh] at HMO MOR
  obtain ⟨zx, hzx⟩ : ∃ x, hh2.getD zr = x := ⟨_, rfl⟩
  obtain ⟨zb, hzb⟩ : ∃ b, hh2.isSome = b := ⟨_, rfl⟩
  rw [hzb] at HMO
  simp only [PA, hzx, hzb, rv, rcells] at MOR
  clear hhh hzx hzb
  by_cases hkk : 2 ≤ kN
  · obtain rfl : yb = true := HG.out.2 ⟨by first | rfl | trivial, by first | rfl | trivial, hkk⟩
    obtain rfl : zb = false := by cases zb with | false => rfl | true => exact absurd (HMO.out.1 rfl).2.2 (by rw [HLN.out]; decide)
    have hk5 : (2 : Int) ≤ (kN : Int) := by omega
    go_upto_region 21 with (first | (go_at_call 21; (with_reducible refine (I4.out _).mono ?_); rintro e wx ⟨rfl, rfl⟩) | fail)
    go_upto_region 22 with (first | (go_at_call 18; refine (HCT.out _ _ (RB.take (c := c1) (by rw [HBL.out]; exact O4.out.reads) (by rw [HBL.out]; exact hk3) rfl)).mono ?_; rintro e w5 ⟨D5, rfl, d5, _, b5⟩; obtain ⟨A5, n5, c5, rfl⟩ : ∃ A n c, D5 = .slice A n c := (by obtain ⟨A, c, e, _⟩ := own_slice d5; exact ⟨_, _, _, e⟩); have X5 := Lib.hid (X4.out.trans (b5.mono X4.out.size)); have R55 := Lib.hid (row_on b5 R4.out); have O5 := Lib.hid (O4.out.below b5); clear d5 b5) | fail)
    have ba5 := (Below.refl w5.heap.size w5).alloc (Nat.le_refl _) (.cells #[.int .i64 xx.code, .int .i64 xx.obj, .int .u64 xx.hi, .int .u64 xx.lo, .slice A5 n5 c5, .int .i64 xx.nu] 45)
    refine wp_any (fun W => Below w5.heap.size w5 W) ba5 (fun W7 hI7 => ?_)
    have X7 := Lib.hid (X5.out.trans (hI7.mono X5.out.size))
    have R7 := Lib.hid (row_on hI7 R55.out)
    have O7 := Lib.hid (O5.out.below hI7)
    clear hI7 ba5
    have yr0 := cell_row (j := 0) R7.out rfl
    go_upto_region 23 with fail
    have BE := Lib.hid ((Below.refl W7.heap.size W7).alloc (Nat.le_refl _) (.cells #[] 5))
    go_upto_region 24 with (first | (at_builtin; refine list_app2 rfl (.tmp 123) (.tmp 124) 27 rfl 5 0 _ 1 1 Try.underlying27 info5 rfl (by decide) (by decide) (.slice (some ⟨W7.heap.size, 0, none⟩) 0 0) 0 [] rfl (made_row (row_new rfl)) (some ⟨g1, p1, none⟩) 1026 c1 (bb.map byteC) rfl (by rw [List.length_map, HBL.out, Nat.mul_one]) ((O7.out.below BE.out).reads.holds.2) one8 (by have := HS5.out; omega) (Nat.zero_le _) ?_; intro v9 w9 hw1 hw2; obtain ⟨o9, b9, f9⟩ := app_r2 (w0 := W7) (zs := []) (ys := bb) HBL.out BE.out (fun b hb => Nat.le_of_eq (by simpa [Value.ownBlock] using hb)) hw1 hw2; have O9 := Lib.hid o9; have B9 := Lib.hid b9; have F9 := Lib.hid f9; clear hw1 hw2 o9 b9 f9) | (at_builtin; refine list_app2 rfl (.tmp 125) (.tmp 126) 27 rfl 5 0 _ 1 1 Try.underlying27 info5 rfl (by decide) (by decide) v9 ([] ++ bb).length _ rfl (OB.owns2 O9.out ((Below.refl _ _).alloc (Nat.le_refl _) _)) (some ⟨w9.heap.size, 0, none⟩) 1 1 [.int .u8 0] rfl rfl (holds_new _ _ _ _ _ rfl) (by simp [Value.oneCell']) (by have := HS5.out; have := HBL.out; rw [List.nil_append]; omega) (Nat.zero_le _) ?_; intro v10 w10 hw1 hw2; obtain ⟨o10, b10, f10⟩ := app_r2 (w0 := W7) (zs := [] ++ bb) (ys := [0]) (n := 1) rfl (B9.out.trans (((Below.refl _ w9).alloc (Nat.le_refl _) _).mono B9.out.size)) F9.out hw1 hw2; rw [List.nil_append] at o10; have O10 := Lib.hid o10; have B10 := Lib.hid b10; clear hw1 hw2 o10 b10 f10) | (go_at_call 18; refine (MOR.out _ _ O10.out).mono ?_; rintro e w11 ⟨D11, rfl, d11, _, b11⟩; obtain ⟨A11, n11, c11, rfl⟩ : ∃ A n c, D11 = .slice A n c := (by obtain ⟨A, c, e, _⟩ := own_slice d11; exact ⟨_, _, _, e⟩); have B11 := Lib.hid (B10.out.trans (b11.mono B10.out.size)); clear d11 b11) | fail)
    have ba11 := (Below.refl w11.heap.size w11).alloc (Nat.le_refl _) (.cells #[.int .i64 zx.code, .int .i64 zx.obj, .int .u64 zx.hi, .int .u64 zx.lo, .slice A11 n11 c11, .int .i64 zx.nu] 45)
    refine wp_any (fun W => Below w11.heap.size w11 W) ba11 (fun W8 hI8 => ?_)
    have B78 := B11.out.trans (hI8.mono B11.out.size)
    have X8 := Lib.hid (X7.out.trans (B78.mono X7.out.size))
    have R8 := Lib.hid (row_on B78 R7.out)
    clear hI8 ba11 B78 yr0
    have yr0 := cell_row (j := 0) R8.out rfl
    have yr4 := cell_row (j := 4) R8.out rfl
    have yr5 := cell_row (j := 5) R8.out rfl
    have zr0 := free_row (j := 0) R8.out
    have zr5 := free_row (j := 5) R8.out
    go_upto_region 28 with fail
    have K9 : Kept (fun b => b = w.heap.size + 1) W8 ((W8.setCell ⟨w.heap.size + 1, 0, none⟩ (.int .i64 7)).setCell ⟨w.heap.size + 1, 5, none⟩ (.int .i64 1)) := ((Kept.refl (fun b => b = w.heap.size + 1) W8).setCell (p := ⟨w.heap.size + 1, 0, none⟩) (.inl rfl) _).setCell (p := ⟨w.heap.size + 1, 5, none⟩) (.inl rfl) _
    have R9 := heap_setCell_same _ (w.heap.size + 1) 5 _ _ (.int .i64 1) (heap_setCell_same _ (w.heap.size + 1) 0 _ _ (.int .i64 7) R8.out)
    refine wp_any (fun W => Below w.heap.size w W ∧ W.heap[w.heap.size + 1]? = some (.cells #[.int .i64 7, .int .i64 0, .int .u64 0, .int .u64 0, .slice Ad 1024 cd, .int .i64 1] 45)) ⟨X8.out.trans (K9.below (B := w.heap.size) (fun x hx => by have h3 : x = w.heap.size + 1 := hx; omega) X8.out.size), R9⟩ (fun W9 hI9 => ?_)
    have X9 := Lib.hid hI9.1
    have R99 := Lib.hid hI9.2
    clear hI9 K9 R9 yr0 yr4 yr5 zr0 zr5
    go_wp2_with (first | (refine wpList_load_row rfl 45 (.tmp 7) rfl (w.heap.size + 1) 45 #[.int .i64 7, .int .i64 0, .int .u64 0, .int .u64 0, .slice Ad 1024 cd, .int .i64 1] (0, 0) _ rfl R99.out Try.underlying45 rfl info45 ?_) | (go_at_call 15; (with_reducible refine (N7.out _ X9.out).mono ?_); rintro e w12 ⟨rfl, b12⟩; have X12 := Lib.hid (X9.out.trans (b12.mono X9.out.size)); clear b12) | (go_at_call 15; (with_reducible refine (N0.out _).mono ?_); rintro e w13 ⟨rfl, b13⟩; have X13 := Lib.hid (X12.out.trans (b13.mono X12.out.size)); clear b13) | (go_at_call 15; (with_reducible refine (N11.out _).mono ?_); rintro e w14 ⟨rfl, b14⟩; have X14 := Lib.hid (X13.out.trans (b14.mono X13.out.size)); clear b14) | fail)
    go_ret
    exact ⟨rfl, X14.out⟩
  · obtain rfl : yb = false := by cases yb with | false => rfl | true => exact absurd (HG.out.1 rfl).2.2 hkk
    obtain rfl : zb = false := by cases zb with | false => rfl | true => exact absurd (HMO.out.1 rfl).2.2 (by rw [HLN.out]; decide)
    have hk5 : ¬ ((2 : Int) ≤ (kN : Int)) := by omega
    go_upto_region 21 with (first | (go_at_call 21; (with_reducible refine (I4.out _).mono ?_); rintro e wx ⟨rfl, rfl⟩) | fail)
    go_upto_region 22 with (first | (go_at_call 18; refine (HCT.out _ _ (RB.take (c := c1) (by rw [HBL.out]; exact O4.out.reads) (by rw [HBL.out]; exact hk3) rfl)).mono ?_; rintro e w5 ⟨D5, rfl, d5, _, b5⟩; obtain ⟨A5, n5, c5, rfl⟩ : ∃ A n c, D5 = .slice A n c := (by obtain ⟨A, c, e, _⟩ := own_slice d5; exact ⟨_, _, _, e⟩); have X5 := Lib.hid (X4.out.trans (b5.mono X4.out.size)); have R55 := Lib.hid (row_on b5 R4.out); have O5 := Lib.hid (O4.out.below b5); clear d5 b5) | fail)
    have ba5 := (Below.refl w5.heap.size w5).alloc (Nat.le_refl _) (.cells #[.int .i64 xx.code, .int .i64 xx.obj, .int .u64 xx.hi, .int .u64 xx.lo, .slice A5 n5 c5, .int .i64 xx.nu] 45)
    refine wp_any (fun W => Below w5.heap.size w5 W) ba5 (fun W7 hI7 => ?_)
    have X7 := Lib.hid (X5.out.trans (hI7.mono X5.out.size))
    have R7 := Lib.hid (row_on hI7 R55.out)
    have O7 := Lib.hid (O5.out.below hI7)
    clear hI7 ba5
    have yr0 := cell_row (j := 0) R7.out rfl
    go_upto_region 23 with fail
    have BE := Lib.hid ((Below.refl W7.heap.size W7).alloc (Nat.le_refl _) (.cells #[] 5))
    go_upto_region 24 with (first | (at_builtin; refine list_app2 rfl (.tmp 123) (.tmp 124) 27 rfl 5 0 _ 1 1 Try.underlying27 info5 rfl (by decide) (by decide) (.slice (some ⟨W7.heap.size, 0, none⟩) 0 0) 0 [] rfl (made_row (row_new rfl)) (some ⟨g1, p1, none⟩) 1026 c1 (bb.map byteC) rfl (by rw [List.length_map, HBL.out, Nat.mul_one]) ((O7.out.below BE.out).reads.holds.2) one8 (by have := HS5.out; omega) (Nat.zero_le _) ?_; intro v9 w9 hw1 hw2; obtain ⟨o9, b9, f9⟩ := app_r2 (w0 := W7) (zs := []) (ys := bb) HBL.out BE.out (fun b hb => Nat.le_of_eq (by simpa [Value.ownBlock] using hb)) hw1 hw2; have O9 := Lib.hid o9; have B9 := Lib.hid b9; have F9 := Lib.hid f9; clear hw1 hw2 o9 b9 f9) | (at_builtin; refine list_app2 rfl (.tmp 125) (.tmp 126) 27 rfl 5 0 _ 1 1 Try.underlying27 info5 rfl (by decide) (by decide) v9 ([] ++ bb).length _ rfl (OB.owns2 O9.out ((Below.refl _ _).alloc (Nat.le_refl _) _)) (some ⟨w9.heap.size, 0, none⟩) 1 1 [.int .u8 0] rfl rfl (holds_new _ _ _ _ _ rfl) (by simp [Value.oneCell']) (by have := HS5.out; have := HBL.out; rw [List.nil_append]; omega) (Nat.zero_le _) ?_; intro v10 w10 hw1 hw2; obtain ⟨o10, b10, f10⟩ := app_r2 (w0 := W7) (zs := [] ++ bb) (ys := [0]) (n := 1) rfl (B9.out.trans (((Below.refl _ w9).alloc (Nat.le_refl _) _).mono B9.out.size)) F9.out hw1 hw2; rw [List.nil_append] at o10; have O10 := Lib.hid o10; have B10 := Lib.hid b10; clear hw1 hw2 o10 b10 f10) | (go_at_call 18; refine (MOR.out _ _ O10.out).mono ?_; rintro e w11 ⟨D11, rfl, d11, _, b11⟩; obtain ⟨A11, n11, c11, rfl⟩ : ∃ A n c, D11 = .slice A n c := (by obtain ⟨A, c, e, _⟩ := own_slice d11; exact ⟨_, _, _, e⟩); have B11 := Lib.hid (B10.out.trans (b11.mono B10.out.size)); clear d11 b11) | fail)
    have ba11 := (Below.refl w11.heap.size w11).alloc (Nat.le_refl _) (.cells #[.int .i64 zx.code, .int .i64 zx.obj, .int .u64 zx.hi, .int .u64 zx.lo, .slice A11 n11 c11, .int .i64 zx.nu] 45)
    refine wp_any (fun W => Below w11.heap.size w11 W) ba11 (fun W8 hI8 => ?_)
    have B78 := B11.out.trans (hI8.mono B11.out.size)
    have X8 := Lib.hid (X7.out.trans (B78.mono X7.out.size))
    have R8 := Lib.hid (row_on B78 R7.out)
    clear hI8 ba11 B78 yr0
    have yr0 := cell_row (j := 0) R8.out rfl
    have yr4 := cell_row (j := 4) R8.out rfl
    have yr5 := cell_row (j := 5) R8.out rfl
    have zr0 := free_row (j := 0) R8.out
    have zr5 := free_row (j := 5) R8.out
    go_upto_region 28 with fail
    have K9 : Kept (fun b => b = w.heap.size + 1) W8 ((W8.setCell ⟨w.heap.size + 1, 0, none⟩ (.int .i64 7)).setCell ⟨w.heap.size + 1, 5, none⟩ (.int .i64 1)) := ((Kept.refl (fun b => b = w.heap.size + 1) W8).setCell (p := ⟨w.heap.size + 1, 0, none⟩) (.inl rfl) _).setCell (p := ⟨w.heap.size + 1, 5, none⟩) (.inl rfl) _
    have R9 := heap_setCell_same _ (w.heap.size + 1) 5 _ _ (.int .i64 1) (heap_setCell_same _ (w.heap.size + 1) 0 _ _ (.int .i64 7) R8.out)
    refine wp_any (fun W => Below w.heap.size w W ∧ W.heap[w.heap.size + 1]? = some (.cells #[.int .i64 7, .int .i64 0, .int .u64 0, .int .u64 0, .slice Ad 1024 cd, .int .i64 1] 45)) ⟨X8.out.trans (K9.below (B := w.heap.size) (fun x hx => by have h3 : x = w.heap.size + 1 := hx; omega) X8.out.size), R9⟩ (fun W9 hI9 => ?_)
    have X9 := Lib.hid hI9.1
    have R99 := Lib.hid hI9.2
    clear hI9 K9 R9 yr0 yr4 yr5 zr0 zr5
    go_wp2_with (first | (refine wpList_load_row rfl 45 (.tmp 7) rfl (w.heap.size + 1) 45 #[.int .i64 7, .int .i64 0, .int .u64 0, .int .u64 0, .slice Ad 1024 cd, .int .i64 1] (0, 0) _ rfl R99.out Try.underlying45 rfl info45 ?_) | (go_at_call 15; (with_reducible refine (N7.out _ X9.out).mono ?_); rintro e w12 ⟨rfl, b12⟩; have X12 := Lib.hid (X9.out.trans (b12.mono X9.out.size)); clear b12) | (go_at_call 15; (with_reducible refine (N0.out _).mono ?_); rintro e w13 ⟨rfl, b13⟩; have X13 := Lib.hid (X12.out.trans (b13.mono X12.out.size)); clear b13) | (go_at_call 15; (with_reducible refine (N11.out _).mono ?_); rintro e w14 ⟨rfl, b14⟩; have X14 := Lib.hid (X13.out.trans (b14.mono X13.out.size)); clear b14) | fail)
    go_ret
    exact ⟨rfl, X14.out⟩
set_option maxHeartbeats 4000000 in
set_option maxRecDepth 100000 in
theorem replies_cc (w : World) (op m code cm obj hi lo nu cut : Int) (da : List Int) (Ad : Option Addr) (nd cd : Nat) (hm : op % 10 = m) (hcm : code % 65536 = cm) (ho : -9223372036854775808 ≤ op ∧ op ≤ 9223372036854775807) (hcd : -9223372036854775808 ≤ code ∧ code ≤ 9223372036854775807) (hob : -9223372036854775808 ≤ obj ∧ obj ≤ 9223372036854775807) (hnu : -9223372036854775808 ≤ nu ∧ nu ≤ 9223372036854775807) (hct : -9223372036854775808 ≤ cut ∧ cut ≤ 9223372036854775807) (hh : U64 hi) (hl : U64 lo) (hD : RB w (.slice Ad nd cd) da) (HB : Bytes da) (hz : cm = 0) (h8 : m = 4) (hlt : 1024 < nd) :
    Calls Try.prog 7 #[.int .i64 op, .agg #[.int .i64 code, .int .i64 obj, .int .u64 hi, .int .u64 lo, .slice Ad nd cd, .int .i64 nu], .int .i64 cut] w fun e w' => e = .returned (.bool true) ∧ Below w.heap.size w w' := by
  have hm0 : 0 ≤ m ∧ m < 10 := by omega
  have hc0 : 0 ≤ cm ∧ cm < 65536 := by omega
  have I1 := Lib.hid (fun a => by have := into_any a op 10 ho.1 ho.2 (by decide) (by decide); rwa [hm] at this)
  have I2 := Lib.hid (fun a => by have := into_any a code 65536 hcd.1 hcd.2 (by decide) (by decide); rwa [hcm] at this)
  have hw1 : IntKind.i64.wrap (1 + m) = 1 + m := by rw [IntKind.wrap_i64]; omega
  subst hz h8
  have hlen : da.length = nd := by obtain ⟨A, c, e, _⟩ := hD; cases e; rfl
  have hcd2 : nd ≤ cd := by obtain ⟨A, c, e, h1, _⟩ := hD; cases e; exact h1
  have hq1 : ¬ ((nd : Int) ≤ 1024) := by omega
  have hq3 : (1024 : Int) ≤ (nd : Int) := by omega
  have hq4 : (1024 : Int) < (nd : Int) := by omega
  have hq2 : (1024 : Int) ≤ (cd : Int) := by omega
  have hq5 : 1024 ≤ cd := by omega
  have HLN : Hid (((da.take 1024)).length = 1024) := Lib.hid (by rw [List.length_take]; omega)
  have HTO : Hid (toldR 5 (⟨0, 0, 0, 0, (da.take 1024), 0⟩ : Rp)) := Lib.hid (by refine ⟨⟨⟨by first | decide | (dsimp only; decide) | (dsimp only; omega), by first | decide | (dsimp only; decide) | (dsimp only; omega)⟩, ⟨by first | decide | (dsimp only; decide) | (dsimp only; omega), by first | decide | (dsimp only; decide) | (dsimp only; omega)⟩, by first | decide | (dsimp only; decide) | (dsimp only; omega)⟩, ?_, ⟨by first | decide | (dsimp only; decide) | (dsimp only; omega), by first | decide | (dsimp only; decide) | (dsimp only; omega)⟩, ⟨by first | decide | (dsimp only; decide) | (dsimp only; omega), by first | decide | (dsimp only; decide) | (dsimp only; omega)⟩, by show ((da.take 1024)).length ≤ 1024; rw [HLN.out]; omega⟩; unfold toldB untR; rw [if_neg (by first | decide | (dsimp only; decide) | (dsimp only; omega)), if_neg (by first | decide | (dsimp only; decide) | (dsimp only; omega)), if_pos rfl]; exact ⟨⟨rfl, rfl, rfl⟩, rfl, rfl⟩)
  have HRB : Hid (∀ a, Below w.heap.size w a → RB a (.slice Ad 1024 cd) (da.take 1024)) := Lib.hid (fun a ha => (RB.take (k := 1024) (c := cd) (by rw [hlen]; exact hD) (by omega) rfl).below ha)
  have HUO : Hid (U64 0 ∧ U64 0) := Lib.hid ⟨by first | exact u64_0 | exact hh, by first | exact u64_0 | exact hl⟩
  have HDA : Hid (Bytes (da.take 1024)) := Lib.hid (by first | exact HB | exact (fun z hz => by cases hz) | exact (fun z hz => HB z (List.mem_of_mem_take hz)))
  obtain ⟨bb, hbb⟩ : ∃ b, encR 5 (⟨0, 0, 0, 0, (da.take 1024), 0⟩ : Rp) = b := ⟨_, rfl⟩
  have HBL : Hid (bb.length = 1026) := Lib.hid (by rw [← hbb, encR_len]; rw [if_neg (by first | decide | (dsimp only; decide) | (dsimp only; omega)), if_neg (by first | decide | (dsimp only; decide) | (dsimp only; omega)), if_pos rfl]; show 2 + ((da.take 1024)).length = 1026; rw [HLN.out])
  have HBY : Hid (Bytes bb) := Lib.hid (by rw [← hbb]; exact encR_bytes HDA.out)
  have HPS : Hid (parseR 5 bb = some (⟨0, 0, 0, 0, (da.take 1024), 0⟩ : Rp)) := Lib.hid (parseR_iff _ _ _ HUO.out.1 HUO.out.2 HTO.out hbb)
  have HGE : Hid (∀ k, k < 1026 → ((parseR 5 (bb.take k)).isSome = true ↔ ((5 : Int) = 5 ∧ (0 : Int) = 0 ∧ 2 ≤ k))) := Lib.hid (fun k hk => by have := cutR HTO.out k (by rw [hbb, HBL.out]; exact hk); rw [hbb] at this; exact this)
  have HMO : Hid ((parseR 5 (bb ++ [0])).isSome = true ↔ ((5 : Int) = 5 ∧ (0 : Int) = 0 ∧ ((da.take 1024) : List Int).length < 1024)) := Lib.hid (by have := moreR HTO.out; rw [hbb] at this; exact this)
  have HS5 : Hid (1026 ≤ 1026) := Lib.hid (by decide)
  have ANS := Lib.hid (fun a (ha : Below w.heap.size w a) => by
    have := answer_any a 5 (⟨0, 0, 0, 0, (da.take 1024), 0⟩ : Rp) (.slice Ad 1024 cd) (HRB.out a ha) HUO.out.1 HUO.out.2
    rw [show ansE 5 (⟨0, 0, 0, 0, (da.take 1024), 0⟩ : Rp) = 0 from if_pos HTO.out, show ansO 5 (⟨0, 0, 0, 0, (da.take 1024), 0⟩ : Rp) = bb from (if_pos HTO.out).trans hbb] at this
    exact this)
  have PAR := Lib.hid (fun a v (hv : OB a v bb) => by
    have := parseA_any a 5 v bb (by rw [HBL.out]; have := HS5.out; omega) HBY.out hv.reads
    rw [HPS.out] at this
    exact this)
  have CUT := Lib.hid (fun a v k (hv : RB a v (bb.take k)) => parseA_any a 5 v (bb.take k) (by rw [List.length_take, HBL.out]; have := HS5.out; omega) (fun z hz => HBY.out z (List.mem_of_mem_take hz)) hv)
  have MOR := Lib.hid (fun a v (hv : OB a v (bb ++ [0])) => parseA_any a 5 v (bb ++ [0]) (by rw [List.length_append, HBL.out, List.length_singleton]; have := HS5.out; omega) (app_bytes HBY.out (fun z hz => by obtain rfl := List.mem_singleton.1 hz; omega)) hv.reads)
  have N7 := Lib.hid (fun a (ha : Below w.heap.size w a) => answer_no a 5 (⟨7, 0, 0, 0, (da.take 1024), 1⟩ : Rp) (.slice Ad 1024 cd) (HRB.out a ha).sl (fun h => by have h1 := h.2.1.2.2; unfold untR at h1; rw [if_pos (by first | decide | (dsimp only; decide) | (dsimp only; omega))] at h1; exact absurd h1 (by first | decide | (dsimp only; decide) | (dsimp only; omega))))
  have N0 := Lib.hid (fun a => answer_no a 0 ⟨0, 0, 0, 0, [], 0⟩ (.slice none 0 0) ⟨_, _, rfl⟩ (by decide))
  have N11 := Lib.hid (fun a => answer_no a 11 ⟨7, 0, 0, 0, [], 0⟩ (.slice none 0 0) ⟨_, _, rfl⟩ (by decide))
  have SAM := Lib.hid (fun a D2 (h1 : RB a D2 (da.take 1024)) (h2 : RB a (.slice Ad 1024 cd) (da.take 1024)) => by
    have := sameR_any a (⟨0, 0, 0, 0, (da.take 1024), 0⟩ : Rp) (⟨0, 0, 0, 0, (da.take 1024), 0⟩ : Rp) D2 (.slice Ad 1024 cd) h1 h2 HDA.out HDA.out
    rwa [decide_eq_true rfl] at this)
  obtain ⟨kN, hkN⟩ : ∃ k : Nat, cut % 1026 = (k : Int) := ⟨(cut % 1026).toNat, by have := Int.emod_nonneg cut (b := 1026) (by decide); omega⟩
  have hkl : kN < 1026 := by have := Int.emod_lt_of_pos cut (b := 1026) (by decide); omega
  have I4 := Lib.hid (fun a => by have := into_any a cut 1026 hct.1 hct.2 (by decide) (by have := HS5.out; omega); rwa [hkN] at this)
  simp only [PA, rv, rcells, Option.getD_some, Option.isSome_some, if_true] at ANS PAR N7 N0 N11 SAM
  clear hm hcm ho hcd hob hnu hct hh hl hD HB hbb hkN HTO hc0 hlen hcd2 hlt
  go_enter Try.func7, Try.ntmps7
  go_upto_region 4 with (first | (go_at_call 21; (with_reducible refine (I1.out _).mono ?_); rintro e wx ⟨rfl, rfl⟩) | (go_at_call 21; (with_reducible refine (I2.out _).mono ?_); rintro e wx ⟨rfl, rfl⟩) | fail)
  go_upto_region 16 with fail
  refine wp_any (fun W => Below w.heap.size w W ∧ W.heap[w.heap.size + 1]? = some (.cells #[.int .i64 0, .int .i64 0, .int .u64 0, .int .u64 0, .slice Ad 1024 cd, .int .i64 0] 45)) ⟨((Below.refl _ w).alloc (Nat.le_refl _) _).alloc (by simp) _, row_new (by simp)⟩ (fun W5 hI5 => ?_)
  have B5 := Lib.hid hI5.1
  have R5 := Lib.hid hI5.2
  clear hI5
  go_upto_region 17 with (first | (refine wpList_load_row rfl 45 (.tmp 7) rfl (w.heap.size + 1) 45 #[.int .i64 0, .int .i64 0, .int .u64 0, .int .u64 0, .slice Ad 1024 cd, .int .i64 0] (0, 0) _ rfl R5.out Try.underlying45 rfl info45 ?_) | (go_at_call 15; refine (ANS.out _ B5.out).mono ?_; rintro e w1 ⟨v1, rfl, o1, b1, f1⟩; obtain ⟨A1, c1, he, hec⟩ := own_slice o1; rw [HBL.out] at he hec; subst he; have O1 := Lib.hid o1; have B1 := Lib.hid b1; have R1 := Lib.hid (row_on b1 R5.out); have X1 := Lib.hid (B5.out.trans (b1.mono B5.out.size)); clear o1 b1 f1) | fail)
  obtain ⟨g1, p1, rfl⟩ : ∃ g o, A1 = some ⟨g, o, none⟩ := by
    obtain ⟨A, c, e, _, _, h⟩ := O1.out.reads
    obtain ⟨g, o, e2, _⟩ := h (by rw [HBL.out]; omega)
    injection e with e1
    exact ⟨g, o, e1.trans e2⟩
  go_upto_region 18 with (first | (go_at_call 18; refine (PAR.out _ _ O1.out).mono ?_; rintro e w2 ⟨D2, rfl, d2, _, b2⟩; obtain ⟨A2, n2, c2, rfl⟩ : ∃ A n c, D2 = .slice A n c := (by obtain ⟨A, c, e, _⟩ := own_slice d2; exact ⟨_, _, _, e⟩); have DD2 := Lib.hid d2; have B2 := Lib.hid b2; have R2 := Lib.hid (row_on b2 R1.out); have X2 := Lib.hid (X1.out.trans (b2.mono X1.out.size)); have O2 := Lib.hid (O1.out.below b2); clear d2 b2) | fail)
  have ba := (Below.refl w2.heap.size w2).alloc (Nat.le_refl _) (.cells #[.int .i64 0, .int .i64 0, .int .u64 0, .int .u64 0, .slice A2 n2 c2, .int .i64 0] 45)
  refine wp_any (fun W => Below w2.heap.size w2 W ∧ W.heap[w2.heap.size]? = some (.cells #[.int .i64 0, .int .i64 0, .int .u64 0, .int .u64 0, .slice A2 n2 c2, .int .i64 0] 45)) ⟨ba, row_new rfl⟩ (fun W6 hI6 => ?_)
  have X6 := Lib.hid (X2.out.trans (hI6.1.mono X2.out.size))
  have R6 := Lib.hid (row_on hI6.1 R2.out)
  have O6 := Lib.hid (O2.out.below hI6.1)
  have D6 := Lib.hid (DD2.out.below hI6.1)
  have T6 := Lib.hid hI6.2
  clear hI6 ba
  go_upto_region 20 with (first | (go_at_call 11; refine (known_any _).mono ?_; rintro e w3 ⟨rfl, b3⟩; have X3 := Lib.hid (X6.out.trans (b3.mono X6.out.size)); have R3 := Lib.hid (row_on b3 R6.out); have O3 := Lib.hid (O6.out.below b3); have D3 := Lib.hid (D6.out.below b3); have T3 := Lib.hid (row_on b3 T6.out); have ty0 := cell_row (j := 0) T3.out rfl; have ry0 := cell_row (j := 0) R3.out rfl; have ty1 := cell_row (j := 1) T3.out rfl; have ry1 := cell_row (j := 1) R3.out rfl; have ty2 := cell_row (j := 2) T3.out rfl; have ry2 := cell_row (j := 2) R3.out rfl; have ty3 := cell_row (j := 3) T3.out rfl; have ry3 := cell_row (j := 3) R3.out rfl; have ty4 := cell_row (j := 4) T3.out rfl; have ry4 := cell_row (j := 4) R3.out rfl; have ty5 := cell_row (j := 5) T3.out rfl; have ry5 := cell_row (j := 5) R3.out rfl; clear b3) | (go_at_call 19; clear ty0 ry0 ty1 ry1 ty2 ry2 ty3 ry3 ty4 ry4 ty5 ry5; refine (SAM.out _ _ D3.out.reads (HRB.out _ X3.out)).mono ?_; rintro e w4 ⟨rfl, b4⟩; have X4 := Lib.hid (X3.out.trans (b4.mono X3.out.size)); have R4 := Lib.hid (row_on b4 R3.out); have O4 := Lib.hid (O3.out.below b4); clear b4) | fail)
  have hk0 : (0 : Int) ≤ (kN : Int) := by omega
  have hk1 : (kN : Int) ≤ (c1 : Int) := by omega
  have hk2 : kN ≤ c1 := by omega
  have hk3 : kN ≤ 1026 := by omega
  obtain ⟨gg, hgg⟩ : ∃ g, parseR 5 (bb.take kN) = g := ⟨_, rfl⟩
  have HG := Lib.hid (HGE.out kN hkl)
  have HCT := Lib.hid (fun a v (hv : RB a v (bb.take kN)) => CUT.out a v kN hv)
  rw [hgg] at HG HCT
  obtain ⟨xx, hxx⟩ : ∃ x, gg.getD zr = x := ⟨_, rfl⟩
  obtain ⟨yb, hyb⟩ : ∃ b, gg.isSome = b := ⟨_, rfl⟩
  rw [hyb] at HG
  simp only [PA, hxx, hyb, rv, rcells] at HCT
  clear hgg hxx hyb
  obtain ⟨hh2, hhh⟩ : ∃ g, parseR 5 (bb ++ [0]) = g := ⟨_, rfl⟩
  rw [hhh] at HMO MOR
  obtain ⟨zx, hzx⟩ : ∃ x, hh2.getD zr = x := ⟨_, rfl⟩
  obtain ⟨zb, hzb⟩ : ∃ b, hh2.isSome = b := ⟨_, rfl⟩
  rw [hzb] at HMO
  simp only [PA, hzx, hzb, rv, rcells] at MOR
  clear hhh hzx hzb
  by_cases hkk : 2 ≤ kN
  · obtain rfl : yb = true := HG.out.2 ⟨by first | rfl | trivial, by first | rfl | trivial, hkk⟩
    obtain rfl : zb = false := by cases zb with | false => rfl | true => exact absurd (HMO.out.1 rfl).2.2 (by rw [HLN.out]; decide)
    have hk5 : (2 : Int) ≤ (kN : Int) := by omega
    go_upto_region 21 with (first | (go_at_call 21; (with_reducible refine (I4.out _).mono ?_); rintro e wx ⟨rfl, rfl⟩) | fail)
    go_upto_region 22 with (first | (go_at_call 18; refine (HCT.out _ _ (RB.take (c := c1) (by rw [HBL.out]; exact O4.out.reads) (by rw [HBL.out]; exact hk3) rfl)).mono ?_; rintro e w5 ⟨D5, rfl, d5, _, b5⟩; obtain ⟨A5, n5, c5, rfl⟩ : ∃ A n c, D5 = .slice A n c := (by obtain ⟨A, c, e, _⟩ := own_slice d5; exact ⟨_, _, _, e⟩); have X5 := Lib.hid (X4.out.trans (b5.mono X4.out.size)); have R55 := Lib.hid (row_on b5 R4.out); have O5 := Lib.hid (O4.out.below b5); clear d5 b5) | fail)
    have ba5 := (Below.refl w5.heap.size w5).alloc (Nat.le_refl _) (.cells #[.int .i64 xx.code, .int .i64 xx.obj, .int .u64 xx.hi, .int .u64 xx.lo, .slice A5 n5 c5, .int .i64 xx.nu] 45)
    refine wp_any (fun W => Below w5.heap.size w5 W) ba5 (fun W7 hI7 => ?_)
    have X7 := Lib.hid (X5.out.trans (hI7.mono X5.out.size))
    have R7 := Lib.hid (row_on hI7 R55.out)
    have O7 := Lib.hid (O5.out.below hI7)
    clear hI7 ba5
    have yr0 := cell_row (j := 0) R7.out rfl
    go_upto_region 23 with fail
    have BE := Lib.hid ((Below.refl W7.heap.size W7).alloc (Nat.le_refl _) (.cells #[] 5))
    go_upto_region 24 with (first | (at_builtin; refine list_app2 rfl (.tmp 123) (.tmp 124) 27 rfl 5 0 _ 1 1 Try.underlying27 info5 rfl (by decide) (by decide) (.slice (some ⟨W7.heap.size, 0, none⟩) 0 0) 0 [] rfl (made_row (row_new rfl)) (some ⟨g1, p1, none⟩) 1026 c1 (bb.map byteC) rfl (by rw [List.length_map, HBL.out, Nat.mul_one]) ((O7.out.below BE.out).reads.holds.2) one8 (by have := HS5.out; omega) (Nat.zero_le _) ?_; intro v9 w9 hw1 hw2; obtain ⟨o9, b9, f9⟩ := app_r2 (w0 := W7) (zs := []) (ys := bb) HBL.out BE.out (fun b hb => Nat.le_of_eq (by simpa [Value.ownBlock] using hb)) hw1 hw2; have O9 := Lib.hid o9; have B9 := Lib.hid b9; have F9 := Lib.hid f9; clear hw1 hw2 o9 b9 f9) | (at_builtin; refine list_app2 rfl (.tmp 125) (.tmp 126) 27 rfl 5 0 _ 1 1 Try.underlying27 info5 rfl (by decide) (by decide) v9 ([] ++ bb).length _ rfl (OB.owns2 O9.out ((Below.refl _ _).alloc (Nat.le_refl _) _)) (some ⟨w9.heap.size, 0, none⟩) 1 1 [.int .u8 0] rfl rfl (holds_new _ _ _ _ _ rfl) (by simp [Value.oneCell']) (by have := HS5.out; have := HBL.out; rw [List.nil_append]; omega) (Nat.zero_le _) ?_; intro v10 w10 hw1 hw2; obtain ⟨o10, b10, f10⟩ := app_r2 (w0 := W7) (zs := [] ++ bb) (ys := [0]) (n := 1) rfl (B9.out.trans (((Below.refl _ w9).alloc (Nat.le_refl _) _).mono B9.out.size)) F9.out hw1 hw2; rw [List.nil_append] at o10; have O10 := Lib.hid o10; have B10 := Lib.hid b10; clear hw1 hw2 o10 b10 f10) | (go_at_call 18; refine (MOR.out _ _ O10.out).mono ?_; rintro e w11 ⟨D11, rfl, d11, _, b11⟩; obtain ⟨A11, n11, c11, rfl⟩ : ∃ A n c, D11 = .slice A n c := (by obtain ⟨A, c, e, _⟩ := own_slice d11; exact ⟨_, _, _, e⟩); have B11 := Lib.hid (B10.out.trans (b11.mono B10.out.size)); clear d11 b11) | fail)
    have ba11 := (Below.refl w11.heap.size w11).alloc (Nat.le_refl _) (.cells #[.int .i64 zx.code, .int .i64 zx.obj, .int .u64 zx.hi, .int .u64 zx.lo, .slice A11 n11 c11, .int .i64 zx.nu] 45)
    refine wp_any (fun W => Below w11.heap.size w11 W) ba11 (fun W8 hI8 => ?_)
    have B78 := B11.out.trans (hI8.mono B11.out.size)
    have X8 := Lib.hid (X7.out.trans (B78.mono X7.out.size))
    have R8 := Lib.hid (row_on B78 R7.out)
    clear hI8 ba11 B78 yr0
    have yr0 := cell_row (j := 0) R8.out rfl
    have yr4 := cell_row (j := 4) R8.out rfl
    have yr5 := cell_row (j := 5) R8.out rfl
    have zr0 := free_row (j := 0) R8.out
    have zr5 := free_row (j := 5) R8.out
    go_upto_region 28 with fail
    have K9 : Kept (fun b => b = w.heap.size + 1) W8 ((W8.setCell ⟨w.heap.size + 1, 0, none⟩ (.int .i64 7)).setCell ⟨w.heap.size + 1, 5, none⟩ (.int .i64 1)) := ((Kept.refl (fun b => b = w.heap.size + 1) W8).setCell (p := ⟨w.heap.size + 1, 0, none⟩) (.inl rfl) _).setCell (p := ⟨w.heap.size + 1, 5, none⟩) (.inl rfl) _
    have R9 := heap_setCell_same _ (w.heap.size + 1) 5 _ _ (.int .i64 1) (heap_setCell_same _ (w.heap.size + 1) 0 _ _ (.int .i64 7) R8.out)
    refine wp_any (fun W => Below w.heap.size w W ∧ W.heap[w.heap.size + 1]? = some (.cells #[.int .i64 7, .int .i64 0, .int .u64 0, .int .u64 0, .slice Ad 1024 cd, .int .i64 1] 45)) ⟨X8.out.trans (K9.below (B := w.heap.size) (fun x hx => by have h3 : x = w.heap.size + 1 := hx; omega) X8.out.size), R9⟩ (fun W9 hI9 => ?_)
    have X9 := Lib.hid hI9.1
    have R99 := Lib.hid hI9.2
    clear hI9 K9 R9 yr0 yr4 yr5 zr0 zr5
    go_wp2_with (first | (refine wpList_load_row rfl 45 (.tmp 7) rfl (w.heap.size + 1) 45 #[.int .i64 7, .int .i64 0, .int .u64 0, .int .u64 0, .slice Ad 1024 cd, .int .i64 1] (0, 0) _ rfl R99.out Try.underlying45 rfl info45 ?_) | (go_at_call 15; (with_reducible refine (N7.out _ X9.out).mono ?_); rintro e w12 ⟨rfl, b12⟩; have X12 := Lib.hid (X9.out.trans (b12.mono X9.out.size)); clear b12) | (go_at_call 15; (with_reducible refine (N0.out _).mono ?_); rintro e w13 ⟨rfl, b13⟩; have X13 := Lib.hid (X12.out.trans (b13.mono X12.out.size)); clear b13) | (go_at_call 15; (with_reducible refine (N11.out _).mono ?_); rintro e w14 ⟨rfl, b14⟩; have X14 := Lib.hid (X13.out.trans (b14.mono X13.out.size)); clear b14) | fail)
    go_ret
    exact ⟨rfl, X14.out⟩
  · obtain rfl : yb = false := by cases yb with | false => rfl | true => exact absurd (HG.out.1 rfl).2.2 hkk
    obtain rfl : zb = false := by cases zb with | false => rfl | true => exact absurd (HMO.out.1 rfl).2.2 (by rw [HLN.out]; decide)
    have hk5 : ¬ ((2 : Int) ≤ (kN : Int)) := by omega
    go_upto_region 21 with (first | (go_at_call 21; (with_reducible refine (I4.out _).mono ?_); rintro e wx ⟨rfl, rfl⟩) | fail)
    go_upto_region 22 with (first | (go_at_call 18; refine (HCT.out _ _ (RB.take (c := c1) (by rw [HBL.out]; exact O4.out.reads) (by rw [HBL.out]; exact hk3) rfl)).mono ?_; rintro e w5 ⟨D5, rfl, d5, _, b5⟩; obtain ⟨A5, n5, c5, rfl⟩ : ∃ A n c, D5 = .slice A n c := (by obtain ⟨A, c, e, _⟩ := own_slice d5; exact ⟨_, _, _, e⟩); have X5 := Lib.hid (X4.out.trans (b5.mono X4.out.size)); have R55 := Lib.hid (row_on b5 R4.out); have O5 := Lib.hid (O4.out.below b5); clear d5 b5) | fail)
    have ba5 := (Below.refl w5.heap.size w5).alloc (Nat.le_refl _) (.cells #[.int .i64 xx.code, .int .i64 xx.obj, .int .u64 xx.hi, .int .u64 xx.lo, .slice A5 n5 c5, .int .i64 xx.nu] 45)
    refine wp_any (fun W => Below w5.heap.size w5 W) ba5 (fun W7 hI7 => ?_)
    have X7 := Lib.hid (X5.out.trans (hI7.mono X5.out.size))
    have R7 := Lib.hid (row_on hI7 R55.out)
    have O7 := Lib.hid (O5.out.below hI7)
    clear hI7 ba5
    have yr0 := cell_row (j := 0) R7.out rfl
    go_upto_region 23 with fail
    have BE := Lib.hid ((Below.refl W7.heap.size W7).alloc (Nat.le_refl _) (.cells #[] 5))
    go_upto_region 24 with (first | (at_builtin; refine list_app2 rfl (.tmp 123) (.tmp 124) 27 rfl 5 0 _ 1 1 Try.underlying27 info5 rfl (by decide) (by decide) (.slice (some ⟨W7.heap.size, 0, none⟩) 0 0) 0 [] rfl (made_row (row_new rfl)) (some ⟨g1, p1, none⟩) 1026 c1 (bb.map byteC) rfl (by rw [List.length_map, HBL.out, Nat.mul_one]) ((O7.out.below BE.out).reads.holds.2) one8 (by have := HS5.out; omega) (Nat.zero_le _) ?_; intro v9 w9 hw1 hw2; obtain ⟨o9, b9, f9⟩ := app_r2 (w0 := W7) (zs := []) (ys := bb) HBL.out BE.out (fun b hb => Nat.le_of_eq (by simpa [Value.ownBlock] using hb)) hw1 hw2; have O9 := Lib.hid o9; have B9 := Lib.hid b9; have F9 := Lib.hid f9; clear hw1 hw2 o9 b9 f9) | (at_builtin; refine list_app2 rfl (.tmp 125) (.tmp 126) 27 rfl 5 0 _ 1 1 Try.underlying27 info5 rfl (by decide) (by decide) v9 ([] ++ bb).length _ rfl (OB.owns2 O9.out ((Below.refl _ _).alloc (Nat.le_refl _) _)) (some ⟨w9.heap.size, 0, none⟩) 1 1 [.int .u8 0] rfl rfl (holds_new _ _ _ _ _ rfl) (by simp [Value.oneCell']) (by have := HS5.out; have := HBL.out; rw [List.nil_append]; omega) (Nat.zero_le _) ?_; intro v10 w10 hw1 hw2; obtain ⟨o10, b10, f10⟩ := app_r2 (w0 := W7) (zs := [] ++ bb) (ys := [0]) (n := 1) rfl (B9.out.trans (((Below.refl _ w9).alloc (Nat.le_refl _) _).mono B9.out.size)) F9.out hw1 hw2; rw [List.nil_append] at o10; have O10 := Lib.hid o10; have B10 := Lib.hid b10; clear hw1 hw2 o10 b10 f10) | (go_at_call 18; refine (MOR.out _ _ O10.out).mono ?_; rintro e w11 ⟨D11, rfl, d11, _, b11⟩; obtain ⟨A11, n11, c11, rfl⟩ : ∃ A n c, D11 = .slice A n c := (by obtain ⟨A, c, e, _⟩ := own_slice d11; exact ⟨_, _, _, e⟩); have B11 := Lib.hid (B10.out.trans (b11.mono B10.out.size)); clear d11 b11) | fail)
    have ba11 := (Below.refl w11.heap.size w11).alloc (Nat.le_refl _) (.cells #[.int .i64 zx.code, .int .i64 zx.obj, .int .u64 zx.hi, .int .u64 zx.lo, .slice A11 n11 c11, .int .i64 zx.nu] 45)
    refine wp_any (fun W => Below w11.heap.size w11 W) ba11 (fun W8 hI8 => ?_)
    have B78 := B11.out.trans (hI8.mono B11.out.size)
    have X8 := Lib.hid (X7.out.trans (B78.mono X7.out.size))
    have R8 := Lib.hid (row_on B78 R7.out)
    clear hI8 ba11 B78 yr0
    have yr0 := cell_row (j := 0) R8.out rfl
    have yr4 := cell_row (j := 4) R8.out rfl
    have yr5 := cell_row (j := 5) R8.out rfl
    have zr0 := free_row (j := 0) R8.out
    have zr5 := free_row (j := 5) R8.out
    go_upto_region 28 with fail
    have K9 : Kept (fun b => b = w.heap.size + 1) W8 ((W8.setCell ⟨w.heap.size + 1, 0, none⟩ (.int .i64 7)).setCell ⟨w.heap.size + 1, 5, none⟩ (.int .i64 1)) := ((Kept.refl (fun b => b = w.heap.size + 1) W8).setCell (p := ⟨w.heap.size + 1, 0, none⟩) (.inl rfl) _).setCell (p := ⟨w.heap.size + 1, 5, none⟩) (.inl rfl) _
    have R9 := heap_setCell_same _ (w.heap.size + 1) 5 _ _ (.int .i64 1) (heap_setCell_same _ (w.heap.size + 1) 0 _ _ (.int .i64 7) R8.out)
    refine wp_any (fun W => Below w.heap.size w W ∧ W.heap[w.heap.size + 1]? = some (.cells #[.int .i64 7, .int .i64 0, .int .u64 0, .int .u64 0, .slice Ad 1024 cd, .int .i64 1] 45)) ⟨X8.out.trans (K9.below (B := w.heap.size) (fun x hx => by have h3 : x = w.heap.size + 1 := hx; omega) X8.out.size), R9⟩ (fun W9 hI9 => ?_)
    have X9 := Lib.hid hI9.1
    have R99 := Lib.hid hI9.2
    clear hI9 K9 R9 yr0 yr4 yr5 zr0 zr5
    go_wp2_with (first | (refine wpList_load_row rfl 45 (.tmp 7) rfl (w.heap.size + 1) 45 #[.int .i64 7, .int .i64 0, .int .u64 0, .int .u64 0, .slice Ad 1024 cd, .int .i64 1] (0, 0) _ rfl R99.out Try.underlying45 rfl info45 ?_) | (go_at_call 15; (with_reducible refine (N7.out _ X9.out).mono ?_); rintro e w12 ⟨rfl, b12⟩; have X12 := Lib.hid (X9.out.trans (b12.mono X9.out.size)); clear b12) | (go_at_call 15; (with_reducible refine (N0.out _).mono ?_); rintro e w13 ⟨rfl, b13⟩; have X13 := Lib.hid (X12.out.trans (b13.mono X12.out.size)); clear b13) | (go_at_call 15; (with_reducible refine (N11.out _).mono ?_); rintro e w14 ⟨rfl, b14⟩; have X14 := Lib.hid (X13.out.trans (b14.mono X13.out.size)); clear b14) | fail)
    go_ret
    exact ⟨rfl, X14.out⟩
theorem law_replies (w : World) (op : Int) (c : Rp) (D : Value) (cut : Int) (hD : RB w D c.da) (hh : U64 c.hi) (hl : U64 c.lo) (HB : Bytes c.da) (ho : -9223372036854775808 ≤ op ∧ op ≤ 9223372036854775807) (hcd : -9223372036854775808 ≤ c.code ∧ c.code ≤ 9223372036854775807) (hob : -9223372036854775808 ≤ c.obj ∧ c.obj ≤ 9223372036854775807) (hnu : -9223372036854775808 ≤ c.nu ∧ c.nu ≤ 9223372036854775807) (hct : -9223372036854775808 ≤ cut ∧ cut ≤ 9223372036854775807) :
    Calls Try.prog 7 #[.int .i64 op, rv c D, .int .i64 cut] w fun e w' => e = .returned (.bool true) ∧ Below w.heap.size w w' := by
  obtain ⟨code, obj, hi, lo, da, nu⟩ := c
  obtain ⟨Ad, cd, rfl⟩ : SL D da.length := hD.sl
  by_cases hz : code % 65536 = 0
  · by_cases m0 : op % 10 = 0
    · exact replies_b1 w op _ code _ obj hi lo nu cut da Ad _ cd rfl rfl ho hcd hob hnu hct hh hl hD HB hz m0 _ rfl
    by_cases m2 : op % 10 = 2
    · exact replies_b3 w op _ code _ obj hi lo nu cut da Ad _ cd rfl rfl ho hcd hob hnu hct hh hl hD HB hz m2 _ rfl
    by_cases m4 : op % 10 = 4
    · rcases Nat.lt_trichotomy da.length 1024 with h | h | h
      · exact replies_ca w op _ code _ obj hi lo nu cut da Ad _ cd rfl rfl ho hcd hob hnu hct hh hl hD HB hz m4 h
      · exact replies_cb w op _ code _ obj hi lo nu cut da Ad _ cd rfl rfl ho hcd hob hnu hct hh hl hD HB hz m4 h
      · exact replies_cc w op _ code _ obj hi lo nu cut da Ad _ cd rfl rfl ho hcd hob hnu hct hh hl hD HB hz m4 h
    by_cases m8 : op % 10 = 8
    · exact replies_d w op _ code _ obj hi lo nu cut da Ad _ cd rfl rfl ho hcd hob hnu hct hh hl hD HB hz m8 _ rfl
    exact replies_e w op _ code _ obj hi lo nu cut da Ad _ cd rfl rfl ho hcd hob hnu hct hh hl hD HB hz m0 m2 m4 m8
  · by_cases m4 : op % 10 = 4
    · exact replies_a5 w op _ code _ obj hi lo nu cut da Ad _ cd rfl rfl ho hcd hob hnu hct hh hl hD HB hz m4
    · exact replies_a w op _ code _ obj hi lo nu cut da Ad _ cd rfl rfl ho hcd hob hnu hct hh hl hD HB hz m4
end Go.Proofs.Ytfpkdbogapmhmaa.O

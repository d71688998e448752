/- Record: a call that has a form comes back from its bytes, case e8 (written by gen_rdk.py). -/
import Derived.Test.YtfpkdbogapmhmaaRdK0
namespace Go.Proofs.Ytfpkdbogapmhmaa.O
open Go.RowKit Go.Proofs.Ytfpkdbogapmhmaa.Mem
set_option linter.unusedVariables false
set_option linter.unusedSimpArgs false
set_option maxHeartbeats 8000000 in
set_option maxRecDepth 100000 in
theorem back_e8 (w : World) (c : Cl) (D G : Value) (cut z : Int) (hD : RB w D c.da) (hG : IB w G c.gi) (hh : U64 c.hi) (hl : U64 c.lo) (HB : Bytes c.da) (hI : I64C c) (hct : -9223372036854775808 ≤ cut ∧ cut ≤ 9223372036854775807) (hz : 0 ≤ z ∧ z < 256) (hcs : (formC c).op = 8 ∧ (enc (formC c)).length = (enc (formC c)).length) :
    Calls Try.prog 6 #[cv c D G, .int .i64 cut, .int .u8 z] w fun e w' => e = .returned (.bool true) ∧ Below w.heap.size w w' := by
  have HBX := Lib.hid ((Below.refl w.heap.size w).alloc (Nat.le_refl _) (.cells (cells c D G) 30))
  have LF := Lib.hid (lformed_any (w.alloc (.cells (cells c D G) 30)) c D G (hD.below HBX.out) (hG.below HBX.out) hI)
  have hform := formC_form c
  have hfacts := formC_facts hh hl HB
  unfold FD at LF
  obtain ⟨K, hK⟩ : ∃ K, formC c = K := ⟨_, rfl⟩
  rw [hK] at LF hform hfacts hcs
  have HRC := Lib.hid (row_new (w := w) (o := .cells (cells c D G) 30) rfl)
  unfold cv at LF ⊢
  obtain ⟨op0, by1, sz0, obj0, hi0, lo0, gv0, rt0, off0, n0, da0, ix0, gi0⟩ := c
  obtain ⟨Ad, cd0, rfl⟩ : SL D da0.length := hD.sl
  obtain ⟨Ag, cg0, rfl⟩ : SL G gi0.length := hG.sl
  generalize da0.length = nd0 at *
  generalize gi0.length = ng0 at *
  unfold cells at LF HRC HBX ⊢
  simp only at LF HRC HBX ⊢
  clear hD hG hh hl HB hI hK
  obtain ⟨op, by0, sz, obj, hi, lo, gv, rt, off, n, da, ix, gi⟩ := K
  have HFM := Lib.hid hform
  have HFA := Lib.hid hfacts
  simp only at HFA
  obtain ⟨bb, hbb⟩ : ∃ b, enc ⟨op, by0, sz, obj, hi, lo, gv, rt, off, n, da, ix, gi⟩ = b := ⟨_, rfl⟩
  obtain ⟨nb, hnb⟩ : ∃ m, bb.length = m := ⟨_, rfl⟩
  have hmax := enc_max hform
  have he0 := enc_0 hform
  rw [hbb, hnb] at hmax
  rw [hbb, hnb] at hcs
  simp only at hcs
  rw [hbb] at he0
  simp only at he0
  obtain ⟨x1, hx1⟩ : ∃ x, by0 % 256 = x := ⟨_, rfl⟩
  obtain ⟨x2, hx2⟩ : ∃ x, by0 / 256 % 256 = x := ⟨_, rfl⟩
  obtain ⟨y2, hy2⟩ : ∃ y, 256 * x2 = y := ⟨_, rfl⟩
  have hby := (form_op hform).2
  have hop := (form_op hform).1
  simp only at hby hop
  have hw1 : IntKind.i64.wrap (256 * x2) = y2 := by rw [IntKind.wrap_i64]; omega
  have hw2 : IntKind.i64.wrap (x1 + y2) = by0 := by rw [IntKind.wrap_i64]; omega
  have hw3 : IntKind.i64.wrap op = op := by rw [IntKind.wrap_i64]; omega
  have hw4 : IntKind.i64.wrap x1 = x1 := by rw [IntKind.wrap_i64]; omega
  have hw5 : IntKind.i64.wrap x2 = x2 := by rw [IntKind.wrap_i64]; omega
  rw [hx1, hx2] at he0
  have HE0 := Lib.hid he0
  have HCS := Lib.hid hcs
  have HBB := Lib.hid hbb
  have HNB := Lib.hid hnb
  have HMX := Lib.hid hmax
  have HBY := Lib.hid hby
  have HOP := Lib.hid hop
  have HPS : Hid (parseC bb = some ⟨op, by0, sz, obj, hi, lo, gv, rt, off, n, da, ix, gi⟩) := Lib.hid (parse_iff _ _ hfacts.1 hfacts.2.1 hform hbb)
  have HBYT : Hid (Bytes bb) := Lib.hid (by rw [← hbb]; exact enc_bytes hfacts.2.2)
  have HCUT : Hid (∀ k, k < nb → parseC (bb.take k) = if op = 6 ∧ 32 ≤ k then some ⟨op, by0, sz, obj, hi, lo, gv, rt, off, n, da.take (k - 32), ix, gi⟩ else none) := Lib.hid (fun k hk => by have := cutC hform hfacts.1 hfacts.2.1 k (by rw [hbb, hnb]; exact hk); rw [hbb] at this; exact this)
  have HMORE : Hid (parseC (bb ++ [z]) = if op = 6 ∧ da.length ≤ 1024 then some ⟨op, by0, sz, obj, hi, lo, gv, rt, off, n, da ++ [z], ix, gi⟩ else none) := Lib.hid (by have := moreC hform hfacts.1 hfacts.2.1 z; rw [hbb] at this; exact this)
  have HLEN : Hid (op = 6 → nb = 32 + da.length) := Lib.hid (fun h => by have := enc_len ⟨op, by0, sz, obj, hi, lo, gv, rt, off, n, da, ix, gi⟩; rw [hbb, hnb] at this; simp only [h] at this; simp at this; omega)
  have hndm : da.length ≤ 1025 := hform.2.1.2.2.2.2
  have HZ := Lib.hid hz
  have IC := Lib.hid (fun a => into_any a cut nb hct.1 hct.2 (by omega) (by omega))
  obtain ⟨kN, hkN⟩ : ∃ k : Nat, cut % (nb : Int) = (k : Int) := ⟨(cut % (nb : Int)).toNat, by have := Int.emod_nonneg cut (b := (nb : Int)) (by have := HMX.out; omega); omega⟩
  have hk3 : kN < nb := by have := Int.emod_lt_of_pos cut (b := (nb : Int)) (by have := HMX.out; omega); omega
  rw [hkN] at IC
  have h8 := HCS.out.1
  obtain ⟨r, hr⟩ : ∃ r, z % 240 = r := ⟨_, rfl⟩
  obtain ⟨s, hs⟩ : ∃ s, 11 + r = s := ⟨_, rfl⟩
  have hzz := HZ.out
  have hs11 : 11 ≤ s := by omega
  have hs256 : 0 ≤ s ∧ s < 256 := by omega
  have HRR_ := Lib.hid hr
  have HSS_ := Lib.hid hs
  clear hr hs hzz
  have CU := Lib.hid (fun a v (hv : RB a v (bb.take kN)) => by
    have := parse_any a v (bb.take kN) (by rw [List.length_take, HNB.out]; have := HMX.out; omega) (fun z hz => HBYT.out z (List.mem_of_mem_take hz)) hv
    rw [HCUT.out kN hk3, if_neg (fun h => absurd (h8.symm.trans h.1) (by decide))] at this
    simp only [PP, cv, cells, zc, Option.getD_none, Option.isSome_none, Bool.false_eq_true, if_false] at this
    exact this)
  have MO := Lib.hid (fun a v (hv : OB a v (bb ++ [z])) => by
    have := parse_any a v (bb ++ [z]) (by rw [List.length_append, HNB.out]; have := HMX.out; simp; omega) (app_bytes HBYT.out (fun y hy => by obtain rfl := List.mem_singleton.1 hy; exact HZ.out)) hv.reads
    rw [HMORE.out, if_neg (fun h => absurd (h8.symm.trans h.1) (by decide))] at this
    simp only [PP, cv, cells, zc, Option.getD_none, Option.isSome_none, Bool.false_eq_true, if_false] at this
    exact this)
  have FI := Lib.hid (fun a v (hv : OB a v ([s] ++ bb.drop 1)) => by
    have := parse_any a v ([s] ++ bb.drop 1) (by rw [List.length_append, List.length_drop, HNB.out]; have := HMX.out; simp; omega) (app_bytes (fun y hy => by obtain rfl := List.mem_singleton.1 hy; exact hs256) (fun y hy => HBYT.out y (List.mem_of_mem_drop hy))) hv.reads
    rw [show parseC ([s] ++ bb.drop 1) = none from firstC hs11] at this
    simp only [PP, cv, cells, zc, Option.getD_none, Option.isSome_none, Bool.false_eq_true, if_false] at this
    exact this)
  have HK3 := Lib.hid hk3
  have HKN := Lib.hid hkN
  have HC6 := Lib.hid h8
  clear h8
  clear hk3 hkN hs11 hs256 HCS HCUT HMORE
  clear hcs hform hfacts hbb hnb hmax he0 hx1 hx2 hy2 hby hop hz hct
  go_enter Try.func6, Try.ntmps6
  refine seq_hide (fun r0 hr0 => ?_)
  go_wp2_with fail
  rw [hr0.out]
  clear hr0
  refine seq_hide (fun r1 hr1 => ?_)
  go_wp2_with (first | (refine wpList_load_row rfl 30 (.tmp 3) rfl (w.heap.size) 30 #[.int .i64 op0, .int .i64 by1, .int .i64 sz0, .int .i64 obj0, .int .u64 hi0, .int .u64 lo0, .bool gv0, .int .i64 rt0, .int .i64 off0, .int .i64 n0, .slice Ad nd0 cd0, .int .i64 ix0, .slice Ag ng0 cg0] (0, 0) _ rfl HRC.out Try.underlying30 rfl info30 ?_) | (go_at_call 20; (with_reducible refine LF.out.mono ?_); rintro e w1 ⟨D', G', rfl, rd, ri, hb1, fg⟩; have hgl : gi.length ≤ 9223372036854775807 := (by obtain ⟨A, k, e, q1, q2, _⟩ := ri.reads; unfold maxLen at q2; omega); obtain ⟨A1, c1, rfl⟩ : SL D' da.length := rd.sl; obtain ⟨P1, l1, rfl⟩ : SL G' gi.length := ri.reads.sl; have RD := Lib.hid rd; have RI := Lib.hid ri.reads; have HGL := Lib.hid hgl; have B1 := Lib.hid (HBX.out.trans (hb1.mono HBX.out.size)); clear rd ri hb1 fg hgl) | fail)
  have ba1 := (Below.refl w1.heap.size w1).alloc (Nat.le_refl _) (.cells #[.int .i64 op, .int .i64 by0, .int .i64 sz, .int .i64 obj, .int .u64 hi, .int .u64 lo, .bool gv, .int .i64 rt, .int .i64 off, .int .i64 n, .slice A1 da.length c1, .int .i64 ix, .slice P1 gi.length l1] 30)
  have HR7 : Hid ((w1.alloc (.cells #[.int .i64 op, .int .i64 by0, .int .i64 sz, .int .i64 obj, .int .u64 hi, .int .u64 lo, .bool gv, .int .i64 rt, .int .i64 off, .int .i64 n, .slice A1 da.length c1, .int .i64 ix, .slice P1 gi.length l1] 30)).heap[w1.heap.size]? = some (.cells #[.int .i64 op, .int .i64 by0, .int .i64 sz, .int .i64 obj, .int .u64 hi, .int .u64 lo, .bool gv, .int .i64 rt, .int .i64 off, .int .i64 n, .slice A1 da.length c1, .int .i64 ix, .slice P1 gi.length l1] 30)) := Lib.hid (row_new rfl)
  have RD1 := Lib.hid (RD.out.below ba1)
  have RI1 := Lib.hid (RI.out.below ba1)
  have HB1 := Lib.hid (B1.out.trans (ba1.mono B1.out.size))
  clear ba1 RD RI B1 HRC LF HBX
  obtain ⟨nd, hnd⟩ : ∃ m, da.length = m := ⟨_, rfl⟩
  obtain ⟨ng, hng⟩ : ∃ m, gi.length = m := ⟨_, rfl⟩
  have HND := Lib.hid hnd
  have HNG := Lib.hid hng
  rw [hnd, hng] at HR7 RD1 RI1 HB1 ⊢
  rw [hnd] at HLEN hndm
  generalize w1.alloc (.cells #[.int .i64 op, .int .i64 by0, .int .i64 sz, .int .i64 obj, .int .u64 hi, .int .u64 lo, .bool gv, .int .i64 rt, .int .i64 off, .int .i64 n, .slice A1 nd c1, .int .i64 ix, .slice P1 ng l1] 30) = W1 at HR7 RD1 RI1 HB1 ⊢
  obtain ⟨b7, hb7⟩ : ∃ b, w1.heap.size = b := ⟨_, rfl⟩
  rw [hb7] at HR7 ⊢
  clear hb7 hnd hng
  have BY := bytes_any W1 ⟨op, by0, sz, obj, hi, lo, gv, rt, off, n, da, ix, gi⟩ (.slice A1 nd c1) (.slice P1 ng l1) RD1.out RI1.out HGL.out HFA.out.1 HFA.out.2.1
  rw [show encE ⟨op, by0, sz, obj, hi, lo, gv, rt, off, n, da, ix, gi⟩ = 0 from if_pos HFM.out, show encO ⟨op, by0, sz, obj, hi, lo, gv, rt, off, n, da, ix, gi⟩ = bb from (if_pos HFM.out).trans HBB.out] at BY
  unfold cv cells at BY
  simp only at BY
  replace BY := Lib.hid BY
  have PAR := Lib.hid (fun a v (hv : OB a v bb) => by
    have := parse_any a v bb (by rw [HNB.out]; have := HMX.out; omega) HBYT.out hv.reads
    rw [HPS.out] at this
    simp only [PP, cv, cells, Option.getD_some, Option.isSome_some, if_true] at this
    exact this)
  rw [hr1.out]
  clear hr1
  refine seq_hide (fun r2 hr2 => ?_)
  go_wp2_with (first | (refine wpList_load_row rfl 30 (.tmp 7) rfl (b7) 30 #[.int .i64 op, .int .i64 by0, .int .i64 sz, .int .i64 obj, .int .u64 hi, .int .u64 lo, .bool gv, .int .i64 rt, .int .i64 off, .int .i64 n, .slice A1 nd c1, .int .i64 ix, .slice P1 ng l1] (0, 0) _ rfl HR7.out Try.underlying30 rfl info30 ?_) | (go_at_call 9; (with_reducible refine BY.out.mono ?_); rintro e w2 ⟨v2, rfl, o2, b2, _⟩; have O2 := Lib.hid o2; have B2 := Lib.hid b2; clear o2 b2) | fail)
  obtain ⟨A2, c2, e2, hc2a, hc2b, hc2c⟩ := O2.out.reads
  rw [HNB.out] at e2 hc2a
  obtain ⟨g2, o2, rfl, hcell⟩ := hc2c (by rw [HNB.out]; have := HMX.out; omega)
  subst e2
  unfold maxLen at hc2b
  clear hcell hc2c
  have HS2 : Hid (BS w b7 #[.int .i64 op, .int .i64 by0, .int .i64 sz, .int .i64 obj, .int .u64 hi, .int .u64 lo, .bool gv, .int .i64 rt, .int .i64 off, .int .i64 n, .slice A1 nd c1, .int .i64 ix, .slice P1 ng l1] (.slice (some ⟨g2, o2, none⟩) nb c2) bb (.slice A1 nd c1) (.slice P1 ng l1) da gi w2) := Lib.hid ⟨HB1.out.trans (B2.out.mono HB1.out.size), row_on B2.out HR7.out, O2.out, RD1.out.below B2.out, RI1.out.below B2.out⟩
  clear BY HR7 RD1 RI1 HB1 O2 B2
  rw [hr2.out]
  clear hr2
  refine seq_hide (fun r3 hr3 => ?_)
  go_wp2_with (first | (go_at_call 13; (with_reducible refine (PAR.out _ _ HS2.out.ob).mono ?_); rintro e w3 ⟨D5, G5, rfl, d5, g5, _, _, b5⟩; obtain ⟨A5, n5, k5, rfl⟩ : ∃ A n c, D5 = .slice A n c := (by obtain ⟨A, c, e, _⟩ := own_slice d5; exact ⟨_, _, _, e⟩); obtain ⟨P5, m5, l5, rfl⟩ : ∃ A n c, G5 = .slice A n c := (by obtain ⟨A, c, e, _⟩ := own_slice g5; exact ⟨_, _, _, e⟩); have O5 := Lib.hid d5; have I5 := Lib.hid g5; have B5 := Lib.hid b5; clear d5 g5 b5) | fail)
  have ba3 := (Below.refl w3.heap.size w3).alloc (Nat.le_refl _) (.cells #[.int .i64 op, .int .i64 by0, .int .i64 sz, .int .i64 obj, .int .u64 hi, .int .u64 lo, .bool gv, .int .i64 rt, .int .i64 off, .int .i64 n, .slice A5 n5 k5, .int .i64 ix, .slice P5 m5 l5] 30)
  have HR10 : Hid ((w3.alloc (.cells #[.int .i64 op, .int .i64 by0, .int .i64 sz, .int .i64 obj, .int .u64 hi, .int .u64 lo, .bool gv, .int .i64 rt, .int .i64 off, .int .i64 n, .slice A5 n5 k5, .int .i64 ix, .slice P5 m5 l5] 30)).heap[w3.heap.size]? = some (.cells #[.int .i64 op, .int .i64 by0, .int .i64 sz, .int .i64 obj, .int .u64 hi, .int .u64 lo, .bool gv, .int .i64 rt, .int .i64 off, .int .i64 n, .slice A5 n5 k5, .int .i64 ix, .slice P5 m5 l5] 30)) := Lib.hid (row_new rfl)
  have HS3 : Hid (BS w b7 #[.int .i64 op, .int .i64 by0, .int .i64 sz, .int .i64 obj, .int .u64 hi, .int .u64 lo, .bool gv, .int .i64 rt, .int .i64 off, .int .i64 n, .slice A1 nd c1, .int .i64 ix, .slice P1 ng l1] (.slice (some ⟨g2, o2, none⟩) nb c2) bb (.slice A1 nd c1) (.slice P1 ng l1) da gi (w3.alloc (.cells #[.int .i64 op, .int .i64 by0, .int .i64 sz, .int .i64 obj, .int .u64 hi, .int .u64 lo, .bool gv, .int .i64 rt, .int .i64 off, .int .i64 n, .slice A5 n5 k5, .int .i64 ix, .slice P5 m5 l5] 30))) := Lib.hid ((HS2.out.on B5.out).on ba3)
  have O5' := Lib.hid (O5.out.below ba3)
  have I5' : Hid (OI (w3.alloc (.cells #[.int .i64 op, .int .i64 by0, .int .i64 sz, .int .i64 obj, .int .u64 hi, .int .u64 lo, .bool gv, .int .i64 rt, .int .i64 off, .int .i64 n, .slice A5 n5 k5, .int .i64 ix, .slice P5 m5 l5] 30)) (.slice P5 m5 l5) gi) := Lib.hid (own_keeps I5.out (Kept.of_below ba3))
  clear ba3 HS2 O5 I5 B5
  generalize w3.alloc (.cells #[.int .i64 op, .int .i64 by0, .int .i64 sz, .int .i64 obj, .int .u64 hi, .int .u64 lo, .bool gv, .int .i64 rt, .int .i64 off, .int .i64 n, .slice A5 n5 k5, .int .i64 ix, .slice P5 m5 l5] 30) = W3 at HR10 HS3 O5' I5' ⊢
  obtain ⟨b10, hb10⟩ : ∃ b, w3.heap.size = b := ⟨_, rfl⟩
  rw [hb10] at HR10 ⊢
  clear hb10
  have SAM := Lib.hid (fun a (ha : Below W3.heap.size W3 a) => by
    have := same_any a ⟨op, by0, sz, obj, hi, lo, gv, rt, off, n, da, ix, gi⟩ ⟨op, by0, sz, obj, hi, lo, gv, rt, off, n, da, ix, gi⟩ (.slice A5 n5 k5) (.slice P5 m5 l5) (.slice A1 nd c1) (.slice P1 ng l1) (O5'.out.below ha).reads (show IB a (.slice P5 m5 l5) gi from OI.reads (own_keeps I5'.out (Kept.of_below ha))) (HS3.out.rd.below ha) (HS3.out.ri.below ha) HFA.out.2.2 HFA.out.2.2
    rw [decide_eq_true rfl] at this
    unfold cv cells at this
    exact this)
  have hbyte : ∀ j x, bb[j]? = some x → Hid (∀ y, Below W3.heap.size W3 y → y.cell? ⟨g2, o2 + j, none⟩ = some (.int .u8 x)) := fun j x hx => Lib.hid (fun y hb => by
    obtain ⟨A, k, e, _, _, q3⟩ := (HS3.out.ob.below hb).reads
    cases e
    obtain ⟨g', o', e', hc⟩ := q3 (by rw [HNB.out]; have := HMX.out; omega)
    cases e'
    exact hc j x hx)
  have HBY0 : Hid (∀ y, Below W3.heap.size W3 y → y.cell? ⟨g2, o2, none⟩ = some (.int .u8 op)) := hbyte 0 op HE0.out.1
  have HBY1 := hbyte 1 x1 HE0.out.2.1
  have HBY2 := hbyte 2 x2 HE0.out.2.2
  have HB3d := Lib.hid ((Below.refl W3.heap.size W3).drew)
  have hn3 : ¬ ((nb : Int) < 3) := by have := HMX.out; omega
  have hn0 : (0 : Int) < (nb : Int) := by have := HMX.out; omega
  have hn1 : (1 : Int) < (nb : Int) := by have := HMX.out; omega
  have hn2 : (2 : Int) < (nb : Int) := by have := HMX.out; omega
  have hm0 : 0 < nb := by have := HMX.out; omega
  have hm1 : 1 < nb := by have := HMX.out; omega
  have hm2 : 2 < nb := by have := HMX.out; omega
  clear hbyte
  rw [hr3.out]
  clear hr3
  refine seq_hide (fun r4 hr4 => ?_)
  go_upto_region 4 with fail
  refine wp_region_noPanic ?_
  refine wp_region_held_drew (S := fun y => y.heap[b7]? = some (.cells #[.int .i64 op, .int .i64 by0, .int .i64 sz, .int .i64 obj, .int .u64 hi, .int .u64 lo, .bool gv, .int .i64 rt, .int .i64 off, .int .i64 n, .slice A1 nd c1, .int .i64 ix, .slice P1 ng l1] 30) ∧ y.heap[b10]? = some (.cells #[.int .i64 op, .int .i64 by0, .int .i64 sz, .int .i64 obj, .int .u64 hi, .int .u64 lo, .bool gv, .int .i64 rt, .int .i64 off, .int .i64 n, .slice A5 n5 k5, .int .i64 ix, .slice P5 m5 l5] 30) ∧ Below W3.heap.size W3 y) (by kernel_rfl) (⟨HS3.out.row, HR10.out, (Below.refl _ W3).drew⟩) (fun hHeld => ?_)
  refine wpAnyH_ready (rs := [0]) (by kernel_rfl) (by simp) ?_
  refine AllReadyH.cons (o := { dst := some 35, op := Go.Op.call { callee := Go.Callee.value (Go.Operand.func 11), args := #[], argTypes := #[] }, type := 4, pos := "law.go:92", after := #[], guard := none }) rfl (fun K hK => ?_) AllReadyH.nil
  go_simp
  go_at_call 11
  refine (known_any _).mono ?_
  rintro e w5 ⟨rfl, hb5⟩
  have HB5 := Lib.hid ((HB3d.out).trans (hb5.mono HB3d.out.size))
  clear hb5
  refine hK.out _ _ (⟨row_on HB5.out HS3.out.row, row_on HB5.out HR10.out, HB5.out⟩) (fun hHeld2 => ?_)
  clear hK K hHeld
  have hHeld := hHeld2
  clear hHeld2
  try simp only [Act.put, List.setIfInBounds_toArray, List.set_cons_zero, List.set_cons_succ]
  refine wpAnyH_take (i := 1) (oi := { dst := some 36, op := Go.Op.unOp Go.UnOp.not 4 (Go.Operand.tmp 35), type := 4, pos := "law.go:92", after := #[{ on := 0, ground := Go.Ground.data }], guard := none }) (v := ?_) rfl (by kernel_rfl) (by kernel_rfl) (by kernel_rfl) (fun _ _ _ h => h) (Or.inl ⟨by rfl, ?hy1_1⟩) (by assumption) ?rest1_1
  case hy1_1 => (intro w hSw; go_simp; try with_reducible rfl)
  try simp only [Act.put, List.setIfInBounds_toArray, List.set_cons_zero, List.set_cons_succ]
  refine wpAnyH_take (i := 2) (oi := { dst := some 37, op := Go.Op.move (Go.Operand.tmp 36), type := 4, pos := "law.go:92", after := #[{ on := 1, ground := Go.Ground.data }, { on := 0, ground := Go.Ground.chain }], guard := none }) (v := ?_) rfl (by kernel_rfl) (by kernel_rfl) (by kernel_rfl) (fun _ _ _ h => h) (Or.inl ⟨by rfl, ?hy2_2⟩) (by assumption) ?rest2_2
  case hy2_2 => (intro w hSw; go_simp; try with_reducible rfl)
  try simp only [Act.put, List.setIfInBounds_toArray, List.set_cons_zero, List.set_cons_succ]
  refine wpAnyH_take (i := 3) (oi := { dst := some 38, op := Go.Op.move (Go.Operand.tmp 9), type := 31, pos := "law.go:92", after := #[{ on := 2, ground := Go.Ground.guard }], guard := some (2, false) }) (v := ?_) rfl (by kernel_rfl) (by kernel_rfl) (by kernel_rfl) (fun _ _ _ h => h) (Or.inl ⟨by rfl, ?hy3_3⟩) (by assumption) ?rest3_3
  case hy3_3 => (intro w hSw; go_simp; try with_reducible rfl)
  try simp only [Act.put, List.setIfInBounds_toArray, List.set_cons_zero, List.set_cons_succ]
  refine wpAnyH_take (i := 4) (oi := { dst := some 39, op := Go.Op.binOp Go.BinOp.neq 3 (Go.Operand.tmp 38) (Go.Operand.const (Go.Value.int Go.IntKind.i64 0)) 3, type := 4, pos := "law.go:92", after := #[{ on := 3, ground := Go.Ground.data }, { on := 2, ground := Go.Ground.guard }], guard := some (2, false) }) (v := ?_) rfl (by kernel_rfl) (by kernel_rfl) (by kernel_rfl) (fun _ _ _ h => h) (Or.inl ⟨by rfl, ?hy4_4⟩) (by assumption) ?rest4_4
  case hy4_4 => (intro w hSw; go_simp; try with_reducible rfl)
  try simp only [Act.put, List.setIfInBounds_toArray, List.set_cons_zero, List.set_cons_succ]
  refine wpAnyH_take (i := 5) (oi := { dst := some 40, op := Go.Op.pick (Go.Operand.tmp 37) (Go.Operand.const (Go.Value.bool true)) (Go.Operand.tmp 39), type := 4, pos := "law.go:92", after := #[{ on := 2, ground := Go.Ground.data }, { on := 4, ground := Go.Ground.data }], guard := none }) (v := ?_) rfl (by kernel_rfl) (by kernel_rfl) (by kernel_rfl) (fun _ _ _ h => h) (Or.inl ⟨by rfl, ?hy5_5⟩) (by assumption) ?rest5_5
  case hy5_5 => (intro w hSw; go_simp; try with_reducible rfl)
  try simp only [Act.put, List.setIfInBounds_toArray, List.set_cons_zero, List.set_cons_succ]
  refine wpAnyH_take (i := 6) (oi := { dst := some 41, op := Go.Op.move (Go.Operand.tmp 40), type := 4, pos := "law.go:92", after := #[{ on := 5, ground := Go.Ground.data }, { on := 2, ground := Go.Ground.chain }], guard := none }) (v := ?_) rfl (by kernel_rfl) (by kernel_rfl) (by kernel_rfl) (fun _ _ _ h => h) (Or.inl ⟨by rfl, ?hy6_6⟩) (by assumption) ?rest6_6
  case hy6_6 => (intro w hSw; go_simp; try with_reducible rfl)
  try simp only [Act.put, List.setIfInBounds_toArray, List.set_cons_zero, List.set_cons_succ]
  refine wpAnyH_take (i := 7) (oi := { dst := some 42, op := Go.Op.move (Go.Operand.tmp 11), type := 31, pos := "law.go:92", after := #[{ on := 6, ground := Go.Ground.guard }], guard := some (6, false) }) (v := ?_) rfl (by kernel_rfl) (by kernel_rfl) (by kernel_rfl) (fun _ _ _ h => h) (Or.inl ⟨by rfl, ?hy7_7⟩) (by assumption) ?rest7_7
  case hy7_7 => (intro w hSw; go_simp; try with_reducible rfl)
  try simp only [Act.put, List.setIfInBounds_toArray, List.set_cons_zero, List.set_cons_succ]
  refine wpAnyH_take (i := 8) (oi := { dst := some 43, op := Go.Op.binOp Go.BinOp.neq 3 (Go.Operand.tmp 42) (Go.Operand.const (Go.Value.int Go.IntKind.i64 0)) 3, type := 4, pos := "law.go:92", after := #[{ on := 7, ground := Go.Ground.data }, { on := 6, ground := Go.Ground.guard }], guard := some (6, false) }) (v := ?_) rfl (by kernel_rfl) (by kernel_rfl) (by kernel_rfl) (fun _ _ _ h => h) (Or.inl ⟨by rfl, ?hy8_8⟩) (by assumption) ?rest8_8
  case hy8_8 => (intro w hSw; go_simp; try with_reducible rfl)
  try simp only [Act.put, List.setIfInBounds_toArray, List.set_cons_zero, List.set_cons_succ]
  refine wpAnyH_take (i := 9) (oi := { dst := some 44, op := Go.Op.pick (Go.Operand.tmp 41) (Go.Operand.const (Go.Value.bool true)) (Go.Operand.tmp 43), type := 4, pos := "law.go:92", after := #[{ on := 6, ground := Go.Ground.data }, { on := 8, ground := Go.Ground.data }], guard := none }) (v := ?_) rfl (by kernel_rfl) (by kernel_rfl) (by kernel_rfl) (fun _ _ _ h => h) (Or.inl ⟨by rfl, ?hy9_9⟩) (by assumption) ?rest9_9
  case hy9_9 => (intro w hSw; go_simp; try with_reducible rfl)
  try simp only [Act.put, List.setIfInBounds_toArray, List.set_cons_zero, List.set_cons_succ]
  refine wpAnyH_take (i := 10) (oi := { dst := some 45, op := Go.Op.move (Go.Operand.tmp 44), type := 4, pos := "law.go:92", after := #[{ on := 9, ground := Go.Ground.data }, { on := 6, ground := Go.Ground.chain }], guard := none }) (v := ?_) rfl (by kernel_rfl) (by kernel_rfl) (by kernel_rfl) (fun _ _ _ h => h) (Or.inl ⟨by rfl, ?hy10_10⟩) (by assumption) ?rest10_10
  case hy10_10 => (intro w hSw; go_simp; try with_reducible rfl)
  try simp only [Act.put, List.setIfInBounds_toArray, List.set_cons_zero, List.set_cons_succ]
  refine wpAnyH_take (i := 11) (oi := { dst := some 46, op := Go.Op.load 30 (Go.Operand.tmp 10), type := 30, pos := "law.go:92", after := #[{ on := 10, ground := Go.Ground.guard }], guard := some (10, false) }) (v := .agg #[.int .i64 op, .int .i64 by0, .int .i64 sz, .int .i64 obj, .int .u64 hi, .int .u64 lo, .bool gv, .int .i64 rt, .int .i64 off, .int .i64 n, .slice A5 n5 k5, .int .i64 ix, .slice P5 m5 l5]) rfl (by kernel_rfl) (by kernel_rfl) (by kernel_rfl) (fun _ _ _ h => h) (yieldsIf_load_mid (by rfl) 30 (.tmp 10) rfl b10 0 rfl [.int .i64 op, .int .i64 by0, .int .i64 sz, .int .i64 obj, .int .u64 hi, .int .u64 lo, .bool gv, .int .i64 rt, .int .i64 off, .int .i64 n, .slice A5 n5 k5, .int .i64 ix, .slice P5 m5 l5] _ (fun w hSw => range_row hSw.2.1 (by rfl)) Try.underlying30 rfl info30) (by assumption) ?_
  try simp only [Act.put, List.setIfInBounds_toArray, List.set_cons_zero, List.set_cons_succ]
  refine wpAnyH_take (i := 12) (oi := { dst := some 47, op := Go.Op.load 30 (Go.Operand.tmp 7), type := 30, pos := "law.go:92", after := #[{ on := 10, ground := Go.Ground.guard }], guard := some (10, false) }) (v := .agg #[.int .i64 op, .int .i64 by0, .int .i64 sz, .int .i64 obj, .int .u64 hi, .int .u64 lo, .bool gv, .int .i64 rt, .int .i64 off, .int .i64 n, .slice A1 nd c1, .int .i64 ix, .slice P1 ng l1]) rfl (by kernel_rfl) (by kernel_rfl) (by kernel_rfl) (fun _ _ _ h => h) (yieldsIf_load_mid (by rfl) 30 (.tmp 7) rfl b7 0 rfl [.int .i64 op, .int .i64 by0, .int .i64 sz, .int .i64 obj, .int .u64 hi, .int .u64 lo, .bool gv, .int .i64 rt, .int .i64 off, .int .i64 n, .slice A1 nd c1, .int .i64 ix, .slice P1 ng l1] _ (fun w hSw => range_row hSw.1 (by rfl)) Try.underlying30 rfl info30) (by assumption) ?_
  try simp only [Act.put, List.setIfInBounds_toArray, List.set_cons_zero, List.set_cons_succ]
  refine wpAnyH_ready (rs := [13]) (by kernel_rfl) (by simp) ?_
  refine AllReadyH.cons (o := { dst := some 48, op := Go.Op.call { callee := Go.Callee.value (Go.Operand.func 14), args := #[Go.Operand.tmp 46, Go.Operand.tmp 47], argTypes := #[30, 30] }, type := 4, pos := "law.go:92", after := #[{ on := 11, ground := Go.Ground.data }, { on := 12, ground := Go.Ground.data }, { on := 10, ground := Go.Ground.chain }, { on := 10, ground := Go.Ground.guard }], guard := some (10, false) }) rfl (fun K hK => ?_) AllReadyH.nil
  go_simp
  go_at_call 14
  refine (SAM.out _ HB5.out).mono ?_
  rintro e w6 ⟨rfl, hb6⟩
  have HB6 := Lib.hid (HB5.out.trans (hb6.mono HB5.out.size))
  clear hb6
  refine hK.out _ _ (⟨row_on HB6.out HS3.out.row, row_on HB6.out HR10.out, HB6.out⟩) (fun hHeld2 => ?_)
  clear hK K hHeld
  have hHeld := hHeld2
  clear hHeld2
  try simp only [Act.put, List.setIfInBounds_toArray, List.set_cons_zero, List.set_cons_succ]
  refine wpAnyH_take (i := 14) (oi := { dst := some 49, op := Go.Op.unOp Go.UnOp.not 4 (Go.Operand.tmp 48), type := 4, pos := "law.go:92", after := #[{ on := 13, ground := Go.Ground.data }, { on := 10, ground := Go.Ground.guard }], guard := some (10, false) }) (v := ?_) rfl (by kernel_rfl) (by kernel_rfl) (by kernel_rfl) (fun _ _ _ h => h) (Or.inl ⟨by rfl, ?hy14_13⟩) (by assumption) ?rest14_13
  case hy14_13 => (intro w hSw; go_simp; try with_reducible rfl)
  try simp only [Act.put, List.setIfInBounds_toArray, List.set_cons_zero, List.set_cons_succ]
  refine wpAnyH_take (i := 15) (oi := { dst := some 50, op := Go.Op.pick (Go.Operand.tmp 45) (Go.Operand.const (Go.Value.bool true)) (Go.Operand.tmp 49), type := 4, pos := "law.go:92", after := #[{ on := 10, ground := Go.Ground.data }, { on := 14, ground := Go.Ground.data }], guard := none }) (v := ?_) rfl (by kernel_rfl) (by kernel_rfl) (by kernel_rfl) (fun _ _ _ h => h) (Or.inl ⟨by rfl, ?hy15_14⟩) (by assumption) ?rest15_14
  case hy15_14 => (intro w hSw; go_simp; try with_reducible rfl)
  try simp only [Act.put, List.setIfInBounds_toArray, List.set_cons_zero, List.set_cons_succ]
  refine wpAnyH_take (i := 16) (oi := { dst := some 51, op := Go.Op.move (Go.Operand.tmp 50), type := 4, pos := "law.go:92", after := #[{ on := 15, ground := Go.Ground.data }, { on := 13, ground := Go.Ground.chain }], guard := none }) (v := ?_) rfl (by kernel_rfl) (by kernel_rfl) (by kernel_rfl) (fun _ _ _ h => h) (Or.inl ⟨by rfl, ?hy16_15⟩) (by assumption) ?rest16_15
  case hy16_15 => (intro w hSw; go_simp; try with_reducible rfl)
  try simp only [Act.put, List.setIfInBounds_toArray, List.set_cons_zero, List.set_cons_succ]
  refine wpAnyH_take (i := 17) (oi := { dst := some 52, op := Go.Op.move (Go.Operand.tmp 8), type := 27, pos := "law.go:92", after := #[{ on := 16, ground := Go.Ground.guard }], guard := some (16, false) }) (v := ?_) rfl (by kernel_rfl) (by kernel_rfl) (by kernel_rfl) (fun _ _ _ h => h) (Or.inl ⟨by rfl, ?hy17_16⟩) (by assumption) ?rest17_16
  case hy17_16 => (intro w hSw; go_simp; try with_reducible rfl)
  try simp only [Act.put, List.setIfInBounds_toArray, List.set_cons_zero, List.set_cons_succ]
  refine wpAnyH_take (i := 18) (oi := { dst := some 53, op := Go.Op.call { callee := Go.Callee.builtin Go.Builtin.len, args := #[Go.Operand.tmp 52], argTypes := #[27] }, type := 3, pos := "law.go:92", after := #[{ on := 17, ground := Go.Ground.data }, { on := 16, ground := Go.Ground.guard }], guard := some (16, false) }) (v := ?_) rfl (by kernel_rfl) (by kernel_rfl) (by kernel_rfl) (fun _ _ _ h => h) (Or.inl ⟨by rfl, ?hy18_17⟩) (by assumption) ?rest18_17
  case hy18_17 => (intro w hSw; go_simp; try with_reducible rfl)
  try simp only [Act.put, List.setIfInBounds_toArray, List.set_cons_zero, List.set_cons_succ]
  refine wpAnyH_take (i := 19) (oi := { dst := some 54, op := Go.Op.binOp Go.BinOp.lss 3 (Go.Operand.tmp 53) (Go.Operand.const (Go.Value.int Go.IntKind.i64 3)) 3, type := 4, pos := "law.go:92", after := #[{ on := 18, ground := Go.Ground.data }, { on := 16, ground := Go.Ground.guard }], guard := some (16, false) }) (v := ?_) rfl (by kernel_rfl) (by kernel_rfl) (by kernel_rfl) (fun _ _ _ h => h) (Or.inl ⟨by rfl, ?hy19_18⟩) (by assumption) ?rest19_18
  case hy19_18 => (intro w hSw; go_simp; try with_reducible rfl)
  try simp only [Act.put, List.setIfInBounds_toArray, List.set_cons_zero, List.set_cons_succ]
  refine wpAnyH_take (i := 20) (oi := { dst := some 55, op := Go.Op.pick (Go.Operand.tmp 51) (Go.Operand.const (Go.Value.bool true)) (Go.Operand.tmp 54), type := 4, pos := "law.go:92", after := #[{ on := 16, ground := Go.Ground.data }, { on := 19, ground := Go.Ground.data }], guard := none }) (v := ?_) rfl (by kernel_rfl) (by kernel_rfl) (by kernel_rfl) (fun _ _ _ h => h) (Or.inl ⟨by rfl, ?hy20_19⟩) (by assumption) ?rest20_19
  case hy20_19 => (intro w hSw; go_simp; try with_reducible rfl)
  try simp only [Act.put, List.setIfInBounds_toArray, List.set_cons_zero, List.set_cons_succ]
  refine wpAnyH_take (i := 21) (oi := { dst := some 56, op := Go.Op.move (Go.Operand.tmp 55), type := 4, pos := "law.go:92", after := #[{ on := 20, ground := Go.Ground.data }, { on := 16, ground := Go.Ground.chain }], guard := none }) (v := ?_) rfl (by kernel_rfl) (by kernel_rfl) (by kernel_rfl) (fun _ _ _ h => h) (Or.inl ⟨by rfl, ?hy21_20⟩) (by assumption) ?rest21_20
  case hy21_20 => (intro w hSw; go_simp; try with_reducible rfl)
  try simp only [Act.put, List.setIfInBounds_toArray, List.set_cons_zero, List.set_cons_succ]
  refine wpAnyH_take (i := 22) (oi := { dst := some 57, op := Go.Op.move (Go.Operand.tmp 8), type := 27, pos := "law.go:92", after := #[{ on := 21, ground := Go.Ground.guard }], guard := some (21, false) }) (v := ?_) rfl (by kernel_rfl) (by kernel_rfl) (by kernel_rfl) (fun _ _ _ h => h) (Or.inl ⟨by rfl, ?hy22_21⟩) (by assumption) ?rest22_21
  case hy22_21 => (intro w hSw; go_simp; try with_reducible rfl)
  try simp only [Act.put, List.setIfInBounds_toArray, List.set_cons_zero, List.set_cons_succ]
  refine wpAnyH_take (i := 26) (oi := { dst := some 61, op := Go.Op.fieldAddr 30 (Go.Operand.tmp 7) 0, type := 0, pos := "law.go:92", after := #[{ on := 21, ground := Go.Ground.guard }], guard := some (21, false) }) (v := ?_) rfl (by kernel_rfl) (by kernel_rfl) (by kernel_rfl) (fun _ _ _ h => h) (Or.inl ⟨by rfl, ?hy26_22⟩) (by assumption) ?rest26_22
  case hy26_22 => (intro w hSw; go_simp; try with_reducible rfl)
  try simp only [Act.put, List.setIfInBounds_toArray, List.set_cons_zero, List.set_cons_succ]
  refine wpAnyH_take (i := 23) (oi := { dst := some 58, op := Go.Op.indexAddr 27 (Go.Operand.tmp 57) (Go.Operand.const (Go.Value.int Go.IntKind.i64 0)), type := 0, pos := "law.go:92", after := #[{ on := 22, ground := Go.Ground.data }, { on := 21, ground := Go.Ground.guard }], guard := some (21, false) }) (v := ?_) rfl (by kernel_rfl) (by kernel_rfl) (by kernel_rfl) (fun _ _ _ h => h) (Or.inl ⟨by rfl, ?hy23_23⟩) (by assumption) ?rest23_23
  case hy23_23 => (intro w hSw; go_simp; try with_reducible rfl)
  try simp only [Act.put, List.setIfInBounds_toArray, List.set_cons_zero, List.set_cons_succ]
  refine wpAnyH_take (i := 27) (oi := { dst := some 62, op := Go.Op.load 3 (Go.Operand.tmp 61), type := 3, pos := "law.go:92", after := #[{ on := 26, ground := Go.Ground.data }, { on := 21, ground := Go.Ground.guard }], guard := some (21, false) }) (v := ?_) rfl (by kernel_rfl) (by kernel_rfl) (by kernel_rfl) (fun _ _ _ h => h) (Or.inl ⟨by rfl, ?hy27_24⟩) (by assumption) ?rest27_24
  case hy27_24 => (intro w hSw; have zc := cell_row (j := 0) hSw.1 rfl; go_simp; try with_reducible rfl)
  try simp only [Act.put, List.setIfInBounds_toArray, List.set_cons_zero, List.set_cons_succ]
  refine wpAnyH_take (i := 24) (oi := { dst := some 59, op := Go.Op.load 5 (Go.Operand.tmp 58), type := 5, pos := "law.go:92", after := #[{ on := 23, ground := Go.Ground.data }, { on := 21, ground := Go.Ground.guard }], guard := some (21, false) }) (v := ?_) rfl (by kernel_rfl) (by kernel_rfl) (by kernel_rfl) (fun _ _ _ h => h) (Or.inl ⟨by rfl, ?hy24_25⟩) (by assumption) ?rest24_25
  case hy24_25 => (intro w hSw; have zc := HBY0.out _ hSw.2.2; go_simp; try with_reducible rfl)
  try simp only [Act.put, List.setIfInBounds_toArray, List.set_cons_zero, List.set_cons_succ]
  refine wpAnyH_take (i := 25) (oi := { dst := some 60, op := Go.Op.convert 5 3 (Go.Operand.tmp 59), type := 3, pos := "law.go:92", after := #[{ on := 24, ground := Go.Ground.data }, { on := 21, ground := Go.Ground.guard }], guard := some (21, false) }) (v := ?_) rfl (by kernel_rfl) (by kernel_rfl) (by kernel_rfl) (fun _ _ _ h => h) (Or.inl ⟨by rfl, ?hy25_26⟩) (by assumption) ?rest25_26
  case hy25_26 => (intro w hSw; go_simp; try with_reducible rfl)
  try simp only [Act.put, List.setIfInBounds_toArray, List.set_cons_zero, List.set_cons_succ]
  refine wpAnyH_take (i := 28) (oi := { dst := some 63, op := Go.Op.binOp Go.BinOp.neq 3 (Go.Operand.tmp 60) (Go.Operand.tmp 62) 3, type := 4, pos := "law.go:92", after := #[{ on := 25, ground := Go.Ground.data }, { on := 27, ground := Go.Ground.data }, { on := 21, ground := Go.Ground.guard }], guard := some (21, false) }) (v := ?_) rfl (by kernel_rfl) (by kernel_rfl) (by kernel_rfl) (fun _ _ _ h => h) (Or.inl ⟨by rfl, ?hy28_27⟩) (by assumption) ?rest28_27
  case hy28_27 => (intro w hSw; go_simp; try with_reducible rfl)
  try simp only [Act.put, List.setIfInBounds_toArray, List.set_cons_zero, List.set_cons_succ]
  refine wpAnyH_take (i := 29) (oi := { dst := some 64, op := Go.Op.pick (Go.Operand.tmp 56) (Go.Operand.const (Go.Value.bool true)) (Go.Operand.tmp 63), type := 4, pos := "law.go:92", after := #[{ on := 21, ground := Go.Ground.data }, { on := 28, ground := Go.Ground.data }], guard := none }) (v := ?_) rfl (by kernel_rfl) (by kernel_rfl) (by kernel_rfl) (fun _ _ _ h => h) (Or.inl ⟨by rfl, ?hy29_28⟩) (by assumption) ?rest29_28
  case hy29_28 => (intro w hSw; go_simp; try with_reducible rfl)
  try simp only [Act.put, List.setIfInBounds_toArray, List.set_cons_zero, List.set_cons_succ]
  refine wpAnyH_take (i := 30) (oi := { dst := some 65, op := Go.Op.move (Go.Operand.tmp 64), type := 4, pos := "law.go:92", after := #[{ on := 29, ground := Go.Ground.data }, { on := 21, ground := Go.Ground.chain }], guard := none }) (v := ?_) rfl (by kernel_rfl) (by kernel_rfl) (by kernel_rfl) (fun _ _ _ h => h) (Or.inl ⟨by rfl, ?hy30_29⟩) (by assumption) ?rest30_29
  case hy30_29 => (intro w hSw; go_simp; try with_reducible rfl)
  try simp only [Act.put, List.setIfInBounds_toArray, List.set_cons_zero, List.set_cons_succ]
  refine wpAnyH_take (i := 31) (oi := { dst := some 66, op := Go.Op.move (Go.Operand.tmp 8), type := 27, pos := "law.go:92", after := #[{ on := 30, ground := Go.Ground.guard }], guard := some (30, false) }) (v := ?_) rfl (by kernel_rfl) (by kernel_rfl) (by kernel_rfl) (fun _ _ _ h => h) (Or.inl ⟨by rfl, ?hy31_30⟩) (by assumption) ?rest31_30
  case hy31_30 => (intro w hSw; go_simp; try with_reducible rfl)
  try simp only [Act.put, List.setIfInBounds_toArray, List.set_cons_zero, List.set_cons_succ]
  refine wpAnyH_take (i := 35) (oi := { dst := some 70, op := Go.Op.move (Go.Operand.tmp 8), type := 27, pos := "law.go:92", after := #[{ on := 30, ground := Go.Ground.guard }], guard := some (30, false) }) (v := ?_) rfl (by kernel_rfl) (by kernel_rfl) (by kernel_rfl) (fun _ _ _ h => h) (Or.inl ⟨by rfl, ?hy35_31⟩) (by assumption) ?rest35_31
  case hy35_31 => (intro w hSw; go_simp; try with_reducible rfl)
  try simp only [Act.put, List.setIfInBounds_toArray, List.set_cons_zero, List.set_cons_succ]
  refine wpAnyH_take (i := 41) (oi := { dst := some 76, op := Go.Op.fieldAddr 30 (Go.Operand.tmp 7) 1, type := 0, pos := "law.go:92", after := #[{ on := 30, ground := Go.Ground.guard }], guard := some (30, false) }) (v := ?_) rfl (by kernel_rfl) (by kernel_rfl) (by kernel_rfl) (fun _ _ _ h => h) (Or.inl ⟨by rfl, ?hy41_32⟩) (by assumption) ?rest41_32
  case hy41_32 => (intro w hSw; go_simp; try with_reducible rfl)
  try simp only [Act.put, List.setIfInBounds_toArray, List.set_cons_zero, List.set_cons_succ]
  refine wpAnyH_take (i := 32) (oi := { dst := some 67, op := Go.Op.indexAddr 27 (Go.Operand.tmp 66) (Go.Operand.const (Go.Value.int Go.IntKind.i64 1)), type := 0, pos := "law.go:92", after := #[{ on := 31, ground := Go.Ground.data }, { on := 30, ground := Go.Ground.guard }], guard := some (30, false) }) (v := ?_) rfl (by kernel_rfl) (by kernel_rfl) (by kernel_rfl) (fun _ _ _ h => h) (Or.inl ⟨by rfl, ?hy32_33⟩) (by assumption) ?rest32_33
  case hy32_33 => (intro w hSw; go_simp; try with_reducible rfl)
  try simp only [Act.put, List.setIfInBounds_toArray, List.set_cons_zero, List.set_cons_succ]
  refine wpAnyH_take (i := 36) (oi := { dst := some 71, op := Go.Op.indexAddr 27 (Go.Operand.tmp 70) (Go.Operand.const (Go.Value.int Go.IntKind.i64 2)), type := 0, pos := "law.go:92", after := #[{ on := 35, ground := Go.Ground.data }, { on := 30, ground := Go.Ground.guard }], guard := some (30, false) }) (v := ?_) rfl (by kernel_rfl) (by kernel_rfl) (by kernel_rfl) (fun _ _ _ h => h) (Or.inl ⟨by rfl, ?hy36_34⟩) (by assumption) ?rest36_34
  case hy36_34 => (intro w hSw; go_simp; try with_reducible rfl)
  try simp only [Act.put, List.setIfInBounds_toArray, List.set_cons_zero, List.set_cons_succ]
  refine wpAnyH_take (i := 42) (oi := { dst := some 77, op := Go.Op.load 3 (Go.Operand.tmp 76), type := 3, pos := "law.go:92", after := #[{ on := 41, ground := Go.Ground.data }, { on := 30, ground := Go.Ground.guard }], guard := some (30, false) }) (v := ?_) rfl (by kernel_rfl) (by kernel_rfl) (by kernel_rfl) (fun _ _ _ h => h) (Or.inl ⟨by rfl, ?hy42_35⟩) (by assumption) ?rest42_35
  case hy42_35 => (intro w hSw; have zc := cell_row (j := 1) hSw.1 rfl; go_simp; try with_reducible rfl)
  try simp only [Act.put, List.setIfInBounds_toArray, List.set_cons_zero, List.set_cons_succ]
  refine wpAnyH_take (i := 33) (oi := { dst := some 68, op := Go.Op.load 5 (Go.Operand.tmp 67), type := 5, pos := "law.go:92", after := #[{ on := 32, ground := Go.Ground.data }, { on := 30, ground := Go.Ground.guard }], guard := some (30, false) }) (v := ?_) rfl (by kernel_rfl) (by kernel_rfl) (by kernel_rfl) (fun _ _ _ h => h) (Or.inl ⟨by rfl, ?hy33_36⟩) (by assumption) ?rest33_36
  case hy33_36 => (intro w hSw; have zc := HBY1.out _ hSw.2.2; go_simp; try with_reducible rfl)
  try simp only [Act.put, List.setIfInBounds_toArray, List.set_cons_zero, List.set_cons_succ]
  refine wpAnyH_take (i := 37) (oi := { dst := some 72, op := Go.Op.load 5 (Go.Operand.tmp 71), type := 5, pos := "law.go:92", after := #[{ on := 36, ground := Go.Ground.data }, { on := 30, ground := Go.Ground.guard }], guard := some (30, false) }) (v := ?_) rfl (by kernel_rfl) (by kernel_rfl) (by kernel_rfl) (fun _ _ _ h => h) (Or.inl ⟨by rfl, ?hy37_37⟩) (by assumption) ?rest37_37
  case hy37_37 => (intro w hSw; have zc := HBY2.out _ hSw.2.2; go_simp; try with_reducible rfl)
  try simp only [Act.put, List.setIfInBounds_toArray, List.set_cons_zero, List.set_cons_succ]
  refine wpAnyH_take (i := 34) (oi := { dst := some 69, op := Go.Op.convert 5 3 (Go.Operand.tmp 68), type := 3, pos := "law.go:92", after := #[{ on := 33, ground := Go.Ground.data }, { on := 30, ground := Go.Ground.guard }], guard := some (30, false) }) (v := ?_) rfl (by kernel_rfl) (by kernel_rfl) (by kernel_rfl) (fun _ _ _ h => h) (Or.inl ⟨by rfl, ?hy34_38⟩) (by assumption) ?rest34_38
  case hy34_38 => (intro w hSw; go_simp; try with_reducible rfl)
  try simp only [Act.put, List.setIfInBounds_toArray, List.set_cons_zero, List.set_cons_succ]
  refine wpAnyH_take (i := 38) (oi := { dst := some 73, op := Go.Op.convert 5 3 (Go.Operand.tmp 72), type := 3, pos := "law.go:92", after := #[{ on := 37, ground := Go.Ground.data }, { on := 30, ground := Go.Ground.guard }], guard := some (30, false) }) (v := ?_) rfl (by kernel_rfl) (by kernel_rfl) (by kernel_rfl) (fun _ _ _ h => h) (Or.inl ⟨by rfl, ?hy38_39⟩) (by assumption) ?rest38_39
  case hy38_39 => (intro w hSw; go_simp; try with_reducible rfl)
  try simp only [Act.put, List.setIfInBounds_toArray, List.set_cons_zero, List.set_cons_succ]
  refine wpAnyH_take (i := 39) (oi := { dst := some 74, op := Go.Op.binOp Go.BinOp.mul 3 (Go.Operand.const (Go.Value.int Go.IntKind.i64 256)) (Go.Operand.tmp 73) 3, type := 3, pos := "law.go:92", after := #[{ on := 38, ground := Go.Ground.data }, { on := 30, ground := Go.Ground.guard }], guard := some (30, false) }) (v := ?_) rfl (by kernel_rfl) (by kernel_rfl) (by kernel_rfl) (fun _ _ _ h => h) (Or.inl ⟨by rfl, ?hy39_40⟩) (by assumption) ?rest39_40
  case hy39_40 => (intro w hSw; go_simp; try with_reducible rfl)
  try simp only [Act.put, List.setIfInBounds_toArray, List.set_cons_zero, List.set_cons_succ]
  refine wpAnyH_take (i := 40) (oi := { dst := some 75, op := Go.Op.binOp Go.BinOp.add 3 (Go.Operand.tmp 69) (Go.Operand.tmp 74) 3, type := 3, pos := "law.go:92", after := #[{ on := 34, ground := Go.Ground.data }, { on := 39, ground := Go.Ground.data }, { on := 30, ground := Go.Ground.guard }], guard := some (30, false) }) (v := ?_) rfl (by kernel_rfl) (by kernel_rfl) (by kernel_rfl) (fun _ _ _ h => h) (Or.inl ⟨by rfl, ?hy40_41⟩) (by assumption) ?rest40_41
  case hy40_41 => (intro w hSw; go_simp; try with_reducible rfl)
  try simp only [Act.put, List.setIfInBounds_toArray, List.set_cons_zero, List.set_cons_succ]
  refine wpAnyH_take (i := 43) (oi := { dst := some 78, op := Go.Op.binOp Go.BinOp.neq 3 (Go.Operand.tmp 75) (Go.Operand.tmp 77) 3, type := 4, pos := "law.go:92", after := #[{ on := 40, ground := Go.Ground.data }, { on := 42, ground := Go.Ground.data }, { on := 30, ground := Go.Ground.guard }], guard := some (30, false) }) (v := ?_) rfl (by kernel_rfl) (by kernel_rfl) (by kernel_rfl) (fun _ _ _ h => h) (Or.inl ⟨by rfl, ?hy43_42⟩) (by assumption) ?rest43_42
  case hy43_42 => (intro w hSw; go_simp; try with_reducible rfl)
  try simp only [Act.put, List.setIfInBounds_toArray, List.set_cons_zero, List.set_cons_succ]
  refine wpAnyH_take (i := 44) (oi := { dst := some 79, op := Go.Op.pick (Go.Operand.tmp 65) (Go.Operand.const (Go.Value.bool true)) (Go.Operand.tmp 78), type := 4, pos := "law.go:92", after := #[{ on := 30, ground := Go.Ground.data }, { on := 43, ground := Go.Ground.data }], guard := none }) (v := ?_) rfl (by kernel_rfl) (by kernel_rfl) (by kernel_rfl) (fun _ _ _ h => h) (Or.inl ⟨by rfl, ?hy44_43⟩) (by assumption) ?rest44_43
  case hy44_43 => (intro w hSw; go_simp; try with_reducible rfl)
  try simp only [Act.put, List.setIfInBounds_toArray, List.set_cons_zero, List.set_cons_succ]
  refine wpAnyH_done (by kernel_rfl) ?_ _
  refine NoPanic.normal ?_
  try simp only [Act.put, List.setIfInBounds_toArray, List.set_cons_zero, List.set_cons_succ]
  have HS4 : Hid (BS w b7 #[.int .i64 op, .int .i64 by0, .int .i64 sz, .int .i64 obj, .int .u64 hi, .int .u64 lo, .bool gv, .int .i64 rt, .int .i64 off, .int .i64 n, .slice A1 nd c1, .int .i64 ix, .slice P1 ng l1] (.slice (some ⟨g2, o2, none⟩) nb c2) bb (.slice A1 nd c1) (.slice P1 ng l1) da gi w6) := Lib.hid (HS3.out.on HB6.out)
  clear SAM HBY0 HBY1 HBY2 HB3d hn3 hn0 hn1 hn2 hm0 hm1 hm2 HR10 O5' I5' HS3 HB5 HB6 hHeld
  have hk3 := HK3.out
  have h8 := HC6.out
  clear HC6
  subst h8
  go_wp2_with fail
  rw [hr4.out]
  clear hr4
  refine seq_hide (fun r6 hr6 => ?_)
  go_wp2_with (first | (go_at_call 21; (with_reducible refine (IC.out _).mono ?_); rintro e wx ⟨rfl, rfl⟩) | fail)
  clear IC HPS PAR
  have hkc : (kN : Int) ≤ (c2 : Int) := by omega
  have hkc2 : kN ≤ c2 := by omega
  have hk0 : (0 : Int) ≤ (kN : Int) := by omega
  have hkt : ((kN : Int)).toNat = kN := by omega
  rw [hr6.out]
  clear hr6
  refine seq_hide (fun r7 hr7 => ?_)
  go_wp2_with (first | (refine wpList_front27 rfl (.tmp 85) (.tmp 86) rfl (some ⟨g2, o2, none⟩) nb c2 kN rfl rfl hkc2 ?_) | (go_at_call 13; (with_reducible refine (CU.out _ _ (conv_take HS4.out.ob.reads (Nat.le_of_lt hk3))).mono ?_); rintro e w7 ⟨D6, G6, rfl, d6, g6, _, _, b6⟩; obtain ⟨A6, n6, k6, rfl⟩ : ∃ A n c, D6 = .slice A n c := (by obtain ⟨A, c, e, _⟩ := own_slice d6; exact ⟨_, _, _, e⟩); obtain ⟨P6, m6, l6, rfl⟩ : ∃ A n c, G6 = .slice A n c := (by obtain ⟨A, c, e, _⟩ := own_slice g6; exact ⟨_, _, _, e⟩); have O6 := Lib.hid d6; have B6 := Lib.hid b6; clear d6 g6 b6) | fail)
  have ba6 := (Below.refl w7.heap.size w7).alloc (Nat.le_refl _) (.cells #[.int .i64 0, .int .i64 0, .int .i64 0, .int .i64 0, .int .u64 0, .int .u64 0, .bool false, .int .i64 0, .int .i64 0, .int .i64 0, .slice A6 n6 k6, .int .i64 0, .slice P6 m6 l6] 30)
  have HRQ : Hid ((w7.alloc (.cells #[.int .i64 0, .int .i64 0, .int .i64 0, .int .i64 0, .int .u64 0, .int .u64 0, .bool false, .int .i64 0, .int .i64 0, .int .i64 0, .slice A6 n6 k6, .int .i64 0, .slice P6 m6 l6] 30)).heap[w7.heap.size]? = some (.cells #[.int .i64 0, .int .i64 0, .int .i64 0, .int .i64 0, .int .u64 0, .int .u64 0, .bool false, .int .i64 0, .int .i64 0, .int .i64 0, .slice A6 n6 k6, .int .i64 0, .slice P6 m6 l6] 30)) := Lib.hid (row_new rfl)
  have HS7 : Hid (BS w b7 #[.int .i64 8, .int .i64 by0, .int .i64 sz, .int .i64 obj, .int .u64 hi, .int .u64 lo, .bool gv, .int .i64 rt, .int .i64 off, .int .i64 n, .slice A1 nd c1, .int .i64 ix, .slice P1 ng l1] (.slice (some ⟨g2, o2, none⟩) nb c2) bb (.slice A1 nd c1) (.slice P1 ng l1) da gi (w7.alloc (.cells #[.int .i64 0, .int .i64 0, .int .i64 0, .int .i64 0, .int .u64 0, .int .u64 0, .bool false, .int .i64 0, .int .i64 0, .int .i64 0, .slice A6 n6 k6, .int .i64 0, .slice P6 m6 l6] 30))) := Lib.hid ((HS4.out.on B6.out).on ba6)
  have O6' := Lib.hid (O6.out.below ba6)
  clear ba6 HS4 O6 B6 CU
  generalize w7.alloc (.cells #[.int .i64 0, .int .i64 0, .int .i64 0, .int .i64 0, .int .u64 0, .int .u64 0, .bool false, .int .i64 0, .int .i64 0, .int .i64 0, .slice A6 n6 k6, .int .i64 0, .slice P6 m6 l6] 30) = W7 at HRQ HS7 O6' ⊢
  obtain ⟨b13, hb13⟩ : ∃ b, w7.heap.size = b := ⟨_, rfl⟩
  rw [hb13] at HRQ ⊢
  clear hb13
  have BE := Lib.hid ((Below.refl W7.heap.size W7).alloc (Nat.le_refl _) (.cells #[] 5))
  rw [hr7.out]
  clear hr7
  refine seq_hide (fun r8 hr8 => ?_)
  go_wp2_with (first | (at_builtin; refine list_app2 rfl (.tmp 92) (.tmp 93) 27 rfl 5 0 _ 1 1 Try.underlying27 info5 rfl (by decide) (by decide) (.slice (some ⟨W7.heap.size, 0, none⟩) 0 0) 0 [] rfl (made_rowC (row_new rfl)) (some ⟨g2, o2, none⟩) nb c2 (bb.map byteC) rfl (by rw [List.length_map, HNB.out, Nat.mul_one]) ((HS7.out.ob.below BE.out).reads.holds.2) one8 (by have := HMX.out; omega) (Nat.zero_le _) ?_; intro v9 w9 hw1 hw2; obtain ⟨o9, b9, f9⟩ := app_rK (w0 := W7) (zs := []) (ys := bb) HNB.out BE.out (fun b hb => Nat.le_of_eq (by simpa [Value.ownBlock] using hb)) hw1 hw2; have O9 := Lib.hid o9; have B9 := Lib.hid b9; have F9 := Lib.hid f9; clear hw1 hw2 o9 b9 f9) | (at_builtin; refine list_app2 rfl (.tmp 94) (.tmp 96) 27 rfl 5 0 _ 1 1 Try.underlying27 info5 rfl (by decide) (by decide) v9 ([] ++ bb).length _ rfl (OB.ownsK O9.out ((Below.refl _ _).alloc (Nat.le_refl _) _)) (some ⟨w9.heap.size, 0, none⟩) 1 1 [.int .u8 z] rfl rfl (holds_new _ _ _ _ _ rfl) (by simp [Value.oneCell']) (by have := HMX.out; have := HNB.out; rw [List.nil_append]; omega) (Nat.zero_le _) ?_; intro v10 w10 hw1 hw2; obtain ⟨o10, b10', f10⟩ := app_rK (w0 := W7) (zs := [] ++ bb) (ys := [z]) (n := 1) rfl (B9.out.trans (((Below.refl _ w9).alloc (Nat.le_refl _) _).mono B9.out.size)) F9.out hw1 hw2; rw [List.nil_append] at o10; have O10 := Lib.hid o10; have B10 := Lib.hid b10'; clear hw1 hw2 o10 b10' f10) | (go_at_call 13; refine (MO.out _ _ O10.out).mono ?_; rintro e w11 ⟨D7, G7, rfl, d7, g7, _, _, b11⟩; obtain ⟨A7, n7, k7, rfl⟩ : ∃ A n c, D7 = .slice A n c := (by obtain ⟨A, c, e, _⟩ := own_slice d7; exact ⟨_, _, _, e⟩); obtain ⟨P7, m7, l7, rfl⟩ : ∃ A n c, G7 = .slice A n c := (by obtain ⟨A, c, e, _⟩ := own_slice g7; exact ⟨_, _, _, e⟩); have O7 := Lib.hid d7; have B11 := Lib.hid (B10.out.trans (b11.mono B10.out.size)); clear d7 g7 b11) | fail)
  have ba7 := (Below.refl w11.heap.size w11).alloc (Nat.le_refl _) (.cells #[.int .i64 0, .int .i64 0, .int .i64 0, .int .i64 0, .int .u64 0, .int .u64 0, .bool false, .int .i64 0, .int .i64 0, .int .i64 0, .slice A7 n7 k7, .int .i64 0, .slice P7 m7 l7] 30)
  have HRR : Hid ((w11.alloc (.cells #[.int .i64 0, .int .i64 0, .int .i64 0, .int .i64 0, .int .u64 0, .int .u64 0, .bool false, .int .i64 0, .int .i64 0, .int .i64 0, .slice A7 n7 k7, .int .i64 0, .slice P7 m7 l7] 30)).heap[w11.heap.size]? = some (.cells #[.int .i64 0, .int .i64 0, .int .i64 0, .int .i64 0, .int .u64 0, .int .u64 0, .bool false, .int .i64 0, .int .i64 0, .int .i64 0, .slice A7 n7 k7, .int .i64 0, .slice P7 m7 l7] 30)) := Lib.hid (row_new rfl)
  have HS9 : Hid (BS w b7 #[.int .i64 8, .int .i64 by0, .int .i64 sz, .int .i64 obj, .int .u64 hi, .int .u64 lo, .bool gv, .int .i64 rt, .int .i64 off, .int .i64 n, .slice A1 nd c1, .int .i64 ix, .slice P1 ng l1] (.slice (some ⟨g2, o2, none⟩) nb c2) bb (.slice A1 nd c1) (.slice P1 ng l1) da gi (w11.alloc (.cells #[.int .i64 0, .int .i64 0, .int .i64 0, .int .i64 0, .int .u64 0, .int .u64 0, .bool false, .int .i64 0, .int .i64 0, .int .i64 0, .slice A7 n7 k7, .int .i64 0, .slice P7 m7 l7] 30))) := Lib.hid ((HS7.out.on B11.out).on ba7)
  have O6'' : Hid (OB (w11.alloc (.cells #[.int .i64 0, .int .i64 0, .int .i64 0, .int .i64 0, .int .u64 0, .int .u64 0, .bool false, .int .i64 0, .int .i64 0, .int .i64 0, .slice A7 n7 k7, .int .i64 0, .slice P7 m7 l7] 30)) (.slice A6 n6 k6) ([] : List Int)) := Lib.hid ((O6'.out.below B11.out).below ba7)
  have O7' : Hid (OB (w11.alloc (.cells #[.int .i64 0, .int .i64 0, .int .i64 0, .int .i64 0, .int .u64 0, .int .u64 0, .bool false, .int .i64 0, .int .i64 0, .int .i64 0, .slice A7 n7 k7, .int .i64 0, .slice P7 m7 l7] 30)) (.slice A7 n7 k7) ([] : List Int)) := Lib.hid (O7.out.below ba7)
  have HRQ' : Hid ((w11.alloc (.cells #[.int .i64 0, .int .i64 0, .int .i64 0, .int .i64 0, .int .u64 0, .int .u64 0, .bool false, .int .i64 0, .int .i64 0, .int .i64 0, .slice A7 n7 k7, .int .i64 0, .slice P7 m7 l7] 30)).heap[b13]? = some (.cells #[.int .i64 0, .int .i64 0, .int .i64 0, .int .i64 0, .int .u64 0, .int .u64 0, .bool false, .int .i64 0, .int .i64 0, .int .i64 0, .slice A6 n6 k6, .int .i64 0, .slice P6 m6 l6] 30)) := Lib.hid (row_on ba7 (row_on B11.out HRQ.out))
  clear ba7 HS7 O6' HRQ O7 O9 O10 B9 B10 B11 F9 BE MO
  generalize w11.alloc (.cells #[.int .i64 0, .int .i64 0, .int .i64 0, .int .i64 0, .int .u64 0, .int .u64 0, .bool false, .int .i64 0, .int .i64 0, .int .i64 0, .slice A7 n7 k7, .int .i64 0, .slice P7 m7 l7] 30) = W9 at HRR HRQ' HS9 O6'' O7' ⊢
  obtain ⟨b15, hb15⟩ : ∃ b, w11.heap.size = b := ⟨_, rfl⟩
  rw [hb15] at HRR ⊢
  clear hb15
  have cy0 := cell_row (j := 0) HS9.out.row rfl
  have cy10 := cell_row (j := 10) HS9.out.row rfl
  rw [hr8.out]
  clear hr8
  refine seq_hide (fun r9 hr9 => ?_)
  go_wp2_with fail
  rw [hr9.out]
  clear hr9
  refine seq_hide (fun r10 hr10 => ?_)
  go_wp2_with fail
  rw [hr10.out]
  clear hr10
  refine seq_hide (fun r12 hr12 => ?_)
  go_upto_region 12 with fail
  have cq10 := cell_row (j := 10) HRQ'.out rfl
  have cr10 := cell_row (j := 10) HRR.out rfl
  have hq9 : True := trivial
  go_quiet (fail)
  clear cq10 cr10 cy0 cy10 HRR HRQ' O6'' O7'
  have HS10 : Hid (BS w b7 #[.int .i64 8, .int .i64 by0, .int .i64 sz, .int .i64 obj, .int .u64 hi, .int .u64 lo, .bool gv, .int .i64 rt, .int .i64 off, .int .i64 n, .slice A1 nd c1, .int .i64 ix, .slice P1 ng l1] (.slice (some ⟨g2, o2, none⟩) nb c2) bb (.slice A1 nd c1) (.slice P1 ng l1) da gi (W9.drewN nq)) := Lib.hid (HS9.out.on (((Kept.refl (fun _ => False) W9).drewN nq).below (fun _ h => h.elim) (Nat.le_refl _)))
  clear HS9
  generalize W9.drewN nq = W10 at HS10 ⊢
  go_wp2_with fail
  rw [hr12.out]
  clear hr12
  refine seq_hide (fun r14 hr14 => ?_)
  go_wp2_with (first | (refine wpList_load_row rfl 30 (.tmp 7) rfl (b7) 30 #[.int .i64 8, .int .i64 by0, .int .i64 sz, .int .i64 obj, .int .u64 hi, .int .u64 lo, .bool gv, .int .i64 rt, .int .i64 off, .int .i64 n, .slice A1 nd c1, .int .i64 ix, .slice P1 ng l1] (0, 0) _ rfl HS10.out.row Try.underlying30 rfl info30 ?_) | fail)
  have ba18 := (Below.refl W10.heap.size W10).alloc (Nat.le_refl _) (.cells #[.int .i64 8, .int .i64 by0, .int .i64 sz, .int .i64 obj, .int .u64 hi, .int .u64 lo, .bool gv, .int .i64 rt, .int .i64 off, .int .i64 n, .slice A1 nd c1, .int .i64 ix, .slice P1 ng l1] 30)
  have HR18 : Hid ((W10.alloc (.cells #[.int .i64 8, .int .i64 by0, .int .i64 sz, .int .i64 obj, .int .u64 hi, .int .u64 lo, .bool gv, .int .i64 rt, .int .i64 off, .int .i64 n, .slice A1 nd c1, .int .i64 ix, .slice P1 ng l1] 30)).heap[W10.heap.size]? = some (.cells #[.int .i64 8, .int .i64 by0, .int .i64 sz, .int .i64 obj, .int .u64 hi, .int .u64 lo, .bool gv, .int .i64 rt, .int .i64 off, .int .i64 n, .slice A1 nd c1, .int .i64 ix, .slice P1 ng l1] 30)) := Lib.hid (row_new rfl)
  have HS14 : Hid (BS w b7 #[.int .i64 8, .int .i64 by0, .int .i64 sz, .int .i64 obj, .int .u64 hi, .int .u64 lo, .bool gv, .int .i64 rt, .int .i64 off, .int .i64 n, .slice A1 nd c1, .int .i64 ix, .slice P1 ng l1] (.slice (some ⟨g2, o2, none⟩) nb c2) bb (.slice A1 nd c1) (.slice P1 ng l1) da gi (W10.alloc (.cells #[.int .i64 8, .int .i64 by0, .int .i64 sz, .int .i64 obj, .int .u64 hi, .int .u64 lo, .bool gv, .int .i64 rt, .int .i64 off, .int .i64 n, .slice A1 nd c1, .int .i64 ix, .slice P1 ng l1] 30))) := Lib.hid (HS10.out.on ba18)
  have HBA := Lib.hid ba18
  clear ba18
  generalize W10.alloc (.cells #[.int .i64 8, .int .i64 by0, .int .i64 sz, .int .i64 obj, .int .u64 hi, .int .u64 lo, .bool gv, .int .i64 rt, .int .i64 off, .int .i64 n, .slice A1 nd c1, .int .i64 ix, .slice P1 ng l1] 30) = W14 at HR18 HS14 HBA ⊢
  obtain ⟨b18, hb18⟩ : ∃ b, W10.heap.size = b := ⟨_, rfl⟩
  rw [hb18] at HR18 ⊢
  have HB18 := Lib.hid hb18
  clear hb18
  have cy0 := cell_row (j := 0) HS14.out.row rfl
  have y1 := cell_row (j := 7) HR18.out rfl
  have z1 := free_row (j := 7) HR18.out
  rw [hr14.out]
  clear hr14
  refine seq_hide (fun r15 hr15 => ?_)
  go_wp2_with fail
  have kk : Kept (fun b => b = b18) W14 (W14.setCell ⟨b18, 7, none⟩ (.int .i64 1)) := (Kept.refl (fun b => b = b18) _).setCell (p := ⟨b18, 7, none⟩) (.inl rfl) _
  have HS15 : Hid (BS w b7 #[.int .i64 8, .int .i64 by0, .int .i64 sz, .int .i64 obj, .int .u64 hi, .int .u64 lo, .bool gv, .int .i64 rt, .int .i64 off, .int .i64 n, .slice A1 nd c1, .int .i64 ix, .slice P1 ng l1] (.slice (some ⟨g2, o2, none⟩) nb c2) bb (.slice A1 nd c1) (.slice P1 ng l1) da gi (W14.setCell ⟨b18, 7, none⟩ (.int .i64 1))) := Lib.hid (HS10.out.on (HBA.out.trans (kk.below (B := W10.heap.size) (fun x hx => by have h3 : x = b18 := hx; have := HB18.out; omega) HBA.out.size)))
  have HR15 : Hid ((W14.setCell ⟨b18, 7, none⟩ (.int .i64 1)).heap[b18]? = some (.cells #[.int .i64 8, .int .i64 by0, .int .i64 sz, .int .i64 obj, .int .u64 hi, .int .u64 lo, .bool gv, .int .i64 1, .int .i64 off, .int .i64 n, .slice A1 nd c1, .int .i64 ix, .slice P1 ng l1] 30)) := Lib.hid (heap_setCell_same _ _ 7 _ _ (.int .i64 1) HR18.out)
  clear kk HS14 HS10 HR18 cy0 y1 z1 HBA HB18
  generalize W14.setCell ⟨b18, 7, none⟩ (.int .i64 1) = W15 at HS15 HR15 ⊢
  have BY8 := bytes_any W15 ⟨8, by0, sz, obj, hi, lo, gv, 1, off, n, da, ix, gi⟩ (.slice A1 nd c1) (.slice P1 ng l1) HS15.out.rd HS15.out.ri HGL.out HFA.out.1 HFA.out.2.1
  rw [show encE ⟨8, by0, sz, obj, hi, lo, gv, 1, off, n, da, ix, gi⟩ = 1 from (not_form (spoilt_rt (c := ⟨8, by0, sz, obj, hi, lo, gv, rt, off, n, da, ix, gi⟩) rfl)).1] at BY8
  unfold cv cells at BY8
  simp only at BY8
  replace BY8 := Lib.hid BY8
  rw [hr15.out]
  clear hr15
  refine seq_hide (fun r18 hr18 => ?_)
  go_wp2_with (first | (refine wpList_load_row rfl 30 (.tmp 18) rfl (b18) 30 #[.int .i64 8, .int .i64 by0, .int .i64 sz, .int .i64 obj, .int .u64 hi, .int .u64 lo, .bool gv, .int .i64 1, .int .i64 off, .int .i64 n, .slice A1 nd c1, .int .i64 ix, .slice P1 ng l1] (0, 0) _ rfl HR15.out Try.underlying30 rfl info30 ?_) | (go_at_call 9; (with_reducible refine BY8.out.mono ?_); rintro e w16 ⟨v16, rfl, _, b16, _⟩; have HS16 := Lib.hid (HS15.out.on b16); clear b16) | fail)
  clear HS15 HR15 BY8
  have hr := HRR_.out
  have hr0 : 0 ≤ r ∧ r < 240 := by omega
  have htm : z.tmod 240 = r := by rw [Int.tmod_eq_emod_of_nonneg HZ.out.1]; exact hr
  have hs := HSS_.out
  have hwz : IntKind.i64.wrap z = z := by have := HZ.out; rw [IntKind.wrap_i64]; omega
  have hwr : IntKind.i64.wrap r = r := by rw [IntKind.wrap_i64]; omega
  have hws : IntKind.i64.wrap (11 + r) = s := by rw [IntKind.wrap_i64]; omega
  have hwu : IntKind.u8.wrap s = s := by rw [IntKind.wrap_u8]; omega
  have hs11 : 11 ≤ s := by omega
  have hs256 : 0 ≤ s ∧ s < 256 := by omega
  have hb1 : (1 : Int) ≤ (nb : Int) := by have := HMX.out; omega
  have hb2 : (nb : Int) ≤ (c2 : Int) := by omega
  have hb3 : 1 ≤ nb := by have := HMX.out; omega
  have hb4 : ¬ c2 = 1 := by have := HMX.out; omega
  have HDRp := Lib.hid (HS16.out.ob.reads.dropKQ 1)
  have hdl : (bb.drop 1).length = nb - 1 := by rw [List.length_drop, HNB.out]
  rw [hdl] at HDRp
  have HDL := Lib.hid hdl
  have BE := Lib.hid ((Below.refl w16.heap.size w16).alloc (Nat.le_refl _) (.cells #[.int .u8 s] 5))
  clear hr hs hdl hs256 hs11 hr0
  rw [hr18.out]
  clear hr18
  refine seq_hide (fun r19 hr19 => ?_)
  go_wp2_with (first | (refine wpList_from27 rfl (.tmp 182) (.const (.int .i64 1)) rfl g2 o2 nb c2 1 rfl rfl hb3 (by omega) hb4 ?_) | (at_builtin; refine list_app2 rfl (.tmp 181) (.tmp 183) 27 rfl 5 0 _ 1 1 Try.underlying27 info5 rfl (by decide) (by decide) (.slice (some ⟨w16.heap.size, 0, none⟩) 1 1) 1 [.int .u8 s] rfl (made_one (row_new rfl)) (some ⟨g2, o2 + 1, none⟩) (nb - 1) (c2 - 1) ((bb.drop 1).map byteC) rfl (by rw [List.length_map, HDL.out, Nat.mul_one]) ((RB.holds (HDRp.out.below BE.out)).2) one8 (by have := HMX.out; omega) (Nat.zero_le _) ?_; intro v17 w17 hw1 hw2; obtain ⟨o17, b17, f17⟩ := app_rK (w0 := w16) (zs := [s]) (ys := bb.drop 1) HDL.out BE.out (fun b hb => Nat.le_of_eq (by simpa [Value.ownBlock] using hb)) hw1 hw2; have O17 := Lib.hid o17; have B17 := Lib.hid b17; clear hw1 hw2 o17 b17 f17) | (go_at_call 13; refine (FI.out _ _ O17.out).mono ?_; rintro e w18 ⟨D8, G8, rfl, d8, g8, _, _, b18'⟩; obtain ⟨A8, n8, k8, rfl⟩ : ∃ A n c, D8 = .slice A n c := (by obtain ⟨A, c, e, _⟩ := own_slice d8; exact ⟨_, _, _, e⟩); obtain ⟨P8, m8, l8, rfl⟩ : ∃ A n c, G8 = .slice A n c := (by obtain ⟨A, c, e, _⟩ := own_slice g8; exact ⟨_, _, _, e⟩); have B18 := Lib.hid (B17.out.trans (b18'.mono B17.out.size)); clear d8 g8 b18') | fail)
  have HBE : Hid (Below w.heap.size w w18) := Lib.hid (HS16.out.below.trans (B18.out.mono HS16.out.below.size))
  have HB19 : Hid (Below w.heap.size w (w18.alloc (.cells #[.int .i64 0, .int .i64 0, .int .i64 0, .int .i64 0, .int .u64 0, .int .u64 0, .bool false, .int .i64 0, .int .i64 0, .int .i64 0, .slice A8 n8 k8, .int .i64 0, .slice P8 m8 l8] 30))) := Lib.hid (HBE.out.alloc HBE.out.size _)
  have y0 : (w18.alloc (.cells #[.int .i64 0, .int .i64 0, .int .i64 0, .int .i64 0, .int .u64 0, .int .u64 0, .bool false, .int .i64 0, .int .i64 0, .int .i64 0, .slice A8 n8 k8, .int .i64 0, .slice P8 m8 l8] 30)).cell? ⟨w18.heap.size, 0, none⟩ = some (.int .i64 0) := cell_row (row_new rfl) rfl
  rw [hr19.out]
  clear hr19
  go_wp2
  go_ret
  exact ⟨by first | rfl | exact ret_bool rfl (by simp), HB19.out⟩
end Go.Proofs.Ytfpkdbogapmhmaa.O

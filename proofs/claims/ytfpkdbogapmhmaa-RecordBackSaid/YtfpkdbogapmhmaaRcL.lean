/- Record: Answer writes a reply (written by gen_rcl.py). -/
import Derived.Test.YtfpkdbogapmhmaaRcK
namespace Go.Proofs.Ytfpkdbogapmhmaa.O
open Go.RowKit Go.Proofs.Ytfpkdbogapmhmaa.Mem
set_option linter.unusedVariables false
set_option linter.unusedSimpArgs false
def ansO (op : Int) (r : Rp) : List Int := if toldR op r then encR op r else []
def ansE (op : Int) (r : Rp) : Int := if toldR op r then 0 else 1
set_option maxHeartbeats 4000000 in
set_option maxRecDepth 100000 in
theorem answer_no (w : World) (op : Int) (r : Rp) (D : Value) (hD : SL D r.da.length) (hf : ¬ toldR op r) :
    Calls Try.prog 15 #[.int .i64 op, rv r D] w fun e w' => e = .returned (.tuple #[.slice none 0 0, .int .i64 1]) ∧ Below w.heap.size w w' := by
  have HT := Lib.hid (fun a => by
    have := told_any a op r D hD
    rwa [decide_eq_false hf] at this)
  have HBX := Lib.hid (fun R => (Below.refl w.heap.size w).alloc (Nat.le_refl _) (.cells R 45))
  clear hD hf
  obtain ⟨code, obj, hi, lo, da, nu⟩ := r
  unfold rv rcells at HT ⊢
  simp only at HT ⊢
  go_enter Try.func15, Try.ntmps15
  go_wp2_with (first | (go_at_call 41; (with_reducible refine (HT.out _).mono ?_); rintro e w1 ⟨rfl, hb1⟩; have HB := Lib.hid hb1; clear hb1) | fail)
  go_ret2
  exact ⟨rfl, (HBX.out _).trans (HB.out.mono (HBX.out _).size)⟩
set_option maxHeartbeats 4000000 in
set_option maxRecDepth 100000 in
theorem answer_ok (w : World) (op : Int) (r : Rp) (D : Value) (hD : RB w D r.da) (hh : U64 r.hi) (hl : U64 r.lo) (hf : toldR op r) :
    Calls Try.prog 15 #[.int .i64 op, rv r D] w fun e w' => ∃ v, e = .returned (.tuple #[v, .int .i64 0]) ∧ OB w' v (encR op r) ∧ Below w.heap.size w w' ∧ Fresh w v := by
  have HT := Lib.hid (fun a => by
    have := told_any a op r D hD.sl
    rwa [decide_eq_true hf] at this)
  have HD := Lib.hid hD
  obtain ⟨⟨ho, hc, h00⟩, _, hob, hnu, hdl⟩ := hf
  obtain ⟨code, obj, hi, lo, da, nu⟩ := r
  obtain ⟨Ad, cd, rfl⟩ : SL D da.length := hD.sl
  obtain ⟨nd, hnd⟩ : ∃ nd, da.length = nd := ⟨_, rfl⟩
  simp only [hnd] at hc hob hnu hdl hh hl HD
  unfold rv rcells at HT ⊢
  simp only [hnd] at HT ⊢
  have HND := Lib.hid hnd
  have HBX := Lib.hid ((Below.refl w.heap.size w).alloc (Nat.le_refl _) (.cells #[.int .i64 code, .int .i64 obj, .int .u64 hi, .int .u64 lo, .slice Ad nd cd, .int .i64 nu] 45))
  have HRW : Hid ((w.alloc (.cells #[.int .i64 code, .int .i64 obj, .int .u64 hi, .int .u64 lo, .slice Ad nd cd, .int .i64 nu] 45)).heap[w.heap.size]? = some (.cells #[.int .i64 code, .int .i64 obj, .int .u64 hi, .int .u64 lo, .slice Ad nd cd, .int .i64 nu] 45)) := row_new rfl
  obtain ⟨B, hB⟩ : ∃ B, w.heap.size = B := ⟨_, rfl⟩
  have HBB := Lib.hid hB
  have HH := Lib.hid (And.intro hob (And.intro hnu (And.intro hdl (And.intro hh hl))))
  have hw1 : IntKind.u16.wrap code = code := by rw [IntKind.wrap_u16]; omega
  have hw2 : IntKind.u16.wrap nu = nu := by rw [IntKind.wrap_u16]; omega
  have P1 := Lib.hid (fun a => put2_g a (.slice none 0 0) [] code (by omega) (by omega) (by decide) (OB.nil a).reads)
  clear hD hnd hob hnu hdl hh hl hc h00 ho
  by_cases h0 : code = 0
  · subst h0
    by_cases h1 : op = 1
    · subst h1
      have P2 := Lib.hid (fun a va (ha : OB a va ([] ++ le 2 0)) => capable_any a va _ obj hi lo HH.out.1.1 HH.out.1.2 HH.out.2.2.2.1 HH.out.2.2.2.2 (by simp [le_len]) ha.reads)
      rw [show encR 1 ⟨0, obj, hi, lo, da, nu⟩ = ([] ++ le 2 0) ++ capB obj hi lo by simp [encR]]
      go_enter Try.func15, Try.ntmps15
      go_wp2_with (first | (go_at_call 41; (with_reducible refine (HT.out _).mono ?_); rintro e w1 ⟨rfl, hb1⟩; have hrow := row_on hb1 HRW.out; rw [hB] at hrow; have HROW := Lib.hid hrow; have y0 := cell_row (j := 0) hrow rfl; have HW1 : Hid (Below w.heap.size w w1) := Lib.hid (HBX.out.trans (hb1.mono HBX.out.size)); clear hb1 hrow) | (go_at_call 25; (with_reducible refine (P1.out _).mono ?_); rintro e w2 ⟨v2, rfl, o2, hb2, f2⟩; have O2 := Lib.hid o2; have HW2 : Hid (Below w.heap.size w w2) := Lib.hid (HW1.out.trans (hb2.mono HW1.out.size)); have hrow2 := row_on hb2 HROW.out; have y2_0 := cell_row (j := 0) hrow2 rfl; have y2_1 := cell_row (j := 1) hrow2 rfl; have y2_2 := cell_row (j := 2) hrow2 rfl; have y2_3 := cell_row (j := 3) hrow2 rfl; skip; clear hrow2) | (go_at_call 28; (with_reducible refine (P2.out _ _ O2.out).mono ?_); rintro e w3 ⟨v3, rfl, o3, hb3, f3⟩) | fail)
      go_ret2
      exact ⟨_, rfl, o3, HW2.out.trans (hb3.mono HW2.out.size), fun b e => Nat.le_trans HW2.out.size (f3 b e)⟩
    by_cases h3 : op = 3
    · subst h3
      have P2 := Lib.hid (fun a va (ha : OB a va ([] ++ le 2 0)) => capable_any a va _ obj hi lo HH.out.1.1 HH.out.1.2 HH.out.2.2.2.1 HH.out.2.2.2.2 (by simp [le_len]) ha.reads)
      rw [show encR 3 ⟨0, obj, hi, lo, da, nu⟩ = ([] ++ le 2 0) ++ capB obj hi lo by simp [encR]]
      go_enter Try.func15, Try.ntmps15
      go_wp2_with (first | (go_at_call 41; (with_reducible refine (HT.out _).mono ?_); rintro e w1 ⟨rfl, hb1⟩; have hrow := row_on hb1 HRW.out; rw [hB] at hrow; have HROW := Lib.hid hrow; have y0 := cell_row (j := 0) hrow rfl; have HW1 : Hid (Below w.heap.size w w1) := Lib.hid (HBX.out.trans (hb1.mono HBX.out.size)); clear hb1 hrow) | (go_at_call 25; (with_reducible refine (P1.out _).mono ?_); rintro e w2 ⟨v2, rfl, o2, hb2, f2⟩; have O2 := Lib.hid o2; have HW2 : Hid (Below w.heap.size w w2) := Lib.hid (HW1.out.trans (hb2.mono HW1.out.size)); have hrow2 := row_on hb2 HROW.out; have y2_0 := cell_row (j := 0) hrow2 rfl; have y2_1 := cell_row (j := 1) hrow2 rfl; have y2_2 := cell_row (j := 2) hrow2 rfl; have y2_3 := cell_row (j := 3) hrow2 rfl; skip; clear hrow2) | (go_at_call 28; (with_reducible refine (P2.out _ _ O2.out).mono ?_); rintro e w3 ⟨v3, rfl, o3, hb3, f3⟩) | fail)
      go_ret2
      exact ⟨_, rfl, o3, HW2.out.trans (hb3.mono HW2.out.size), fun b e => Nat.le_trans HW2.out.size (f3 b e)⟩
    by_cases h5 : op = 5
    · subst h5
      rw [show encR 5 ⟨0, obj, hi, lo, da, nu⟩ = ([] ++ le 2 0) ++ da by simp [encR]]
      go_enter Try.func15, Try.ntmps15
      go_wp2_with (first | (go_at_call 41; (with_reducible refine (HT.out _).mono ?_); rintro e w1 ⟨rfl, hb1⟩; have hrow := row_on hb1 HRW.out; rw [hB] at hrow; have HROW := Lib.hid hrow; have y0 := cell_row (j := 0) hrow rfl; have HW1 : Hid (Below w.heap.size w w1) := Lib.hid (HBX.out.trans (hb1.mono HBX.out.size)); clear hb1 hrow) | (go_at_call 25; (with_reducible refine (P1.out _).mono ?_); rintro e w2 ⟨v2, rfl, o2, hb2, f2⟩; have O2 := Lib.hid o2; have HW2 : Hid (Below w.heap.size w w2) := Lib.hid (HW1.out.trans (hb2.mono HW1.out.size)); have hrow2 := row_on hb2 HROW.out; have y2_0 := cell_row (j := 0) hrow2 rfl; have y2_4 := cell_row (j := 4) hrow2 rfl; obtain ⟨A4, n4, c4, rfl⟩ : ∃ A n c, v2 = .slice A n c := (by obtain ⟨A, c, e, _⟩ := own_slice o2; exact ⟨_, _, _, e⟩); clear hrow2) | (go_at_call 30; (refine (join2_g w2 (.slice A4 n4 c4) (.slice Ad nd cd) ([] ++ le 2 0) da 27 (by simp [le_len]; have h1 := HH.out.2.2.1; have h2 := HND.out; omega) O2.out.reads (HD.out.below HW2.out)).mono ?_); rintro e w3 ⟨v3, rfl, o3, hb3, f3⟩) | fail)
      go_ret2
      exact ⟨_, rfl, o3, HW2.out.trans (hb3.mono HW2.out.size), fun b e => Nat.le_trans HW2.out.size (f3 b e)⟩
    by_cases h9 : op = 9
    · subst h9
      have P2 := Lib.hid (fun a va (ha : OB a va ([] ++ le 2 0)) => put2_g a va _ nu HH.out.2.1.1 (by have := HH.out.2.1.2; omega) (by simp [le_len]) ha.reads)
      rw [show encR 9 ⟨0, obj, hi, lo, da, nu⟩ = ([] ++ le 2 0) ++ le 2 nu by simp [encR]]
      go_enter Try.func15, Try.ntmps15
      go_wp2_with (first | (go_at_call 41; (with_reducible refine (HT.out _).mono ?_); rintro e w1 ⟨rfl, hb1⟩; have hrow := row_on hb1 HRW.out; rw [hB] at hrow; have HROW := Lib.hid hrow; have y0 := cell_row (j := 0) hrow rfl; have HW1 : Hid (Below w.heap.size w w1) := Lib.hid (HBX.out.trans (hb1.mono HBX.out.size)); clear hb1 hrow) | (go_at_call 25; (with_reducible refine (P1.out _).mono ?_); rintro e w2 ⟨v2, rfl, o2, hb2, f2⟩; have O2 := Lib.hid o2; have HW2 : Hid (Below w.heap.size w w2) := Lib.hid (HW1.out.trans (hb2.mono HW1.out.size)); have hrow2 := row_on hb2 HROW.out; have y2_0 := cell_row (j := 0) hrow2 rfl; have y2_5 := cell_row (j := 5) hrow2 rfl; skip; clear hrow2) | (skip; go_at_call 25; (with_reducible refine (P2.out _ _ O2.out).mono ?_); rintro e w3 ⟨v3, rfl, o3, hb3, f3⟩) | fail)
      go_ret2
      exact ⟨_, rfl, o3, HW2.out.trans (hb3.mono HW2.out.size), fun b e => Nat.le_trans HW2.out.size (f3 b e)⟩
    rw [show encR op ⟨0, obj, hi, lo, da, nu⟩ = [] ++ le 2 0 by simp [encR, h1, h3, h5, h9]]
    go_enter Try.func15, Try.ntmps15
    go_wp2_with (first | (go_at_call 41; (with_reducible refine (HT.out _).mono ?_); rintro e w1 ⟨rfl, hb1⟩; have hrow := row_on hb1 HRW.out; rw [hB] at hrow; have HROW := Lib.hid hrow; have y0 := cell_row (j := 0) hrow rfl; have HW1 : Hid (Below w.heap.size w w1) := Lib.hid (HBX.out.trans (hb1.mono HBX.out.size)); clear hb1 hrow) | (go_at_call 25; (with_reducible refine (P1.out _).mono ?_); rintro e w2 ⟨v2, rfl, o2, hb2, f2⟩; have O2 := Lib.hid o2; have HW2 : Hid (Below w.heap.size w w2) := Lib.hid (HW1.out.trans (hb2.mono HW1.out.size)); have hrow2 := row_on hb2 HROW.out; have y2_0 := cell_row (j := 0) hrow2 rfl; skip; clear hrow2) | fail)
    go_ret2
    exact ⟨_, rfl, O2.out, HW2.out, fun b e => Nat.le_trans HW1.out.size (f2 b e)⟩
  · rw [show encR op ⟨code, obj, hi, lo, da, nu⟩ = [] ++ le 2 code by simp [encR, h0]]
    have d0 : (code != 0) = true := by simpa using h0
    go_enter Try.func15, Try.ntmps15
    go_wp2_with (first | (go_at_call 41; (with_reducible refine (HT.out _).mono ?_); rintro e w1 ⟨rfl, hb1⟩; have hrow := row_on hb1 HRW.out; rw [hB] at hrow; have HROW := Lib.hid hrow; have y0 := cell_row (j := 0) hrow rfl; have HW1 : Hid (Below w.heap.size w w1) := Lib.hid (HBX.out.trans (hb1.mono HBX.out.size)); clear hb1 hrow) | (go_at_call 25; (with_reducible refine (P1.out _).mono ?_); rintro e w2 ⟨v2, rfl, o2, hb2, f2⟩; have O2 := Lib.hid o2; have HW2 : Hid (Below w.heap.size w w2) := Lib.hid (HW1.out.trans (hb2.mono HW1.out.size)); have hrow2 := row_on hb2 HROW.out; have y2_0 := cell_row (j := 0) hrow2 rfl; skip; clear hrow2) | fail)
    go_ret2
    exact ⟨_, rfl, o2, HW1.out.trans (hb2.mono HW1.out.size), fun b e => Nat.le_trans HW1.out.size (f2 b e)⟩
theorem answer_any (w : World) (op : Int) (r : Rp) (D : Value) (hD : RB w D r.da) (hh : U64 r.hi) (hl : U64 r.lo) :
    Calls Try.prog 15 #[.int .i64 op, rv r D] w fun e w' => ∃ v, e = .returned (.tuple #[v, .int .i64 (ansE op r)]) ∧ OB w' v (ansO op r) ∧ Below w.heap.size w w' ∧ Fresh w v := by
  by_cases hf : toldR op r
  · unfold ansE ansO
    rw [if_pos hf, if_pos hf]
    exact answer_ok w op r D hD hh hl hf
  · unfold ansE ansO
    rw [if_neg hf, if_neg hf]
    exact (answer_no w op r D hD.sl hf).mono (fun e w' ⟨h1, h2⟩ => ⟨_, h1, OB.nil _, h2, fresh_nil _⟩)
end Go.Proofs.Ytfpkdbogapmhmaa.O

/- Record: reading a reply off a tape (written by gen_rcm.py). -/
import Derived.Test.YtfpkdbogapmhmaaRcL
import Derived.Test.YtfpkdbogapmhmaaRcH
namespace Go.Proofs.Ytfpkdbogapmhmaa.O
open Go.RowKit Go.Proofs.Ytfpkdbogapmhmaa.Mem
set_option linter.unusedVariables false
set_option linter.unusedSimpArgs false
/-- What reading a reply answers. -/
def QP (o : Option Rp) (r : Nat) (w : World) (e : Ending) (w' : World) : Prop :=
  match o with
  | some x => (∃ D, e = .returned (rv x D) ∧ OB w' D x.da ∧ Fresh w D) ∧ Kept (fun b => b = r) w w'
  | none => e = .panicked ENDED ∧ Kept (fun b => b = r) w w'
theorem qp_some {x : Rp} {r A C : Nat} {w W : World} {L : List (Nat × Obj)} {zs : List Int} {F : Nat → Prop} {D : Value} (h : TI w r C L (rcells x D) 45 zs F W) (hC : w.heap.size ≤ C) (hA : w.heap.size ≤ A) (cs : Array Value) (hD : OB (W.setRow A cs) D x.da) (fD : Fresh w D) : QP (some x) r w (.returned (rv x D)) (W.setRow A cs) :=
  ⟨⟨D, rfl, hD, fD⟩, (h.kept' hC).setRow (.inr hA) cs⟩
set_option maxHeartbeats 4000000 in
set_option maxRecDepth 100000 in
theorem reply_t (w : World) (r : Nat) (op : Int) (zs : List Int) (F0 : Nat → Prop) (h0 : Rd 95 w r zs F0) (hB : Bytes zs) (hlen : zs.length ≤ 140737488351300) :
    Calls Try.prog 46 #[.agg #[.pointer (some ⟨r, 0, none⟩)], .int .i64 op] w fun e w' => QP (readR op zs) r w e w' := by
  suffices ∀ R : Ending → World → Prop, (∀ e w', QP (readR op zs) r w e w' → R e w') → Calls Try.prog 46 #[.agg #[.pointer (some ⟨r, 0, none⟩)], .int .i64 op] w R from this _ (fun _ _ h => h)
  intro R HR
  replace HR := Lib.hid HR
  have HBZ := Lib.hid hB
  have HLN := Lib.hid hlen
  obtain ⟨F, hFe⟩ : ∃ F : Nat → Prop, F = fun b => F0 b ∧ b < w.heap.size := ⟨_, rfl⟩
  have h : Rd 95 w r zs F := hFe ▸ h0.tight
  obtain ⟨B, hBe⟩ : ∃ B, w.heap.size = B := ⟨_, rfl⟩
  have hr := h.lt
  obtain ⟨L, hL⟩ : ∃ L : List (Nat × Obj), L = [(B, .cells #[.pointer (some ⟨r, 0, none⟩)] 77), (B + 1, .cells #[.int .i64 0, .int .i64 0, .int .u64 0, .int .u64 0, .slice none 0 0, .int .i64 0] 45)] := ⟨_, rfl⟩
  have HLB : Hid ((B, Obj.cells #[.pointer (some ⟨r, 0, none⟩)] 77) ∈ L) := Lib.hid (by rw [hL]; simp)
  have HLA : Hid ((B + 1, Obj.cells #[.int .i64 0, .int .i64 0, .int .u64 0, .int .u64 0, .slice none 0 0, .int .i64 0] 45) ∈ L) := Lib.hid (by rw [hL]; simp)
  have HTB : Hid (TB w r L F) := by
    refine ⟨fun x hx => ?_, fun b hb => by rw [hFe] at hb; exact hb.2, hr⟩
    rw [hL] at hx
    rcases List.mem_cons.1 hx with rfl | hx
    · show B ≠ r; omega
    · obtain rfl := List.mem_singleton.1 hx; show B + 1 ≠ r; omega
  have hbx : Below w.heap.size w ((w.alloc (.cells #[.pointer (some ⟨r, 0, none⟩)] 77)).alloc (.cells #[.int .i64 0, .int .i64 0, .int .u64 0, .int .u64 0, .slice none 0 0, .int .i64 0] 45)) := ((Below.refl _ w).alloc (Nat.le_refl _) _).alloc (by simp) _
  have hstart : Hid (TJ w r L zs F ((w.alloc (.cells #[.pointer (some ⟨r, 0, none⟩)] 77)).alloc (.cells #[.int .i64 0, .int .i64 0, .int .u64 0, .int .u64 0, .slice none 0 0, .int .i64 0] 45))) := by
    refine ⟨fun x hx => ?_, h.below hbx, Kept.of_below hbx⟩
    rw [hL] at hx
    rcases List.mem_cons.1 hx with rfl | hx
    · exact row_on ((Below.refl _ _).alloc (Nat.le_refl _) _) (row_new hBe.symm)
    · obtain rfl := List.mem_singleton.1 hx; exact row_new (by simp [hBe])
  have HBE := Lib.hid hBe
  have HAB : Hid (w.heap.size ≤ B + 1) := Lib.hid (by omega)
  clear h h0 hB hr hL hbx hFe hlen
  go_enter Try.func46, Try.ntmps46
  go_wp2_with fail
  generalize (w.alloc (.cells #[.pointer (some ⟨r, 0, none⟩)] 77)).alloc (.cells #[.int .i64 0, .int .i64 0, .int .u64 0, .int .u64 0, .slice none 0 0, .int .i64 0] 45) = W9 at hstart ⊢
  refine (number_t' W9 r zs F hstart.out.rd HBZ.out 2 (by unfold Wd; omega) 2 rfl).mono ?_
  rintro e X1 ht1
  rcases hn1 : num 2 zs with _ | ⟨x1, z1⟩ <;> rw [hn1] at ht1 <;> unfold TP at ht1 <;> simp only at ht1
  · obtain ⟨rfl, hk1⟩ := ht1
    have HK1 := Lib.hid (hstart.out.kept.trans hk1 (fun b hb => .inl hb))
    have hrd : readR op zs = none := by unfold readR; rw [hn1]; rfl
    rw [hrd] at HR
    clear hk1 hn1 hrd
    go_wp2
    exact ⟨by first | rfl | trivial, HR.out _ _ ⟨rfl, HK1.out⟩⟩
  obtain ⟨rfl, hr1, hk1⟩ := ht1
  have J1 := Lib.hid (hstart.out.on HTB.out hr1 hk1)
  have HBY := Lib.hid (num_bytes HBZ.out hn1)
  have HL1 : Hid (z1.length ≤ 140737488351300) := Lib.hid (by have h1 := num_le' hn1; have := HLN.out; simp only at h1; omega)
  have q1 : X1.cell? ⟨B, 0, none⟩ = some (.pointer (some ⟨r, 0, none⟩)) := cell_row (J1.out.fix (B, _) HLB.out) rfl
  have hbq : B < X1.heap.size := lt_of_row (J1.out.fix (B, _) HLB.out)
  have hbn := Nat.ne_of_lt hbq
  by_cases h00 : x1 = 0
  rotate_left
  · have d0 : (x1 != 0) = true := by simpa using h00
    have hrd : readR op zs = some { zr with code := x1 } := by unfold readR; rw [hn1]; simp only [Option.bind_some]; rw [if_pos h00]
    rw [hrd] at HR
    have KT := Lib.hid (J1.out.alloc HTB.out #[.int .i64 x1, .int .i64 0, .int .u64 0, .int .u64 0, .slice none 0 0, .int .i64 0] 45)
    have HC := Lib.hid J1.out.kept.size
    clear hr1 hk1 hn1 hrd
    go_wp2_with (first | (refine wpList_store_row rfl 45 (.tmp 4) (.tmp 12) rfl (B + 1) 45 #[.int .i64 0, .int .i64 0, .int .u64 0, .int .u64 0, .slice none 0 0, .int .i64 0] #[.int .i64 x1, .int .i64 0, .int .u64 0, .int .u64 0, .slice none 0 0, .int .i64 0] rfl rfl (KT.out.fix (B + 1, _) HLA.out) info45 rfl (by simp [Value.oneCell']) ?_) | fail)
    refine bodyPost_ret (results_cell_row rfl _ _ (B + 1) 45 #[.int .i64 x1, .int .i64 0, .int .u64 0, .int .u64 0, .slice none 0 0, .int .i64 0] (0, 0) _ rfl (setRow_heap _ _ _ _ _ _ (KT.out.fix (B + 1, _) HLA.out)) Try.underlying45 rfl info45) rfl (HR.out _ _ ?_)
    exact qp_some (x := ⟨x1, 0, 0, 0, [], 0⟩) KT.out HC.out HAB.out _ (OB.nil _) (fresh_nil _)
  subst h00
  have hrd : readR op zs = (if op = 1 ∨ op = 3 then (capR z1).map fun y => { zr with code := 0, obj := y.1.1, hi := y.1.2.1, lo := y.1.2.2 } else if op = 5 then some { zr with code := 0, da := z1 } else if op = 9 then (num 2 z1).map fun y => { zr with code := 0, nu := y.1 } else some { zr with code := 0 }) := by unfold readR; rw [hn1]; rfl
  rw [hrd] at HR
  obtain ⟨C, hC⟩ : ∃ C, X1.heap.size = C := ⟨_, rfl⟩
  have hti := J1.out.alloc HTB.out #[.int .i64 0, .int .i64 0, .int .u64 0, .int .u64 0, .slice none 0 0, .int .i64 0] 45
  have hta := J1.out.ta HTB.out
  have hcs := J1.out.kept.size
  rw [hC] at hti hta hcs
  have HTI := Lib.hid hti
  have HTA := Lib.hid hta
  have HC := Lib.hid hcs
  have q0 : (X1.alloc (.cells #[.int .i64 0, .int .i64 0, .int .u64 0, .int .u64 0, .slice none 0 0, .int .i64 0] 45)).cell? ⟨B, 0, none⟩ = some (.pointer (some ⟨r, 0, none⟩)) := cell_row (hti.fix (B, _) HLB.out) rfl
  have HCC := Lib.hid hC
  clear hr1 hk1 hn1 hrd hti hta hcs q1 J1 hbq hbn
  by_cases o1 : op = 1
  · subst o1
    rw [if_pos (by omega)] at HR
    go_wp2_with fail
    refine at_any (fun W => TI w r C L #[.int .i64 0, .int .i64 0, .int .u64 0, .int .u64 0, .slice none 0 0, .int .i64 0] 45 z1 F W) (HTI.out) (fun W2 hI2 => ?_)
    have I2 := Lib.hid hI2
    clear hI2
    refine (cap_t W2 r z1 F I2.out.rd HBY.out.1).mono ?_
    rintro e X2 ht2
    rcases hn2 : capR z1 with _ | ⟨⟨x2, x3, x4⟩, z2⟩ <;> rw [hn2] at ht2 <;> unfold TP at ht2 <;> simp only at ht2
    · obtain ⟨rfl, hk2⟩ := ht2
      have HK2 := Lib.hid (I2.out.far hk2)
      have HN2 := Lib.hid hn2
      clear hk2 hn2
      go_wp2
      refine ⟨by first | rfl | trivial, HR.out _ _ ?_⟩
      rw [HN2.out]
      exact ⟨by first | rfl | trivial, kept_new HK2.out HC.out⟩
    obtain ⟨rfl, hr2, hk2⟩ := ht2
    have HN2 := Lib.hid hn2
    have hB2 := cap_bytes HBY.out.1 hn2
    have HB2 := Lib.hid hB2
    have J2 := Lib.hid (I2.out.on HTA.out hr2 hk2)
    have hrow2 := J2.out.row
    have hbox2 : X2.heap[B]? = some (.cells #[.pointer (some ⟨r, 0, none⟩)] 77) := J2.out.fix (B, _) HLB.out
    have q2 : X2.cell? ⟨B, 0, none⟩ = some (.pointer (some ⟨r, 0, none⟩)) := cell_row hbox2 rfl
    have y2_1 : X2.cell? ⟨C, 1, none⟩ = some (.int .i64 0) := cell_row hrow2 rfl
    have z2_1 : X2.frozen? ⟨C, 1, none⟩ = false := free_row hrow2
    have y2_2 : X2.cell? ⟨C, 2, none⟩ = some (.int .u64 0) := cell_row hrow2 rfl
    have z2_2 : X2.frozen? ⟨C, 2, none⟩ = false := free_row hrow2
    have y2_3 : X2.cell? ⟨C, 3, none⟩ = some (.int .u64 0) := cell_row hrow2 rfl
    have z2_3 : X2.frozen? ⟨C, 3, none⟩ = false := free_row hrow2
    clear hrow2 hbox2 hr2 hk2 hn2 hB2
    have KT : Hid (TI w r C L #[.int .i64 0, .int .i64 x2, .int .u64 x3, .int .u64 x4, .slice none 0 0, .int .i64 0] 45 _ F (((X2.setCell ⟨C, 1, none⟩ (.int .i64 x2)).setCell ⟨C, 2, none⟩ (.int .u64 x3)).setCell ⟨C, 3, none⟩ (.int .u64 x4))) := Lib.hid ((((J2.out.set HTA.out 1 (.int .i64 x2)).set HTA.out 2 (.int .u64 x3)).set HTA.out 3 (.int .u64 x4)))
    go_wp2_with (first | (refine wpList_load_mid rfl 45 (.tmp 5) rfl C 0 rfl [.int .i64 0, .int .i64 x2, .int .u64 x3, .int .u64 x4, .slice none 0 0, .int .i64 0] _ (range_row KT.out.row (by rfl)) Try.underlying45 rfl info45 ?_) | (refine wpList_store_row rfl 45 (.tmp 4) (.tmp 30) rfl (B + 1) 45 #[.int .i64 0, .int .i64 0, .int .u64 0, .int .u64 0, .slice none 0 0, .int .i64 0] #[.int .i64 0, .int .i64 x2, .int .u64 x3, .int .u64 x4, .slice none 0 0, .int .i64 0] rfl rfl (KT.out.fix (B + 1, _) HLA.out) info45 rfl (by simp [Value.oneCell']) ?_) | fail)
    refine bodyPost_ret (results_cell_row rfl _ _ (B + 1) 45 #[.int .i64 0, .int .i64 x2, .int .u64 x3, .int .u64 x4, .slice none 0 0, .int .i64 0] (0, 0) _ rfl (setRow_heap _ _ _ _ _ _ (KT.out.fix (B + 1, _) HLA.out)) Try.underlying45 rfl info45) rfl (HR.out _ _ ?_)
    rw [HN2.out]
    exact qp_some (x := (⟨0, x2, x3, x4, [], 0⟩ : Rp)) KT.out HC.out HAB.out _ (OB.nil _) (fresh_nil _)
  by_cases o3 : op = 3
  · subst o3
    rw [if_pos (by omega)] at HR
    go_wp2_with fail
    refine at_any (fun W => TI w r C L #[.int .i64 0, .int .i64 0, .int .u64 0, .int .u64 0, .slice none 0 0, .int .i64 0] 45 z1 F W) (HTI.out) (fun W2 hI2 => ?_)
    have I2 := Lib.hid hI2
    clear hI2
    refine (cap_t W2 r z1 F I2.out.rd HBY.out.1).mono ?_
    rintro e X2 ht2
    rcases hn2 : capR z1 with _ | ⟨⟨x2, x3, x4⟩, z2⟩ <;> rw [hn2] at ht2 <;> unfold TP at ht2 <;> simp only at ht2
    · obtain ⟨rfl, hk2⟩ := ht2
      have HK2 := Lib.hid (I2.out.far hk2)
      have HN2 := Lib.hid hn2
      clear hk2 hn2
      go_wp2
      refine ⟨by first | rfl | trivial, HR.out _ _ ?_⟩
      rw [HN2.out]
      exact ⟨by first | rfl | trivial, kept_new HK2.out HC.out⟩
    obtain ⟨rfl, hr2, hk2⟩ := ht2
    have HN2 := Lib.hid hn2
    have hB2 := cap_bytes HBY.out.1 hn2
    have HB2 := Lib.hid hB2
    have J2 := Lib.hid (I2.out.on HTA.out hr2 hk2)
    have hrow2 := J2.out.row
    have hbox2 : X2.heap[B]? = some (.cells #[.pointer (some ⟨r, 0, none⟩)] 77) := J2.out.fix (B, _) HLB.out
    have q2 : X2.cell? ⟨B, 0, none⟩ = some (.pointer (some ⟨r, 0, none⟩)) := cell_row hbox2 rfl
    have y2_1 : X2.cell? ⟨C, 1, none⟩ = some (.int .i64 0) := cell_row hrow2 rfl
    have z2_1 : X2.frozen? ⟨C, 1, none⟩ = false := free_row hrow2
    have y2_2 : X2.cell? ⟨C, 2, none⟩ = some (.int .u64 0) := cell_row hrow2 rfl
    have z2_2 : X2.frozen? ⟨C, 2, none⟩ = false := free_row hrow2
    have y2_3 : X2.cell? ⟨C, 3, none⟩ = some (.int .u64 0) := cell_row hrow2 rfl
    have z2_3 : X2.frozen? ⟨C, 3, none⟩ = false := free_row hrow2
    clear hrow2 hbox2 hr2 hk2 hn2 hB2
    have KT : Hid (TI w r C L #[.int .i64 0, .int .i64 x2, .int .u64 x3, .int .u64 x4, .slice none 0 0, .int .i64 0] 45 _ F (((X2.setCell ⟨C, 1, none⟩ (.int .i64 x2)).setCell ⟨C, 2, none⟩ (.int .u64 x3)).setCell ⟨C, 3, none⟩ (.int .u64 x4))) := Lib.hid ((((J2.out.set HTA.out 1 (.int .i64 x2)).set HTA.out 2 (.int .u64 x3)).set HTA.out 3 (.int .u64 x4)))
    go_wp2_with (first | (refine wpList_load_mid rfl 45 (.tmp 5) rfl C 0 rfl [.int .i64 0, .int .i64 x2, .int .u64 x3, .int .u64 x4, .slice none 0 0, .int .i64 0] _ (range_row KT.out.row (by rfl)) Try.underlying45 rfl info45 ?_) | (refine wpList_store_row rfl 45 (.tmp 4) (.tmp 30) rfl (B + 1) 45 #[.int .i64 0, .int .i64 0, .int .u64 0, .int .u64 0, .slice none 0 0, .int .i64 0] #[.int .i64 0, .int .i64 x2, .int .u64 x3, .int .u64 x4, .slice none 0 0, .int .i64 0] rfl rfl (KT.out.fix (B + 1, _) HLA.out) info45 rfl (by simp [Value.oneCell']) ?_) | fail)
    refine bodyPost_ret (results_cell_row rfl _ _ (B + 1) 45 #[.int .i64 0, .int .i64 x2, .int .u64 x3, .int .u64 x4, .slice none 0 0, .int .i64 0] (0, 0) _ rfl (setRow_heap _ _ _ _ _ _ (KT.out.fix (B + 1, _) HLA.out)) Try.underlying45 rfl info45) rfl (HR.out _ _ ?_)
    rw [HN2.out]
    exact qp_some (x := (⟨0, x2, x3, x4, [], 0⟩ : Rp)) KT.out HC.out HAB.out _ (OB.nil _) (fresh_nil _)
  by_cases o5 : op = 5
  · subst o5
    rw [if_neg (by omega), if_pos rfl] at HR
    go_wp2_with fail
    refine at_any (fun W => TI w r C L #[.int .i64 0, .int .i64 0, .int .u64 0, .int .u64 0, .slice none 0 0, .int .i64 0] 45 z1 F W) (HTI.out) (fun W2 hI2 => ?_)
    have I2 := Lib.hid hI2
    clear hI2
    refine (all_t W2 r z1 F I2.out.rd (by have := HL1.out; omega)).mono ?_
    rintro e X3 ⟨v, rfl, ho, hk3, hf, ys, hr3⟩
    obtain ⟨Av, nv, cw, rfl⟩ : ∃ A n c, v = .slice A n c := by obtain ⟨A, c, e, _⟩ := own_slice ho; exact ⟨_, _, _, e⟩
    have J3 := Lib.hid (I2.out.on HTA.out hr3 hk3)
    have HO := Lib.hid ho
    have HF : Hid (W2.heap.size ≤ W2.heap.size ∧ Fresh W2 (.slice Av nv cw)) := Lib.hid ⟨Nat.le_refl _, hf⟩
    have hrow3 := J3.out.row
    have y3 : X3.cell? ⟨C, 4, none⟩ = some (.slice none 0 0) := cell_row hrow3 rfl
    have z3 : X3.frozen? ⟨C, 4, none⟩ = false := free_row hrow3
    have HCL : Hid (C < W2.heap.size ∧ B + 1 < W2.heap.size) := Lib.hid ⟨lt_of_row I2.out.row, lt_of_row (I2.out.fix (B + 1, _) HLA.out)⟩
    clear ho hk3 hf hr3 hrow3
    have KT : Hid (TI w r C L #[.int .i64 0, .int .i64 0, .int .u64 0, .int .u64 0, .slice Av nv cw, .int .i64 0] 45 _ F (X3.setCell ⟨C, 4, none⟩ (.slice Av nv cw))) := Lib.hid (J3.out.set HTA.out 4 (.slice Av nv cw))
    go_wp2_with (first | (refine wpList_load_mid rfl 45 (.tmp 5) rfl C 0 rfl [.int .i64 0, .int .i64 0, .int .u64 0, .int .u64 0, .slice Av nv cw, .int .i64 0] _ (range_row KT.out.row (by rfl)) Try.underlying45 rfl info45 ?_) | (refine wpList_store_row rfl 45 (.tmp 4) (.tmp 30) rfl (B + 1) 45 #[.int .i64 0, .int .i64 0, .int .u64 0, .int .u64 0, .slice none 0 0, .int .i64 0] #[.int .i64 0, .int .i64 0, .int .u64 0, .int .u64 0, .slice Av nv cw, .int .i64 0] rfl rfl (KT.out.fix (B + 1, _) HLA.out) info45 rfl (by simp [Value.oneCell']) ?_) | fail)
    refine bodyPost_ret (results_cell_row rfl _ _ (B + 1) 45 #[.int .i64 0, .int .i64 0, .int .u64 0, .int .u64 0, .slice Av nv cw, .int .i64 0] (0, 0) _ rfl (setRow_heap _ _ _ _ _ _ (KT.out.fix (B + 1, _) HLA.out)) Try.underlying45 rfl info45) rfl (HR.out _ _ ?_)
    exact qp_some (x := (⟨0, 0, 0, 0, z1, 0⟩ : Rp)) KT.out HC.out HAB.out _ (own_kept HO.out (((Kept.refl (fun b => b = C ∨ b = B + 1) X3).setCell (p := ⟨C, 4, none⟩) (.inl (.inl rfl)) (.slice Av nv cw)).setRow (.inl (.inr rfl)) _) (fun b hb e => by have h1 := HF.out.2 b hb; have h2 := HCL.out; rcases e with e | e <;> omega)) (fun b hb => Nat.le_trans I2.out.kept.size (HF.out.2 b hb))
  by_cases o9 : op = 9
  · subst o9
    rw [if_neg (by omega), if_neg (by omega), if_pos rfl] at HR
    go_wp2_with fail
    refine at_any (fun W => TI w r C L #[.int .i64 0, .int .i64 0, .int .u64 0, .int .u64 0, .slice none 0 0, .int .i64 0] 45 z1 F W) (HTI.out) (fun W2 hI2 => ?_)
    have I2 := Lib.hid hI2
    clear hI2
    refine (number_t' W2 r z1 F I2.out.rd HBY.out.1 2 (by unfold Wd; omega) 2 rfl).mono ?_
    rintro e X2 ht2
    rcases hn2 : num 2 z1 with _ | ⟨x2, z2⟩ <;> rw [hn2] at ht2 <;> unfold TP at ht2 <;> simp only at ht2
    · obtain ⟨rfl, hk2⟩ := ht2
      have HK2 := Lib.hid (I2.out.far hk2)
      have HN2 := Lib.hid hn2
      clear hk2 hn2
      go_wp2
      refine ⟨by first | rfl | trivial, HR.out _ _ ?_⟩
      rw [HN2.out]
      exact ⟨by first | rfl | trivial, kept_new HK2.out HC.out⟩
    obtain ⟨rfl, hr2, hk2⟩ := ht2
    have HN2 := Lib.hid hn2
    have hB2 := num_bytes HBY.out.1 hn2
    have HB2 := Lib.hid hB2
    have J2 := Lib.hid (I2.out.on HTA.out hr2 hk2)
    have hrow2 := J2.out.row
    have hbox2 : X2.heap[B]? = some (.cells #[.pointer (some ⟨r, 0, none⟩)] 77) := J2.out.fix (B, _) HLB.out
    have q2 : X2.cell? ⟨B, 0, none⟩ = some (.pointer (some ⟨r, 0, none⟩)) := cell_row hbox2 rfl
    have y2_5 : X2.cell? ⟨C, 5, none⟩ = some (.int .i64 0) := cell_row hrow2 rfl
    have z2_5 : X2.frozen? ⟨C, 5, none⟩ = false := free_row hrow2
    clear hrow2 hbox2 hr2 hk2 hn2 hB2
    have KT : Hid (TI w r C L #[.int .i64 0, .int .i64 0, .int .u64 0, .int .u64 0, .slice none 0 0, .int .i64 x2] 45 _ F (X2.setCell ⟨C, 5, none⟩ (.int .i64 x2))) := Lib.hid ((J2.out.set HTA.out 5 (.int .i64 x2)))
    go_wp2_with (first | (refine wpList_load_mid rfl 45 (.tmp 5) rfl C 0 rfl [.int .i64 0, .int .i64 0, .int .u64 0, .int .u64 0, .slice none 0 0, .int .i64 x2] _ (range_row KT.out.row (by rfl)) Try.underlying45 rfl info45 ?_) | (refine wpList_store_row rfl 45 (.tmp 4) (.tmp 30) rfl (B + 1) 45 #[.int .i64 0, .int .i64 0, .int .u64 0, .int .u64 0, .slice none 0 0, .int .i64 0] #[.int .i64 0, .int .i64 0, .int .u64 0, .int .u64 0, .slice none 0 0, .int .i64 x2] rfl rfl (KT.out.fix (B + 1, _) HLA.out) info45 rfl (by simp [Value.oneCell']) ?_) | fail)
    refine bodyPost_ret (results_cell_row rfl _ _ (B + 1) 45 #[.int .i64 0, .int .i64 0, .int .u64 0, .int .u64 0, .slice none 0 0, .int .i64 x2] (0, 0) _ rfl (setRow_heap _ _ _ _ _ _ (KT.out.fix (B + 1, _) HLA.out)) Try.underlying45 rfl info45) rfl (HR.out _ _ ?_)
    rw [HN2.out]
    exact qp_some (x := (⟨0, 0, 0, 0, [], x2⟩ : Rp)) KT.out HC.out HAB.out _ (OB.nil _) (fresh_nil _)
  rw [if_neg (by omega), if_neg o5, if_neg o9] at HR
  have KT : Hid (TI w r C L #[.int .i64 0, .int .i64 0, .int .u64 0, .int .u64 0, .slice none 0 0, .int .i64 0] 45 _ F (X1.alloc (.cells #[.int .i64 0, .int .i64 0, .int .u64 0, .int .u64 0, .slice none 0 0, .int .i64 0] 45))) := Lib.hid (HTI.out)
  go_wp2_with (first | (refine wpList_load_mid rfl 45 (.tmp 5) rfl C 0 rfl [.int .i64 0, .int .i64 0, .int .u64 0, .int .u64 0, .slice none 0 0, .int .i64 0] _ (range_row KT.out.row (by rfl)) Try.underlying45 rfl info45 ?_) | (refine wpList_store_row rfl 45 (.tmp 4) (.tmp 30) rfl (B + 1) 45 #[.int .i64 0, .int .i64 0, .int .u64 0, .int .u64 0, .slice none 0 0, .int .i64 0] #[.int .i64 0, .int .i64 0, .int .u64 0, .int .u64 0, .slice none 0 0, .int .i64 0] rfl rfl (KT.out.fix (B + 1, _) HLA.out) info45 rfl (by simp [Value.oneCell']) ?_) | fail)
  refine bodyPost_ret (results_cell_row rfl _ _ (B + 1) 45 #[.int .i64 0, .int .i64 0, .int .u64 0, .int .u64 0, .slice none 0 0, .int .i64 0] (0, 0) _ rfl (setRow_heap _ _ _ _ _ _ (KT.out.fix (B + 1, _) HLA.out)) Try.underlying45 rfl info45) rfl (HR.out _ _ ?_)
  exact qp_some (x := (⟨0, 0, 0, 0, [], 0⟩ : Rp)) KT.out HC.out HAB.out _ (OB.nil _) (fresh_nil _)
end Go.Proofs.Ytfpkdbogapmhmaa.O

/- Record: a row that a tape's bytes are laid into; moved (written by gen_rcf.py). -/
import Derived.Test.YtfpkdbogapmhmaaRcE
namespace Go.Proofs.Ytfpkdbogapmhmaa.O
open Go.RowKit Go.Proofs.Ytfpkdbogapmhmaa.Mem
set_option linter.unusedVariables false
set_option linter.unusedSimpArgs false
/-- Rows that stay, the row that is filled, the reader. -/
structure TI (w : World) (r C : Nat) (L : List (Nat × Obj)) (row : Array Value) (ty : TypeId) (zs : List Int) (F : Nat → Prop) (W : World) : Prop where
  fix : ∀ x ∈ L, W.heap[x.1]? = some x.2
  row : W.heap[C]? = some (.cells row ty)
  rd : Rd 95 W r zs F
  kept : Kept (fun b => b = r ∨ b = C) w W
/-- What stands apart. -/
structure TA (r C : Nat) (L : List (Nat × Obj)) (F : Nat → Prop) : Prop where
  far : ∀ x ∈ L, x.1 ≠ r ∧ x.1 ≠ C
  cr : C ≠ r
  fc : ∀ b, F b → b ≠ C
section
variable {w : World} {r C : Nat} {L : List (Nat × Obj)} {row row' : Array Value} {ty : TypeId} {zs zs' : List Int} {F : Nat → Prop} {W W' : World}
theorem TI.on (h : TI w r C L row ty zs F W) (a : TA r C L F) (hr : Rd 95 W' r zs' F) (hk : Kept (fun b => b = r) W W') : TI w r C L row ty zs' F W' where
  fix x hx := hk.row (h.fix x hx) (a.far x hx).1
  row := hk.row h.row a.cr
  rd := hr
  kept := h.kept.trans hk (fun b hb => .inl (.inl hb))
theorem TI.over (h : TI w r C L row ty zs F W) (a : TA r C L F) (hrow : W'.heap[C]? = some (.cells row' ty)) (hr : Rd 95 W' r zs' F) (hk : Kept (fun b => b = r ∨ b = C) W W') : TI w r C L row' ty zs' F W' where
  fix x hx := hk.row (h.fix x hx) (fun e => e.elim (a.far x hx).1 (a.far x hx).2)
  row := hrow
  rd := hr
  kept := h.kept.trans hk (fun b hb => .inl hb)
theorem TI.set (h : TI w r C L row ty zs F W) (a : TA r C L F) (j : Nat) (v : Value) : TI w r C L (row.setIfInBounds j v) ty zs F (W.setCell ⟨C, j, none⟩ v) := by
  have k : Kept (fun b => b = C) W (W.setCell ⟨C, j, none⟩ v) := (Kept.refl (fun b => b = C) W).setCell (p := ⟨C, j, none⟩) (.inl rfl) v
  exact ⟨fun x hx => k.row (h.fix x hx) (a.far x hx).2, heap_setCell_same _ C j _ _ v h.row, h.rd.kept k (fun b hb => a.fc b hb), h.kept.trans k (fun b hb => .inl (.inr hb))⟩
theorem TI.as (h : TI w r C L row ty zs F W) (e : row = row') : TI w r C L row' ty zs F W := e ▸ h
theorem TI.far (h : TI w r C L row ty zs F W) (hk : Kept (fun b => b = r) W W') : Kept (fun b => b = r ∨ b = C) w W' := h.kept.trans hk (fun b hb => .inl (.inl hb))
theorem at_any {P : Program} {f : FuncId} {args : Array Value} {W : World} {R : Ending → World → Prop} (I : World → Prop) (h : I W) (k : ∀ W, I W → Calls P f args W R) : Calls P f args W R := k W h
end
theorem word_bytes {zs : List Int} {x : (Int × Int) × List Int} (hB : Bytes zs) (h : wordR' zs = some x) : Bytes x.2 ∧ U64 x.1.1 ∧ U64 x.1.2 := by
  unfold wordR' at h
  split at h
  · cases h
  · obtain rfl := Option.some.inj h
    have h1 : Bytes ((zs.drop 8).take 8) := fun z hz => hB z (List.mem_of_mem_drop (List.mem_of_mem_take hz))
    have h2 : Bytes (zs.take 8) := fun z hz => hB z (List.mem_of_mem_take hz)
    exact ⟨fun z hz => hB z (List.mem_of_mem_drop hz), ⟨val_lo h1, val_lt (k := 8) h1 (by rw [List.length_take]; omega)⟩, ⟨val_lo h2, val_lt (k := 8) h2 (by rw [List.length_take]; omega)⟩⟩
theorem cap_bytes {zs : List Int} {x : (Int × Int × Int) × List Int} (hB : Bytes zs) (h : capR zs = some x) : Bytes x.2 ∧ U64 x.1.2.1 ∧ U64 x.1.2.2 := by
  unfold capR at h
  split at h
  · cases h
  · split at h
    · cases h
    · obtain rfl := Option.some.inj h
      have h1 : Bytes ((zs.drop 16).take 8) := fun z hz => hB z (List.mem_of_mem_drop (List.mem_of_mem_take hz))
      have h2 : Bytes ((zs.drop 8).take 8) := fun z hz => hB z (List.mem_of_mem_drop (List.mem_of_mem_take hz))
      exact ⟨fun z hz => hB z (List.mem_of_mem_drop hz), ⟨val_lo h1, val_lt (k := 8) h1 (by rw [List.length_take]; omega)⟩, ⟨val_lo h2, val_lt (k := 8) h2 (by rw [List.length_take]; omega)⟩⟩
def MP (o : Option (Cl × List Int)) (D G : Value) (r C : Nat) (F : Nat → Prop) (w : World) (e : Ending) (w' : World) : Prop :=
  match o with
  | some x => e = .returned (.tuple #[]) ∧ w'.heap[C]? = some (.cells (cells x.1 D G) 30) ∧ Rd 95 w' r x.2 F ∧ Kept (fun b => b = r ∨ b = C) w w'
  | none => e = .panicked ENDED ∧ Kept (fun b => b = r ∨ b = C) w w'

set_option maxHeartbeats 4000000 in
set_option maxRecDepth 100000 in
theorem moved_t (w : World) (r C : Nat) (zs : List Int) (F : Nat → Prop) (c : Cl) (D G : Value) (h : Rd 95 w r zs F) (hB : Bytes zs) (hcr : C ≠ r) (hrow : w.heap[C]? = some (.cells (cells c D G) 30)) (hF : ∀ b, F b → b ≠ C) :
    Calls Try.prog 63 #[.agg #[.pointer (some ⟨r, 0, none⟩)], .pointer (some ⟨C, 0, none⟩)] w fun e w' => MP (mvR c zs) D G r C F w e w' := by
  suffices ∀ R : Ending → World → Prop, (∀ e w', MP (mvR c zs) D G r C F w e w' → R e w') → Calls Try.prog 63 #[.agg #[.pointer (some ⟨r, 0, none⟩)], .pointer (some ⟨C, 0, none⟩)] w R from this _ (fun _ _ h => h)
  intro R HR
  replace HR := Lib.hid HR
  have HBZ := Lib.hid hB
  obtain ⟨op, by', sz, obj, hi, lo, gv, rt, off, n, da, ix, gi⟩ := c
  unfold cells at hrow
  simp only at hrow
  obtain ⟨B, hBe⟩ : ∃ B, w.heap.size = B := ⟨_, rfl⟩
  have hr := h.lt
  have hC := lt_of_row hrow
  obtain ⟨L, hL⟩ : ∃ L : List (Nat × Obj), L = [(B, .cells #[.pointer (some ⟨r, 0, none⟩)] 77)] := ⟨_, rfl⟩
  have A : TA r C L F := ⟨fun x hx => (by rw [hL] at hx; obtain rfl := List.mem_singleton.1 hx; exact ⟨by show B ≠ r; omega, by show B ≠ C; omega⟩), hcr, hF⟩
  have hLB : Hid ((B, Obj.cells #[.pointer (some ⟨r, 0, none⟩)] 77) ∈ L) := by rw [hL]; exact List.mem_singleton.2 rfl
  have hbx : Below w.heap.size w (w.alloc (.cells #[.pointer (some ⟨r, 0, none⟩)] 77)) := (Below.refl _ w).alloc (Nat.le_refl _) _
  have hstart : TI w r C L #[.int .i64 op, .int .i64 by', .int .i64 sz, .int .i64 obj, .int .u64 hi, .int .u64 lo, .bool gv, .int .i64 rt, .int .i64 off, .int .i64 n, D, .int .i64 ix, G] 30 zs F (w.alloc (.cells #[.pointer (some ⟨r, 0, none⟩)] 77)) := ⟨fun x hx => (by rw [hL] at hx; obtain rfl := List.mem_singleton.1 hx; exact row_new hBe.symm), row_on hbx hrow, h.below hbx, Kept.of_below hbx⟩
  have HS := Lib.hid hstart
  have HA := Lib.hid A
  clear h hB hcr hrow hF hr hC hL A hbx hstart
  go_enter Try.func63, Try.ntmps63
  go_wp2_with fail
  refine at_any (fun W => TI w r C L #[.int .i64 op, .int .i64 by', .int .i64 sz, .int .i64 obj, .int .u64 hi, .int .u64 lo, .bool gv, .int .i64 rt, .int .i64 off, .int .i64 n, D, .int .i64 ix, G] 30 zs F W) (HS.out) (fun W0 hI0 => ?_)
  have I0 := Lib.hid hI0
  clear hI0
  refine (number_t' W0 r zs F I0.out.rd HBZ.out 8 (by unfold Wd; omega) 8 rfl).mono ?_
  rintro e X0 ht0
  rcases hn0 : num 8 zs with _ | ⟨x0, z0⟩ <;> rw [hn0] at ht0 <;> unfold TP at ht0 <;> simp only at ht0
  · obtain ⟨rfl, hk0⟩ := ht0
    have HK0 := Lib.hid (I0.out.far hk0)
    have HN0 := Lib.hid hn0
    clear hk0 hn0
    go_wp2
    refine ⟨by first | rfl | trivial, HR.out _ _ ?_⟩
    unfold MP mvR
    rw [HN0.out]
    exact ⟨by first | rfl | trivial, HK0.out⟩
  obtain ⟨rfl, hr0, hk0⟩ := ht0
  have HN0 := Lib.hid hn0
  have hB0 := num_bytes HBZ.out hn0
  have HB0 := Lib.hid hB0
  have J0 := Lib.hid (I0.out.on HA.out hr0 hk0)
  have hrow0 := J0.out.row
  have hbox0 : X0.heap[B]? = some (.cells #[.pointer (some ⟨r, 0, none⟩)] 77) := J0.out.fix (B, _) hLB.out
  have q0 : X0.cell? ⟨B, 0, none⟩ = some (.pointer (some ⟨r, 0, none⟩)) := cell_row hbox0 rfl
  have y0_3 : X0.cell? ⟨C, 3, none⟩ = some (.int .i64 obj) := cell_row hrow0 rfl
  have z0_3 : X0.frozen? ⟨C, 3, none⟩ = false := free_row hrow0
  clear hrow0 hbox0 hr0 hk0 hn0 hB0
  go_wp2_with fail
  refine at_any (fun W => TI w r C L #[.int .i64 op, .int .i64 by', .int .i64 sz, .int .i64 x0, .int .u64 hi, .int .u64 lo, .bool gv, .int .i64 rt, .int .i64 off, .int .i64 n, D, .int .i64 ix, G] 30 z0 F W) ((J0.out.set HA.out 3 (.int .i64 x0))) (fun W1 hI1 => ?_)
  have I1 := Lib.hid hI1
  clear hI1
  refine (number_t' W1 r z0 F I1.out.rd HB0.out.1 1 (by unfold Wd; omega) 1 rfl).mono ?_
  rintro e X1 ht1
  rcases hn1 : num 1 z0 with _ | ⟨x1, z1⟩ <;> rw [hn1] at ht1 <;> unfold TP at ht1 <;> simp only at ht1
  · obtain ⟨rfl, hk1⟩ := ht1
    have HK1 := Lib.hid (I1.out.far hk1)
    have HN1 := Lib.hid hn1
    clear hk1 hn1
    go_wp2
    refine ⟨by first | rfl | trivial, HR.out _ _ ?_⟩
    unfold MP mvR
    rw [HN0.out]; simp only [Option.bind_some]
    rw [HN1.out]
    exact ⟨by first | rfl | trivial, HK1.out⟩
  obtain ⟨rfl, hr1, hk1⟩ := ht1
  have HN1 := Lib.hid hn1
  have hB1 := num_bytes HB0.out.1 hn1
  have HB1 := Lib.hid hB1
  have J1 := Lib.hid (I1.out.on HA.out hr1 hk1)
  have hrow1 := J1.out.row
  have hbox1 : X1.heap[B]? = some (.cells #[.pointer (some ⟨r, 0, none⟩)] 77) := J1.out.fix (B, _) hLB.out
  have q1 : X1.cell? ⟨B, 0, none⟩ = some (.pointer (some ⟨r, 0, none⟩)) := cell_row hbox1 rfl
  have y1_6 : X1.cell? ⟨C, 6, none⟩ = some (.bool gv) := cell_row hrow1 rfl
  have z1_6 : X1.frozen? ⟨C, 6, none⟩ = false := free_row hrow1
  clear hrow1 hbox1 hr1 hk1 hn1 hB1
  go_wp2_with fail
  refine at_any (fun W => TI w r C L #[.int .i64 op, .int .i64 by', .int .i64 sz, .int .i64 x0, .int .u64 hi, .int .u64 lo, .bool (x1 != 0), .int .i64 rt, .int .i64 off, .int .i64 n, D, .int .i64 ix, G] 30 z1 F W) ((J1.out.set HA.out 6 (.bool (x1 != 0)))) (fun W2 hI2 => ?_)
  have I2 := Lib.hid hI2
  clear hI2
  refine (word_t W2 r z1 F I2.out.rd HB1.out.1).mono ?_
  rintro e X2 ht2
  rcases hn2 : wordR' z1 with _ | ⟨⟨x2, x3⟩, z2⟩ <;> rw [hn2] at ht2 <;> unfold TP at ht2 <;> simp only at ht2
  · obtain ⟨rfl, hk2⟩ := ht2
    have HK2 := Lib.hid (I2.out.far hk2)
    have HN2 := Lib.hid hn2
    clear hk2 hn2
    go_wp2
    refine ⟨by first | rfl | trivial, HR.out _ _ ?_⟩
    unfold MP mvR
    rw [HN0.out]; simp only [Option.bind_some]
    rw [HN1.out]; simp only [Option.bind_some]
    rw [HN2.out]
    exact ⟨by first | rfl | trivial, HK2.out⟩
  obtain ⟨rfl, hr2, hk2⟩ := ht2
  have HN2 := Lib.hid hn2
  have hB2 := word_bytes HB1.out.1 hn2
  have HB2 := Lib.hid hB2
  have J2 := Lib.hid (I2.out.on HA.out hr2 hk2)
  have hrow2 := J2.out.row
  have hbox2 : X2.heap[B]? = some (.cells #[.pointer (some ⟨r, 0, none⟩)] 77) := J2.out.fix (B, _) hLB.out
  have q2 : X2.cell? ⟨B, 0, none⟩ = some (.pointer (some ⟨r, 0, none⟩)) := cell_row hbox2 rfl
  have y2_4 : X2.cell? ⟨C, 4, none⟩ = some (.int .u64 hi) := cell_row hrow2 rfl
  have z2_4 : X2.frozen? ⟨C, 4, none⟩ = false := free_row hrow2
  have y2_5 : X2.cell? ⟨C, 5, none⟩ = some (.int .u64 lo) := cell_row hrow2 rfl
  have z2_5 : X2.frozen? ⟨C, 5, none⟩ = false := free_row hrow2
  clear hrow2 hbox2 hr2 hk2 hn2 hB2
  go_wp2_with fail
  refine at_any (fun W => TI w r C L #[.int .i64 op, .int .i64 by', .int .i64 sz, .int .i64 x0, .int .u64 x2, .int .u64 x3, .bool (x1 != 0), .int .i64 rt, .int .i64 off, .int .i64 n, D, .int .i64 ix, G] 30 z2 F W) (((J2.out.set HA.out 4 (.int .u64 x2)).set HA.out 5 (.int .u64 x3))) (fun W3 hI3 => ?_)
  have I3 := Lib.hid hI3
  clear hI3
  refine (signed_t W3 r z2 F I3.out.rd HB2.out.1).mono ?_
  rintro e X3 ht3
  rcases hn3 : num 4 z2 with _ | ⟨x4, z3⟩ <;> rw [hn3] at ht3 <;> unfold TP at ht3 <;> simp only at ht3
  · obtain ⟨rfl, hk3⟩ := ht3
    have HK3 := Lib.hid (I3.out.far hk3)
    have HN3 := Lib.hid hn3
    clear hk3 hn3
    go_wp2
    refine ⟨by first | rfl | trivial, HR.out _ _ ?_⟩
    unfold MP mvR
    rw [HN0.out]; simp only [Option.bind_some]
    rw [HN1.out]; simp only [Option.bind_some]
    rw [HN2.out]; simp only [Option.bind_some]
    rw [HN3.out]
    exact ⟨by first | rfl | trivial, HK3.out⟩
  obtain ⟨rfl, hr3, hk3⟩ := ht3
  have HN3 := Lib.hid hn3
  have hB3 := num_bytes HB2.out.1 hn3
  have HB3 := Lib.hid hB3
  have J3 := Lib.hid (I3.out.on HA.out hr3 hk3)
  have hrow3 := J3.out.row
  have hbox3 : X3.heap[B]? = some (.cells #[.pointer (some ⟨r, 0, none⟩)] 77) := J3.out.fix (B, _) hLB.out
  have q3 : X3.cell? ⟨B, 0, none⟩ = some (.pointer (some ⟨r, 0, none⟩)) := cell_row hbox3 rfl
  have y3_8 : X3.cell? ⟨C, 8, none⟩ = some (.int .i64 off) := cell_row hrow3 rfl
  have z3_8 : X3.frozen? ⟨C, 8, none⟩ = false := free_row hrow3
  clear hrow3 hbox3 hr3 hk3 hn3 hB3
  go_wp2
  refine bodyPost_ret (v := .tuple #[]) (by simp [results, go_sem]) rfl (HR.out _ _ ?_)
  have K := (J3.out.set HA.out 8 (.int .i64 (sgn x4)))
  unfold MP mvR
  rw [HN0.out]; simp only [Option.bind_some]
  rw [HN1.out]; simp only [Option.bind_some]
  rw [HN2.out]; simp only [Option.bind_some]
  rw [HN3.out]; simp only [Option.bind_some]
  rw [show decide (x1 ≠ 0) = (x1 != 0) by cases h : decide (x1 = 0) <;> simp_all]
  exact ⟨by first | rfl | trivial, K.row, K.rd, K.kept⟩
end Go.Proofs.Ytfpkdbogapmhmaa.O

/- Record: reading a call off a tape (written by gen_rch.py). -/
import Derived.Test.YtfpkdbogapmhmaaRcG
namespace Go.Proofs.Ytfpkdbogapmhmaa.O
open Go.RowKit Go.Proofs.Ytfpkdbogapmhmaa.Mem
set_option linter.unusedVariables false
set_option linter.unusedSimpArgs false
theorem info77 : (Try.prog.info? 77).map (·.size) = some 1 := by kernel_rfl
set_option maxHeartbeats 4000000 in
set_option maxRecDepth 100000 in
theorem call_t (w : World) (r : Nat) (zs : List Int) (F0 : Nat → Prop) (h0 : Rd 95 w r zs F0) (hB : Bytes zs) (hlen : zs.length ≤ 140737488351300) :
    Calls Try.prog 39 #[.agg #[.pointer (some ⟨r, 0, none⟩)]] w fun e w' => CP (readC zs) r w e w' := by
  suffices ∀ R : Ending → World → Prop, (∀ e w', CP (readC zs) r w e w' → R e w') → Calls Try.prog 39 #[.agg #[.pointer (some ⟨r, 0, none⟩)]] w R from this _ (fun _ _ h => h)
  intro R HR
  replace HR := Lib.hid HR
  have HBZ := Lib.hid hB
  have HLN := Lib.hid hlen
  obtain ⟨F, hFe⟩ : ∃ F : Nat → Prop, F = fun b => F0 b ∧ b < w.heap.size := ⟨_, rfl⟩
  have h : Rd 95 w r zs F := hFe ▸ h0.tight
  obtain ⟨B, hBe⟩ : ∃ B, w.heap.size = B := ⟨_, rfl⟩
  have hr := h.lt
  obtain ⟨L, hL⟩ : ∃ L : List (Nat × Obj), L = [(B, .cells #[.pointer (some ⟨r, 0, none⟩)] 77), (B + 1, .cells #[.int .i64 0, .int .i64 0, .int .i64 0, .int .i64 0, .int .u64 0, .int .u64 0, .bool false, .int .i64 0, .int .i64 0, .int .i64 0, .slice none 0 0, .int .i64 0, .slice none 0 0] 30)] := ⟨_, rfl⟩
  have HLB : Hid ((B, Obj.cells #[.pointer (some ⟨r, 0, none⟩)] 77) ∈ L) := Lib.hid (by rw [hL]; simp)
  have HLA : Hid ((B + 1, Obj.cells #[.int .i64 0, .int .i64 0, .int .i64 0, .int .i64 0, .int .u64 0, .int .u64 0, .bool false, .int .i64 0, .int .i64 0, .int .i64 0, .slice none 0 0, .int .i64 0, .slice none 0 0] 30) ∈ L) := Lib.hid (by rw [hL]; simp)
  have HTB : Hid (TB w r L F) := by
    refine ⟨fun x hx => ?_, fun b hb => by rw [hFe] at hb; exact hb.2, hr⟩
    rw [hL] at hx
    rcases List.mem_cons.1 hx with rfl | hx
    · show B ≠ r; omega
    · obtain rfl := List.mem_singleton.1 hx; show B + 1 ≠ r; omega
  have hbx : Below w.heap.size w ((w.alloc (.cells #[.pointer (some ⟨r, 0, none⟩)] 77)).alloc (.cells #[.int .i64 0, .int .i64 0, .int .i64 0, .int .i64 0, .int .u64 0, .int .u64 0, .bool false, .int .i64 0, .int .i64 0, .int .i64 0, .slice none 0 0, .int .i64 0, .slice none 0 0] 30)) := ((Below.refl _ w).alloc (Nat.le_refl _) _).alloc (by simp) _
  have hstart : Hid (TJ w r L zs F ((w.alloc (.cells #[.pointer (some ⟨r, 0, none⟩)] 77)).alloc (.cells #[.int .i64 0, .int .i64 0, .int .i64 0, .int .i64 0, .int .u64 0, .int .u64 0, .bool false, .int .i64 0, .int .i64 0, .int .i64 0, .slice none 0 0, .int .i64 0, .slice none 0 0] 30))) := by
    refine ⟨fun x hx => ?_, h.below hbx, Kept.of_below hbx⟩
    rw [hL] at hx
    rcases List.mem_cons.1 hx with rfl | hx
    · exact row_on ((Below.refl _ _).alloc (Nat.le_refl _) _) (row_new hBe.symm)
    · obtain rfl := List.mem_singleton.1 hx; exact row_new (by simp [hBe])
  have HBE := Lib.hid hBe
  clear h h0 hB hr hL hbx hFe hlen
  go_enter Try.func39, Try.ntmps39
  go_wp2_with fail
  generalize (w.alloc (.cells #[.pointer (some ⟨r, 0, none⟩)] 77)).alloc (.cells #[.int .i64 0, .int .i64 0, .int .i64 0, .int .i64 0, .int .u64 0, .int .u64 0, .bool false, .int .i64 0, .int .i64 0, .int .i64 0, .slice none 0 0, .int .i64 0, .slice none 0 0] 30) = W9 at hstart ⊢
  have T9 := Lib.hid hstart.out
  clear hstart
  refine region_meet2 (fun a0 a' W => ∃ (C : Nat) (x0 : Int) (z0 : List Int) (x1 : Int) (z1 : List Int), a' = ((((((a0.put (some 4) (.agg #[.pointer (some ⟨r, 0, none⟩)])).put (some 5) (.int .i64 x0)).put (some 6) (.agg #[.pointer (some ⟨r, 0, none⟩)])).put (some 7) (.int .i64 x1)).put (some 8) (.agg #[.int .i64 x0, .int .i64 x1, .int .i64 0, .int .i64 0, .int .u64 0, .int .u64 0, .bool false, .int .i64 0, .int .i64 0, .int .i64 0, .slice none 0 0, .int .i64 0, .slice none 0 0])).put (some 3) (.pointer (some ⟨C, 0, none⟩))) ∧ num 1 zs = some (x0, z0) ∧ num 2 z0 = some (x1, z1) ∧ TA r C L F ∧ w.heap.size ≤ C ∧ TI w r C L #[.int .i64 x0, .int .i64 x1, .int .i64 0, .int .i64 0, .int .u64 0, .int .u64 0, .bool false, .int .i64 0, .int .i64 0, .int .i64 0, .slice none 0 0, .int .i64 0, .slice none 0 0] 30 z1 F W) (fun ch a' W => ch = ENDED ∧ a'.defers = [] ∧ readC zs = none ∧ Kept (fun b => b = r) w W) ?_ ?_ ?_
  rotate_left 2
  · rintro ch a' W ⟨rfl, ha, hn, hk⟩
    show bodyPost Try.prog Try.f39 R (Exit.panic ENDED) a' W
    refine ⟨ha, HR.out _ _ ?_⟩
    rw [hn]
    exact ⟨rfl, hk⟩
  · refine wp_region_held_drew (S := fun W => W.heap[B]? = some (.cells #[.pointer (some ⟨r, 0, none⟩)] 77)) (by kernel_rfl) (T9.out.drew.fix (B, _) HLB.out) (fun hHeld => ?_)
    have T8 := Lib.hid T9.out.drew
    refine wpAnyH_take (i := 0) (oi := { dst := some 4, op := Go.Op.load 77 (Go.Operand.tmp 1), type := 77, pos := "record.go:155", after := #[], guard := none }) (v := .agg #[.pointer (some ⟨r, 0, none⟩)]) rfl (by kernel_rfl) (by kernel_rfl) (by kernel_rfl) (fun _ _ _ h => h) (yieldsIf_load_mid (by rfl) 77 (.tmp 1) rfl B 0 rfl [.pointer (some ⟨r, 0, none⟩)] _ (fun w hSw => range_row hSw (by rfl)) Try.underlying77 rfl info77) (by assumption) ?_
    try simp only [Act.put, List.setIfInBounds_toArray, List.set_cons_zero, List.set_cons_succ]
    refine wpAnyH_take (i := 2) (oi := { dst := some 6, op := Go.Op.load 77 (Go.Operand.tmp 1), type := 77, pos := "record.go:155", after := #[], guard := none }) (v := .agg #[.pointer (some ⟨r, 0, none⟩)]) rfl (by kernel_rfl) (by kernel_rfl) (by kernel_rfl) (fun _ _ _ h => h) (yieldsIf_load_mid (by rfl) 77 (.tmp 1) rfl B 0 rfl [.pointer (some ⟨r, 0, none⟩)] _ (fun w hSw => range_row hSw (by rfl)) Try.underlying77 rfl info77) (by assumption) ?_
    try simp only [Act.put, List.setIfInBounds_toArray, List.set_cons_zero, List.set_cons_succ]
    refine wpAnyH_ready (rs := [1, 5]) (by kernel_rfl) (by simp) ?_
    refine AllReadyH.cons (o := { dst := some 5, op := Go.Op.call { callee := Go.Callee.value (Go.Operand.func 60), args := #[Go.Operand.tmp 4, Go.Operand.const (Go.Value.int Go.IntKind.i64 1)], argTypes := #[77, 3] }, type := 3, pos := "record.go:155", after := #[{ on := 0, ground := Go.Ground.data }], guard := none }) rfl (fun K hK => ?_) (AllReadyH.cons (o := { dst := some 3, op := Go.Op.alloc 30, type := 0, pos := "record.go:155", after := #[], guard := none }) rfl (fun K hK => ?_) AllReadyH.nil)
    · go_simp
      go_at_call 60
      refine (number_t' _ r zs F T8.out.rd HBZ.out 1 (by unfold Wd; omega) 1 rfl).mono ?_
      rintro e X0 ht
      rcases hn : num 1 zs with _ | ⟨x0, z0⟩ <;> rw [hn] at ht <;> unfold TP at ht <;> simp only at ht
      · obtain ⟨rfl, hk⟩ := ht
        exact ⟨rfl, rfl, by unfold readC; rw [hn]; rfl, (T8.out.kept.trans hk (fun b hb => .inl hb))⟩
      obtain ⟨rfl, hr, hk⟩ := ht
      have HN0 := Lib.hid hn
      have HB0 := Lib.hid (num_bytes HBZ.out hn)
      have T0 := Lib.hid (T8.out.on HTB.out hr hk)
      clear hn hr hk
      refine hK.out _ _ (T0.out.fix (B, _) HLB.out) (fun hHeld2 => ?_)
      clear hK K hHeld
      have hHeld := hHeld2
      clear hHeld2
      try simp only [Act.put, List.setIfInBounds_toArray, List.set_cons_zero, List.set_cons_succ]
      refine wpAnyH_ready (rs := [3, 5]) (by kernel_rfl) (by simp) ?_
      refine AllReadyH.cons (o := { dst := some 7, op := Go.Op.call { callee := Go.Callee.value (Go.Operand.func 60), args := #[Go.Operand.tmp 6, Go.Operand.const (Go.Value.int Go.IntKind.i64 2)], argTypes := #[77, 3] }, type := 3, pos := "record.go:155", after := #[{ on := 2, ground := Go.Ground.data }, { on := 1, ground := Go.Ground.chain }], guard := none }) rfl (fun K hK => ?_) (AllReadyH.cons (o := { dst := some 3, op := Go.Op.alloc 30, type := 0, pos := "record.go:155", after := #[], guard := none }) rfl (fun K hK => ?_) AllReadyH.nil)
      · go_simp
        go_at_call 60
        refine (number_t' _ r z0 F T0.out.rd HB0.out.1 2 (by unfold Wd; omega) 2 rfl).mono ?_
        rintro e X1 ht
        rcases hn : num 2 z0 with _ | ⟨x1, z1⟩ <;> rw [hn] at ht <;> unfold TP at ht <;> simp only at ht
        · obtain ⟨rfl, hk⟩ := ht
          exact ⟨rfl, rfl, by unfold readC; rw [HN0.out]; simp only [Option.bind_some]; rw [hn]; rfl, (T0.out.kept.trans hk (fun b hb => .inl hb))⟩
        obtain ⟨rfl, hr, hk⟩ := ht
        have HN1 := Lib.hid hn
        have HB1 := Lib.hid (num_bytes HB0.out.1 hn)
        have T1 := Lib.hid (T0.out.on HTB.out hr hk)
        clear hn hr hk
        refine hK.out _ _ (T1.out.fix (B, _) HLB.out) (fun hHeld2 => ?_)
        clear hK K hHeld
        have hHeld := hHeld2
        clear hHeld2
        try simp only [Act.put, List.setIfInBounds_toArray, List.set_cons_zero, List.set_cons_succ]
        refine wpAnyH_take (i := 4) (oi := { dst := some 8, op := Go.Op.build 30 #[(0, Go.Operand.tmp 5), (1, Go.Operand.tmp 7)], type := 30, pos := "record.go:155", after := #[{ on := 1, ground := Go.Ground.data }, { on := 3, ground := Go.Ground.data }], guard := none }) (v := ?_) rfl (by kernel_rfl) (by kernel_rfl) (by kernel_rfl) (fun _ _ _ h => h) (Or.inl ⟨by rfl, ?hy4_1⟩) (by assumption) ?rest4_1
        case hy4_1 => (intro w hSw; go_simp; try with_reducible rfl)
        try simp only [Act.put, List.setIfInBounds_toArray, List.set_cons_zero, List.set_cons_succ]
        refine wpAnyH_ready (rs := [5]) (by kernel_rfl) (by simp) ?_
        refine AllReadyH.cons (o := { dst := some 3, op := Go.Op.alloc 30, type := 0, pos := "record.go:155", after := #[], guard := none }) rfl (fun K hK => ?_) AllReadyH.nil
        go_simp
        have T5 := Lib.hid (And.intro (T1.out.alloc HTB.out #[.int .i64 0, .int .i64 0, .int .i64 0, .int .i64 0, .int .u64 0, .int .u64 0, .bool false, .int .i64 0, .int .i64 0, .int .i64 0, .slice none 0 0, .int .i64 0, .slice none 0 0] 30) (And.intro (T1.out.ta HTB.out) (T1.out.kept.size)))
        refine hK.out _ _ (T5.out.1.fix (B, _) HLB.out) (fun hHeld2 => ?_)
        clear hK K hHeld
        have hHeld := hHeld2
        clear hHeld2
        try simp only [Act.put, List.setIfInBounds_toArray, List.set_cons_zero, List.set_cons_succ]
        refine wpAnyH_ready (rs := [6]) (by kernel_rfl) (by simp) ?_
        refine AllReadyH.cons (o := { dst := none, op := Go.Op.store 30 (Go.Operand.tmp 3) (Go.Operand.tmp 8), type := 0, pos := "record.go:155", after := #[{ on := 5, ground := Go.Ground.data }, { on := 4, ground := Go.Ground.data }, { on := 3, ground := Go.Ground.chain }, { on := 0, ground := Go.Ground.phase }, { on := 1, ground := Go.Ground.phase }, { on := 2, ground := Go.Ground.phase }, { on := 3, ground := Go.Ground.phase }, { on := 4, ground := Go.Ground.phase }, { on := 5, ground := Go.Ground.phase }], guard := none }) rfl (fun K hK => ?_) AllReadyH.nil
        refine step_store_row rfl 30 (.tmp 3) (.tmp 8) rfl X1.heap.size 30 #[.int .i64 0, .int .i64 0, .int .i64 0, .int .i64 0, .int .u64 0, .int .u64 0, .bool false, .int .i64 0, .int .i64 0, .int .i64 0, .slice none 0 0, .int .i64 0, .slice none 0 0] #[.int .i64 x0, .int .i64 x1, .int .i64 0, .int .i64 0, .int .u64 0, .int .u64 0, .bool false, .int .i64 0, .int .i64 0, .int .i64 0, .slice none 0 0, .int .i64 0, .slice none 0 0] rfl rfl T5.out.1.row info30 rfl (by simp [Value.oneCell']) ?_
        have T6 := Lib.hid (And.intro (T5.out.1.setRow T5.out.2.1 #[.int .i64 x0, .int .i64 x1, .int .i64 0, .int .i64 0, .int .u64 0, .int .u64 0, .bool false, .int .i64 0, .int .i64 0, .int .i64 0, .slice none 0 0, .int .i64 0, .slice none 0 0]) (And.intro T5.out.2.1 T5.out.2.2))
        refine hK.out _ _ (T6.out.1.fix (B, _) HLB.out) (fun hHeld2 => ?_)
        clear hK K hHeld
        have hHeld := hHeld2
        clear hHeld2
        try simp only [Act.put, List.setIfInBounds_toArray, List.set_cons_zero, List.set_cons_succ]
        refine wpAnyH_done (by kernel_rfl) ?_ _
        show MeetQ _ _ _ _ _ _
        unfold MeetQ
        simp only
        try simp only [Act.put, List.setIfInBounds_toArray, List.set_cons_zero, List.set_cons_succ]
        exact ⟨X1.heap.size, x0, z0, x1, z1, rfl, HN0.out, HN1.out, T6.out.2.1, T6.out.2.2, T6.out.1⟩
      · go_simp
        have T5 := Lib.hid (And.intro (T0.out.alloc HTB.out #[.int .i64 0, .int .i64 0, .int .i64 0, .int .i64 0, .int .u64 0, .int .u64 0, .bool false, .int .i64 0, .int .i64 0, .int .i64 0, .slice none 0 0, .int .i64 0, .slice none 0 0] 30) (And.intro (T0.out.ta HTB.out) (T0.out.kept.size)))
        refine hK.out _ _ (T5.out.1.fix (B, _) HLB.out) (fun hHeld2 => ?_)
        clear hK K hHeld
        have hHeld := hHeld2
        clear hHeld2
        try simp only [Act.put, List.setIfInBounds_toArray, List.set_cons_zero, List.set_cons_succ]
        refine wpAnyH_ready (rs := [3]) (by kernel_rfl) (by simp) ?_
        refine AllReadyH.cons (o := { dst := some 7, op := Go.Op.call { callee := Go.Callee.value (Go.Operand.func 60), args := #[Go.Operand.tmp 6, Go.Operand.const (Go.Value.int Go.IntKind.i64 2)], argTypes := #[77, 3] }, type := 3, pos := "record.go:155", after := #[{ on := 2, ground := Go.Ground.data }, { on := 1, ground := Go.Ground.chain }], guard := none }) rfl (fun K hK => ?_) AllReadyH.nil
        go_simp
        go_at_call 60
        refine (number_t' _ r z0 F T5.out.1.rd HB0.out.1 2 (by unfold Wd; omega) 2 rfl).mono ?_
        rintro e X1 ht
        rcases hn : num 2 z0 with _ | ⟨x1, z1⟩ <;> rw [hn] at ht <;> unfold TP at ht <;> simp only at ht
        · obtain ⟨rfl, hk⟩ := ht
          exact ⟨rfl, rfl, by unfold readC; rw [HN0.out]; simp only [Option.bind_some]; rw [hn]; rfl, ((T5.out.1.kept' T5.out.2.2).trans hk (fun b hb => .inl hb))⟩
        obtain ⟨rfl, hr, hk⟩ := ht
        have HN1 := Lib.hid hn
        have HB1 := Lib.hid (num_bytes HB0.out.1 hn)
        have T1 := Lib.hid (And.intro (T5.out.1.on T5.out.2.1 hr hk) (And.intro T5.out.2.1 T5.out.2.2))
        clear hn hr hk
        refine hK.out _ _ (T1.out.1.fix (B, _) HLB.out) (fun hHeld2 => ?_)
        clear hK K hHeld
        have hHeld := hHeld2
        clear hHeld2
        try simp only [Act.put, List.setIfInBounds_toArray, List.set_cons_zero, List.set_cons_succ]
        refine wpAnyH_take (i := 4) (oi := { dst := some 8, op := Go.Op.build 30 #[(0, Go.Operand.tmp 5), (1, Go.Operand.tmp 7)], type := 30, pos := "record.go:155", after := #[{ on := 1, ground := Go.Ground.data }, { on := 3, ground := Go.Ground.data }], guard := none }) (v := ?_) rfl (by kernel_rfl) (by kernel_rfl) (by kernel_rfl) (fun _ _ _ h => h) (Or.inl ⟨by rfl, ?hy4_2⟩) (by assumption) ?rest4_2
        case hy4_2 => (intro w hSw; go_simp; try with_reducible rfl)
        try simp only [Act.put, List.setIfInBounds_toArray, List.set_cons_zero, List.set_cons_succ]
        refine wpAnyH_ready (rs := [6]) (by kernel_rfl) (by simp) ?_
        refine AllReadyH.cons (o := { dst := none, op := Go.Op.store 30 (Go.Operand.tmp 3) (Go.Operand.tmp 8), type := 0, pos := "record.go:155", after := #[{ on := 5, ground := Go.Ground.data }, { on := 4, ground := Go.Ground.data }, { on := 3, ground := Go.Ground.chain }, { on := 0, ground := Go.Ground.phase }, { on := 1, ground := Go.Ground.phase }, { on := 2, ground := Go.Ground.phase }, { on := 3, ground := Go.Ground.phase }, { on := 4, ground := Go.Ground.phase }, { on := 5, ground := Go.Ground.phase }], guard := none }) rfl (fun K hK => ?_) AllReadyH.nil
        refine step_store_row rfl 30 (.tmp 3) (.tmp 8) rfl X0.heap.size 30 #[.int .i64 0, .int .i64 0, .int .i64 0, .int .i64 0, .int .u64 0, .int .u64 0, .bool false, .int .i64 0, .int .i64 0, .int .i64 0, .slice none 0 0, .int .i64 0, .slice none 0 0] #[.int .i64 x0, .int .i64 x1, .int .i64 0, .int .i64 0, .int .u64 0, .int .u64 0, .bool false, .int .i64 0, .int .i64 0, .int .i64 0, .slice none 0 0, .int .i64 0, .slice none 0 0] rfl rfl T1.out.1.row info30 rfl (by simp [Value.oneCell']) ?_
        have T6 := Lib.hid (And.intro (T1.out.1.setRow T1.out.2.1 #[.int .i64 x0, .int .i64 x1, .int .i64 0, .int .i64 0, .int .u64 0, .int .u64 0, .bool false, .int .i64 0, .int .i64 0, .int .i64 0, .slice none 0 0, .int .i64 0, .slice none 0 0]) (And.intro T1.out.2.1 T1.out.2.2))
        refine hK.out _ _ (T6.out.1.fix (B, _) HLB.out) (fun hHeld2 => ?_)
        clear hK K hHeld
        have hHeld := hHeld2
        clear hHeld2
        try simp only [Act.put, List.setIfInBounds_toArray, List.set_cons_zero, List.set_cons_succ]
        refine wpAnyH_done (by kernel_rfl) ?_ _
        show MeetQ _ _ _ _ _ _
        unfold MeetQ
        simp only
        try simp only [Act.put, List.setIfInBounds_toArray, List.set_cons_zero, List.set_cons_succ]
        exact ⟨X0.heap.size, x0, z0, x1, z1, rfl, HN0.out, HN1.out, T6.out.2.1, T6.out.2.2, T6.out.1⟩
    · go_simp
      have T5 := Lib.hid (And.intro (T8.out.alloc HTB.out #[.int .i64 0, .int .i64 0, .int .i64 0, .int .i64 0, .int .u64 0, .int .u64 0, .bool false, .int .i64 0, .int .i64 0, .int .i64 0, .slice none 0 0, .int .i64 0, .slice none 0 0] 30) (And.intro (T8.out.ta HTB.out) (T8.out.kept.size)))
      refine hK.out _ _ (T5.out.1.fix (B, _) HLB.out) (fun hHeld2 => ?_)
      clear hK K hHeld
      have hHeld := hHeld2
      clear hHeld2
      try simp only [Act.put, List.setIfInBounds_toArray, List.set_cons_zero, List.set_cons_succ]
      refine wpAnyH_ready (rs := [1]) (by kernel_rfl) (by simp) ?_
      refine AllReadyH.cons (o := { dst := some 5, op := Go.Op.call { callee := Go.Callee.value (Go.Operand.func 60), args := #[Go.Operand.tmp 4, Go.Operand.const (Go.Value.int Go.IntKind.i64 1)], argTypes := #[77, 3] }, type := 3, pos := "record.go:155", after := #[{ on := 0, ground := Go.Ground.data }], guard := none }) rfl (fun K hK => ?_) AllReadyH.nil
      go_simp
      go_at_call 60
      refine (number_t' _ r zs F T5.out.1.rd HBZ.out 1 (by unfold Wd; omega) 1 rfl).mono ?_
      rintro e X0 ht
      rcases hn : num 1 zs with _ | ⟨x0, z0⟩ <;> rw [hn] at ht <;> unfold TP at ht <;> simp only at ht
      · obtain ⟨rfl, hk⟩ := ht
        exact ⟨rfl, rfl, by unfold readC; rw [hn]; rfl, ((T5.out.1.kept' T5.out.2.2).trans hk (fun b hb => .inl hb))⟩
      obtain ⟨rfl, hr, hk⟩ := ht
      have HN0 := Lib.hid hn
      have HB0 := Lib.hid (num_bytes HBZ.out hn)
      have T0 := Lib.hid (And.intro (T5.out.1.on T5.out.2.1 hr hk) (And.intro T5.out.2.1 T5.out.2.2))
      clear hn hr hk
      refine hK.out _ _ (T0.out.1.fix (B, _) HLB.out) (fun hHeld2 => ?_)
      clear hK K hHeld
      have hHeld := hHeld2
      clear hHeld2
      try simp only [Act.put, List.setIfInBounds_toArray, List.set_cons_zero, List.set_cons_succ]
      refine wpAnyH_ready (rs := [3]) (by kernel_rfl) (by simp) ?_
      refine AllReadyH.cons (o := { dst := some 7, op := Go.Op.call { callee := Go.Callee.value (Go.Operand.func 60), args := #[Go.Operand.tmp 6, Go.Operand.const (Go.Value.int Go.IntKind.i64 2)], argTypes := #[77, 3] }, type := 3, pos := "record.go:155", after := #[{ on := 2, ground := Go.Ground.data }, { on := 1, ground := Go.Ground.chain }], guard := none }) rfl (fun K hK => ?_) AllReadyH.nil
      go_simp
      go_at_call 60
      refine (number_t' _ r z0 F T0.out.1.rd HB0.out.1 2 (by unfold Wd; omega) 2 rfl).mono ?_
      rintro e X1 ht
      rcases hn : num 2 z0 with _ | ⟨x1, z1⟩ <;> rw [hn] at ht <;> unfold TP at ht <;> simp only at ht
      · obtain ⟨rfl, hk⟩ := ht
        exact ⟨rfl, rfl, by unfold readC; rw [HN0.out]; simp only [Option.bind_some]; rw [hn]; rfl, ((T0.out.1.kept' T0.out.2.2).trans hk (fun b hb => .inl hb))⟩
      obtain ⟨rfl, hr, hk⟩ := ht
      have HN1 := Lib.hid hn
      have HB1 := Lib.hid (num_bytes HB0.out.1 hn)
      have T1 := Lib.hid (And.intro (T0.out.1.on T0.out.2.1 hr hk) (And.intro T0.out.2.1 T0.out.2.2))
      clear hn hr hk
      refine hK.out _ _ (T1.out.1.fix (B, _) HLB.out) (fun hHeld2 => ?_)
      clear hK K hHeld
      have hHeld := hHeld2
      clear hHeld2
      try simp only [Act.put, List.setIfInBounds_toArray, List.set_cons_zero, List.set_cons_succ]
      refine wpAnyH_take (i := 4) (oi := { dst := some 8, op := Go.Op.build 30 #[(0, Go.Operand.tmp 5), (1, Go.Operand.tmp 7)], type := 30, pos := "record.go:155", after := #[{ on := 1, ground := Go.Ground.data }, { on := 3, ground := Go.Ground.data }], guard := none }) (v := ?_) rfl (by kernel_rfl) (by kernel_rfl) (by kernel_rfl) (fun _ _ _ h => h) (Or.inl ⟨by rfl, ?hy4_3⟩) (by assumption) ?rest4_3
      case hy4_3 => (intro w hSw; go_simp; try with_reducible rfl)
      try simp only [Act.put, List.setIfInBounds_toArray, List.set_cons_zero, List.set_cons_succ]
      refine wpAnyH_ready (rs := [6]) (by kernel_rfl) (by simp) ?_
      refine AllReadyH.cons (o := { dst := none, op := Go.Op.store 30 (Go.Operand.tmp 3) (Go.Operand.tmp 8), type := 0, pos := "record.go:155", after := #[{ on := 5, ground := Go.Ground.data }, { on := 4, ground := Go.Ground.data }, { on := 3, ground := Go.Ground.chain }, { on := 0, ground := Go.Ground.phase }, { on := 1, ground := Go.Ground.phase }, { on := 2, ground := Go.Ground.phase }, { on := 3, ground := Go.Ground.phase }, { on := 4, ground := Go.Ground.phase }, { on := 5, ground := Go.Ground.phase }], guard := none }) rfl (fun K hK => ?_) AllReadyH.nil
      refine step_store_row rfl 30 (.tmp 3) (.tmp 8) rfl W9.drew.heap.size 30 #[.int .i64 0, .int .i64 0, .int .i64 0, .int .i64 0, .int .u64 0, .int .u64 0, .bool false, .int .i64 0, .int .i64 0, .int .i64 0, .slice none 0 0, .int .i64 0, .slice none 0 0] #[.int .i64 x0, .int .i64 x1, .int .i64 0, .int .i64 0, .int .u64 0, .int .u64 0, .bool false, .int .i64 0, .int .i64 0, .int .i64 0, .slice none 0 0, .int .i64 0, .slice none 0 0] rfl rfl T1.out.1.row info30 rfl (by simp [Value.oneCell']) ?_
      have T6 := Lib.hid (And.intro (T1.out.1.setRow T1.out.2.1 #[.int .i64 x0, .int .i64 x1, .int .i64 0, .int .i64 0, .int .u64 0, .int .u64 0, .bool false, .int .i64 0, .int .i64 0, .int .i64 0, .slice none 0 0, .int .i64 0, .slice none 0 0]) (And.intro T1.out.2.1 T1.out.2.2))
      refine hK.out _ _ (T6.out.1.fix (B, _) HLB.out) (fun hHeld2 => ?_)
      clear hK K hHeld
      have hHeld := hHeld2
      clear hHeld2
      try simp only [Act.put, List.setIfInBounds_toArray, List.set_cons_zero, List.set_cons_succ]
      refine wpAnyH_done (by kernel_rfl) ?_ _
      show MeetQ _ _ _ _ _ _
      unfold MeetQ
      simp only
      try simp only [Act.put, List.setIfInBounds_toArray, List.set_cons_zero, List.set_cons_succ]
      exact ⟨W9.drew.heap.size, x0, z0, x1, z1, rfl, HN0.out, HN1.out, T6.out.2.1, T6.out.2.2, T6.out.1⟩
  · rintro a' W ⟨C, x0, z0, x1, z1, rfl, hn0, hn1, hta, hC, hti⟩
    simp only [Act.put, List.setIfInBounds_toArray, List.set_cons_zero, List.set_cons_succ]
    have HTA := Lib.hid hta
    have HC := Lib.hid hC
    have HBY := Lib.hid (num_bytes (num_bytes HBZ.out hn0).1 hn1)
    have HL1 : Hid (z1.length ≤ 140737488351300) := Lib.hid (by have h1 := num_le' hn0; have h2 := num_le' hn1; have := HLN.out; simp only at h1 h2; omega)
    have hrd : readC zs = bodyR ⟨x0, x1, 0, 0, 0, 0, false, 0, 0, 0, [], 0, []⟩ z1 := by unfold readC; rw [hn0]; simp only [Option.bind_some]; rw [hn1]; rfl
    rw [hrd] at HR
    have HTI := Lib.hid hti
    have HAB : Hid (w.heap.size ≤ B + 1) := Lib.hid (by rw [HBE.out]; omega)
    clear hta hC hn0 hn1 hrd hti T9
    (try simp only [Exit.then])
    by_cases o1 : x0 = 1
    · subst o1
      have hrow := HTI.out.row
      have y0 : W.cell? ⟨C, 0, none⟩ = some (.int .i64 1) := cell_row hrow rfl
      have q0 : W.cell? ⟨B, 0, none⟩ = some (.pointer (some ⟨r, 0, none⟩)) := cell_row (HTI.out.fix (B, _) HLB.out) rfl
      clear hrow
      have HBD : Hid (bodyR ⟨1, x1, 0, 0, 0, 0, false, 0, 0, 0, [], 0, []⟩ z1 = (num 4 z1).map fun x => { (⟨1, x1, 0, 0, 0, 0, false, 0, 0, 0, [], 0, []⟩ : Cl) with sz := sgn x.1 }) := Lib.hid (by first | rfl | simp [bodyR])
      go_wp2_with fail
      refine at_any (fun W => TI w r C L #[.int .i64 1, .int .i64 x1, .int .i64 0, .int .i64 0, .int .u64 0, .int .u64 0, .bool false, .int .i64 0, .int .i64 0, .int .i64 0, .slice none 0 0, .int .i64 0, .slice none 0 0] 30 z1 F W) (HTI.out) (fun W2 hI2 => ?_)
      have I2 := Lib.hid hI2
      clear hI2
      refine (signed_t W2 r z1 F I2.out.rd HBY.out.1).mono ?_
      rintro e X2 ht2
      rcases hn2 : num 4 z1 with _ | ⟨x2, z2⟩ <;> rw [hn2] at ht2 <;> unfold TP at ht2 <;> simp only at ht2
      · obtain ⟨rfl, hk2⟩ := ht2
        have HK2 := Lib.hid (I2.out.far hk2)
        have HN2 := Lib.hid hn2
        clear hk2 hn2
        go_wp2
        refine ⟨by first | rfl | trivial, HR.out _ _ ?_⟩
        rw [HBD.out]
        rw [HN2.out]; (try simp only [Option.bind_some])
        exact ⟨by first | rfl | trivial, kept_new HK2.out HC.out⟩
      obtain ⟨rfl, hr2, hk2⟩ := ht2
      have HN2 := Lib.hid hn2
      have hB2 := num_bytes HBY.out.1 hn2
      have HB2 := Lib.hid hB2
      have J2 := Lib.hid (I2.out.on HTA.out hr2 hk2)
      have hrow2 := J2.out.row
      have hbox2 : X2.heap[B]? = some (.cells #[.pointer (some ⟨r, 0, none⟩)] 77) := J2.out.fix (B, _) HLB.out
      have q2 : X2.cell? ⟨B, 0, none⟩ = some (.pointer (some ⟨r, 0, none⟩)) := cell_row hbox2 rfl
      have y2_2 : X2.cell? ⟨C, 2, none⟩ = some (.int .i64 0) := cell_row hrow2 rfl
      have z2_2 : X2.frozen? ⟨C, 2, none⟩ = false := free_row hrow2
      clear hrow2 hbox2 hr2 hk2 hn2 hB2
      have KT : Hid (TI w r C L #[.int .i64 1, .int .i64 x1, .int .i64 (sgn x2), .int .i64 0, .int .u64 0, .int .u64 0, .bool false, .int .i64 0, .int .i64 0, .int .i64 0, .slice none 0 0, .int .i64 0, .slice none 0 0] 30 _ F (X2.setCell ⟨C, 2, none⟩ (.int .i64 (sgn x2)))) := Lib.hid ((J2.out.set HTA.out 2 (.int .i64 (sgn x2))))
      go_wp2_with (first | (refine wpList_load_mid rfl 30 (.tmp 3) rfl C 0 rfl [.int .i64 1, .int .i64 x1, .int .i64 (sgn x2), .int .i64 0, .int .u64 0, .int .u64 0, .bool false, .int .i64 0, .int .i64 0, .int .i64 0, .slice none 0 0, .int .i64 0, .slice none 0 0] _ (range_row KT.out.row (by rfl)) Try.underlying30 rfl info30 ?_) | (refine wpList_store_row rfl 30 (.tmp 2) (.tmp 64) rfl (B + 1) 30 #[.int .i64 0, .int .i64 0, .int .i64 0, .int .i64 0, .int .u64 0, .int .u64 0, .bool false, .int .i64 0, .int .i64 0, .int .i64 0, .slice none 0 0, .int .i64 0, .slice none 0 0] #[.int .i64 1, .int .i64 x1, .int .i64 (sgn x2), .int .i64 0, .int .u64 0, .int .u64 0, .bool false, .int .i64 0, .int .i64 0, .int .i64 0, .slice none 0 0, .int .i64 0, .slice none 0 0] rfl rfl (KT.out.fix (B + 1, _) HLA.out) info30 rfl (by simp [Value.oneCell']) ?_) | fail)
      refine bodyPost_ret (results_cell_row rfl _ _ (B + 1) 30 #[.int .i64 1, .int .i64 x1, .int .i64 (sgn x2), .int .i64 0, .int .u64 0, .int .u64 0, .bool false, .int .i64 0, .int .i64 0, .int .i64 0, .slice none 0 0, .int .i64 0, .slice none 0 0] (0, 0) _ rfl (setRow_heap _ _ _ _ _ _ (KT.out.fix (B + 1, _) HLA.out)) Try.underlying30 rfl info30) rfl (HR.out _ _ ?_)
      rw [HBD.out]
      rw [HN2.out]; (try simp only [Option.bind_some])
      exact cp_some (c := (⟨1, x1, (sgn x2), 0, 0, 0, false, 0, 0, 0, [], 0, []⟩ : Cl)) KT.out HC.out HAB.out _ (OB.nil _) (OI.nil _) (fresh_nil _) (fresh_nil _)
    by_cases o2 : x0 = 2
    · subst o2
      have hrow := HTI.out.row
      have y0 : W.cell? ⟨C, 0, none⟩ = some (.int .i64 2) := cell_row hrow rfl
      have q0 : W.cell? ⟨B, 0, none⟩ = some (.pointer (some ⟨r, 0, none⟩)) := cell_row (HTI.out.fix (B, _) HLB.out) rfl
      clear hrow
      have HBD : Hid (bodyR ⟨2, x1, 0, 0, 0, 0, false, 0, 0, 0, [], 0, []⟩ z1 = (capR z1).map fun x => { (⟨2, x1, 0, 0, 0, 0, false, 0, 0, 0, [], 0, []⟩ : Cl) with obj := x.1.1, hi := x.1.2.1, lo := x.1.2.2 }) := Lib.hid (by first | rfl | simp [bodyR])
      go_wp2_with fail
      refine at_any (fun W => TI w r C L #[.int .i64 2, .int .i64 x1, .int .i64 0, .int .i64 0, .int .u64 0, .int .u64 0, .bool false, .int .i64 0, .int .i64 0, .int .i64 0, .slice none 0 0, .int .i64 0, .slice none 0 0] 30 z1 F W) (HTI.out) (fun W2 hI2 => ?_)
      have I2 := Lib.hid hI2
      clear hI2
      refine (cap_t W2 r z1 F I2.out.rd HBY.out.1).mono ?_
      rintro e X2 ht2
      rcases hn2 : capR z1 with _ | ⟨⟨x2, x3, x4⟩, z2⟩ <;> rw [hn2] at ht2 <;> unfold TP at ht2 <;> simp only at ht2
      · obtain ⟨rfl, hk2⟩ := ht2
        have HK2 := Lib.hid (I2.out.far hk2)
        have HN2 := Lib.hid hn2
        clear hk2 hn2
        go_wp2
        refine ⟨by first | rfl | trivial, HR.out _ _ ?_⟩
        rw [HBD.out]
        rw [HN2.out]; (try simp only [Option.bind_some])
        exact ⟨by first | rfl | trivial, kept_new HK2.out HC.out⟩
      obtain ⟨rfl, hr2, hk2⟩ := ht2
      have HN2 := Lib.hid hn2
      have hB2 := cap_bytes HBY.out.1 hn2
      have HB2 := Lib.hid hB2
      have J2 := Lib.hid (I2.out.on HTA.out hr2 hk2)
      have hrow2 := J2.out.row
      have hbox2 : X2.heap[B]? = some (.cells #[.pointer (some ⟨r, 0, none⟩)] 77) := J2.out.fix (B, _) HLB.out
      have q2 : X2.cell? ⟨B, 0, none⟩ = some (.pointer (some ⟨r, 0, none⟩)) := cell_row hbox2 rfl
      have y2_3 : X2.cell? ⟨C, 3, none⟩ = some (.int .i64 0) := cell_row hrow2 rfl
      have z2_3 : X2.frozen? ⟨C, 3, none⟩ = false := free_row hrow2
      have y2_4 : X2.cell? ⟨C, 4, none⟩ = some (.int .u64 0) := cell_row hrow2 rfl
      have z2_4 : X2.frozen? ⟨C, 4, none⟩ = false := free_row hrow2
      have y2_5 : X2.cell? ⟨C, 5, none⟩ = some (.int .u64 0) := cell_row hrow2 rfl
      have z2_5 : X2.frozen? ⟨C, 5, none⟩ = false := free_row hrow2
      clear hrow2 hbox2 hr2 hk2 hn2 hB2
      have KT : Hid (TI w r C L #[.int .i64 2, .int .i64 x1, .int .i64 0, .int .i64 x2, .int .u64 x3, .int .u64 x4, .bool false, .int .i64 0, .int .i64 0, .int .i64 0, .slice none 0 0, .int .i64 0, .slice none 0 0] 30 _ F (((X2.setCell ⟨C, 3, none⟩ (.int .i64 x2)).setCell ⟨C, 4, none⟩ (.int .u64 x3)).setCell ⟨C, 5, none⟩ (.int .u64 x4))) := Lib.hid ((((J2.out.set HTA.out 3 (.int .i64 x2)).set HTA.out 4 (.int .u64 x3)).set HTA.out 5 (.int .u64 x4)))
      go_wp2_with (first | (refine wpList_load_mid rfl 30 (.tmp 3) rfl C 0 rfl [.int .i64 2, .int .i64 x1, .int .i64 0, .int .i64 x2, .int .u64 x3, .int .u64 x4, .bool false, .int .i64 0, .int .i64 0, .int .i64 0, .slice none 0 0, .int .i64 0, .slice none 0 0] _ (range_row KT.out.row (by rfl)) Try.underlying30 rfl info30 ?_) | (refine wpList_store_row rfl 30 (.tmp 2) (.tmp 64) rfl (B + 1) 30 #[.int .i64 0, .int .i64 0, .int .i64 0, .int .i64 0, .int .u64 0, .int .u64 0, .bool false, .int .i64 0, .int .i64 0, .int .i64 0, .slice none 0 0, .int .i64 0, .slice none 0 0] #[.int .i64 2, .int .i64 x1, .int .i64 0, .int .i64 x2, .int .u64 x3, .int .u64 x4, .bool false, .int .i64 0, .int .i64 0, .int .i64 0, .slice none 0 0, .int .i64 0, .slice none 0 0] rfl rfl (KT.out.fix (B + 1, _) HLA.out) info30 rfl (by simp [Value.oneCell']) ?_) | fail)
      refine bodyPost_ret (results_cell_row rfl _ _ (B + 1) 30 #[.int .i64 2, .int .i64 x1, .int .i64 0, .int .i64 x2, .int .u64 x3, .int .u64 x4, .bool false, .int .i64 0, .int .i64 0, .int .i64 0, .slice none 0 0, .int .i64 0, .slice none 0 0] (0, 0) _ rfl (setRow_heap _ _ _ _ _ _ (KT.out.fix (B + 1, _) HLA.out)) Try.underlying30 rfl info30) rfl (HR.out _ _ ?_)
      rw [HBD.out]
      rw [HN2.out]; (try simp only [Option.bind_some])
      exact cp_some (c := (⟨2, x1, 0, x2, x3, x4, false, 0, 0, 0, [], 0, []⟩ : Cl)) KT.out HC.out HAB.out _ (OB.nil _) (OI.nil _) (fresh_nil _) (fresh_nil _)
    by_cases o3 : x0 = 3
    · subst o3
      have hrow := HTI.out.row
      have y0 : W.cell? ⟨C, 0, none⟩ = some (.int .i64 3) := cell_row hrow rfl
      have q0 : W.cell? ⟨B, 0, none⟩ = some (.pointer (some ⟨r, 0, none⟩)) := cell_row (HTI.out.fix (B, _) HLB.out) rfl
      clear hrow
      have HBD : Hid (bodyR ⟨3, x1, 0, 0, 0, 0, false, 0, 0, 0, [], 0, []⟩ z1 = (capR z1).bind fun x => (num 1 x.2).map fun y => { (⟨3, x1, 0, 0, 0, 0, false, 0, 0, 0, [], 0, []⟩ : Cl) with obj := x.1.1, hi := x.1.2.1, lo := x.1.2.2, rt := y.1 }) := Lib.hid (by first | rfl | simp [bodyR])
      go_wp2_with fail
      refine at_any (fun W => TI w r C L #[.int .i64 3, .int .i64 x1, .int .i64 0, .int .i64 0, .int .u64 0, .int .u64 0, .bool false, .int .i64 0, .int .i64 0, .int .i64 0, .slice none 0 0, .int .i64 0, .slice none 0 0] 30 z1 F W) (HTI.out) (fun W2 hI2 => ?_)
      have I2 := Lib.hid hI2
      clear hI2
      refine (cap_t W2 r z1 F I2.out.rd HBY.out.1).mono ?_
      rintro e X2 ht2
      rcases hn2 : capR z1 with _ | ⟨⟨x2, x3, x4⟩, z2⟩ <;> rw [hn2] at ht2 <;> unfold TP at ht2 <;> simp only at ht2
      · obtain ⟨rfl, hk2⟩ := ht2
        have HK2 := Lib.hid (I2.out.far hk2)
        have HN2 := Lib.hid hn2
        clear hk2 hn2
        go_wp2
        refine ⟨by first | rfl | trivial, HR.out _ _ ?_⟩
        rw [HBD.out]
        rw [HN2.out]; (try simp only [Option.bind_some])
        exact ⟨by first | rfl | trivial, kept_new HK2.out HC.out⟩
      obtain ⟨rfl, hr2, hk2⟩ := ht2
      have HN2 := Lib.hid hn2
      have hB2 := cap_bytes HBY.out.1 hn2
      have HB2 := Lib.hid hB2
      have J2 := Lib.hid (I2.out.on HTA.out hr2 hk2)
      have hrow2 := J2.out.row
      have hbox2 : X2.heap[B]? = some (.cells #[.pointer (some ⟨r, 0, none⟩)] 77) := J2.out.fix (B, _) HLB.out
      have q2 : X2.cell? ⟨B, 0, none⟩ = some (.pointer (some ⟨r, 0, none⟩)) := cell_row hbox2 rfl
      have y2_3 : X2.cell? ⟨C, 3, none⟩ = some (.int .i64 0) := cell_row hrow2 rfl
      have z2_3 : X2.frozen? ⟨C, 3, none⟩ = false := free_row hrow2
      have y2_4 : X2.cell? ⟨C, 4, none⟩ = some (.int .u64 0) := cell_row hrow2 rfl
      have z2_4 : X2.frozen? ⟨C, 4, none⟩ = false := free_row hrow2
      have y2_5 : X2.cell? ⟨C, 5, none⟩ = some (.int .u64 0) := cell_row hrow2 rfl
      have z2_5 : X2.frozen? ⟨C, 5, none⟩ = false := free_row hrow2
      clear hrow2 hbox2 hr2 hk2 hn2 hB2
      go_wp2_with fail
      refine at_any (fun W => TI w r C L #[.int .i64 3, .int .i64 x1, .int .i64 0, .int .i64 x2, .int .u64 x3, .int .u64 x4, .bool false, .int .i64 0, .int .i64 0, .int .i64 0, .slice none 0 0, .int .i64 0, .slice none 0 0] 30 z2 F W) ((((J2.out.set HTA.out 3 (.int .i64 x2)).set HTA.out 4 (.int .u64 x3)).set HTA.out 5 (.int .u64 x4))) (fun W3 hI3 => ?_)
      have I3 := Lib.hid hI3
      clear hI3
      refine (number_t' W3 r z2 F I3.out.rd HB2.out.1 1 (by unfold Wd; omega) 1 rfl).mono ?_
      rintro e X3 ht3
      rcases hn3 : num 1 z2 with _ | ⟨x5, z3⟩ <;> rw [hn3] at ht3 <;> unfold TP at ht3 <;> simp only at ht3
      · obtain ⟨rfl, hk3⟩ := ht3
        have HK3 := Lib.hid (I3.out.far hk3)
        have HN3 := Lib.hid hn3
        clear hk3 hn3
        go_wp2
        refine ⟨by first | rfl | trivial, HR.out _ _ ?_⟩
        rw [HBD.out]
        rw [HN2.out]; (try simp only [Option.bind_some])
        rw [HN3.out]; (try simp only [Option.bind_some])
        exact ⟨by first | rfl | trivial, kept_new HK3.out HC.out⟩
      obtain ⟨rfl, hr3, hk3⟩ := ht3
      have HN3 := Lib.hid hn3
      have hB3 := num_bytes HB2.out.1 hn3
      have HB3 := Lib.hid hB3
      have J3 := Lib.hid (I3.out.on HTA.out hr3 hk3)
      have hrow3 := J3.out.row
      have hbox3 : X3.heap[B]? = some (.cells #[.pointer (some ⟨r, 0, none⟩)] 77) := J3.out.fix (B, _) HLB.out
      have q3 : X3.cell? ⟨B, 0, none⟩ = some (.pointer (some ⟨r, 0, none⟩)) := cell_row hbox3 rfl
      have y3_7 : X3.cell? ⟨C, 7, none⟩ = some (.int .i64 0) := cell_row hrow3 rfl
      have z3_7 : X3.frozen? ⟨C, 7, none⟩ = false := free_row hrow3
      clear hrow3 hbox3 hr3 hk3 hn3 hB3
      have KT : Hid (TI w r C L #[.int .i64 3, .int .i64 x1, .int .i64 0, .int .i64 x2, .int .u64 x3, .int .u64 x4, .bool false, .int .i64 x5, .int .i64 0, .int .i64 0, .slice none 0 0, .int .i64 0, .slice none 0 0] 30 _ F (X3.setCell ⟨C, 7, none⟩ (.int .i64 x5))) := Lib.hid ((J3.out.set HTA.out 7 (.int .i64 x5)))
      go_wp2_with (first | (refine wpList_load_mid rfl 30 (.tmp 3) rfl C 0 rfl [.int .i64 3, .int .i64 x1, .int .i64 0, .int .i64 x2, .int .u64 x3, .int .u64 x4, .bool false, .int .i64 x5, .int .i64 0, .int .i64 0, .slice none 0 0, .int .i64 0, .slice none 0 0] _ (range_row KT.out.row (by rfl)) Try.underlying30 rfl info30 ?_) | (refine wpList_store_row rfl 30 (.tmp 2) (.tmp 64) rfl (B + 1) 30 #[.int .i64 0, .int .i64 0, .int .i64 0, .int .i64 0, .int .u64 0, .int .u64 0, .bool false, .int .i64 0, .int .i64 0, .int .i64 0, .slice none 0 0, .int .i64 0, .slice none 0 0] #[.int .i64 3, .int .i64 x1, .int .i64 0, .int .i64 x2, .int .u64 x3, .int .u64 x4, .bool false, .int .i64 x5, .int .i64 0, .int .i64 0, .slice none 0 0, .int .i64 0, .slice none 0 0] rfl rfl (KT.out.fix (B + 1, _) HLA.out) info30 rfl (by simp [Value.oneCell']) ?_) | fail)
      refine bodyPost_ret (results_cell_row rfl _ _ (B + 1) 30 #[.int .i64 3, .int .i64 x1, .int .i64 0, .int .i64 x2, .int .u64 x3, .int .u64 x4, .bool false, .int .i64 x5, .int .i64 0, .int .i64 0, .slice none 0 0, .int .i64 0, .slice none 0 0] (0, 0) _ rfl (setRow_heap _ _ _ _ _ _ (KT.out.fix (B + 1, _) HLA.out)) Try.underlying30 rfl info30) rfl (HR.out _ _ ?_)
      rw [HBD.out]
      rw [HN2.out]; (try simp only [Option.bind_some])
      rw [HN3.out]; (try simp only [Option.bind_some])
      exact cp_some (c := (⟨3, x1, 0, x2, x3, x4, false, x5, 0, 0, [], 0, []⟩ : Cl)) KT.out HC.out HAB.out _ (OB.nil _) (OI.nil _) (fresh_nil _) (fresh_nil _)
    by_cases o4 : x0 = 4
    · subst o4
      have hrow := HTI.out.row
      have y0 : W.cell? ⟨C, 0, none⟩ = some (.int .i64 4) := cell_row hrow rfl
      have q0 : W.cell? ⟨B, 0, none⟩ = some (.pointer (some ⟨r, 0, none⟩)) := cell_row (HTI.out.fix (B, _) HLB.out) rfl
      clear hrow
      have HBD : Hid (bodyR ⟨4, x1, 0, 0, 0, 0, false, 0, 0, 0, [], 0, []⟩ z1 = (capR z1).map fun x => { (⟨4, x1, 0, 0, 0, 0, false, 0, 0, 0, [], 0, []⟩ : Cl) with obj := x.1.1, hi := x.1.2.1, lo := x.1.2.2 }) := Lib.hid (by first | rfl | simp [bodyR])
      go_wp2_with fail
      refine at_any (fun W => TI w r C L #[.int .i64 4, .int .i64 x1, .int .i64 0, .int .i64 0, .int .u64 0, .int .u64 0, .bool false, .int .i64 0, .int .i64 0, .int .i64 0, .slice none 0 0, .int .i64 0, .slice none 0 0] 30 z1 F W) (HTI.out) (fun W2 hI2 => ?_)
      have I2 := Lib.hid hI2
      clear hI2
      refine (cap_t W2 r z1 F I2.out.rd HBY.out.1).mono ?_
      rintro e X2 ht2
      rcases hn2 : capR z1 with _ | ⟨⟨x2, x3, x4⟩, z2⟩ <;> rw [hn2] at ht2 <;> unfold TP at ht2 <;> simp only at ht2
      · obtain ⟨rfl, hk2⟩ := ht2
        have HK2 := Lib.hid (I2.out.far hk2)
        have HN2 := Lib.hid hn2
        clear hk2 hn2
        go_wp2
        refine ⟨by first | rfl | trivial, HR.out _ _ ?_⟩
        rw [HBD.out]
        rw [HN2.out]; (try simp only [Option.bind_some])
        exact ⟨by first | rfl | trivial, kept_new HK2.out HC.out⟩
      obtain ⟨rfl, hr2, hk2⟩ := ht2
      have HN2 := Lib.hid hn2
      have hB2 := cap_bytes HBY.out.1 hn2
      have HB2 := Lib.hid hB2
      have J2 := Lib.hid (I2.out.on HTA.out hr2 hk2)
      have hrow2 := J2.out.row
      have hbox2 : X2.heap[B]? = some (.cells #[.pointer (some ⟨r, 0, none⟩)] 77) := J2.out.fix (B, _) HLB.out
      have q2 : X2.cell? ⟨B, 0, none⟩ = some (.pointer (some ⟨r, 0, none⟩)) := cell_row hbox2 rfl
      have y2_3 : X2.cell? ⟨C, 3, none⟩ = some (.int .i64 0) := cell_row hrow2 rfl
      have z2_3 : X2.frozen? ⟨C, 3, none⟩ = false := free_row hrow2
      have y2_4 : X2.cell? ⟨C, 4, none⟩ = some (.int .u64 0) := cell_row hrow2 rfl
      have z2_4 : X2.frozen? ⟨C, 4, none⟩ = false := free_row hrow2
      have y2_5 : X2.cell? ⟨C, 5, none⟩ = some (.int .u64 0) := cell_row hrow2 rfl
      have z2_5 : X2.frozen? ⟨C, 5, none⟩ = false := free_row hrow2
      clear hrow2 hbox2 hr2 hk2 hn2 hB2
      have KT : Hid (TI w r C L #[.int .i64 4, .int .i64 x1, .int .i64 0, .int .i64 x2, .int .u64 x3, .int .u64 x4, .bool false, .int .i64 0, .int .i64 0, .int .i64 0, .slice none 0 0, .int .i64 0, .slice none 0 0] 30 _ F (((X2.setCell ⟨C, 3, none⟩ (.int .i64 x2)).setCell ⟨C, 4, none⟩ (.int .u64 x3)).setCell ⟨C, 5, none⟩ (.int .u64 x4))) := Lib.hid ((((J2.out.set HTA.out 3 (.int .i64 x2)).set HTA.out 4 (.int .u64 x3)).set HTA.out 5 (.int .u64 x4)))
      go_wp2_with (first | (refine wpList_load_mid rfl 30 (.tmp 3) rfl C 0 rfl [.int .i64 4, .int .i64 x1, .int .i64 0, .int .i64 x2, .int .u64 x3, .int .u64 x4, .bool false, .int .i64 0, .int .i64 0, .int .i64 0, .slice none 0 0, .int .i64 0, .slice none 0 0] _ (range_row KT.out.row (by rfl)) Try.underlying30 rfl info30 ?_) | (refine wpList_store_row rfl 30 (.tmp 2) (.tmp 64) rfl (B + 1) 30 #[.int .i64 0, .int .i64 0, .int .i64 0, .int .i64 0, .int .u64 0, .int .u64 0, .bool false, .int .i64 0, .int .i64 0, .int .i64 0, .slice none 0 0, .int .i64 0, .slice none 0 0] #[.int .i64 4, .int .i64 x1, .int .i64 0, .int .i64 x2, .int .u64 x3, .int .u64 x4, .bool false, .int .i64 0, .int .i64 0, .int .i64 0, .slice none 0 0, .int .i64 0, .slice none 0 0] rfl rfl (KT.out.fix (B + 1, _) HLA.out) info30 rfl (by simp [Value.oneCell']) ?_) | fail)
      refine bodyPost_ret (results_cell_row rfl _ _ (B + 1) 30 #[.int .i64 4, .int .i64 x1, .int .i64 0, .int .i64 x2, .int .u64 x3, .int .u64 x4, .bool false, .int .i64 0, .int .i64 0, .int .i64 0, .slice none 0 0, .int .i64 0, .slice none 0 0] (0, 0) _ rfl (setRow_heap _ _ _ _ _ _ (KT.out.fix (B + 1, _) HLA.out)) Try.underlying30 rfl info30) rfl (HR.out _ _ ?_)
      rw [HBD.out]
      rw [HN2.out]; (try simp only [Option.bind_some])
      exact cp_some (c := (⟨4, x1, 0, x2, x3, x4, false, 0, 0, 0, [], 0, []⟩ : Cl)) KT.out HC.out HAB.out _ (OB.nil _) (OI.nil _) (fresh_nil _) (fresh_nil _)
    by_cases o5 : x0 = 5
    · subst o5
      have hrow := HTI.out.row
      have y0 : W.cell? ⟨C, 0, none⟩ = some (.int .i64 5) := cell_row hrow rfl
      have q0 : W.cell? ⟨B, 0, none⟩ = some (.pointer (some ⟨r, 0, none⟩)) := cell_row (HTI.out.fix (B, _) HLB.out) rfl
      clear hrow
      have HBD : Hid (bodyR ⟨5, x1, 0, 0, 0, 0, false, 0, 0, 0, [], 0, []⟩ z1 = (mvR (⟨5, x1, 0, 0, 0, 0, false, 0, 0, 0, [], 0, []⟩ : Cl) z1).bind fun x => (num 4 x.2).map fun y => { x.1 with n := sgn y.1 }) := Lib.hid (by first | rfl | simp [bodyR])
      go_wp2_with fail
      refine at_any (fun W => TI w r C L #[.int .i64 5, .int .i64 x1, .int .i64 0, .int .i64 0, .int .u64 0, .int .u64 0, .bool false, .int .i64 0, .int .i64 0, .int .i64 0, .slice none 0 0, .int .i64 0, .slice none 0 0] 30 z1 F W) (HTI.out) (fun W2 hI2 => ?_)
      have I2 := Lib.hid hI2
      clear hI2
      refine (moved_t W2 r C z1 F (⟨5, x1, 0, 0, 0, 0, false, 0, 0, 0, [], 0, []⟩ : Cl) (.slice none 0 0) (.slice none 0 0) I2.out.rd HBY.out.1 HTA.out.cr I2.out.row HTA.out.fc).mono ?_
      rintro e X2 ht2
      rcases hn2 : mvR (⟨5, x1, 0, 0, 0, 0, false, 0, 0, 0, [], 0, []⟩ : Cl) z1 with _ | ⟨⟨o2, b2, s2, j2, h2, l2, g2, t2, f2, n2, d2, i2, e2⟩, z2⟩ <;> rw [hn2] at ht2 <;> unfold MP at ht2 <;> simp only at ht2
      · obtain ⟨rfl, hk2⟩ := ht2
        have HK2 := Lib.hid (I2.out.kept.trans hk2 (fun b hb => .inl hb))
        have HN2 := Lib.hid hn2
        clear hk2 hn2
        go_wp2
        refine ⟨by first | rfl | trivial, HR.out _ _ ?_⟩
        rw [HBD.out]
        rw [HN2.out]; (try simp only [Option.bind_some])
        exact ⟨by first | rfl | trivial, kept_new HK2.out HC.out⟩
      obtain ⟨rfl, hrow2, hr2, hk2⟩ := ht2
      have HN2 := Lib.hid hn2
      have HV2 := mv_facts HBY.out.1 hn2
      obtain ⟨rfl, rfl⟩ : d2 = [] ∧ e2 = [] := ⟨HV2.2.2.2.1, HV2.2.2.2.2.1⟩
      have HB2 := Lib.hid HV2.1
      have HL2 : Hid (z2.length ≤ 140737488351300) := Lib.hid (Nat.le_trans (mv_le' hn2) HL1.out)
      clear HV2
      have J2 := Lib.hid (I2.out.over HTA.out hrow2 hr2 hk2)
      have q2 : X2.cell? ⟨B, 0, none⟩ = some (.pointer (some ⟨r, 0, none⟩)) := cell_row (J2.out.fix (B, _) HLB.out) rfl
      clear hrow2 hr2 hk2 hn2
      go_wp2_with fail
      refine at_any (fun W => TI w r C L #[.int .i64 o2, .int .i64 b2, .int .i64 s2, .int .i64 j2, .int .u64 h2, .int .u64 l2, .bool g2, .int .i64 t2, .int .i64 f2, .int .i64 n2, .slice none 0 0, .int .i64 i2, .slice none 0 0] 30 z2 F W) (J2.out) (fun W3 hI3 => ?_)
      have I3 := Lib.hid hI3
      clear hI3
      refine (signed_t W3 r z2 F I3.out.rd HB2.out).mono ?_
      rintro e X3 ht3
      rcases hn3 : num 4 z2 with _ | ⟨x5, z3⟩ <;> rw [hn3] at ht3 <;> unfold TP at ht3 <;> simp only at ht3
      · obtain ⟨rfl, hk3⟩ := ht3
        have HK3 := Lib.hid (I3.out.far hk3)
        have HN3 := Lib.hid hn3
        clear hk3 hn3
        go_wp2
        refine ⟨by first | rfl | trivial, HR.out _ _ ?_⟩
        rw [HBD.out]
        rw [HN2.out]; (try simp only [Option.bind_some])
        rw [HN3.out]; (try simp only [Option.bind_some])
        exact ⟨by first | rfl | trivial, kept_new HK3.out HC.out⟩
      obtain ⟨rfl, hr3, hk3⟩ := ht3
      have HN3 := Lib.hid hn3
      have hB3 := num_bytes HB2.out hn3
      have HB3 := Lib.hid hB3
      have J3 := Lib.hid (I3.out.on HTA.out hr3 hk3)
      have hrow3 := J3.out.row
      have hbox3 : X3.heap[B]? = some (.cells #[.pointer (some ⟨r, 0, none⟩)] 77) := J3.out.fix (B, _) HLB.out
      have q3 : X3.cell? ⟨B, 0, none⟩ = some (.pointer (some ⟨r, 0, none⟩)) := cell_row hbox3 rfl
      have y3_9 : X3.cell? ⟨C, 9, none⟩ = some (.int .i64 n2) := cell_row hrow3 rfl
      have z3_9 : X3.frozen? ⟨C, 9, none⟩ = false := free_row hrow3
      clear hrow3 hbox3 hr3 hk3 hn3 hB3
      have KT : Hid (TI w r C L #[.int .i64 o2, .int .i64 b2, .int .i64 s2, .int .i64 j2, .int .u64 h2, .int .u64 l2, .bool g2, .int .i64 t2, .int .i64 f2, .int .i64 (sgn x5), .slice none 0 0, .int .i64 i2, .slice none 0 0] 30 _ F (X3.setCell ⟨C, 9, none⟩ (.int .i64 (sgn x5)))) := Lib.hid ((J3.out.set HTA.out 9 (.int .i64 (sgn x5))))
      go_wp2_with (first | (refine wpList_load_mid rfl 30 (.tmp 3) rfl C 0 rfl [.int .i64 o2, .int .i64 b2, .int .i64 s2, .int .i64 j2, .int .u64 h2, .int .u64 l2, .bool g2, .int .i64 t2, .int .i64 f2, .int .i64 (sgn x5), .slice none 0 0, .int .i64 i2, .slice none 0 0] _ (range_row KT.out.row (by rfl)) Try.underlying30 rfl info30 ?_) | (refine wpList_store_row rfl 30 (.tmp 2) (.tmp 64) rfl (B + 1) 30 #[.int .i64 0, .int .i64 0, .int .i64 0, .int .i64 0, .int .u64 0, .int .u64 0, .bool false, .int .i64 0, .int .i64 0, .int .i64 0, .slice none 0 0, .int .i64 0, .slice none 0 0] #[.int .i64 o2, .int .i64 b2, .int .i64 s2, .int .i64 j2, .int .u64 h2, .int .u64 l2, .bool g2, .int .i64 t2, .int .i64 f2, .int .i64 (sgn x5), .slice none 0 0, .int .i64 i2, .slice none 0 0] rfl rfl (KT.out.fix (B + 1, _) HLA.out) info30 rfl (by simp [Value.oneCell']) ?_) | fail)
      refine bodyPost_ret (results_cell_row rfl _ _ (B + 1) 30 #[.int .i64 o2, .int .i64 b2, .int .i64 s2, .int .i64 j2, .int .u64 h2, .int .u64 l2, .bool g2, .int .i64 t2, .int .i64 f2, .int .i64 (sgn x5), .slice none 0 0, .int .i64 i2, .slice none 0 0] (0, 0) _ rfl (setRow_heap _ _ _ _ _ _ (KT.out.fix (B + 1, _) HLA.out)) Try.underlying30 rfl info30) rfl (HR.out _ _ ?_)
      rw [HBD.out]
      rw [HN2.out]; (try simp only [Option.bind_some])
      rw [HN3.out]; (try simp only [Option.bind_some])
      exact cp_some (c := (⟨o2, b2, s2, j2, h2, l2, g2, t2, f2, (sgn x5), [], i2, []⟩ : Cl)) KT.out HC.out HAB.out _ (OB.nil _) (OI.nil _) (fresh_nil _) (fresh_nil _)
    by_cases o6 : x0 = 6
    · subst o6
      have hrow := HTI.out.row
      have y0 : W.cell? ⟨C, 0, none⟩ = some (.int .i64 6) := cell_row hrow rfl
      have q0 : W.cell? ⟨B, 0, none⟩ = some (.pointer (some ⟨r, 0, none⟩)) := cell_row (HTI.out.fix (B, _) HLB.out) rfl
      clear hrow
      have HBD : Hid (bodyR ⟨6, x1, 0, 0, 0, 0, false, 0, 0, 0, [], 0, []⟩ z1 = (mvR (⟨6, x1, 0, 0, 0, 0, false, 0, 0, 0, [], 0, []⟩ : Cl) z1).map fun x => { x.1 with da := x.2 }) := Lib.hid (by first | rfl | simp [bodyR])
      go_wp2_with fail
      refine at_any (fun W => TI w r C L #[.int .i64 6, .int .i64 x1, .int .i64 0, .int .i64 0, .int .u64 0, .int .u64 0, .bool false, .int .i64 0, .int .i64 0, .int .i64 0, .slice none 0 0, .int .i64 0, .slice none 0 0] 30 z1 F W) (HTI.out) (fun W2 hI2 => ?_)
      have I2 := Lib.hid hI2
      clear hI2
      refine (moved_t W2 r C z1 F (⟨6, x1, 0, 0, 0, 0, false, 0, 0, 0, [], 0, []⟩ : Cl) (.slice none 0 0) (.slice none 0 0) I2.out.rd HBY.out.1 HTA.out.cr I2.out.row HTA.out.fc).mono ?_
      rintro e X2 ht2
      rcases hn2 : mvR (⟨6, x1, 0, 0, 0, 0, false, 0, 0, 0, [], 0, []⟩ : Cl) z1 with _ | ⟨⟨o2, b2, s2, j2, h2, l2, g2, t2, f2, n2, d2, i2, e2⟩, z2⟩ <;> rw [hn2] at ht2 <;> unfold MP at ht2 <;> simp only at ht2
      · obtain ⟨rfl, hk2⟩ := ht2
        have HK2 := Lib.hid (I2.out.kept.trans hk2 (fun b hb => .inl hb))
        have HN2 := Lib.hid hn2
        clear hk2 hn2
        go_wp2
        refine ⟨by first | rfl | trivial, HR.out _ _ ?_⟩
        rw [HBD.out]
        rw [HN2.out]; (try simp only [Option.bind_some])
        exact ⟨by first | rfl | trivial, kept_new HK2.out HC.out⟩
      obtain ⟨rfl, hrow2, hr2, hk2⟩ := ht2
      have HN2 := Lib.hid hn2
      have HV2 := mv_facts HBY.out.1 hn2
      obtain ⟨rfl, rfl⟩ : d2 = [] ∧ e2 = [] := ⟨HV2.2.2.2.1, HV2.2.2.2.2.1⟩
      have HB2 := Lib.hid HV2.1
      have HL2 : Hid (z2.length ≤ 140737488351300) := Lib.hid (Nat.le_trans (mv_le' hn2) HL1.out)
      clear HV2
      have J2 := Lib.hid (I2.out.over HTA.out hrow2 hr2 hk2)
      have q2 : X2.cell? ⟨B, 0, none⟩ = some (.pointer (some ⟨r, 0, none⟩)) := cell_row (J2.out.fix (B, _) HLB.out) rfl
      clear hrow2 hr2 hk2 hn2
      go_wp2_with fail
      refine at_any (fun W => TI w r C L #[.int .i64 o2, .int .i64 b2, .int .i64 s2, .int .i64 j2, .int .u64 h2, .int .u64 l2, .bool g2, .int .i64 t2, .int .i64 f2, .int .i64 n2, .slice none 0 0, .int .i64 i2, .slice none 0 0] 30 z2 F W) (J2.out) (fun W3 hI3 => ?_)
      have I3 := Lib.hid hI3
      clear hI3
      refine (all_t W3 r z2 F I3.out.rd (by have := HL2.out; omega)).mono ?_
      rintro e X3 ⟨v, rfl, ho, hk3, hf, ys, hr3⟩
      obtain ⟨Av, nv, cw, rfl⟩ : ∃ A n c, v = .slice A n c := by obtain ⟨A, c, e, _⟩ := own_slice ho; exact ⟨_, _, _, e⟩
      have J3 := Lib.hid (I3.out.on HTA.out hr3 hk3)
      have HO := Lib.hid ho
      have HF : Hid (W3.heap.size ≤ W3.heap.size ∧ Fresh W3 (.slice Av nv cw)) := Lib.hid ⟨Nat.le_refl _, hf⟩
      have hrow3 := J3.out.row
      have y3 : X3.cell? ⟨C, 10, none⟩ = some (.slice none 0 0) := cell_row hrow3 rfl
      have z3 : X3.frozen? ⟨C, 10, none⟩ = false := free_row hrow3
      have HCL : Hid (C < W3.heap.size ∧ B + 1 < W3.heap.size) := Lib.hid ⟨lt_of_row I3.out.row, lt_of_row (I3.out.fix (B + 1, _) HLA.out)⟩
      clear ho hk3 hf hr3 hrow3
      have KT : Hid (TI w r C L #[.int .i64 o2, .int .i64 b2, .int .i64 s2, .int .i64 j2, .int .u64 h2, .int .u64 l2, .bool g2, .int .i64 t2, .int .i64 f2, .int .i64 n2, .slice Av nv cw, .int .i64 i2, .slice none 0 0] 30 _ F (X3.setCell ⟨C, 10, none⟩ (.slice Av nv cw))) := Lib.hid (J3.out.set HTA.out 10 (.slice Av nv cw))
      go_wp2_with (first | (refine wpList_load_mid rfl 30 (.tmp 3) rfl C 0 rfl [.int .i64 o2, .int .i64 b2, .int .i64 s2, .int .i64 j2, .int .u64 h2, .int .u64 l2, .bool g2, .int .i64 t2, .int .i64 f2, .int .i64 n2, .slice Av nv cw, .int .i64 i2, .slice none 0 0] _ (range_row KT.out.row (by rfl)) Try.underlying30 rfl info30 ?_) | (refine wpList_store_row rfl 30 (.tmp 2) (.tmp 64) rfl (B + 1) 30 #[.int .i64 0, .int .i64 0, .int .i64 0, .int .i64 0, .int .u64 0, .int .u64 0, .bool false, .int .i64 0, .int .i64 0, .int .i64 0, .slice none 0 0, .int .i64 0, .slice none 0 0] #[.int .i64 o2, .int .i64 b2, .int .i64 s2, .int .i64 j2, .int .u64 h2, .int .u64 l2, .bool g2, .int .i64 t2, .int .i64 f2, .int .i64 n2, .slice Av nv cw, .int .i64 i2, .slice none 0 0] rfl rfl (KT.out.fix (B + 1, _) HLA.out) info30 rfl (by simp [Value.oneCell']) ?_) | fail)
      refine bodyPost_ret (results_cell_row rfl _ _ (B + 1) 30 #[.int .i64 o2, .int .i64 b2, .int .i64 s2, .int .i64 j2, .int .u64 h2, .int .u64 l2, .bool g2, .int .i64 t2, .int .i64 f2, .int .i64 n2, .slice Av nv cw, .int .i64 i2, .slice none 0 0] (0, 0) _ rfl (setRow_heap _ _ _ _ _ _ (KT.out.fix (B + 1, _) HLA.out)) Try.underlying30 rfl info30) rfl (HR.out _ _ ?_)
      rw [HBD.out]
      rw [HN2.out]; (try simp only [Option.bind_some])
      exact cp_some (c := (⟨o2, b2, s2, j2, h2, l2, g2, t2, f2, n2, z2, i2, []⟩ : Cl)) KT.out HC.out HAB.out _ (own_kept HO.out (((Kept.refl (fun b => b = C ∨ b = B + 1) X3).setCell (p := ⟨C, 10, none⟩) (.inl (.inl rfl)) (.slice Av nv cw)).setRow (.inl (.inr rfl)) _) (fun b hb e => by have h1 := HF.out.2 b hb; have h2 := HCL.out; rcases e with e | e <;> omega)) (OI.nil _) (fun b hb => Nat.le_trans I3.out.kept.size (HF.out.2 b hb)) (fresh_nil _)
    by_cases o7 : x0 = 7
    · subst o7
      have hrow := HTI.out.row
      have y0 : W.cell? ⟨C, 0, none⟩ = some (.int .i64 7) := cell_row hrow rfl
      have q0 : W.cell? ⟨B, 0, none⟩ = some (.pointer (some ⟨r, 0, none⟩)) := cell_row (HTI.out.fix (B, _) HLB.out) rfl
      clear hrow
      have HBD : Hid (bodyR ⟨7, x1, 0, 0, 0, 0, false, 0, 0, 0, [], 0, []⟩ z1 = (capR z1).map fun x => { (⟨7, x1, 0, 0, 0, 0, false, 0, 0, 0, [], 0, []⟩ : Cl) with obj := x.1.1, hi := x.1.2.1, lo := x.1.2.2 }) := Lib.hid (by first | rfl | simp [bodyR])
      go_wp2_with fail
      refine at_any (fun W => TI w r C L #[.int .i64 7, .int .i64 x1, .int .i64 0, .int .i64 0, .int .u64 0, .int .u64 0, .bool false, .int .i64 0, .int .i64 0, .int .i64 0, .slice none 0 0, .int .i64 0, .slice none 0 0] 30 z1 F W) (HTI.out) (fun W2 hI2 => ?_)
      have I2 := Lib.hid hI2
      clear hI2
      refine (cap_t W2 r z1 F I2.out.rd HBY.out.1).mono ?_
      rintro e X2 ht2
      rcases hn2 : capR z1 with _ | ⟨⟨x2, x3, x4⟩, z2⟩ <;> rw [hn2] at ht2 <;> unfold TP at ht2 <;> simp only at ht2
      · obtain ⟨rfl, hk2⟩ := ht2
        have HK2 := Lib.hid (I2.out.far hk2)
        have HN2 := Lib.hid hn2
        clear hk2 hn2
        go_wp2
        refine ⟨by first | rfl | trivial, HR.out _ _ ?_⟩
        rw [HBD.out]
        rw [HN2.out]; (try simp only [Option.bind_some])
        exact ⟨by first | rfl | trivial, kept_new HK2.out HC.out⟩
      obtain ⟨rfl, hr2, hk2⟩ := ht2
      have HN2 := Lib.hid hn2
      have hB2 := cap_bytes HBY.out.1 hn2
      have HB2 := Lib.hid hB2
      have J2 := Lib.hid (I2.out.on HTA.out hr2 hk2)
      have hrow2 := J2.out.row
      have hbox2 : X2.heap[B]? = some (.cells #[.pointer (some ⟨r, 0, none⟩)] 77) := J2.out.fix (B, _) HLB.out
      have q2 : X2.cell? ⟨B, 0, none⟩ = some (.pointer (some ⟨r, 0, none⟩)) := cell_row hbox2 rfl
      have y2_3 : X2.cell? ⟨C, 3, none⟩ = some (.int .i64 0) := cell_row hrow2 rfl
      have z2_3 : X2.frozen? ⟨C, 3, none⟩ = false := free_row hrow2
      have y2_4 : X2.cell? ⟨C, 4, none⟩ = some (.int .u64 0) := cell_row hrow2 rfl
      have z2_4 : X2.frozen? ⟨C, 4, none⟩ = false := free_row hrow2
      have y2_5 : X2.cell? ⟨C, 5, none⟩ = some (.int .u64 0) := cell_row hrow2 rfl
      have z2_5 : X2.frozen? ⟨C, 5, none⟩ = false := free_row hrow2
      clear hrow2 hbox2 hr2 hk2 hn2 hB2
      have KT : Hid (TI w r C L #[.int .i64 7, .int .i64 x1, .int .i64 0, .int .i64 x2, .int .u64 x3, .int .u64 x4, .bool false, .int .i64 0, .int .i64 0, .int .i64 0, .slice none 0 0, .int .i64 0, .slice none 0 0] 30 _ F (((X2.setCell ⟨C, 3, none⟩ (.int .i64 x2)).setCell ⟨C, 4, none⟩ (.int .u64 x3)).setCell ⟨C, 5, none⟩ (.int .u64 x4))) := Lib.hid ((((J2.out.set HTA.out 3 (.int .i64 x2)).set HTA.out 4 (.int .u64 x3)).set HTA.out 5 (.int .u64 x4)))
      go_wp2_with (first | (refine wpList_load_mid rfl 30 (.tmp 3) rfl C 0 rfl [.int .i64 7, .int .i64 x1, .int .i64 0, .int .i64 x2, .int .u64 x3, .int .u64 x4, .bool false, .int .i64 0, .int .i64 0, .int .i64 0, .slice none 0 0, .int .i64 0, .slice none 0 0] _ (range_row KT.out.row (by rfl)) Try.underlying30 rfl info30 ?_) | (refine wpList_store_row rfl 30 (.tmp 2) (.tmp 64) rfl (B + 1) 30 #[.int .i64 0, .int .i64 0, .int .i64 0, .int .i64 0, .int .u64 0, .int .u64 0, .bool false, .int .i64 0, .int .i64 0, .int .i64 0, .slice none 0 0, .int .i64 0, .slice none 0 0] #[.int .i64 7, .int .i64 x1, .int .i64 0, .int .i64 x2, .int .u64 x3, .int .u64 x4, .bool false, .int .i64 0, .int .i64 0, .int .i64 0, .slice none 0 0, .int .i64 0, .slice none 0 0] rfl rfl (KT.out.fix (B + 1, _) HLA.out) info30 rfl (by simp [Value.oneCell']) ?_) | fail)
      refine bodyPost_ret (results_cell_row rfl _ _ (B + 1) 30 #[.int .i64 7, .int .i64 x1, .int .i64 0, .int .i64 x2, .int .u64 x3, .int .u64 x4, .bool false, .int .i64 0, .int .i64 0, .int .i64 0, .slice none 0 0, .int .i64 0, .slice none 0 0] (0, 0) _ rfl (setRow_heap _ _ _ _ _ _ (KT.out.fix (B + 1, _) HLA.out)) Try.underlying30 rfl info30) rfl (HR.out _ _ ?_)
      rw [HBD.out]
      rw [HN2.out]; (try simp only [Option.bind_some])
      exact cp_some (c := (⟨7, x1, 0, x2, x3, x4, false, 0, 0, 0, [], 0, []⟩ : Cl)) KT.out HC.out HAB.out _ (OB.nil _) (OI.nil _) (fresh_nil _) (fresh_nil _)
    by_cases o8 : x0 = 8
    · subst o8
      have hrow := HTI.out.row
      have y0 : W.cell? ⟨C, 0, none⟩ = some (.int .i64 8) := cell_row hrow rfl
      have q0 : W.cell? ⟨B, 0, none⟩ = some (.pointer (some ⟨r, 0, none⟩)) := cell_row (HTI.out.fix (B, _) HLB.out) rfl
      clear hrow
      have HBD : Hid (bodyR ⟨8, x1, 0, 0, 0, 0, false, 0, 0, 0, [], 0, []⟩ z1 = (num 2 z1).map fun x => { (⟨8, x1, 0, 0, 0, 0, false, 0, 0, 0, [], 0, []⟩ : Cl) with ix := x.1 }) := Lib.hid (by first | rfl | simp [bodyR])
      go_wp2_with fail
      refine at_any (fun W => TI w r C L #[.int .i64 8, .int .i64 x1, .int .i64 0, .int .i64 0, .int .u64 0, .int .u64 0, .bool false, .int .i64 0, .int .i64 0, .int .i64 0, .slice none 0 0, .int .i64 0, .slice none 0 0] 30 z1 F W) (HTI.out) (fun W2 hI2 => ?_)
      have I2 := Lib.hid hI2
      clear hI2
      refine (number_t' W2 r z1 F I2.out.rd HBY.out.1 2 (by unfold Wd; omega) 2 rfl).mono ?_
      rintro e X2 ht2
      rcases hn2 : num 2 z1 with _ | ⟨x2, z2⟩ <;> rw [hn2] at ht2 <;> unfold TP at ht2 <;> simp only at ht2
      · obtain ⟨rfl, hk2⟩ := ht2
        have HK2 := Lib.hid (I2.out.far hk2)
        have HN2 := Lib.hid hn2
        clear hk2 hn2
        go_wp2
        refine ⟨by first | rfl | trivial, HR.out _ _ ?_⟩
        rw [HBD.out]
        rw [HN2.out]; (try simp only [Option.bind_some])
        exact ⟨by first | rfl | trivial, kept_new HK2.out HC.out⟩
      obtain ⟨rfl, hr2, hk2⟩ := ht2
      have HN2 := Lib.hid hn2
      have hB2 := num_bytes HBY.out.1 hn2
      have HB2 := Lib.hid hB2
      have J2 := Lib.hid (I2.out.on HTA.out hr2 hk2)
      have hrow2 := J2.out.row
      have hbox2 : X2.heap[B]? = some (.cells #[.pointer (some ⟨r, 0, none⟩)] 77) := J2.out.fix (B, _) HLB.out
      have q2 : X2.cell? ⟨B, 0, none⟩ = some (.pointer (some ⟨r, 0, none⟩)) := cell_row hbox2 rfl
      have y2_11 : X2.cell? ⟨C, 11, none⟩ = some (.int .i64 0) := cell_row hrow2 rfl
      have z2_11 : X2.frozen? ⟨C, 11, none⟩ = false := free_row hrow2
      clear hrow2 hbox2 hr2 hk2 hn2 hB2
      have KT : Hid (TI w r C L #[.int .i64 8, .int .i64 x1, .int .i64 0, .int .i64 0, .int .u64 0, .int .u64 0, .bool false, .int .i64 0, .int .i64 0, .int .i64 0, .slice none 0 0, .int .i64 x2, .slice none 0 0] 30 _ F (X2.setCell ⟨C, 11, none⟩ (.int .i64 x2))) := Lib.hid ((J2.out.set HTA.out 11 (.int .i64 x2)))
      go_wp2_with (first | (refine wpList_load_mid rfl 30 (.tmp 3) rfl C 0 rfl [.int .i64 8, .int .i64 x1, .int .i64 0, .int .i64 0, .int .u64 0, .int .u64 0, .bool false, .int .i64 0, .int .i64 0, .int .i64 0, .slice none 0 0, .int .i64 x2, .slice none 0 0] _ (range_row KT.out.row (by rfl)) Try.underlying30 rfl info30 ?_) | (refine wpList_store_row rfl 30 (.tmp 2) (.tmp 64) rfl (B + 1) 30 #[.int .i64 0, .int .i64 0, .int .i64 0, .int .i64 0, .int .u64 0, .int .u64 0, .bool false, .int .i64 0, .int .i64 0, .int .i64 0, .slice none 0 0, .int .i64 0, .slice none 0 0] #[.int .i64 8, .int .i64 x1, .int .i64 0, .int .i64 0, .int .u64 0, .int .u64 0, .bool false, .int .i64 0, .int .i64 0, .int .i64 0, .slice none 0 0, .int .i64 x2, .slice none 0 0] rfl rfl (KT.out.fix (B + 1, _) HLA.out) info30 rfl (by simp [Value.oneCell']) ?_) | fail)
      refine bodyPost_ret (results_cell_row rfl _ _ (B + 1) 30 #[.int .i64 8, .int .i64 x1, .int .i64 0, .int .i64 0, .int .u64 0, .int .u64 0, .bool false, .int .i64 0, .int .i64 0, .int .i64 0, .slice none 0 0, .int .i64 x2, .slice none 0 0] (0, 0) _ rfl (setRow_heap _ _ _ _ _ _ (KT.out.fix (B + 1, _) HLA.out)) Try.underlying30 rfl info30) rfl (HR.out _ _ ?_)
      rw [HBD.out]
      rw [HN2.out]; (try simp only [Option.bind_some])
      exact cp_some (c := (⟨8, x1, 0, 0, 0, 0, false, 0, 0, 0, [], x2, []⟩ : Cl)) KT.out HC.out HAB.out _ (OB.nil _) (OI.nil _) (fresh_nil _) (fresh_nil _)
    by_cases o9 : x0 = 9
    · subst o9
      have hrow := HTI.out.row
      have y0 : W.cell? ⟨C, 0, none⟩ = some (.int .i64 9) := cell_row hrow rfl
      have q0 : W.cell? ⟨B, 0, none⟩ = some (.pointer (some ⟨r, 0, none⟩)) := cell_row (HTI.out.fix (B, _) HLB.out) rfl
      clear hrow
      have HBD : Hid (bodyR ⟨9, x1, 0, 0, 0, 0, false, 0, 0, 0, [], 0, []⟩ z1 = (num 1 z1).bind fun x => (giR x.1.toNat x.2).map fun g => { (⟨9, x1, 0, 0, 0, 0, false, 0, 0, 0, [], 0, []⟩ : Cl) with gi := g }) := Lib.hid (by first | rfl | simp [bodyR])
      go_wp2_with fail
      refine at_any (fun W => TI w r C L #[.int .i64 9, .int .i64 x1, .int .i64 0, .int .i64 0, .int .u64 0, .int .u64 0, .bool false, .int .i64 0, .int .i64 0, .int .i64 0, .slice none 0 0, .int .i64 0, .slice none 0 0] 30 z1 F W) (HTI.out) (fun W2 hI2 => ?_)
      have I2 := Lib.hid hI2
      clear hI2
      refine (number_t' W2 r z1 F I2.out.rd HBY.out.1 1 (by unfold Wd; omega) 1 rfl).mono ?_
      rintro e X2 ht2
      rcases hn2 : num 1 z1 with _ | ⟨x2, z2⟩ <;> rw [hn2] at ht2 <;> unfold TP at ht2 <;> simp only at ht2
      · obtain ⟨rfl, hk2⟩ := ht2
        have HK2 := Lib.hid (I2.out.far hk2)
        have HN2 := Lib.hid hn2
        clear hk2 hn2
        go_wp2
        refine ⟨by first | rfl | trivial, HR.out _ _ ?_⟩
        rw [HBD.out]
        rw [HN2.out]; (try simp only [Option.bind_some])
        exact ⟨by first | rfl | trivial, kept_new HK2.out HC.out⟩
      obtain ⟨rfl, hr2, hk2⟩ := ht2
      have HN2 := Lib.hid hn2
      have hB2 := num_bytes HBY.out.1 hn2
      have HB2 := Lib.hid hB2
      have J2 := Lib.hid (I2.out.on HTA.out hr2 hk2)
      have hrow2 := J2.out.row
      have hbox2 : X2.heap[B]? = some (.cells #[.pointer (some ⟨r, 0, none⟩)] 77) := J2.out.fix (B, _) HLB.out
      have q2 : X2.cell? ⟨B, 0, none⟩ = some (.pointer (some ⟨r, 0, none⟩)) := cell_row hbox2 rfl
      clear hrow2 hbox2 hr2 hk2 hn2 hB2
      obtain ⟨n, hn⟩ : ∃ n, x2.toNat = n := ⟨_, rfl⟩
      have hx2 : x2 = (n : Int) := by have h1 := HB2.out.2.1; simp only at h1; omega
      have hnl : n ≤ 255 := by have h1 := HB2.out.2.2.1; simp only at h1; omega
      subst hx2
      have HNN : Hid ((n : Int).toNat = n) := Lib.hid hn
      clear hn
      obtain ⟨M0, hM0⟩ : ∃ M, X2.heap.size = M := ⟨_, rfl⟩
      have HM : Hid (C < M0 ∧ B + 1 < M0 ∧ w.heap.size ≤ M0 ∧ r < M0) := Lib.hid (by have h1 := lt_of_row J2.out.row; have h2 := lt_of_row (J2.out.fix (B + 1, _) HLA.out); have h3 := J2.out.kept.size; have h4 := HTB.out.rl; exact ⟨by omega, by simp only at h2; omega, by omega, by omega⟩)
      have HML : Hid (∀ x ∈ L, x.1 < M0) := Lib.hid (fun x hx => by have := lt_of_row (J2.out.fix x hx); omega)
      have HM0 := Lib.hid hM0
      clear hM0
      go_wp2_with fail
      go_loopw [54, 56, 57, 58, 59, 60, 61, 62] (fun v54 v56 v57 v58 v59 v60 v61 v62 we => ∃ (i : Nat) (g z : List Int) (Ag : Option Addr) (cg : Nat), i ≤ n ∧ v54 = .int .i64 i ∧ g.length = i ∧ Hid (giR n z2 = (giR (n - i) z).map (g ++ ·)) ∧ Hid (Bytes z) ∧ Hid (TI w r C L #[.int .i64 9, .int .i64 x1, .int .i64 0, .int .i64 0, .int .u64 0, .int .u64 0, .bool false, .int .i64 0, .int .i64 0, .int .i64 0, .slice none 0 0, .int .i64 0, .slice Ag i cg] 30 z F we) ∧ Hid (OI we (.slice Ag i cg) g) ∧ Hid (∀ b, (Value.slice Ag i cg).ownBlock = some b → M0 ≤ b) ∧ Hid (M0 ≤ we.heap.size)) (fun v54 _ _ _ _ _ _ _ _ => n - (intOf v54).toNat)
      case atStart => exact ⟨0, [], z2, none, 0, by omega, rfl, rfl, by rw [Nat.sub_zero]; show giR n z2 = (giR n z2).map (fun l => [] ++ l); simp, HB2.out.1, J2.out, OI.nil _, fun b e => by simp [Value.ownBlock] at e, Nat.le_of_eq HM0.out.symm⟩
      case round =>
        obtain ⟨i, g, z, Ag, cg, hile, rfl, hgl, HG, HZ, HT, HO, HFV, HMM⟩ := hrel
        by_cases hlt : i < n
        · have hlt' : (i : Int) < (n : Int) := by omega
          have HGL := Lib.hid hgl
          go_wp2_with fail
          refine region_meet2 (fun a0 a' W => ∃ (u : Int) (z3 : List Int) (A2 : Option Addr) (c2 : Nat) (x56 x57 x58 x59 x60 x62 : Value), a' = (((((((a0.put (some 56) x56).put (some 57) x57).put (some 58) x58).put (some 59) x59).put (some 60) x60).put (some 61) (.slice A2 (i + 1) c2)).put (some 62) x62) ∧ num 2 z = some (u, z3) ∧ TI w r C L #[.int .i64 9, .int .i64 x1, .int .i64 0, .int .i64 0, .int .u64 0, .int .u64 0, .bool false, .int .i64 0, .int .i64 0, .int .i64 0, .slice none 0 0, .int .i64 0, .slice A2 (i + 1) c2] 30 z3 F W ∧ OI W (.slice A2 (i + 1) c2) (g ++ [u]) ∧ (∀ b, (Value.slice A2 (i + 1) c2).ownBlock = some b → M0 ≤ b) ∧ M0 ≤ W.heap.size) (fun ch a' W => ch = ENDED ∧ a'.defers = [] ∧ giR n z2 = none ∧ Kept (fun b => b = r) w W) ?_ ?_ ?_
          rotate_left 2
          · rintro ch a' W ⟨rfl, ha, hn, hk⟩
            show bodyPost Try.prog Try.f39 R (Exit.panic ENDED) a' W
            refine ⟨ha, HR.out _ _ ?_⟩
            rw [HBD.out, HN2.out]
            simp only [Option.bind_some]
            rw [HNN.out, hn]
            exact ⟨rfl, hk⟩
          · refine wp_region_held_drew (S := fun W => W.heap[B]? = some (.cells #[.pointer (some ⟨r, 0, none⟩)] 77)) (by kernel_rfl) (HT.out.fix (B, _) HLB.out) (fun hHeld => ?_)
            have T8 := HT.out.grow (Below.refl _ _).drew
            have O8 : OI wr.drew (.slice Ag i cg) g := own_keeps HO.out (Kept.of_below (Below.refl _ _).drew)
            have M8 : M0 ≤ wr.drew.heap.size := HMM.out
            refine wpAnyH_take (i := 0) (oi := { dst := some 56, op := Go.Op.fieldAddr 30 (Go.Operand.tmp 3) 10, type := 0, pos := "record.go:174", after := #[], guard := none }) (v := ?_) rfl (by kernel_rfl) (by kernel_rfl) (by kernel_rfl) (fun _ _ _ h => h) (Or.inl ⟨by rfl, ?hy0_4⟩) (by assumption) ?rest0_4
            case hy0_4 => (intro w hSw; go_simp; try with_reducible rfl)
            try simp only [Act.put, List.setIfInBounds_toArray, List.set_cons_zero, List.set_cons_succ]
            refine wpAnyH_take (i := 2) (oi := { dst := some 58, op := Go.Op.load 77 (Go.Operand.tmp 1), type := 77, pos := "record.go:174", after := #[], guard := none }) (v := .agg #[.pointer (some ⟨r, 0, none⟩)]) rfl (by kernel_rfl) (by kernel_rfl) (by kernel_rfl) (fun _ _ _ h => h) (yieldsIf_load_mid (by rfl) 77 (.tmp 1) rfl B 0 rfl [.pointer (some ⟨r, 0, none⟩)] _ (fun w hSw => range_row hSw (by rfl)) Try.underlying77 rfl info77) (by assumption) ?_
            try simp only [Act.put, List.setIfInBounds_toArray, List.set_cons_zero, List.set_cons_succ]
            refine wpAnyH_ready (rs := [1, 3]) (by kernel_rfl) (by simp) ?_
            refine AllReadyH.cons (o := { dst := some 57, op := Go.Op.load 28 (Go.Operand.tmp 56), type := 28, pos := "record.go:174", after := #[{ on := 0, ground := Go.Ground.data }], guard := none }) rfl (fun K hK => ?_) (AllReadyH.cons (o := { dst := some 59, op := Go.Op.call { callee := Go.Callee.value (Go.Operand.func 60), args := #[Go.Operand.tmp 58, Go.Operand.const (Go.Value.int Go.IntKind.i64 2)], argTypes := #[77, 3] }, type := 3, pos := "record.go:174", after := #[{ on := 2, ground := Go.Ground.data }], guard := none }) rfl (fun K hK => ?_) AllReadyH.nil)
            · have yG := cell_row (j := 12) T8.row rfl
              go_simp
              clear yG
              refine hK.out _ _ (T8.fix (B, _) HLB.out) (fun hHeld2 => ?_)
              clear hK K hHeld
              have hHeld := hHeld2
              clear hHeld2
              try simp only [Act.put, List.setIfInBounds_toArray, List.set_cons_zero, List.set_cons_succ]
              refine wpAnyH_ready (rs := [3]) (by kernel_rfl) (by simp) ?_
              refine AllReadyH.cons (o := { dst := some 59, op := Go.Op.call { callee := Go.Callee.value (Go.Operand.func 60), args := #[Go.Operand.tmp 58, Go.Operand.const (Go.Value.int Go.IntKind.i64 2)], argTypes := #[77, 3] }, type := 3, pos := "record.go:174", after := #[{ on := 2, ground := Go.Ground.data }], guard := none }) rfl (fun K hK => ?_) AllReadyH.nil
              go_simp
              go_at_call 60
              refine (number_t' _ r z F T8.rd HZ.out 2 (by unfold Wd; omega) 2 rfl).mono ?_
              rintro e Y ht
              rcases hu : num 2 z with _ | ⟨u, z3⟩ <;> rw [hu] at ht <;> unfold TP at ht <;> simp only at ht
              · obtain ⟨rfl, hk⟩ := ht
                exact ⟨rfl, rfl, giR_none hlt HG.out hu, kept_new (T8.far hk) HC.out⟩
              obtain ⟨rfl, hr, hk⟩ := ht
              have T3 := T8.on HTA.out hr hk
              have O3 := O8.kept hk (fun b hb e => by have h1 := HFV.out b hb; have h2 := HM.out.2.2.2; omega)
              have M3 : M0 ≤ Y.heap.size := Nat.le_trans M8 hk.size
              refine hK.out _ _ (T3.fix (B, _) HLB.out) (fun hHeld2 => ?_)
              clear hK K hHeld
              have hHeld := hHeld2
              clear hHeld2
              try simp only [Act.put, List.setIfInBounds_toArray, List.set_cons_zero, List.set_cons_succ]
              refine wpAnyH_ready (rs := [4]) (by kernel_rfl) (by simp) ?_
              refine AllReadyH.cons (o := { dst := some 60, op := Go.Op.buildSlice 28 1 #[(0, Go.Operand.tmp 59)], type := 28, pos := "record.go:174", after := #[{ on := 3, ground := Go.Ground.data }], guard := none }) rfl (fun K hK => ?_) AllReadyH.nil
              go_simp
              have hbl : Below Y.heap.size Y (Y.alloc (.cells #[.int .i64 u] 3)) := (Below.refl _ _).alloc (Nat.le_refl _) _
              have T4 := T3.grow hbl
              have O4 : OI (Y.alloc (.cells #[.int .i64 u] 3)) (.slice Ag i cg) g := own_keeps O3 (Kept.of_below hbl)
              have M4 : M0 ≤ (Y.alloc (.cells #[.int .i64 u] 3)).heap.size := Nat.le_trans M3 hbl.size
              refine hK.out _ _ (T4.fix (B, _) HLB.out) (fun hHeld2 => ?_)
              clear hK K hHeld
              have hHeld := hHeld2
              clear hHeld2
              try simp only [Act.put, List.setIfInBounds_toArray, List.set_cons_zero, List.set_cons_succ]
              refine wpAnyH_ready (rs := [5]) (by kernel_rfl) (by simp) ?_
              refine AllReadyH.cons (o := { dst := some 61, op := Go.Op.call { callee := Go.Callee.builtin Go.Builtin.append, args := #[Go.Operand.tmp 57, Go.Operand.tmp 60], argTypes := #[28, 28] }, type := 28, pos := "record.go:174", after := #[{ on := 1, ground := Go.Ground.data }, { on := 4, ground := Go.Ground.data }, { on := 3, ground := Go.Ground.chain }], guard := none }) rfl (fun K hK => ?_) AllReadyH.nil
              refine step_app2 rfl (.tmp 57) (.tmp 60) 28 rfl 3 0 _ 1 8 Try.underlying28 info3 rfl (by decide) (by decide) (.slice Ag i cg) i (g.map numC) (by rfl) (hgl ▸ O4) (some ⟨Y.heap.size, 0, none⟩) 1 1 [.int .i64 u] (by rfl) rfl (holds_new _ _ _ _ _ rfl) ?_ (by omega) (Nat.zero_le _) ?_
              focus (intro x hx; obtain rfl := List.mem_singleton.1 hx; rfl)
              intro v9 Y5 hown hwent
              have KM : M0 ≤ Y5.heap.size := Nat.le_trans M4 hwent.kept.size
              have KF : ∀ b, v9.ownBlock = some b → M0 ≤ b := went_bound HFV.out M4 hwent
              have KO : OI Y5 v9 (g ++ [u]) := by unfold OI; rw [List.length_append, hgl, List.map_append]; exact hown
              have T5 := T4.byKept hwent.kept (fun x hx e => by have h1 := HFV.out _ e; have h2 := HML.out x hx; omega) (fun e => by have h1 := HFV.out _ e; have h2 := HM.out.1; omega) (fun b hb e => by have h1 := HFV.out _ e; have h2 := HTB.out.fc b hb; have h3 := HM.out.2.2.1; omega) (fun b e => by have h1 := HFV.out _ e; have h3 := HM.out.2.2.1; omega)
              obtain ⟨A2, n2, c2, rfl⟩ : ∃ A n c, v9 = .slice A n c := by obtain ⟨A, c, e, _⟩ := own_slice KO; exact ⟨_, _, _, e⟩
              obtain rfl : n2 = i + 1 := by obtain ⟨A, c, e, _⟩ := own_slice hown; cases e; rfl
              clear hown hwent
              refine hK.out _ _ (T5.fix (B, _) HLB.out) (fun hHeld2 => ?_)
              clear hK K hHeld
              have hHeld := hHeld2
              clear hHeld2
              try simp only [Act.put, List.setIfInBounds_toArray, List.set_cons_zero, List.set_cons_succ]
              refine wpAnyH_take (i := 6) (oi := { dst := some 62, op := Go.Op.fieldAddr 30 (Go.Operand.tmp 3) 10, type := 0, pos := "record.go:174", after := #[{ on := 0, ground := Go.Ground.phase }, { on := 1, ground := Go.Ground.phase }, { on := 2, ground := Go.Ground.phase }, { on := 3, ground := Go.Ground.phase }, { on := 4, ground := Go.Ground.phase }, { on := 5, ground := Go.Ground.phase }], guard := none }) (v := ?_) rfl (by kernel_rfl) (by kernel_rfl) (by kernel_rfl) (fun _ _ _ h => h) (Or.inl ⟨by rfl, ?hy6_5⟩) (by assumption) ?rest6_5
              case hy6_5 => (intro w hSw; go_simp; try with_reducible rfl)
              try simp only [Act.put, List.setIfInBounds_toArray, List.set_cons_zero, List.set_cons_succ]
              refine wpAnyH_ready (rs := [7]) (by kernel_rfl) (by simp) ?_
              refine AllReadyH.cons (o := { dst := none, op := Go.Op.store 28 (Go.Operand.tmp 62) (Go.Operand.tmp 61), type := 0, pos := "record.go:174", after := #[{ on := 6, ground := Go.Ground.data }, { on := 5, ground := Go.Ground.data }, { on := 5, ground := Go.Ground.chain }, { on := 0, ground := Go.Ground.phase }, { on := 1, ground := Go.Ground.phase }, { on := 2, ground := Go.Ground.phase }, { on := 3, ground := Go.Ground.phase }, { on := 4, ground := Go.Ground.phase }, { on := 5, ground := Go.Ground.phase }], guard := none }) rfl (fun K hK => ?_) AllReadyH.nil
              have yG := cell_row (j := 12) T5.row rfl
              have zG := free_row (j := 12) T5.row
              go_simp
              have KT := T5.set HTA.out 12 (.slice A2 (i + 1) c2)
              replace KO := KO.kept ((Kept.refl (fun b => b = C) _).setCell (p := ⟨C, 12, none⟩) (.inl rfl) (.slice A2 (i + 1) c2)) (fun b hb e => by have h1 := KF b hb; have h2 := HM.out.1; omega)
              replace KM : M0 ≤ (Y5.setCell ⟨C, 12, none⟩ (.slice A2 (i + 1) c2)).heap.size := by simpa using KM
              refine hK.out _ _ (KT.fix (B, _) HLB.out) (fun hHeld2 => ?_)
              clear hK K hHeld
              have hHeld := hHeld2
              clear hHeld2
              try simp only [Act.put, List.setIfInBounds_toArray, List.set_cons_zero, List.set_cons_succ]
              refine wpAnyH_done (by kernel_rfl) ?_ _
              show MeetQ _ _ _ _ _ _
              unfold MeetQ
              simp only
              try simp only [Act.put, List.setIfInBounds_toArray, List.set_cons_zero, List.set_cons_succ]
              exact ⟨u, z3, A2, c2, _, _, _, _, _, _, rfl, hu, KT, KO, KF, KM⟩
            · go_simp
              go_at_call 60
              refine (number_t' _ r z F T8.rd HZ.out 2 (by unfold Wd; omega) 2 rfl).mono ?_
              rintro e Y ht
              rcases hu : num 2 z with _ | ⟨u, z3⟩ <;> rw [hu] at ht <;> unfold TP at ht <;> simp only at ht
              · obtain ⟨rfl, hk⟩ := ht
                exact ⟨rfl, rfl, giR_none hlt HG.out hu, kept_new (T8.far hk) HC.out⟩
              obtain ⟨rfl, hr, hk⟩ := ht
              have T3 := T8.on HTA.out hr hk
              have O3 := O8.kept hk (fun b hb e => by have h1 := HFV.out b hb; have h2 := HM.out.2.2.2; omega)
              have M3 : M0 ≤ Y.heap.size := Nat.le_trans M8 hk.size
              refine hK.out _ _ (T3.fix (B, _) HLB.out) (fun hHeld2 => ?_)
              clear hK K hHeld
              have hHeld := hHeld2
              clear hHeld2
              try simp only [Act.put, List.setIfInBounds_toArray, List.set_cons_zero, List.set_cons_succ]
              refine wpAnyH_ready (rs := [1, 4]) (by kernel_rfl) (by simp) ?_
              refine AllReadyH.cons (o := { dst := some 57, op := Go.Op.load 28 (Go.Operand.tmp 56), type := 28, pos := "record.go:174", after := #[{ on := 0, ground := Go.Ground.data }], guard := none }) rfl (fun K hK => ?_) (AllReadyH.cons (o := { dst := some 60, op := Go.Op.buildSlice 28 1 #[(0, Go.Operand.tmp 59)], type := 28, pos := "record.go:174", after := #[{ on := 3, ground := Go.Ground.data }], guard := none }) rfl (fun K hK => ?_) AllReadyH.nil)
              · have yG := cell_row (j := 12) T3.row rfl
                go_simp
                clear yG
                refine hK.out _ _ (T3.fix (B, _) HLB.out) (fun hHeld2 => ?_)
                clear hK K hHeld
                have hHeld := hHeld2
                clear hHeld2
                try simp only [Act.put, List.setIfInBounds_toArray, List.set_cons_zero, List.set_cons_succ]
                refine wpAnyH_ready (rs := [4]) (by kernel_rfl) (by simp) ?_
                refine AllReadyH.cons (o := { dst := some 60, op := Go.Op.buildSlice 28 1 #[(0, Go.Operand.tmp 59)], type := 28, pos := "record.go:174", after := #[{ on := 3, ground := Go.Ground.data }], guard := none }) rfl (fun K hK => ?_) AllReadyH.nil
                go_simp
                have hbl : Below Y.heap.size Y (Y.alloc (.cells #[.int .i64 u] 3)) := (Below.refl _ _).alloc (Nat.le_refl _) _
                have T4 := T3.grow hbl
                have O4 : OI (Y.alloc (.cells #[.int .i64 u] 3)) (.slice Ag i cg) g := own_keeps O3 (Kept.of_below hbl)
                have M4 : M0 ≤ (Y.alloc (.cells #[.int .i64 u] 3)).heap.size := Nat.le_trans M3 hbl.size
                refine hK.out _ _ (T4.fix (B, _) HLB.out) (fun hHeld2 => ?_)
                clear hK K hHeld
                have hHeld := hHeld2
                clear hHeld2
                try simp only [Act.put, List.setIfInBounds_toArray, List.set_cons_zero, List.set_cons_succ]
                refine wpAnyH_ready (rs := [5]) (by kernel_rfl) (by simp) ?_
                refine AllReadyH.cons (o := { dst := some 61, op := Go.Op.call { callee := Go.Callee.builtin Go.Builtin.append, args := #[Go.Operand.tmp 57, Go.Operand.tmp 60], argTypes := #[28, 28] }, type := 28, pos := "record.go:174", after := #[{ on := 1, ground := Go.Ground.data }, { on := 4, ground := Go.Ground.data }, { on := 3, ground := Go.Ground.chain }], guard := none }) rfl (fun K hK => ?_) AllReadyH.nil
                refine step_app2 rfl (.tmp 57) (.tmp 60) 28 rfl 3 0 _ 1 8 Try.underlying28 info3 rfl (by decide) (by decide) (.slice Ag i cg) i (g.map numC) (by rfl) (hgl ▸ O4) (some ⟨Y.heap.size, 0, none⟩) 1 1 [.int .i64 u] (by rfl) rfl (holds_new _ _ _ _ _ rfl) ?_ (by omega) (Nat.zero_le _) ?_
                focus (intro x hx; obtain rfl := List.mem_singleton.1 hx; rfl)
                intro v9 Y5 hown hwent
                have KM : M0 ≤ Y5.heap.size := Nat.le_trans M4 hwent.kept.size
                have KF : ∀ b, v9.ownBlock = some b → M0 ≤ b := went_bound HFV.out M4 hwent
                have KO : OI Y5 v9 (g ++ [u]) := by unfold OI; rw [List.length_append, hgl, List.map_append]; exact hown
                have T5 := T4.byKept hwent.kept (fun x hx e => by have h1 := HFV.out _ e; have h2 := HML.out x hx; omega) (fun e => by have h1 := HFV.out _ e; have h2 := HM.out.1; omega) (fun b hb e => by have h1 := HFV.out _ e; have h2 := HTB.out.fc b hb; have h3 := HM.out.2.2.1; omega) (fun b e => by have h1 := HFV.out _ e; have h3 := HM.out.2.2.1; omega)
                obtain ⟨A2, n2, c2, rfl⟩ : ∃ A n c, v9 = .slice A n c := by obtain ⟨A, c, e, _⟩ := own_slice KO; exact ⟨_, _, _, e⟩
                obtain rfl : n2 = i + 1 := by obtain ⟨A, c, e, _⟩ := own_slice hown; cases e; rfl
                clear hown hwent
                refine hK.out _ _ (T5.fix (B, _) HLB.out) (fun hHeld2 => ?_)
                clear hK K hHeld
                have hHeld := hHeld2
                clear hHeld2
                try simp only [Act.put, List.setIfInBounds_toArray, List.set_cons_zero, List.set_cons_succ]
                refine wpAnyH_take (i := 6) (oi := { dst := some 62, op := Go.Op.fieldAddr 30 (Go.Operand.tmp 3) 10, type := 0, pos := "record.go:174", after := #[{ on := 0, ground := Go.Ground.phase }, { on := 1, ground := Go.Ground.phase }, { on := 2, ground := Go.Ground.phase }, { on := 3, ground := Go.Ground.phase }, { on := 4, ground := Go.Ground.phase }, { on := 5, ground := Go.Ground.phase }], guard := none }) (v := ?_) rfl (by kernel_rfl) (by kernel_rfl) (by kernel_rfl) (fun _ _ _ h => h) (Or.inl ⟨by rfl, ?hy6_6⟩) (by assumption) ?rest6_6
                case hy6_6 => (intro w hSw; go_simp; try with_reducible rfl)
                try simp only [Act.put, List.setIfInBounds_toArray, List.set_cons_zero, List.set_cons_succ]
                refine wpAnyH_ready (rs := [7]) (by kernel_rfl) (by simp) ?_
                refine AllReadyH.cons (o := { dst := none, op := Go.Op.store 28 (Go.Operand.tmp 62) (Go.Operand.tmp 61), type := 0, pos := "record.go:174", after := #[{ on := 6, ground := Go.Ground.data }, { on := 5, ground := Go.Ground.data }, { on := 5, ground := Go.Ground.chain }, { on := 0, ground := Go.Ground.phase }, { on := 1, ground := Go.Ground.phase }, { on := 2, ground := Go.Ground.phase }, { on := 3, ground := Go.Ground.phase }, { on := 4, ground := Go.Ground.phase }, { on := 5, ground := Go.Ground.phase }], guard := none }) rfl (fun K hK => ?_) AllReadyH.nil
                have yG := cell_row (j := 12) T5.row rfl
                have zG := free_row (j := 12) T5.row
                go_simp
                have KT := T5.set HTA.out 12 (.slice A2 (i + 1) c2)
                replace KO := KO.kept ((Kept.refl (fun b => b = C) _).setCell (p := ⟨C, 12, none⟩) (.inl rfl) (.slice A2 (i + 1) c2)) (fun b hb e => by have h1 := KF b hb; have h2 := HM.out.1; omega)
                replace KM : M0 ≤ (Y5.setCell ⟨C, 12, none⟩ (.slice A2 (i + 1) c2)).heap.size := by simpa using KM
                refine hK.out _ _ (KT.fix (B, _) HLB.out) (fun hHeld2 => ?_)
                clear hK K hHeld
                have hHeld := hHeld2
                clear hHeld2
                try simp only [Act.put, List.setIfInBounds_toArray, List.set_cons_zero, List.set_cons_succ]
                refine wpAnyH_done (by kernel_rfl) ?_ _
                show MeetQ _ _ _ _ _ _
                unfold MeetQ
                simp only
                try simp only [Act.put, List.setIfInBounds_toArray, List.set_cons_zero, List.set_cons_succ]
                exact ⟨u, z3, A2, c2, _, _, _, _, _, _, rfl, hu, KT, KO, KF, KM⟩
              · go_simp
                have hbl : Below Y.heap.size Y (Y.alloc (.cells #[.int .i64 u] 3)) := (Below.refl _ _).alloc (Nat.le_refl _) _
                have T4 := T3.grow hbl
                have O4 : OI (Y.alloc (.cells #[.int .i64 u] 3)) (.slice Ag i cg) g := own_keeps O3 (Kept.of_below hbl)
                have M4 : M0 ≤ (Y.alloc (.cells #[.int .i64 u] 3)).heap.size := Nat.le_trans M3 hbl.size
                refine hK.out _ _ (T4.fix (B, _) HLB.out) (fun hHeld2 => ?_)
                clear hK K hHeld
                have hHeld := hHeld2
                clear hHeld2
                try simp only [Act.put, List.setIfInBounds_toArray, List.set_cons_zero, List.set_cons_succ]
                refine wpAnyH_ready (rs := [1]) (by kernel_rfl) (by simp) ?_
                refine AllReadyH.cons (o := { dst := some 57, op := Go.Op.load 28 (Go.Operand.tmp 56), type := 28, pos := "record.go:174", after := #[{ on := 0, ground := Go.Ground.data }], guard := none }) rfl (fun K hK => ?_) AllReadyH.nil
                have yG := cell_row (j := 12) T4.row rfl
                go_simp
                clear yG
                refine hK.out _ _ (T4.fix (B, _) HLB.out) (fun hHeld2 => ?_)
                clear hK K hHeld
                have hHeld := hHeld2
                clear hHeld2
                try simp only [Act.put, List.setIfInBounds_toArray, List.set_cons_zero, List.set_cons_succ]
                refine wpAnyH_ready (rs := [5]) (by kernel_rfl) (by simp) ?_
                refine AllReadyH.cons (o := { dst := some 61, op := Go.Op.call { callee := Go.Callee.builtin Go.Builtin.append, args := #[Go.Operand.tmp 57, Go.Operand.tmp 60], argTypes := #[28, 28] }, type := 28, pos := "record.go:174", after := #[{ on := 1, ground := Go.Ground.data }, { on := 4, ground := Go.Ground.data }, { on := 3, ground := Go.Ground.chain }], guard := none }) rfl (fun K hK => ?_) AllReadyH.nil
                refine step_app2 rfl (.tmp 57) (.tmp 60) 28 rfl 3 0 _ 1 8 Try.underlying28 info3 rfl (by decide) (by decide) (.slice Ag i cg) i (g.map numC) (by rfl) (hgl ▸ O4) (some ⟨Y.heap.size, 0, none⟩) 1 1 [.int .i64 u] (by rfl) rfl (holds_new _ _ _ _ _ rfl) ?_ (by omega) (Nat.zero_le _) ?_
                focus (intro x hx; obtain rfl := List.mem_singleton.1 hx; rfl)
                intro v9 Y5 hown hwent
                have KM : M0 ≤ Y5.heap.size := Nat.le_trans M4 hwent.kept.size
                have KF : ∀ b, v9.ownBlock = some b → M0 ≤ b := went_bound HFV.out M4 hwent
                have KO : OI Y5 v9 (g ++ [u]) := by unfold OI; rw [List.length_append, hgl, List.map_append]; exact hown
                have T5 := T4.byKept hwent.kept (fun x hx e => by have h1 := HFV.out _ e; have h2 := HML.out x hx; omega) (fun e => by have h1 := HFV.out _ e; have h2 := HM.out.1; omega) (fun b hb e => by have h1 := HFV.out _ e; have h2 := HTB.out.fc b hb; have h3 := HM.out.2.2.1; omega) (fun b e => by have h1 := HFV.out _ e; have h3 := HM.out.2.2.1; omega)
                obtain ⟨A2, n2, c2, rfl⟩ : ∃ A n c, v9 = .slice A n c := by obtain ⟨A, c, e, _⟩ := own_slice KO; exact ⟨_, _, _, e⟩
                obtain rfl : n2 = i + 1 := by obtain ⟨A, c, e, _⟩ := own_slice hown; cases e; rfl
                clear hown hwent
                refine hK.out _ _ (T5.fix (B, _) HLB.out) (fun hHeld2 => ?_)
                clear hK K hHeld
                have hHeld := hHeld2
                clear hHeld2
                try simp only [Act.put, List.setIfInBounds_toArray, List.set_cons_zero, List.set_cons_succ]
                refine wpAnyH_take (i := 6) (oi := { dst := some 62, op := Go.Op.fieldAddr 30 (Go.Operand.tmp 3) 10, type := 0, pos := "record.go:174", after := #[{ on := 0, ground := Go.Ground.phase }, { on := 1, ground := Go.Ground.phase }, { on := 2, ground := Go.Ground.phase }, { on := 3, ground := Go.Ground.phase }, { on := 4, ground := Go.Ground.phase }, { on := 5, ground := Go.Ground.phase }], guard := none }) (v := ?_) rfl (by kernel_rfl) (by kernel_rfl) (by kernel_rfl) (fun _ _ _ h => h) (Or.inl ⟨by rfl, ?hy6_7⟩) (by assumption) ?rest6_7
                case hy6_7 => (intro w hSw; go_simp; try with_reducible rfl)
                try simp only [Act.put, List.setIfInBounds_toArray, List.set_cons_zero, List.set_cons_succ]
                refine wpAnyH_ready (rs := [7]) (by kernel_rfl) (by simp) ?_
                refine AllReadyH.cons (o := { dst := none, op := Go.Op.store 28 (Go.Operand.tmp 62) (Go.Operand.tmp 61), type := 0, pos := "record.go:174", after := #[{ on := 6, ground := Go.Ground.data }, { on := 5, ground := Go.Ground.data }, { on := 5, ground := Go.Ground.chain }, { on := 0, ground := Go.Ground.phase }, { on := 1, ground := Go.Ground.phase }, { on := 2, ground := Go.Ground.phase }, { on := 3, ground := Go.Ground.phase }, { on := 4, ground := Go.Ground.phase }, { on := 5, ground := Go.Ground.phase }], guard := none }) rfl (fun K hK => ?_) AllReadyH.nil
                have yG := cell_row (j := 12) T5.row rfl
                have zG := free_row (j := 12) T5.row
                go_simp
                have KT := T5.set HTA.out 12 (.slice A2 (i + 1) c2)
                replace KO := KO.kept ((Kept.refl (fun b => b = C) _).setCell (p := ⟨C, 12, none⟩) (.inl rfl) (.slice A2 (i + 1) c2)) (fun b hb e => by have h1 := KF b hb; have h2 := HM.out.1; omega)
                replace KM : M0 ≤ (Y5.setCell ⟨C, 12, none⟩ (.slice A2 (i + 1) c2)).heap.size := by simpa using KM
                refine hK.out _ _ (KT.fix (B, _) HLB.out) (fun hHeld2 => ?_)
                clear hK K hHeld
                have hHeld := hHeld2
                clear hHeld2
                try simp only [Act.put, List.setIfInBounds_toArray, List.set_cons_zero, List.set_cons_succ]
                refine wpAnyH_done (by kernel_rfl) ?_ _
                show MeetQ _ _ _ _ _ _
                unfold MeetQ
                simp only
                try simp only [Act.put, List.setIfInBounds_toArray, List.set_cons_zero, List.set_cons_succ]
                exact ⟨u, z3, A2, c2, _, _, _, _, _, _, rfl, hu, KT, KO, KF, KM⟩
          · rintro a' W3 ⟨u, z3, A2, c2, x56, x57, x58, x59, x60, x62, rfl, hu, KT, KO, KF, KM⟩
            simp only [Act.put, List.setIfInBounds_toArray, List.set_cons_zero, List.set_cons_succ]
            (try simp only [Exit.then, Exit.inBlock])
            have hb3 := (num_bytes HZ.out hu).1
            have HH := Lib.hid (And.intro (giR_step hlt HG.out hu) (And.intro hb3 (And.intro KT (And.intro KO (And.intro KF KM)))))
            clear hu KT KO KF KM hb3
            go_wp2
            exact ⟨⟨i + 1, g ++ [u], z3, A2, c2, by omega, rfl, by rw [List.length_append, HGL.out]; rfl, HH.out.1, HH.out.2.1, HH.out.2.2.1, HH.out.2.2.2.1, HH.out.2.2.2.2.1, HH.out.2.2.2.2.2⟩, by simp [intOf]; omega⟩
        · have hin : n = i := by omega
          subst hin
          have HGD := Lib.hid (giR_done rfl HG.out)
          have hge : ¬ ((n : Int) < (n : Int)) := by omega
          have HCB := Lib.hid (And.intro (lt_of_row HT.out.row) (lt_of_row (HT.out.fix (B + 1, _) HLA.out)))
          have KT : Hid (TI w r C L #[.int .i64 9, .int .i64 x1, .int .i64 0, .int .i64 0, .int .u64 0, .int .u64 0, .bool false, .int .i64 0, .int .i64 0, .int .i64 0, .slice none 0 0, .int .i64 0, .slice Ag n cg] 30 _ F wr) := Lib.hid (HT.out)
          go_wp2_with (first | (refine wpList_load_mid rfl 30 (.tmp 3) rfl C 0 rfl [.int .i64 9, .int .i64 x1, .int .i64 0, .int .i64 0, .int .u64 0, .int .u64 0, .bool false, .int .i64 0, .int .i64 0, .int .i64 0, .slice none 0 0, .int .i64 0, .slice Ag n cg] _ (range_row KT.out.row (by rfl)) Try.underlying30 rfl info30 ?_) | (refine wpList_store_row rfl 30 (.tmp 2) (.tmp 64) rfl (B + 1) 30 #[.int .i64 0, .int .i64 0, .int .i64 0, .int .i64 0, .int .u64 0, .int .u64 0, .bool false, .int .i64 0, .int .i64 0, .int .i64 0, .slice none 0 0, .int .i64 0, .slice none 0 0] #[.int .i64 9, .int .i64 x1, .int .i64 0, .int .i64 0, .int .u64 0, .int .u64 0, .bool false, .int .i64 0, .int .i64 0, .int .i64 0, .slice none 0 0, .int .i64 0, .slice Ag n cg] rfl rfl (KT.out.fix (B + 1, _) HLA.out) info30 rfl (by simp [Value.oneCell']) ?_) | fail)
          refine bodyPost_ret (results_cell_row rfl _ _ (B + 1) 30 #[.int .i64 9, .int .i64 x1, .int .i64 0, .int .i64 0, .int .u64 0, .int .u64 0, .bool false, .int .i64 0, .int .i64 0, .int .i64 0, .slice none 0 0, .int .i64 0, .slice Ag n cg] (0, 0) _ rfl (setRow_heap _ _ _ _ _ _ (KT.out.fix (B + 1, _) HLA.out)) Try.underlying30 rfl info30) rfl (HR.out _ _ ?_)
          rw [HBD.out, HN2.out]
          simp only [Option.bind_some]
          rw [HNN.out, HGD.out]
          exact cp_some (c := (⟨9, x1, 0, 0, 0, 0, false, 0, 0, 0, [], 0, g⟩ : Cl)) KT.out HC.out HAB.out _ (OB.nil _) (HO.out.kept ((Kept.refl (fun b => b = B + 1) wr).setRow (.inl rfl) _) (fun b hb e => by have h1 := HFV.out b hb; have h2 := HM.out.2.1; omega)) (fresh_nil _) (fun b hb => Nat.le_trans HM.out.2.2.1 (HFV.out b hb))
    have hrow := HTI.out.row
    have y0 : W.cell? ⟨C, 0, none⟩ = some (.int .i64 x0) := cell_row hrow rfl
    have q0 : W.cell? ⟨B, 0, none⟩ = some (.pointer (some ⟨r, 0, none⟩)) := cell_row (HTI.out.fix (B, _) HLB.out) rfl
    clear hrow
    have HBD : Hid (bodyR ⟨x0, x1, 0, 0, 0, 0, false, 0, 0, 0, [], 0, []⟩ z1 = some ⟨x0, x1, 0, 0, 0, 0, false, 0, 0, 0, [], 0, []⟩) := Lib.hid (by simp [bodyR, o1, o2, o3, o4, o5, o6, o7, o8, o9])
    have KT : Hid (TI w r C L #[.int .i64 x0, .int .i64 x1, .int .i64 0, .int .i64 0, .int .u64 0, .int .u64 0, .bool false, .int .i64 0, .int .i64 0, .int .i64 0, .slice none 0 0, .int .i64 0, .slice none 0 0] 30 _ F W) := Lib.hid (HTI.out)
    go_wp2_with (first | (refine wpList_load_mid rfl 30 (.tmp 3) rfl C 0 rfl [.int .i64 x0, .int .i64 x1, .int .i64 0, .int .i64 0, .int .u64 0, .int .u64 0, .bool false, .int .i64 0, .int .i64 0, .int .i64 0, .slice none 0 0, .int .i64 0, .slice none 0 0] _ (range_row KT.out.row (by rfl)) Try.underlying30 rfl info30 ?_) | (refine wpList_store_row rfl 30 (.tmp 2) (.tmp 64) rfl (B + 1) 30 #[.int .i64 0, .int .i64 0, .int .i64 0, .int .i64 0, .int .u64 0, .int .u64 0, .bool false, .int .i64 0, .int .i64 0, .int .i64 0, .slice none 0 0, .int .i64 0, .slice none 0 0] #[.int .i64 x0, .int .i64 x1, .int .i64 0, .int .i64 0, .int .u64 0, .int .u64 0, .bool false, .int .i64 0, .int .i64 0, .int .i64 0, .slice none 0 0, .int .i64 0, .slice none 0 0] rfl rfl (KT.out.fix (B + 1, _) HLA.out) info30 rfl (by simp [Value.oneCell']) ?_) | fail)
    refine bodyPost_ret (results_cell_row rfl _ _ (B + 1) 30 #[.int .i64 x0, .int .i64 x1, .int .i64 0, .int .i64 0, .int .u64 0, .int .u64 0, .bool false, .int .i64 0, .int .i64 0, .int .i64 0, .slice none 0 0, .int .i64 0, .slice none 0 0] (0, 0) _ rfl (setRow_heap _ _ _ _ _ _ (KT.out.fix (B + 1, _) HLA.out)) Try.underlying30 rfl info30) rfl (HR.out _ _ ?_)
    rw [HBD.out]
    exact cp_some (c := (⟨x0, x1, 0, 0, 0, 0, false, 0, 0, 0, [], 0, []⟩ : Cl)) KT.out HC.out HAB.out _ (OB.nil _) (OI.nil _) (fresh_nil _) (fresh_nil _)
end Go.Proofs.Ytfpkdbogapmhmaa.O

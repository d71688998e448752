/- Record: capable, moved (written by gen_rcc.py). -/
import Derived.Test.YtfpkdbogapmhmaaRcB
namespace Go.Proofs.Ytfpkdbogapmhmaa.O
open Go.RowKit Go.Proofs.Ytfpkdbogapmhmaa.Mem
set_option linter.unusedVariables false
/-- Answered is a row of its own, of these bytes. -/
def GB (w : World) (zs : List Int) (e : Ending) (w' : World) : Prop := ∃ v, e = .returned v ∧ OB w' v zs ∧ Below w.heap.size w w' ∧ Fresh w v
theorem GB.mono {w a : World} {zs : List Int} {e : Ending} {w' : World} (h : GB a zs e w') (hb : Below w.heap.size w a) : GB w zs e w' := by
  obtain ⟨v, h1, h2, h3, h4⟩ := h
  exact ⟨v, h1, h2, hb.trans (h3.mono hb.size), fun b e => Nat.le_trans hb.size (h4 b e)⟩
theorem put1_g (w : World) (v : Value) (zs : List Int) (x : Int) (h0 : 0 ≤ x) (h1 : x < 256) (hb : zs.length ≤ 140737488354000) (h : RB w v zs) : Calls Try.prog 26 #[v, .int .u8 x] w fun e w' => GB w (zs ++ le 1 x) e w' :=
  (put1_any w v zs x h0 h1 hb h).mono (fun e w' ⟨A, c, h1, h2, h3, h4⟩ => ⟨_, h1, h2, h3, h4⟩)
theorem put2_g (w : World) (v : Value) (zs : List Int) (x : Int) (h0 : 0 ≤ x) (h1 : x < 65536) (hb : zs.length ≤ 140737488354000) (h : RB w v zs) : Calls Try.prog 25 #[v, .int .u16 x] w fun e w' => GB w (zs ++ le 2 x) e w' :=
  (put2_any w v zs x h0 h1 hb h).mono (fun e w' ⟨A, c, h1, h2, h3, h4⟩ => ⟨_, h1, h2, h3, h4⟩)
theorem put4_g (w : World) (v : Value) (zs : List Int) (x : Int) (h0 : 0 ≤ x) (h1 : x < 4294967296) (hb : zs.length ≤ 140737488354000) (h : RB w v zs) : Calls Try.prog 27 #[v, .int .u32 x] w fun e w' => GB w (zs ++ le 4 x) e w' :=
  (put4_any w v zs x h0 h1 hb h).mono (fun e w' ⟨A, c, h1, h2, h3, h4⟩ => ⟨_, h1, h2, h3, h4⟩)
theorem put8_g (w : World) (v : Value) (zs : List Int) (x : Int) (h0 : 0 ≤ x) (h1 : x < 18446744073709551616) (hb : zs.length ≤ 140737488354000) (h : RB w v zs) : Calls Try.prog 55 #[v, .int .u64 x] w fun e w' => GB w (zs ++ le 8 x) e w' :=
  (put8_any w v zs x h0 h1 hb h).mono (fun e w' ⟨A, c, h1, h2, h3, h4⟩ => ⟨_, h1, h2, h3, h4⟩)
theorem word_g (w : World) (v : Value) (zs : List Int) (hi lo : Int) (hh : U64 hi) (hl : U64 lo) (hb : zs.length ≤ 140737488353000) (h : RB w v zs) : Calls Try.prog 56 #[v, .agg #[.int .u64 hi, .int .u64 lo]] w fun e w' => GB w (zs ++ wordB hi lo) e w' :=
  (word_any w v zs hi lo hh hl hb h).mono (fun e w' ⟨A, c, h1, h2, h3, h4⟩ => ⟨_, h1, h2, h3, h4⟩)
set_option maxHeartbeats 4000000 in
set_option maxRecDepth 100000 in
theorem capable_any (w : World) (v : Value) (zs : List Int) (obj hi lo : Int) (h0 : 0 ≤ obj) (h1 : obj ≤ 4611686018427387904) (hh : U64 hi) (hl : U64 lo) (hb : zs.length ≤ 140737488352000) (h : RB w v zs) :
    Calls Try.prog 28 #[v, .agg #[.int .i64 obj, .int .u64 hi, .int .u64 lo]] w fun e w' => GB w (zs ++ capB obj hi lo) e w' := by
  have HC := Lib.hid (fun a (ha : Below w.heap.size w a) => cap_any a v zs obj hi lo h0 h1 hh hl hb (h.below ha))
  clear h0 h1 hh hl hb h
  go_enter Try.func28, Try.ntmps28
  go_wp2_with (first | (go_at_call 54; (with_reducible refine (HC.out _ ?_).mono ?_); exact (Below.refl _ w).alloc (Nat.le_refl _) _; rintro e w1 ⟨A, c, rfl, ho, hb1, hf⟩; have HO := Lib.hid ho; have HB := Lib.hid hb1; have HF := Lib.hid hf; clear ho hb1 hf) | fail)
  go_ret
  have hbx := (Below.refl w.heap.size w).alloc (Nat.le_refl _) (.cells #[.int .i64 obj, .int .u64 hi, .int .u64 lo] 26)
  exact ⟨_, rfl, HO.out, hbx.trans (HB.out.mono hbx.size), fun b e => Nat.le_trans hbx.size (HF.out b e)⟩

/-- Some cells of a row. -/
theorem range_row {w : World} {b o : Nat} {R : Array Value} {t : TypeId} {fr : Nat × Nat} {cs : List Value} (h : w.heap[b]? = some (.cells R t fr)) (hcs : (R.toList.drop o).take cs.length = cs) : w.rangeAt b o cs := fun j v hv => by
  refine cell_row h ?_
  have hj : j < cs.length := (List.getElem?_eq_some_iff.1 hv).1
  rw [← hcs, List.getElem?_take_of_lt hj, List.getElem?_drop] at hv
  rw [← Array.getElem?_toList]; exact hv
theorem info26' : (Try.prog.info? 26).map (·.size) = some 3 := by kernel_rfl
theorem mv_wrap {off : Int} (o0 : -2147483648 ≤ off) (o1 : off ≤ 2147483647) : IntKind.i32.wrap off = off ∧ IntKind.u32.wrap off = s32 off := by
  constructor
  · rw [IntKind.wrap_i32]; omega
  · rw [IntKind.wrap_u32]; rfl
set_option maxHeartbeats 4000000 in
set_option maxRecDepth 100000 in
theorem moved_false (w : World) (v : Value) (zs : List Int) (op by' sz obj hi lo rt off n ix : Int) (D G : Value) (h0 : 0 ≤ obj) (h1 : obj ≤ 4611686018427387904) (hh : U64 hi) (hl : U64 lo) (o0 : -2147483648 ≤ off) (o1 : off ≤ 2147483647) (hb : zs.length ≤ 140737488351000) (h : RB w v zs) :
    Calls Try.prog 29 #[v, .agg #[.int .i64 op, .int .i64 by', .int .i64 sz, .int .i64 obj, .int .u64 hi, .int .u64 lo, .bool false, .int .i64 rt, .int .i64 off, .int .i64 n, D, .int .i64 ix, G]] w fun e w' => GB w (zs ++ (le 8 obj ++ le 1 (b1 false) ++ wordB hi lo ++ le 4 (s32 off))) e w' := by
  have hw1 : IntKind.u64.wrap obj = obj := by rw [IntKind.wrap_u64]; omega
  obtain ⟨hw2, hw3⟩ := mv_wrap o0 o1
  have hb1 : 0 ≤ b1 false ∧ b1 false < 256 := by decide
  obtain ⟨B, hB⟩ : ∃ B, w.heap.size = B := ⟨_, rfl⟩
  have P1 := Lib.hid (fun a (ha : Below w.heap.size w a) => put8_g a v zs obj h0 (by omega) (by omega) (h.below ha))
  have P2 := Lib.hid (fun a va (ha : OB a va (zs ++ le 8 obj)) => put1_g a va _ (b1 false) hb1.1 hb1.2 (by simp [le_len]; omega) ha.reads)
  have P3 := Lib.hid (fun a va (ha : OB a va (zs ++ le 8 obj ++ le 1 (b1 false))) => word_g a va _ hi lo hh hl (by simp [le_len]; omega) ha.reads)
  have P4 := Lib.hid (fun a va (ha : OB a va (zs ++ le 8 obj ++ le 1 (b1 false) ++ wordB hi lo)) => put4_g a va _ (s32 off) (s32_lo _) (s32_hi _) (by simp [le_len, wordB]; omega) ha.reads)
  have HBX := Lib.hid ((Below.refl w.heap.size w).alloc (Nat.le_refl _) (.cells #[.int .i64 op, .int .i64 by', .int .i64 sz, .int .i64 obj, .int .u64 hi, .int .u64 lo, .bool false, .int .i64 rt, .int .i64 off, .int .i64 n, D, .int .i64 ix, G] 30))
  have HR : Hid (∀ a, Below (w.heap.size + 1) (w.alloc (.cells #[.int .i64 op, .int .i64 by', .int .i64 sz, .int .i64 obj, .int .u64 hi, .int .u64 lo, .bool false, .int .i64 rt, .int .i64 off, .int .i64 n, D, .int .i64 ix, G] 30)) a → a.heap[B]? = some (.cells #[.int .i64 op, .int .i64 by', .int .i64 sz, .int .i64 obj, .int .u64 hi, .int .u64 lo, .bool false, .int .i64 rt, .int .i64 off, .int .i64 n, D, .int .i64 ix, G] 30)) := fun a ha => row_on (ha.mono (by simp)) (row_new hB.symm)
  have HBB := Lib.hid hB
  clear h0 h1 hh hl o0 o1 hb h hb1
  go_enter Try.func29, Try.ntmps29
  go_wp2_with (first | (go_at_call 55; (with_reducible refine (P1.out _ HBX.out).mono ?_); rintro e w1 ⟨v1, rfl, ho, hb1, hf⟩; have HO := Lib.hid ho; have HB := Lib.hid hb1; have hrow := HR.out w1 (hb1.mono (by simp)); have y6 : w1.cell? ⟨B, 6, none⟩ = some (.bool false) := cell_row hrow rfl; clear ho hb1 hf hrow) | fail)
  have HY8 : Hid (∀ a, Below w1.heap.size w1 a → a.cell? ⟨B, 8, none⟩ = some (.int .i64 off)) := fun a ha => cell_row (HR.out a ((HB.out.mono (by simp)).trans (ha.mono (by have := HB.out.size; simp at this; omega)))) rfl
  have ST : Hid (w1.drew.heap[B]? = some (.cells #[.int .i64 op, .int .i64 by', .int .i64 sz, .int .i64 obj, .int .u64 hi, .int .u64 lo, .bool false, .int .i64 rt, .int .i64 off, .int .i64 n, D, .int .i64 ix, G] 30) ∧ Below w1.heap.size w1 w1.drew) := ⟨HR.out w1 (HB.out.mono (by simp)), (Below.refl _ _).drew⟩
  have KEEP : Hid (∀ a b, Below a.heap.size a b → (a.heap[B]? = some (.cells #[.int .i64 op, .int .i64 by', .int .i64 sz, .int .i64 obj, .int .u64 hi, .int .u64 lo, .bool false, .int .i64 rt, .int .i64 off, .int .i64 n, D, .int .i64 ix, G] 30) ∧ Below w1.heap.size w1 a) → (b.heap[B]? = some (.cells #[.int .i64 op, .int .i64 by', .int .i64 sz, .int .i64 obj, .int .u64 hi, .int .u64 lo, .bool false, .int .i64 rt, .int .i64 off, .int .i64 n, D, .int .i64 ix, G] 30) ∧ Below w1.heap.size w1 b)) := fun a b h ⟨k1, k2⟩ => ⟨row_on h k1, k2.trans (h.mono k2.size)⟩
  clear y6
  refine wp_region_noPanic ?_
  refine wp_region_held_drew (S := fun w' => w'.heap[B]? = some (.cells #[.int .i64 op, .int .i64 by', .int .i64 sz, .int .i64 obj, .int .u64 hi, .int .u64 lo, .bool false, .int .i64 rt, .int .i64 off, .int .i64 n, D, .int .i64 ix, G] 30) ∧ Below w1.heap.size w1 w') (by kernel_rfl) (ST.out) (fun hHeld => ?_)
  refine wpAnyH_take (i := 0) (oi := { dst := some 14, op := Go.Op.move (Go.Operand.tmp 0), type := 27, pos := "record.go:73", after := #[], guard := none }) (v := ?_) rfl (by kernel_rfl) (by kernel_rfl) (by kernel_rfl) (fun _ _ _ h => h) (Or.inl ⟨by rfl, ?hy0_1⟩) (by assumption) ?rest0_1
  case hy0_1 => (intro w hSw; go_simp; try with_reducible rfl)
  try simp only [Act.put, List.setIfInBounds_toArray, List.set_cons_zero, List.set_cons_succ]
  refine wpAnyH_take (i := 1) (oi := { dst := some 15, op := Go.Op.move (Go.Operand.tmp 5), type := 5, pos := "record.go:73", after := #[], guard := none }) (v := ?_) rfl (by kernel_rfl) (by kernel_rfl) (by kernel_rfl) (fun _ _ _ h => h) (Or.inl ⟨by rfl, ?hy1_2⟩) (by assumption) ?rest1_2
  case hy1_2 => (intro w hSw; go_simp; try with_reducible rfl)
  try simp only [Act.put, List.setIfInBounds_toArray, List.set_cons_zero, List.set_cons_succ]
  refine wpAnyH_take (i := 3) (oi := { dst := some 17, op := Go.Op.fieldAddr 30 (Go.Operand.tmp 3) 3, type := 0, pos := "record.go:73", after := #[], guard := none }) (v := ?_) rfl (by kernel_rfl) (by kernel_rfl) (by kernel_rfl) (fun _ _ _ h => h) (Or.inl ⟨by rfl, ?hy3_3⟩) (by assumption) ?rest3_3
  case hy3_3 => (intro w hSw; go_simp; try with_reducible rfl)
  try simp only [Act.put, List.setIfInBounds_toArray, List.set_cons_zero, List.set_cons_succ]
  refine wpAnyH_take (i := 4) (oi := { dst := some 18, op := Go.Op.fieldAddr 26 (Go.Operand.tmp 17) 1, type := 0, pos := "record.go:73", after := #[{ on := 3, ground := Go.Ground.data }], guard := none }) (v := ?_) rfl (by kernel_rfl) (by kernel_rfl) (by kernel_rfl) (fun _ _ _ h => h) (Or.inl ⟨by rfl, ?hy4_4⟩) (by assumption) ?rest4_4
  case hy4_4 => (intro w hSw; go_simp; try with_reducible rfl)
  try simp only [Act.put, List.setIfInBounds_toArray, List.set_cons_zero, List.set_cons_succ]
  refine wpAnyH_take (i := 5) (oi := { dst := some 19, op := Go.Op.load 24 (Go.Operand.tmp 18), type := 24, pos := "record.go:73", after := #[{ on := 4, ground := Go.Ground.data }], guard := none }) (v := .agg #[.int .u64 hi, .int .u64 lo]) rfl (by kernel_rfl) (by kernel_rfl) (by kernel_rfl) (fun _ _ _ h => h) (yieldsIf_load_mid (by rfl) 24 (.tmp 18) rfl B 4 rfl [.int .u64 hi, .int .u64 lo] _ (fun w hSw => range_row hSw.1 (by rfl)) Try.underlying24 rfl info25) (by assumption) ?_
  try simp only [Act.put, List.setIfInBounds_toArray, List.set_cons_zero, List.set_cons_succ]
  refine wpAnyH_ready (rs := [2]) (by kernel_rfl) (by simp) ?_
  refine AllReadyH.cons (o := { dst := some 16, op := Go.Op.call { callee := Go.Callee.value (Go.Operand.func 26), args := #[Go.Operand.tmp 14, Go.Operand.tmp 15], argTypes := #[27, 5] }, type := 27, pos := "record.go:73", after := #[{ on := 0, ground := Go.Ground.data }, { on := 1, ground := Go.Ground.data }], guard := none }) rfl (fun K hK => ?_) AllReadyH.nil
  go_simp
  go_at_call 26
  (refine (P2.out _ _ (HO.out.below hHeld.2)).mono ?_)
  rintro e w2 ⟨v2, rfl, o2, hb2, f2⟩
  refine hK.out _ _ (by exact KEEP.out _ _ hb2 hHeld) (fun hHeld2 => ?_)
  clear hK K hHeld
  have hHeld := hHeld2
  clear hHeld2
  try simp only [Act.put, List.setIfInBounds_toArray, List.set_cons_zero, List.set_cons_succ]
  refine wpAnyH_ready (rs := [6]) (by kernel_rfl) (by simp) ?_
  refine AllReadyH.cons (o := { dst := some 20, op := Go.Op.call { callee := Go.Callee.value (Go.Operand.func 56), args := #[Go.Operand.tmp 16, Go.Operand.tmp 19], argTypes := #[27, 24] }, type := 27, pos := "record.go:73", after := #[{ on := 2, ground := Go.Ground.data }, { on := 5, ground := Go.Ground.data }, { on := 2, ground := Go.Ground.chain }], guard := none }) rfl (fun K hK => ?_) AllReadyH.nil
  go_simp
  go_at_call 56
  (refine (P3.out _ _ o2).mono ?_)
  rintro e w3 ⟨v3, rfl, o3, hb3, f3⟩
  refine hK.out _ _ (by exact KEEP.out _ _ hb3 hHeld) (fun hHeld2 => ?_)
  clear hK K hHeld
  have hHeld := hHeld2
  clear hHeld2
  try simp only [Act.put, List.setIfInBounds_toArray, List.set_cons_zero, List.set_cons_succ]
  refine wpAnyH_take (i := 7) (oi := { dst := some 0, op := Go.Op.assign (Go.Operand.tmp 20), type := 27, pos := "record.go:73", after := #[{ on := 6, ground := Go.Ground.data }, { on := 6, ground := Go.Ground.chain }, { on := 0, ground := Go.Ground.phase }, { on := 1, ground := Go.Ground.phase }, { on := 2, ground := Go.Ground.phase }, { on := 3, ground := Go.Ground.phase }, { on := 4, ground := Go.Ground.phase }, { on := 5, ground := Go.Ground.phase }, { on := 6, ground := Go.Ground.phase }], guard := none }) (v := ?_) rfl (by kernel_rfl) (by kernel_rfl) (by kernel_rfl) (fun _ _ _ h => h) (Or.inl ⟨by rfl, ?hy7_5⟩) (by assumption) ?rest7_5
  case hy7_5 => (intro w hSw; go_simp; try with_reducible rfl)
  try simp only [Act.put, List.setIfInBounds_toArray, List.set_cons_zero, List.set_cons_succ]
  refine wpAnyH_done (by kernel_rfl) ?_ _
  refine NoPanic.normal ?_
  try simp only [Act.put, List.setIfInBounds_toArray, List.set_cons_zero, List.set_cons_succ]
  have y8 : w3.cell? ⟨B, 8, none⟩ = some (.int .i64 off) := cell_row hHeld.1 rfl
  have HH := Lib.hid hHeld.2
  have O3 := Lib.hid o3
  clear hHeld o2 o3 hb2 hb3 f2 f3
  go_wp2_with (first | (go_at_call 27; (with_reducible refine (P4.out _ _ O3.out).mono ?_); rintro e w4 ⟨v4, rfl, o4, hb4, f4⟩) | fail)
  go_ret
  have hw4 : Below w.heap.size w w3 := HBX.out.trans ((HB.out.trans (HH.out.mono HB.out.size)).mono HBX.out.size)
  exact ⟨_, rfl, by rw [show zs ++ (le 8 obj ++ le 1 (b1 false) ++ wordB hi lo ++ le 4 (s32 off)) = zs ++ le 8 obj ++ le 1 (b1 false) ++ wordB hi lo ++ le 4 (s32 off) by simp only [List.append_assoc]]; exact o4, hw4.trans (hb4.mono hw4.size), fun b e => Nat.le_trans hw4.size (f4 b e)⟩
set_option maxHeartbeats 4000000 in
set_option maxRecDepth 100000 in
theorem moved_true (w : World) (v : Value) (zs : List Int) (op by' sz obj hi lo rt off n ix : Int) (D G : Value) (h0 : 0 ≤ obj) (h1 : obj ≤ 4611686018427387904) (hh : U64 hi) (hl : U64 lo) (o0 : -2147483648 ≤ off) (o1 : off ≤ 2147483647) (hb : zs.length ≤ 140737488351000) (h : RB w v zs) :
    Calls Try.prog 29 #[v, .agg #[.int .i64 op, .int .i64 by', .int .i64 sz, .int .i64 obj, .int .u64 hi, .int .u64 lo, .bool true, .int .i64 rt, .int .i64 off, .int .i64 n, D, .int .i64 ix, G]] w fun e w' => GB w (zs ++ (le 8 obj ++ le 1 (b1 true) ++ wordB hi lo ++ le 4 (s32 off))) e w' := by
  have hw1 : IntKind.u64.wrap obj = obj := by rw [IntKind.wrap_u64]; omega
  obtain ⟨hw2, hw3⟩ := mv_wrap o0 o1
  have hb1 : 0 ≤ b1 true ∧ b1 true < 256 := by decide
  obtain ⟨B, hB⟩ : ∃ B, w.heap.size = B := ⟨_, rfl⟩
  have P1 := Lib.hid (fun a (ha : Below w.heap.size w a) => put8_g a v zs obj h0 (by omega) (by omega) (h.below ha))
  have P2 := Lib.hid (fun a va (ha : OB a va (zs ++ le 8 obj)) => put1_g a va _ (b1 true) hb1.1 hb1.2 (by simp [le_len]; omega) ha.reads)
  have P3 := Lib.hid (fun a va (ha : OB a va (zs ++ le 8 obj ++ le 1 (b1 true))) => word_g a va _ hi lo hh hl (by simp [le_len]; omega) ha.reads)
  have P4 := Lib.hid (fun a va (ha : OB a va (zs ++ le 8 obj ++ le 1 (b1 true) ++ wordB hi lo)) => put4_g a va _ (s32 off) (s32_lo _) (s32_hi _) (by simp [le_len, wordB]; omega) ha.reads)
  have HBX := Lib.hid ((Below.refl w.heap.size w).alloc (Nat.le_refl _) (.cells #[.int .i64 op, .int .i64 by', .int .i64 sz, .int .i64 obj, .int .u64 hi, .int .u64 lo, .bool true, .int .i64 rt, .int .i64 off, .int .i64 n, D, .int .i64 ix, G] 30))
  have HR : Hid (∀ a, Below (w.heap.size + 1) (w.alloc (.cells #[.int .i64 op, .int .i64 by', .int .i64 sz, .int .i64 obj, .int .u64 hi, .int .u64 lo, .bool true, .int .i64 rt, .int .i64 off, .int .i64 n, D, .int .i64 ix, G] 30)) a → a.heap[B]? = some (.cells #[.int .i64 op, .int .i64 by', .int .i64 sz, .int .i64 obj, .int .u64 hi, .int .u64 lo, .bool true, .int .i64 rt, .int .i64 off, .int .i64 n, D, .int .i64 ix, G] 30)) := fun a ha => row_on (ha.mono (by simp)) (row_new hB.symm)
  have HBB := Lib.hid hB
  clear h0 h1 hh hl o0 o1 hb h hb1
  go_enter Try.func29, Try.ntmps29
  go_wp2_with (first | (go_at_call 55; (with_reducible refine (P1.out _ HBX.out).mono ?_); rintro e w1 ⟨v1, rfl, ho, hb1, hf⟩; have HO := Lib.hid ho; have HB := Lib.hid hb1; have hrow := HR.out w1 (hb1.mono (by simp)); have y6 : w1.cell? ⟨B, 6, none⟩ = some (.bool true) := cell_row hrow rfl; clear ho hb1 hf hrow) | fail)
  have HY8 : Hid (∀ a, Below w1.heap.size w1 a → a.cell? ⟨B, 8, none⟩ = some (.int .i64 off)) := fun a ha => cell_row (HR.out a ((HB.out.mono (by simp)).trans (ha.mono (by have := HB.out.size; simp at this; omega)))) rfl
  have ST : Hid (w1.drew.heap[B]? = some (.cells #[.int .i64 op, .int .i64 by', .int .i64 sz, .int .i64 obj, .int .u64 hi, .int .u64 lo, .bool true, .int .i64 rt, .int .i64 off, .int .i64 n, D, .int .i64 ix, G] 30) ∧ Below w1.heap.size w1 w1.drew) := ⟨HR.out w1 (HB.out.mono (by simp)), (Below.refl _ _).drew⟩
  have KEEP : Hid (∀ a b, Below a.heap.size a b → (a.heap[B]? = some (.cells #[.int .i64 op, .int .i64 by', .int .i64 sz, .int .i64 obj, .int .u64 hi, .int .u64 lo, .bool true, .int .i64 rt, .int .i64 off, .int .i64 n, D, .int .i64 ix, G] 30) ∧ Below w1.heap.size w1 a) → (b.heap[B]? = some (.cells #[.int .i64 op, .int .i64 by', .int .i64 sz, .int .i64 obj, .int .u64 hi, .int .u64 lo, .bool true, .int .i64 rt, .int .i64 off, .int .i64 n, D, .int .i64 ix, G] 30) ∧ Below w1.heap.size w1 b)) := fun a b h ⟨k1, k2⟩ => ⟨row_on h k1, k2.trans (h.mono k2.size)⟩
  clear y6
  refine wp_region_noPanic ?_
  refine wp_region_held_drew (S := fun w' => w'.heap[B]? = some (.cells #[.int .i64 op, .int .i64 by', .int .i64 sz, .int .i64 obj, .int .u64 hi, .int .u64 lo, .bool true, .int .i64 rt, .int .i64 off, .int .i64 n, D, .int .i64 ix, G] 30) ∧ Below w1.heap.size w1 w') (by kernel_rfl) (ST.out) (fun hHeld => ?_)
  refine wpAnyH_take (i := 0) (oi := { dst := some 14, op := Go.Op.move (Go.Operand.tmp 0), type := 27, pos := "record.go:73", after := #[], guard := none }) (v := ?_) rfl (by kernel_rfl) (by kernel_rfl) (by kernel_rfl) (fun _ _ _ h => h) (Or.inl ⟨by rfl, ?hy0_1⟩) (by assumption) ?rest0_1
  case hy0_1 => (intro w hSw; go_simp; try with_reducible rfl)
  try simp only [Act.put, List.setIfInBounds_toArray, List.set_cons_zero, List.set_cons_succ]
  refine wpAnyH_take (i := 1) (oi := { dst := some 15, op := Go.Op.move (Go.Operand.tmp 5), type := 5, pos := "record.go:73", after := #[], guard := none }) (v := ?_) rfl (by kernel_rfl) (by kernel_rfl) (by kernel_rfl) (fun _ _ _ h => h) (Or.inl ⟨by rfl, ?hy1_2⟩) (by assumption) ?rest1_2
  case hy1_2 => (intro w hSw; go_simp; try with_reducible rfl)
  try simp only [Act.put, List.setIfInBounds_toArray, List.set_cons_zero, List.set_cons_succ]
  refine wpAnyH_take (i := 3) (oi := { dst := some 17, op := Go.Op.fieldAddr 30 (Go.Operand.tmp 3) 3, type := 0, pos := "record.go:73", after := #[], guard := none }) (v := ?_) rfl (by kernel_rfl) (by kernel_rfl) (by kernel_rfl) (fun _ _ _ h => h) (Or.inl ⟨by rfl, ?hy3_3⟩) (by assumption) ?rest3_3
  case hy3_3 => (intro w hSw; go_simp; try with_reducible rfl)
  try simp only [Act.put, List.setIfInBounds_toArray, List.set_cons_zero, List.set_cons_succ]
  refine wpAnyH_take (i := 4) (oi := { dst := some 18, op := Go.Op.fieldAddr 26 (Go.Operand.tmp 17) 1, type := 0, pos := "record.go:73", after := #[{ on := 3, ground := Go.Ground.data }], guard := none }) (v := ?_) rfl (by kernel_rfl) (by kernel_rfl) (by kernel_rfl) (fun _ _ _ h => h) (Or.inl ⟨by rfl, ?hy4_4⟩) (by assumption) ?rest4_4
  case hy4_4 => (intro w hSw; go_simp; try with_reducible rfl)
  try simp only [Act.put, List.setIfInBounds_toArray, List.set_cons_zero, List.set_cons_succ]
  refine wpAnyH_take (i := 5) (oi := { dst := some 19, op := Go.Op.load 24 (Go.Operand.tmp 18), type := 24, pos := "record.go:73", after := #[{ on := 4, ground := Go.Ground.data }], guard := none }) (v := .agg #[.int .u64 hi, .int .u64 lo]) rfl (by kernel_rfl) (by kernel_rfl) (by kernel_rfl) (fun _ _ _ h => h) (yieldsIf_load_mid (by rfl) 24 (.tmp 18) rfl B 4 rfl [.int .u64 hi, .int .u64 lo] _ (fun w hSw => range_row hSw.1 (by rfl)) Try.underlying24 rfl info25) (by assumption) ?_
  try simp only [Act.put, List.setIfInBounds_toArray, List.set_cons_zero, List.set_cons_succ]
  refine wpAnyH_ready (rs := [2]) (by kernel_rfl) (by simp) ?_
  refine AllReadyH.cons (o := { dst := some 16, op := Go.Op.call { callee := Go.Callee.value (Go.Operand.func 26), args := #[Go.Operand.tmp 14, Go.Operand.tmp 15], argTypes := #[27, 5] }, type := 27, pos := "record.go:73", after := #[{ on := 0, ground := Go.Ground.data }, { on := 1, ground := Go.Ground.data }], guard := none }) rfl (fun K hK => ?_) AllReadyH.nil
  go_simp
  go_at_call 26
  (refine (P2.out _ _ (HO.out.below hHeld.2)).mono ?_)
  rintro e w2 ⟨v2, rfl, o2, hb2, f2⟩
  refine hK.out _ _ (by exact KEEP.out _ _ hb2 hHeld) (fun hHeld2 => ?_)
  clear hK K hHeld
  have hHeld := hHeld2
  clear hHeld2
  try simp only [Act.put, List.setIfInBounds_toArray, List.set_cons_zero, List.set_cons_succ]
  refine wpAnyH_ready (rs := [6]) (by kernel_rfl) (by simp) ?_
  refine AllReadyH.cons (o := { dst := some 20, op := Go.Op.call { callee := Go.Callee.value (Go.Operand.func 56), args := #[Go.Operand.tmp 16, Go.Operand.tmp 19], argTypes := #[27, 24] }, type := 27, pos := "record.go:73", after := #[{ on := 2, ground := Go.Ground.data }, { on := 5, ground := Go.Ground.data }, { on := 2, ground := Go.Ground.chain }], guard := none }) rfl (fun K hK => ?_) AllReadyH.nil
  go_simp
  go_at_call 56
  (refine (P3.out _ _ o2).mono ?_)
  rintro e w3 ⟨v3, rfl, o3, hb3, f3⟩
  refine hK.out _ _ (by exact KEEP.out _ _ hb3 hHeld) (fun hHeld2 => ?_)
  clear hK K hHeld
  have hHeld := hHeld2
  clear hHeld2
  try simp only [Act.put, List.setIfInBounds_toArray, List.set_cons_zero, List.set_cons_succ]
  refine wpAnyH_take (i := 7) (oi := { dst := some 0, op := Go.Op.assign (Go.Operand.tmp 20), type := 27, pos := "record.go:73", after := #[{ on := 6, ground := Go.Ground.data }, { on := 6, ground := Go.Ground.chain }, { on := 0, ground := Go.Ground.phase }, { on := 1, ground := Go.Ground.phase }, { on := 2, ground := Go.Ground.phase }, { on := 3, ground := Go.Ground.phase }, { on := 4, ground := Go.Ground.phase }, { on := 5, ground := Go.Ground.phase }, { on := 6, ground := Go.Ground.phase }], guard := none }) (v := ?_) rfl (by kernel_rfl) (by kernel_rfl) (by kernel_rfl) (fun _ _ _ h => h) (Or.inl ⟨by rfl, ?hy7_5⟩) (by assumption) ?rest7_5
  case hy7_5 => (intro w hSw; go_simp; try with_reducible rfl)
  try simp only [Act.put, List.setIfInBounds_toArray, List.set_cons_zero, List.set_cons_succ]
  refine wpAnyH_done (by kernel_rfl) ?_ _
  refine NoPanic.normal ?_
  try simp only [Act.put, List.setIfInBounds_toArray, List.set_cons_zero, List.set_cons_succ]
  have y8 : w3.cell? ⟨B, 8, none⟩ = some (.int .i64 off) := cell_row hHeld.1 rfl
  have HH := Lib.hid hHeld.2
  have O3 := Lib.hid o3
  clear hHeld o2 o3 hb2 hb3 f2 f3
  go_wp2_with (first | (go_at_call 27; (with_reducible refine (P4.out _ _ O3.out).mono ?_); rintro e w4 ⟨v4, rfl, o4, hb4, f4⟩) | fail)
  go_ret
  have hw4 : Below w.heap.size w w3 := HBX.out.trans ((HB.out.trans (HH.out.mono HB.out.size)).mono HBX.out.size)
  exact ⟨_, rfl, by rw [show zs ++ (le 8 obj ++ le 1 (b1 true) ++ wordB hi lo ++ le 4 (s32 off)) = zs ++ le 8 obj ++ le 1 (b1 true) ++ wordB hi lo ++ le 4 (s32 off) by simp only [List.append_assoc]]; exact o4, hw4.trans (hb4.mono hw4.size), fun b e => Nat.le_trans hw4.size (f4 b e)⟩
theorem moved_any (w : World) (v : Value) (zs : List Int) (c : Cl) (D G : Value) (h0 : 0 ≤ c.obj) (h1 : c.obj ≤ 4611686018427387904) (hh : U64 c.hi) (hl : U64 c.lo) (o0 : -2147483648 ≤ c.off) (o1 : c.off ≤ 2147483647) (hb : zs.length ≤ 140737488351000) (h : RB w v zs) :
    Calls Try.prog 29 #[v, cv c D G] w fun e w' => GB w (zs ++ mvB c) e w' := by
  obtain ⟨op, by', sz, obj, hi, lo, gv, rt, off, n, da, ix, gi⟩ := c
  cases gv with
  | false => exact moved_false w v zs op by' sz obj hi lo rt off n ix D G h0 h1 hh hl o0 o1 hb h
  | true => exact moved_true w v zs op by' sz obj hi lo rt off n ix D G h0 h1 hh hl o0 o1 hb h
end Go.Proofs.Ytfpkdbogapmhmaa.O

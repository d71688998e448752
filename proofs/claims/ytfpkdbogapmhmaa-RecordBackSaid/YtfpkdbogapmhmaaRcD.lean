/- Record: Bytes writes a call (written by gen_rcd.py). -/
import Derived.Test.YtfpkdbogapmhmaaRcC
namespace Go.Proofs.Ytfpkdbogapmhmaa.O
open Go.RowKit Go.Proofs.Ytfpkdbogapmhmaa.Mem
set_option linter.unusedVariables false
set_option linter.unusedSimpArgs false
def two {α : Type} (a b : α) : Nat → α
  | 0 => a
  | _ => b
theorem rws2 (w : World) (a b : Value) (za zb : List Int) (t : TypeId) (ha : RB w a za) (hb : RB w b zb) : Rws (w.alloc (.cells #[a, b] t)) (.slice (some ⟨w.heap.size, 0, none⟩) 2 2) 2 (two a b) (two za zb) := by
  have hbl : Below w.heap.size w (w.alloc (.cells #[a, b] t)) := (Below.refl _ w).alloc (Nat.le_refl _) _
  refine ⟨_, _, rfl, Nat.le_refl _, by decide, fun i hi => ?_, fun _ => ⟨_, _, rfl, fun i hi => ?_⟩⟩
  · match i, hi with
    | 0, _ => exact ha.below hbl
    | 1, _ => exact hb.below hbl
  · rw [Nat.zero_add]
    refine cell_row (heap_alloc_new w _) ?_
    match i, hi with
    | 0, _ => rfl
    | 1, _ => rfl
theorem join2_g (w : World) (a b : Value) (za zb : List Int) (t : TypeId) (hl : za.length + zb.length ≤ 140737488355000) (ha : RB w a za) (hb : RB w b zb) :
    Calls Try.prog 30 #[.slice (some ⟨w.heap.size, 0, none⟩) 2 2] (w.alloc (.cells #[a, b] t)) fun e w' => GB w (za ++ zb) e w' := by
  refine (join_any _ _ 2 (two a b) (two za zb) (by simp [joinZ, two]; exact hl) (by decide) (rws2 w a b za zb t ha hb)).mono ?_
  rintro e w' ⟨A, c, h1, h2, h3, h4⟩
  have e : joinZ (two za zb) 2 = za ++ zb := by simp [joinZ, two]
  rw [e] at h1 h2 h4
  have hbl : Below w.heap.size w (w.alloc (.cells #[a, b] t)) := (Below.refl _ w).alloc (Nat.le_refl _) _
  exact GB.mono ⟨_, h1, h2, h3, h4⟩ hbl
theorem gi_take {l : List Int} {i : Nat} {u : Int} (h : l[i]? = some u) : giB (l.take (i + 1)) = giB (l.take i) ++ le 2 u := by
  unfold giB
  rw [List.take_add_one, h]; simp
theorem gi_len (l : List Int) : (giB l).length = 2 * l.length := by
  unfold giB
  induction l with
  | nil => rfl
  | cons a l ih => rw [List.flatMap_cons, List.length_append, ih, le_len, List.length_cons]; omega

set_option maxHeartbeats 4000000 in
set_option maxRecDepth 100000 in
theorem bytes_ok (w : World) (c : Cl) (D G : Value) (hD : RB w D c.da) (hG : IB w G c.gi) (hh : U64 c.hi) (hl : U64 c.lo) (hf : form c) :
    Calls Try.prog 9 #[cv c D G] w fun e w' => ∃ v, e = .returned (.tuple #[v, .int .i64 0]) ∧ OB w' v (enc c) ∧ Below w.heap.size w w' ∧ Fresh w v := by
  have HF := Lib.hid (fun a (ha : Below w.heap.size w a) => by
    have := formed_any a c D G hD.sl (hG.below ha) (by have := hf.2.1.2.2.2.1; omega)
    rwa [decide_eq_true hf] at this)
  have HD := Lib.hid hD
  have HG := Lib.hid hG
  obtain ⟨⟨ho, hb, hsz, hoff, hn⟩, ⟨hob, hrt, hix, hgl, hdl⟩, hg, _, _⟩ := hf
  obtain ⟨op, by', sz, obj, hi, lo, gv, rt, off, n, da, ix, gi⟩ := c
  simp only at ho hb hsz hoff hn hob hrt hix hgl hdl hg hh hl HD HG
  unfold cv cells at HF ⊢
  simp only at HF ⊢
  clear hD hG
  have hw1 : IntKind.u8.wrap op = op := by rw [IntKind.wrap_u8]; omega
  have hw2 : IntKind.u16.wrap by' = by' := by rw [IntKind.wrap_u16]; omega
  obtain ⟨B, hB⟩ : ∃ B, w.heap.size = B := ⟨_, rfl⟩
  have P1 := Lib.hid (fun a => put1_g a (.slice none 0 0) [] op (by omega) (by omega) (by decide) (OB.nil a).reads)
  have P2 := Lib.hid (fun a va (ha : OB a va ([] ++ le 1 op)) => put2_g a va _ by' (by omega) (by omega) (by simp [le_len]) ha.reads)
  have HBX := Lib.hid ((Below.refl w.heap.size w).alloc (Nat.le_refl _) (.cells #[.int .i64 op, .int .i64 by', .int .i64 sz, .int .i64 obj, .int .u64 hi, .int .u64 lo, .bool gv, .int .i64 rt, .int .i64 off, .int .i64 n, D, .int .i64 ix, G] 30))
  have HR : Hid (∀ a, Below (w.heap.size + 1) (w.alloc (.cells #[.int .i64 op, .int .i64 by', .int .i64 sz, .int .i64 obj, .int .u64 hi, .int .u64 lo, .bool gv, .int .i64 rt, .int .i64 off, .int .i64 n, D, .int .i64 ix, G] 30)) a → a.heap[B]? = some (.cells #[.int .i64 op, .int .i64 by', .int .i64 sz, .int .i64 obj, .int .u64 hi, .int .u64 lo, .bool gv, .int .i64 rt, .int .i64 off, .int .i64 n, D, .int .i64 ix, G] 30)) := fun a ha => row_on (ha.mono (by simp)) (row_new hB.symm)
  have HBB := Lib.hid hB
  have HH := Lib.hid (And.intro hh hl)
  have o10 : op = 1 ∨ op = 2 ∨ op = 3 ∨ op = 4 ∨ op = 5 ∨ op = 6 ∨ op = 7 ∨ op = 8 ∨ op = 9 ∨ op = 10 := by omega
  have HX := Lib.hid (And.intro hsz (And.intro hoff (And.intro hn (And.intro hob (And.intro hrt (And.intro hix (And.intro hgl (And.intro hdl (And.intro hg o10)))))))))
  clear ho hb hsz hoff hn hob hrt hix hgl hdl hg hh hl o10
  go_enter Try.func9, Try.ntmps9
  go_wp2_with (first | (go_at_call 24; (with_reducible refine (HF.out _ HBX.out).mono ?_); rintro e w1 ⟨rfl, hb1⟩; have HB := Lib.hid hb1; clear hb1) | fail)
  have ST : Hid (w1.drew.heap[B]? = some (.cells #[.int .i64 op, .int .i64 by', .int .i64 sz, .int .i64 obj, .int .u64 hi, .int .u64 lo, .bool gv, .int .i64 rt, .int .i64 off, .int .i64 n, D, .int .i64 ix, G] 30) ∧ Below w1.heap.size w1 w1.drew) := ⟨HR.out w1 (HB.out.mono (by simp)), (Below.refl _ _).drew⟩
  have KEEP : Hid (∀ a b, Below a.heap.size a b → (a.heap[B]? = some (.cells #[.int .i64 op, .int .i64 by', .int .i64 sz, .int .i64 obj, .int .u64 hi, .int .u64 lo, .bool gv, .int .i64 rt, .int .i64 off, .int .i64 n, D, .int .i64 ix, G] 30) ∧ Below w1.heap.size w1 a) → (b.heap[B]? = some (.cells #[.int .i64 op, .int .i64 by', .int .i64 sz, .int .i64 obj, .int .u64 hi, .int .u64 lo, .bool gv, .int .i64 rt, .int .i64 off, .int .i64 n, D, .int .i64 ix, G] 30) ∧ Below w1.heap.size w1 b)) := fun a b h ⟨k1, k2⟩ => ⟨row_on h k1, k2.trans (h.mono k2.size)⟩
  refine wp_region_noPanic ?_
  refine wp_region_held_drew (S := fun w' => w'.heap[B]? = some (.cells #[.int .i64 op, .int .i64 by', .int .i64 sz, .int .i64 obj, .int .u64 hi, .int .u64 lo, .bool gv, .int .i64 rt, .int .i64 off, .int .i64 n, D, .int .i64 ix, G] 30) ∧ Below w1.heap.size w1 w') (by kernel_rfl) (ST.out) (fun hHeld => ?_)
  refine wpAnyH_take (i := 0) (oi := { dst := some 10, op := Go.Op.fieldAddr 30 (Go.Operand.tmp 1) 0, type := 0, pos := "record.go:82", after := #[], guard := none }) (v := ?_) rfl (by kernel_rfl) (by kernel_rfl) (by kernel_rfl) (fun _ _ _ h => h) (Or.inl ⟨by rfl, ?hy0_1⟩) (by assumption) ?rest0_1
  case hy0_1 => (intro w hSw; go_simp; try with_reducible rfl)
  try simp only [Act.put, List.setIfInBounds_toArray, List.set_cons_zero, List.set_cons_succ]
  refine wpAnyH_take (i := 4) (oi := { dst := some 14, op := Go.Op.fieldAddr 30 (Go.Operand.tmp 1) 1, type := 0, pos := "record.go:82", after := #[], guard := none }) (v := ?_) rfl (by kernel_rfl) (by kernel_rfl) (by kernel_rfl) (fun _ _ _ h => h) (Or.inl ⟨by rfl, ?hy4_2⟩) (by assumption) ?rest4_2
  case hy4_2 => (intro w hSw; go_simp; try with_reducible rfl)
  try simp only [Act.put, List.setIfInBounds_toArray, List.set_cons_zero, List.set_cons_succ]
  refine wpAnyH_take (i := 1) (oi := { dst := some 11, op := Go.Op.load 3 (Go.Operand.tmp 10), type := 3, pos := "record.go:82", after := #[{ on := 0, ground := Go.Ground.data }], guard := none }) (v := ?_) rfl (by kernel_rfl) (by kernel_rfl) (by kernel_rfl) (fun _ _ _ h => h) (Or.inl ⟨by rfl, ?hy1_3⟩) (by assumption) ?rest1_3
  case hy1_3 => (intro w hSw; have z := cell_row (j := 0) hSw.1 rfl; go_simp; try with_reducible rfl)
  try simp only [Act.put, List.setIfInBounds_toArray, List.set_cons_zero, List.set_cons_succ]
  refine wpAnyH_take (i := 5) (oi := { dst := some 15, op := Go.Op.load 3 (Go.Operand.tmp 14), type := 3, pos := "record.go:82", after := #[{ on := 4, ground := Go.Ground.data }], guard := none }) (v := ?_) rfl (by kernel_rfl) (by kernel_rfl) (by kernel_rfl) (fun _ _ _ h => h) (Or.inl ⟨by rfl, ?hy5_4⟩) (by assumption) ?rest5_4
  case hy5_4 => (intro w hSw; have z := cell_row (j := 1) hSw.1 rfl; go_simp; try with_reducible rfl)
  try simp only [Act.put, List.setIfInBounds_toArray, List.set_cons_zero, List.set_cons_succ]
  refine wpAnyH_take (i := 2) (oi := { dst := some 12, op := Go.Op.convert 3 5 (Go.Operand.tmp 11), type := 5, pos := "record.go:82", after := #[{ on := 1, ground := Go.Ground.data }], guard := none }) (v := ?_) rfl (by kernel_rfl) (by kernel_rfl) (by kernel_rfl) (fun _ _ _ h => h) (Or.inl ⟨by rfl, ?hy2_5⟩) (by assumption) ?rest2_5
  case hy2_5 => (intro w hSw; go_simp; try with_reducible rfl)
  try simp only [Act.put, List.setIfInBounds_toArray, List.set_cons_zero, List.set_cons_succ]
  refine wpAnyH_take (i := 6) (oi := { dst := some 16, op := Go.Op.convert 3 64 (Go.Operand.tmp 15), type := 64, pos := "record.go:82", after := #[{ on := 5, ground := Go.Ground.data }], guard := none }) (v := ?_) rfl (by kernel_rfl) (by kernel_rfl) (by kernel_rfl) (fun _ _ _ h => h) (Or.inl ⟨by rfl, ?hy6_6⟩) (by assumption) ?rest6_6
  case hy6_6 => (intro w hSw; go_simp; try with_reducible rfl)
  try simp only [Act.put, List.setIfInBounds_toArray, List.set_cons_zero, List.set_cons_succ]
  refine wpAnyH_ready (rs := [3]) (by kernel_rfl) (by simp) ?_
  refine AllReadyH.cons (o := { dst := some 13, op := Go.Op.call { callee := Go.Callee.value (Go.Operand.func 26), args := #[Go.Operand.const (Go.Value.slice none 0 0), Go.Operand.tmp 12], argTypes := #[27, 5] }, type := 27, pos := "record.go:82", after := #[{ on := 2, ground := Go.Ground.data }], guard := none }) rfl (fun K hK => ?_) AllReadyH.nil
  go_simp
  go_at_call 26
  (refine (P1.out _).mono ?_)
  rintro e w2 ⟨v2, rfl, o2, hb2, f2⟩
  refine hK.out _ _ (KEEP.out _ _ hb2 hHeld) (fun hHeld2 => ?_)
  clear hK K hHeld
  have hHeld := hHeld2
  clear hHeld2
  try simp only [Act.put, List.setIfInBounds_toArray, List.set_cons_zero, List.set_cons_succ]
  refine wpAnyH_ready (rs := [7]) (by kernel_rfl) (by simp) ?_
  refine AllReadyH.cons (o := { dst := some 17, op := Go.Op.call { callee := Go.Callee.value (Go.Operand.func 25), args := #[Go.Operand.tmp 13, Go.Operand.tmp 16], argTypes := #[27, 64] }, type := 27, pos := "record.go:82", after := #[{ on := 3, ground := Go.Ground.data }, { on := 6, ground := Go.Ground.data }, { on := 3, ground := Go.Ground.chain }], guard := none }) rfl (fun K hK => ?_) AllReadyH.nil
  go_simp
  go_at_call 25
  (refine (P2.out _ _ o2).mono ?_)
  rintro e w3 ⟨v3, rfl, o3, hb3, f3⟩
  refine hK.out _ _ (KEEP.out _ _ hb3 hHeld) (fun hHeld2 => ?_)
  clear hK K hHeld
  have hHeld := hHeld2
  clear hHeld2
  try simp only [Act.put, List.setIfInBounds_toArray, List.set_cons_zero, List.set_cons_succ]
  refine wpAnyH_take (i := 8) (oi := { dst := some 4, op := Go.Op.assign (Go.Operand.tmp 17), type := 27, pos := "record.go:82", after := #[{ on := 7, ground := Go.Ground.data }, { on := 7, ground := Go.Ground.chain }, { on := 0, ground := Go.Ground.phase }, { on := 1, ground := Go.Ground.phase }, { on := 2, ground := Go.Ground.phase }, { on := 3, ground := Go.Ground.phase }, { on := 4, ground := Go.Ground.phase }, { on := 5, ground := Go.Ground.phase }, { on := 6, ground := Go.Ground.phase }, { on := 7, ground := Go.Ground.phase }], guard := none }) (v := ?_) rfl (by kernel_rfl) (by kernel_rfl) (by kernel_rfl) (fun _ _ _ h => h) (Or.inl ⟨by rfl, ?hy8_7⟩) (by assumption) ?rest8_7
  case hy8_7 => (intro w hSw; go_simp; try with_reducible rfl)
  try simp only [Act.put, List.setIfInBounds_toArray, List.set_cons_zero, List.set_cons_succ]
  refine wpAnyH_done (by kernel_rfl) ?_ _
  refine NoPanic.normal ?_
  try simp only [Act.put, List.setIfInBounds_toArray, List.set_cons_zero, List.set_cons_succ]
  have O3 := Lib.hid o3
  have HW3 : Hid (Below w.heap.size w w3) := HBX.out.trans ((HB.out.trans (hHeld.2.mono HB.out.size)).mono HBX.out.size)
  have F3 : Hid (Fresh w v3) := fun b e => by
    have h1 := f3 b e
    have h2 := HW3.out.size
    have h3 : w1.heap.size ≤ w2.heap.size := hb2.size
    have h4 := HB.out.size
    have h5 := HBX.out.size
    omega
  have HR3 : Hid (w3.heap[B]? = some (.cells #[.int .i64 op, .int .i64 by', .int .i64 sz, .int .i64 obj, .int .u64 hi, .int .u64 lo, .bool gv, .int .i64 rt, .int .i64 off, .int .i64 n, D, .int .i64 ix, G] 30)) := hHeld.1
  clear o2 o3 hb2 hb3 f2 f3 hHeld ST KEEP HF P1 P2 hw1 hw2 HB HR
  obtain ⟨hsz, hoff, hn, hob, hrt, hix, hgl, hdl, hg, o10⟩ := HX.out
  have HX := Lib.hid (And.intro hsz (And.intro hoff (And.intro hn (And.intro hob (And.intro hrt (And.intro hix (And.intro hgl hdl)))))))
  have HGG := Lib.hid hg
  clear hsz hoff hn hob hrt hix hgl hdl hg
  obtain ⟨hws1, hws2⟩ := mv_wrap HX.out.1.1 HX.out.1.2
  obtain ⟨hwn1, hwn2⟩ := mv_wrap HX.out.2.2.1.1 HX.out.2.2.1.2
  have hwr : IntKind.u8.wrap rt = rt := by rw [IntKind.wrap_u8]; have := HX.out.2.2.2.2.1; omega
  have hwx : IntKind.u16.wrap ix = ix := by rw [IntKind.wrap_u16]; have := HX.out.2.2.2.2.2.1; omega
  rcases o10 with rfl | rfl | rfl | rfl | rfl | rfl | rfl | rfl | rfl | rfl
  · -- 1
    have y0 : w3.cell? ⟨B, 0, none⟩ = some (.int .i64 1) := cell_row HR3.out rfl
    have y2 : w3.cell? ⟨B, 2, none⟩ = some (.int .i64 sz) := cell_row HR3.out rfl
    have P4 := Lib.hid (fun a va (ha : OB a va ([] ++ le 1 1 ++ le 2 by')) => put4_g a va _ (s32 sz) (s32_lo _) (s32_hi _) (by simp [le_len]) ha.reads)
    go_wp2_with (first | (go_at_call 27; (with_reducible refine (P4.out _ _ O3.out).mono ?_); rintro e w4 ⟨v4, rfl, o4, hb4, f4⟩) | fail)
    go_ret2
    exact ⟨_, rfl, by rw [show enc (⟨1, by', sz, obj, hi, lo, gv, rt, off, n, da, ix, gi⟩ : Cl) = ([] ++ le 1 1 ++ le 2 by') ++ le 4 (s32 sz) by simp [enc, bodyB, List.append_assoc]]; exact o4, HW3.out.trans (hb4.mono HW3.out.size), fun b e => Nat.le_trans HW3.out.size (f4 b e)⟩
  · -- 2
    have y0 : w3.cell? ⟨B, 0, none⟩ = some (.int .i64 2) := cell_row HR3.out rfl
    have y3 : w3.cell? ⟨B, 3, none⟩ = some (.int .i64 obj) := cell_row HR3.out rfl
    have y4 : w3.cell? ⟨B, 4, none⟩ = some (.int .u64 hi) := cell_row HR3.out rfl
    have y5 : w3.cell? ⟨B, 5, none⟩ = some (.int .u64 lo) := cell_row HR3.out rfl
    have P4 := Lib.hid (fun a va (ha : OB a va ([] ++ le 1 2 ++ le 2 by')) => capable_any a va _ obj hi lo HX.out.2.2.2.1.1 HX.out.2.2.2.1.2 HH.out.1 HH.out.2 (by simp [le_len]) ha.reads)
    go_wp2_with (first | (go_at_call 28; (with_reducible refine (P4.out _ _ O3.out).mono ?_); rintro e w4 ⟨v4, rfl, o4, hb4, f4⟩) | fail)
    go_ret2
    exact ⟨_, rfl, by rw [show enc (⟨2, by', sz, obj, hi, lo, gv, rt, off, n, da, ix, gi⟩ : Cl) = ([] ++ le 1 2 ++ le 2 by') ++ capB obj hi lo by simp [enc, bodyB, List.append_assoc]]; exact o4, HW3.out.trans (hb4.mono HW3.out.size), fun b e => Nat.le_trans HW3.out.size (f4 b e)⟩
  · -- 3
    have y0 : w3.cell? ⟨B, 0, none⟩ = some (.int .i64 3) := cell_row HR3.out rfl
    have P4 := Lib.hid (fun a va (ha : OB a va ([] ++ le 1 3 ++ le 2 by')) => capable_any a va _ obj hi lo HX.out.2.2.2.1.1 HX.out.2.2.2.1.2 HH.out.1 HH.out.2 (by simp [le_len]) ha.reads)
    have P5 := Lib.hid (fun a va (ha : OB a va (([] ++ le 1 3 ++ le 2 by') ++ capB obj hi lo)) => put1_g a va _ rt HX.out.2.2.2.2.1.1 (by have := HX.out.2.2.2.2.1.2; omega) (by simp [le_len, capB, wordB]) ha.reads)
    have ST : Hid (w3.drew.heap[B]? = some (.cells #[.int .i64 3, .int .i64 by', .int .i64 sz, .int .i64 obj, .int .u64 hi, .int .u64 lo, .bool gv, .int .i64 rt, .int .i64 off, .int .i64 n, D, .int .i64 ix, G] 30) ∧ Below w3.heap.size w3 w3.drew) := ⟨HR3.out, (Below.refl _ _).drew⟩
    have KEEP : Hid (∀ a b, Below a.heap.size a b → (a.heap[B]? = some (.cells #[.int .i64 3, .int .i64 by', .int .i64 sz, .int .i64 obj, .int .u64 hi, .int .u64 lo, .bool gv, .int .i64 rt, .int .i64 off, .int .i64 n, D, .int .i64 ix, G] 30) ∧ Below w3.heap.size w3 a) → (b.heap[B]? = some (.cells #[.int .i64 3, .int .i64 by', .int .i64 sz, .int .i64 obj, .int .u64 hi, .int .u64 lo, .bool gv, .int .i64 rt, .int .i64 off, .int .i64 n, D, .int .i64 ix, G] 30) ∧ Below w3.heap.size w3 b)) := fun a b h ⟨k1, k2⟩ => ⟨row_on h k1, k2.trans (h.mono k2.size)⟩
    go_wp2_with fail
    refine wp_region_noPanic ?_
    refine wp_region_held_drew (S := fun w' => w'.heap[B]? = some (.cells #[.int .i64 3, .int .i64 by', .int .i64 sz, .int .i64 obj, .int .u64 hi, .int .u64 lo, .bool gv, .int .i64 rt, .int .i64 off, .int .i64 n, D, .int .i64 ix, G] 30) ∧ Below w3.heap.size w3 w') (by kernel_rfl) (ST.out) (fun hHeld => ?_)
    refine wpAnyH_take (i := 0) (oi := { dst := some 38, op := Go.Op.move (Go.Operand.tmp 4), type := 27, pos := "record.go:89", after := #[], guard := none }) (v := ?_) rfl (by kernel_rfl) (by kernel_rfl) (by kernel_rfl) (fun _ _ _ h => h) (Or.inl ⟨by rfl, ?hy0_8⟩) (by assumption) ?rest0_8
    case hy0_8 => (intro w hSw; go_simp; try with_reducible rfl)
    try simp only [Act.put, List.setIfInBounds_toArray, List.set_cons_zero, List.set_cons_succ]
    refine wpAnyH_take (i := 1) (oi := { dst := some 39, op := Go.Op.fieldAddr 30 (Go.Operand.tmp 1) 3, type := 0, pos := "record.go:89", after := #[], guard := none }) (v := ?_) rfl (by kernel_rfl) (by kernel_rfl) (by kernel_rfl) (fun _ _ _ h => h) (Or.inl ⟨by rfl, ?hy1_9⟩) (by assumption) ?rest1_9
    case hy1_9 => (intro w hSw; go_simp; try with_reducible rfl)
    try simp only [Act.put, List.setIfInBounds_toArray, List.set_cons_zero, List.set_cons_succ]
    refine wpAnyH_take (i := 4) (oi := { dst := some 42, op := Go.Op.fieldAddr 30 (Go.Operand.tmp 1) 5, type := 0, pos := "record.go:89", after := #[], guard := none }) (v := ?_) rfl (by kernel_rfl) (by kernel_rfl) (by kernel_rfl) (fun _ _ _ h => h) (Or.inl ⟨by rfl, ?hy4_10⟩) (by assumption) ?rest4_10
    case hy4_10 => (intro w hSw; go_simp; try with_reducible rfl)
    try simp only [Act.put, List.setIfInBounds_toArray, List.set_cons_zero, List.set_cons_succ]
    refine wpAnyH_take (i := 2) (oi := { dst := some 40, op := Go.Op.load 26 (Go.Operand.tmp 39), type := 26, pos := "record.go:89", after := #[{ on := 1, ground := Go.Ground.data }], guard := none }) (v := .agg #[.int .i64 obj, .int .u64 hi, .int .u64 lo]) rfl (by kernel_rfl) (by kernel_rfl) (by kernel_rfl) (fun _ _ _ h => h) (yieldsIf_load_mid (by rfl) 26 (.tmp 39) rfl B 3 rfl [.int .i64 obj, .int .u64 hi, .int .u64 lo] _ (fun w hSw => range_row hSw.1 (by rfl)) Try.underlying26 rfl info27) (by assumption) ?_
    try simp only [Act.put, List.setIfInBounds_toArray, List.set_cons_zero, List.set_cons_succ]
    refine wpAnyH_take (i := 5) (oi := { dst := some 43, op := Go.Op.load 3 (Go.Operand.tmp 42), type := 3, pos := "record.go:89", after := #[{ on := 4, ground := Go.Ground.data }], guard := none }) (v := ?_) rfl (by kernel_rfl) (by kernel_rfl) (by kernel_rfl) (fun _ _ _ h => h) (Or.inl ⟨by rfl, ?hy5_11⟩) (by assumption) ?rest5_11
    case hy5_11 => (intro w hSw; have z := cell_row (j := 7) hSw.1 rfl; go_simp; try with_reducible rfl)
    try simp only [Act.put, List.setIfInBounds_toArray, List.set_cons_zero, List.set_cons_succ]
    refine wpAnyH_take (i := 6) (oi := { dst := some 44, op := Go.Op.convert 3 5 (Go.Operand.tmp 43), type := 5, pos := "record.go:89", after := #[{ on := 5, ground := Go.Ground.data }], guard := none }) (v := ?_) rfl (by kernel_rfl) (by kernel_rfl) (by kernel_rfl) (fun _ _ _ h => h) (Or.inl ⟨by rfl, ?hy6_12⟩) (by assumption) ?rest6_12
    case hy6_12 => (intro w hSw; go_simp; try with_reducible rfl)
    try simp only [Act.put, List.setIfInBounds_toArray, List.set_cons_zero, List.set_cons_succ]
    refine wpAnyH_ready (rs := [3]) (by kernel_rfl) (by simp) ?_
    refine AllReadyH.cons (o := { dst := some 41, op := Go.Op.call { callee := Go.Callee.value (Go.Operand.func 28), args := #[Go.Operand.tmp 38, Go.Operand.tmp 40], argTypes := #[27, 26] }, type := 27, pos := "record.go:89", after := #[{ on := 0, ground := Go.Ground.data }, { on := 2, ground := Go.Ground.data }], guard := none }) rfl (fun K hK => ?_) AllReadyH.nil
    go_simp
    go_at_call 28
    (refine (P4.out _ _ (O3.out.below hHeld.2)).mono ?_)
    rintro e w4 ⟨v4, rfl, o4, hb4, f4⟩
    refine hK.out _ _ (KEEP.out _ _ hb4 hHeld) (fun hHeld2 => ?_)
    clear hK K hHeld
    have hHeld := hHeld2
    clear hHeld2
    try simp only [Act.put, List.setIfInBounds_toArray, List.set_cons_zero, List.set_cons_succ]
    refine wpAnyH_ready (rs := [7]) (by kernel_rfl) (by simp) ?_
    refine AllReadyH.cons (o := { dst := some 45, op := Go.Op.call { callee := Go.Callee.value (Go.Operand.func 26), args := #[Go.Operand.tmp 41, Go.Operand.tmp 44], argTypes := #[27, 5] }, type := 27, pos := "record.go:89", after := #[{ on := 3, ground := Go.Ground.data }, { on := 6, ground := Go.Ground.data }, { on := 3, ground := Go.Ground.chain }], guard := none }) rfl (fun K hK => ?_) AllReadyH.nil
    go_simp
    go_at_call 26
    (refine (P5.out _ _ o4).mono ?_)
    rintro e w5 ⟨v5, rfl, o5, hb5, f5⟩
    refine hK.out _ _ (KEEP.out _ _ hb5 hHeld) (fun hHeld2 => ?_)
    clear hK K hHeld
    have hHeld := hHeld2
    clear hHeld2
    try simp only [Act.put, List.setIfInBounds_toArray, List.set_cons_zero, List.set_cons_succ]
    refine wpAnyH_take (i := 8) (oi := { dst := some 4, op := Go.Op.assign (Go.Operand.tmp 45), type := 27, pos := "record.go:89", after := #[{ on := 7, ground := Go.Ground.data }, { on := 7, ground := Go.Ground.chain }, { on := 0, ground := Go.Ground.phase }, { on := 1, ground := Go.Ground.phase }, { on := 2, ground := Go.Ground.phase }, { on := 3, ground := Go.Ground.phase }, { on := 4, ground := Go.Ground.phase }, { on := 5, ground := Go.Ground.phase }, { on := 6, ground := Go.Ground.phase }, { on := 7, ground := Go.Ground.phase }], guard := none }) (v := ?_) rfl (by kernel_rfl) (by kernel_rfl) (by kernel_rfl) (fun _ _ _ h => h) (Or.inl ⟨by rfl, ?hy8_13⟩) (by assumption) ?rest8_13
    case hy8_13 => (intro w hSw; go_simp; try with_reducible rfl)
    try simp only [Act.put, List.setIfInBounds_toArray, List.set_cons_zero, List.set_cons_succ]
    refine wpAnyH_done (by kernel_rfl) ?_ _
    refine NoPanic.normal ?_
    try simp only [Act.put, List.setIfInBounds_toArray, List.set_cons_zero, List.set_cons_succ]
    have hb6 := hHeld.2
    have f6 : Fresh w3 v5 := fun b e => Nat.le_trans hb4.size (f5 b e)
    have o6 := Lib.hid o5
    clear hHeld o4 o5 hb4 hb5 f4 f5
    go_wp2
    go_ret2
    exact ⟨_, rfl, by rw [show enc (⟨3, by', sz, obj, hi, lo, gv, rt, off, n, da, ix, gi⟩ : Cl) = ([] ++ le 1 3 ++ le 2 by') ++ (capB obj hi lo ++ le 1 rt) by simp [enc, bodyB, List.append_assoc]]; exact (by rw [← List.append_assoc]; exact o6.out), HW3.out.trans (hb6.mono HW3.out.size), fun b e => Nat.le_trans HW3.out.size (f6 b e)⟩
  · -- 4
    have y0 : w3.cell? ⟨B, 0, none⟩ = some (.int .i64 4) := cell_row HR3.out rfl
    have y3 : w3.cell? ⟨B, 3, none⟩ = some (.int .i64 obj) := cell_row HR3.out rfl
    have y4 : w3.cell? ⟨B, 4, none⟩ = some (.int .u64 hi) := cell_row HR3.out rfl
    have y5 : w3.cell? ⟨B, 5, none⟩ = some (.int .u64 lo) := cell_row HR3.out rfl
    have P4 := Lib.hid (fun a va (ha : OB a va ([] ++ le 1 4 ++ le 2 by')) => capable_any a va _ obj hi lo HX.out.2.2.2.1.1 HX.out.2.2.2.1.2 HH.out.1 HH.out.2 (by simp [le_len]) ha.reads)
    go_wp2_with (first | (go_at_call 28; (with_reducible refine (P4.out _ _ O3.out).mono ?_); rintro e w4 ⟨v4, rfl, o4, hb4, f4⟩) | fail)
    go_ret2
    exact ⟨_, rfl, by rw [show enc (⟨4, by', sz, obj, hi, lo, gv, rt, off, n, da, ix, gi⟩ : Cl) = ([] ++ le 1 4 ++ le 2 by') ++ capB obj hi lo by simp [enc, bodyB, List.append_assoc]]; exact o4, HW3.out.trans (hb4.mono HW3.out.size), fun b e => Nat.le_trans HW3.out.size (f4 b e)⟩
  · -- 5
    have y0 : w3.cell? ⟨B, 0, none⟩ = some (.int .i64 5) := cell_row HR3.out rfl
    have HM := Lib.hid (fun a va (ha : OB a va ([] ++ le 1 5 ++ le 2 by')) => moved_any a va _ (⟨5, by', sz, obj, hi, lo, gv, rt, off, n, da, ix, gi⟩ : Cl) D G HX.out.2.2.2.1.1 HX.out.2.2.2.1.2 HH.out.1 HH.out.2 HX.out.2.1.1 HX.out.2.1.2 (by simp [le_len]) ha.reads)
    unfold cv cells at HM
    simp only at HM
    have P5 := Lib.hid (fun a va (ha : OB a va (([] ++ le 1 5 ++ le 2 by') ++ mvB (⟨5, by', sz, obj, hi, lo, gv, rt, off, n, da, ix, gi⟩ : Cl))) => put4_g a va _ (s32 n) (s32_lo _) (s32_hi _) (by simp [le_len, mvB, wordB]) ha.reads)
    have ST : Hid (w3.drew.heap[B]? = some (.cells #[.int .i64 5, .int .i64 by', .int .i64 sz, .int .i64 obj, .int .u64 hi, .int .u64 lo, .bool gv, .int .i64 rt, .int .i64 off, .int .i64 n, D, .int .i64 ix, G] 30) ∧ Below w3.heap.size w3 w3.drew) := ⟨HR3.out, (Below.refl _ _).drew⟩
    have KEEP : Hid (∀ a b, Below a.heap.size a b → (a.heap[B]? = some (.cells #[.int .i64 5, .int .i64 by', .int .i64 sz, .int .i64 obj, .int .u64 hi, .int .u64 lo, .bool gv, .int .i64 rt, .int .i64 off, .int .i64 n, D, .int .i64 ix, G] 30) ∧ Below w3.heap.size w3 a) → (b.heap[B]? = some (.cells #[.int .i64 5, .int .i64 by', .int .i64 sz, .int .i64 obj, .int .u64 hi, .int .u64 lo, .bool gv, .int .i64 rt, .int .i64 off, .int .i64 n, D, .int .i64 ix, G] 30) ∧ Below w3.heap.size w3 b)) := fun a b h ⟨k1, k2⟩ => ⟨row_on h k1, k2.trans (h.mono k2.size)⟩
    go_wp2_with fail
    refine wp_region_noPanic ?_
    refine wp_region_held_drew (S := fun w' => w'.heap[B]? = some (.cells #[.int .i64 5, .int .i64 by', .int .i64 sz, .int .i64 obj, .int .u64 hi, .int .u64 lo, .bool gv, .int .i64 rt, .int .i64 off, .int .i64 n, D, .int .i64 ix, G] 30) ∧ Below w3.heap.size w3 w') (by kernel_rfl) (ST.out) (fun hHeld => ?_)
    refine wpAnyH_take (i := 0) (oi := { dst := some 48, op := Go.Op.move (Go.Operand.tmp 4), type := 27, pos := "record.go:91", after := #[], guard := none }) (v := ?_) rfl (by kernel_rfl) (by kernel_rfl) (by kernel_rfl) (fun _ _ _ h => h) (Or.inl ⟨by rfl, ?hy0_14⟩) (by assumption) ?rest0_14
    case hy0_14 => (intro w hSw; go_simp; try with_reducible rfl)
    try simp only [Act.put, List.setIfInBounds_toArray, List.set_cons_zero, List.set_cons_succ]
    refine wpAnyH_take (i := 1) (oi := { dst := some 49, op := Go.Op.load 30 (Go.Operand.tmp 1), type := 30, pos := "record.go:91", after := #[], guard := none }) (v := .agg #[.int .i64 5, .int .i64 by', .int .i64 sz, .int .i64 obj, .int .u64 hi, .int .u64 lo, .bool gv, .int .i64 rt, .int .i64 off, .int .i64 n, D, .int .i64 ix, G]) rfl (by kernel_rfl) (by kernel_rfl) (by kernel_rfl) (fun _ _ _ h => h) (yieldsIf_load_mid (by rfl) 30 (.tmp 1) rfl B 0 rfl [.int .i64 5, .int .i64 by', .int .i64 sz, .int .i64 obj, .int .u64 hi, .int .u64 lo, .bool gv, .int .i64 rt, .int .i64 off, .int .i64 n, D, .int .i64 ix, G] _ (fun w hSw => range_row hSw.1 (by rfl)) Try.underlying30 rfl info30) (by assumption) ?_
    try simp only [Act.put, List.setIfInBounds_toArray, List.set_cons_zero, List.set_cons_succ]
    refine wpAnyH_take (i := 3) (oi := { dst := some 51, op := Go.Op.fieldAddr 30 (Go.Operand.tmp 1) 7, type := 0, pos := "record.go:91", after := #[], guard := none }) (v := ?_) rfl (by kernel_rfl) (by kernel_rfl) (by kernel_rfl) (fun _ _ _ h => h) (Or.inl ⟨by rfl, ?hy3_15⟩) (by assumption) ?rest3_15
    case hy3_15 => (intro w hSw; go_simp; try with_reducible rfl)
    try simp only [Act.put, List.setIfInBounds_toArray, List.set_cons_zero, List.set_cons_succ]
    refine wpAnyH_take (i := 4) (oi := { dst := some 52, op := Go.Op.load 3 (Go.Operand.tmp 51), type := 3, pos := "record.go:91", after := #[{ on := 3, ground := Go.Ground.data }], guard := none }) (v := ?_) rfl (by kernel_rfl) (by kernel_rfl) (by kernel_rfl) (fun _ _ _ h => h) (Or.inl ⟨by rfl, ?hy4_16⟩) (by assumption) ?rest4_16
    case hy4_16 => (intro w hSw; have z := cell_row (j := 9) hSw.1 rfl; go_simp; try with_reducible rfl)
    try simp only [Act.put, List.setIfInBounds_toArray, List.set_cons_zero, List.set_cons_succ]
    refine wpAnyH_take (i := 5) (oi := { dst := some 53, op := Go.Op.convert 3 21 (Go.Operand.tmp 52), type := 21, pos := "record.go:91", after := #[{ on := 4, ground := Go.Ground.data }], guard := none }) (v := ?_) rfl (by kernel_rfl) (by kernel_rfl) (by kernel_rfl) (fun _ _ _ h => h) (Or.inl ⟨by rfl, ?hy5_17⟩) (by assumption) ?rest5_17
    case hy5_17 => (intro w hSw; go_simp; try with_reducible rfl)
    try simp only [Act.put, List.setIfInBounds_toArray, List.set_cons_zero, List.set_cons_succ]
    refine wpAnyH_take (i := 6) (oi := { dst := some 54, op := Go.Op.convert 21 67 (Go.Operand.tmp 53), type := 67, pos := "record.go:91", after := #[{ on := 5, ground := Go.Ground.data }], guard := none }) (v := ?_) rfl (by kernel_rfl) (by kernel_rfl) (by kernel_rfl) (fun _ _ _ h => h) (Or.inl ⟨by rfl, ?hy6_18⟩) (by assumption) ?rest6_18
    case hy6_18 => (intro w hSw; go_simp; try with_reducible rfl)
    try simp only [Act.put, List.setIfInBounds_toArray, List.set_cons_zero, List.set_cons_succ]
    refine wpAnyH_ready (rs := [2]) (by kernel_rfl) (by simp) ?_
    refine AllReadyH.cons (o := { dst := some 50, op := Go.Op.call { callee := Go.Callee.value (Go.Operand.func 29), args := #[Go.Operand.tmp 48, Go.Operand.tmp 49], argTypes := #[27, 30] }, type := 27, pos := "record.go:91", after := #[{ on := 0, ground := Go.Ground.data }, { on := 1, ground := Go.Ground.data }], guard := none }) rfl (fun K hK => ?_) AllReadyH.nil
    go_simp
    go_at_call 29
    (refine (HM.out _ _ (O3.out.below hHeld.2)).mono ?_)
    rintro e w4 ⟨v4, rfl, o4, hb4, f4⟩
    refine hK.out _ _ (KEEP.out _ _ hb4 hHeld) (fun hHeld2 => ?_)
    clear hK K hHeld
    have hHeld := hHeld2
    clear hHeld2
    try simp only [Act.put, List.setIfInBounds_toArray, List.set_cons_zero, List.set_cons_succ]
    refine wpAnyH_ready (rs := [7]) (by kernel_rfl) (by simp) ?_
    refine AllReadyH.cons (o := { dst := some 55, op := Go.Op.call { callee := Go.Callee.value (Go.Operand.func 27), args := #[Go.Operand.tmp 50, Go.Operand.tmp 54], argTypes := #[27, 67] }, type := 27, pos := "record.go:91", after := #[{ on := 2, ground := Go.Ground.data }, { on := 6, ground := Go.Ground.data }, { on := 2, ground := Go.Ground.chain }], guard := none }) rfl (fun K hK => ?_) AllReadyH.nil
    go_simp
    go_at_call 27
    (refine (P5.out _ _ o4).mono ?_)
    rintro e w5 ⟨v5, rfl, o5, hb5, f5⟩
    refine hK.out _ _ (KEEP.out _ _ hb5 hHeld) (fun hHeld2 => ?_)
    clear hK K hHeld
    have hHeld := hHeld2
    clear hHeld2
    try simp only [Act.put, List.setIfInBounds_toArray, List.set_cons_zero, List.set_cons_succ]
    refine wpAnyH_take (i := 8) (oi := { dst := some 4, op := Go.Op.assign (Go.Operand.tmp 55), type := 27, pos := "record.go:91", after := #[{ on := 7, ground := Go.Ground.data }, { on := 7, ground := Go.Ground.chain }, { on := 0, ground := Go.Ground.phase }, { on := 1, ground := Go.Ground.phase }, { on := 2, ground := Go.Ground.phase }, { on := 3, ground := Go.Ground.phase }, { on := 4, ground := Go.Ground.phase }, { on := 5, ground := Go.Ground.phase }, { on := 6, ground := Go.Ground.phase }, { on := 7, ground := Go.Ground.phase }], guard := none }) (v := ?_) rfl (by kernel_rfl) (by kernel_rfl) (by kernel_rfl) (fun _ _ _ h => h) (Or.inl ⟨by rfl, ?hy8_19⟩) (by assumption) ?rest8_19
    case hy8_19 => (intro w hSw; go_simp; try with_reducible rfl)
    try simp only [Act.put, List.setIfInBounds_toArray, List.set_cons_zero, List.set_cons_succ]
    refine wpAnyH_done (by kernel_rfl) ?_ _
    refine NoPanic.normal ?_
    try simp only [Act.put, List.setIfInBounds_toArray, List.set_cons_zero, List.set_cons_succ]
    have hb6 := hHeld.2
    have f6 : Fresh w3 v5 := fun b e => Nat.le_trans hb4.size (f5 b e)
    have o6 := Lib.hid o5
    clear hHeld o4 o5 hb4 hb5 f4 f5
    go_wp2
    go_ret2
    exact ⟨_, rfl, by rw [show enc (⟨5, by', sz, obj, hi, lo, gv, rt, off, n, da, ix, gi⟩ : Cl) = ([] ++ le 1 5 ++ le 2 by') ++ (mvB (⟨5, by', sz, obj, hi, lo, gv, rt, off, n, da, ix, gi⟩ : Cl) ++ le 4 (s32 n)) by simp [enc, bodyB, List.append_assoc]]; exact (by rw [← List.append_assoc]; exact o6.out), HW3.out.trans (hb6.mono HW3.out.size), fun b e => Nat.le_trans HW3.out.size (f6 b e)⟩
  · -- 6
    obtain ⟨Ad, cd, rfl⟩ : SL D da.length := HD.out.sl
    have y0 : w3.cell? ⟨B, 0, none⟩ = some (.int .i64 6) := cell_row HR3.out rfl
    have HM := Lib.hid (fun a va (ha : OB a va ([] ++ le 1 6 ++ le 2 by')) => moved_any a va _ (⟨6, by', sz, obj, hi, lo, gv, rt, off, n, da, ix, gi⟩ : Cl) (.slice Ad da.length cd) G HX.out.2.2.2.1.1 HX.out.2.2.2.1.2 HH.out.1 HH.out.2 HX.out.2.1.1 HX.out.2.1.2 (by simp [le_len]) ha.reads)
    unfold cv cells at HM
    simp only at HM
    have ST : Hid (w3.drew.heap[B]? = some (.cells #[.int .i64 6, .int .i64 by', .int .i64 sz, .int .i64 obj, .int .u64 hi, .int .u64 lo, .bool gv, .int .i64 rt, .int .i64 off, .int .i64 n, .slice Ad da.length cd, .int .i64 ix, G] 30) ∧ Below w3.heap.size w3 w3.drew) := ⟨HR3.out, (Below.refl _ _).drew⟩
    have KEEP : Hid (∀ a b, Below a.heap.size a b → (a.heap[B]? = some (.cells #[.int .i64 6, .int .i64 by', .int .i64 sz, .int .i64 obj, .int .u64 hi, .int .u64 lo, .bool gv, .int .i64 rt, .int .i64 off, .int .i64 n, .slice Ad da.length cd, .int .i64 ix, G] 30) ∧ Below w3.heap.size w3 a) → (b.heap[B]? = some (.cells #[.int .i64 6, .int .i64 by', .int .i64 sz, .int .i64 obj, .int .u64 hi, .int .u64 lo, .bool gv, .int .i64 rt, .int .i64 off, .int .i64 n, .slice Ad da.length cd, .int .i64 ix, G] 30) ∧ Below w3.heap.size w3 b)) := fun a b h ⟨k1, k2⟩ => ⟨row_on h k1, k2.trans (h.mono k2.size)⟩
    go_wp2_with fail
    refine wp_region_noPanic ?_
    refine wp_region_held_drew (S := fun w' => w'.heap[B]? = some (.cells #[.int .i64 6, .int .i64 by', .int .i64 sz, .int .i64 obj, .int .u64 hi, .int .u64 lo, .bool gv, .int .i64 rt, .int .i64 off, .int .i64 n, .slice Ad da.length cd, .int .i64 ix, G] 30) ∧ Below w3.heap.size w3 w') (by kernel_rfl) (ST.out) (fun hHeld => ?_)
    refine wpAnyH_take (i := 0) (oi := { dst := some 58, op := Go.Op.move (Go.Operand.tmp 4), type := 27, pos := "record.go:93", after := #[], guard := none }) (v := ?_) rfl (by kernel_rfl) (by kernel_rfl) (by kernel_rfl) (fun _ _ _ h => h) (Or.inl ⟨by rfl, ?hy0_20⟩) (by assumption) ?rest0_20
    case hy0_20 => (intro w hSw; go_simp; try with_reducible rfl)
    try simp only [Act.put, List.setIfInBounds_toArray, List.set_cons_zero, List.set_cons_succ]
    refine wpAnyH_take (i := 1) (oi := { dst := some 59, op := Go.Op.load 30 (Go.Operand.tmp 1), type := 30, pos := "record.go:93", after := #[], guard := none }) (v := .agg #[.int .i64 6, .int .i64 by', .int .i64 sz, .int .i64 obj, .int .u64 hi, .int .u64 lo, .bool gv, .int .i64 rt, .int .i64 off, .int .i64 n, .slice Ad da.length cd, .int .i64 ix, G]) rfl (by kernel_rfl) (by kernel_rfl) (by kernel_rfl) (fun _ _ _ h => h) (yieldsIf_load_mid (by rfl) 30 (.tmp 1) rfl B 0 rfl [.int .i64 6, .int .i64 by', .int .i64 sz, .int .i64 obj, .int .u64 hi, .int .u64 lo, .bool gv, .int .i64 rt, .int .i64 off, .int .i64 n, .slice Ad da.length cd, .int .i64 ix, G] _ (fun w hSw => range_row hSw.1 (by rfl)) Try.underlying30 rfl info30) (by assumption) ?_
    try simp only [Act.put, List.setIfInBounds_toArray, List.set_cons_zero, List.set_cons_succ]
    refine wpAnyH_take (i := 3) (oi := { dst := some 61, op := Go.Op.fieldAddr 30 (Go.Operand.tmp 1) 8, type := 0, pos := "record.go:93", after := #[], guard := none }) (v := ?_) rfl (by kernel_rfl) (by kernel_rfl) (by kernel_rfl) (fun _ _ _ h => h) (Or.inl ⟨by rfl, ?hy3_21⟩) (by assumption) ?rest3_21
    case hy3_21 => (intro w hSw; go_simp; try with_reducible rfl)
    try simp only [Act.put, List.setIfInBounds_toArray, List.set_cons_zero, List.set_cons_succ]
    refine wpAnyH_take (i := 4) (oi := { dst := some 62, op := Go.Op.load 27 (Go.Operand.tmp 61), type := 27, pos := "record.go:93", after := #[{ on := 3, ground := Go.Ground.data }], guard := none }) (v := ?_) rfl (by kernel_rfl) (by kernel_rfl) (by kernel_rfl) (fun _ _ _ h => h) (Or.inl ⟨by rfl, ?hy4_22⟩) (by assumption) ?rest4_22
    case hy4_22 => (intro w hSw; have z := cell_row (j := 10) hSw.1 rfl; go_simp; try with_reducible rfl)
    try simp only [Act.put, List.setIfInBounds_toArray, List.set_cons_zero, List.set_cons_succ]
    refine wpAnyH_ready (rs := [2]) (by kernel_rfl) (by simp) ?_
    refine AllReadyH.cons (o := { dst := some 60, op := Go.Op.call { callee := Go.Callee.value (Go.Operand.func 29), args := #[Go.Operand.tmp 58, Go.Operand.tmp 59], argTypes := #[27, 30] }, type := 27, pos := "record.go:93", after := #[{ on := 0, ground := Go.Ground.data }, { on := 1, ground := Go.Ground.data }], guard := none }) rfl (fun K hK => ?_) AllReadyH.nil
    go_simp
    go_at_call 29
    (refine (HM.out _ _ (O3.out.below hHeld.2)).mono ?_)
    rintro e w4 ⟨v4, rfl, o4, hb4, f4⟩
    obtain ⟨A4, n4, c4, rfl⟩ : ∃ A n c, v4 = .slice A n c := by obtain ⟨A, c, e, _⟩ := own_slice o4; exact ⟨_, _, _, e⟩
    refine hK.out _ _ (KEEP.out _ _ hb4 hHeld) (fun hHeld2 => ?_)
    clear hK K hHeld
    have hHeld := hHeld2
    clear hHeld2
    try simp only [Act.put, List.setIfInBounds_toArray, List.set_cons_zero, List.set_cons_succ]
    refine wpAnyH_ready (rs := [5]) (by kernel_rfl) (by simp) ?_
    refine AllReadyH.cons (o := { dst := some 63, op := Go.Op.buildSlice 59 2 #[(0, Go.Operand.tmp 60), (1, Go.Operand.tmp 62)], type := 59, pos := "record.go:93", after := #[{ on := 2, ground := Go.Ground.data }, { on := 4, ground := Go.Ground.data }], guard := none }) rfl (fun K hK => ?_) AllReadyH.nil
    go_simp
    have hx0 := hHeld
    have hx := hHeld.2
    refine hK.out _ _ (KEEP.out w4 _ ((Below.refl _ w4).alloc (Nat.le_refl _) (.cells #[.slice A4 n4 c4, .slice Ad da.length cd] 27)) hHeld) (fun hHeld2 => ?_)
    clear hK K hHeld
    have hHeld := hHeld2
    clear hHeld2
    try simp only [Act.put, List.setIfInBounds_toArray, List.set_cons_zero, List.set_cons_succ]
    refine wpAnyH_ready (rs := [6]) (by kernel_rfl) (by simp) ?_
    refine AllReadyH.cons (o := { dst := some 64, op := Go.Op.call { callee := Go.Callee.value (Go.Operand.func 30), args := #[Go.Operand.tmp 63], argTypes := #[59] }, type := 27, pos := "record.go:93", after := #[{ on := 5, ground := Go.Ground.data }, { on := 2, ground := Go.Ground.chain }], guard := none }) rfl (fun K hK => ?_) AllReadyH.nil
    go_simp
    go_at_call 30
    (refine (join2_g w4 (.slice A4 n4 c4) (.slice Ad da.length cd) (([] ++ le 1 6 ++ le 2 by') ++ mvB (⟨6, by', sz, obj, hi, lo, gv, rt, off, n, da, ix, gi⟩ : Cl)) da 27 (by simp [le_len, mvB, wordB]; have := HX.out.2.2.2.2.2.2.2; omega) o4.reads ((HD.out.below HW3.out).below hx)).mono ?_)
    rintro e w5 ⟨v5, rfl, o5, hb5, f5⟩
    refine hK.out _ _ (KEEP.out w4 _ hb5 hx0) (fun hHeld2 => ?_)
    clear hK K hHeld
    have hHeld := hHeld2
    clear hHeld2
    try simp only [Act.put, List.setIfInBounds_toArray, List.set_cons_zero, List.set_cons_succ]
    refine wpAnyH_take (i := 7) (oi := { dst := some 4, op := Go.Op.assign (Go.Operand.tmp 64), type := 27, pos := "record.go:93", after := #[{ on := 6, ground := Go.Ground.data }, { on := 6, ground := Go.Ground.chain }, { on := 0, ground := Go.Ground.phase }, { on := 1, ground := Go.Ground.phase }, { on := 2, ground := Go.Ground.phase }, { on := 3, ground := Go.Ground.phase }, { on := 4, ground := Go.Ground.phase }, { on := 5, ground := Go.Ground.phase }, { on := 6, ground := Go.Ground.phase }], guard := none }) (v := ?_) rfl (by kernel_rfl) (by kernel_rfl) (by kernel_rfl) (fun _ _ _ h => h) (Or.inl ⟨by rfl, ?hy7_23⟩) (by assumption) ?rest7_23
    case hy7_23 => (intro w hSw; go_simp; try with_reducible rfl)
    try simp only [Act.put, List.setIfInBounds_toArray, List.set_cons_zero, List.set_cons_succ]
    refine wpAnyH_done (by kernel_rfl) ?_ _
    refine NoPanic.normal ?_
    try simp only [Act.put, List.setIfInBounds_toArray, List.set_cons_zero, List.set_cons_succ]
    have hb6 := hHeld.2
    have f6 : Fresh w3 v5 := fun b e => Nat.le_trans hx.size (f5 b e)
    have o6 := Lib.hid o5
    clear hHeld o4 o5 hb4 hb5 f4 f5
    go_wp2
    go_ret2
    exact ⟨_, rfl, by rw [show enc (⟨6, by', sz, obj, hi, lo, gv, rt, off, n, da, ix, gi⟩ : Cl) = ([] ++ le 1 6 ++ le 2 by') ++ (mvB (⟨6, by', sz, obj, hi, lo, gv, rt, off, n, da, ix, gi⟩ : Cl) ++ da) by simp [enc, bodyB, List.append_assoc]]; exact (by rw [← List.append_assoc]; exact o6.out), HW3.out.trans (hb6.mono HW3.out.size), fun b e => Nat.le_trans HW3.out.size (f6 b e)⟩
  · -- 7
    have y0 : w3.cell? ⟨B, 0, none⟩ = some (.int .i64 7) := cell_row HR3.out rfl
    have y3 : w3.cell? ⟨B, 3, none⟩ = some (.int .i64 obj) := cell_row HR3.out rfl
    have y4 : w3.cell? ⟨B, 4, none⟩ = some (.int .u64 hi) := cell_row HR3.out rfl
    have y5 : w3.cell? ⟨B, 5, none⟩ = some (.int .u64 lo) := cell_row HR3.out rfl
    have P4 := Lib.hid (fun a va (ha : OB a va ([] ++ le 1 7 ++ le 2 by')) => capable_any a va _ obj hi lo HX.out.2.2.2.1.1 HX.out.2.2.2.1.2 HH.out.1 HH.out.2 (by simp [le_len]) ha.reads)
    go_wp2_with (first | (go_at_call 28; (with_reducible refine (P4.out _ _ O3.out).mono ?_); rintro e w4 ⟨v4, rfl, o4, hb4, f4⟩) | fail)
    go_ret2
    exact ⟨_, rfl, by rw [show enc (⟨7, by', sz, obj, hi, lo, gv, rt, off, n, da, ix, gi⟩ : Cl) = ([] ++ le 1 7 ++ le 2 by') ++ capB obj hi lo by simp [enc, bodyB, List.append_assoc]]; exact o4, HW3.out.trans (hb4.mono HW3.out.size), fun b e => Nat.le_trans HW3.out.size (f4 b e)⟩
  · -- 8
    have y0 : w3.cell? ⟨B, 0, none⟩ = some (.int .i64 8) := cell_row HR3.out rfl
    have y11 : w3.cell? ⟨B, 11, none⟩ = some (.int .i64 ix) := cell_row HR3.out rfl
    have P4 := Lib.hid (fun a va (ha : OB a va ([] ++ le 1 8 ++ le 2 by')) => put2_g a va _ ix HX.out.2.2.2.2.2.1.1 (by have := HX.out.2.2.2.2.2.1.2; omega) (by simp [le_len]) ha.reads)
    go_wp2_with (first | (go_at_call 25; (with_reducible refine (P4.out _ _ O3.out).mono ?_); rintro e w4 ⟨v4, rfl, o4, hb4, f4⟩) | fail)
    go_ret2
    exact ⟨_, rfl, by rw [show enc (⟨8, by', sz, obj, hi, lo, gv, rt, off, n, da, ix, gi⟩ : Cl) = ([] ++ le 1 8 ++ le 2 by') ++ le 2 ix by simp [enc, bodyB, List.append_assoc]]; exact o4, HW3.out.trans (hb4.mono HW3.out.size), fun b e => Nat.le_trans HW3.out.size (f4 b e)⟩
  · -- 9
    obtain ⟨ng, hng⟩ : ∃ ng, gi.length = ng := ⟨_, rfl⟩
    obtain ⟨Ag, cg, rfl, hgc, hgm, hgr⟩ := HG.out
    rw [hng] at hgc hgr
    simp only [hng] at HR3
    clear HG
    have HGR := Lib.hid hgr
    have HNG := Lib.hid hng
    clear hgr
    have y0 : w3.cell? ⟨B, 0, none⟩ = some (.int .i64 9) := cell_row HR3.out rfl
    have y12 : w3.cell? ⟨B, 12, none⟩ = some (.slice Ag ng cg) := cell_row HR3.out rfl
    have hgl9 : ng ≤ 255 := by rw [← hng]; exact HX.out.2.2.2.2.2.2.1
    have hwg : IntKind.u8.wrap (ng : Int) = (ng : Int) := by rw [IntKind.wrap_u8]; omega
    simp only [hng]
    clear hng
    have P4 := Lib.hid (fun a va (ha : OB a va ([] ++ le 1 9 ++ le 2 by')) => put1_g a va _ (ng : Int) (by omega) (by omega) (by simp [le_len]) ha.reads)
    have HRR : Hid (∀ a, Below w3.heap.size w3 a → a.heap[B]? = some (.cells #[.int .i64 9, .int .i64 by', .int .i64 sz, .int .i64 obj, .int .u64 hi, .int .u64 lo, .bool gv, .int .i64 rt, .int .i64 off, .int .i64 n, D, .int .i64 ix, .slice Ag ng cg] 30)) := fun a ha => row_on ha HR3.out
    go_wp2_with (first | (go_at_call 26; (with_reducible refine (P4.out _ _ O3.out).mono ?_); rintro e w4 ⟨v4, rfl, o4, hb4, f4⟩; have O4 := Lib.hid o4; have HB4 := Lib.hid hb4; have F4 := Lib.hid f4; have y12 : w4.cell? ⟨B, 12, none⟩ = some (.slice Ag ng cg) := cell_row (HRR.out _ hb4) rfl; clear o4 hb4 f4) | fail)
    go_loopw [4, 6, 83] (fun v4 v6 v83 we => ∃ (i : Nat), i ≤ ng ∧ v83 = .int .i64 i ∧ Hid (OB we v4 (([] ++ le 1 9 ++ le 2 by') ++ le 1 ng ++ giB (gi.take i)) ∧ Below w3.heap.size w3 we ∧ Fresh w3 v4)) (fun _ _ v83 _ => ng - (intOf v83).toNat)
    case atStart => exact ⟨0, by omega, rfl, by rw [List.take_zero]; show OB w4 v4 (_ ++ []); rw [List.append_nil]; exact O4.out, HB4.out, F4.out⟩
    case round =>
      obtain ⟨i, hile, rfl, HO⟩ := hrel
      by_cases hlt : i < ng
      · have hlt' : (i : Int) < (ng : Int) := by omega
        obtain ⟨u, hu⟩ : ∃ u, gi[i]? = some u := ⟨_, List.getElem?_eq_getElem (by show i < gi.length; rw [HNG.out]; exact hlt)⟩
        have HU := Lib.hid hu
        obtain ⟨g0, o0, hA, hc⟩ := HGR.out (by omega)
        subst hA
        have hy := hc i u hu
        have hlt2 := World.block_lt_of_cell? w _ hy
        have hy2 : wr.cell? ⟨g0, o0 + i, none⟩ = some (.int .i64 u) := ((HW3.out.trans (HO.out.2.1.mono HW3.out.size)).cell hlt2).trans hy
        have hur := HGG.out u (List.mem_of_getElem? hu)
        have hwu : IntKind.u16.wrap u = u := by rw [IntKind.wrap_u16]; omega
        have HUR := Lib.hid hur
        have HP := Lib.hid (fun va (ha : OB wr va (([] ++ le 1 9 ++ le 2 by') ++ le 1 ng ++ giB (gi.take i))) => put2_g wr va _ u HUR.out.1 (by have := HUR.out.2; omega) (by simp [le_len, gi_len]; omega) ha.reads)
        clear hc hu hy hlt2 hur
        go_wp2_with (first | (go_at_call 25; (with_reducible refine (HP.out _ HO.out.1).mono ?_); rintro e w5 ⟨v5, rfl, o5, hb5, f5⟩) | fail)
        exact ⟨⟨i + 1, by omega, rfl, by rw [gi_take HU.out, ← List.append_assoc]; exact o5, HO.out.2.1.trans (hb5.mono HO.out.2.1.size), fun b e => Nat.le_trans HO.out.2.1.size (f5 b e)⟩, by simp [intOf]; omega⟩
      · obtain rfl : i = ng := by omega
        have HT : Hid (gi.take i = gi) := List.take_of_length_le (by rw [HNG.out]; exact Nat.le_refl _)
        rw [HT.out] at HO
        go_wp2
        go_ret2
        exact ⟨_, rfl, by rw [show enc (⟨9, by', sz, obj, hi, lo, gv, rt, off, n, da, ix, gi⟩ : Cl) = ([] ++ le 1 9 ++ le 2 by') ++ le 1 i ++ giB gi by simp [enc, bodyB, HNG.out, List.append_assoc]]; exact HO.out.1, HW3.out.trans (HO.out.2.1.mono HW3.out.size), fun b e => Nat.le_trans HW3.out.size (HO.out.2.2 b e)⟩
  · -- 10
    have y0 : w3.cell? ⟨B, 0, none⟩ = some (.int .i64 10) := cell_row HR3.out rfl
    go_wp2
    go_ret2
    exact ⟨_, rfl, by rw [show enc (⟨10, by', sz, obj, hi, lo, gv, rt, off, n, da, ix, gi⟩ : Cl) = ([] ++ le 1 10 ++ le 2 by') by simp [enc, bodyB, List.append_assoc]]; exact O3.out, by have h := HW3.out; rwa [HBB.out] at h, F3.out⟩
set_option maxHeartbeats 4000000 in
set_option maxRecDepth 100000 in
theorem bytes_no (w : World) (c : Cl) (D G : Value) (hD : SL D c.da.length) (hG : IB w G c.gi) (hgl : c.gi.length ≤ 9223372036854775807) (hf : ¬ form c) :
    Calls Try.prog 9 #[cv c D G] w fun e w' => e = .returned (.tuple #[.slice none 0 0, .int .i64 1]) ∧ Below w.heap.size w w' := by
  have HF := Lib.hid (fun a (ha : Below w.heap.size w a) => by
    have := formed_any a c D G hD (hG.below ha) hgl
    rwa [decide_eq_false hf] at this)
  have HBX := Lib.hid (fun R => (Below.refl w.heap.size w).alloc (Nat.le_refl _) (.cells R 30))
  clear hD hG hf hgl
  obtain ⟨op, by', sz, obj, hi, lo, gv, rt, off, n, da, ix, gi⟩ := c
  unfold cv cells at HF ⊢
  simp only at HF ⊢
  go_enter Try.func9, Try.ntmps9
  go_wp2_with (first | (go_at_call 24; (with_reducible refine (HF.out _ (HBX.out _)).mono ?_); rintro e w1 ⟨rfl, hb1⟩; have HB := Lib.hid hb1; clear hb1) | fail)
  go_ret2
  exact ⟨rfl, (HBX.out _).trans (HB.out.mono (HBX.out _).size)⟩
/-- What Bytes answers. -/
def encO (c : Cl) : List Int := if form c then enc c else []
def encE (c : Cl) : Int := if form c then 0 else 1
theorem bytes_any (w : World) (c : Cl) (D G : Value) (hD : RB w D c.da) (hG : IB w G c.gi) (hgl : c.gi.length ≤ 9223372036854775807) (hh : U64 c.hi) (hl : U64 c.lo) :
    Calls Try.prog 9 #[cv c D G] w fun e w' => ∃ v, e = .returned (.tuple #[v, .int .i64 (encE c)]) ∧ OB w' v (encO c) ∧ Below w.heap.size w w' ∧ Fresh w v := by
  by_cases hf : form c
  · unfold encE encO
    rw [if_pos hf, if_pos hf]
    exact bytes_ok w c D G hD hG hh hl hf
  · unfold encE encO
    rw [if_neg hf, if_neg hf]
    exact (bytes_no w c D G hD.sl hG hgl hf).mono (fun e w' ⟨h1, h2⟩ => ⟨_, h1, OB.nil _, h2, fun b e => by simp [Value.ownBlock] at e⟩)
end Go.Proofs.Ytfpkdbogapmhmaa.O

/- Record: the law's call that has a form (written by gen_rdh.py). -/
import Derived.Test.YtfpkdbogapmhmaaRdI
import Derived.Test.YtfpkdbogapmhmaaRdQ
import Derived.Test.YtfpkdbogapmhmaaRcY0
namespace Go.Proofs.Ytfpkdbogapmhmaa.O
open Go.RowKit Go.Proofs.Ytfpkdbogapmhmaa.Mem
set_option linter.unusedVariables false
set_option linter.unusedSimpArgs false
/-- A call's box, a result's box, a second call's box, all else as it was. -/
structure G3 (w : World) (RC R C : Array Value) (W : World) : Prop where
  cb : W.heap[w.heap.size]? = some (.cells RC 30)
  res : W.heap[w.heap.size + 1]? = some (.cells R 30)
  box : W.heap[w.heap.size + 2]? = some (.cells C 30)
  below : Below w.heap.size w W
/-- And a capability's box. -/
structure G4 (w : World) (RC R C X : Array Value) (W : World) : Prop where
  cb : W.heap[w.heap.size]? = some (.cells RC 30)
  res : W.heap[w.heap.size + 1]? = some (.cells R 30)
  box : W.heap[w.heap.size + 2]? = some (.cells C 30)
  xb : W.heap[w.heap.size + 3]? = some (.cells X 26)
  below : Below w.heap.size w W
  size : w.heap.size + 4 ≤ W.heap.size
section
variable {w W W' : World} {RC R C X : Array Value}
theorem G4.on (h : G4 w RC R C X W) (hb : Below W.heap.size W W') : G4 w RC R C X W' :=
  ⟨row_on hb h.cb, row_on hb h.res, row_on hb h.box, row_on hb h.xb, h.below.trans (hb.mono h.below.size), Nat.le_trans h.size hb.size⟩
theorem G4.far {S : Nat → Prop} (h : G4 w RC R C X W) (k : Kept S W W') (hS : ∀ b, S b → w.heap.size + 4 ≤ b) : G4 w RC R C X W' :=
  ⟨(k.block _ (lt_of_row h.cb) (fun e => by have := hS _ e; omega)).trans h.cb, (k.block _ (lt_of_row h.res) (fun e => by have := hS _ e; omega)).trans h.res, (k.block _ (lt_of_row h.box) (fun e => by have := hS _ e; omega)).trans h.box, (k.block _ (lt_of_row h.xb) (fun e => by have := hS _ e; omega)).trans h.xb, h.below.trans (k.below (fun x hx => by have := hS _ hx; omega) h.below.size), Nat.le_trans h.size k.size⟩
theorem G4.set1 (h : G4 w RC R C X W) (j : Nat) (v : Value) : G4 w RC R (C.setIfInBounds j v) X (W.setCell ⟨w.heap.size + 2, j, none⟩ v) := by
  have k : Kept (fun b => b = w.heap.size + 2) W (W.setCell ⟨w.heap.size + 2, j, none⟩ v) := (Kept.refl (fun b => b = w.heap.size + 2) W).setCell (p := ⟨w.heap.size + 2, j, none⟩) (.inl rfl) v
  exact ⟨(k.block _ (lt_of_row h.cb) (by omega)).trans h.cb, (k.block _ (lt_of_row h.res) (by omega)).trans h.res, heap_setCell_same _ _ _ _ _ _ h.box, (k.block _ (lt_of_row h.xb) (by omega)).trans h.xb, h.below.trans (k.below (fun x hx => by have h3 : x = w.heap.size + 2 := hx; omega) h.below.size), Nat.le_trans h.size k.size⟩
theorem G4.fin (h : G4 w RC R C X W) (R' : Array Value) : (W.setRow (w.heap.size + 1) R').heap[w.heap.size + 1]? = some (.cells R' 30) ∧ Below w.heap.size w (W.setRow (w.heap.size + 1) R') ∧ Kept (fun b => b = w.heap.size + 1) W (W.setRow (w.heap.size + 1) R') := by
  have k := (Kept.refl (fun b => b = w.heap.size + 1) W).setRow (.inl rfl) R'
  exact ⟨setRow_heap _ _ _ _ _ _ h.res, h.below.trans (k.below (fun x hx => by have h3 : x = w.heap.size + 1 := hx; omega) h.below.size), k⟩
end
/-- The numbers of a call are numbers of 64 bits. -/
structure I64C (c : Cl) : Prop where
  op : -9223372036854775808 ≤ c.op ∧ c.op ≤ 9223372036854775807
  by' : -9223372036854775808 ≤ c.by' ∧ c.by' ≤ 9223372036854775807
  sz : -9223372036854775808 ≤ c.sz ∧ c.sz ≤ 9223372036854775807
  obj : -9223372036854775808 ≤ c.obj ∧ c.obj ≤ 9223372036854775807
  rt : -9223372036854775808 ≤ c.rt ∧ c.rt ≤ 9223372036854775807
  off : -9223372036854775808 ≤ c.off ∧ c.off ≤ 9223372036854775807
  n : -9223372036854775808 ≤ c.n ∧ c.n ≤ 9223372036854775807
  ix : -9223372036854775808 ≤ c.ix ∧ c.ix ≤ 9223372036854775807
  gi : ∀ g ∈ c.gi, -9223372036854775808 ≤ g ∧ g ≤ 9223372036854775807
def FD (c : Cl) (w : World) (e : Ending) (w' : World) : Prop := ∃ D' G', e = .returned (cv (formC c) D' G') ∧ RB w' D' (formC c).da ∧ OI w' G' (formC c).gi ∧ Below w.heap.size w w' ∧ Fresh w G'
theorem info26t : (Try.prog.info? 26).map (·.size) = some 3 := by kernel_rfl
set_option maxHeartbeats 4000000 in
set_option maxRecDepth 100000 in
theorem lformed_any (w : World) (c : Cl) (D G : Value) (hD : RB w D c.da) (hG : IB w G c.gi) (hB : I64C c) : Calls Try.prog 20 #[cv c D G] w fun e w' => FD c w e w' := by
  suffices ∀ R : Ending → World → Prop, (∀ e w', FD c w e w' → R e w') → Calls Try.prog 20 #[cv c D G] w R from this _ (fun _ _ h => h)
  intro R HR
  replace HR := Lib.hid HR
  obtain ⟨op, by0, sz, obj, hi, lo, gv, rt, off, n, da, ix, gi⟩ := c
  obtain ⟨Ad, cd, rfl⟩ : SL D da.length := hD.sl
  obtain ⟨Ag, cg, rfl⟩ : SL G gi.length := hG.sl
  obtain ⟨nd, hnd⟩ : ∃ x, da.length = x := ⟨_, rfl⟩
  obtain ⟨ng, hng⟩ : ∃ x, gi.length = x := ⟨_, rfl⟩
  have HB64 := Lib.hid hB
  have hcd0 : nd ≤ cd := by obtain ⟨A, k, e, h1, _⟩ := hD; cases e; rw [← hnd]; exact h1
  have HAG : Hid (0 < ng → ∃ g o, Ag = some ⟨g, o, none⟩ ∧ ∀ y, Below w.heap.size w y → ∀ j u, gi[j]? = some u → y.cell? ⟨g, o + j, none⟩ = some (.int .i64 u)) := Lib.hid (fun hp => by
    obtain ⟨A, k, e, h1, h2, h3⟩ := hG
    cases e
    obtain ⟨g, o, rfl, _⟩ := h3 (by simp only; omega)
    refine ⟨g, o, rfl, fun y hb j u hu => ?_⟩
    obtain ⟨A', k', e', _, _, h3'⟩ := IB.below ⟨_, _, rfl, h1, h2, h3⟩ hb
    cases e'
    obtain ⟨g', o', e', h4⟩ := h3' (by simp only; omega)
    cases e'
    exact h4 j u hu)
  simp only at hD hG HB64
  have HNG := Lib.hid hng
  have HND := Lib.hid hnd
  rw [hnd] at hD ⊢
  rw [hng]
  have HDR := Lib.hid hD
  obtain ⟨m, hm⟩ : ∃ x, op % 10 = x := ⟨_, rfl⟩
  obtain ⟨b, hb⟩ : ∃ x, by0 % 65536 = x := ⟨_, rfl⟩
  obtain ⟨ob, hx⟩ : ∃ x, obj % 4611686018427387904 = x := ⟨_, rfl⟩
  have I1 := Lib.hid (fun a => by have := into_any a op 10 hB.op.1 hB.op.2 (by decide) (by decide); rwa [hm] at this)
  have I2 := Lib.hid (fun a => by have := into_any a by0 65536 hB.by'.1 hB.by'.2 (by decide) (by decide); rwa [hb] at this)
  have I3 := Lib.hid (fun a => by have := into_any a obj 4611686018427387904 hB.obj.1 hB.obj.2 (by decide) (by decide); rwa [hx] at this)
  obtain ⟨o, ho⟩ : ∃ x, 1 + m = x := ⟨_, rfl⟩
  have hwo : IntKind.i64.wrap (1 + m) = o := by rw [IntKind.wrap_i64]; omega
  have HO : Hid (1 + op % 10 = o) := Lib.hid (by rw [hm]; exact ho)
  have HBY := Lib.hid hb
  have HX := Lib.hid hx
  have HG0 : Hid (((w.alloc (.cells #[.int .i64 op, .int .i64 by0, .int .i64 sz, .int .i64 obj, .int .u64 hi, .int .u64 lo, .bool gv, .int .i64 rt, .int .i64 off, .int .i64 n, .slice Ad nd cd, .int .i64 ix, .slice Ag ng cg] 30)).alloc (.cells #[.int .i64 0, .int .i64 0, .int .i64 0, .int .i64 0, .int .u64 0, .int .u64 0, .bool false, .int .i64 0, .int .i64 0, .int .i64 0, .slice none 0 0, .int .i64 0, .slice none 0 0] 30)).heap[w.heap.size]? = some (.cells #[.int .i64 op, .int .i64 by0, .int .i64 sz, .int .i64 obj, .int .u64 hi, .int .u64 lo, .bool gv, .int .i64 rt, .int .i64 off, .int .i64 n, .slice Ad nd cd, .int .i64 ix, .slice Ag ng cg] 30) ∧ ((w.alloc (.cells #[.int .i64 op, .int .i64 by0, .int .i64 sz, .int .i64 obj, .int .u64 hi, .int .u64 lo, .bool gv, .int .i64 rt, .int .i64 off, .int .i64 n, .slice Ad nd cd, .int .i64 ix, .slice Ag ng cg] 30)).alloc (.cells #[.int .i64 0, .int .i64 0, .int .i64 0, .int .i64 0, .int .u64 0, .int .u64 0, .bool false, .int .i64 0, .int .i64 0, .int .i64 0, .slice none 0 0, .int .i64 0, .slice none 0 0] 30)).heap[w.heap.size + 1]? = some (.cells #[.int .i64 0, .int .i64 0, .int .i64 0, .int .i64 0, .int .u64 0, .int .u64 0, .bool false, .int .i64 0, .int .i64 0, .int .i64 0, .slice none 0 0, .int .i64 0, .slice none 0 0] 30) ∧ Below w.heap.size w ((w.alloc (.cells #[.int .i64 op, .int .i64 by0, .int .i64 sz, .int .i64 obj, .int .u64 hi, .int .u64 lo, .bool gv, .int .i64 rt, .int .i64 off, .int .i64 n, .slice Ad nd cd, .int .i64 ix, .slice Ag ng cg] 30)).alloc (.cells #[.int .i64 0, .int .i64 0, .int .i64 0, .int .i64 0, .int .u64 0, .int .u64 0, .bool false, .int .i64 0, .int .i64 0, .int .i64 0, .slice none 0 0, .int .i64 0, .slice none 0 0] 30)) ∧ ((w.alloc (.cells #[.int .i64 op, .int .i64 by0, .int .i64 sz, .int .i64 obj, .int .u64 hi, .int .u64 lo, .bool gv, .int .i64 rt, .int .i64 off, .int .i64 n, .slice Ad nd cd, .int .i64 ix, .slice Ag ng cg] 30)).alloc (.cells #[.int .i64 0, .int .i64 0, .int .i64 0, .int .i64 0, .int .u64 0, .int .u64 0, .bool false, .int .i64 0, .int .i64 0, .int .i64 0, .slice none 0 0, .int .i64 0, .slice none 0 0] 30)).heap.size = w.heap.size + 2) := Lib.hid ⟨row_on ((Below.refl _ _).alloc (Nat.le_refl _) _) (row_new rfl), row_new (by simp), ((Below.refl _ w).alloc (Nat.le_refl _) _).alloc (by simp) _, by simp⟩
  unfold cv cells
  simp only
  clear hD hG hB hnd hng hm hb hx ho
  go_enter Try.func20, Try.ntmps20
  go_upto_region 1 with fail
  generalize (w.alloc (.cells #[.int .i64 op, .int .i64 by0, .int .i64 sz, .int .i64 obj, .int .u64 hi, .int .u64 lo, .bool gv, .int .i64 rt, .int .i64 off, .int .i64 n, .slice Ad nd cd, .int .i64 ix, .slice Ag ng cg] 30)).alloc (.cells #[.int .i64 0, .int .i64 0, .int .i64 0, .int .i64 0, .int .u64 0, .int .u64 0, .bool false, .int .i64 0, .int .i64 0, .int .i64 0, .slice none 0 0, .int .i64 0, .slice none 0 0] 30) = W0 at HG0 ⊢
  go_cut [3] from 7 to 15 (fun v3 wc => v3 = .pointer (some ⟨w.heap.size + 2, 0, none⟩) ∧ Hid (G3 w #[.int .i64 op, .int .i64 by0, .int .i64 sz, .int .i64 obj, .int .u64 hi, .int .u64 lo, .bool gv, .int .i64 rt, .int .i64 off, .int .i64 n, .slice Ad nd cd, .int .i64 ix, .slice Ag ng cg] #[.int .i64 0, .int .i64 0, .int .i64 0, .int .i64 0, .int .u64 0, .int .u64 0, .bool false, .int .i64 0, .int .i64 0, .int .i64 0, .slice none 0 0, .int .i64 0, .slice none 0 0] #[.int .i64 o, .int .i64 b, .int .i64 0, .int .i64 0, .int .u64 0, .int .u64 0, .bool false, .int .i64 0, .int .i64 0, .int .i64 0, .slice none 0 0, .int .i64 0, .slice none 0 0] wc) ∧ Hid (wc.heap.size = w.heap.size + 3))
  case first =>
    have HD0 : Hid (W0.drew.heap.size = W0.heap.size) := Lib.hid rfl
    refine wp_region_noPanic ?_
    refine wp_region_held_drew (S := fun y => y.heap[w.heap.size]? = some (.cells #[.int .i64 op, .int .i64 by0, .int .i64 sz, .int .i64 obj, .int .u64 hi, .int .u64 lo, .bool gv, .int .i64 rt, .int .i64 off, .int .i64 n, .slice Ad nd cd, .int .i64 ix, .slice Ag ng cg] 30)) (by kernel_rfl) (HG0.out.1) (fun hHeld => ?_)
    refine wpAnyH_take (i := 0) (oi := { dst := some 7, op := Go.Op.fieldAddr 30 (Go.Operand.tmp 1) 0, type := 0, pos := "law.go:53", after := #[], guard := none }) (v := ?_) rfl (by kernel_rfl) (by kernel_rfl) (by kernel_rfl) (fun _ _ _ h => h) (Or.inl ⟨by rfl, ?hy0_10⟩) (by assumption) ?rest0_10
    case hy0_10 => (intro w hSw; go_simp; try with_reducible rfl)
    try simp only [Act.put, List.setIfInBounds_toArray, List.set_cons_zero, List.set_cons_succ]
    refine wpAnyH_take (i := 4) (oi := { dst := some 11, op := Go.Op.fieldAddr 30 (Go.Operand.tmp 1) 1, type := 0, pos := "law.go:53", after := #[], guard := none }) (v := ?_) rfl (by kernel_rfl) (by kernel_rfl) (by kernel_rfl) (fun _ _ _ h => h) (Or.inl ⟨by rfl, ?hy4_11⟩) (by assumption) ?rest4_11
    case hy4_11 => (intro w hSw; go_simp; try with_reducible rfl)
    try simp only [Act.put, List.setIfInBounds_toArray, List.set_cons_zero, List.set_cons_succ]
    refine wpAnyH_take (i := 1) (oi := { dst := some 8, op := Go.Op.load 3 (Go.Operand.tmp 7), type := 3, pos := "law.go:53", after := #[{ on := 0, ground := Go.Ground.data }], guard := none }) (v := ?_) rfl (by kernel_rfl) (by kernel_rfl) (by kernel_rfl) (fun _ _ _ h => h) (Or.inl ⟨by rfl, ?hy1_12⟩) (by assumption) ?rest1_12
    case hy1_12 => (intro w hSw; have zc := cell_row (j := 0) hSw rfl; go_simp; try with_reducible rfl)
    try simp only [Act.put, List.setIfInBounds_toArray, List.set_cons_zero, List.set_cons_succ]
    refine wpAnyH_take (i := 5) (oi := { dst := some 12, op := Go.Op.load 3 (Go.Operand.tmp 11), type := 3, pos := "law.go:53", after := #[{ on := 4, ground := Go.Ground.data }], guard := none }) (v := ?_) rfl (by kernel_rfl) (by kernel_rfl) (by kernel_rfl) (fun _ _ _ h => h) (Or.inl ⟨by rfl, ?hy5_13⟩) (by assumption) ?rest5_13
    case hy5_13 => (intro w hSw; have zc := cell_row (j := 1) hSw rfl; go_simp; try with_reducible rfl)
    try simp only [Act.put, List.setIfInBounds_toArray, List.set_cons_zero, List.set_cons_succ]
    refine wpAnyH_ready (rs := [2, 8]) (by kernel_rfl) (by simp) ?_
    refine AllReadyH.cons (o := { dst := some 9, op := Go.Op.call { callee := Go.Callee.value (Go.Operand.func 21), args := #[Go.Operand.tmp 8, Go.Operand.const (Go.Value.int Go.IntKind.i64 10)], argTypes := #[3, 3] }, type := 3, pos := "law.go:53", after := #[{ on := 1, ground := Go.Ground.data }], guard := none }) rfl (fun K hK => ?_) (AllReadyH.cons (o := { dst := some 3, op := Go.Op.alloc 30, type := 0, pos := "law.go:53", after := #[], guard := none }) rfl (fun K hK => ?_) AllReadyH.nil)
    · go_simp
      go_at_call 21
      refine (I1.out _).mono ?_
      rintro e wx ⟨rfl, rfl⟩
      refine hK.out _ _ (hHeld) (fun hHeld2 => ?_)
      clear hK K hHeld
      have hHeld := hHeld2
      clear hHeld2
      try simp only [Act.put, List.setIfInBounds_toArray, List.set_cons_zero, List.set_cons_succ]
      refine wpAnyH_take (i := 3) (oi := { dst := some 10, op := Go.Op.binOp Go.BinOp.add 3 (Go.Operand.const (Go.Value.int Go.IntKind.i64 1)) (Go.Operand.tmp 9) 3, type := 3, pos := "law.go:53", after := #[{ on := 2, ground := Go.Ground.data }], guard := none }) (v := ?_) rfl (by kernel_rfl) (by kernel_rfl) (by kernel_rfl) (fun _ _ _ h => h) (Or.inl ⟨by rfl, ?hy3_14⟩) (by assumption) ?rest3_14
      case hy3_14 => (intro w hSw; go_simp; try with_reducible rfl)
      try simp only [Act.put, List.setIfInBounds_toArray, List.set_cons_zero, List.set_cons_succ]
      refine wpAnyH_ready (rs := [6, 8]) (by kernel_rfl) (by simp) ?_
      refine AllReadyH.cons (o := { dst := some 13, op := Go.Op.call { callee := Go.Callee.value (Go.Operand.func 21), args := #[Go.Operand.tmp 12, Go.Operand.const (Go.Value.int Go.IntKind.i64 65536)], argTypes := #[3, 3] }, type := 3, pos := "law.go:53", after := #[{ on := 5, ground := Go.Ground.data }, { on := 2, ground := Go.Ground.chain }], guard := none }) rfl (fun K hK => ?_) (AllReadyH.cons (o := { dst := some 3, op := Go.Op.alloc 30, type := 0, pos := "law.go:53", after := #[], guard := none }) rfl (fun K hK => ?_) AllReadyH.nil)
      · go_simp
        go_at_call 21
        refine (I2.out _).mono ?_
        rintro e wx ⟨rfl, rfl⟩
        refine hK.out _ _ (hHeld) (fun hHeld2 => ?_)
        clear hK K hHeld
        have hHeld := hHeld2
        clear hHeld2
        try simp only [Act.put, List.setIfInBounds_toArray, List.set_cons_zero, List.set_cons_succ]
        refine wpAnyH_take (i := 7) (oi := { dst := some 14, op := Go.Op.build 30 #[(0, Go.Operand.tmp 10), (1, Go.Operand.tmp 13)], type := 30, pos := "law.go:53", after := #[{ on := 3, ground := Go.Ground.data }, { on := 6, ground := Go.Ground.data }], guard := none }) (v := ?_) rfl (by kernel_rfl) (by kernel_rfl) (by kernel_rfl) (fun _ _ _ h => h) (Or.inl ⟨by rfl, ?hy7_15⟩) (by assumption) ?rest7_15
        case hy7_15 => (intro w hSw; go_simp; try with_reducible rfl)
        try simp only [Act.put, List.setIfInBounds_toArray, List.set_cons_zero, List.set_cons_succ]
        refine wpAnyH_ready (rs := [8]) (by kernel_rfl) (by simp) ?_
        refine AllReadyH.cons (o := { dst := some 3, op := Go.Op.alloc 30, type := 0, pos := "law.go:53", after := #[], guard := none }) rfl (fun K hK => ?_) AllReadyH.nil
        go_simp
        refine hK.out _ _ (row_on ((Below.refl _ _).alloc (Nat.le_refl _) _) hHeld) (fun hHeld2 => ?_)
        clear hK K hHeld
        have hHeld := hHeld2
        clear hHeld2
        try simp only [Act.put, List.setIfInBounds_toArray, List.set_cons_zero, List.set_cons_succ]
        refine wpAnyH_ready (rs := [9]) (by kernel_rfl) (by simp) ?_
        refine AllReadyH.cons (o := { dst := none, op := Go.Op.store 30 (Go.Operand.tmp 3) (Go.Operand.tmp 14), type := 0, pos := "law.go:53", after := #[{ on := 8, ground := Go.Ground.data }, { on := 7, ground := Go.Ground.data }, { on := 6, ground := Go.Ground.chain }, { on := 0, ground := Go.Ground.phase }, { on := 1, ground := Go.Ground.phase }, { on := 2, ground := Go.Ground.phase }, { on := 3, ground := Go.Ground.phase }, { on := 4, ground := Go.Ground.phase }, { on := 5, ground := Go.Ground.phase }, { on := 6, ground := Go.Ground.phase }, { on := 7, ground := Go.Ground.phase }, { on := 8, ground := Go.Ground.phase }], guard := none }) rfl (fun K hK => ?_) AllReadyH.nil
        refine step_store_row rfl 30 (.tmp 3) (.tmp 14) rfl W0.heap.size 30 #[.int .i64 0, .int .i64 0, .int .i64 0, .int .i64 0, .int .u64 0, .int .u64 0, .bool false, .int .i64 0, .int .i64 0, .int .i64 0, .slice none 0 0, .int .i64 0, .slice none 0 0] #[.int .i64 o, .int .i64 b, .int .i64 0, .int .i64 0, .int .u64 0, .int .u64 0, .bool false, .int .i64 0, .int .i64 0, .int .i64 0, .slice none 0 0, .int .i64 0, .slice none 0 0] rfl rfl (row_new rfl) info30 rfl (by simp [Value.oneCell']) ?_
        refine hK.out _ _ ((setRow_other _ _ _ _ (by have := HG0.out.2.2.2; omega)).trans hHeld) (fun hHeld2 => ?_)
        clear hK K hHeld
        have hHeld := hHeld2
        clear hHeld2
        try simp only [Act.put, List.setIfInBounds_toArray, List.set_cons_zero, List.set_cons_succ]
        refine wpAnyH_done (by kernel_rfl) ?_ _
        refine NoPanic.normal ?_
        try simp only [Act.put, List.setIfInBounds_toArray, List.set_cons_zero, List.set_cons_succ]
        have hs0 := HG0.out.2.2.2
        have hbl : Below W0.heap.size W0 (W0.alloc (.cells #[.int .i64 o, .int .i64 b, .int .i64 0, .int .i64 0, .int .u64 0, .int .u64 0, .bool false, .int .i64 0, .int .i64 0, .int .i64 0, .slice none 0 0, .int .i64 0, .slice none 0 0] 30)).drew := ((Below.refl _ W0).alloc (Nat.le_refl _) _).drew
        go_wp2
        go_meet
        rw [show (W0.alloc (.cells #[.int .i64 0, .int .i64 0, .int .i64 0, .int .i64 0, .int .u64 0, .int .u64 0, .bool false, .int .i64 0, .int .i64 0, .int .i64 0, .slice none 0 0, .int .i64 0, .slice none 0 0] 30)).drew.setRow W0.heap.size #[.int .i64 o, .int .i64 b, .int .i64 0, .int .i64 0, .int .u64 0, .int .u64 0, .bool false, .int .i64 0, .int .i64 0, .int .i64 0, .slice none 0 0, .int .i64 0, .slice none 0 0] = (W0.alloc (.cells #[.int .i64 o, .int .i64 b, .int .i64 0, .int .i64 0, .int .u64 0, .int .u64 0, .bool false, .int .i64 0, .int .i64 0, .int .i64 0, .slice none 0 0, .int .i64 0, .slice none 0 0] 30)).drew from congrArg World.drew (alloc_setRowQ W0 _ _ _)]
        exact ⟨by rw [hs0], Lib.hid ⟨row_on hbl HG0.out.1, row_on hbl HG0.out.2.1, row_new (w := W0) (by rw [hs0]), HG0.out.2.2.1.trans (hbl.mono HG0.out.2.2.1.size)⟩, Lib.hid (by show (W0.alloc _).heap.size = _; simp [hs0])⟩
      · go_simp
        refine hK.out _ _ (row_on ((Below.refl _ _).alloc (Nat.le_refl _) _) hHeld) (fun hHeld2 => ?_)
        clear hK K hHeld
        have hHeld := hHeld2
        clear hHeld2
        try simp only [Act.put, List.setIfInBounds_toArray, List.set_cons_zero, List.set_cons_succ]
        refine wpAnyH_ready (rs := [6]) (by kernel_rfl) (by simp) ?_
        refine AllReadyH.cons (o := { dst := some 13, op := Go.Op.call { callee := Go.Callee.value (Go.Operand.func 21), args := #[Go.Operand.tmp 12, Go.Operand.const (Go.Value.int Go.IntKind.i64 65536)], argTypes := #[3, 3] }, type := 3, pos := "law.go:53", after := #[{ on := 5, ground := Go.Ground.data }, { on := 2, ground := Go.Ground.chain }], guard := none }) rfl (fun K hK => ?_) AllReadyH.nil
        go_simp
        go_at_call 21
        refine (I2.out _).mono ?_
        rintro e wx ⟨rfl, rfl⟩
        refine hK.out _ _ (hHeld) (fun hHeld2 => ?_)
        clear hK K hHeld
        have hHeld := hHeld2
        clear hHeld2
        try simp only [Act.put, List.setIfInBounds_toArray, List.set_cons_zero, List.set_cons_succ]
        refine wpAnyH_take (i := 7) (oi := { dst := some 14, op := Go.Op.build 30 #[(0, Go.Operand.tmp 10), (1, Go.Operand.tmp 13)], type := 30, pos := "law.go:53", after := #[{ on := 3, ground := Go.Ground.data }, { on := 6, ground := Go.Ground.data }], guard := none }) (v := ?_) rfl (by kernel_rfl) (by kernel_rfl) (by kernel_rfl) (fun _ _ _ h => h) (Or.inl ⟨by rfl, ?hy7_16⟩) (by assumption) ?rest7_16
        case hy7_16 => (intro w hSw; go_simp; try with_reducible rfl)
        try simp only [Act.put, List.setIfInBounds_toArray, List.set_cons_zero, List.set_cons_succ]
        refine wpAnyH_ready (rs := [9]) (by kernel_rfl) (by simp) ?_
        refine AllReadyH.cons (o := { dst := none, op := Go.Op.store 30 (Go.Operand.tmp 3) (Go.Operand.tmp 14), type := 0, pos := "law.go:53", after := #[{ on := 8, ground := Go.Ground.data }, { on := 7, ground := Go.Ground.data }, { on := 6, ground := Go.Ground.chain }, { on := 0, ground := Go.Ground.phase }, { on := 1, ground := Go.Ground.phase }, { on := 2, ground := Go.Ground.phase }, { on := 3, ground := Go.Ground.phase }, { on := 4, ground := Go.Ground.phase }, { on := 5, ground := Go.Ground.phase }, { on := 6, ground := Go.Ground.phase }, { on := 7, ground := Go.Ground.phase }, { on := 8, ground := Go.Ground.phase }], guard := none }) rfl (fun K hK => ?_) AllReadyH.nil
        refine step_store_row rfl 30 (.tmp 3) (.tmp 14) rfl W0.heap.size 30 #[.int .i64 0, .int .i64 0, .int .i64 0, .int .i64 0, .int .u64 0, .int .u64 0, .bool false, .int .i64 0, .int .i64 0, .int .i64 0, .slice none 0 0, .int .i64 0, .slice none 0 0] #[.int .i64 o, .int .i64 b, .int .i64 0, .int .i64 0, .int .u64 0, .int .u64 0, .bool false, .int .i64 0, .int .i64 0, .int .i64 0, .slice none 0 0, .int .i64 0, .slice none 0 0] rfl rfl (row_new rfl) info30 rfl (by simp [Value.oneCell']) ?_
        refine hK.out _ _ ((setRow_other _ _ _ _ (by have := HG0.out.2.2.2; omega)).trans hHeld) (fun hHeld2 => ?_)
        clear hK K hHeld
        have hHeld := hHeld2
        clear hHeld2
        try simp only [Act.put, List.setIfInBounds_toArray, List.set_cons_zero, List.set_cons_succ]
        refine wpAnyH_done (by kernel_rfl) ?_ _
        refine NoPanic.normal ?_
        try simp only [Act.put, List.setIfInBounds_toArray, List.set_cons_zero, List.set_cons_succ]
        have hs0 := HG0.out.2.2.2
        have hbl : Below W0.heap.size W0 (W0.alloc (.cells #[.int .i64 o, .int .i64 b, .int .i64 0, .int .i64 0, .int .u64 0, .int .u64 0, .bool false, .int .i64 0, .int .i64 0, .int .i64 0, .slice none 0 0, .int .i64 0, .slice none 0 0] 30)).drew := ((Below.refl _ W0).alloc (Nat.le_refl _) _).drew
        go_wp2
        go_meet
        rw [show (W0.alloc (.cells #[.int .i64 0, .int .i64 0, .int .i64 0, .int .i64 0, .int .u64 0, .int .u64 0, .bool false, .int .i64 0, .int .i64 0, .int .i64 0, .slice none 0 0, .int .i64 0, .slice none 0 0] 30)).drew.setRow W0.heap.size #[.int .i64 o, .int .i64 b, .int .i64 0, .int .i64 0, .int .u64 0, .int .u64 0, .bool false, .int .i64 0, .int .i64 0, .int .i64 0, .slice none 0 0, .int .i64 0, .slice none 0 0] = (W0.alloc (.cells #[.int .i64 o, .int .i64 b, .int .i64 0, .int .i64 0, .int .u64 0, .int .u64 0, .bool false, .int .i64 0, .int .i64 0, .int .i64 0, .slice none 0 0, .int .i64 0, .slice none 0 0] 30)).drew from congrArg World.drew (alloc_setRowQ W0 _ _ _)]
        exact ⟨by rw [hs0], Lib.hid ⟨row_on hbl HG0.out.1, row_on hbl HG0.out.2.1, row_new (w := W0) (by rw [hs0]), HG0.out.2.2.1.trans (hbl.mono HG0.out.2.2.1.size)⟩, Lib.hid (by show (W0.alloc _).heap.size = _; simp [hs0])⟩
    · go_simp
      refine hK.out _ _ (row_on ((Below.refl _ _).alloc (Nat.le_refl _) _) hHeld) (fun hHeld2 => ?_)
      clear hK K hHeld
      have hHeld := hHeld2
      clear hHeld2
      try simp only [Act.put, List.setIfInBounds_toArray, List.set_cons_zero, List.set_cons_succ]
      refine wpAnyH_ready (rs := [2]) (by kernel_rfl) (by simp) ?_
      refine AllReadyH.cons (o := { dst := some 9, op := Go.Op.call { callee := Go.Callee.value (Go.Operand.func 21), args := #[Go.Operand.tmp 8, Go.Operand.const (Go.Value.int Go.IntKind.i64 10)], argTypes := #[3, 3] }, type := 3, pos := "law.go:53", after := #[{ on := 1, ground := Go.Ground.data }], guard := none }) rfl (fun K hK => ?_) AllReadyH.nil
      go_simp
      go_at_call 21
      refine (I1.out _).mono ?_
      rintro e wx ⟨rfl, rfl⟩
      refine hK.out _ _ (hHeld) (fun hHeld2 => ?_)
      clear hK K hHeld
      have hHeld := hHeld2
      clear hHeld2
      try simp only [Act.put, List.setIfInBounds_toArray, List.set_cons_zero, List.set_cons_succ]
      refine wpAnyH_take (i := 3) (oi := { dst := some 10, op := Go.Op.binOp Go.BinOp.add 3 (Go.Operand.const (Go.Value.int Go.IntKind.i64 1)) (Go.Operand.tmp 9) 3, type := 3, pos := "law.go:53", after := #[{ on := 2, ground := Go.Ground.data }], guard := none }) (v := ?_) rfl (by kernel_rfl) (by kernel_rfl) (by kernel_rfl) (fun _ _ _ h => h) (Or.inl ⟨by rfl, ?hy3_17⟩) (by assumption) ?rest3_17
      case hy3_17 => (intro w hSw; go_simp; try with_reducible rfl)
      try simp only [Act.put, List.setIfInBounds_toArray, List.set_cons_zero, List.set_cons_succ]
      refine wpAnyH_ready (rs := [6]) (by kernel_rfl) (by simp) ?_
      refine AllReadyH.cons (o := { dst := some 13, op := Go.Op.call { callee := Go.Callee.value (Go.Operand.func 21), args := #[Go.Operand.tmp 12, Go.Operand.const (Go.Value.int Go.IntKind.i64 65536)], argTypes := #[3, 3] }, type := 3, pos := "law.go:53", after := #[{ on := 5, ground := Go.Ground.data }, { on := 2, ground := Go.Ground.chain }], guard := none }) rfl (fun K hK => ?_) AllReadyH.nil
      go_simp
      go_at_call 21
      refine (I2.out _).mono ?_
      rintro e wx ⟨rfl, rfl⟩
      refine hK.out _ _ (hHeld) (fun hHeld2 => ?_)
      clear hK K hHeld
      have hHeld := hHeld2
      clear hHeld2
      try simp only [Act.put, List.setIfInBounds_toArray, List.set_cons_zero, List.set_cons_succ]
      refine wpAnyH_take (i := 7) (oi := { dst := some 14, op := Go.Op.build 30 #[(0, Go.Operand.tmp 10), (1, Go.Operand.tmp 13)], type := 30, pos := "law.go:53", after := #[{ on := 3, ground := Go.Ground.data }, { on := 6, ground := Go.Ground.data }], guard := none }) (v := ?_) rfl (by kernel_rfl) (by kernel_rfl) (by kernel_rfl) (fun _ _ _ h => h) (Or.inl ⟨by rfl, ?hy7_18⟩) (by assumption) ?rest7_18
      case hy7_18 => (intro w hSw; go_simp; try with_reducible rfl)
      try simp only [Act.put, List.setIfInBounds_toArray, List.set_cons_zero, List.set_cons_succ]
      refine wpAnyH_ready (rs := [9]) (by kernel_rfl) (by simp) ?_
      refine AllReadyH.cons (o := { dst := none, op := Go.Op.store 30 (Go.Operand.tmp 3) (Go.Operand.tmp 14), type := 0, pos := "law.go:53", after := #[{ on := 8, ground := Go.Ground.data }, { on := 7, ground := Go.Ground.data }, { on := 6, ground := Go.Ground.chain }, { on := 0, ground := Go.Ground.phase }, { on := 1, ground := Go.Ground.phase }, { on := 2, ground := Go.Ground.phase }, { on := 3, ground := Go.Ground.phase }, { on := 4, ground := Go.Ground.phase }, { on := 5, ground := Go.Ground.phase }, { on := 6, ground := Go.Ground.phase }, { on := 7, ground := Go.Ground.phase }, { on := 8, ground := Go.Ground.phase }], guard := none }) rfl (fun K hK => ?_) AllReadyH.nil
      refine step_store_row rfl 30 (.tmp 3) (.tmp 14) rfl W0.heap.size 30 #[.int .i64 0, .int .i64 0, .int .i64 0, .int .i64 0, .int .u64 0, .int .u64 0, .bool false, .int .i64 0, .int .i64 0, .int .i64 0, .slice none 0 0, .int .i64 0, .slice none 0 0] #[.int .i64 o, .int .i64 b, .int .i64 0, .int .i64 0, .int .u64 0, .int .u64 0, .bool false, .int .i64 0, .int .i64 0, .int .i64 0, .slice none 0 0, .int .i64 0, .slice none 0 0] rfl rfl (row_new rfl) info30 rfl (by simp [Value.oneCell']) ?_
      refine hK.out _ _ ((setRow_other _ _ _ _ (by have := HG0.out.2.2.2; omega)).trans hHeld) (fun hHeld2 => ?_)
      clear hK K hHeld
      have hHeld := hHeld2
      clear hHeld2
      try simp only [Act.put, List.setIfInBounds_toArray, List.set_cons_zero, List.set_cons_succ]
      refine wpAnyH_done (by kernel_rfl) ?_ _
      refine NoPanic.normal ?_
      try simp only [Act.put, List.setIfInBounds_toArray, List.set_cons_zero, List.set_cons_succ]
      have hs0 := HG0.out.2.2.2
      have hbl : Below W0.heap.size W0 (W0.alloc (.cells #[.int .i64 o, .int .i64 b, .int .i64 0, .int .i64 0, .int .u64 0, .int .u64 0, .bool false, .int .i64 0, .int .i64 0, .int .i64 0, .slice none 0 0, .int .i64 0, .slice none 0 0] 30)).drew := ((Below.refl _ W0).alloc (Nat.le_refl _) _).drew
      go_wp2
      go_meet
      rw [show (W0.alloc (.cells #[.int .i64 0, .int .i64 0, .int .i64 0, .int .i64 0, .int .u64 0, .int .u64 0, .bool false, .int .i64 0, .int .i64 0, .int .i64 0, .slice none 0 0, .int .i64 0, .slice none 0 0] 30)).drew.setRow W0.heap.size #[.int .i64 o, .int .i64 b, .int .i64 0, .int .i64 0, .int .u64 0, .int .u64 0, .bool false, .int .i64 0, .int .i64 0, .int .i64 0, .slice none 0 0, .int .i64 0, .slice none 0 0] = (W0.alloc (.cells #[.int .i64 o, .int .i64 b, .int .i64 0, .int .i64 0, .int .u64 0, .int .u64 0, .bool false, .int .i64 0, .int .i64 0, .int .i64 0, .slice none 0 0, .int .i64 0, .slice none 0 0] 30)).drew from congrArg World.drew (alloc_setRowQ W0 _ _ _)]
      exact ⟨by rw [hs0], Lib.hid ⟨row_on hbl HG0.out.1, row_on hbl HG0.out.2.1, row_new (w := W0) (by rw [hs0]), HG0.out.2.2.1.trans (hbl.mono HG0.out.2.2.1.size)⟩, Lib.hid (by show (W0.alloc _).heap.size = _; simp [hs0])⟩
  obtain ⟨rfl, HG1, HS1⟩ := hcut
  clear HG0 I1 I2 hwo
  generalize wc = W1 at HG1 HS1 ⊢
  go_upto_region 2 with fail
  go_cut [4] from 15 to 23 (fun v4 wc => v4 = .pointer (some ⟨w.heap.size + 3, 0, none⟩) ∧ Hid (G4 w #[.int .i64 op, .int .i64 by0, .int .i64 sz, .int .i64 obj, .int .u64 hi, .int .u64 lo, .bool gv, .int .i64 rt, .int .i64 off, .int .i64 n, .slice Ad nd cd, .int .i64 ix, .slice Ag ng cg] #[.int .i64 0, .int .i64 0, .int .i64 0, .int .i64 0, .int .u64 0, .int .u64 0, .bool false, .int .i64 0, .int .i64 0, .int .i64 0, .slice none 0 0, .int .i64 0, .slice none 0 0] #[.int .i64 o, .int .i64 b, .int .i64 0, .int .i64 0, .int .u64 0, .int .u64 0, .bool false, .int .i64 0, .int .i64 0, .int .i64 0, .slice none 0 0, .int .i64 0, .slice none 0 0] #[.int .i64 ob, .int .u64 hi, .int .u64 lo] wc))
  case first =>
    refine wp_region_noPanic ?_
    refine wp_region_held_drew (S := fun y => y.heap[w.heap.size]? = some (.cells #[.int .i64 op, .int .i64 by0, .int .i64 sz, .int .i64 obj, .int .u64 hi, .int .u64 lo, .bool gv, .int .i64 rt, .int .i64 off, .int .i64 n, .slice Ad nd cd, .int .i64 ix, .slice Ag ng cg] 30)) (by kernel_rfl) (HG1.out.cb) (fun hHeld => ?_)
    refine wpAnyH_take (i := 0) (oi := { dst := some 15, op := Go.Op.fieldAddr 30 (Go.Operand.tmp 1) 3, type := 0, pos := "law.go:54", after := #[], guard := none }) (v := ?_) rfl (by kernel_rfl) (by kernel_rfl) (by kernel_rfl) (fun _ _ _ h => h) (Or.inl ⟨by rfl, ?hy0_19⟩) (by assumption) ?rest0_19
    case hy0_19 => (intro w hSw; go_simp; try with_reducible rfl)
    try simp only [Act.put, List.setIfInBounds_toArray, List.set_cons_zero, List.set_cons_succ]
    refine wpAnyH_take (i := 4) (oi := { dst := some 19, op := Go.Op.fieldAddr 30 (Go.Operand.tmp 1) 3, type := 0, pos := "law.go:54", after := #[], guard := none }) (v := ?_) rfl (by kernel_rfl) (by kernel_rfl) (by kernel_rfl) (fun _ _ _ h => h) (Or.inl ⟨by rfl, ?hy4_20⟩) (by assumption) ?rest4_20
    case hy4_20 => (intro w hSw; go_simp; try with_reducible rfl)
    try simp only [Act.put, List.setIfInBounds_toArray, List.set_cons_zero, List.set_cons_succ]
    refine wpAnyH_take (i := 1) (oi := { dst := some 16, op := Go.Op.fieldAddr 26 (Go.Operand.tmp 15) 0, type := 0, pos := "law.go:54", after := #[{ on := 0, ground := Go.Ground.data }], guard := none }) (v := ?_) rfl (by kernel_rfl) (by kernel_rfl) (by kernel_rfl) (fun _ _ _ h => h) (Or.inl ⟨by rfl, ?hy1_21⟩) (by assumption) ?rest1_21
    case hy1_21 => (intro w hSw; go_simp; try with_reducible rfl)
    try simp only [Act.put, List.setIfInBounds_toArray, List.set_cons_zero, List.set_cons_succ]
    refine wpAnyH_take (i := 5) (oi := { dst := some 20, op := Go.Op.fieldAddr 26 (Go.Operand.tmp 19) 1, type := 0, pos := "law.go:54", after := #[{ on := 4, ground := Go.Ground.data }], guard := none }) (v := ?_) rfl (by kernel_rfl) (by kernel_rfl) (by kernel_rfl) (fun _ _ _ h => h) (Or.inl ⟨by rfl, ?hy5_22⟩) (by assumption) ?rest5_22
    case hy5_22 => (intro w hSw; go_simp; try with_reducible rfl)
    try simp only [Act.put, List.setIfInBounds_toArray, List.set_cons_zero, List.set_cons_succ]
    refine wpAnyH_take (i := 2) (oi := { dst := some 17, op := Go.Op.load 3 (Go.Operand.tmp 16), type := 3, pos := "law.go:54", after := #[{ on := 1, ground := Go.Ground.data }], guard := none }) (v := ?_) rfl (by kernel_rfl) (by kernel_rfl) (by kernel_rfl) (fun _ _ _ h => h) (Or.inl ⟨by rfl, ?hy2_23⟩) (by assumption) ?rest2_23
    case hy2_23 => (intro w hSw; have zc := cell_row (j := 3) hSw rfl; go_simp; try with_reducible rfl)
    try simp only [Act.put, List.setIfInBounds_toArray, List.set_cons_zero, List.set_cons_succ]
    refine wpAnyH_take (i := 6) (oi := { dst := some 21, op := Go.Op.load 24 (Go.Operand.tmp 20), type := 24, pos := "law.go:54", after := #[{ on := 5, ground := Go.Ground.data }], guard := none }) (v := ?_) rfl (by kernel_rfl) (by kernel_rfl) (by kernel_rfl) (fun _ _ _ h => h) (Or.inl ⟨by rfl, ?hy6_24⟩) (by assumption) ?rest6_24
    case hy6_24 => (intro w hSw; have zc := cell_row (j := 4) hSw rfl; have zd := cell_row (j := 5) hSw rfl; go_simp; try with_reducible rfl)
    try simp only [Act.put, List.setIfInBounds_toArray, List.set_cons_zero, List.set_cons_succ]
    refine wpAnyH_ready (rs := [3, 8]) (by kernel_rfl) (by simp) ?_
    refine AllReadyH.cons (o := { dst := some 18, op := Go.Op.call { callee := Go.Callee.value (Go.Operand.func 21), args := #[Go.Operand.tmp 17, Go.Operand.const (Go.Value.int Go.IntKind.i64 4611686018427387904)], argTypes := #[3, 3] }, type := 3, pos := "law.go:54", after := #[{ on := 2, ground := Go.Ground.data }], guard := none }) rfl (fun K hK => ?_) (AllReadyH.cons (o := { dst := some 4, op := Go.Op.alloc 26, type := 0, pos := "law.go:54", after := #[], guard := none }) rfl (fun K hK => ?_) AllReadyH.nil)
    · go_simp
      go_at_call 21
      refine (I3.out _).mono ?_
      rintro e wx ⟨rfl, rfl⟩
      refine hK.out _ _ (hHeld) (fun hHeld2 => ?_)
      clear hK K hHeld
      have hHeld := hHeld2
      clear hHeld2
      try simp only [Act.put, List.setIfInBounds_toArray, List.set_cons_zero, List.set_cons_succ]
      refine wpAnyH_take (i := 7) (oi := { dst := some 22, op := Go.Op.build 26 #[(0, Go.Operand.tmp 18), (1, Go.Operand.tmp 21)], type := 26, pos := "law.go:54", after := #[{ on := 3, ground := Go.Ground.data }, { on := 6, ground := Go.Ground.data }], guard := none }) (v := ?_) rfl (by kernel_rfl) (by kernel_rfl) (by kernel_rfl) (fun _ _ _ h => h) (Or.inl ⟨by rfl, ?hy7_25⟩) (by assumption) ?rest7_25
      case hy7_25 => (intro w hSw; go_simp; try with_reducible rfl)
      try simp only [Act.put, List.setIfInBounds_toArray, List.set_cons_zero, List.set_cons_succ]
      refine wpAnyH_ready (rs := [8]) (by kernel_rfl) (by simp) ?_
      refine AllReadyH.cons (o := { dst := some 4, op := Go.Op.alloc 26, type := 0, pos := "law.go:54", after := #[], guard := none }) rfl (fun K hK => ?_) AllReadyH.nil
      go_simp
      refine hK.out _ _ (row_on ((Below.refl _ _).alloc (Nat.le_refl _) _) hHeld) (fun hHeld2 => ?_)
      clear hK K hHeld
      have hHeld := hHeld2
      clear hHeld2
      try simp only [Act.put, List.setIfInBounds_toArray, List.set_cons_zero, List.set_cons_succ]
      refine wpAnyH_ready (rs := [9]) (by kernel_rfl) (by simp) ?_
      refine AllReadyH.cons (o := { dst := none, op := Go.Op.store 26 (Go.Operand.tmp 4) (Go.Operand.tmp 22), type := 0, pos := "law.go:54", after := #[{ on := 8, ground := Go.Ground.data }, { on := 7, ground := Go.Ground.data }, { on := 3, ground := Go.Ground.chain }, { on := 0, ground := Go.Ground.phase }, { on := 1, ground := Go.Ground.phase }, { on := 2, ground := Go.Ground.phase }, { on := 3, ground := Go.Ground.phase }, { on := 4, ground := Go.Ground.phase }, { on := 5, ground := Go.Ground.phase }, { on := 6, ground := Go.Ground.phase }, { on := 7, ground := Go.Ground.phase }, { on := 8, ground := Go.Ground.phase }], guard := none }) rfl (fun K hK => ?_) AllReadyH.nil
      refine step_store_row rfl 26 (.tmp 4) (.tmp 22) rfl W1.heap.size 26 #[.int .i64 0, .int .u64 0, .int .u64 0] #[.int .i64 ob, .int .u64 hi, .int .u64 lo] rfl rfl (row_new rfl) info26t rfl (by simp [Value.oneCell']) ?_
      refine hK.out _ _ ((setRow_other _ _ _ _ (by have := HS1.out; omega)).trans hHeld) (fun hHeld2 => ?_)
      clear hK K hHeld
      have hHeld := hHeld2
      clear hHeld2
      try simp only [Act.put, List.setIfInBounds_toArray, List.set_cons_zero, List.set_cons_succ]
      refine wpAnyH_done (by kernel_rfl) ?_ _
      refine NoPanic.normal ?_
      try simp only [Act.put, List.setIfInBounds_toArray, List.set_cons_zero, List.set_cons_succ]
      have hs0 := HS1.out
      have hbl : Below W1.heap.size W1 (W1.alloc (.cells #[.int .i64 ob, .int .u64 hi, .int .u64 lo] 26)).drew := ((Below.refl _ W1).alloc (Nat.le_refl _) _).drew
      go_wp2
      go_meet
      rw [show (W1.alloc (.cells #[.int .i64 0, .int .u64 0, .int .u64 0] 26)).drew.setRow W1.heap.size #[.int .i64 ob, .int .u64 hi, .int .u64 lo] = (W1.alloc (.cells #[.int .i64 ob, .int .u64 hi, .int .u64 lo] 26)).drew from congrArg World.drew (alloc_setRowQ W1 _ _ _)]
      exact ⟨by rw [hs0], Lib.hid ⟨row_on hbl HG1.out.cb, row_on hbl HG1.out.res, row_on hbl HG1.out.box, row_new (w := W1) (by rw [hs0]), HG1.out.below.trans (hbl.mono HG1.out.below.size), by show _ ≤ (W1.alloc _).heap.size; simp [hs0]⟩⟩
    · go_simp
      refine hK.out _ _ (row_on ((Below.refl _ _).alloc (Nat.le_refl _) _) hHeld) (fun hHeld2 => ?_)
      clear hK K hHeld
      have hHeld := hHeld2
      clear hHeld2
      try simp only [Act.put, List.setIfInBounds_toArray, List.set_cons_zero, List.set_cons_succ]
      refine wpAnyH_ready (rs := [3]) (by kernel_rfl) (by simp) ?_
      refine AllReadyH.cons (o := { dst := some 18, op := Go.Op.call { callee := Go.Callee.value (Go.Operand.func 21), args := #[Go.Operand.tmp 17, Go.Operand.const (Go.Value.int Go.IntKind.i64 4611686018427387904)], argTypes := #[3, 3] }, type := 3, pos := "law.go:54", after := #[{ on := 2, ground := Go.Ground.data }], guard := none }) rfl (fun K hK => ?_) AllReadyH.nil
      go_simp
      go_at_call 21
      refine (I3.out _).mono ?_
      rintro e wx ⟨rfl, rfl⟩
      refine hK.out _ _ (hHeld) (fun hHeld2 => ?_)
      clear hK K hHeld
      have hHeld := hHeld2
      clear hHeld2
      try simp only [Act.put, List.setIfInBounds_toArray, List.set_cons_zero, List.set_cons_succ]
      refine wpAnyH_take (i := 7) (oi := { dst := some 22, op := Go.Op.build 26 #[(0, Go.Operand.tmp 18), (1, Go.Operand.tmp 21)], type := 26, pos := "law.go:54", after := #[{ on := 3, ground := Go.Ground.data }, { on := 6, ground := Go.Ground.data }], guard := none }) (v := ?_) rfl (by kernel_rfl) (by kernel_rfl) (by kernel_rfl) (fun _ _ _ h => h) (Or.inl ⟨by rfl, ?hy7_26⟩) (by assumption) ?rest7_26
      case hy7_26 => (intro w hSw; go_simp; try with_reducible rfl)
      try simp only [Act.put, List.setIfInBounds_toArray, List.set_cons_zero, List.set_cons_succ]
      refine wpAnyH_ready (rs := [9]) (by kernel_rfl) (by simp) ?_
      refine AllReadyH.cons (o := { dst := none, op := Go.Op.store 26 (Go.Operand.tmp 4) (Go.Operand.tmp 22), type := 0, pos := "law.go:54", after := #[{ on := 8, ground := Go.Ground.data }, { on := 7, ground := Go.Ground.data }, { on := 3, ground := Go.Ground.chain }, { on := 0, ground := Go.Ground.phase }, { on := 1, ground := Go.Ground.phase }, { on := 2, ground := Go.Ground.phase }, { on := 3, ground := Go.Ground.phase }, { on := 4, ground := Go.Ground.phase }, { on := 5, ground := Go.Ground.phase }, { on := 6, ground := Go.Ground.phase }, { on := 7, ground := Go.Ground.phase }, { on := 8, ground := Go.Ground.phase }], guard := none }) rfl (fun K hK => ?_) AllReadyH.nil
      refine step_store_row rfl 26 (.tmp 4) (.tmp 22) rfl W1.heap.size 26 #[.int .i64 0, .int .u64 0, .int .u64 0] #[.int .i64 ob, .int .u64 hi, .int .u64 lo] rfl rfl (row_new rfl) info26t rfl (by simp [Value.oneCell']) ?_
      refine hK.out _ _ ((setRow_other _ _ _ _ (by have := HS1.out; omega)).trans hHeld) (fun hHeld2 => ?_)
      clear hK K hHeld
      have hHeld := hHeld2
      clear hHeld2
      try simp only [Act.put, List.setIfInBounds_toArray, List.set_cons_zero, List.set_cons_succ]
      refine wpAnyH_done (by kernel_rfl) ?_ _
      refine NoPanic.normal ?_
      try simp only [Act.put, List.setIfInBounds_toArray, List.set_cons_zero, List.set_cons_succ]
      have hs0 := HS1.out
      have hbl : Below W1.heap.size W1 (W1.alloc (.cells #[.int .i64 ob, .int .u64 hi, .int .u64 lo] 26)).drew := ((Below.refl _ W1).alloc (Nat.le_refl _) _).drew
      go_wp2
      go_meet
      rw [show (W1.alloc (.cells #[.int .i64 0, .int .u64 0, .int .u64 0] 26)).drew.setRow W1.heap.size #[.int .i64 ob, .int .u64 hi, .int .u64 lo] = (W1.alloc (.cells #[.int .i64 ob, .int .u64 hi, .int .u64 lo] 26)).drew from congrArg World.drew (alloc_setRowQ W1 _ _ _)]
      exact ⟨by rw [hs0], Lib.hid ⟨row_on hbl HG1.out.cb, row_on hbl HG1.out.res, row_on hbl HG1.out.box, row_new (w := W1) (by rw [hs0]), HG1.out.below.trans (hbl.mono HG1.out.below.size), by show _ ≤ (W1.alloc _).heap.size; simp [hs0]⟩⟩
  obtain ⟨rfl, HG2⟩ := hcut
  clear HG1 HS1 I3
  generalize wc = W2 at HG2 ⊢
  go_upto_region 3 with fail
  go_cut [5] from 23 to 30 (fun v5 wc => ∃ kd, v5 = .slice Ad kd cd ∧ Hid (RB w (.slice Ad kd cd) (da.take 1025)) ∧ W2 = wc)
  case first =>
    have cy10 := cell_row (j := 10) HG2.out.cb rfl
    by_cases hle : nd ≤ 1025
    · have hq0 : (nd : Int) ≤ 1025 := by omega
      have hq1 : (nd : Int) ≤ (cd : Int) := by omega
      have hq2 : (0 : Int) ≤ (nd : Int) := by omega
      have hq3 : ¬ (1025 : Int) < (nd : Int) := by omega
      have hR : Hid (RB w (.slice Ad nd cd) (da.take 1025)) := Lib.hid (by rw [List.take_of_length_le (by rw [HND.out]; exact hle)]; exact HDR.out)
      go_wp2
      go_meet
      exact ⟨nd, rfl, hR, rfl⟩
    · have hq0 : ¬ (nd : Int) ≤ 1025 := by omega
      have hq1 : (1025 : Int) ≤ (cd : Int) := by omega
      have hq2 : (1025 : Int) < (nd : Int) := by omega
      have hq3 : (1025 : Int) ≤ (nd : Int) := by omega
      have hq4 : 1025 ≤ cd := by omega
      have hR : Hid (RB w (.slice Ad 1025 cd) (da.take 1025)) := Lib.hid (RB.take (k := 1025) (c := cd) (by rw [HND.out]; exact HDR.out) (by rw [HND.out]; omega) rfl)
      go_wp2
      go_meet
      exact ⟨1025, rfl, hR, rfl⟩
  obtain ⟨kd, rfl, HDK, rfl⟩ := hcut
  obtain ⟨ys, hys⟩ : ∃ ys, da.take 1025 = ys := ⟨_, rfl⟩
  rw [hys] at HDK
  have HT := Lib.hid hys
  clear hys hcd0
  have y0 := cell_row (j := 0) HG2.out.box rfl
  have z0 := free_row (j := 0) HG2.out.box
  by_cases h1 : o = 1
  · subst h1
    obtain ⟨s1, h_s1⟩ : ∃ y, sz % 4294967296 = y := ⟨_, rfl⟩
    have I_s1 : Hid (∀ a : World, Calls Try.prog 21 #[.int .i64 sz, .int .i64 4294967296] a fun e w' => e = .returned (.int .i64 s1) ∧ a = w') := Lib.hid (fun a => by have := into_any a sz 4294967296 HB64.out.sz.1 HB64.out.sz.2 (by decide) (by decide); rwa [h_s1] at this)
    have r_s1 : 0 ≤ s1 ∧ s1 < 4294967296 := by omega
    have HE_s1 := Lib.hid h_s1
    clear h_s1
    obtain ⟨d1, h_d1⟩ : ∃ y, s1 - 2147483648 = y := ⟨_, rfl⟩
    have hw_d1 : IntKind.i64.wrap (s1 - 2147483648) = d1 := by rw [IntKind.wrap_i64]; omega
    have HE_d1 := Lib.hid h_d1
    clear h_d1
    have cy2 := cell_row (j := 2) HG2.out.cb rfl
    have y2 := cell_row (j := 2) HG2.out.box rfl
    have z2 := free_row (j := 2) HG2.out.box
    go_upto_region 31 with (first | (go_at_call 21; (with_reducible refine (I_s1.out _).mono ?_); rintro e wx ⟨rfl, rfl⟩) | fail)
    have HG3 : Hid (G4 w #[.int .i64 op, .int .i64 by0, .int .i64 sz, .int .i64 obj, .int .u64 hi, .int .u64 lo, .bool gv, .int .i64 rt, .int .i64 off, .int .i64 n, .slice Ad nd cd, .int .i64 ix, .slice Ag ng cg] #[.int .i64 0, .int .i64 0, .int .i64 0, .int .i64 0, .int .u64 0, .int .u64 0, .bool false, .int .i64 0, .int .i64 0, .int .i64 0, .slice none 0 0, .int .i64 0, .slice none 0 0] #[.int .i64 1, .int .i64 b, .int .i64 d1, .int .i64 0, .int .u64 0, .int .u64 0, .bool false, .int .i64 0, .int .i64 0, .int .i64 0, .slice none 0 0, .int .i64 0, .slice none 0 0] #[.int .i64 ob, .int .u64 hi, .int .u64 lo] (W2.setCell ⟨w.heap.size + 2, 2, none⟩ (.int .i64 d1))) := Lib.hid (HG2.out.set1 2 _)
    clear cy2 y2 z2 y0 z0
    generalize W2.setCell ⟨w.heap.size + 2, 2, none⟩ (.int .i64 d1) = W3 at HG3 ⊢
    clear HG2
    have y0 := cell_row (j := 0) HG3.out.box rfl
    have z0 := free_row (j := 0) HG3.out.box
    have y6 := cell_row (j := 6) HG3.out.box rfl
    have z6 := free_row (j := 6) HG3.out.box
    have hf : formC ⟨op, by0, sz, obj, hi, lo, gv, rt, off, n, da, ix, gi⟩ = { zc with op := 1, by' := b, sz := d1 } := by unfold formC preC; simp only [HO.out, HBY.out]; simp [HE_s1.out, HE_d1.out]
    go_wp2_with (first | (refine wpList_load_row rfl 30 (.tmp 3) rfl (w.heap.size + 2) 30 #[.int .i64 1, .int .i64 b, .int .i64 d1, .int .i64 0, .int .u64 0, .int .u64 0, .bool false, .int .i64 0, .int .i64 0, .int .i64 0, .slice none 0 0, .int .i64 0, .slice none 0 0] (0, 0) _ rfl HG3.out.box Try.underlying30 rfl info30 ?_) | (refine wpList_store_row rfl 30 (.tmp 2) (.tmp 130) rfl (w.heap.size + 1) 30 #[.int .i64 0, .int .i64 0, .int .i64 0, .int .i64 0, .int .u64 0, .int .u64 0, .bool false, .int .i64 0, .int .i64 0, .int .i64 0, .slice none 0 0, .int .i64 0, .slice none 0 0] #[.int .i64 1, .int .i64 b, .int .i64 d1, .int .i64 0, .int .u64 0, .int .u64 0, .bool false, .int .i64 0, .int .i64 0, .int .i64 0, .slice none 0 0, .int .i64 0, .slice none 0 0] rfl rfl HG3.out.res info30 rfl (by simp [Value.oneCell']) ?_) | fail)
    have FN := HG3.out.fin #[.int .i64 1, .int .i64 b, .int .i64 d1, .int .i64 0, .int .u64 0, .int .u64 0, .bool false, .int .i64 0, .int .i64 0, .int .i64 0, .slice none 0 0, .int .i64 0, .slice none 0 0]
    refine bodyPost_ret (results_cell_row rfl _ _ (w.heap.size + 1) 30 _ (0, 0) _ rfl FN.1 Try.underlying30 rfl info30) rfl (HR.out _ _ ?_)
    unfold FD
    rw [hf]
    exact ⟨.slice none 0 0, .slice none 0 0, rfl, rb_nil _, OI.nil _, FN.2.1, fresh_nil _⟩
  by_cases h2 : o = 2
  · subst h2
    have y3 := cell_row (j := 3) HG2.out.box rfl
    have z3 := free_row (j := 3) HG2.out.box
    have y4 := cell_row (j := 4) HG2.out.box rfl
    have z4 := free_row (j := 4) HG2.out.box
    have y5 := cell_row (j := 5) HG2.out.box rfl
    have z5 := free_row (j := 5) HG2.out.box
    go_upto_region 31 with (first | (refine wpList_load_row rfl 26 (.tmp 4) rfl (w.heap.size + 3) 26 #[.int .i64 ob, .int .u64 hi, .int .u64 lo] (0, 0) _ rfl HG2.out.xb Try.underlying26 rfl info26t ?_) | fail)
    have HG3 : Hid (G4 w #[.int .i64 op, .int .i64 by0, .int .i64 sz, .int .i64 obj, .int .u64 hi, .int .u64 lo, .bool gv, .int .i64 rt, .int .i64 off, .int .i64 n, .slice Ad nd cd, .int .i64 ix, .slice Ag ng cg] #[.int .i64 0, .int .i64 0, .int .i64 0, .int .i64 0, .int .u64 0, .int .u64 0, .bool false, .int .i64 0, .int .i64 0, .int .i64 0, .slice none 0 0, .int .i64 0, .slice none 0 0] #[.int .i64 2, .int .i64 b, .int .i64 0, .int .i64 ob, .int .u64 hi, .int .u64 lo, .bool false, .int .i64 0, .int .i64 0, .int .i64 0, .slice none 0 0, .int .i64 0, .slice none 0 0] #[.int .i64 ob, .int .u64 hi, .int .u64 lo] (((W2.setCell ⟨w.heap.size + 2, 3, none⟩ (.int .i64 ob)).setCell ⟨w.heap.size + 2, 4, none⟩ (.int .u64 hi)).setCell ⟨w.heap.size + 2, 5, none⟩ (.int .u64 lo))) := Lib.hid (((HG2.out.set1 3 _).set1 4 _).set1 5 _)
    clear y3 y4 y5 z3 z4 z5 y0 z0
    generalize ((W2.setCell ⟨w.heap.size + 2, 3, none⟩ (.int .i64 ob)).setCell ⟨w.heap.size + 2, 4, none⟩ (.int .u64 hi)).setCell ⟨w.heap.size + 2, 5, none⟩ (.int .u64 lo) = W3 at HG3 ⊢
    clear HG2
    have y0 := cell_row (j := 0) HG3.out.box rfl
    have z0 := free_row (j := 0) HG3.out.box
    have y6 := cell_row (j := 6) HG3.out.box rfl
    have z6 := free_row (j := 6) HG3.out.box
    have hf : formC ⟨op, by0, sz, obj, hi, lo, gv, rt, off, n, da, ix, gi⟩ = { zc with op := 2, by' := b, obj := ob, hi := hi, lo := lo } := by unfold formC preC; simp only [HO.out, HBY.out]; simp [HX.out]
    go_wp2_with (first | (refine wpList_load_row rfl 30 (.tmp 3) rfl (w.heap.size + 2) 30 #[.int .i64 2, .int .i64 b, .int .i64 0, .int .i64 ob, .int .u64 hi, .int .u64 lo, .bool false, .int .i64 0, .int .i64 0, .int .i64 0, .slice none 0 0, .int .i64 0, .slice none 0 0] (0, 0) _ rfl HG3.out.box Try.underlying30 rfl info30 ?_) | (refine wpList_store_row rfl 30 (.tmp 2) (.tmp 130) rfl (w.heap.size + 1) 30 #[.int .i64 0, .int .i64 0, .int .i64 0, .int .i64 0, .int .u64 0, .int .u64 0, .bool false, .int .i64 0, .int .i64 0, .int .i64 0, .slice none 0 0, .int .i64 0, .slice none 0 0] #[.int .i64 2, .int .i64 b, .int .i64 0, .int .i64 ob, .int .u64 hi, .int .u64 lo, .bool false, .int .i64 0, .int .i64 0, .int .i64 0, .slice none 0 0, .int .i64 0, .slice none 0 0] rfl rfl HG3.out.res info30 rfl (by simp [Value.oneCell']) ?_) | fail)
    have FN := HG3.out.fin #[.int .i64 2, .int .i64 b, .int .i64 0, .int .i64 ob, .int .u64 hi, .int .u64 lo, .bool false, .int .i64 0, .int .i64 0, .int .i64 0, .slice none 0 0, .int .i64 0, .slice none 0 0]
    refine bodyPost_ret (results_cell_row rfl _ _ (w.heap.size + 1) 30 _ (0, 0) _ rfl FN.1 Try.underlying30 rfl info30) rfl (HR.out _ _ ?_)
    unfold FD
    rw [hf]
    exact ⟨.slice none 0 0, .slice none 0 0, rfl, rb_nil _, OI.nil _, FN.2.1, fresh_nil _⟩
  by_cases h4 : o = 4
  · subst h4
    have y3 := cell_row (j := 3) HG2.out.box rfl
    have z3 := free_row (j := 3) HG2.out.box
    have y4 := cell_row (j := 4) HG2.out.box rfl
    have z4 := free_row (j := 4) HG2.out.box
    have y5 := cell_row (j := 5) HG2.out.box rfl
    have z5 := free_row (j := 5) HG2.out.box
    go_upto_region 31 with (first | (refine wpList_load_row rfl 26 (.tmp 4) rfl (w.heap.size + 3) 26 #[.int .i64 ob, .int .u64 hi, .int .u64 lo] (0, 0) _ rfl HG2.out.xb Try.underlying26 rfl info26t ?_) | fail)
    have HG3 : Hid (G4 w #[.int .i64 op, .int .i64 by0, .int .i64 sz, .int .i64 obj, .int .u64 hi, .int .u64 lo, .bool gv, .int .i64 rt, .int .i64 off, .int .i64 n, .slice Ad nd cd, .int .i64 ix, .slice Ag ng cg] #[.int .i64 0, .int .i64 0, .int .i64 0, .int .i64 0, .int .u64 0, .int .u64 0, .bool false, .int .i64 0, .int .i64 0, .int .i64 0, .slice none 0 0, .int .i64 0, .slice none 0 0] #[.int .i64 4, .int .i64 b, .int .i64 0, .int .i64 ob, .int .u64 hi, .int .u64 lo, .bool false, .int .i64 0, .int .i64 0, .int .i64 0, .slice none 0 0, .int .i64 0, .slice none 0 0] #[.int .i64 ob, .int .u64 hi, .int .u64 lo] (((W2.setCell ⟨w.heap.size + 2, 3, none⟩ (.int .i64 ob)).setCell ⟨w.heap.size + 2, 4, none⟩ (.int .u64 hi)).setCell ⟨w.heap.size + 2, 5, none⟩ (.int .u64 lo))) := Lib.hid (((HG2.out.set1 3 _).set1 4 _).set1 5 _)
    clear y3 y4 y5 z3 z4 z5 y0 z0
    generalize ((W2.setCell ⟨w.heap.size + 2, 3, none⟩ (.int .i64 ob)).setCell ⟨w.heap.size + 2, 4, none⟩ (.int .u64 hi)).setCell ⟨w.heap.size + 2, 5, none⟩ (.int .u64 lo) = W3 at HG3 ⊢
    clear HG2
    have y0 := cell_row (j := 0) HG3.out.box rfl
    have z0 := free_row (j := 0) HG3.out.box
    have y6 := cell_row (j := 6) HG3.out.box rfl
    have z6 := free_row (j := 6) HG3.out.box
    have hf : formC ⟨op, by0, sz, obj, hi, lo, gv, rt, off, n, da, ix, gi⟩ = { zc with op := 4, by' := b, obj := ob, hi := hi, lo := lo } := by unfold formC preC; simp only [HO.out, HBY.out]; simp [HX.out]
    go_wp2_with (first | (refine wpList_load_row rfl 30 (.tmp 3) rfl (w.heap.size + 2) 30 #[.int .i64 4, .int .i64 b, .int .i64 0, .int .i64 ob, .int .u64 hi, .int .u64 lo, .bool false, .int .i64 0, .int .i64 0, .int .i64 0, .slice none 0 0, .int .i64 0, .slice none 0 0] (0, 0) _ rfl HG3.out.box Try.underlying30 rfl info30 ?_) | (refine wpList_store_row rfl 30 (.tmp 2) (.tmp 130) rfl (w.heap.size + 1) 30 #[.int .i64 0, .int .i64 0, .int .i64 0, .int .i64 0, .int .u64 0, .int .u64 0, .bool false, .int .i64 0, .int .i64 0, .int .i64 0, .slice none 0 0, .int .i64 0, .slice none 0 0] #[.int .i64 4, .int .i64 b, .int .i64 0, .int .i64 ob, .int .u64 hi, .int .u64 lo, .bool false, .int .i64 0, .int .i64 0, .int .i64 0, .slice none 0 0, .int .i64 0, .slice none 0 0] rfl rfl HG3.out.res info30 rfl (by simp [Value.oneCell']) ?_) | fail)
    have FN := HG3.out.fin #[.int .i64 4, .int .i64 b, .int .i64 0, .int .i64 ob, .int .u64 hi, .int .u64 lo, .bool false, .int .i64 0, .int .i64 0, .int .i64 0, .slice none 0 0, .int .i64 0, .slice none 0 0]
    refine bodyPost_ret (results_cell_row rfl _ _ (w.heap.size + 1) 30 _ (0, 0) _ rfl FN.1 Try.underlying30 rfl info30) rfl (HR.out _ _ ?_)
    unfold FD
    rw [hf]
    exact ⟨.slice none 0 0, .slice none 0 0, rfl, rb_nil _, OI.nil _, FN.2.1, fresh_nil _⟩
  by_cases h7 : o = 7
  · subst h7
    have y3 := cell_row (j := 3) HG2.out.box rfl
    have z3 := free_row (j := 3) HG2.out.box
    have y4 := cell_row (j := 4) HG2.out.box rfl
    have z4 := free_row (j := 4) HG2.out.box
    have y5 := cell_row (j := 5) HG2.out.box rfl
    have z5 := free_row (j := 5) HG2.out.box
    go_upto_region 31 with (first | (refine wpList_load_row rfl 26 (.tmp 4) rfl (w.heap.size + 3) 26 #[.int .i64 ob, .int .u64 hi, .int .u64 lo] (0, 0) _ rfl HG2.out.xb Try.underlying26 rfl info26t ?_) | fail)
    have HG3 : Hid (G4 w #[.int .i64 op, .int .i64 by0, .int .i64 sz, .int .i64 obj, .int .u64 hi, .int .u64 lo, .bool gv, .int .i64 rt, .int .i64 off, .int .i64 n, .slice Ad nd cd, .int .i64 ix, .slice Ag ng cg] #[.int .i64 0, .int .i64 0, .int .i64 0, .int .i64 0, .int .u64 0, .int .u64 0, .bool false, .int .i64 0, .int .i64 0, .int .i64 0, .slice none 0 0, .int .i64 0, .slice none 0 0] #[.int .i64 7, .int .i64 b, .int .i64 0, .int .i64 ob, .int .u64 hi, .int .u64 lo, .bool false, .int .i64 0, .int .i64 0, .int .i64 0, .slice none 0 0, .int .i64 0, .slice none 0 0] #[.int .i64 ob, .int .u64 hi, .int .u64 lo] (((W2.setCell ⟨w.heap.size + 2, 3, none⟩ (.int .i64 ob)).setCell ⟨w.heap.size + 2, 4, none⟩ (.int .u64 hi)).setCell ⟨w.heap.size + 2, 5, none⟩ (.int .u64 lo))) := Lib.hid (((HG2.out.set1 3 _).set1 4 _).set1 5 _)
    clear y3 y4 y5 z3 z4 z5 y0 z0
    generalize ((W2.setCell ⟨w.heap.size + 2, 3, none⟩ (.int .i64 ob)).setCell ⟨w.heap.size + 2, 4, none⟩ (.int .u64 hi)).setCell ⟨w.heap.size + 2, 5, none⟩ (.int .u64 lo) = W3 at HG3 ⊢
    clear HG2
    have y0 := cell_row (j := 0) HG3.out.box rfl
    have z0 := free_row (j := 0) HG3.out.box
    have y6 := cell_row (j := 6) HG3.out.box rfl
    have z6 := free_row (j := 6) HG3.out.box
    have hf : formC ⟨op, by0, sz, obj, hi, lo, gv, rt, off, n, da, ix, gi⟩ = { zc with op := 7, by' := b, obj := ob, hi := hi, lo := lo } := by unfold formC preC; simp only [HO.out, HBY.out]; simp [HX.out]
    go_wp2_with (first | (refine wpList_load_row rfl 30 (.tmp 3) rfl (w.heap.size + 2) 30 #[.int .i64 7, .int .i64 b, .int .i64 0, .int .i64 ob, .int .u64 hi, .int .u64 lo, .bool false, .int .i64 0, .int .i64 0, .int .i64 0, .slice none 0 0, .int .i64 0, .slice none 0 0] (0, 0) _ rfl HG3.out.box Try.underlying30 rfl info30 ?_) | (refine wpList_store_row rfl 30 (.tmp 2) (.tmp 130) rfl (w.heap.size + 1) 30 #[.int .i64 0, .int .i64 0, .int .i64 0, .int .i64 0, .int .u64 0, .int .u64 0, .bool false, .int .i64 0, .int .i64 0, .int .i64 0, .slice none 0 0, .int .i64 0, .slice none 0 0] #[.int .i64 7, .int .i64 b, .int .i64 0, .int .i64 ob, .int .u64 hi, .int .u64 lo, .bool false, .int .i64 0, .int .i64 0, .int .i64 0, .slice none 0 0, .int .i64 0, .slice none 0 0] rfl rfl HG3.out.res info30 rfl (by simp [Value.oneCell']) ?_) | fail)
    have FN := HG3.out.fin #[.int .i64 7, .int .i64 b, .int .i64 0, .int .i64 ob, .int .u64 hi, .int .u64 lo, .bool false, .int .i64 0, .int .i64 0, .int .i64 0, .slice none 0 0, .int .i64 0, .slice none 0 0]
    refine bodyPost_ret (results_cell_row rfl _ _ (w.heap.size + 1) 30 _ (0, 0) _ rfl FN.1 Try.underlying30 rfl info30) rfl (HR.out _ _ ?_)
    unfold FD
    rw [hf]
    exact ⟨.slice none 0 0, .slice none 0 0, rfl, rb_nil _, OI.nil _, FN.2.1, fresh_nil _⟩
  by_cases h3 : o = 3
  · subst h3
    have y3 := cell_row (j := 3) HG2.out.box rfl
    have z3 := free_row (j := 3) HG2.out.box
    have y4 := cell_row (j := 4) HG2.out.box rfl
    have z4 := free_row (j := 4) HG2.out.box
    have y5 := cell_row (j := 5) HG2.out.box rfl
    have z5 := free_row (j := 5) HG2.out.box
    go_upto_region 13 with (first | (refine wpList_load_row rfl 26 (.tmp 4) rfl (w.heap.size + 3) 26 #[.int .i64 ob, .int .u64 hi, .int .u64 lo] (0, 0) _ rfl HG2.out.xb Try.underlying26 rfl info26t ?_) | fail)
    have HG3 : Hid (G4 w #[.int .i64 op, .int .i64 by0, .int .i64 sz, .int .i64 obj, .int .u64 hi, .int .u64 lo, .bool gv, .int .i64 rt, .int .i64 off, .int .i64 n, .slice Ad nd cd, .int .i64 ix, .slice Ag ng cg] #[.int .i64 0, .int .i64 0, .int .i64 0, .int .i64 0, .int .u64 0, .int .u64 0, .bool false, .int .i64 0, .int .i64 0, .int .i64 0, .slice none 0 0, .int .i64 0, .slice none 0 0] #[.int .i64 3, .int .i64 b, .int .i64 0, .int .i64 ob, .int .u64 hi, .int .u64 lo, .bool false, .int .i64 0, .int .i64 0, .int .i64 0, .slice none 0 0, .int .i64 0, .slice none 0 0] #[.int .i64 ob, .int .u64 hi, .int .u64 lo] (((W2.setCell ⟨w.heap.size + 2, 3, none⟩ (.int .i64 ob)).setCell ⟨w.heap.size + 2, 4, none⟩ (.int .u64 hi)).setCell ⟨w.heap.size + 2, 5, none⟩ (.int .u64 lo))) := Lib.hid (((HG2.out.set1 3 _).set1 4 _).set1 5 _)
    clear y3 y4 y5 z3 z4 z5 y0 z0
    generalize ((W2.setCell ⟨w.heap.size + 2, 3, none⟩ (.int .i64 ob)).setCell ⟨w.heap.size + 2, 4, none⟩ (.int .u64 hi)).setCell ⟨w.heap.size + 2, 5, none⟩ (.int .u64 lo) = W3 at HG3 ⊢
    clear HG2
    obtain ⟨r1, h_r1⟩ : ∃ y, rt % 256 = y := ⟨_, rfl⟩
    have I_r1 : Hid (∀ a : World, Calls Try.prog 21 #[.int .i64 rt, .int .i64 256] a fun e w' => e = .returned (.int .i64 r1) ∧ a = w') := Lib.hid (fun a => by have := into_any a rt 256 HB64.out.rt.1 HB64.out.rt.2 (by decide) (by decide); rwa [h_r1] at this)
    have r_r1 : 0 ≤ r1 ∧ r1 < 256 := by omega
    have HE_r1 := Lib.hid h_r1
    clear h_r1
    have cy7 := cell_row (j := 7) HG3.out.cb rfl
    have y7 := cell_row (j := 7) HG3.out.box rfl
    have z7 := free_row (j := 7) HG3.out.box
    go_upto_region 31 with (first | (go_at_call 21; (with_reducible refine (I_r1.out _).mono ?_); rintro e wx ⟨rfl, rfl⟩) | fail)
    have HG4 : Hid (G4 w #[.int .i64 op, .int .i64 by0, .int .i64 sz, .int .i64 obj, .int .u64 hi, .int .u64 lo, .bool gv, .int .i64 rt, .int .i64 off, .int .i64 n, .slice Ad nd cd, .int .i64 ix, .slice Ag ng cg] #[.int .i64 0, .int .i64 0, .int .i64 0, .int .i64 0, .int .u64 0, .int .u64 0, .bool false, .int .i64 0, .int .i64 0, .int .i64 0, .slice none 0 0, .int .i64 0, .slice none 0 0] #[.int .i64 3, .int .i64 b, .int .i64 0, .int .i64 ob, .int .u64 hi, .int .u64 lo, .bool false, .int .i64 r1, .int .i64 0, .int .i64 0, .slice none 0 0, .int .i64 0, .slice none 0 0] #[.int .i64 ob, .int .u64 hi, .int .u64 lo] (W3.setCell ⟨w.heap.size + 2, 7, none⟩ (.int .i64 r1))) := Lib.hid (HG3.out.set1 7 _)
    clear cy7 y7 z7
    generalize W3.setCell ⟨w.heap.size + 2, 7, none⟩ (.int .i64 r1) = W4 at HG4 ⊢
    clear HG3
    have y0 := cell_row (j := 0) HG4.out.box rfl
    have z0 := free_row (j := 0) HG4.out.box
    have y6 := cell_row (j := 6) HG4.out.box rfl
    have z6 := free_row (j := 6) HG4.out.box
    have hf : formC ⟨op, by0, sz, obj, hi, lo, gv, rt, off, n, da, ix, gi⟩ = { zc with op := 3, by' := b, obj := ob, hi := hi, lo := lo, rt := r1 } := by unfold formC preC; simp only [HO.out, HBY.out]; simp [HX.out, HE_r1.out]
    go_wp2_with (first | (refine wpList_load_row rfl 30 (.tmp 3) rfl (w.heap.size + 2) 30 #[.int .i64 3, .int .i64 b, .int .i64 0, .int .i64 ob, .int .u64 hi, .int .u64 lo, .bool false, .int .i64 r1, .int .i64 0, .int .i64 0, .slice none 0 0, .int .i64 0, .slice none 0 0] (0, 0) _ rfl HG4.out.box Try.underlying30 rfl info30 ?_) | (refine wpList_store_row rfl 30 (.tmp 2) (.tmp 130) rfl (w.heap.size + 1) 30 #[.int .i64 0, .int .i64 0, .int .i64 0, .int .i64 0, .int .u64 0, .int .u64 0, .bool false, .int .i64 0, .int .i64 0, .int .i64 0, .slice none 0 0, .int .i64 0, .slice none 0 0] #[.int .i64 3, .int .i64 b, .int .i64 0, .int .i64 ob, .int .u64 hi, .int .u64 lo, .bool false, .int .i64 r1, .int .i64 0, .int .i64 0, .slice none 0 0, .int .i64 0, .slice none 0 0] rfl rfl HG4.out.res info30 rfl (by simp [Value.oneCell']) ?_) | fail)
    have FN := HG4.out.fin #[.int .i64 3, .int .i64 b, .int .i64 0, .int .i64 ob, .int .u64 hi, .int .u64 lo, .bool false, .int .i64 r1, .int .i64 0, .int .i64 0, .slice none 0 0, .int .i64 0, .slice none 0 0]
    refine bodyPost_ret (results_cell_row rfl _ _ (w.heap.size + 1) 30 _ (0, 0) _ rfl FN.1 Try.underlying30 rfl info30) rfl (HR.out _ _ ?_)
    unfold FD
    rw [hf]
    exact ⟨.slice none 0 0, .slice none 0 0, rfl, rb_nil _, OI.nil _, FN.2.1, fresh_nil _⟩
  by_cases h5 : o = 5
  · subst h5
    have y3 := cell_row (j := 3) HG2.out.box rfl
    have z3 := free_row (j := 3) HG2.out.box
    have y4 := cell_row (j := 4) HG2.out.box rfl
    have z4 := free_row (j := 4) HG2.out.box
    have y5 := cell_row (j := 5) HG2.out.box rfl
    have z5 := free_row (j := 5) HG2.out.box
    go_upto_region 16 with (first | (refine wpList_load_row rfl 26 (.tmp 4) rfl (w.heap.size + 3) 26 #[.int .i64 ob, .int .u64 hi, .int .u64 lo] (0, 0) _ rfl HG2.out.xb Try.underlying26 rfl info26t ?_) | fail)
    have HG3 : Hid (G4 w #[.int .i64 op, .int .i64 by0, .int .i64 sz, .int .i64 obj, .int .u64 hi, .int .u64 lo, .bool gv, .int .i64 rt, .int .i64 off, .int .i64 n, .slice Ad nd cd, .int .i64 ix, .slice Ag ng cg] #[.int .i64 0, .int .i64 0, .int .i64 0, .int .i64 0, .int .u64 0, .int .u64 0, .bool false, .int .i64 0, .int .i64 0, .int .i64 0, .slice none 0 0, .int .i64 0, .slice none 0 0] #[.int .i64 5, .int .i64 b, .int .i64 0, .int .i64 ob, .int .u64 hi, .int .u64 lo, .bool false, .int .i64 0, .int .i64 0, .int .i64 0, .slice none 0 0, .int .i64 0, .slice none 0 0] #[.int .i64 ob, .int .u64 hi, .int .u64 lo] (((W2.setCell ⟨w.heap.size + 2, 3, none⟩ (.int .i64 ob)).setCell ⟨w.heap.size + 2, 4, none⟩ (.int .u64 hi)).setCell ⟨w.heap.size + 2, 5, none⟩ (.int .u64 lo))) := Lib.hid (((HG2.out.set1 3 _).set1 4 _).set1 5 _)
    clear y3 y4 y5 z3 z4 z5 y0 z0
    generalize ((W2.setCell ⟨w.heap.size + 2, 3, none⟩ (.int .i64 ob)).setCell ⟨w.heap.size + 2, 4, none⟩ (.int .u64 hi)).setCell ⟨w.heap.size + 2, 5, none⟩ (.int .u64 lo) = W3 at HG3 ⊢
    clear HG2
    have cy6 := cell_row (j := 6) HG3.out.cb rfl
    have y6 := cell_row (j := 6) HG3.out.box rfl
    have z6 := free_row (j := 6) HG3.out.box
    go_upto_region 17 with (first | fail)
    have HG4 : Hid (G4 w #[.int .i64 op, .int .i64 by0, .int .i64 sz, .int .i64 obj, .int .u64 hi, .int .u64 lo, .bool gv, .int .i64 rt, .int .i64 off, .int .i64 n, .slice Ad nd cd, .int .i64 ix, .slice Ag ng cg] #[.int .i64 0, .int .i64 0, .int .i64 0, .int .i64 0, .int .u64 0, .int .u64 0, .bool false, .int .i64 0, .int .i64 0, .int .i64 0, .slice none 0 0, .int .i64 0, .slice none 0 0] #[.int .i64 5, .int .i64 b, .int .i64 0, .int .i64 ob, .int .u64 hi, .int .u64 lo, .bool gv, .int .i64 0, .int .i64 0, .int .i64 0, .slice none 0 0, .int .i64 0, .slice none 0 0] #[.int .i64 ob, .int .u64 hi, .int .u64 lo] (W3.setCell ⟨w.heap.size + 2, 6, none⟩ (.bool gv))) := Lib.hid (HG3.out.set1 6 _)
    clear cy6 y6 z6
    generalize W3.setCell ⟨w.heap.size + 2, 6, none⟩ (.bool gv) = W4 at HG4 ⊢
    clear HG3
    obtain ⟨s1, h_s1⟩ : ∃ y, off % 4294967296 = y := ⟨_, rfl⟩
    have I_s1 : Hid (∀ a : World, Calls Try.prog 21 #[.int .i64 off, .int .i64 4294967296] a fun e w' => e = .returned (.int .i64 s1) ∧ a = w') := Lib.hid (fun a => by have := into_any a off 4294967296 HB64.out.off.1 HB64.out.off.2 (by decide) (by decide); rwa [h_s1] at this)
    have r_s1 : 0 ≤ s1 ∧ s1 < 4294967296 := by omega
    have HE_s1 := Lib.hid h_s1
    clear h_s1
    obtain ⟨d1, h_d1⟩ : ∃ y, s1 - 2147483648 = y := ⟨_, rfl⟩
    have hw_d1 : IntKind.i64.wrap (s1 - 2147483648) = d1 := by rw [IntKind.wrap_i64]; omega
    have HE_d1 := Lib.hid h_d1
    clear h_d1
    have cy8 := cell_row (j := 8) HG4.out.cb rfl
    have y8 := cell_row (j := 8) HG4.out.box rfl
    have z8 := free_row (j := 8) HG4.out.box
    go_upto_region 18 with (first | (go_at_call 21; (with_reducible refine (I_s1.out _).mono ?_); rintro e wx ⟨rfl, rfl⟩) | fail)
    have HG5 : Hid (G4 w #[.int .i64 op, .int .i64 by0, .int .i64 sz, .int .i64 obj, .int .u64 hi, .int .u64 lo, .bool gv, .int .i64 rt, .int .i64 off, .int .i64 n, .slice Ad nd cd, .int .i64 ix, .slice Ag ng cg] #[.int .i64 0, .int .i64 0, .int .i64 0, .int .i64 0, .int .u64 0, .int .u64 0, .bool false, .int .i64 0, .int .i64 0, .int .i64 0, .slice none 0 0, .int .i64 0, .slice none 0 0] #[.int .i64 5, .int .i64 b, .int .i64 0, .int .i64 ob, .int .u64 hi, .int .u64 lo, .bool gv, .int .i64 0, .int .i64 d1, .int .i64 0, .slice none 0 0, .int .i64 0, .slice none 0 0] #[.int .i64 ob, .int .u64 hi, .int .u64 lo] (W4.setCell ⟨w.heap.size + 2, 8, none⟩ (.int .i64 d1))) := Lib.hid (HG4.out.set1 8 _)
    clear cy8 y8 z8
    generalize W4.setCell ⟨w.heap.size + 2, 8, none⟩ (.int .i64 d1) = W5 at HG5 ⊢
    clear HG4
    obtain ⟨s2, h_s2⟩ : ∃ y, n % 4294967296 = y := ⟨_, rfl⟩
    have I_s2 : Hid (∀ a : World, Calls Try.prog 21 #[.int .i64 n, .int .i64 4294967296] a fun e w' => e = .returned (.int .i64 s2) ∧ a = w') := Lib.hid (fun a => by have := into_any a n 4294967296 HB64.out.n.1 HB64.out.n.2 (by decide) (by decide); rwa [h_s2] at this)
    have r_s2 : 0 ≤ s2 ∧ s2 < 4294967296 := by omega
    have HE_s2 := Lib.hid h_s2
    clear h_s2
    obtain ⟨d2, h_d2⟩ : ∃ y, s2 - 2147483648 = y := ⟨_, rfl⟩
    have hw_d2 : IntKind.i64.wrap (s2 - 2147483648) = d2 := by rw [IntKind.wrap_i64]; omega
    have HE_d2 := Lib.hid h_d2
    clear h_d2
    have cy9 := cell_row (j := 9) HG5.out.cb rfl
    have y9 := cell_row (j := 9) HG5.out.box rfl
    have z9 := free_row (j := 9) HG5.out.box
    go_upto_region 31 with (first | (go_at_call 21; (with_reducible refine (I_s2.out _).mono ?_); rintro e wx ⟨rfl, rfl⟩) | fail)
    have HG6 : Hid (G4 w #[.int .i64 op, .int .i64 by0, .int .i64 sz, .int .i64 obj, .int .u64 hi, .int .u64 lo, .bool gv, .int .i64 rt, .int .i64 off, .int .i64 n, .slice Ad nd cd, .int .i64 ix, .slice Ag ng cg] #[.int .i64 0, .int .i64 0, .int .i64 0, .int .i64 0, .int .u64 0, .int .u64 0, .bool false, .int .i64 0, .int .i64 0, .int .i64 0, .slice none 0 0, .int .i64 0, .slice none 0 0] #[.int .i64 5, .int .i64 b, .int .i64 0, .int .i64 ob, .int .u64 hi, .int .u64 lo, .bool gv, .int .i64 0, .int .i64 d1, .int .i64 d2, .slice none 0 0, .int .i64 0, .slice none 0 0] #[.int .i64 ob, .int .u64 hi, .int .u64 lo] (W5.setCell ⟨w.heap.size + 2, 9, none⟩ (.int .i64 d2))) := Lib.hid (HG5.out.set1 9 _)
    clear cy9 y9 z9
    generalize W5.setCell ⟨w.heap.size + 2, 9, none⟩ (.int .i64 d2) = W6 at HG6 ⊢
    clear HG5
    cases gv with
    | true =>
      have y0 := cell_row (j := 0) HG6.out.box rfl
      have z0 := free_row (j := 0) HG6.out.box
      have y6 := cell_row (j := 6) HG6.out.box rfl
      have z6 := free_row (j := 6) HG6.out.box
      have hf : formC ⟨op, by0, sz, obj, hi, lo, true, rt, off, n, da, ix, gi⟩ = { zc with op := 5, by' := b, obj := ob, hi := hi, lo := lo, gv := true, off := d1, n := d2 } := by unfold formC preC; simp only [HO.out, HBY.out]; simp [HX.out, HE_s1.out, HE_d1.out, HE_s2.out, HE_d2.out]
      go_wp2_with (first | (refine wpList_load_row rfl 30 (.tmp 3) rfl (w.heap.size + 2) 30 #[.int .i64 5, .int .i64 b, .int .i64 0, .int .i64 ob, .int .u64 hi, .int .u64 lo, .bool true, .int .i64 0, .int .i64 d1, .int .i64 d2, .slice none 0 0, .int .i64 0, .slice none 0 0] (0, 0) _ rfl HG6.out.box Try.underlying30 rfl info30 ?_) | (refine wpList_store_row rfl 30 (.tmp 2) (.tmp 130) rfl (w.heap.size + 1) 30 #[.int .i64 0, .int .i64 0, .int .i64 0, .int .i64 0, .int .u64 0, .int .u64 0, .bool false, .int .i64 0, .int .i64 0, .int .i64 0, .slice none 0 0, .int .i64 0, .slice none 0 0] #[.int .i64 5, .int .i64 b, .int .i64 0, .int .i64 ob, .int .u64 hi, .int .u64 lo, .bool true, .int .i64 0, .int .i64 d1, .int .i64 d2, .slice none 0 0, .int .i64 0, .slice none 0 0] rfl rfl HG6.out.res info30 rfl (by simp [Value.oneCell']) ?_) | fail)
      have FN := HG6.out.fin #[.int .i64 5, .int .i64 b, .int .i64 0, .int .i64 ob, .int .u64 hi, .int .u64 lo, .bool true, .int .i64 0, .int .i64 d1, .int .i64 d2, .slice none 0 0, .int .i64 0, .slice none 0 0]
      refine bodyPost_ret (results_cell_row rfl _ _ (w.heap.size + 1) 30 _ (0, 0) _ rfl FN.1 Try.underlying30 rfl info30) rfl (HR.out _ _ ?_)
      unfold FD
      rw [hf]
      exact ⟨.slice none 0 0, .slice none 0 0, rfl, rb_nil _, OI.nil _, FN.2.1, fresh_nil _⟩
    | false =>
      have y0 := cell_row (j := 0) HG6.out.box rfl
      have z0 := free_row (j := 0) HG6.out.box
      have y6 := cell_row (j := 6) HG6.out.box rfl
      have z6 := free_row (j := 6) HG6.out.box
      have y4 := cell_row (j := 4) HG6.out.box rfl
      have z4 := free_row (j := 4) HG6.out.box
      have y5 := cell_row (j := 5) HG6.out.box rfl
      have z5 := free_row (j := 5) HG6.out.box
      go_upto_region 33 with (first | fail)
      have HG7 : Hid (G4 w #[.int .i64 op, .int .i64 by0, .int .i64 sz, .int .i64 obj, .int .u64 hi, .int .u64 lo, .bool false, .int .i64 rt, .int .i64 off, .int .i64 n, .slice Ad nd cd, .int .i64 ix, .slice Ag ng cg] #[.int .i64 0, .int .i64 0, .int .i64 0, .int .i64 0, .int .u64 0, .int .u64 0, .bool false, .int .i64 0, .int .i64 0, .int .i64 0, .slice none 0 0, .int .i64 0, .slice none 0 0] #[.int .i64 5, .int .i64 b, .int .i64 0, .int .i64 ob, .int .u64 0, .int .u64 0, .bool false, .int .i64 0, .int .i64 d1, .int .i64 d2, .slice none 0 0, .int .i64 0, .slice none 0 0] #[.int .i64 ob, .int .u64 hi, .int .u64 lo] ((W6.setCell ⟨w.heap.size + 2, 4, none⟩ (.int .u64 0)).setCell ⟨w.heap.size + 2, 5, none⟩ (.int .u64 0))) := Lib.hid ((HG6.out.set1 4 _).set1 5 _)
      clear y0 z0 y6 z6 y4 z4 y5 z5
      generalize (W6.setCell ⟨w.heap.size + 2, 4, none⟩ (.int .u64 0)).setCell ⟨w.heap.size + 2, 5, none⟩ (.int .u64 0) = W7 at HG7 ⊢
      clear HG6
      have hf : formC ⟨op, by0, sz, obj, hi, lo, false, rt, off, n, da, ix, gi⟩ = { zc with op := 5, by' := b, obj := ob, hi := 0, lo := 0, gv := false, off := d1, n := d2 } := by unfold formC preC; simp only [HO.out, HBY.out]; simp [HX.out, HE_s1.out, HE_d1.out, HE_s2.out, HE_d2.out]
      go_wp2_with (first | (refine wpList_load_row rfl 30 (.tmp 3) rfl (w.heap.size + 2) 30 #[.int .i64 5, .int .i64 b, .int .i64 0, .int .i64 ob, .int .u64 0, .int .u64 0, .bool false, .int .i64 0, .int .i64 d1, .int .i64 d2, .slice none 0 0, .int .i64 0, .slice none 0 0] (0, 0) _ rfl HG7.out.box Try.underlying30 rfl info30 ?_) | (refine wpList_store_row rfl 30 (.tmp 2) (.tmp 130) rfl (w.heap.size + 1) 30 #[.int .i64 0, .int .i64 0, .int .i64 0, .int .i64 0, .int .u64 0, .int .u64 0, .bool false, .int .i64 0, .int .i64 0, .int .i64 0, .slice none 0 0, .int .i64 0, .slice none 0 0] #[.int .i64 5, .int .i64 b, .int .i64 0, .int .i64 ob, .int .u64 0, .int .u64 0, .bool false, .int .i64 0, .int .i64 d1, .int .i64 d2, .slice none 0 0, .int .i64 0, .slice none 0 0] rfl rfl HG7.out.res info30 rfl (by simp [Value.oneCell']) ?_) | fail)
      have FN := HG7.out.fin #[.int .i64 5, .int .i64 b, .int .i64 0, .int .i64 ob, .int .u64 0, .int .u64 0, .bool false, .int .i64 0, .int .i64 d1, .int .i64 d2, .slice none 0 0, .int .i64 0, .slice none 0 0]
      refine bodyPost_ret (results_cell_row rfl _ _ (w.heap.size + 1) 30 _ (0, 0) _ rfl FN.1 Try.underlying30 rfl info30) rfl (HR.out _ _ ?_)
      unfold FD
      rw [hf]
      exact ⟨.slice none 0 0, .slice none 0 0, rfl, rb_nil _, OI.nil _, FN.2.1, fresh_nil _⟩
  by_cases h6 : o = 6
  · subst h6
    have y3 := cell_row (j := 3) HG2.out.box rfl
    have z3 := free_row (j := 3) HG2.out.box
    have y4 := cell_row (j := 4) HG2.out.box rfl
    have z4 := free_row (j := 4) HG2.out.box
    have y5 := cell_row (j := 5) HG2.out.box rfl
    have z5 := free_row (j := 5) HG2.out.box
    go_upto_region 21 with (first | (refine wpList_load_row rfl 26 (.tmp 4) rfl (w.heap.size + 3) 26 #[.int .i64 ob, .int .u64 hi, .int .u64 lo] (0, 0) _ rfl HG2.out.xb Try.underlying26 rfl info26t ?_) | fail)
    have HG3 : Hid (G4 w #[.int .i64 op, .int .i64 by0, .int .i64 sz, .int .i64 obj, .int .u64 hi, .int .u64 lo, .bool gv, .int .i64 rt, .int .i64 off, .int .i64 n, .slice Ad nd cd, .int .i64 ix, .slice Ag ng cg] #[.int .i64 0, .int .i64 0, .int .i64 0, .int .i64 0, .int .u64 0, .int .u64 0, .bool false, .int .i64 0, .int .i64 0, .int .i64 0, .slice none 0 0, .int .i64 0, .slice none 0 0] #[.int .i64 6, .int .i64 b, .int .i64 0, .int .i64 ob, .int .u64 hi, .int .u64 lo, .bool false, .int .i64 0, .int .i64 0, .int .i64 0, .slice none 0 0, .int .i64 0, .slice none 0 0] #[.int .i64 ob, .int .u64 hi, .int .u64 lo] (((W2.setCell ⟨w.heap.size + 2, 3, none⟩ (.int .i64 ob)).setCell ⟨w.heap.size + 2, 4, none⟩ (.int .u64 hi)).setCell ⟨w.heap.size + 2, 5, none⟩ (.int .u64 lo))) := Lib.hid (((HG2.out.set1 3 _).set1 4 _).set1 5 _)
    clear y3 y4 y5 z3 z4 z5 y0 z0
    generalize ((W2.setCell ⟨w.heap.size + 2, 3, none⟩ (.int .i64 ob)).setCell ⟨w.heap.size + 2, 4, none⟩ (.int .u64 hi)).setCell ⟨w.heap.size + 2, 5, none⟩ (.int .u64 lo) = W3 at HG3 ⊢
    clear HG2
    have cy6 := cell_row (j := 6) HG3.out.cb rfl
    have y6 := cell_row (j := 6) HG3.out.box rfl
    have z6 := free_row (j := 6) HG3.out.box
    go_upto_region 22 with (first | fail)
    have HG4 : Hid (G4 w #[.int .i64 op, .int .i64 by0, .int .i64 sz, .int .i64 obj, .int .u64 hi, .int .u64 lo, .bool gv, .int .i64 rt, .int .i64 off, .int .i64 n, .slice Ad nd cd, .int .i64 ix, .slice Ag ng cg] #[.int .i64 0, .int .i64 0, .int .i64 0, .int .i64 0, .int .u64 0, .int .u64 0, .bool false, .int .i64 0, .int .i64 0, .int .i64 0, .slice none 0 0, .int .i64 0, .slice none 0 0] #[.int .i64 6, .int .i64 b, .int .i64 0, .int .i64 ob, .int .u64 hi, .int .u64 lo, .bool gv, .int .i64 0, .int .i64 0, .int .i64 0, .slice none 0 0, .int .i64 0, .slice none 0 0] #[.int .i64 ob, .int .u64 hi, .int .u64 lo] (W3.setCell ⟨w.heap.size + 2, 6, none⟩ (.bool gv))) := Lib.hid (HG3.out.set1 6 _)
    clear cy6 y6 z6
    generalize W3.setCell ⟨w.heap.size + 2, 6, none⟩ (.bool gv) = W4 at HG4 ⊢
    clear HG3
    obtain ⟨s1, h_s1⟩ : ∃ y, off % 4294967296 = y := ⟨_, rfl⟩
    have I_s1 : Hid (∀ a : World, Calls Try.prog 21 #[.int .i64 off, .int .i64 4294967296] a fun e w' => e = .returned (.int .i64 s1) ∧ a = w') := Lib.hid (fun a => by have := into_any a off 4294967296 HB64.out.off.1 HB64.out.off.2 (by decide) (by decide); rwa [h_s1] at this)
    have r_s1 : 0 ≤ s1 ∧ s1 < 4294967296 := by omega
    have HE_s1 := Lib.hid h_s1
    clear h_s1
    obtain ⟨d1, h_d1⟩ : ∃ y, s1 - 2147483648 = y := ⟨_, rfl⟩
    have hw_d1 : IntKind.i64.wrap (s1 - 2147483648) = d1 := by rw [IntKind.wrap_i64]; omega
    have HE_d1 := Lib.hid h_d1
    clear h_d1
    have cy8 := cell_row (j := 8) HG4.out.cb rfl
    have y8 := cell_row (j := 8) HG4.out.box rfl
    have z8 := free_row (j := 8) HG4.out.box
    go_upto_region 23 with (first | (go_at_call 21; (with_reducible refine (I_s1.out _).mono ?_); rintro e wx ⟨rfl, rfl⟩) | fail)
    have HG5 : Hid (G4 w #[.int .i64 op, .int .i64 by0, .int .i64 sz, .int .i64 obj, .int .u64 hi, .int .u64 lo, .bool gv, .int .i64 rt, .int .i64 off, .int .i64 n, .slice Ad nd cd, .int .i64 ix, .slice Ag ng cg] #[.int .i64 0, .int .i64 0, .int .i64 0, .int .i64 0, .int .u64 0, .int .u64 0, .bool false, .int .i64 0, .int .i64 0, .int .i64 0, .slice none 0 0, .int .i64 0, .slice none 0 0] #[.int .i64 6, .int .i64 b, .int .i64 0, .int .i64 ob, .int .u64 hi, .int .u64 lo, .bool gv, .int .i64 0, .int .i64 d1, .int .i64 0, .slice none 0 0, .int .i64 0, .slice none 0 0] #[.int .i64 ob, .int .u64 hi, .int .u64 lo] (W4.setCell ⟨w.heap.size + 2, 8, none⟩ (.int .i64 d1))) := Lib.hid (HG4.out.set1 8 _)
    clear cy8 y8 z8
    generalize W4.setCell ⟨w.heap.size + 2, 8, none⟩ (.int .i64 d1) = W5 at HG5 ⊢
    clear HG4
    have y10 := cell_row (j := 10) HG5.out.box rfl
    have z10 := free_row (j := 10) HG5.out.box
    go_upto_region 31 with (first | fail)
    have HG6 : Hid (G4 w #[.int .i64 op, .int .i64 by0, .int .i64 sz, .int .i64 obj, .int .u64 hi, .int .u64 lo, .bool gv, .int .i64 rt, .int .i64 off, .int .i64 n, .slice Ad nd cd, .int .i64 ix, .slice Ag ng cg] #[.int .i64 0, .int .i64 0, .int .i64 0, .int .i64 0, .int .u64 0, .int .u64 0, .bool false, .int .i64 0, .int .i64 0, .int .i64 0, .slice none 0 0, .int .i64 0, .slice none 0 0] #[.int .i64 6, .int .i64 b, .int .i64 0, .int .i64 ob, .int .u64 hi, .int .u64 lo, .bool gv, .int .i64 0, .int .i64 d1, .int .i64 0, .slice Ad kd cd, .int .i64 0, .slice none 0 0] #[.int .i64 ob, .int .u64 hi, .int .u64 lo] (W5.setCell ⟨w.heap.size + 2, 10, none⟩ (.slice Ad kd cd))) := Lib.hid (HG5.out.set1 10 _)
    clear y10 z10
    generalize W5.setCell ⟨w.heap.size + 2, 10, none⟩ (.slice Ad kd cd) = W6 at HG6 ⊢
    clear HG5
    cases gv with
    | true =>
      have y0 := cell_row (j := 0) HG6.out.box rfl
      have z0 := free_row (j := 0) HG6.out.box
      have y6 := cell_row (j := 6) HG6.out.box rfl
      have z6 := free_row (j := 6) HG6.out.box
      have hf : formC ⟨op, by0, sz, obj, hi, lo, true, rt, off, n, da, ix, gi⟩ = { zc with op := 6, by' := b, obj := ob, hi := hi, lo := lo, gv := true, off := d1, da := ys } := by unfold formC preC; simp only [HO.out, HBY.out]; simp [HX.out, HE_s1.out, HE_d1.out, HT.out]
      go_wp2_with (first | (refine wpList_load_row rfl 30 (.tmp 3) rfl (w.heap.size + 2) 30 #[.int .i64 6, .int .i64 b, .int .i64 0, .int .i64 ob, .int .u64 hi, .int .u64 lo, .bool true, .int .i64 0, .int .i64 d1, .int .i64 0, .slice Ad kd cd, .int .i64 0, .slice none 0 0] (0, 0) _ rfl HG6.out.box Try.underlying30 rfl info30 ?_) | (refine wpList_store_row rfl 30 (.tmp 2) (.tmp 130) rfl (w.heap.size + 1) 30 #[.int .i64 0, .int .i64 0, .int .i64 0, .int .i64 0, .int .u64 0, .int .u64 0, .bool false, .int .i64 0, .int .i64 0, .int .i64 0, .slice none 0 0, .int .i64 0, .slice none 0 0] #[.int .i64 6, .int .i64 b, .int .i64 0, .int .i64 ob, .int .u64 hi, .int .u64 lo, .bool true, .int .i64 0, .int .i64 d1, .int .i64 0, .slice Ad kd cd, .int .i64 0, .slice none 0 0] rfl rfl HG6.out.res info30 rfl (by simp [Value.oneCell']) ?_) | fail)
      have FN := HG6.out.fin #[.int .i64 6, .int .i64 b, .int .i64 0, .int .i64 ob, .int .u64 hi, .int .u64 lo, .bool true, .int .i64 0, .int .i64 d1, .int .i64 0, .slice Ad kd cd, .int .i64 0, .slice none 0 0]
      refine bodyPost_ret (results_cell_row rfl _ _ (w.heap.size + 1) 30 _ (0, 0) _ rfl FN.1 Try.underlying30 rfl info30) rfl (HR.out _ _ ?_)
      unfold FD
      rw [hf]
      exact ⟨.slice Ad kd cd, .slice none 0 0, rfl, (HDK.out.below (FN.2.1)), OI.nil _, FN.2.1, fresh_nil _⟩
    | false =>
      have y0 := cell_row (j := 0) HG6.out.box rfl
      have z0 := free_row (j := 0) HG6.out.box
      have y6 := cell_row (j := 6) HG6.out.box rfl
      have z6 := free_row (j := 6) HG6.out.box
      have y4 := cell_row (j := 4) HG6.out.box rfl
      have z4 := free_row (j := 4) HG6.out.box
      have y5 := cell_row (j := 5) HG6.out.box rfl
      have z5 := free_row (j := 5) HG6.out.box
      go_upto_region 33 with (first | fail)
      have HG7 : Hid (G4 w #[.int .i64 op, .int .i64 by0, .int .i64 sz, .int .i64 obj, .int .u64 hi, .int .u64 lo, .bool false, .int .i64 rt, .int .i64 off, .int .i64 n, .slice Ad nd cd, .int .i64 ix, .slice Ag ng cg] #[.int .i64 0, .int .i64 0, .int .i64 0, .int .i64 0, .int .u64 0, .int .u64 0, .bool false, .int .i64 0, .int .i64 0, .int .i64 0, .slice none 0 0, .int .i64 0, .slice none 0 0] #[.int .i64 6, .int .i64 b, .int .i64 0, .int .i64 ob, .int .u64 0, .int .u64 0, .bool false, .int .i64 0, .int .i64 d1, .int .i64 0, .slice Ad kd cd, .int .i64 0, .slice none 0 0] #[.int .i64 ob, .int .u64 hi, .int .u64 lo] ((W6.setCell ⟨w.heap.size + 2, 4, none⟩ (.int .u64 0)).setCell ⟨w.heap.size + 2, 5, none⟩ (.int .u64 0))) := Lib.hid ((HG6.out.set1 4 _).set1 5 _)
      clear y0 z0 y6 z6 y4 z4 y5 z5
      generalize (W6.setCell ⟨w.heap.size + 2, 4, none⟩ (.int .u64 0)).setCell ⟨w.heap.size + 2, 5, none⟩ (.int .u64 0) = W7 at HG7 ⊢
      clear HG6
      have hf : formC ⟨op, by0, sz, obj, hi, lo, false, rt, off, n, da, ix, gi⟩ = { zc with op := 6, by' := b, obj := ob, hi := 0, lo := 0, gv := false, off := d1, da := ys } := by unfold formC preC; simp only [HO.out, HBY.out]; simp [HX.out, HE_s1.out, HE_d1.out, HT.out]
      go_wp2_with (first | (refine wpList_load_row rfl 30 (.tmp 3) rfl (w.heap.size + 2) 30 #[.int .i64 6, .int .i64 b, .int .i64 0, .int .i64 ob, .int .u64 0, .int .u64 0, .bool false, .int .i64 0, .int .i64 d1, .int .i64 0, .slice Ad kd cd, .int .i64 0, .slice none 0 0] (0, 0) _ rfl HG7.out.box Try.underlying30 rfl info30 ?_) | (refine wpList_store_row rfl 30 (.tmp 2) (.tmp 130) rfl (w.heap.size + 1) 30 #[.int .i64 0, .int .i64 0, .int .i64 0, .int .i64 0, .int .u64 0, .int .u64 0, .bool false, .int .i64 0, .int .i64 0, .int .i64 0, .slice none 0 0, .int .i64 0, .slice none 0 0] #[.int .i64 6, .int .i64 b, .int .i64 0, .int .i64 ob, .int .u64 0, .int .u64 0, .bool false, .int .i64 0, .int .i64 d1, .int .i64 0, .slice Ad kd cd, .int .i64 0, .slice none 0 0] rfl rfl HG7.out.res info30 rfl (by simp [Value.oneCell']) ?_) | fail)
      have FN := HG7.out.fin #[.int .i64 6, .int .i64 b, .int .i64 0, .int .i64 ob, .int .u64 0, .int .u64 0, .bool false, .int .i64 0, .int .i64 d1, .int .i64 0, .slice Ad kd cd, .int .i64 0, .slice none 0 0]
      refine bodyPost_ret (results_cell_row rfl _ _ (w.heap.size + 1) 30 _ (0, 0) _ rfl FN.1 Try.underlying30 rfl info30) rfl (HR.out _ _ ?_)
      unfold FD
      rw [hf]
      exact ⟨.slice Ad kd cd, .slice none 0 0, rfl, (HDK.out.below (FN.2.1)), OI.nil _, FN.2.1, fresh_nil _⟩
  by_cases h8 : o = 8
  · subst h8
    obtain ⟨x1, h_x1⟩ : ∃ y, ix % 65536 = y := ⟨_, rfl⟩
    have I_x1 : Hid (∀ a : World, Calls Try.prog 21 #[.int .i64 ix, .int .i64 65536] a fun e w' => e = .returned (.int .i64 x1) ∧ a = w') := Lib.hid (fun a => by have := into_any a ix 65536 HB64.out.ix.1 HB64.out.ix.2 (by decide) (by decide); rwa [h_x1] at this)
    have r_x1 : 0 ≤ x1 ∧ x1 < 65536 := by omega
    have HE_x1 := Lib.hid h_x1
    clear h_x1
    have cy11 := cell_row (j := 11) HG2.out.cb rfl
    have y11 := cell_row (j := 11) HG2.out.box rfl
    have z11 := free_row (j := 11) HG2.out.box
    go_upto_region 31 with (first | (go_at_call 21; (with_reducible refine (I_x1.out _).mono ?_); rintro e wx ⟨rfl, rfl⟩) | fail)
    have HG3 : Hid (G4 w #[.int .i64 op, .int .i64 by0, .int .i64 sz, .int .i64 obj, .int .u64 hi, .int .u64 lo, .bool gv, .int .i64 rt, .int .i64 off, .int .i64 n, .slice Ad nd cd, .int .i64 ix, .slice Ag ng cg] #[.int .i64 0, .int .i64 0, .int .i64 0, .int .i64 0, .int .u64 0, .int .u64 0, .bool false, .int .i64 0, .int .i64 0, .int .i64 0, .slice none 0 0, .int .i64 0, .slice none 0 0] #[.int .i64 8, .int .i64 b, .int .i64 0, .int .i64 0, .int .u64 0, .int .u64 0, .bool false, .int .i64 0, .int .i64 0, .int .i64 0, .slice none 0 0, .int .i64 x1, .slice none 0 0] #[.int .i64 ob, .int .u64 hi, .int .u64 lo] (W2.setCell ⟨w.heap.size + 2, 11, none⟩ (.int .i64 x1))) := Lib.hid (HG2.out.set1 11 _)
    clear cy11 y11 z11 y0 z0
    generalize W2.setCell ⟨w.heap.size + 2, 11, none⟩ (.int .i64 x1) = W3 at HG3 ⊢
    clear HG2
    have y0 := cell_row (j := 0) HG3.out.box rfl
    have z0 := free_row (j := 0) HG3.out.box
    have y6 := cell_row (j := 6) HG3.out.box rfl
    have z6 := free_row (j := 6) HG3.out.box
    have hf : formC ⟨op, by0, sz, obj, hi, lo, gv, rt, off, n, da, ix, gi⟩ = { zc with op := 8, by' := b, ix := x1 } := by unfold formC preC; simp only [HO.out, HBY.out]; simp [HE_x1.out]
    go_wp2_with (first | (refine wpList_load_row rfl 30 (.tmp 3) rfl (w.heap.size + 2) 30 #[.int .i64 8, .int .i64 b, .int .i64 0, .int .i64 0, .int .u64 0, .int .u64 0, .bool false, .int .i64 0, .int .i64 0, .int .i64 0, .slice none 0 0, .int .i64 x1, .slice none 0 0] (0, 0) _ rfl HG3.out.box Try.underlying30 rfl info30 ?_) | (refine wpList_store_row rfl 30 (.tmp 2) (.tmp 130) rfl (w.heap.size + 1) 30 #[.int .i64 0, .int .i64 0, .int .i64 0, .int .i64 0, .int .u64 0, .int .u64 0, .bool false, .int .i64 0, .int .i64 0, .int .i64 0, .slice none 0 0, .int .i64 0, .slice none 0 0] #[.int .i64 8, .int .i64 b, .int .i64 0, .int .i64 0, .int .u64 0, .int .u64 0, .bool false, .int .i64 0, .int .i64 0, .int .i64 0, .slice none 0 0, .int .i64 x1, .slice none 0 0] rfl rfl HG3.out.res info30 rfl (by simp [Value.oneCell']) ?_) | fail)
    have FN := HG3.out.fin #[.int .i64 8, .int .i64 b, .int .i64 0, .int .i64 0, .int .u64 0, .int .u64 0, .bool false, .int .i64 0, .int .i64 0, .int .i64 0, .slice none 0 0, .int .i64 x1, .slice none 0 0]
    refine bodyPost_ret (results_cell_row rfl _ _ (w.heap.size + 1) 30 _ (0, 0) _ rfl FN.1 Try.underlying30 rfl info30) rfl (HR.out _ _ ?_)
    unfold FD
    rw [hf]
    exact ⟨.slice none 0 0, .slice none 0 0, rfl, rb_nil _, OI.nil _, FN.2.1, fresh_nil _⟩
  by_cases h9 : o = 9
  · subst h9
    go_wp2_with fail
    clear y0 z0
    go_loopw [6] (fun v6 we => ∃ (k : Nat) (Ah : Option Addr) (ch : Nat), k ≤ ng ∧ k ≤ 255 ∧ v6 = .int .i64 (k : Int) ∧ Hid (OI we (.slice Ah k ch) ((gi.take k).map fun g => g % 65536)) ∧ Hid (∀ b, (Value.slice Ah k ch).ownBlock = some b → w.heap.size + 4 ≤ b) ∧ Hid (G4 w #[.int .i64 op, .int .i64 by0, .int .i64 sz, .int .i64 obj, .int .u64 hi, .int .u64 lo, .bool gv, .int .i64 rt, .int .i64 off, .int .i64 n, .slice Ad nd cd, .int .i64 ix, .slice Ag ng cg] #[.int .i64 0, .int .i64 0, .int .i64 0, .int .i64 0, .int .u64 0, .int .u64 0, .bool false, .int .i64 0, .int .i64 0, .int .i64 0, .slice none 0 0, .int .i64 0, .slice none 0 0] #[.int .i64 9, .int .i64 b, .int .i64 0, .int .i64 0, .int .u64 0, .int .u64 0, .bool false, .int .i64 0, .int .i64 0, .int .i64 0, .slice none 0 0, .int .i64 0, .slice Ah k ch] #[.int .i64 ob, .int .u64 hi, .int .u64 lo] we)) (fun v6 _ => ng - (intOf v6).toNat)
    case atStart => exact ⟨0, none, 0, Nat.zero_le _, Nat.zero_le _, rfl, Lib.hid (OI.nil _), Lib.hid (nil_farQ _), HG2⟩
    case round =>
      clear HG2
      obtain ⟨k, Ah, ch, hk, hk5, rfl, HOk, HF, HG⟩ := hrel
      have cy12 := cell_row (j := 12) HG.out.cb rfl
      by_cases hlt : k < ng
      · have hlt' : (k : Int) < (ng : Int) := by omega
        by_cases hl5 : k < 255
        · have hl5' : (k : Int) < 255 := by omega
          have hk0 : (0 : Int) ≤ (k : Int) := by omega
          have hnt : ((k : Int)).toNat = k := by omega
          have hw3 : IntKind.i64.wrap ((k : Int) + 1) = (k : Int) + 1 := by rw [IntKind.wrap_i64]; omega
          obtain ⟨u, hu⟩ : ∃ u, gi[k]? = some u := ⟨_, List.getElem?_eq_getElem (by rw [HNG.out]; exact hlt)⟩
          obtain ⟨g, o2, rfl, hcell⟩ := HAG.out (by omega)
          have HCELL := Lib.hid (fun y hb => hcell y hb k u hu)
          have hub := HB64.out.gi u (List.mem_of_getElem? hu)
          obtain ⟨t, hte⟩ : ∃ t, u % 65536 = t := ⟨_, rfl⟩
          have IU : Hid (∀ a : World, Calls Try.prog 21 #[.int .i64 u, .int .i64 65536] a fun e w' => e = .returned (.int .i64 t) ∧ a = w') := Lib.hid (fun a => by have := into_any a u 65536 hub.1 hub.2 (by decide) (by decide); rwa [hte] at this)
          have HTE := Lib.hid hte
          have HU := Lib.hid hu
          clear hte hub hcell hu
          go_upto_region 30 with fail
          have HGd : Hid (G4 w #[.int .i64 op, .int .i64 by0, .int .i64 sz, .int .i64 obj, .int .u64 hi, .int .u64 lo, .bool gv, .int .i64 rt, .int .i64 off, .int .i64 n, .slice Ad nd cd, .int .i64 ix, .slice (some ⟨g, o2, none⟩) ng cg] #[.int .i64 0, .int .i64 0, .int .i64 0, .int .i64 0, .int .u64 0, .int .u64 0, .bool false, .int .i64 0, .int .i64 0, .int .i64 0, .slice none 0 0, .int .i64 0, .slice none 0 0] #[.int .i64 9, .int .i64 b, .int .i64 0, .int .i64 0, .int .u64 0, .int .u64 0, .bool false, .int .i64 0, .int .i64 0, .int .i64 0, .slice none 0 0, .int .i64 0, .slice Ah k ch] #[.int .i64 ob, .int .u64 hi, .int .u64 lo] wr.drew) := Lib.hid (HG.out.on ((Below.refl _ wr).drew))
          have HOd : Hid (OI wr.drew (.slice Ah k ch) ((gi.take k).map fun g => g % 65536)) := Lib.hid (own_keeps HOk.out (Kept.of_below (Below.refl _ wr).drew))
          clear cy12 HG HOk
          generalize hwd : wr.drew = Wd at HGd HOd
          have hbl : Below Wd.heap.size Wd (Wd.alloc (.cells #[.int .i64 t] 3)) := (Below.refl _ _).alloc (Nat.le_refl _) _
          have HGe := Lib.hid (HGd.out.on hbl)
          have HOe : Hid (OI (Wd.alloc (.cells #[.int .i64 t] 3)) (.slice Ah k ch) ((gi.take k).map fun g => g % 65536)) := Lib.hid (own_keeps HOd.out (Kept.of_below hbl))
          have hlk0 : ((gi.take k).map fun g => g % 65536).length = k := by rw [List.length_map, List.length_take, HNG.out]; omega
          obtain ⟨ls, hls⟩ : ∃ ls, ((gi.take k).map fun g => g % 65536) = ls := ⟨_, rfl⟩
          rw [hls] at HOe hlk0
          have HLS := Lib.hid hls
          have HLK := Lib.hid hlk0
          have HOf : Hid ((Wd.alloc (.cells #[.int .i64 t] 3)).ownsRow 0 3 1 (.slice Ah k ch) k (ls.map numC)) := Lib.hid (by have := HOe.out; unfold OI at this; rw [hlk0] at this; exact this)
          clear hbl HOd hls hlk0
          refine wp_region_noPanic ?_
          refine wp_region_held_drew (S := fun y => y.heap[w.heap.size]? = some (.cells #[.int .i64 op, .int .i64 by0, .int .i64 sz, .int .i64 obj, .int .u64 hi, .int .u64 lo, .bool gv, .int .i64 rt, .int .i64 off, .int .i64 n, .slice Ad nd cd, .int .i64 ix, .slice (some ⟨g, o2, none⟩) ng cg] 30) ∧ Below w.heap.size w y) (by kernel_rfl) (by rw [hwd]; exact ⟨HGd.out.cb, HGd.out.below⟩) (fun hHeld => ?_)
          rw [hwd] at hHeld
          rw [hwd]
          refine wpAnyH_take (i := 0) (oi := { dst := some 103, op := Go.Op.fieldAddr 30 (Go.Operand.tmp 3) 10, type := 0, pos := "law.go:78", after := #[], guard := none }) (v := ?_) rfl (by kernel_rfl) (by kernel_rfl) (by kernel_rfl) (fun _ _ _ h => h) (Or.inl ⟨by rfl, ?hy0_1⟩) (by assumption) ?rest0_1
          case hy0_1 => (intro w hSw; go_simp; try with_reducible rfl)
          try simp only [Act.put, List.setIfInBounds_toArray, List.set_cons_zero, List.set_cons_succ]
          refine wpAnyH_take (i := 2) (oi := { dst := some 105, op := Go.Op.fieldAddr 30 (Go.Operand.tmp 1) 10, type := 0, pos := "law.go:78", after := #[], guard := none }) (v := ?_) rfl (by kernel_rfl) (by kernel_rfl) (by kernel_rfl) (fun _ _ _ h => h) (Or.inl ⟨by rfl, ?hy2_2⟩) (by assumption) ?rest2_2
          case hy2_2 => (intro w hSw; go_simp; try with_reducible rfl)
          try simp only [Act.put, List.setIfInBounds_toArray, List.set_cons_zero, List.set_cons_succ]
          refine wpAnyH_take (i := 4) (oi := { dst := some 107, op := Go.Op.move (Go.Operand.tmp 6), type := 3, pos := "law.go:78", after := #[], guard := none }) (v := ?_) rfl (by kernel_rfl) (by kernel_rfl) (by kernel_rfl) (fun _ _ _ h => h) (Or.inl ⟨by rfl, ?hy4_3⟩) (by assumption) ?rest4_3
          case hy4_3 => (intro w hSw; go_simp; try with_reducible rfl)
          try simp only [Act.put, List.setIfInBounds_toArray, List.set_cons_zero, List.set_cons_succ]
          refine wpAnyH_take (i := 3) (oi := { dst := some 106, op := Go.Op.load 28 (Go.Operand.tmp 105), type := 28, pos := "law.go:78", after := #[{ on := 2, ground := Go.Ground.data }], guard := none }) (v := ?_) rfl (by kernel_rfl) (by kernel_rfl) (by kernel_rfl) (fun _ _ _ h => h) (Or.inl ⟨by rfl, ?hy3_4⟩) (by assumption) ?rest3_4
          case hy3_4 => (intro w hSw; have zc := cell_row (j := 12) hSw.1 rfl; go_simp; try with_reducible rfl)
          try simp only [Act.put, List.setIfInBounds_toArray, List.set_cons_zero, List.set_cons_succ]
          refine wpAnyH_take (i := 5) (oi := { dst := some 108, op := Go.Op.indexAddr 28 (Go.Operand.tmp 106) (Go.Operand.tmp 107), type := 0, pos := "law.go:78", after := #[{ on := 3, ground := Go.Ground.data }, { on := 4, ground := Go.Ground.data }], guard := none }) (v := ?_) rfl (by kernel_rfl) (by kernel_rfl) (by kernel_rfl) (fun _ _ _ h => h) (Or.inl ⟨by rfl, ?hy5_5⟩) (by assumption) ?rest5_5
          case hy5_5 => (intro w hSw; go_simp; try with_reducible rfl)
          try simp only [Act.put, List.setIfInBounds_toArray, List.set_cons_zero, List.set_cons_succ]
          refine wpAnyH_take (i := 6) (oi := { dst := some 109, op := Go.Op.load 3 (Go.Operand.tmp 108), type := 3, pos := "law.go:78", after := #[{ on := 5, ground := Go.Ground.data }], guard := none }) (v := ?_) rfl (by kernel_rfl) (by kernel_rfl) (by kernel_rfl) (fun _ _ _ h => h) (Or.inl ⟨by rfl, ?hy6_6⟩) (by assumption) ?rest6_6
          case hy6_6 => (intro w hSw; have zc := HCELL.out _ hSw.2; go_simp; try with_reducible rfl)
          try simp only [Act.put, List.setIfInBounds_toArray, List.set_cons_zero, List.set_cons_succ]
          refine wpAnyH_ready (rs := [1, 7]) (by kernel_rfl) (by simp) ?_
          refine AllReadyH.cons (o := { dst := some 104, op := Go.Op.load 28 (Go.Operand.tmp 103), type := 28, pos := "law.go:78", after := #[{ on := 0, ground := Go.Ground.data }], guard := none }) rfl (fun K hK => ?_) (AllReadyH.cons (o := { dst := some 110, op := Go.Op.call { callee := Go.Callee.value (Go.Operand.func 21), args := #[Go.Operand.tmp 109, Go.Operand.const (Go.Value.int Go.IntKind.i64 65536)], argTypes := #[3, 3] }, type := 3, pos := "law.go:78", after := #[{ on := 6, ground := Go.Ground.data }], guard := none }) rfl (fun K hK => ?_) AllReadyH.nil)
          · have yG := cell_row (j := 12) HGd.out.box rfl
            go_simp
            clear yG
            refine hK.out _ _ (hHeld) (fun hHeld2 => ?_)
            clear hK K hHeld
            have hHeld := hHeld2
            clear hHeld2
            try simp only [Act.put, List.setIfInBounds_toArray, List.set_cons_zero, List.set_cons_succ]
            refine wpAnyH_ready (rs := [7]) (by kernel_rfl) (by simp) ?_
            refine AllReadyH.cons (o := { dst := some 110, op := Go.Op.call { callee := Go.Callee.value (Go.Operand.func 21), args := #[Go.Operand.tmp 109, Go.Operand.const (Go.Value.int Go.IntKind.i64 65536)], argTypes := #[3, 3] }, type := 3, pos := "law.go:78", after := #[{ on := 6, ground := Go.Ground.data }], guard := none }) rfl (fun K hK => ?_) AllReadyH.nil
            go_simp
            go_at_call 21
            refine (IU.out _).mono ?_
            rintro e wx ⟨rfl, rfl⟩
            refine hK.out _ _ (hHeld) (fun hHeld2 => ?_)
            clear hK K hHeld
            have hHeld := hHeld2
            clear hHeld2
            try simp only [Act.put, List.setIfInBounds_toArray, List.set_cons_zero, List.set_cons_succ]
            refine wpAnyH_ready (rs := [8]) (by kernel_rfl) (by simp) ?_
            refine AllReadyH.cons (o := { dst := some 111, op := Go.Op.buildSlice 28 1 #[(0, Go.Operand.tmp 110)], type := 28, pos := "law.go:78", after := #[{ on := 7, ground := Go.Ground.data }], guard := none }) rfl (fun K hK => ?_) AllReadyH.nil
            go_simp
            refine hK.out _ _ (⟨HGe.out.cb, HGe.out.below⟩) (fun hHeld2 => ?_)
            clear hK K hHeld
            have hHeld := hHeld2
            clear hHeld2
            try simp only [Act.put, List.setIfInBounds_toArray, List.set_cons_zero, List.set_cons_succ]
            refine wpAnyH_ready (rs := [9]) (by kernel_rfl) (by simp) ?_
            refine AllReadyH.cons (o := { dst := some 112, op := Go.Op.call { callee := Go.Callee.builtin Go.Builtin.append, args := #[Go.Operand.tmp 104, Go.Operand.tmp 111], argTypes := #[28, 28] }, type := 28, pos := "law.go:78", after := #[{ on := 1, ground := Go.Ground.data }, { on := 8, ground := Go.Ground.data }, { on := 7, ground := Go.Ground.chain }], guard := none }) rfl (fun K hK => ?_) AllReadyH.nil
            refine step_app2 rfl (.tmp 104) (.tmp 111) 28 rfl 3 0 _ 1 8 Try.underlying28 info3 rfl (by decide) (by decide) (.slice Ah k ch) k (ls.map numC) (by rfl) HOf.out (some ⟨Wd.heap.size, 0, none⟩) 1 1 [.int .i64 t] (by rfl) rfl (holds_new _ _ _ _ _ rfl) ?_ (by omega) (Nat.zero_le _) ?_
            focus (intro x hx; obtain rfl := List.mem_singleton.1 hx; rfl)
            intro v9 w9 hown hwent
            have HOW := Lib.hid hown
            have HG9 := Lib.hid (HGe.out.far hwent.kept (fun b hb => HF.out b hb))
            have HF9 : Hid (∀ b, v9.ownBlock = some b → w.heap.size + 4 ≤ b) := Lib.hid (went_bound HF.out HGe.out.size hwent)
            obtain ⟨A2, c2, rfl, _⟩ := own_slice hown
            clear hown hwent
            refine hK.out _ _ (⟨HG9.out.cb, HG9.out.below⟩) (fun hHeld2 => ?_)
            clear hK K hHeld
            have hHeld := hHeld2
            clear hHeld2
            try simp only [Act.put, List.setIfInBounds_toArray, List.set_cons_zero, List.set_cons_succ]
            refine wpAnyH_take (i := 10) (oi := { dst := some 113, op := Go.Op.fieldAddr 30 (Go.Operand.tmp 3) 10, type := 0, pos := "law.go:78", after := #[{ on := 0, ground := Go.Ground.phase }, { on := 1, ground := Go.Ground.phase }, { on := 2, ground := Go.Ground.phase }, { on := 3, ground := Go.Ground.phase }, { on := 4, ground := Go.Ground.phase }, { on := 5, ground := Go.Ground.phase }, { on := 6, ground := Go.Ground.phase }, { on := 7, ground := Go.Ground.phase }, { on := 8, ground := Go.Ground.phase }, { on := 9, ground := Go.Ground.phase }], guard := none }) (v := ?_) rfl (by kernel_rfl) (by kernel_rfl) (by kernel_rfl) (fun _ _ _ h => h) (Or.inl ⟨by rfl, ?hy10_7⟩) (by assumption) ?rest10_7
            case hy10_7 => (intro w hSw; go_simp; try with_reducible rfl)
            try simp only [Act.put, List.setIfInBounds_toArray, List.set_cons_zero, List.set_cons_succ]
            refine wpAnyH_ready (rs := [11]) (by kernel_rfl) (by simp) ?_
            refine AllReadyH.cons (o := { dst := none, op := Go.Op.store 28 (Go.Operand.tmp 113) (Go.Operand.tmp 112), type := 0, pos := "law.go:78", after := #[{ on := 10, ground := Go.Ground.data }, { on := 9, ground := Go.Ground.data }, { on := 9, ground := Go.Ground.chain }, { on := 0, ground := Go.Ground.phase }, { on := 1, ground := Go.Ground.phase }, { on := 2, ground := Go.Ground.phase }, { on := 3, ground := Go.Ground.phase }, { on := 4, ground := Go.Ground.phase }, { on := 5, ground := Go.Ground.phase }, { on := 6, ground := Go.Ground.phase }, { on := 7, ground := Go.Ground.phase }, { on := 8, ground := Go.Ground.phase }, { on := 9, ground := Go.Ground.phase }], guard := none }) rfl (fun K hK => ?_) AllReadyH.nil
            have yG := cell_row (j := 12) HG9.out.box rfl
            have zG := free_row (j := 12) HG9.out.box
            go_simp
            clear yG zG
            refine hK.out _ _ (⟨(HG9.out.set1 12 _).cb, (HG9.out.set1 12 _).below⟩) (fun hHeld2 => ?_)
            clear hK K hHeld
            have hHeld := hHeld2
            clear hHeld2
            try simp only [Act.put, List.setIfInBounds_toArray, List.set_cons_zero, List.set_cons_succ]
            refine wpAnyH_done (by kernel_rfl) ?_ _
            refine NoPanic.normal ?_
            try simp only [Act.put, List.setIfInBounds_toArray, List.set_cons_zero, List.set_cons_succ]
            go_wp2
            have KO : OI w9 (.slice A2 (k + 1) c2) ((gi.take (k + 1)).map fun g => g % 65536) := by
              unfold OI
              rw [List.take_add_one, HU.out, Option.toList_some, List.map_append, HLS.out, List.length_append, HLK.out, List.map_append, List.map_cons, List.map_nil, HTE.out]
              exact HOW.out
            exact ⟨⟨k + 1, A2, c2, by omega, by omega, by first | rfl | simp, Lib.hid (own_kept KO ((Kept.refl (fun b => b = w.heap.size + 2) _).setCell (p := ⟨w.heap.size + 2, 12, none⟩) (.inl rfl) _) (fun b hb e => by have h1 := HF9.out b hb; omega)), HF9, Lib.hid (HG9.out.set1 12 _)⟩, by simp [intOf] <;> omega⟩
          · go_simp
            go_at_call 21
            refine (IU.out _).mono ?_
            rintro e wx ⟨rfl, rfl⟩
            refine hK.out _ _ (hHeld) (fun hHeld2 => ?_)
            clear hK K hHeld
            have hHeld := hHeld2
            clear hHeld2
            try simp only [Act.put, List.setIfInBounds_toArray, List.set_cons_zero, List.set_cons_succ]
            refine wpAnyH_ready (rs := [1, 8]) (by kernel_rfl) (by simp) ?_
            refine AllReadyH.cons (o := { dst := some 104, op := Go.Op.load 28 (Go.Operand.tmp 103), type := 28, pos := "law.go:78", after := #[{ on := 0, ground := Go.Ground.data }], guard := none }) rfl (fun K hK => ?_) (AllReadyH.cons (o := { dst := some 111, op := Go.Op.buildSlice 28 1 #[(0, Go.Operand.tmp 110)], type := 28, pos := "law.go:78", after := #[{ on := 7, ground := Go.Ground.data }], guard := none }) rfl (fun K hK => ?_) AllReadyH.nil)
            · have yG := cell_row (j := 12) HGd.out.box rfl
              go_simp
              clear yG
              refine hK.out _ _ (hHeld) (fun hHeld2 => ?_)
              clear hK K hHeld
              have hHeld := hHeld2
              clear hHeld2
              try simp only [Act.put, List.setIfInBounds_toArray, List.set_cons_zero, List.set_cons_succ]
              refine wpAnyH_ready (rs := [8]) (by kernel_rfl) (by simp) ?_
              refine AllReadyH.cons (o := { dst := some 111, op := Go.Op.buildSlice 28 1 #[(0, Go.Operand.tmp 110)], type := 28, pos := "law.go:78", after := #[{ on := 7, ground := Go.Ground.data }], guard := none }) rfl (fun K hK => ?_) AllReadyH.nil
              go_simp
              refine hK.out _ _ (⟨HGe.out.cb, HGe.out.below⟩) (fun hHeld2 => ?_)
              clear hK K hHeld
              have hHeld := hHeld2
              clear hHeld2
              try simp only [Act.put, List.setIfInBounds_toArray, List.set_cons_zero, List.set_cons_succ]
              refine wpAnyH_ready (rs := [9]) (by kernel_rfl) (by simp) ?_
              refine AllReadyH.cons (o := { dst := some 112, op := Go.Op.call { callee := Go.Callee.builtin Go.Builtin.append, args := #[Go.Operand.tmp 104, Go.Operand.tmp 111], argTypes := #[28, 28] }, type := 28, pos := "law.go:78", after := #[{ on := 1, ground := Go.Ground.data }, { on := 8, ground := Go.Ground.data }, { on := 7, ground := Go.Ground.chain }], guard := none }) rfl (fun K hK => ?_) AllReadyH.nil
              refine step_app2 rfl (.tmp 104) (.tmp 111) 28 rfl 3 0 _ 1 8 Try.underlying28 info3 rfl (by decide) (by decide) (.slice Ah k ch) k (ls.map numC) (by rfl) HOf.out (some ⟨Wd.heap.size, 0, none⟩) 1 1 [.int .i64 t] (by rfl) rfl (holds_new _ _ _ _ _ rfl) ?_ (by omega) (Nat.zero_le _) ?_
              focus (intro x hx; obtain rfl := List.mem_singleton.1 hx; rfl)
              intro v9 w9 hown hwent
              have HOW := Lib.hid hown
              have HG9 := Lib.hid (HGe.out.far hwent.kept (fun b hb => HF.out b hb))
              have HF9 : Hid (∀ b, v9.ownBlock = some b → w.heap.size + 4 ≤ b) := Lib.hid (went_bound HF.out HGe.out.size hwent)
              obtain ⟨A2, c2, rfl, _⟩ := own_slice hown
              clear hown hwent
              refine hK.out _ _ (⟨HG9.out.cb, HG9.out.below⟩) (fun hHeld2 => ?_)
              clear hK K hHeld
              have hHeld := hHeld2
              clear hHeld2
              try simp only [Act.put, List.setIfInBounds_toArray, List.set_cons_zero, List.set_cons_succ]
              refine wpAnyH_take (i := 10) (oi := { dst := some 113, op := Go.Op.fieldAddr 30 (Go.Operand.tmp 3) 10, type := 0, pos := "law.go:78", after := #[{ on := 0, ground := Go.Ground.phase }, { on := 1, ground := Go.Ground.phase }, { on := 2, ground := Go.Ground.phase }, { on := 3, ground := Go.Ground.phase }, { on := 4, ground := Go.Ground.phase }, { on := 5, ground := Go.Ground.phase }, { on := 6, ground := Go.Ground.phase }, { on := 7, ground := Go.Ground.phase }, { on := 8, ground := Go.Ground.phase }, { on := 9, ground := Go.Ground.phase }], guard := none }) (v := ?_) rfl (by kernel_rfl) (by kernel_rfl) (by kernel_rfl) (fun _ _ _ h => h) (Or.inl ⟨by rfl, ?hy10_8⟩) (by assumption) ?rest10_8
              case hy10_8 => (intro w hSw; go_simp; try with_reducible rfl)
              try simp only [Act.put, List.setIfInBounds_toArray, List.set_cons_zero, List.set_cons_succ]
              refine wpAnyH_ready (rs := [11]) (by kernel_rfl) (by simp) ?_
              refine AllReadyH.cons (o := { dst := none, op := Go.Op.store 28 (Go.Operand.tmp 113) (Go.Operand.tmp 112), type := 0, pos := "law.go:78", after := #[{ on := 10, ground := Go.Ground.data }, { on := 9, ground := Go.Ground.data }, { on := 9, ground := Go.Ground.chain }, { on := 0, ground := Go.Ground.phase }, { on := 1, ground := Go.Ground.phase }, { on := 2, ground := Go.Ground.phase }, { on := 3, ground := Go.Ground.phase }, { on := 4, ground := Go.Ground.phase }, { on := 5, ground := Go.Ground.phase }, { on := 6, ground := Go.Ground.phase }, { on := 7, ground := Go.Ground.phase }, { on := 8, ground := Go.Ground.phase }, { on := 9, ground := Go.Ground.phase }], guard := none }) rfl (fun K hK => ?_) AllReadyH.nil
              have yG := cell_row (j := 12) HG9.out.box rfl
              have zG := free_row (j := 12) HG9.out.box
              go_simp
              clear yG zG
              refine hK.out _ _ (⟨(HG9.out.set1 12 _).cb, (HG9.out.set1 12 _).below⟩) (fun hHeld2 => ?_)
              clear hK K hHeld
              have hHeld := hHeld2
              clear hHeld2
              try simp only [Act.put, List.setIfInBounds_toArray, List.set_cons_zero, List.set_cons_succ]
              refine wpAnyH_done (by kernel_rfl) ?_ _
              refine NoPanic.normal ?_
              try simp only [Act.put, List.setIfInBounds_toArray, List.set_cons_zero, List.set_cons_succ]
              go_wp2
              have KO : OI w9 (.slice A2 (k + 1) c2) ((gi.take (k + 1)).map fun g => g % 65536) := by
                unfold OI
                rw [List.take_add_one, HU.out, Option.toList_some, List.map_append, HLS.out, List.length_append, HLK.out, List.map_append, List.map_cons, List.map_nil, HTE.out]
                exact HOW.out
              exact ⟨⟨k + 1, A2, c2, by omega, by omega, by first | rfl | simp, Lib.hid (own_kept KO ((Kept.refl (fun b => b = w.heap.size + 2) _).setCell (p := ⟨w.heap.size + 2, 12, none⟩) (.inl rfl) _) (fun b hb e => by have h1 := HF9.out b hb; omega)), HF9, Lib.hid (HG9.out.set1 12 _)⟩, by simp [intOf] <;> omega⟩
            · go_simp
              refine hK.out _ _ (⟨HGe.out.cb, HGe.out.below⟩) (fun hHeld2 => ?_)
              clear hK K hHeld
              have hHeld := hHeld2
              clear hHeld2
              try simp only [Act.put, List.setIfInBounds_toArray, List.set_cons_zero, List.set_cons_succ]
              refine wpAnyH_ready (rs := [1]) (by kernel_rfl) (by simp) ?_
              refine AllReadyH.cons (o := { dst := some 104, op := Go.Op.load 28 (Go.Operand.tmp 103), type := 28, pos := "law.go:78", after := #[{ on := 0, ground := Go.Ground.data }], guard := none }) rfl (fun K hK => ?_) AllReadyH.nil
              have yG := cell_row (j := 12) HGe.out.box rfl
              go_simp
              clear yG
              refine hK.out _ _ (hHeld) (fun hHeld2 => ?_)
              clear hK K hHeld
              have hHeld := hHeld2
              clear hHeld2
              try simp only [Act.put, List.setIfInBounds_toArray, List.set_cons_zero, List.set_cons_succ]
              refine wpAnyH_ready (rs := [9]) (by kernel_rfl) (by simp) ?_
              refine AllReadyH.cons (o := { dst := some 112, op := Go.Op.call { callee := Go.Callee.builtin Go.Builtin.append, args := #[Go.Operand.tmp 104, Go.Operand.tmp 111], argTypes := #[28, 28] }, type := 28, pos := "law.go:78", after := #[{ on := 1, ground := Go.Ground.data }, { on := 8, ground := Go.Ground.data }, { on := 7, ground := Go.Ground.chain }], guard := none }) rfl (fun K hK => ?_) AllReadyH.nil
              refine step_app2 rfl (.tmp 104) (.tmp 111) 28 rfl 3 0 _ 1 8 Try.underlying28 info3 rfl (by decide) (by decide) (.slice Ah k ch) k (ls.map numC) (by rfl) HOf.out (some ⟨Wd.heap.size, 0, none⟩) 1 1 [.int .i64 t] (by rfl) rfl (holds_new _ _ _ _ _ rfl) ?_ (by omega) (Nat.zero_le _) ?_
              focus (intro x hx; obtain rfl := List.mem_singleton.1 hx; rfl)
              intro v9 w9 hown hwent
              have HOW := Lib.hid hown
              have HG9 := Lib.hid (HGe.out.far hwent.kept (fun b hb => HF.out b hb))
              have HF9 : Hid (∀ b, v9.ownBlock = some b → w.heap.size + 4 ≤ b) := Lib.hid (went_bound HF.out HGe.out.size hwent)
              obtain ⟨A2, c2, rfl, _⟩ := own_slice hown
              clear hown hwent
              refine hK.out _ _ (⟨HG9.out.cb, HG9.out.below⟩) (fun hHeld2 => ?_)
              clear hK K hHeld
              have hHeld := hHeld2
              clear hHeld2
              try simp only [Act.put, List.setIfInBounds_toArray, List.set_cons_zero, List.set_cons_succ]
              refine wpAnyH_take (i := 10) (oi := { dst := some 113, op := Go.Op.fieldAddr 30 (Go.Operand.tmp 3) 10, type := 0, pos := "law.go:78", after := #[{ on := 0, ground := Go.Ground.phase }, { on := 1, ground := Go.Ground.phase }, { on := 2, ground := Go.Ground.phase }, { on := 3, ground := Go.Ground.phase }, { on := 4, ground := Go.Ground.phase }, { on := 5, ground := Go.Ground.phase }, { on := 6, ground := Go.Ground.phase }, { on := 7, ground := Go.Ground.phase }, { on := 8, ground := Go.Ground.phase }, { on := 9, ground := Go.Ground.phase }], guard := none }) (v := ?_) rfl (by kernel_rfl) (by kernel_rfl) (by kernel_rfl) (fun _ _ _ h => h) (Or.inl ⟨by rfl, ?hy10_9⟩) (by assumption) ?rest10_9
              case hy10_9 => (intro w hSw; go_simp; try with_reducible rfl)
              try simp only [Act.put, List.setIfInBounds_toArray, List.set_cons_zero, List.set_cons_succ]
              refine wpAnyH_ready (rs := [11]) (by kernel_rfl) (by simp) ?_
              refine AllReadyH.cons (o := { dst := none, op := Go.Op.store 28 (Go.Operand.tmp 113) (Go.Operand.tmp 112), type := 0, pos := "law.go:78", after := #[{ on := 10, ground := Go.Ground.data }, { on := 9, ground := Go.Ground.data }, { on := 9, ground := Go.Ground.chain }, { on := 0, ground := Go.Ground.phase }, { on := 1, ground := Go.Ground.phase }, { on := 2, ground := Go.Ground.phase }, { on := 3, ground := Go.Ground.phase }, { on := 4, ground := Go.Ground.phase }, { on := 5, ground := Go.Ground.phase }, { on := 6, ground := Go.Ground.phase }, { on := 7, ground := Go.Ground.phase }, { on := 8, ground := Go.Ground.phase }, { on := 9, ground := Go.Ground.phase }], guard := none }) rfl (fun K hK => ?_) AllReadyH.nil
              have yG := cell_row (j := 12) HG9.out.box rfl
              have zG := free_row (j := 12) HG9.out.box
              go_simp
              clear yG zG
              refine hK.out _ _ (⟨(HG9.out.set1 12 _).cb, (HG9.out.set1 12 _).below⟩) (fun hHeld2 => ?_)
              clear hK K hHeld
              have hHeld := hHeld2
              clear hHeld2
              try simp only [Act.put, List.setIfInBounds_toArray, List.set_cons_zero, List.set_cons_succ]
              refine wpAnyH_done (by kernel_rfl) ?_ _
              refine NoPanic.normal ?_
              try simp only [Act.put, List.setIfInBounds_toArray, List.set_cons_zero, List.set_cons_succ]
              go_wp2
              have KO : OI w9 (.slice A2 (k + 1) c2) ((gi.take (k + 1)).map fun g => g % 65536) := by
                unfold OI
                rw [List.take_add_one, HU.out, Option.toList_some, List.map_append, HLS.out, List.length_append, HLK.out, List.map_append, List.map_cons, List.map_nil, HTE.out]
                exact HOW.out
              exact ⟨⟨k + 1, A2, c2, by omega, by omega, by first | rfl | simp, Lib.hid (own_kept KO ((Kept.refl (fun b => b = w.heap.size + 2) _).setCell (p := ⟨w.heap.size + 2, 12, none⟩) (.inl rfl) _) (fun b hb e => by have h1 := HF9.out b hb; omega)), HF9, Lib.hid (HG9.out.set1 12 _)⟩, by simp [intOf] <;> omega⟩
        · have hl5' : ¬ ((k : Int) < 255) := by omega
          have HT9 : Hid (gi.take 255 = gi.take k) := Lib.hid (by rw [show k = 255 from (by omega)])
          go_upto_region 31 with fail
          clear cy12
          have HG9 := HG
          generalize wr = W9 at HG HG9 HOk ⊢
          clear HG
          have y0 := cell_row (j := 0) HG9.out.box rfl
          have z0 := free_row (j := 0) HG9.out.box
          have y6 := cell_row (j := 6) HG9.out.box rfl
          have z6 := free_row (j := 6) HG9.out.box
          have hf : formC ⟨op, by0, sz, obj, hi, lo, gv, rt, off, n, da, ix, gi⟩ = { zc with op := 9, by' := b, gi := (gi.take k).map fun g => g % 65536 } := by unfold formC preC; simp only [HO.out, HBY.out]; simp [HT9.out, List.map_take]
          go_wp2_with (first | (refine wpList_load_row rfl 30 (.tmp 3) rfl (w.heap.size + 2) 30 #[.int .i64 9, .int .i64 b, .int .i64 0, .int .i64 0, .int .u64 0, .int .u64 0, .bool false, .int .i64 0, .int .i64 0, .int .i64 0, .slice none 0 0, .int .i64 0, .slice Ah k ch] (0, 0) _ rfl HG9.out.box Try.underlying30 rfl info30 ?_) | (refine wpList_store_row rfl 30 (.tmp 2) (.tmp 130) rfl (w.heap.size + 1) 30 #[.int .i64 0, .int .i64 0, .int .i64 0, .int .i64 0, .int .u64 0, .int .u64 0, .bool false, .int .i64 0, .int .i64 0, .int .i64 0, .slice none 0 0, .int .i64 0, .slice none 0 0] #[.int .i64 9, .int .i64 b, .int .i64 0, .int .i64 0, .int .u64 0, .int .u64 0, .bool false, .int .i64 0, .int .i64 0, .int .i64 0, .slice none 0 0, .int .i64 0, .slice Ah k ch] rfl rfl HG9.out.res info30 rfl (by simp [Value.oneCell']) ?_) | fail)
          have FN := HG9.out.fin #[.int .i64 9, .int .i64 b, .int .i64 0, .int .i64 0, .int .u64 0, .int .u64 0, .bool false, .int .i64 0, .int .i64 0, .int .i64 0, .slice none 0 0, .int .i64 0, .slice Ah k ch]
          refine bodyPost_ret (results_cell_row rfl _ _ (w.heap.size + 1) 30 _ (0, 0) _ rfl FN.1 Try.underlying30 rfl info30) rfl (HR.out _ _ ?_)
          unfold FD
          rw [hf]
          exact ⟨.slice none 0 0, .slice Ah k ch, rfl, rb_nil _, own_kept HOk.out FN.2.2 (fun bb hb e => by have h1 := HF.out bb hb; omega), FN.2.1, (fun bb hb => by have h1 := HF.out bb hb; omega)⟩
      · have hlt' : ¬ ((k : Int) < (ng : Int)) := by omega
        have HT9 : Hid (gi.take 255 = gi.take k) := Lib.hid (by rw [List.take_of_length_le (by rw [HNG.out]; omega), List.take_of_length_le (by rw [HNG.out]; omega)])
        go_upto_region 31 with fail
        clear cy12
        have HG9 := HG
        generalize wr = W9 at HG HG9 HOk ⊢
        clear HG
        have y0 := cell_row (j := 0) HG9.out.box rfl
        have z0 := free_row (j := 0) HG9.out.box
        have y6 := cell_row (j := 6) HG9.out.box rfl
        have z6 := free_row (j := 6) HG9.out.box
        have hf : formC ⟨op, by0, sz, obj, hi, lo, gv, rt, off, n, da, ix, gi⟩ = { zc with op := 9, by' := b, gi := (gi.take k).map fun g => g % 65536 } := by unfold formC preC; simp only [HO.out, HBY.out]; simp [HT9.out, List.map_take]
        go_wp2_with (first | (refine wpList_load_row rfl 30 (.tmp 3) rfl (w.heap.size + 2) 30 #[.int .i64 9, .int .i64 b, .int .i64 0, .int .i64 0, .int .u64 0, .int .u64 0, .bool false, .int .i64 0, .int .i64 0, .int .i64 0, .slice none 0 0, .int .i64 0, .slice Ah k ch] (0, 0) _ rfl HG9.out.box Try.underlying30 rfl info30 ?_) | (refine wpList_store_row rfl 30 (.tmp 2) (.tmp 130) rfl (w.heap.size + 1) 30 #[.int .i64 0, .int .i64 0, .int .i64 0, .int .i64 0, .int .u64 0, .int .u64 0, .bool false, .int .i64 0, .int .i64 0, .int .i64 0, .slice none 0 0, .int .i64 0, .slice none 0 0] #[.int .i64 9, .int .i64 b, .int .i64 0, .int .i64 0, .int .u64 0, .int .u64 0, .bool false, .int .i64 0, .int .i64 0, .int .i64 0, .slice none 0 0, .int .i64 0, .slice Ah k ch] rfl rfl HG9.out.res info30 rfl (by simp [Value.oneCell']) ?_) | fail)
        have FN := HG9.out.fin #[.int .i64 9, .int .i64 b, .int .i64 0, .int .i64 0, .int .u64 0, .int .u64 0, .bool false, .int .i64 0, .int .i64 0, .int .i64 0, .slice none 0 0, .int .i64 0, .slice Ah k ch]
        refine bodyPost_ret (results_cell_row rfl _ _ (w.heap.size + 1) 30 _ (0, 0) _ rfl FN.1 Try.underlying30 rfl info30) rfl (HR.out _ _ ?_)
        unfold FD
        rw [hf]
        exact ⟨.slice none 0 0, .slice Ah k ch, rfl, rb_nil _, own_kept HOk.out FN.2.2 (fun bb hb e => by have h1 := HF.out bb hb; omega), FN.2.1, (fun bb hb => by have h1 := HF.out bb hb; omega)⟩
  have y0 := cell_row (j := 0) HG2.out.box rfl
  have z0 := free_row (j := 0) HG2.out.box
  have y6 := cell_row (j := 6) HG2.out.box rfl
  have z6 := free_row (j := 6) HG2.out.box
  have hf : formC ⟨op, by0, sz, obj, hi, lo, gv, rt, off, n, da, ix, gi⟩ = { zc with op := o, by' := b } := by unfold formC preC; simp only [HO.out, HBY.out]; simp [h1, h2, h3, h4, h5, h6, h7, h8, h9]
  go_wp2_with (first | (refine wpList_load_row rfl 30 (.tmp 3) rfl (w.heap.size + 2) 30 #[.int .i64 o, .int .i64 b, .int .i64 0, .int .i64 0, .int .u64 0, .int .u64 0, .bool false, .int .i64 0, .int .i64 0, .int .i64 0, .slice none 0 0, .int .i64 0, .slice none 0 0] (0, 0) _ rfl HG2.out.box Try.underlying30 rfl info30 ?_) | (refine wpList_store_row rfl 30 (.tmp 2) (.tmp 130) rfl (w.heap.size + 1) 30 #[.int .i64 0, .int .i64 0, .int .i64 0, .int .i64 0, .int .u64 0, .int .u64 0, .bool false, .int .i64 0, .int .i64 0, .int .i64 0, .slice none 0 0, .int .i64 0, .slice none 0 0] #[.int .i64 o, .int .i64 b, .int .i64 0, .int .i64 0, .int .u64 0, .int .u64 0, .bool false, .int .i64 0, .int .i64 0, .int .i64 0, .slice none 0 0, .int .i64 0, .slice none 0 0] rfl rfl HG2.out.res info30 rfl (by simp [Value.oneCell']) ?_) | fail)
  have FN := HG2.out.fin #[.int .i64 o, .int .i64 b, .int .i64 0, .int .i64 0, .int .u64 0, .int .u64 0, .bool false, .int .i64 0, .int .i64 0, .int .i64 0, .slice none 0 0, .int .i64 0, .slice none 0 0]
  refine bodyPost_ret (results_cell_row rfl _ _ (w.heap.size + 1) 30 _ (0, 0) _ rfl FN.1 Try.underlying30 rfl info30) rfl (HR.out _ _ ?_)
  unfold FD
  rw [hf]
  exact ⟨.slice none 0 0, .slice none 0 0, rfl, rb_nil _, OI.nil _, FN.2.1, fresh_nil _⟩
end Go.Proofs.Ytfpkdbogapmhmaa.O

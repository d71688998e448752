/- Record: the document's Bytes (written by gen_rcw.py). -/
import Derived.Test.YtfpkdbogapmhmaaRcV
import Derived.Test.YtfpkdbogapmhmaaRcU
namespace Go.Proofs.Ytfpkdbogapmhmaa.O
open Go.RowKit Go.Proofs.Ytfpkdbogapmhmaa.Mem
set_option linter.unusedVariables false
set_option linter.unusedSimpArgs false
theorem le4_s32 (v : Int) : le 4 (s32 v) = le 4 v := by
  have h := le_add 4 (v % 4294967296) (v / 4294967296)
  have e : v % 4294967296 + 256 ^ 4 * (v / 4294967296) = v := by
    have := Int.emod_add_mul_ediv v 4294967296
    rw [show ((256 : Int) ^ 4) = 4294967296 by decide]; exact this
  rw [e] at h
  exact h.symm
theorem form_iff (c : Cl) : form c ↔ (wide1 c ∧ wide2 c ∧ wide3 c) ∧ c = keptC c := by
  rw [kept_iff]
  unfold form
  constructor
  · rintro ⟨a, b, d, e, f⟩; exact ⟨⟨a, b, d⟩, e, f⟩
  · rintro ⟨⟨a, b, d⟩, e, f⟩; exact ⟨a, b, d, e, f⟩
theorem bytes_len {c : Cl} (h : wide2 c) : c.da.length ≤ 1025 := h.2.2.2.2
theorem put_r (w0 w : World) (v : Value) (zs : List Int) (x : Int) (n : Nat) (K : Int) (hK : (n : Int) = K) (hx0 : -9223372036854775808 ≤ x) (hx1 : x ≤ 9223372036854775807) (hn : n ≤ 8) (hl : zs.length ≤ 140737488354000) (hb : Below w0.heap.size w0 w) (hf : Fresh w0 v) (h : OB w v zs) :
    Calls Try.prog 33 #[v, .int .i64 x, .int .i64 K] w fun e w' => GB w0 (zs ++ le n x) e w' := hK ▸ rput_any w0 w v zs x n hx0 hx1 hn hl hb hf h
theorem cap_r (w0 w : World) (v : Value) (zs : List Int) (obj hi lo : Int) (h0 : 0 ≤ obj) (h1 : obj ≤ 4611686018427387904) (hh : U64 hi) (hl : U64 lo) (hlen : zs.length ≤ 140737488350000) (hb : Below w0.heap.size w0 w) (hf : Fresh w0 v) (h : OB w v zs) :
    Calls Try.prog 34 #[v, .agg #[.int .i64 obj, .int .u64 hi, .int .u64 lo]] w fun e w' => GB w0 (zs ++ capB obj hi lo) e w' :=
  (capped_k w v zs obj hi lo h0 h1 hh hl hlen h).mono (fun e w' h => h.gb hb hf)
theorem OB.owns {w w' : World} {v : Value} {zs : List Int} (h : OB w v zs) (hb : Below w.heap.size w w') : w'.ownsRow 0 5 1 v zs.length (zs.map byteC) := own_keeps h (Kept.of_below hb)
theorem app_r {w0 w w9 : World} {v v9 : Value} {zs ys : List Int} {n : Nat} (hn : ys.length = n) (hb : Below w0.heap.size w0 w) (hf : Fresh w0 v) (h : w9.ownsRow 0 5 1 v9 (zs.length + n) (zs.map byteC ++ ys.map byteC)) (hw : Went w w9 v v9 zs.length n) : OB w9 v9 (zs ++ ys) ∧ Below w0.heap.size w0 w9 ∧ Fresh w0 v9 := by
  subst hn
  exact ⟨by unfold OB; rw [List.length_append, List.map_append]; exact h, hb.trans (hw.kept.below (fun b hb => hf b hb) hb.size), fresh_went hf hb.size hw⟩

set_option maxHeartbeats 4000000 in
set_option maxRecDepth 100000 in
theorem rbytes_no1 (w : World) (c : Cl) (D G : Value) (hD : RB w D c.da) (hG : IB w G c.gi) (hh : U64 c.hi) (hl : U64 c.lo) (HB : Bytes c.da) (hno : ¬ (wide1 c ∧ wide2 c ∧ wide3 c)) :
    Calls Try.prog 10 #[cv c D G] w fun e w' => e = .returned (.tuple #[.slice none 0 0, .int .i64 1]) ∧ Below w.heap.size w w' := by
  have HS := Lib.hid (fun a (ha : Below w.heap.size w a) D' G' (h1 : RB a D' (keptC c).da) (h2 : IB a G' (keptC c).gi) (h3 : Bytes (keptC c).da) => same_any a c (keptC c) D G D' G' (hD.below ha) (hG.below ha) h1 h2 HB h3)
  have HKD : Hid (Bytes (keptC c).da) := Lib.hid (by unfold keptC zc; split; exact (fun z hz => by cases hz); split; exact (fun z hz => by cases hz); split; exact (fun z hz => by cases hz); split; exact (fun z hz => by cases hz); split; exact HB; split; exact (fun z hz => by cases hz); split; exact (fun z hz => by cases hz); exact (fun z hz => by cases hz))
  have HR := Lib.hid (fun a (ha : Below w.heap.size w a) => right_any a c D G hD.sl (hG.below ha))
  have HK := Lib.hid (fun a (ha : Below w.heap.size w a) => kept_any a c D G (hD.below ha) (hG.below ha))
  rw [decide_eq_false hno] at HR
  have HDD := Lib.hid hD
  have HGG := Lib.hid hG
  have HH := Lib.hid (And.intro hh hl)
  have HBD := Lib.hid HB
  obtain ⟨op, by', sz, obj, hi, lo, gv, rt, off, n, da, ix, gi⟩ := c
  obtain ⟨Ad, cd, rfl⟩ : SL D da.length := hD.sl
  obtain ⟨Ag, cg, rfl⟩ : SL G gi.length := hG.sl
  obtain ⟨nd, hnd⟩ : ∃ nd, da.length = nd := ⟨_, rfl⟩
  obtain ⟨ng, hng⟩ : ∃ ng, gi.length = ng := ⟨_, rfl⟩
  have HND := Lib.hid hnd
  have HNG := Lib.hid hng
  unfold cv cells at HR HS HK ⊢
  simp only [hnd, hng] at HR HS HK HDD HGG ⊢
  have HBX := Lib.hid ((Below.refl w.heap.size w).alloc (Nat.le_refl _) (.cells #[.int .i64 op, .int .i64 by', .int .i64 sz, .int .i64 obj, .int .u64 hi, .int .u64 lo, .bool gv, .int .i64 rt, .int .i64 off, .int .i64 n, .slice Ad nd cd, .int .i64 ix, .slice Ag ng cg] 30))
  obtain ⟨B, hB⟩ : ∃ B, w.heap.size = B := ⟨_, rfl⟩
  have HBB := Lib.hid hB
  have HRW : Hid ((w.alloc (.cells #[.int .i64 op, .int .i64 by', .int .i64 sz, .int .i64 obj, .int .u64 hi, .int .u64 lo, .bool gv, .int .i64 rt, .int .i64 off, .int .i64 n, .slice Ad nd cd, .int .i64 ix, .slice Ag ng cg] 30)).heap[B]? = some (.cells #[.int .i64 op, .int .i64 by', .int .i64 sz, .int .i64 obj, .int .u64 hi, .int .u64 lo, .bool gv, .int .i64 rt, .int .i64 off, .int .i64 n, .slice Ad nd cd, .int .i64 ix, .slice Ag ng cg] 30)) := Lib.hid (row_new hB.symm)
  have HSZ : Hid ((w.alloc (.cells #[.int .i64 op, .int .i64 by', .int .i64 sz, .int .i64 obj, .int .u64 hi, .int .u64 lo, .bool gv, .int .i64 rt, .int .i64 off, .int .i64 n, .slice Ad nd cd, .int .i64 ix, .slice Ag ng cg] 30)).heap.size = B + 1) := Lib.hid (by simp [hB])
  clear hD hG hh hl HB hnd hng hno
  go_enter Try.func10, Try.ntmps10
  go_wp2_with fail
  generalize (w.alloc (.cells #[.int .i64 op, .int .i64 by', .int .i64 sz, .int .i64 obj, .int .u64 hi, .int .u64 lo, .bool gv, .int .i64 rt, .int .i64 off, .int .i64 n, .slice Ad nd cd, .int .i64 ix, .slice Ag ng cg] 30)) = W1 at HBX HRW HSZ ⊢
  have ST : Hid (W1.drew.heap[B]? = some (.cells #[.int .i64 op, .int .i64 by', .int .i64 sz, .int .i64 obj, .int .u64 hi, .int .u64 lo, .bool gv, .int .i64 rt, .int .i64 off, .int .i64 n, .slice Ad nd cd, .int .i64 ix, .slice Ag ng cg] 30) ∧ Below W1.heap.size W1 W1.drew) := Lib.hid ⟨HRW.out, (Below.refl _ _).drew⟩
  have KEEP : Hid (∀ a b, Below a.heap.size a b → (a.heap[B]? = some (.cells #[.int .i64 op, .int .i64 by', .int .i64 sz, .int .i64 obj, .int .u64 hi, .int .u64 lo, .bool gv, .int .i64 rt, .int .i64 off, .int .i64 n, .slice Ad nd cd, .int .i64 ix, .slice Ag ng cg] 30) ∧ Below W1.heap.size W1 a) → (b.heap[B]? = some (.cells #[.int .i64 op, .int .i64 by', .int .i64 sz, .int .i64 obj, .int .u64 hi, .int .u64 lo, .bool gv, .int .i64 rt, .int .i64 off, .int .i64 n, .slice Ad nd cd, .int .i64 ix, .slice Ag ng cg] 30) ∧ Below W1.heap.size W1 b)) := Lib.hid (fun a b h ⟨k1, k2⟩ => ⟨row_on h k1, k2.trans (h.mono k2.size)⟩)
  refine wp_region_noPanic ?_
  refine wp_region_held_drew (S := fun w' => w'.heap[B]? = some (.cells #[.int .i64 op, .int .i64 by', .int .i64 sz, .int .i64 obj, .int .u64 hi, .int .u64 lo, .bool gv, .int .i64 rt, .int .i64 off, .int .i64 n, .slice Ad nd cd, .int .i64 ix, .slice Ag ng cg] 30) ∧ Below W1.heap.size W1 w') (by kernel_rfl) (ST.out) (fun hHeld => ?_)
  refine wpAnyH_take (i := 0) (oi := { dst := some 6, op := Go.Op.load 30 (Go.Operand.tmp 1), type := 30, pos := "ref.go:99", after := #[], guard := none }) (v := .agg #[.int .i64 op, .int .i64 by', .int .i64 sz, .int .i64 obj, .int .u64 hi, .int .u64 lo, .bool gv, .int .i64 rt, .int .i64 off, .int .i64 n, .slice Ad nd cd, .int .i64 ix, .slice Ag ng cg]) rfl (by kernel_rfl) (by kernel_rfl) (by kernel_rfl) (fun _ _ _ h => h) (yieldsIf_load_mid (by rfl) 30 (.tmp 1) rfl B 0 rfl [.int .i64 op, .int .i64 by', .int .i64 sz, .int .i64 obj, .int .u64 hi, .int .u64 lo, .bool gv, .int .i64 rt, .int .i64 off, .int .i64 n, .slice Ad nd cd, .int .i64 ix, .slice Ag ng cg] _ (fun w hSw => range_row hSw.1 (by rfl)) Try.underlying30 rfl info30) (by assumption) ?_
  try simp only [Act.put, List.setIfInBounds_toArray, List.set_cons_zero, List.set_cons_succ]
  refine wpAnyH_ready (rs := [1]) (by kernel_rfl) (by simp) ?_
  refine AllReadyH.cons (o := { dst := some 7, op := Go.Op.call { callee := Go.Callee.value (Go.Operand.func 31), args := #[Go.Operand.tmp 6], argTypes := #[30] }, type := 4, pos := "ref.go:99", after := #[{ on := 0, ground := Go.Ground.data }], guard := none }) rfl (fun K hK => ?_) AllReadyH.nil
  go_simp
  go_at_call 31
  (refine (HR.out _ (HBX.out.trans (hHeld.2.mono HBX.out.size))).mono ?_)
  rintro e w2 ⟨rfl, hb2⟩
  refine hK.out _ _ (KEEP.out _ _ hb2 hHeld) (fun hHeld2 => ?_)
  clear hK K hHeld
  have hHeld := hHeld2
  clear hHeld2
  try simp only [Act.put, List.setIfInBounds_toArray, List.set_cons_zero, List.set_cons_succ]
  refine wpAnyH_take (i := 2) (oi := { dst := some 8, op := Go.Op.unOp Go.UnOp.not 4 (Go.Operand.tmp 7), type := 4, pos := "ref.go:99", after := #[{ on := 1, ground := Go.Ground.data }], guard := none }) (v := ?_) rfl (by kernel_rfl) (by kernel_rfl) (by kernel_rfl) (fun _ _ _ h => h) (Or.inl ⟨by rfl, ?hy2_1⟩) (by assumption) ?rest2_1
  case hy2_1 => (intro w hSw; go_simp; try with_reducible rfl)
  try simp only [Act.put, List.setIfInBounds_toArray, List.set_cons_zero, List.set_cons_succ]
  refine wpAnyH_take (i := 3) (oi := { dst := some 9, op := Go.Op.move (Go.Operand.tmp 8), type := 4, pos := "ref.go:99", after := #[{ on := 2, ground := Go.Ground.data }, { on := 1, ground := Go.Ground.chain }], guard := none }) (v := ?_) rfl (by kernel_rfl) (by kernel_rfl) (by kernel_rfl) (fun _ _ _ h => h) (Or.inl ⟨by rfl, ?hy3_2⟩) (by assumption) ?rest3_2
  case hy3_2 => (intro w hSw; go_simp; try with_reducible rfl)
  try simp only [Act.put, List.setIfInBounds_toArray, List.set_cons_zero, List.set_cons_succ]
  refine wpAnyH_take (i := 4) (oi := { dst := some 10, op := Go.Op.load 30 (Go.Operand.tmp 1), type := 30, pos := "ref.go:99", after := #[{ on := 3, ground := Go.Ground.guard }], guard := some (3, false) }) (v := undef) rfl (by kernel_rfl) (by kernel_rfl) (by kernel_rfl) (fun _ _ _ h => h) (Or.inr ⟨by rfl, rfl⟩) (by assumption) ?_
  try simp only [Act.put, List.setIfInBounds_toArray, List.set_cons_zero, List.set_cons_succ]
  refine wpAnyH_take (i := 5) (oi := { dst := some 11, op := Go.Op.load 30 (Go.Operand.tmp 1), type := 30, pos := "ref.go:99", after := #[{ on := 3, ground := Go.Ground.guard }], guard := some (3, false) }) (v := undef) rfl (by kernel_rfl) (by kernel_rfl) (by kernel_rfl) (fun _ _ _ h => h) (Or.inr ⟨by rfl, rfl⟩) (by assumption) ?_
  try simp only [Act.put, List.setIfInBounds_toArray, List.set_cons_zero, List.set_cons_succ]
  refine wpAnyH_ready (rs := [6]) (by kernel_rfl) (by simp) ?_
  refine AllReadyH.cons (o := { dst := some 12, op := Go.Op.call { callee := Go.Callee.value (Go.Operand.func 32), args := #[Go.Operand.tmp 11], argTypes := #[30] }, type := 30, pos := "ref.go:99", after := #[{ on := 5, ground := Go.Ground.data }, { on := 3, ground := Go.Ground.chain }, { on := 3, ground := Go.Ground.guard }], guard := some (3, false) }) rfl (fun K hK => ?_) AllReadyH.nil
  go_simp
  refine hK.out _ _ hHeld (fun hHeld2 => ?_)
  clear hK K hHeld
  have hHeld := hHeld2
  clear hHeld2
  try simp only [Act.put, List.setIfInBounds_toArray, List.set_cons_zero, List.set_cons_succ]
  refine wpAnyH_ready (rs := [7]) (by kernel_rfl) (by simp) ?_
  refine AllReadyH.cons (o := { dst := some 13, op := Go.Op.call { callee := Go.Callee.value (Go.Operand.func 14), args := #[Go.Operand.tmp 10, Go.Operand.tmp 12], argTypes := #[30, 30] }, type := 4, pos := "ref.go:99", after := #[{ on := 4, ground := Go.Ground.data }, { on := 6, ground := Go.Ground.data }, { on := 6, ground := Go.Ground.chain }, { on := 3, ground := Go.Ground.guard }], guard := some (3, false) }) rfl (fun K hK => ?_) AllReadyH.nil
  go_simp
  refine hK.out _ _ hHeld (fun hHeld2 => ?_)
  clear hK K hHeld
  have hHeld := hHeld2
  clear hHeld2
  try simp only [Act.put, List.setIfInBounds_toArray, List.set_cons_zero, List.set_cons_succ]
  refine wpAnyH_take (i := 8) (oi := { dst := some 14, op := Go.Op.unOp Go.UnOp.not 4 (Go.Operand.tmp 13), type := 4, pos := "ref.go:99", after := #[{ on := 7, ground := Go.Ground.data }, { on := 3, ground := Go.Ground.guard }], guard := some (3, false) }) (v := undef) rfl (by kernel_rfl) (by kernel_rfl) (by kernel_rfl) (fun _ _ _ h => h) (Or.inr ⟨by rfl, rfl⟩) (by assumption) ?_
  try simp only [Act.put, List.setIfInBounds_toArray, List.set_cons_zero, List.set_cons_succ]
  refine wpAnyH_take (i := 9) (oi := { dst := some 15, op := Go.Op.pick (Go.Operand.tmp 9) (Go.Operand.const (Go.Value.bool true)) (Go.Operand.tmp 14), type := 4, pos := "ref.go:99", after := #[{ on := 3, ground := Go.Ground.data }, { on := 8, ground := Go.Ground.data }], guard := none }) (v := ?_) rfl (by kernel_rfl) (by kernel_rfl) (by kernel_rfl) (fun _ _ _ h => h) (Or.inl ⟨by rfl, ?hy9_3⟩) (by assumption) ?rest9_3
  case hy9_3 => (intro w hSw; go_simp; try with_reducible rfl)
  try simp only [Act.put, List.setIfInBounds_toArray, List.set_cons_zero, List.set_cons_succ]
  refine wpAnyH_done (by kernel_rfl) ?_ _
  refine NoPanic.normal ?_
  try simp only [Act.put, List.setIfInBounds_toArray, List.set_cons_zero, List.set_cons_succ]
  have HW := Lib.hid (HBX.out.trans (hHeld.2.mono HBX.out.size))
  clear hHeld
  go_wp2
  go_ret2
  exact ⟨rfl, HW.out⟩
set_option maxHeartbeats 4000000 in
set_option maxRecDepth 100000 in
theorem rbytes_no2 (w : World) (c : Cl) (D G : Value) (hD : RB w D c.da) (hG : IB w G c.gi) (hh : U64 c.hi) (hl : U64 c.lo) (HB : Bytes c.da) (hri : wide1 c ∧ wide2 c ∧ wide3 c) (hno : ¬ c = keptC c) :
    Calls Try.prog 10 #[cv c D G] w fun e w' => e = .returned (.tuple #[.slice none 0 0, .int .i64 1]) ∧ Below w.heap.size w w' := by
  have HS := Lib.hid (fun a (ha : Below w.heap.size w a) D' G' (h1 : RB a D' (keptC c).da) (h2 : IB a G' (keptC c).gi) (h3 : Bytes (keptC c).da) => same_any a c (keptC c) D G D' G' (hD.below ha) (hG.below ha) h1 h2 HB h3)
  have HKD : Hid (Bytes (keptC c).da) := Lib.hid (by unfold keptC zc; split; exact (fun z hz => by cases hz); split; exact (fun z hz => by cases hz); split; exact (fun z hz => by cases hz); split; exact (fun z hz => by cases hz); split; exact HB; split; exact (fun z hz => by cases hz); split; exact (fun z hz => by cases hz); exact (fun z hz => by cases hz))
  have HR := Lib.hid (fun a (ha : Below w.heap.size w a) => right_any a c D G hD.sl (hG.below ha))
  have HK := Lib.hid (fun a (ha : Below w.heap.size w a) => kept_any a c D G (hD.below ha) (hG.below ha))
  rw [decide_eq_true hri] at HR
  rw [decide_eq_false hno] at HS
  have HDD := Lib.hid hD
  have HGG := Lib.hid hG
  have HH := Lib.hid (And.intro hh hl)
  have HBD := Lib.hid HB
  obtain ⟨op, by', sz, obj, hi, lo, gv, rt, off, n, da, ix, gi⟩ := c
  obtain ⟨Ad, cd, rfl⟩ : SL D da.length := hD.sl
  obtain ⟨Ag, cg, rfl⟩ : SL G gi.length := hG.sl
  obtain ⟨nd, hnd⟩ : ∃ nd, da.length = nd := ⟨_, rfl⟩
  obtain ⟨ng, hng⟩ : ∃ ng, gi.length = ng := ⟨_, rfl⟩
  have HND := Lib.hid hnd
  have HNG := Lib.hid hng
  unfold cv cells at HR HS HK ⊢
  simp only [hnd, hng] at HR HS HK HDD HGG ⊢
  have HBX := Lib.hid ((Below.refl w.heap.size w).alloc (Nat.le_refl _) (.cells #[.int .i64 op, .int .i64 by', .int .i64 sz, .int .i64 obj, .int .u64 hi, .int .u64 lo, .bool gv, .int .i64 rt, .int .i64 off, .int .i64 n, .slice Ad nd cd, .int .i64 ix, .slice Ag ng cg] 30))
  obtain ⟨B, hB⟩ : ∃ B, w.heap.size = B := ⟨_, rfl⟩
  have HBB := Lib.hid hB
  have HRW : Hid ((w.alloc (.cells #[.int .i64 op, .int .i64 by', .int .i64 sz, .int .i64 obj, .int .u64 hi, .int .u64 lo, .bool gv, .int .i64 rt, .int .i64 off, .int .i64 n, .slice Ad nd cd, .int .i64 ix, .slice Ag ng cg] 30)).heap[B]? = some (.cells #[.int .i64 op, .int .i64 by', .int .i64 sz, .int .i64 obj, .int .u64 hi, .int .u64 lo, .bool gv, .int .i64 rt, .int .i64 off, .int .i64 n, .slice Ad nd cd, .int .i64 ix, .slice Ag ng cg] 30)) := Lib.hid (row_new hB.symm)
  have HSZ : Hid ((w.alloc (.cells #[.int .i64 op, .int .i64 by', .int .i64 sz, .int .i64 obj, .int .u64 hi, .int .u64 lo, .bool gv, .int .i64 rt, .int .i64 off, .int .i64 n, .slice Ad nd cd, .int .i64 ix, .slice Ag ng cg] 30)).heap.size = B + 1) := Lib.hid (by simp [hB])
  clear hD hG hh hl HB hnd hng hno hri
  go_enter Try.func10, Try.ntmps10
  go_wp2_with fail
  generalize (w.alloc (.cells #[.int .i64 op, .int .i64 by', .int .i64 sz, .int .i64 obj, .int .u64 hi, .int .u64 lo, .bool gv, .int .i64 rt, .int .i64 off, .int .i64 n, .slice Ad nd cd, .int .i64 ix, .slice Ag ng cg] 30)) = W1 at HBX HRW HSZ ⊢
  have ST : Hid (W1.drew.heap[B]? = some (.cells #[.int .i64 op, .int .i64 by', .int .i64 sz, .int .i64 obj, .int .u64 hi, .int .u64 lo, .bool gv, .int .i64 rt, .int .i64 off, .int .i64 n, .slice Ad nd cd, .int .i64 ix, .slice Ag ng cg] 30) ∧ Below W1.heap.size W1 W1.drew) := Lib.hid ⟨HRW.out, (Below.refl _ _).drew⟩
  have KEEP : Hid (∀ a b, Below a.heap.size a b → (a.heap[B]? = some (.cells #[.int .i64 op, .int .i64 by', .int .i64 sz, .int .i64 obj, .int .u64 hi, .int .u64 lo, .bool gv, .int .i64 rt, .int .i64 off, .int .i64 n, .slice Ad nd cd, .int .i64 ix, .slice Ag ng cg] 30) ∧ Below W1.heap.size W1 a) → (b.heap[B]? = some (.cells #[.int .i64 op, .int .i64 by', .int .i64 sz, .int .i64 obj, .int .u64 hi, .int .u64 lo, .bool gv, .int .i64 rt, .int .i64 off, .int .i64 n, .slice Ad nd cd, .int .i64 ix, .slice Ag ng cg] 30) ∧ Below W1.heap.size W1 b)) := Lib.hid (fun a b h ⟨k1, k2⟩ => ⟨row_on h k1, k2.trans (h.mono k2.size)⟩)
  refine wp_region_noPanic ?_
  refine wp_region_held_drew (S := fun w' => w'.heap[B]? = some (.cells #[.int .i64 op, .int .i64 by', .int .i64 sz, .int .i64 obj, .int .u64 hi, .int .u64 lo, .bool gv, .int .i64 rt, .int .i64 off, .int .i64 n, .slice Ad nd cd, .int .i64 ix, .slice Ag ng cg] 30) ∧ Below W1.heap.size W1 w') (by kernel_rfl) (ST.out) (fun hHeld => ?_)
  refine wpAnyH_take (i := 0) (oi := { dst := some 6, op := Go.Op.load 30 (Go.Operand.tmp 1), type := 30, pos := "ref.go:99", after := #[], guard := none }) (v := .agg #[.int .i64 op, .int .i64 by', .int .i64 sz, .int .i64 obj, .int .u64 hi, .int .u64 lo, .bool gv, .int .i64 rt, .int .i64 off, .int .i64 n, .slice Ad nd cd, .int .i64 ix, .slice Ag ng cg]) rfl (by kernel_rfl) (by kernel_rfl) (by kernel_rfl) (fun _ _ _ h => h) (yieldsIf_load_mid (by rfl) 30 (.tmp 1) rfl B 0 rfl [.int .i64 op, .int .i64 by', .int .i64 sz, .int .i64 obj, .int .u64 hi, .int .u64 lo, .bool gv, .int .i64 rt, .int .i64 off, .int .i64 n, .slice Ad nd cd, .int .i64 ix, .slice Ag ng cg] _ (fun w hSw => range_row hSw.1 (by rfl)) Try.underlying30 rfl info30) (by assumption) ?_
  try simp only [Act.put, List.setIfInBounds_toArray, List.set_cons_zero, List.set_cons_succ]
  refine wpAnyH_ready (rs := [1]) (by kernel_rfl) (by simp) ?_
  refine AllReadyH.cons (o := { dst := some 7, op := Go.Op.call { callee := Go.Callee.value (Go.Operand.func 31), args := #[Go.Operand.tmp 6], argTypes := #[30] }, type := 4, pos := "ref.go:99", after := #[{ on := 0, ground := Go.Ground.data }], guard := none }) rfl (fun K hK => ?_) AllReadyH.nil
  go_simp
  go_at_call 31
  (refine (HR.out _ (HBX.out.trans (hHeld.2.mono HBX.out.size))).mono ?_)
  rintro e w2 ⟨rfl, hb2⟩
  refine hK.out _ _ (KEEP.out _ _ hb2 hHeld) (fun hHeld2 => ?_)
  clear hK K hHeld
  have hHeld := hHeld2
  clear hHeld2
  try simp only [Act.put, List.setIfInBounds_toArray, List.set_cons_zero, List.set_cons_succ]
  refine wpAnyH_take (i := 2) (oi := { dst := some 8, op := Go.Op.unOp Go.UnOp.not 4 (Go.Operand.tmp 7), type := 4, pos := "ref.go:99", after := #[{ on := 1, ground := Go.Ground.data }], guard := none }) (v := ?_) rfl (by kernel_rfl) (by kernel_rfl) (by kernel_rfl) (fun _ _ _ h => h) (Or.inl ⟨by rfl, ?hy2_4⟩) (by assumption) ?rest2_4
  case hy2_4 => (intro w hSw; go_simp; try with_reducible rfl)
  try simp only [Act.put, List.setIfInBounds_toArray, List.set_cons_zero, List.set_cons_succ]
  refine wpAnyH_take (i := 3) (oi := { dst := some 9, op := Go.Op.move (Go.Operand.tmp 8), type := 4, pos := "ref.go:99", after := #[{ on := 2, ground := Go.Ground.data }, { on := 1, ground := Go.Ground.chain }], guard := none }) (v := ?_) rfl (by kernel_rfl) (by kernel_rfl) (by kernel_rfl) (fun _ _ _ h => h) (Or.inl ⟨by rfl, ?hy3_5⟩) (by assumption) ?rest3_5
  case hy3_5 => (intro w hSw; go_simp; try with_reducible rfl)
  try simp only [Act.put, List.setIfInBounds_toArray, List.set_cons_zero, List.set_cons_succ]
  refine wpAnyH_take (i := 4) (oi := { dst := some 10, op := Go.Op.load 30 (Go.Operand.tmp 1), type := 30, pos := "ref.go:99", after := #[{ on := 3, ground := Go.Ground.guard }], guard := some (3, false) }) (v := .agg #[.int .i64 op, .int .i64 by', .int .i64 sz, .int .i64 obj, .int .u64 hi, .int .u64 lo, .bool gv, .int .i64 rt, .int .i64 off, .int .i64 n, .slice Ad nd cd, .int .i64 ix, .slice Ag ng cg]) rfl (by kernel_rfl) (by kernel_rfl) (by kernel_rfl) (fun _ _ _ h => h) (yieldsIf_load_mid (by rfl) 30 (.tmp 1) rfl B 0 rfl [.int .i64 op, .int .i64 by', .int .i64 sz, .int .i64 obj, .int .u64 hi, .int .u64 lo, .bool gv, .int .i64 rt, .int .i64 off, .int .i64 n, .slice Ad nd cd, .int .i64 ix, .slice Ag ng cg] _ (fun w hSw => range_row hSw.1 (by rfl)) Try.underlying30 rfl info30) (by assumption) ?_
  try simp only [Act.put, List.setIfInBounds_toArray, List.set_cons_zero, List.set_cons_succ]
  refine wpAnyH_take (i := 5) (oi := { dst := some 11, op := Go.Op.load 30 (Go.Operand.tmp 1), type := 30, pos := "ref.go:99", after := #[{ on := 3, ground := Go.Ground.guard }], guard := some (3, false) }) (v := .agg #[.int .i64 op, .int .i64 by', .int .i64 sz, .int .i64 obj, .int .u64 hi, .int .u64 lo, .bool gv, .int .i64 rt, .int .i64 off, .int .i64 n, .slice Ad nd cd, .int .i64 ix, .slice Ag ng cg]) rfl (by kernel_rfl) (by kernel_rfl) (by kernel_rfl) (fun _ _ _ h => h) (yieldsIf_load_mid (by rfl) 30 (.tmp 1) rfl B 0 rfl [.int .i64 op, .int .i64 by', .int .i64 sz, .int .i64 obj, .int .u64 hi, .int .u64 lo, .bool gv, .int .i64 rt, .int .i64 off, .int .i64 n, .slice Ad nd cd, .int .i64 ix, .slice Ag ng cg] _ (fun w hSw => range_row hSw.1 (by rfl)) Try.underlying30 rfl info30) (by assumption) ?_
  try simp only [Act.put, List.setIfInBounds_toArray, List.set_cons_zero, List.set_cons_succ]
  refine wpAnyH_ready (rs := [6]) (by kernel_rfl) (by simp) ?_
  refine AllReadyH.cons (o := { dst := some 12, op := Go.Op.call { callee := Go.Callee.value (Go.Operand.func 32), args := #[Go.Operand.tmp 11], argTypes := #[30] }, type := 30, pos := "ref.go:99", after := #[{ on := 5, ground := Go.Ground.data }, { on := 3, ground := Go.Ground.chain }, { on := 3, ground := Go.Ground.guard }], guard := some (3, false) }) rfl (fun K hK => ?_) AllReadyH.nil
  go_simp
  go_at_call 32
  (refine (HK.out _ (HBX.out.trans (hHeld.2.mono HBX.out.size))).mono ?_)
  rintro e w3 ⟨D', G', rfl, hd3, hg3, hb3⟩
  refine hK.out _ _ (KEEP.out _ _ hb3 hHeld) (fun hHeld2 => ?_)
  clear hK K hHeld
  have hHeld := hHeld2
  clear hHeld2
  try simp only [Act.put, List.setIfInBounds_toArray, List.set_cons_zero, List.set_cons_succ]
  refine wpAnyH_ready (rs := [7]) (by kernel_rfl) (by simp) ?_
  refine AllReadyH.cons (o := { dst := some 13, op := Go.Op.call { callee := Go.Callee.value (Go.Operand.func 14), args := #[Go.Operand.tmp 10, Go.Operand.tmp 12], argTypes := #[30, 30] }, type := 4, pos := "ref.go:99", after := #[{ on := 4, ground := Go.Ground.data }, { on := 6, ground := Go.Ground.data }, { on := 6, ground := Go.Ground.chain }, { on := 3, ground := Go.Ground.guard }], guard := some (3, false) }) rfl (fun K hK => ?_) AllReadyH.nil
  go_simp
  go_at_call 14
  (refine (HS.out _ (HBX.out.trans (hHeld.2.mono HBX.out.size)) D' G' hd3 hg3 HKD.out).mono ?_)
  rintro e w4 ⟨rfl, hb4⟩
  refine hK.out _ _ (KEEP.out _ _ hb4 hHeld) (fun hHeld2 => ?_)
  clear hK K hHeld
  have hHeld := hHeld2
  clear hHeld2
  try simp only [Act.put, List.setIfInBounds_toArray, List.set_cons_zero, List.set_cons_succ]
  refine wpAnyH_take (i := 8) (oi := { dst := some 14, op := Go.Op.unOp Go.UnOp.not 4 (Go.Operand.tmp 13), type := 4, pos := "ref.go:99", after := #[{ on := 7, ground := Go.Ground.data }, { on := 3, ground := Go.Ground.guard }], guard := some (3, false) }) (v := ?_) rfl (by kernel_rfl) (by kernel_rfl) (by kernel_rfl) (fun _ _ _ h => h) (Or.inl ⟨by rfl, ?hy8_6⟩) (by assumption) ?rest8_6
  case hy8_6 => (intro w hSw; go_simp; try with_reducible rfl)
  try simp only [Act.put, List.setIfInBounds_toArray, List.set_cons_zero, List.set_cons_succ]
  refine wpAnyH_take (i := 9) (oi := { dst := some 15, op := Go.Op.pick (Go.Operand.tmp 9) (Go.Operand.const (Go.Value.bool true)) (Go.Operand.tmp 14), type := 4, pos := "ref.go:99", after := #[{ on := 3, ground := Go.Ground.data }, { on := 8, ground := Go.Ground.data }], guard := none }) (v := ?_) rfl (by kernel_rfl) (by kernel_rfl) (by kernel_rfl) (fun _ _ _ h => h) (Or.inl ⟨by rfl, ?hy9_7⟩) (by assumption) ?rest9_7
  case hy9_7 => (intro w hSw; go_simp; try with_reducible rfl)
  try simp only [Act.put, List.setIfInBounds_toArray, List.set_cons_zero, List.set_cons_succ]
  refine wpAnyH_done (by kernel_rfl) ?_ _
  refine NoPanic.normal ?_
  try simp only [Act.put, List.setIfInBounds_toArray, List.set_cons_zero, List.set_cons_succ]
  have HW := Lib.hid (HBX.out.trans (hHeld.2.mono HBX.out.size))
  clear hHeld
  go_wp2
  go_ret2
  exact ⟨rfl, HW.out⟩
set_option maxHeartbeats 4000000 in
set_option maxRecDepth 100000 in
theorem rbytes_ok (w : World) (c : Cl) (D G : Value) (hD : RB w D c.da) (hG : IB w G c.gi) (hh : U64 c.hi) (hl : U64 c.lo) (HB : Bytes c.da) (hf : form c) :
    Calls Try.prog 10 #[cv c D G] w fun e w' => ∃ v, e = .returned (.tuple #[v, .int .i64 0]) ∧ OB w' v (enc c) ∧ Below w.heap.size w w' ∧ Fresh w v := by
  have hri := ((form_iff c).1 hf).1
  have hno := ((form_iff c).1 hf).2
  have HS := Lib.hid (fun a (ha : Below w.heap.size w a) D' G' (h1 : RB a D' (keptC c).da) (h2 : IB a G' (keptC c).gi) (h3 : Bytes (keptC c).da) => same_any a c (keptC c) D G D' G' (hD.below ha) (hG.below ha) h1 h2 HB h3)
  have HKD : Hid (Bytes (keptC c).da) := Lib.hid (by unfold keptC zc; split; exact (fun z hz => by cases hz); split; exact (fun z hz => by cases hz); split; exact (fun z hz => by cases hz); split; exact (fun z hz => by cases hz); split; exact HB; split; exact (fun z hz => by cases hz); split; exact (fun z hz => by cases hz); exact (fun z hz => by cases hz))
  have HR := Lib.hid (fun a (ha : Below w.heap.size w a) => right_any a c D G hD.sl (hG.below ha))
  have HK := Lib.hid (fun a (ha : Below w.heap.size w a) => kept_any a c D G (hD.below ha) (hG.below ha))
  rw [decide_eq_true hri] at HR
  rw [decide_eq_true hno] at HS
  have HDD := Lib.hid hD
  have HGG := Lib.hid hG
  have HH := Lib.hid (And.intro hh hl)
  have HBD := Lib.hid HB
  obtain ⟨op, by', sz, obj, hi, lo, gv, rt, off, n, da, ix, gi⟩ := c
  obtain ⟨Ad, cd, rfl⟩ : SL D da.length := hD.sl
  obtain ⟨Ag, cg, rfl⟩ : SL G gi.length := hG.sl
  obtain ⟨nd, hnd⟩ : ∃ nd, da.length = nd := ⟨_, rfl⟩
  obtain ⟨ng, hng⟩ : ∃ ng, gi.length = ng := ⟨_, rfl⟩
  have HND := Lib.hid hnd
  have HNG := Lib.hid hng
  unfold cv cells at HR HS HK ⊢
  simp only [hnd, hng] at HR HS HK HDD HGG ⊢
  have HBX := Lib.hid ((Below.refl w.heap.size w).alloc (Nat.le_refl _) (.cells #[.int .i64 op, .int .i64 by', .int .i64 sz, .int .i64 obj, .int .u64 hi, .int .u64 lo, .bool gv, .int .i64 rt, .int .i64 off, .int .i64 n, .slice Ad nd cd, .int .i64 ix, .slice Ag ng cg] 30))
  obtain ⟨B, hB⟩ : ∃ B, w.heap.size = B := ⟨_, rfl⟩
  have HBB := Lib.hid hB
  have HRW : Hid ((w.alloc (.cells #[.int .i64 op, .int .i64 by', .int .i64 sz, .int .i64 obj, .int .u64 hi, .int .u64 lo, .bool gv, .int .i64 rt, .int .i64 off, .int .i64 n, .slice Ad nd cd, .int .i64 ix, .slice Ag ng cg] 30)).heap[B]? = some (.cells #[.int .i64 op, .int .i64 by', .int .i64 sz, .int .i64 obj, .int .u64 hi, .int .u64 lo, .bool gv, .int .i64 rt, .int .i64 off, .int .i64 n, .slice Ad nd cd, .int .i64 ix, .slice Ag ng cg] 30)) := Lib.hid (row_new hB.symm)
  have HSZ : Hid ((w.alloc (.cells #[.int .i64 op, .int .i64 by', .int .i64 sz, .int .i64 obj, .int .u64 hi, .int .u64 lo, .bool gv, .int .i64 rt, .int .i64 off, .int .i64 n, .slice Ad nd cd, .int .i64 ix, .slice Ag ng cg] 30)).heap.size = B + 1) := Lib.hid (by simp [hB])
  obtain ⟨⟨ho, hb, hsz, hoff, hn⟩, ⟨hob, hrt, hix, hgl, hdl⟩, hg, _, hrc⟩ := hf
  simp only [hnd, hng] at ho hb hsz hoff hn hob hrt hix hgl hdl hh hl HB
  have o10 : op = 1 ∨ op = 2 ∨ op = 3 ∨ op = 4 ∨ op = 5 ∨ op = 6 ∨ op = 7 ∨ op = 8 ∨ op = 9 ∨ op = 10 := by omega
  have HX := Lib.hid (And.intro hsz (And.intro hoff (And.intro hn (And.intro hob (And.intro hrt (And.intro hix (And.intro hgl hdl)))))))
  have HO10 := Lib.hid (And.intro o10 (And.intro ho (And.intro hb (And.intro hg hrc))))
  clear o10 hrc
  clear hD hG hh hl HB hnd hng hri hno hsz hoff hn hob hrt hix hgl hdl hg ho hb
  go_enter Try.func10, Try.ntmps10
  go_wp2_with fail
  generalize (w.alloc (.cells #[.int .i64 op, .int .i64 by', .int .i64 sz, .int .i64 obj, .int .u64 hi, .int .u64 lo, .bool gv, .int .i64 rt, .int .i64 off, .int .i64 n, .slice Ad nd cd, .int .i64 ix, .slice Ag ng cg] 30)) = W1 at HBX HRW HSZ ⊢
  have ST : Hid (W1.drew.heap[B]? = some (.cells #[.int .i64 op, .int .i64 by', .int .i64 sz, .int .i64 obj, .int .u64 hi, .int .u64 lo, .bool gv, .int .i64 rt, .int .i64 off, .int .i64 n, .slice Ad nd cd, .int .i64 ix, .slice Ag ng cg] 30) ∧ Below W1.heap.size W1 W1.drew) := Lib.hid ⟨HRW.out, (Below.refl _ _).drew⟩
  have KEEP : Hid (∀ a b, Below a.heap.size a b → (a.heap[B]? = some (.cells #[.int .i64 op, .int .i64 by', .int .i64 sz, .int .i64 obj, .int .u64 hi, .int .u64 lo, .bool gv, .int .i64 rt, .int .i64 off, .int .i64 n, .slice Ad nd cd, .int .i64 ix, .slice Ag ng cg] 30) ∧ Below W1.heap.size W1 a) → (b.heap[B]? = some (.cells #[.int .i64 op, .int .i64 by', .int .i64 sz, .int .i64 obj, .int .u64 hi, .int .u64 lo, .bool gv, .int .i64 rt, .int .i64 off, .int .i64 n, .slice Ad nd cd, .int .i64 ix, .slice Ag ng cg] 30) ∧ Below W1.heap.size W1 b)) := Lib.hid (fun a b h ⟨k1, k2⟩ => ⟨row_on h k1, k2.trans (h.mono k2.size)⟩)
  refine wp_region_noPanic ?_
  refine wp_region_held_drew (S := fun w' => w'.heap[B]? = some (.cells #[.int .i64 op, .int .i64 by', .int .i64 sz, .int .i64 obj, .int .u64 hi, .int .u64 lo, .bool gv, .int .i64 rt, .int .i64 off, .int .i64 n, .slice Ad nd cd, .int .i64 ix, .slice Ag ng cg] 30) ∧ Below W1.heap.size W1 w') (by kernel_rfl) (ST.out) (fun hHeld => ?_)
  refine wpAnyH_take (i := 0) (oi := { dst := some 6, op := Go.Op.load 30 (Go.Operand.tmp 1), type := 30, pos := "ref.go:99", after := #[], guard := none }) (v := .agg #[.int .i64 op, .int .i64 by', .int .i64 sz, .int .i64 obj, .int .u64 hi, .int .u64 lo, .bool gv, .int .i64 rt, .int .i64 off, .int .i64 n, .slice Ad nd cd, .int .i64 ix, .slice Ag ng cg]) rfl (by kernel_rfl) (by kernel_rfl) (by kernel_rfl) (fun _ _ _ h => h) (yieldsIf_load_mid (by rfl) 30 (.tmp 1) rfl B 0 rfl [.int .i64 op, .int .i64 by', .int .i64 sz, .int .i64 obj, .int .u64 hi, .int .u64 lo, .bool gv, .int .i64 rt, .int .i64 off, .int .i64 n, .slice Ad nd cd, .int .i64 ix, .slice Ag ng cg] _ (fun w hSw => range_row hSw.1 (by rfl)) Try.underlying30 rfl info30) (by assumption) ?_
  try simp only [Act.put, List.setIfInBounds_toArray, List.set_cons_zero, List.set_cons_succ]
  refine wpAnyH_ready (rs := [1]) (by kernel_rfl) (by simp) ?_
  refine AllReadyH.cons (o := { dst := some 7, op := Go.Op.call { callee := Go.Callee.value (Go.Operand.func 31), args := #[Go.Operand.tmp 6], argTypes := #[30] }, type := 4, pos := "ref.go:99", after := #[{ on := 0, ground := Go.Ground.data }], guard := none }) rfl (fun K hK => ?_) AllReadyH.nil
  go_simp
  go_at_call 31
  (refine (HR.out _ (HBX.out.trans (hHeld.2.mono HBX.out.size))).mono ?_)
  rintro e w2 ⟨rfl, hb2⟩
  refine hK.out _ _ (KEEP.out _ _ hb2 hHeld) (fun hHeld2 => ?_)
  clear hK K hHeld
  have hHeld := hHeld2
  clear hHeld2
  try simp only [Act.put, List.setIfInBounds_toArray, List.set_cons_zero, List.set_cons_succ]
  refine wpAnyH_take (i := 2) (oi := { dst := some 8, op := Go.Op.unOp Go.UnOp.not 4 (Go.Operand.tmp 7), type := 4, pos := "ref.go:99", after := #[{ on := 1, ground := Go.Ground.data }], guard := none }) (v := ?_) rfl (by kernel_rfl) (by kernel_rfl) (by kernel_rfl) (fun _ _ _ h => h) (Or.inl ⟨by rfl, ?hy2_8⟩) (by assumption) ?rest2_8
  case hy2_8 => (intro w hSw; go_simp; try with_reducible rfl)
  try simp only [Act.put, List.setIfInBounds_toArray, List.set_cons_zero, List.set_cons_succ]
  refine wpAnyH_take (i := 3) (oi := { dst := some 9, op := Go.Op.move (Go.Operand.tmp 8), type := 4, pos := "ref.go:99", after := #[{ on := 2, ground := Go.Ground.data }, { on := 1, ground := Go.Ground.chain }], guard := none }) (v := ?_) rfl (by kernel_rfl) (by kernel_rfl) (by kernel_rfl) (fun _ _ _ h => h) (Or.inl ⟨by rfl, ?hy3_9⟩) (by assumption) ?rest3_9
  case hy3_9 => (intro w hSw; go_simp; try with_reducible rfl)
  try simp only [Act.put, List.setIfInBounds_toArray, List.set_cons_zero, List.set_cons_succ]
  refine wpAnyH_take (i := 4) (oi := { dst := some 10, op := Go.Op.load 30 (Go.Operand.tmp 1), type := 30, pos := "ref.go:99", after := #[{ on := 3, ground := Go.Ground.guard }], guard := some (3, false) }) (v := .agg #[.int .i64 op, .int .i64 by', .int .i64 sz, .int .i64 obj, .int .u64 hi, .int .u64 lo, .bool gv, .int .i64 rt, .int .i64 off, .int .i64 n, .slice Ad nd cd, .int .i64 ix, .slice Ag ng cg]) rfl (by kernel_rfl) (by kernel_rfl) (by kernel_rfl) (fun _ _ _ h => h) (yieldsIf_load_mid (by rfl) 30 (.tmp 1) rfl B 0 rfl [.int .i64 op, .int .i64 by', .int .i64 sz, .int .i64 obj, .int .u64 hi, .int .u64 lo, .bool gv, .int .i64 rt, .int .i64 off, .int .i64 n, .slice Ad nd cd, .int .i64 ix, .slice Ag ng cg] _ (fun w hSw => range_row hSw.1 (by rfl)) Try.underlying30 rfl info30) (by assumption) ?_
  try simp only [Act.put, List.setIfInBounds_toArray, List.set_cons_zero, List.set_cons_succ]
  refine wpAnyH_take (i := 5) (oi := { dst := some 11, op := Go.Op.load 30 (Go.Operand.tmp 1), type := 30, pos := "ref.go:99", after := #[{ on := 3, ground := Go.Ground.guard }], guard := some (3, false) }) (v := .agg #[.int .i64 op, .int .i64 by', .int .i64 sz, .int .i64 obj, .int .u64 hi, .int .u64 lo, .bool gv, .int .i64 rt, .int .i64 off, .int .i64 n, .slice Ad nd cd, .int .i64 ix, .slice Ag ng cg]) rfl (by kernel_rfl) (by kernel_rfl) (by kernel_rfl) (fun _ _ _ h => h) (yieldsIf_load_mid (by rfl) 30 (.tmp 1) rfl B 0 rfl [.int .i64 op, .int .i64 by', .int .i64 sz, .int .i64 obj, .int .u64 hi, .int .u64 lo, .bool gv, .int .i64 rt, .int .i64 off, .int .i64 n, .slice Ad nd cd, .int .i64 ix, .slice Ag ng cg] _ (fun w hSw => range_row hSw.1 (by rfl)) Try.underlying30 rfl info30) (by assumption) ?_
  try simp only [Act.put, List.setIfInBounds_toArray, List.set_cons_zero, List.set_cons_succ]
  refine wpAnyH_ready (rs := [6]) (by kernel_rfl) (by simp) ?_
  refine AllReadyH.cons (o := { dst := some 12, op := Go.Op.call { callee := Go.Callee.value (Go.Operand.func 32), args := #[Go.Operand.tmp 11], argTypes := #[30] }, type := 30, pos := "ref.go:99", after := #[{ on := 5, ground := Go.Ground.data }, { on := 3, ground := Go.Ground.chain }, { on := 3, ground := Go.Ground.guard }], guard := some (3, false) }) rfl (fun K hK => ?_) AllReadyH.nil
  go_simp
  go_at_call 32
  (refine (HK.out _ (HBX.out.trans (hHeld.2.mono HBX.out.size))).mono ?_)
  rintro e w3 ⟨D', G', rfl, hd3, hg3, hb3⟩
  refine hK.out _ _ (KEEP.out _ _ hb3 hHeld) (fun hHeld2 => ?_)
  clear hK K hHeld
  have hHeld := hHeld2
  clear hHeld2
  try simp only [Act.put, List.setIfInBounds_toArray, List.set_cons_zero, List.set_cons_succ]
  refine wpAnyH_ready (rs := [7]) (by kernel_rfl) (by simp) ?_
  refine AllReadyH.cons (o := { dst := some 13, op := Go.Op.call { callee := Go.Callee.value (Go.Operand.func 14), args := #[Go.Operand.tmp 10, Go.Operand.tmp 12], argTypes := #[30, 30] }, type := 4, pos := "ref.go:99", after := #[{ on := 4, ground := Go.Ground.data }, { on := 6, ground := Go.Ground.data }, { on := 6, ground := Go.Ground.chain }, { on := 3, ground := Go.Ground.guard }], guard := some (3, false) }) rfl (fun K hK => ?_) AllReadyH.nil
  go_simp
  go_at_call 14
  (refine (HS.out _ (HBX.out.trans (hHeld.2.mono HBX.out.size)) D' G' hd3 hg3 HKD.out).mono ?_)
  rintro e w4 ⟨rfl, hb4⟩
  refine hK.out _ _ (KEEP.out _ _ hb4 hHeld) (fun hHeld2 => ?_)
  clear hK K hHeld
  have hHeld := hHeld2
  clear hHeld2
  try simp only [Act.put, List.setIfInBounds_toArray, List.set_cons_zero, List.set_cons_succ]
  refine wpAnyH_take (i := 8) (oi := { dst := some 14, op := Go.Op.unOp Go.UnOp.not 4 (Go.Operand.tmp 13), type := 4, pos := "ref.go:99", after := #[{ on := 7, ground := Go.Ground.data }, { on := 3, ground := Go.Ground.guard }], guard := some (3, false) }) (v := ?_) rfl (by kernel_rfl) (by kernel_rfl) (by kernel_rfl) (fun _ _ _ h => h) (Or.inl ⟨by rfl, ?hy8_10⟩) (by assumption) ?rest8_10
  case hy8_10 => (intro w hSw; go_simp; try with_reducible rfl)
  try simp only [Act.put, List.setIfInBounds_toArray, List.set_cons_zero, List.set_cons_succ]
  refine wpAnyH_take (i := 9) (oi := { dst := some 15, op := Go.Op.pick (Go.Operand.tmp 9) (Go.Operand.const (Go.Value.bool true)) (Go.Operand.tmp 14), type := 4, pos := "ref.go:99", after := #[{ on := 3, ground := Go.Ground.data }, { on := 8, ground := Go.Ground.data }], guard := none }) (v := ?_) rfl (by kernel_rfl) (by kernel_rfl) (by kernel_rfl) (fun _ _ _ h => h) (Or.inl ⟨by rfl, ?hy9_11⟩) (by assumption) ?rest9_11
  case hy9_11 => (intro w hSw; go_simp; try with_reducible rfl)
  try simp only [Act.put, List.setIfInBounds_toArray, List.set_cons_zero, List.set_cons_succ]
  refine wpAnyH_done (by kernel_rfl) ?_ _
  refine NoPanic.normal ?_
  try simp only [Act.put, List.setIfInBounds_toArray, List.set_cons_zero, List.set_cons_succ]
  have HI4 := Lib.hid hHeld
  clear hHeld hb2 hb3 hb4 hd3 hg3 HS HK HR HKD KEEP
  go_wp2_with fail
  generalize cv (keptC (⟨op, by', sz, obj, hi, lo, gv, rt, off, n, da, ix, gi⟩ : Cl)) D' G' = JK
  clear D' G'
  refine wp_region_noPanic ?_
  refine wp_region_held_drew (S := fun w' => w'.heap[B]? = some (.cells #[.int .i64 op, .int .i64 by', .int .i64 sz, .int .i64 obj, .int .u64 hi, .int .u64 lo, .bool gv, .int .i64 rt, .int .i64 off, .int .i64 n, .slice Ad nd cd, .int .i64 ix, .slice Ag ng cg] 30) ∧ Below W1.heap.size W1 w') (by kernel_rfl) (⟨HI4.out.1, HI4.out.2.drew⟩) (fun hHeld => ?_)
  refine wpAnyH_take (i := 0) (oi := { dst := some 16, op := Go.Op.fieldAddr 30 (Go.Operand.tmp 1) 0, type := 0, pos := "ref.go:102", after := #[], guard := none }) (v := ?_) rfl (by kernel_rfl) (by kernel_rfl) (by kernel_rfl) (fun _ _ _ h => h) (Or.inl ⟨by rfl, ?hy0_12⟩) (by assumption) ?rest0_12
  case hy0_12 => (intro w hSw; go_simp; try with_reducible rfl)
  try simp only [Act.put, List.setIfInBounds_toArray, List.set_cons_zero, List.set_cons_succ]
  refine wpAnyH_take (i := 3) (oi := { dst := some 19, op := Go.Op.fieldAddr 30 (Go.Operand.tmp 1) 1, type := 0, pos := "ref.go:102", after := #[], guard := none }) (v := ?_) rfl (by kernel_rfl) (by kernel_rfl) (by kernel_rfl) (fun _ _ _ h => h) (Or.inl ⟨by rfl, ?hy3_13⟩) (by assumption) ?rest3_13
  case hy3_13 => (intro w hSw; go_simp; try with_reducible rfl)
  try simp only [Act.put, List.setIfInBounds_toArray, List.set_cons_zero, List.set_cons_succ]
  refine wpAnyH_take (i := 1) (oi := { dst := some 17, op := Go.Op.load 3 (Go.Operand.tmp 16), type := 3, pos := "ref.go:102", after := #[{ on := 0, ground := Go.Ground.data }], guard := none }) (v := ?_) rfl (by kernel_rfl) (by kernel_rfl) (by kernel_rfl) (fun _ _ _ h => h) (Or.inl ⟨by rfl, ?hy1_14⟩) (by assumption) ?rest1_14
  case hy1_14 => (intro w hSw; have z := cell_row (j := 0) hSw.1 rfl; go_simp; try with_reducible rfl)
  try simp only [Act.put, List.setIfInBounds_toArray, List.set_cons_zero, List.set_cons_succ]
  refine wpAnyH_take (i := 4) (oi := { dst := some 20, op := Go.Op.load 3 (Go.Operand.tmp 19), type := 3, pos := "ref.go:102", after := #[{ on := 3, ground := Go.Ground.data }], guard := none }) (v := ?_) rfl (by kernel_rfl) (by kernel_rfl) (by kernel_rfl) (fun _ _ _ h => h) (Or.inl ⟨by rfl, ?hy4_15⟩) (by assumption) ?rest4_15
  case hy4_15 => (intro w hSw; have z := cell_row (j := 1) hSw.1 rfl; go_simp; try with_reducible rfl)
  try simp only [Act.put, List.setIfInBounds_toArray, List.set_cons_zero, List.set_cons_succ]
  refine wpAnyH_ready (rs := [2]) (by kernel_rfl) (by simp) ?_
  refine AllReadyH.cons (o := { dst := some 18, op := Go.Op.call { callee := Go.Callee.value (Go.Operand.func 33), args := #[Go.Operand.const (Go.Value.slice none 0 0), Go.Operand.tmp 17, Go.Operand.const (Go.Value.int Go.IntKind.i64 1)], argTypes := #[27, 3, 3] }, type := 27, pos := "ref.go:102", after := #[{ on := 1, ground := Go.Ground.data }], guard := none }) rfl (fun K hK => ?_) AllReadyH.nil
  go_simp
  go_at_call 33
  (refine (put_r W1 _ (.slice none 0 0) [] op 1 1 rfl (by have := HX.out; have := HO10.out; omega) (by have := HX.out; have := HO10.out; omega) (by omega) (by simp [le_len, capB, wordB]) hHeld.2 (fresh_nil _) (OB.nil _)).mono ?_)
  rintro e w5 ⟨v5, rfl, o5, b5, f5⟩
  refine hK.out _ _ (⟨row_on (b5.mono (Nat.le_refl _)) HRW.out, b5⟩) (fun hHeld2 => ?_)
  clear hK K hHeld
  have hHeld := hHeld2
  clear hHeld2
  try simp only [Act.put, List.setIfInBounds_toArray, List.set_cons_zero, List.set_cons_succ]
  refine wpAnyH_ready (rs := [5]) (by kernel_rfl) (by simp) ?_
  refine AllReadyH.cons (o := { dst := some 21, op := Go.Op.call { callee := Go.Callee.value (Go.Operand.func 33), args := #[Go.Operand.tmp 18, Go.Operand.tmp 20, Go.Operand.const (Go.Value.int Go.IntKind.i64 2)], argTypes := #[27, 3, 3] }, type := 27, pos := "ref.go:102", after := #[{ on := 2, ground := Go.Ground.data }, { on := 4, ground := Go.Ground.data }, { on := 2, ground := Go.Ground.chain }], guard := none }) rfl (fun K hK => ?_) AllReadyH.nil
  go_simp
  go_at_call 33
  (refine (put_r W1 _ v5 ([] ++ le 1 op) by' 2 2 rfl (by have := HX.out; have := HO10.out; omega) (by have := HX.out; have := HO10.out; omega) (by omega) (by simp [le_len, capB, wordB]) hHeld.2 f5 o5).mono ?_)
  rintro e w6 ⟨v6, rfl, o6, b6, f6⟩
  refine hK.out _ _ (⟨row_on (b6.mono (Nat.le_refl _)) HRW.out, b6⟩) (fun hHeld2 => ?_)
  clear hK K hHeld
  have hHeld := hHeld2
  clear hHeld2
  try simp only [Act.put, List.setIfInBounds_toArray, List.set_cons_zero, List.set_cons_succ]
  refine wpAnyH_take (i := 6) (oi := { dst := some 4, op := Go.Op.assign (Go.Operand.tmp 21), type := 27, pos := "ref.go:102", after := #[{ on := 5, ground := Go.Ground.data }, { on := 5, ground := Go.Ground.chain }, { on := 0, ground := Go.Ground.phase }, { on := 1, ground := Go.Ground.phase }, { on := 2, ground := Go.Ground.phase }, { on := 3, ground := Go.Ground.phase }, { on := 4, ground := Go.Ground.phase }, { on := 5, ground := Go.Ground.phase }], guard := none }) (v := ?_) rfl (by kernel_rfl) (by kernel_rfl) (by kernel_rfl) (fun _ _ _ h => h) (Or.inl ⟨by rfl, ?hy6_16⟩) (by assumption) ?rest6_16
  case hy6_16 => (intro w hSw; go_simp; try with_reducible rfl)
  try simp only [Act.put, List.setIfInBounds_toArray, List.set_cons_zero, List.set_cons_succ]
  refine wpAnyH_done (by kernel_rfl) ?_ _
  refine NoPanic.normal ?_
  try simp only [Act.put, List.setIfInBounds_toArray, List.set_cons_zero, List.set_cons_succ]
  have O6 := Lib.hid o6
  have B6 := Lib.hid b6
  have F6 := Lib.hid f6
  have R6 := Lib.hid hHeld.1
  clear hHeld o5 b5 f5 o6 b6 f6 HI4 ST
  obtain ⟨o10, ho, hb, hg, hrc⟩ := HO10.out
  clear ho hb
  have HGI := Lib.hid hg
  have HRC := Lib.hid hrc
  clear hg hrc
  rcases o10 with rfl | rfl | rfl | rfl | rfl | rfl | rfl | rfl | rfl | rfl
  · have y0 : w6.cell? ⟨B, 0, none⟩ = some (.int .i64 1) := cell_row R6.out rfl
    have y2 : w6.cell? ⟨B, 2, none⟩ = some (.int .i64 sz) := cell_row R6.out rfl
    go_wp2_with (first | (go_at_call 33; refine (put_r W1 _ v6 ([] ++ le 1 1 ++ le 2 by') sz 4 4 (by omega) (by have := HX.out; omega) (by have := HX.out; omega) (by omega) (by simp [le_len, capB, wordB]) B6.out F6.out O6.out).mono ?_; rintro e w7 ⟨v7, rfl, o7, b7, f7⟩) | fail)
    go_ret2
    exact ⟨_, rfl, by rw [show enc (⟨1, by', sz, obj, hi, lo, gv, rt, off, n, da, ix, gi⟩ : Cl) = ([] ++ le 1 1 ++ le 2 by') ++ le 4 sz by simp [enc, bodyB, mvB, le4_s32, List.append_assoc]]; exact o7, HBX.out.trans (b7.mono HBX.out.size), fun b e => Nat.le_trans HBX.out.size (f7 b e)⟩
  · have y0 : w6.cell? ⟨B, 0, none⟩ = some (.int .i64 2) := cell_row R6.out rfl
    have y3 : w6.cell? ⟨B, 3, none⟩ = some (.int .i64 obj) := cell_row R6.out rfl
    have y4 : w6.cell? ⟨B, 4, none⟩ = some (.int .u64 hi) := cell_row R6.out rfl
    have y5 : w6.cell? ⟨B, 5, none⟩ = some (.int .u64 lo) := cell_row R6.out rfl
    go_wp2_with (first | (go_at_call 34; refine (cap_r W1 _ v6 ([] ++ le 1 2 ++ le 2 by') obj hi lo HX.out.2.2.2.1.1 HX.out.2.2.2.1.2 HH.out.1 HH.out.2 (by simp [le_len]) B6.out F6.out O6.out).mono ?_; rintro e w7 ⟨v7, rfl, o7, b7, f7⟩) | fail)
    go_ret2
    exact ⟨_, rfl, by rw [show enc (⟨2, by', sz, obj, hi, lo, gv, rt, off, n, da, ix, gi⟩ : Cl) = ([] ++ le 1 2 ++ le 2 by') ++ capB obj hi lo by simp [enc, bodyB, mvB, le4_s32, List.append_assoc]]; exact o7, HBX.out.trans (b7.mono HBX.out.size), fun b e => Nat.le_trans HBX.out.size (f7 b e)⟩
  · have y0 : w6.cell? ⟨B, 0, none⟩ = some (.int .i64 3) := cell_row R6.out rfl
    go_wp2_with fail
    refine wp_region_noPanic ?_
    refine wp_region_held_drew (S := fun w' => w'.heap[B]? = some (.cells #[.int .i64 3, .int .i64 by', .int .i64 sz, .int .i64 obj, .int .u64 hi, .int .u64 lo, .bool gv, .int .i64 rt, .int .i64 off, .int .i64 n, .slice Ad nd cd, .int .i64 ix, .slice Ag ng cg] 30) ∧ Below W1.heap.size W1 w') (by kernel_rfl) (⟨R6.out, B6.out.drew⟩) (fun hHeld => ?_)
    refine wpAnyH_take (i := 0) (oi := { dst := some 40, op := Go.Op.move (Go.Operand.tmp 4), type := 27, pos := "ref.go:109", after := #[], guard := none }) (v := ?_) rfl (by kernel_rfl) (by kernel_rfl) (by kernel_rfl) (fun _ _ _ h => h) (Or.inl ⟨by rfl, ?hy0_17⟩) (by assumption) ?rest0_17
    case hy0_17 => (intro w hSw; go_simp; try with_reducible rfl)
    try simp only [Act.put, List.setIfInBounds_toArray, List.set_cons_zero, List.set_cons_succ]
    refine wpAnyH_take (i := 1) (oi := { dst := some 41, op := Go.Op.fieldAddr 30 (Go.Operand.tmp 1) 3, type := 0, pos := "ref.go:109", after := #[], guard := none }) (v := ?_) rfl (by kernel_rfl) (by kernel_rfl) (by kernel_rfl) (fun _ _ _ h => h) (Or.inl ⟨by rfl, ?hy1_18⟩) (by assumption) ?rest1_18
    case hy1_18 => (intro w hSw; go_simp; try with_reducible rfl)
    try simp only [Act.put, List.setIfInBounds_toArray, List.set_cons_zero, List.set_cons_succ]
    refine wpAnyH_take (i := 4) (oi := { dst := some 44, op := Go.Op.fieldAddr 30 (Go.Operand.tmp 1) 5, type := 0, pos := "ref.go:109", after := #[], guard := none }) (v := ?_) rfl (by kernel_rfl) (by kernel_rfl) (by kernel_rfl) (fun _ _ _ h => h) (Or.inl ⟨by rfl, ?hy4_19⟩) (by assumption) ?rest4_19
    case hy4_19 => (intro w hSw; go_simp; try with_reducible rfl)
    try simp only [Act.put, List.setIfInBounds_toArray, List.set_cons_zero, List.set_cons_succ]
    refine wpAnyH_take (i := 2) (oi := { dst := some 42, op := Go.Op.load 26 (Go.Operand.tmp 41), type := 26, pos := "ref.go:109", after := #[{ on := 1, ground := Go.Ground.data }], guard := none }) (v := .agg #[.int .i64 obj, .int .u64 hi, .int .u64 lo]) rfl (by kernel_rfl) (by kernel_rfl) (by kernel_rfl) (fun _ _ _ h => h) (yieldsIf_load_mid (by rfl) 26 (.tmp 41) rfl B 3 rfl [.int .i64 obj, .int .u64 hi, .int .u64 lo] _ (fun w hSw => range_row hSw.1 (by rfl)) Try.underlying26 rfl info27) (by assumption) ?_
    try simp only [Act.put, List.setIfInBounds_toArray, List.set_cons_zero, List.set_cons_succ]
    refine wpAnyH_take (i := 5) (oi := { dst := some 45, op := Go.Op.load 3 (Go.Operand.tmp 44), type := 3, pos := "ref.go:109", after := #[{ on := 4, ground := Go.Ground.data }], guard := none }) (v := ?_) rfl (by kernel_rfl) (by kernel_rfl) (by kernel_rfl) (fun _ _ _ h => h) (Or.inl ⟨by rfl, ?hy5_20⟩) (by assumption) ?rest5_20
    case hy5_20 => (intro w hSw; have z := cell_row (j := 7) hSw.1 rfl; go_simp; try with_reducible rfl)
    try simp only [Act.put, List.setIfInBounds_toArray, List.set_cons_zero, List.set_cons_succ]
    refine wpAnyH_ready (rs := [3]) (by kernel_rfl) (by simp) ?_
    refine AllReadyH.cons (o := { dst := some 43, op := Go.Op.call { callee := Go.Callee.value (Go.Operand.func 34), args := #[Go.Operand.tmp 40, Go.Operand.tmp 42], argTypes := #[27, 26] }, type := 27, pos := "ref.go:109", after := #[{ on := 0, ground := Go.Ground.data }, { on := 2, ground := Go.Ground.data }], guard := none }) rfl (fun K hK => ?_) AllReadyH.nil
    go_simp
    go_at_call 34
    (refine (cap_r W1 _ v6 ([] ++ le 1 3 ++ le 2 by') obj hi lo HX.out.2.2.2.1.1 HX.out.2.2.2.1.2 HH.out.1 HH.out.2 (by simp [le_len]) hHeld.2 F6.out (O6.out.below (Below.refl _ _).drew)).mono ?_)
    rintro e w7 ⟨v7, rfl, o7, b7, f7⟩
    refine hK.out _ _ (⟨row_on b7 HRW.out, b7⟩) (fun hHeld2 => ?_)
    clear hK K hHeld
    have hHeld := hHeld2
    clear hHeld2
    try simp only [Act.put, List.setIfInBounds_toArray, List.set_cons_zero, List.set_cons_succ]
    refine wpAnyH_ready (rs := [6]) (by kernel_rfl) (by simp) ?_
    refine AllReadyH.cons (o := { dst := some 46, op := Go.Op.call { callee := Go.Callee.value (Go.Operand.func 33), args := #[Go.Operand.tmp 43, Go.Operand.tmp 45, Go.Operand.const (Go.Value.int Go.IntKind.i64 1)], argTypes := #[27, 3, 3] }, type := 27, pos := "ref.go:109", after := #[{ on := 3, ground := Go.Ground.data }, { on := 5, ground := Go.Ground.data }, { on := 3, ground := Go.Ground.chain }], guard := none }) rfl (fun K hK => ?_) AllReadyH.nil
    go_simp
    go_at_call 33
    (refine (put_r W1 _ v7 (([] ++ le 1 3 ++ le 2 by') ++ capB obj hi lo) rt 1 1 rfl (by have := HX.out; have := HO10.out; omega) (by have := HX.out; have := HO10.out; omega) (by omega) (by simp [le_len, capB, wordB]) hHeld.2 f7 o7).mono ?_)
    rintro e w8 ⟨v8, rfl, o8, b8, f8⟩
    refine hK.out _ _ (⟨row_on (b8.mono (Nat.le_refl _)) HRW.out, b8⟩) (fun hHeld2 => ?_)
    clear hK K hHeld
    have hHeld := hHeld2
    clear hHeld2
    try simp only [Act.put, List.setIfInBounds_toArray, List.set_cons_zero, List.set_cons_succ]
    refine wpAnyH_take (i := 7) (oi := { dst := some 4, op := Go.Op.assign (Go.Operand.tmp 46), type := 27, pos := "ref.go:109", after := #[{ on := 6, ground := Go.Ground.data }, { on := 6, ground := Go.Ground.chain }, { on := 0, ground := Go.Ground.phase }, { on := 1, ground := Go.Ground.phase }, { on := 2, ground := Go.Ground.phase }, { on := 3, ground := Go.Ground.phase }, { on := 4, ground := Go.Ground.phase }, { on := 5, ground := Go.Ground.phase }, { on := 6, ground := Go.Ground.phase }], guard := none }) (v := ?_) rfl (by kernel_rfl) (by kernel_rfl) (by kernel_rfl) (fun _ _ _ h => h) (Or.inl ⟨by rfl, ?hy7_21⟩) (by assumption) ?rest7_21
    case hy7_21 => (intro w hSw; go_simp; try with_reducible rfl)
    try simp only [Act.put, List.setIfInBounds_toArray, List.set_cons_zero, List.set_cons_succ]
    refine wpAnyH_done (by kernel_rfl) ?_ _
    refine NoPanic.normal ?_
    try simp only [Act.put, List.setIfInBounds_toArray, List.set_cons_zero, List.set_cons_succ]
    have O8 := Lib.hid o8
    clear hHeld o7 b7 f7 o8
    go_wp2
    go_ret2
    exact ⟨_, rfl, by rw [show enc (⟨3, by', sz, obj, hi, lo, gv, rt, off, n, da, ix, gi⟩ : Cl) = ([] ++ le 1 3 ++ le 2 by') ++ (capB obj hi lo ++ le 1 rt) by simp [enc, bodyB, mvB, le4_s32, List.append_assoc]]; exact (by rw [← List.append_assoc]; exact O8.out), HBX.out.trans (b8.mono HBX.out.size), fun b e => Nat.le_trans HBX.out.size (f8 b e)⟩
  · have y0 : w6.cell? ⟨B, 0, none⟩ = some (.int .i64 4) := cell_row R6.out rfl
    have y3 : w6.cell? ⟨B, 3, none⟩ = some (.int .i64 obj) := cell_row R6.out rfl
    have y4 : w6.cell? ⟨B, 4, none⟩ = some (.int .u64 hi) := cell_row R6.out rfl
    have y5 : w6.cell? ⟨B, 5, none⟩ = some (.int .u64 lo) := cell_row R6.out rfl
    go_wp2_with (first | (go_at_call 34; refine (cap_r W1 _ v6 ([] ++ le 1 4 ++ le 2 by') obj hi lo HX.out.2.2.2.1.1 HX.out.2.2.2.1.2 HH.out.1 HH.out.2 (by simp [le_len]) B6.out F6.out O6.out).mono ?_; rintro e w7 ⟨v7, rfl, o7, b7, f7⟩) | fail)
    go_ret2
    exact ⟨_, rfl, by rw [show enc (⟨4, by', sz, obj, hi, lo, gv, rt, off, n, da, ix, gi⟩ : Cl) = ([] ++ le 1 4 ++ le 2 by') ++ capB obj hi lo by simp [enc, bodyB, mvB, le4_s32, List.append_assoc]]; exact o7, HBX.out.trans (b7.mono HBX.out.size), fun b e => Nat.le_trans HBX.out.size (f7 b e)⟩
  · cases gv with
    | false =>
      have HDW : Hid (∀ a, Below W1.heap.size W1 a → RB a (.slice Ad nd cd) da) := Lib.hid (fun a ha => HDD.out.below (HBX.out.trans (ha.mono HBX.out.size)))
      have y3 : w6.cell? ⟨B, 3, none⟩ = some (.int .i64 obj) := cell_row R6.out rfl
      have y0 : w6.cell? ⟨B, 0, none⟩ = some (.int .i64 5) := cell_row R6.out rfl
      have hda : da = [] := by have h := HRC.out; simp [restC, zc] at h; simp [h]
      have HDA := Lib.hid hda
      clear hda
      go_upto_region 16 with (first | (go_at_call 33; refine (put_r W1 _ v6 ([] ++ le 1 5 ++ le 2 by') obj 8 8 (by omega) (by have := HX.out; omega) (by have := HX.out; omega) (by omega) (by simp [le_len, capB, wordB]) B6.out F6.out O6.out).mono ?_; rintro e w7 ⟨v7, rfl, o7, b7, f7⟩; have R7 := Lib.hid (row_on b7 HRW.out); have yw7_6 : w7.cell? ⟨B, 6, none⟩ = some (.bool false) := cell_row R7.out rfl; have O7 := Lib.hid o7; have B7 := Lib.hid b7; have F7 := Lib.hid f7; clear o7 b7 f7) | fail)
      go_upto_region 19 with (first | (at_builtin; refine list_app2 rfl (.tmp 60) (.tmp 61) 27 rfl 5 0 _ 1 1 Try.underlying27 info5 rfl (by decide) (by decide) v7 (([] ++ le 1 5 ++ le 2 by') ++ le 8 obj).length _ rfl (OB.owns O7.out ((Below.refl _ _).alloc (Nat.le_refl _) _)) (some ⟨w7.heap.size, 0, none⟩) 1 1 [.int .u8 0] rfl rfl (holds_new _ _ _ _ _ rfl) (by simp [Value.oneCell']) (by simp only [List.length_append, le_len, List.length_nil, List.length_cons, wordB]; have h1 := HX.out; omega) (Nat.zero_le _) ?_; intro v8 w8 hw1 hw2; obtain ⟨o8, b8, f8⟩ := app_r (w0 := W1) (zs := ([] ++ le 1 5 ++ le 2 by') ++ le 8 obj) (ys := [0]) (n := 1) rfl (B7.out.trans (((Below.refl _ w7).alloc (Nat.le_refl _) _).mono B7.out.size)) F7.out hw1 hw2; have R8 := Lib.hid (row_on b8 HRW.out); have yw8_4 : w8.cell? ⟨B, 4, none⟩ = some (.int .u64 hi) := cell_row R8.out rfl; have yw8_5 : w8.cell? ⟨B, 5, none⟩ = some (.int .u64 lo) := cell_row R8.out rfl; have O8 := Lib.hid o8; have B8 := Lib.hid b8; have F8 := Lib.hid f8; clear o8 b8 f8; clear hw1 hw2) | fail)
      go_upto_region 20 with (first | (go_at_call 35; refine (bytes01_any _ hi lo HH.out.1 HH.out.2).mono ?_; rintro e w9 ⟨u, rfl, hu, hb9, hfu⟩; obtain ⟨Au, nu, cu, rfl⟩ : ∃ A n c, u = .slice A n c := (by obtain ⟨A, c, e, _⟩ := own_slice hu; exact ⟨_, _, _, e⟩); have HU := Lib.hid hu; have HB9 := Lib.hid hb9; have HNU : Hid ((wordB hi lo).length = nu) := Lib.hid (by obtain ⟨A, c, e, _⟩ := hu.reads; cases e; rfl); have BB9 := Lib.hid (B8.out.trans (hb9.mono B8.out.size)); clear hu hb9 hfu) | (at_builtin; refine list_app2 rfl (.tmp 63) (.tmp 67) 27 rfl 5 0 _ 1 1 Try.underlying27 info5 rfl (by decide) (by decide) v8 (([] ++ le 1 5 ++ le 2 by') ++ le 8 obj ++ [0]).length _ rfl (OB.owns O8.out HB9.out) Au nu cu ((wordB hi lo).map byteC) rfl (by rw [List.length_map, HNU.out, Nat.mul_one]) (HU.out.reads.holds.2) one8 (by have h1 := HNU.out; simp only [List.length_append, le_len, List.length_nil, List.length_cons, wordB] at h1 ⊢; omega) (Nat.zero_le _) ?_; intro v10 w10 hw1 hw2; obtain ⟨o10, b10, f10⟩ := app_r (w0 := W1) (zs := ([] ++ le 1 5 ++ le 2 by') ++ le 8 obj ++ [0]) (ys := wordB hi lo) HNU.out BB9.out F8.out hw1 hw2; have R10 := Lib.hid (row_on b10 HRW.out); have yw10_8 : w10.cell? ⟨B, 8, none⟩ = some (.int .i64 off) := cell_row R10.out rfl; have O10 := Lib.hid o10; have B10 := Lib.hid b10; have F10 := Lib.hid f10; clear o10 b10 f10; clear hw1 hw2) | fail)
      go_upto_region 21 with (first | (go_at_call 33; refine (put_r W1 _ v10 (([] ++ le 1 5 ++ le 2 by') ++ le 8 obj ++ [0] ++ wordB hi lo) off 4 4 (by omega) (by have := HX.out; omega) (by have := HX.out; omega) (by omega) (by simp [le_len, capB, wordB]) B10.out F10.out O10.out).mono ?_; rintro e w11 ⟨v11, rfl, o11, b11, f11⟩; have R11 := Lib.hid (row_on b11 HRW.out); have yw11_0 : w11.cell? ⟨B, 0, none⟩ = some (.int .i64 5) := cell_row R11.out rfl; have yw11_9 : w11.cell? ⟨B, 9, none⟩ = some (.int .i64 n) := cell_row R11.out rfl; have yw11_10 : w11.cell? ⟨B, 10, none⟩ = some (.slice Ad nd cd) := cell_row R11.out rfl; have O11 := Lib.hid o11; have B11 := Lib.hid b11; have F11 := Lib.hid f11; clear o11 b11 f11) | fail)
      go_upto_region 23 with (first | (go_at_call 33; refine (put_r W1 _ v11 (([] ++ le 1 5 ++ le 2 by') ++ le 8 obj ++ [0] ++ wordB hi lo ++ le 4 off) n 4 4 (by omega) (by have := HX.out; omega) (by have := HX.out; omega) (by omega) (by simp [le_len, capB, wordB]) B11.out F11.out O11.out).mono ?_; rintro e w12 ⟨v12, rfl, o12, b12, f12⟩; have R12 := Lib.hid (row_on b12 HRW.out); have yw12_10 : w12.cell? ⟨B, 10, none⟩ = some (.slice Ad nd cd) := cell_row R12.out rfl; have O12 := Lib.hid o12; have B12 := Lib.hid b12; have F12 := Lib.hid f12; clear o12 b12 f12) | fail)
      go_wp2_with (first | (at_builtin; refine list_app2 rfl (.tmp 80) (.tmp 82) 27 rfl 5 0 _ 1 1 Try.underlying27 info5 rfl (by decide) (by decide) v12 (([] ++ le 1 5 ++ le 2 by') ++ le 8 obj ++ [0] ++ wordB hi lo ++ le 4 off ++ le 4 n).length _ rfl (OB.owns O12.out (Below.refl _ _)) Ad nd cd (da.map byteC) rfl (by rw [List.length_map, HND.out, Nat.mul_one]) (RB.holds (HDW.out _ B12.out)).2 one8 (by simp only [List.length_append, le_len, List.length_nil, List.length_cons, wordB]; have h1 := HX.out; omega) (Nat.zero_le _) ?_; intro v13 w13 hw1 hw2; obtain ⟨o13, b13, f13⟩ := app_r (w0 := W1) (zs := ([] ++ le 1 5 ++ le 2 by') ++ le 8 obj ++ [0] ++ wordB hi lo ++ le 4 off ++ le 4 n) (ys := da) HND.out B12.out F12.out hw1 hw2; clear hw1 hw2) | fail)
      go_ret2
      have HE : enc (⟨5, by', sz, obj, hi, lo, false, rt, off, n, da, ix, gi⟩ : Cl) = ([] ++ le 1 5 ++ le 2 by') ++ le 8 obj ++ [0] ++ wordB hi lo ++ le 4 off ++ le 4 n ++ da := by simp [enc, bodyB, mvB, le4_s32, show le 1 (b1 false) = [0] from rfl, List.append_assoc, HDA.out]
      rw [HE]
      exact ⟨_, rfl, o13, HBX.out.trans (b13.mono HBX.out.size), fun b e => Nat.le_trans HBX.out.size (f13 b e)⟩
    | true =>
      have HDW : Hid (∀ a, Below W1.heap.size W1 a → RB a (.slice Ad nd cd) da) := Lib.hid (fun a ha => HDD.out.below (HBX.out.trans (ha.mono HBX.out.size)))
      have y3 : w6.cell? ⟨B, 3, none⟩ = some (.int .i64 obj) := cell_row R6.out rfl
      have y0 : w6.cell? ⟨B, 0, none⟩ = some (.int .i64 5) := cell_row R6.out rfl
      have hda : da = [] := by have h := HRC.out; simp [restC, zc] at h; simp [h]
      have HDA := Lib.hid hda
      clear hda
      go_upto_region 16 with (first | (go_at_call 33; refine (put_r W1 _ v6 ([] ++ le 1 5 ++ le 2 by') obj 8 8 (by omega) (by have := HX.out; omega) (by have := HX.out; omega) (by omega) (by simp [le_len, capB, wordB]) B6.out F6.out O6.out).mono ?_; rintro e w7 ⟨v7, rfl, o7, b7, f7⟩; have R7 := Lib.hid (row_on b7 HRW.out); have yw7_6 : w7.cell? ⟨B, 6, none⟩ = some (.bool true) := cell_row R7.out rfl; have O7 := Lib.hid o7; have B7 := Lib.hid b7; have F7 := Lib.hid f7; clear o7 b7 f7) | fail)
      go_upto_region 19 with (first | (at_builtin; refine list_app2 rfl (.tmp 57) (.tmp 58) 27 rfl 5 0 _ 1 1 Try.underlying27 info5 rfl (by decide) (by decide) v7 (([] ++ le 1 5 ++ le 2 by') ++ le 8 obj).length _ rfl (OB.owns O7.out ((Below.refl _ _).alloc (Nat.le_refl _) _)) (some ⟨w7.heap.size, 0, none⟩) 1 1 [.int .u8 1] rfl rfl (holds_new _ _ _ _ _ rfl) (by simp [Value.oneCell']) (by simp only [List.length_append, le_len, List.length_nil, List.length_cons, wordB]; have h1 := HX.out; omega) (Nat.zero_le _) ?_; intro v8 w8 hw1 hw2; obtain ⟨o8, b8, f8⟩ := app_r (w0 := W1) (zs := ([] ++ le 1 5 ++ le 2 by') ++ le 8 obj) (ys := [1]) (n := 1) rfl (B7.out.trans (((Below.refl _ w7).alloc (Nat.le_refl _) _).mono B7.out.size)) F7.out hw1 hw2; have R8 := Lib.hid (row_on b8 HRW.out); have yw8_4 : w8.cell? ⟨B, 4, none⟩ = some (.int .u64 hi) := cell_row R8.out rfl; have yw8_5 : w8.cell? ⟨B, 5, none⟩ = some (.int .u64 lo) := cell_row R8.out rfl; have O8 := Lib.hid o8; have B8 := Lib.hid b8; have F8 := Lib.hid f8; clear o8 b8 f8; clear hw1 hw2) | fail)
      go_upto_region 20 with (first | (go_at_call 35; refine (bytes01_any _ hi lo HH.out.1 HH.out.2).mono ?_; rintro e w9 ⟨u, rfl, hu, hb9, hfu⟩; obtain ⟨Au, nu, cu, rfl⟩ : ∃ A n c, u = .slice A n c := (by obtain ⟨A, c, e, _⟩ := own_slice hu; exact ⟨_, _, _, e⟩); have HU := Lib.hid hu; have HB9 := Lib.hid hb9; have HNU : Hid ((wordB hi lo).length = nu) := Lib.hid (by obtain ⟨A, c, e, _⟩ := hu.reads; cases e; rfl); have BB9 := Lib.hid (B8.out.trans (hb9.mono B8.out.size)); clear hu hb9 hfu) | (at_builtin; refine list_app2 rfl (.tmp 63) (.tmp 67) 27 rfl 5 0 _ 1 1 Try.underlying27 info5 rfl (by decide) (by decide) v8 (([] ++ le 1 5 ++ le 2 by') ++ le 8 obj ++ [1]).length _ rfl (OB.owns O8.out HB9.out) Au nu cu ((wordB hi lo).map byteC) rfl (by rw [List.length_map, HNU.out, Nat.mul_one]) (HU.out.reads.holds.2) one8 (by have h1 := HNU.out; simp only [List.length_append, le_len, List.length_nil, List.length_cons, wordB] at h1 ⊢; omega) (Nat.zero_le _) ?_; intro v10 w10 hw1 hw2; obtain ⟨o10, b10, f10⟩ := app_r (w0 := W1) (zs := ([] ++ le 1 5 ++ le 2 by') ++ le 8 obj ++ [1]) (ys := wordB hi lo) HNU.out BB9.out F8.out hw1 hw2; have R10 := Lib.hid (row_on b10 HRW.out); have yw10_8 : w10.cell? ⟨B, 8, none⟩ = some (.int .i64 off) := cell_row R10.out rfl; have O10 := Lib.hid o10; have B10 := Lib.hid b10; have F10 := Lib.hid f10; clear o10 b10 f10; clear hw1 hw2) | fail)
      go_upto_region 21 with (first | (go_at_call 33; refine (put_r W1 _ v10 (([] ++ le 1 5 ++ le 2 by') ++ le 8 obj ++ [1] ++ wordB hi lo) off 4 4 (by omega) (by have := HX.out; omega) (by have := HX.out; omega) (by omega) (by simp [le_len, capB, wordB]) B10.out F10.out O10.out).mono ?_; rintro e w11 ⟨v11, rfl, o11, b11, f11⟩; have R11 := Lib.hid (row_on b11 HRW.out); have yw11_0 : w11.cell? ⟨B, 0, none⟩ = some (.int .i64 5) := cell_row R11.out rfl; have yw11_9 : w11.cell? ⟨B, 9, none⟩ = some (.int .i64 n) := cell_row R11.out rfl; have yw11_10 : w11.cell? ⟨B, 10, none⟩ = some (.slice Ad nd cd) := cell_row R11.out rfl; have O11 := Lib.hid o11; have B11 := Lib.hid b11; have F11 := Lib.hid f11; clear o11 b11 f11) | fail)
      go_upto_region 23 with (first | (go_at_call 33; refine (put_r W1 _ v11 (([] ++ le 1 5 ++ le 2 by') ++ le 8 obj ++ [1] ++ wordB hi lo ++ le 4 off) n 4 4 (by omega) (by have := HX.out; omega) (by have := HX.out; omega) (by omega) (by simp [le_len, capB, wordB]) B11.out F11.out O11.out).mono ?_; rintro e w12 ⟨v12, rfl, o12, b12, f12⟩; have R12 := Lib.hid (row_on b12 HRW.out); have yw12_10 : w12.cell? ⟨B, 10, none⟩ = some (.slice Ad nd cd) := cell_row R12.out rfl; have O12 := Lib.hid o12; have B12 := Lib.hid b12; have F12 := Lib.hid f12; clear o12 b12 f12) | fail)
      go_wp2_with (first | (at_builtin; refine list_app2 rfl (.tmp 80) (.tmp 82) 27 rfl 5 0 _ 1 1 Try.underlying27 info5 rfl (by decide) (by decide) v12 (([] ++ le 1 5 ++ le 2 by') ++ le 8 obj ++ [1] ++ wordB hi lo ++ le 4 off ++ le 4 n).length _ rfl (OB.owns O12.out (Below.refl _ _)) Ad nd cd (da.map byteC) rfl (by rw [List.length_map, HND.out, Nat.mul_one]) (RB.holds (HDW.out _ B12.out)).2 one8 (by simp only [List.length_append, le_len, List.length_nil, List.length_cons, wordB]; have h1 := HX.out; omega) (Nat.zero_le _) ?_; intro v13 w13 hw1 hw2; obtain ⟨o13, b13, f13⟩ := app_r (w0 := W1) (zs := ([] ++ le 1 5 ++ le 2 by') ++ le 8 obj ++ [1] ++ wordB hi lo ++ le 4 off ++ le 4 n) (ys := da) HND.out B12.out F12.out hw1 hw2; clear hw1 hw2) | fail)
      go_ret2
      have HE : enc (⟨5, by', sz, obj, hi, lo, true, rt, off, n, da, ix, gi⟩ : Cl) = ([] ++ le 1 5 ++ le 2 by') ++ le 8 obj ++ [1] ++ wordB hi lo ++ le 4 off ++ le 4 n ++ da := by simp [enc, bodyB, mvB, le4_s32, show le 1 (b1 true) = [1] from rfl, List.append_assoc, HDA.out]
      rw [HE]
      exact ⟨_, rfl, o13, HBX.out.trans (b13.mono HBX.out.size), fun b e => Nat.le_trans HBX.out.size (f13 b e)⟩
  · cases gv with
    | false =>
      have HDW : Hid (∀ a, Below W1.heap.size W1 a → RB a (.slice Ad nd cd) da) := Lib.hid (fun a ha => HDD.out.below (HBX.out.trans (ha.mono HBX.out.size)))
      have y3 : w6.cell? ⟨B, 3, none⟩ = some (.int .i64 obj) := cell_row R6.out rfl
      have y0 : w6.cell? ⟨B, 0, none⟩ = some (.int .i64 6) := cell_row R6.out rfl
      go_upto_region 16 with (first | (go_at_call 33; refine (put_r W1 _ v6 ([] ++ le 1 6 ++ le 2 by') obj 8 8 (by omega) (by have := HX.out; omega) (by have := HX.out; omega) (by omega) (by simp [le_len, capB, wordB]) B6.out F6.out O6.out).mono ?_; rintro e w7 ⟨v7, rfl, o7, b7, f7⟩; have R7 := Lib.hid (row_on b7 HRW.out); have yw7_6 : w7.cell? ⟨B, 6, none⟩ = some (.bool false) := cell_row R7.out rfl; have O7 := Lib.hid o7; have B7 := Lib.hid b7; have F7 := Lib.hid f7; clear o7 b7 f7) | fail)
      go_upto_region 19 with (first | (at_builtin; refine list_app2 rfl (.tmp 60) (.tmp 61) 27 rfl 5 0 _ 1 1 Try.underlying27 info5 rfl (by decide) (by decide) v7 (([] ++ le 1 6 ++ le 2 by') ++ le 8 obj).length _ rfl (OB.owns O7.out ((Below.refl _ _).alloc (Nat.le_refl _) _)) (some ⟨w7.heap.size, 0, none⟩) 1 1 [.int .u8 0] rfl rfl (holds_new _ _ _ _ _ rfl) (by simp [Value.oneCell']) (by simp only [List.length_append, le_len, List.length_nil, List.length_cons, wordB]; have h1 := HX.out; omega) (Nat.zero_le _) ?_; intro v8 w8 hw1 hw2; obtain ⟨o8, b8, f8⟩ := app_r (w0 := W1) (zs := ([] ++ le 1 6 ++ le 2 by') ++ le 8 obj) (ys := [0]) (n := 1) rfl (B7.out.trans (((Below.refl _ w7).alloc (Nat.le_refl _) _).mono B7.out.size)) F7.out hw1 hw2; have R8 := Lib.hid (row_on b8 HRW.out); have yw8_4 : w8.cell? ⟨B, 4, none⟩ = some (.int .u64 hi) := cell_row R8.out rfl; have yw8_5 : w8.cell? ⟨B, 5, none⟩ = some (.int .u64 lo) := cell_row R8.out rfl; have O8 := Lib.hid o8; have B8 := Lib.hid b8; have F8 := Lib.hid f8; clear o8 b8 f8; clear hw1 hw2) | fail)
      go_upto_region 20 with (first | (go_at_call 35; refine (bytes01_any _ hi lo HH.out.1 HH.out.2).mono ?_; rintro e w9 ⟨u, rfl, hu, hb9, hfu⟩; obtain ⟨Au, nu, cu, rfl⟩ : ∃ A n c, u = .slice A n c := (by obtain ⟨A, c, e, _⟩ := own_slice hu; exact ⟨_, _, _, e⟩); have HU := Lib.hid hu; have HB9 := Lib.hid hb9; have HNU : Hid ((wordB hi lo).length = nu) := Lib.hid (by obtain ⟨A, c, e, _⟩ := hu.reads; cases e; rfl); have BB9 := Lib.hid (B8.out.trans (hb9.mono B8.out.size)); clear hu hb9 hfu) | (at_builtin; refine list_app2 rfl (.tmp 63) (.tmp 67) 27 rfl 5 0 _ 1 1 Try.underlying27 info5 rfl (by decide) (by decide) v8 (([] ++ le 1 6 ++ le 2 by') ++ le 8 obj ++ [0]).length _ rfl (OB.owns O8.out HB9.out) Au nu cu ((wordB hi lo).map byteC) rfl (by rw [List.length_map, HNU.out, Nat.mul_one]) (HU.out.reads.holds.2) one8 (by have h1 := HNU.out; simp only [List.length_append, le_len, List.length_nil, List.length_cons, wordB] at h1 ⊢; omega) (Nat.zero_le _) ?_; intro v10 w10 hw1 hw2; obtain ⟨o10, b10, f10⟩ := app_r (w0 := W1) (zs := ([] ++ le 1 6 ++ le 2 by') ++ le 8 obj ++ [0]) (ys := wordB hi lo) HNU.out BB9.out F8.out hw1 hw2; have R10 := Lib.hid (row_on b10 HRW.out); have yw10_8 : w10.cell? ⟨B, 8, none⟩ = some (.int .i64 off) := cell_row R10.out rfl; have O10 := Lib.hid o10; have B10 := Lib.hid b10; have F10 := Lib.hid f10; clear o10 b10 f10; clear hw1 hw2) | fail)
      go_upto_region 21 with (first | (go_at_call 33; refine (put_r W1 _ v10 (([] ++ le 1 6 ++ le 2 by') ++ le 8 obj ++ [0] ++ wordB hi lo) off 4 4 (by omega) (by have := HX.out; omega) (by have := HX.out; omega) (by omega) (by simp [le_len, capB, wordB]) B10.out F10.out O10.out).mono ?_; rintro e w11 ⟨v11, rfl, o11, b11, f11⟩; have R11 := Lib.hid (row_on b11 HRW.out); have yw11_0 : w11.cell? ⟨B, 0, none⟩ = some (.int .i64 6) := cell_row R11.out rfl; have yw11_9 : w11.cell? ⟨B, 9, none⟩ = some (.int .i64 n) := cell_row R11.out rfl; have yw11_10 : w11.cell? ⟨B, 10, none⟩ = some (.slice Ad nd cd) := cell_row R11.out rfl; have O11 := Lib.hid o11; have B11 := Lib.hid b11; have F11 := Lib.hid f11; clear o11 b11 f11) | fail)
      go_upto_region 23 with fail
      go_wp2_with (first | (at_builtin; refine list_app2 rfl (.tmp 80) (.tmp 82) 27 rfl 5 0 _ 1 1 Try.underlying27 info5 rfl (by decide) (by decide) v11 (([] ++ le 1 6 ++ le 2 by') ++ le 8 obj ++ [0] ++ wordB hi lo ++ le 4 off).length _ rfl (OB.owns O11.out (Below.refl _ _)) Ad nd cd (da.map byteC) rfl (by rw [List.length_map, HND.out, Nat.mul_one]) (RB.holds (HDW.out _ B11.out)).2 one8 (by simp only [List.length_append, le_len, List.length_nil, List.length_cons, wordB]; have h1 := HX.out; omega) (Nat.zero_le _) ?_; intro v13 w13 hw1 hw2; obtain ⟨o13, b13, f13⟩ := app_r (w0 := W1) (zs := ([] ++ le 1 6 ++ le 2 by') ++ le 8 obj ++ [0] ++ wordB hi lo ++ le 4 off) (ys := da) HND.out B11.out F11.out hw1 hw2; clear hw1 hw2) | fail)
      go_ret2
      have HE : enc (⟨6, by', sz, obj, hi, lo, false, rt, off, n, da, ix, gi⟩ : Cl) = ([] ++ le 1 6 ++ le 2 by') ++ le 8 obj ++ [0] ++ wordB hi lo ++ le 4 off ++ da := by simp [enc, bodyB, mvB, le4_s32, show le 1 (b1 false) = [0] from rfl, List.append_assoc]
      rw [HE]
      exact ⟨_, rfl, o13, HBX.out.trans (b13.mono HBX.out.size), fun b e => Nat.le_trans HBX.out.size (f13 b e)⟩
    | true =>
      have HDW : Hid (∀ a, Below W1.heap.size W1 a → RB a (.slice Ad nd cd) da) := Lib.hid (fun a ha => HDD.out.below (HBX.out.trans (ha.mono HBX.out.size)))
      have y3 : w6.cell? ⟨B, 3, none⟩ = some (.int .i64 obj) := cell_row R6.out rfl
      have y0 : w6.cell? ⟨B, 0, none⟩ = some (.int .i64 6) := cell_row R6.out rfl
      go_upto_region 16 with (first | (go_at_call 33; refine (put_r W1 _ v6 ([] ++ le 1 6 ++ le 2 by') obj 8 8 (by omega) (by have := HX.out; omega) (by have := HX.out; omega) (by omega) (by simp [le_len, capB, wordB]) B6.out F6.out O6.out).mono ?_; rintro e w7 ⟨v7, rfl, o7, b7, f7⟩; have R7 := Lib.hid (row_on b7 HRW.out); have yw7_6 : w7.cell? ⟨B, 6, none⟩ = some (.bool true) := cell_row R7.out rfl; have O7 := Lib.hid o7; have B7 := Lib.hid b7; have F7 := Lib.hid f7; clear o7 b7 f7) | fail)
      go_upto_region 19 with (first | (at_builtin; refine list_app2 rfl (.tmp 57) (.tmp 58) 27 rfl 5 0 _ 1 1 Try.underlying27 info5 rfl (by decide) (by decide) v7 (([] ++ le 1 6 ++ le 2 by') ++ le 8 obj).length _ rfl (OB.owns O7.out ((Below.refl _ _).alloc (Nat.le_refl _) _)) (some ⟨w7.heap.size, 0, none⟩) 1 1 [.int .u8 1] rfl rfl (holds_new _ _ _ _ _ rfl) (by simp [Value.oneCell']) (by simp only [List.length_append, le_len, List.length_nil, List.length_cons, wordB]; have h1 := HX.out; omega) (Nat.zero_le _) ?_; intro v8 w8 hw1 hw2; obtain ⟨o8, b8, f8⟩ := app_r (w0 := W1) (zs := ([] ++ le 1 6 ++ le 2 by') ++ le 8 obj) (ys := [1]) (n := 1) rfl (B7.out.trans (((Below.refl _ w7).alloc (Nat.le_refl _) _).mono B7.out.size)) F7.out hw1 hw2; have R8 := Lib.hid (row_on b8 HRW.out); have yw8_4 : w8.cell? ⟨B, 4, none⟩ = some (.int .u64 hi) := cell_row R8.out rfl; have yw8_5 : w8.cell? ⟨B, 5, none⟩ = some (.int .u64 lo) := cell_row R8.out rfl; have O8 := Lib.hid o8; have B8 := Lib.hid b8; have F8 := Lib.hid f8; clear o8 b8 f8; clear hw1 hw2) | fail)
      go_upto_region 20 with (first | (go_at_call 35; refine (bytes01_any _ hi lo HH.out.1 HH.out.2).mono ?_; rintro e w9 ⟨u, rfl, hu, hb9, hfu⟩; obtain ⟨Au, nu, cu, rfl⟩ : ∃ A n c, u = .slice A n c := (by obtain ⟨A, c, e, _⟩ := own_slice hu; exact ⟨_, _, _, e⟩); have HU := Lib.hid hu; have HB9 := Lib.hid hb9; have HNU : Hid ((wordB hi lo).length = nu) := Lib.hid (by obtain ⟨A, c, e, _⟩ := hu.reads; cases e; rfl); have BB9 := Lib.hid (B8.out.trans (hb9.mono B8.out.size)); clear hu hb9 hfu) | (at_builtin; refine list_app2 rfl (.tmp 63) (.tmp 67) 27 rfl 5 0 _ 1 1 Try.underlying27 info5 rfl (by decide) (by decide) v8 (([] ++ le 1 6 ++ le 2 by') ++ le 8 obj ++ [1]).length _ rfl (OB.owns O8.out HB9.out) Au nu cu ((wordB hi lo).map byteC) rfl (by rw [List.length_map, HNU.out, Nat.mul_one]) (HU.out.reads.holds.2) one8 (by have h1 := HNU.out; simp only [List.length_append, le_len, List.length_nil, List.length_cons, wordB] at h1 ⊢; omega) (Nat.zero_le _) ?_; intro v10 w10 hw1 hw2; obtain ⟨o10, b10, f10⟩ := app_r (w0 := W1) (zs := ([] ++ le 1 6 ++ le 2 by') ++ le 8 obj ++ [1]) (ys := wordB hi lo) HNU.out BB9.out F8.out hw1 hw2; have R10 := Lib.hid (row_on b10 HRW.out); have yw10_8 : w10.cell? ⟨B, 8, none⟩ = some (.int .i64 off) := cell_row R10.out rfl; have O10 := Lib.hid o10; have B10 := Lib.hid b10; have F10 := Lib.hid f10; clear o10 b10 f10; clear hw1 hw2) | fail)
      go_upto_region 21 with (first | (go_at_call 33; refine (put_r W1 _ v10 (([] ++ le 1 6 ++ le 2 by') ++ le 8 obj ++ [1] ++ wordB hi lo) off 4 4 (by omega) (by have := HX.out; omega) (by have := HX.out; omega) (by omega) (by simp [le_len, capB, wordB]) B10.out F10.out O10.out).mono ?_; rintro e w11 ⟨v11, rfl, o11, b11, f11⟩; have R11 := Lib.hid (row_on b11 HRW.out); have yw11_0 : w11.cell? ⟨B, 0, none⟩ = some (.int .i64 6) := cell_row R11.out rfl; have yw11_9 : w11.cell? ⟨B, 9, none⟩ = some (.int .i64 n) := cell_row R11.out rfl; have yw11_10 : w11.cell? ⟨B, 10, none⟩ = some (.slice Ad nd cd) := cell_row R11.out rfl; have O11 := Lib.hid o11; have B11 := Lib.hid b11; have F11 := Lib.hid f11; clear o11 b11 f11) | fail)
      go_upto_region 23 with fail
      go_wp2_with (first | (at_builtin; refine list_app2 rfl (.tmp 80) (.tmp 82) 27 rfl 5 0 _ 1 1 Try.underlying27 info5 rfl (by decide) (by decide) v11 (([] ++ le 1 6 ++ le 2 by') ++ le 8 obj ++ [1] ++ wordB hi lo ++ le 4 off).length _ rfl (OB.owns O11.out (Below.refl _ _)) Ad nd cd (da.map byteC) rfl (by rw [List.length_map, HND.out, Nat.mul_one]) (RB.holds (HDW.out _ B11.out)).2 one8 (by simp only [List.length_append, le_len, List.length_nil, List.length_cons, wordB]; have h1 := HX.out; omega) (Nat.zero_le _) ?_; intro v13 w13 hw1 hw2; obtain ⟨o13, b13, f13⟩ := app_r (w0 := W1) (zs := ([] ++ le 1 6 ++ le 2 by') ++ le 8 obj ++ [1] ++ wordB hi lo ++ le 4 off) (ys := da) HND.out B11.out F11.out hw1 hw2; clear hw1 hw2) | fail)
      go_ret2
      have HE : enc (⟨6, by', sz, obj, hi, lo, true, rt, off, n, da, ix, gi⟩ : Cl) = ([] ++ le 1 6 ++ le 2 by') ++ le 8 obj ++ [1] ++ wordB hi lo ++ le 4 off ++ da := by simp [enc, bodyB, mvB, le4_s32, show le 1 (b1 true) = [1] from rfl, List.append_assoc]
      rw [HE]
      exact ⟨_, rfl, o13, HBX.out.trans (b13.mono HBX.out.size), fun b e => Nat.le_trans HBX.out.size (f13 b e)⟩
  · have y0 : w6.cell? ⟨B, 0, none⟩ = some (.int .i64 7) := cell_row R6.out rfl
    have y3 : w6.cell? ⟨B, 3, none⟩ = some (.int .i64 obj) := cell_row R6.out rfl
    have y4 : w6.cell? ⟨B, 4, none⟩ = some (.int .u64 hi) := cell_row R6.out rfl
    have y5 : w6.cell? ⟨B, 5, none⟩ = some (.int .u64 lo) := cell_row R6.out rfl
    go_wp2_with (first | (go_at_call 34; refine (cap_r W1 _ v6 ([] ++ le 1 7 ++ le 2 by') obj hi lo HX.out.2.2.2.1.1 HX.out.2.2.2.1.2 HH.out.1 HH.out.2 (by simp [le_len]) B6.out F6.out O6.out).mono ?_; rintro e w7 ⟨v7, rfl, o7, b7, f7⟩) | fail)
    go_ret2
    exact ⟨_, rfl, by rw [show enc (⟨7, by', sz, obj, hi, lo, gv, rt, off, n, da, ix, gi⟩ : Cl) = ([] ++ le 1 7 ++ le 2 by') ++ capB obj hi lo by simp [enc, bodyB, mvB, le4_s32, List.append_assoc]]; exact o7, HBX.out.trans (b7.mono HBX.out.size), fun b e => Nat.le_trans HBX.out.size (f7 b e)⟩
  · have y0 : w6.cell? ⟨B, 0, none⟩ = some (.int .i64 8) := cell_row R6.out rfl
    have y11 : w6.cell? ⟨B, 11, none⟩ = some (.int .i64 ix) := cell_row R6.out rfl
    go_wp2_with (first | (go_at_call 33; refine (put_r W1 _ v6 ([] ++ le 1 8 ++ le 2 by') ix 2 2 (by omega) (by have := HX.out; omega) (by have := HX.out; omega) (by omega) (by simp [le_len, capB, wordB]) B6.out F6.out O6.out).mono ?_; rintro e w7 ⟨v7, rfl, o7, b7, f7⟩) | fail)
    go_ret2
    exact ⟨_, rfl, by rw [show enc (⟨8, by', sz, obj, hi, lo, gv, rt, off, n, da, ix, gi⟩ : Cl) = ([] ++ le 1 8 ++ le 2 by') ++ le 2 ix by simp [enc, bodyB, mvB, le4_s32, List.append_assoc]]; exact o7, HBX.out.trans (b7.mono HBX.out.size), fun b e => Nat.le_trans HBX.out.size (f7 b e)⟩
  · have y0 : w6.cell? ⟨B, 0, none⟩ = some (.int .i64 9) := cell_row R6.out rfl
    have y12 : w6.cell? ⟨B, 12, none⟩ = some (.slice Ag ng cg) := cell_row R6.out rfl
    have hgl9 : ng ≤ 255 := by have := HX.out.2.2.2.2.2.2.1; omega
    have HGI2 : Hid (∀ a, Below W1.heap.size W1 a → IB a (.slice Ag ng cg) gi) := Lib.hid (fun a ha => HGG.out.below (HBX.out.trans (ha.mono HBX.out.size)))
    go_wp2_with (first | (go_at_call 33; refine (put_r W1 _ v6 ([] ++ le 1 9 ++ le 2 by') (ng : Int) 1 1 rfl (by omega) (by omega) (by omega) (by simp [le_len]) B6.out F6.out O6.out).mono ?_; rintro e w7 ⟨v7, rfl, o7, b7, f7⟩; have O7 := Lib.hid o7; have B7 := Lib.hid b7; have F7 := Lib.hid f7; have R7 := Lib.hid (row_on b7 HRW.out); have y12 : w7.cell? ⟨B, 12, none⟩ = some (.slice Ag ng cg) := cell_row R7.out rfl; clear o7 b7 f7) | fail)
    go_loopw [4, 5] (fun v4 v5 we => ∃ (i : Nat), i ≤ ng ∧ v5 = .int .i64 i ∧ Hid (OB we v4 (([] ++ le 1 9 ++ le 2 by') ++ le 1 ng ++ giB (gi.take i))) ∧ Hid (Below W1.heap.size W1 we) ∧ Hid (Fresh W1 v4)) (fun _ v5 _ => ng - (intOf v5).toNat)
    case atStart => exact ⟨0, by omega, rfl, by rw [List.take_zero]; show OB w7 v7 (_ ++ []); rw [List.append_nil]; exact O7.out, B7.out, F7.out⟩
    case round =>
      obtain ⟨i, hile, rfl, HOi, HBi, HFi⟩ := hrel
      have Ri := Lib.hid (row_on HBi.out HRW.out)
      have yi12 : wr.cell? ⟨B, 12, none⟩ = some (.slice Ag ng cg) := cell_row Ri.out rfl
      by_cases hlt : i < ng
      · have hlt' : (i : Int) < (ng : Int) := by omega
        obtain ⟨u, hu⟩ : ∃ u, gi[i]? = some u := ⟨_, List.getElem?_eq_getElem (by show i < gi.length; rw [HNG.out]; exact hlt)⟩
        have HU := Lib.hid hu
        obtain ⟨A9, c9, e9, hc1, hc2, hc3⟩ := HGI2.out wr HBi.out
        obtain ⟨g0, o0, hA, hc⟩ := hc3 (by have := HNG.out; omega)
        obtain ⟨rfl, _⟩ : Ag = A9 ∧ True := by cases e9; exact ⟨rfl, trivial⟩
        subst hA
        have hy2 := hc i u hu
        have hur := HGI.out u (List.mem_of_getElem? hu)
        have HUR := Lib.hid hur
        clear hc hu hur e9 hc1 hc2 hc3
        go_wp2_with (first | (go_at_call 33; refine (put_r W1 _ _ (([] ++ le 1 9 ++ le 2 by') ++ le 1 ng ++ giB (gi.take i)) u 2 2 rfl (by have := HUR.out; omega) (by have := HUR.out; omega) (by omega) (by simp [le_len, gi_len]; omega) HBi.out HFi.out HOi.out).mono ?_; rintro e w8 ⟨v8, rfl, o8, b8, f8⟩; have O8 := Lib.hid o8; have B8 := Lib.hid b8; have F8 := Lib.hid f8; clear o8 b8 f8) | fail)
        exact ⟨⟨i + 1, by omega, rfl, by rw [gi_take HU.out, ← List.append_assoc]; exact O8.out, B8.out, F8.out⟩, by simp [intOf]; omega⟩
      · have hin : ng = i := by omega
        subst hin
        have HT : Hid (gi.take ng = gi) := Lib.hid (List.take_of_length_le (by rw [HNG.out]; exact Nat.le_refl _))
        rw [HT.out] at HOi
        go_wp2
        go_ret2
        exact ⟨_, rfl, by rw [show enc (⟨9, by', sz, obj, hi, lo, gv, rt, off, n, da, ix, gi⟩ : Cl) = ([] ++ le 1 9 ++ le 2 by') ++ le 1 ng ++ giB gi by simp [enc, bodyB, HNG.out, List.append_assoc]]; exact HOi.out, HBX.out.trans (HBi.out.mono HBX.out.size), fun b e => Nat.le_trans HBX.out.size (HFi.out b e)⟩
  · have y0 : w6.cell? ⟨B, 0, none⟩ = some (.int .i64 10) := cell_row R6.out rfl
    go_wp2
    go_ret2
    exact ⟨_, rfl, by rw [show enc (⟨10, by', sz, obj, hi, lo, gv, rt, off, n, da, ix, gi⟩ : Cl) = ([] ++ le 1 10 ++ le 2 by') by simp [enc, bodyB, List.append_assoc]]; exact O6.out, (by have h := HBX.out.trans (B6.out.mono HBX.out.size); rwa [HBB.out] at h), fun b e => Nat.le_trans HBX.out.size (F6.out b e)⟩
theorem rbytes_any (w : World) (c : Cl) (D G : Value) (hD : RB w D c.da) (hG : IB w G c.gi) (hh : U64 c.hi) (hl : U64 c.lo) (HB : Bytes c.da) :
    Calls Try.prog 10 #[cv c D G] w fun e w' => ∃ v, e = .returned (.tuple #[v, .int .i64 (encE c)]) ∧ OB w' v (encO c) ∧ Below w.heap.size w w' ∧ Fresh w v := by
  by_cases hf : form c
  · unfold encE encO
    rw [if_pos hf, if_pos hf]
    exact rbytes_ok w c D G hD hG hh hl HB hf
  · unfold encE encO
    rw [if_neg hf, if_neg hf]
    have hno : Calls Try.prog 10 #[cv c D G] w fun e w' => e = .returned (.tuple #[.slice none 0 0, .int .i64 1]) ∧ Below w.heap.size w w' := by
      rw [form_iff] at hf
      by_cases hr : wide1 c ∧ wide2 c ∧ wide3 c
      · exact rbytes_no2 w c D G hD hG hh hl HB hr (fun h => hf ⟨hr, h⟩)
      · exact rbytes_no1 w c D G hD hG hh hl HB hr
    exact hno.mono (fun e w' ⟨h1, h2⟩ => ⟨_, h1, OB.nil _, h2, fresh_nil _⟩)
end Go.Proofs.Ytfpkdbogapmhmaa.O

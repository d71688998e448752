/- Record: the document's Kept (written by gen_rcu.py). -/
import Derived.Test.YtfpkdbogapmhmaaRcU0
namespace Go.Proofs.Ytfpkdbogapmhmaa.O
open Go.RowKit Go.Proofs.Ytfpkdbogapmhmaa.Mem
set_option linter.unusedVariables false
set_option linter.unusedSimpArgs false
set_option maxHeartbeats 4000000 in
set_option maxRecDepth 100000 in
theorem kept_5f (w : World) (by' sz obj hi lo : Int) (rt off n : Int) (da : List Int) (ix : Int) (gi : List Int) (D G : Value) (hD : RB w D da) (hG : IB w G gi) :
    Calls Try.prog 32 #[cv (⟨5, by', sz, obj, hi, lo, false, rt, off, n, da, ix, gi⟩ : Cl) D G] w fun e w' => KC (⟨5, by', 0, obj, 0, 0, false, 0, off, n, [], 0, []⟩ : Cl) w e w' := by
  suffices ∀ R : Ending → World → Prop, (∀ e w', KC (⟨5, by', 0, obj, 0, 0, false, 0, off, n, [], 0, []⟩ : Cl) w e w' → R e w') → Calls Try.prog 32 #[cv (⟨5, by', sz, obj, hi, lo, false, rt, off, n, da, ix, gi⟩ : Cl) D G] w R from this _ (fun _ _ h => h)
  intro R HR
  have HD := Lib.hid hD
  have HG := Lib.hid hG
  obtain ⟨Ad, cd, rfl⟩ : SL D da.length := hD.sl
  obtain ⟨Ag, cg, rfl⟩ : SL G gi.length := hG.sl
  obtain ⟨nd, hnd⟩ : ∃ nd, da.length = nd := ⟨_, rfl⟩
  obtain ⟨ng, hng⟩ : ∃ ng, gi.length = ng := ⟨_, rfl⟩
  simp only [hnd, hng] at HD HG ⊢
  clear hD hG hnd hng
  replace HR := Lib.hid HR
  have HBX : Hid (∀ R1 R2 R3 R4, Below w.heap.size w ((((w.alloc (.cells R1 30)).alloc (.cells R2 30)).alloc (.cells R3 30)).setRow (w.heap.size + 1) R4)) := Lib.hid (fun R1 R2 R3 R4 => ((((Kept.refl (fun _ => False) w).alloc _).alloc _).alloc _ |>.setRow (.inr (Nat.le_succ _)) R4).below (fun _ h => h.elim) (Nat.le_refl _))
  have KA : Hid (∀ R1 R3, (((w.alloc (.cells R1 30)).alloc (.cells #[.int .i64 0, .int .i64 0, .int .i64 0, .int .i64 0, .int .u64 0, .int .u64 0, .bool false, .int .i64 0, .int .i64 0, .int .i64 0, .slice none 0 0, .int .i64 0, .slice none 0 0] 30)).alloc (.cells R3 30)).heap[w.heap.size + 1]? = some (.cells #[.int .i64 0, .int .i64 0, .int .i64 0, .int .i64 0, .int .u64 0, .int .u64 0, .bool false, .int .i64 0, .int .i64 0, .int .i64 0, .slice none 0 0, .int .i64 0, .slice none 0 0] 30)) := Lib.hid (fun R1 R3 => row_on ((Below.refl _ _).alloc (Nat.le_refl _) _) (row_new (by simp)))
  unfold cv cells
  simp only
  go_enter Try.func32, Try.ntmps32
  go_upto_region 28 with fail
  go_wp2_with (first | (refine wpList_store_row rfl 30 (.tmp 2) (.tmp 85) rfl (w.heap.size + 1) 30 #[.int .i64 0, .int .i64 0, .int .i64 0, .int .i64 0, .int .u64 0, .int .u64 0, .bool false, .int .i64 0, .int .i64 0, .int .i64 0, .slice none 0 0, .int .i64 0, .slice none 0 0] #[.int .i64 5, .int .i64 by', .int .i64 0, .int .i64 obj, .int .u64 0, .int .u64 0, .bool false, .int .i64 0, .int .i64 off, .int .i64 n, .slice none 0 0, .int .i64 0, .slice none 0 0] rfl rfl (KA.out _ _) info30 rfl (by simp [Value.oneCell']) ?_) | fail)
  refine bodyPost_ret (results_cell_row rfl _ _ (w.heap.size + 1) 30 #[.int .i64 5, .int .i64 by', .int .i64 0, .int .i64 obj, .int .u64 0, .int .u64 0, .bool false, .int .i64 0, .int .i64 off, .int .i64 n, .slice none 0 0, .int .i64 0, .slice none 0 0] (0, 0) _ rfl (setRow_heap _ _ _ _ _ _ (KA.out _ _)) Try.underlying30 rfl info30) rfl (HR.out _ _ ?_)
  exact ⟨_, _, rfl, rb_nil _, ib_nil _, HBX.out _ _ _ _⟩

set_option maxHeartbeats 4000000 in
set_option maxRecDepth 100000 in
theorem kept_5t (w : World) (by' sz obj hi lo : Int) (rt off n : Int) (da : List Int) (ix : Int) (gi : List Int) (D G : Value) (hD : RB w D da) (hG : IB w G gi) :
    Calls Try.prog 32 #[cv (⟨5, by', sz, obj, hi, lo, true, rt, off, n, da, ix, gi⟩ : Cl) D G] w fun e w' => KC (⟨5, by', 0, obj, hi, lo, true, 0, off, n, [], 0, []⟩ : Cl) w e w' := by
  suffices ∀ R : Ending → World → Prop, (∀ e w', KC (⟨5, by', 0, obj, hi, lo, true, 0, off, n, [], 0, []⟩ : Cl) w e w' → R e w') → Calls Try.prog 32 #[cv (⟨5, by', sz, obj, hi, lo, true, rt, off, n, da, ix, gi⟩ : Cl) D G] w R from this _ (fun _ _ h => h)
  intro R HR
  have HD := Lib.hid hD
  have HG := Lib.hid hG
  obtain ⟨Ad, cd, rfl⟩ : SL D da.length := hD.sl
  obtain ⟨Ag, cg, rfl⟩ : SL G gi.length := hG.sl
  obtain ⟨nd, hnd⟩ : ∃ nd, da.length = nd := ⟨_, rfl⟩
  obtain ⟨ng, hng⟩ : ∃ ng, gi.length = ng := ⟨_, rfl⟩
  simp only [hnd, hng] at HD HG ⊢
  clear hD hG hnd hng
  replace HR := Lib.hid HR
  have HBX : Hid (∀ R1 R2 R3 R4, Below w.heap.size w ((((w.alloc (.cells R1 30)).alloc (.cells R2 30)).alloc (.cells R3 30)).setRow (w.heap.size + 1) R4)) := Lib.hid (fun R1 R2 R3 R4 => ((((Kept.refl (fun _ => False) w).alloc _).alloc _).alloc _ |>.setRow (.inr (Nat.le_succ _)) R4).below (fun _ h => h.elim) (Nat.le_refl _))
  have KA : Hid (∀ R1 R3, (((w.alloc (.cells R1 30)).alloc (.cells #[.int .i64 0, .int .i64 0, .int .i64 0, .int .i64 0, .int .u64 0, .int .u64 0, .bool false, .int .i64 0, .int .i64 0, .int .i64 0, .slice none 0 0, .int .i64 0, .slice none 0 0] 30)).alloc (.cells R3 30)).heap[w.heap.size + 1]? = some (.cells #[.int .i64 0, .int .i64 0, .int .i64 0, .int .i64 0, .int .u64 0, .int .u64 0, .bool false, .int .i64 0, .int .i64 0, .int .i64 0, .slice none 0 0, .int .i64 0, .slice none 0 0] 30)) := Lib.hid (fun R1 R3 => row_on ((Below.refl _ _).alloc (Nat.le_refl _) _) (row_new (by simp)))
  unfold cv cells
  simp only
  go_enter Try.func32, Try.ntmps32
  go_upto_region 28 with fail
  go_wp2_with (first | (refine wpList_store_row rfl 30 (.tmp 2) (.tmp 85) rfl (w.heap.size + 1) 30 #[.int .i64 0, .int .i64 0, .int .i64 0, .int .i64 0, .int .u64 0, .int .u64 0, .bool false, .int .i64 0, .int .i64 0, .int .i64 0, .slice none 0 0, .int .i64 0, .slice none 0 0] #[.int .i64 5, .int .i64 by', .int .i64 0, .int .i64 obj, .int .u64 hi, .int .u64 lo, .bool true, .int .i64 0, .int .i64 off, .int .i64 n, .slice none 0 0, .int .i64 0, .slice none 0 0] rfl rfl (KA.out _ _) info30 rfl (by simp [Value.oneCell']) ?_) | fail)
  refine bodyPost_ret (results_cell_row rfl _ _ (w.heap.size + 1) 30 #[.int .i64 5, .int .i64 by', .int .i64 0, .int .i64 obj, .int .u64 hi, .int .u64 lo, .bool true, .int .i64 0, .int .i64 off, .int .i64 n, .slice none 0 0, .int .i64 0, .slice none 0 0] (0, 0) _ rfl (setRow_heap _ _ _ _ _ _ (KA.out _ _)) Try.underlying30 rfl info30) rfl (HR.out _ _ ?_)
  exact ⟨_, _, rfl, rb_nil _, ib_nil _, HBX.out _ _ _ _⟩

set_option maxHeartbeats 4000000 in
set_option maxRecDepth 100000 in
theorem kept_6f (w : World) (by' sz obj hi lo : Int) (rt off n : Int) (da : List Int) (ix : Int) (gi : List Int) (D G : Value) (hD : RB w D da) (hG : IB w G gi) :
    Calls Try.prog 32 #[cv (⟨6, by', sz, obj, hi, lo, false, rt, off, n, da, ix, gi⟩ : Cl) D G] w fun e w' => KC (⟨6, by', 0, obj, 0, 0, false, 0, off, 0, da, 0, []⟩ : Cl) w e w' := by
  suffices ∀ R : Ending → World → Prop, (∀ e w', KC (⟨6, by', 0, obj, 0, 0, false, 0, off, 0, da, 0, []⟩ : Cl) w e w' → R e w') → Calls Try.prog 32 #[cv (⟨6, by', sz, obj, hi, lo, false, rt, off, n, da, ix, gi⟩ : Cl) D G] w R from this _ (fun _ _ h => h)
  intro R HR
  have HD := Lib.hid hD
  have HG := Lib.hid hG
  obtain ⟨Ad, cd, rfl⟩ : SL D da.length := hD.sl
  obtain ⟨Ag, cg, rfl⟩ : SL G gi.length := hG.sl
  obtain ⟨nd, hnd⟩ : ∃ nd, da.length = nd := ⟨_, rfl⟩
  obtain ⟨ng, hng⟩ : ∃ ng, gi.length = ng := ⟨_, rfl⟩
  simp only [hnd, hng] at HD HG ⊢
  clear hD hG hnd hng
  replace HR := Lib.hid HR
  have HBX : Hid (∀ R1 R2 R3 R4, Below w.heap.size w ((((w.alloc (.cells R1 30)).alloc (.cells R2 30)).alloc (.cells R3 30)).setRow (w.heap.size + 1) R4)) := Lib.hid (fun R1 R2 R3 R4 => ((((Kept.refl (fun _ => False) w).alloc _).alloc _).alloc _ |>.setRow (.inr (Nat.le_succ _)) R4).below (fun _ h => h.elim) (Nat.le_refl _))
  have KA : Hid (∀ R1 R3, (((w.alloc (.cells R1 30)).alloc (.cells #[.int .i64 0, .int .i64 0, .int .i64 0, .int .i64 0, .int .u64 0, .int .u64 0, .bool false, .int .i64 0, .int .i64 0, .int .i64 0, .slice none 0 0, .int .i64 0, .slice none 0 0] 30)).alloc (.cells R3 30)).heap[w.heap.size + 1]? = some (.cells #[.int .i64 0, .int .i64 0, .int .i64 0, .int .i64 0, .int .u64 0, .int .u64 0, .bool false, .int .i64 0, .int .i64 0, .int .i64 0, .slice none 0 0, .int .i64 0, .slice none 0 0] 30)) := Lib.hid (fun R1 R3 => row_on ((Below.refl _ _).alloc (Nat.le_refl _) _) (row_new (by simp)))
  unfold cv cells
  simp only
  go_enter Try.func32, Try.ntmps32
  go_upto_region 28 with fail
  go_wp2_with (first | (refine wpList_store_row rfl 30 (.tmp 2) (.tmp 85) rfl (w.heap.size + 1) 30 #[.int .i64 0, .int .i64 0, .int .i64 0, .int .i64 0, .int .u64 0, .int .u64 0, .bool false, .int .i64 0, .int .i64 0, .int .i64 0, .slice none 0 0, .int .i64 0, .slice none 0 0] #[.int .i64 6, .int .i64 by', .int .i64 0, .int .i64 obj, .int .u64 0, .int .u64 0, .bool false, .int .i64 0, .int .i64 off, .int .i64 0, .slice Ad nd cd, .int .i64 0, .slice none 0 0] rfl rfl (KA.out _ _) info30 rfl (by simp [Value.oneCell']) ?_) | fail)
  refine bodyPost_ret (results_cell_row rfl _ _ (w.heap.size + 1) 30 #[.int .i64 6, .int .i64 by', .int .i64 0, .int .i64 obj, .int .u64 0, .int .u64 0, .bool false, .int .i64 0, .int .i64 off, .int .i64 0, .slice Ad nd cd, .int .i64 0, .slice none 0 0] (0, 0) _ rfl (setRow_heap _ _ _ _ _ _ (KA.out _ _)) Try.underlying30 rfl info30) rfl (HR.out _ _ ?_)
  exact ⟨_, _, rfl, HD.out.below (HBX.out _ _ _ _), ib_nil _, HBX.out _ _ _ _⟩

set_option maxHeartbeats 4000000 in
set_option maxRecDepth 100000 in
theorem kept_6t (w : World) (by' sz obj hi lo : Int) (rt off n : Int) (da : List Int) (ix : Int) (gi : List Int) (D G : Value) (hD : RB w D da) (hG : IB w G gi) :
    Calls Try.prog 32 #[cv (⟨6, by', sz, obj, hi, lo, true, rt, off, n, da, ix, gi⟩ : Cl) D G] w fun e w' => KC (⟨6, by', 0, obj, hi, lo, true, 0, off, 0, da, 0, []⟩ : Cl) w e w' := by
  suffices ∀ R : Ending → World → Prop, (∀ e w', KC (⟨6, by', 0, obj, hi, lo, true, 0, off, 0, da, 0, []⟩ : Cl) w e w' → R e w') → Calls Try.prog 32 #[cv (⟨6, by', sz, obj, hi, lo, true, rt, off, n, da, ix, gi⟩ : Cl) D G] w R from this _ (fun _ _ h => h)
  intro R HR
  have HD := Lib.hid hD
  have HG := Lib.hid hG
  obtain ⟨Ad, cd, rfl⟩ : SL D da.length := hD.sl
  obtain ⟨Ag, cg, rfl⟩ : SL G gi.length := hG.sl
  obtain ⟨nd, hnd⟩ : ∃ nd, da.length = nd := ⟨_, rfl⟩
  obtain ⟨ng, hng⟩ : ∃ ng, gi.length = ng := ⟨_, rfl⟩
  simp only [hnd, hng] at HD HG ⊢
  clear hD hG hnd hng
  replace HR := Lib.hid HR
  have HBX : Hid (∀ R1 R2 R3 R4, Below w.heap.size w ((((w.alloc (.cells R1 30)).alloc (.cells R2 30)).alloc (.cells R3 30)).setRow (w.heap.size + 1) R4)) := Lib.hid (fun R1 R2 R3 R4 => ((((Kept.refl (fun _ => False) w).alloc _).alloc _).alloc _ |>.setRow (.inr (Nat.le_succ _)) R4).below (fun _ h => h.elim) (Nat.le_refl _))
  have KA : Hid (∀ R1 R3, (((w.alloc (.cells R1 30)).alloc (.cells #[.int .i64 0, .int .i64 0, .int .i64 0, .int .i64 0, .int .u64 0, .int .u64 0, .bool false, .int .i64 0, .int .i64 0, .int .i64 0, .slice none 0 0, .int .i64 0, .slice none 0 0] 30)).alloc (.cells R3 30)).heap[w.heap.size + 1]? = some (.cells #[.int .i64 0, .int .i64 0, .int .i64 0, .int .i64 0, .int .u64 0, .int .u64 0, .bool false, .int .i64 0, .int .i64 0, .int .i64 0, .slice none 0 0, .int .i64 0, .slice none 0 0] 30)) := Lib.hid (fun R1 R3 => row_on ((Below.refl _ _).alloc (Nat.le_refl _) _) (row_new (by simp)))
  unfold cv cells
  simp only
  go_enter Try.func32, Try.ntmps32
  go_upto_region 28 with fail
  go_wp2_with (first | (refine wpList_store_row rfl 30 (.tmp 2) (.tmp 85) rfl (w.heap.size + 1) 30 #[.int .i64 0, .int .i64 0, .int .i64 0, .int .i64 0, .int .u64 0, .int .u64 0, .bool false, .int .i64 0, .int .i64 0, .int .i64 0, .slice none 0 0, .int .i64 0, .slice none 0 0] #[.int .i64 6, .int .i64 by', .int .i64 0, .int .i64 obj, .int .u64 hi, .int .u64 lo, .bool true, .int .i64 0, .int .i64 off, .int .i64 0, .slice Ad nd cd, .int .i64 0, .slice none 0 0] rfl rfl (KA.out _ _) info30 rfl (by simp [Value.oneCell']) ?_) | fail)
  refine bodyPost_ret (results_cell_row rfl _ _ (w.heap.size + 1) 30 #[.int .i64 6, .int .i64 by', .int .i64 0, .int .i64 obj, .int .u64 hi, .int .u64 lo, .bool true, .int .i64 0, .int .i64 off, .int .i64 0, .slice Ad nd cd, .int .i64 0, .slice none 0 0] (0, 0) _ rfl (setRow_heap _ _ _ _ _ _ (KA.out _ _)) Try.underlying30 rfl info30) rfl (HR.out _ _ ?_)
  exact ⟨_, _, rfl, HD.out.below (HBX.out _ _ _ _), ib_nil _, HBX.out _ _ _ _⟩

end Go.Proofs.Ytfpkdbogapmhmaa.O

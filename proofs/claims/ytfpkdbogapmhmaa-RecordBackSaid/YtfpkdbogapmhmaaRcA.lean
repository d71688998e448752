/- Record: within, zero, rest, formed (written by gen_rca.py). -/
import Derived.Test.YtfpkdbogapmhmaaRcQ
import Derived.Test.YtfpkdbogapmhmaaFloats
import Derived.Laws.Rows
namespace Go.Proofs.Ytfpkdbogapmhmaa.O
open Go.RowKit Go.Proofs.Ytfpkdbogapmhmaa.Mem
set_option linter.unusedVariables false
theorem row_new {w : World} {o : Obj} {g : Nat} (h : g = w.heap.size) : (w.alloc o).heap[g]? = some o := h ▸ heap_alloc_new w o
theorem row_on {w w' : World} {o : Obj} {g : Nat} (hb : Below w.heap.size w w') (h : w.heap[g]? = some o) : w'.heap[g]? = some o := (hb.block g (lt_of_row h)).trans h
theorem region_meet {P : Program} {c : Code} {Q : Exit → Act → World → Prop} {a : Act} {w : World} (F : Act → Act → World → Prop) (h1 : c.wp P (fun e a' w' => e = .normal ∧ F a a' w') a w) (h2 : ∀ a' w', F a a' w' → Q .normal a' w') : c.wp P Q a w :=
  Code.wp_mono (fun e a' w' h => by obtain ⟨rfl, h⟩ := h; exact h2 a' w' h) h1
/-- A call as a value. -/
def cells (c : Cl) (D G : Value) : Array Value := #[.int .i64 c.op, .int .i64 c.by', .int .i64 c.sz, .int .i64 c.obj, .int .u64 c.hi, .int .u64 c.lo, .bool c.gv, .int .i64 c.rt, .int .i64 c.off, .int .i64 c.n, D, .int .i64 c.ix, G]
def cv (c : Cl) (D G : Value) : Value := .agg (cells c D G)
theorem info30 : (Try.prog.info? 30).map (·.size) = some 13 := by kernel_rfl
set_option maxHeartbeats 4000000 in
theorem within_any (w : World) (n lo hi : Int) : Calls Try.prog 47 #[.int .i64 n, .int .i64 lo, .int .i64 hi] w fun e w' => e = .returned (.bool (decide (lo ≤ n ∧ n ≤ hi))) ∧ w = w' := by
  by_cases h1 : lo ≤ n
  · by_cases h2 : n ≤ hi
    · rw [decide_eq_true (And.intro h1 h2)]
      go_enter Try.func47, Try.ntmps47
      go_wp2
      go_ret
      exact ⟨rfl, rfl⟩
    · rw [decide_eq_false (fun h => h2 h.2)]
      go_enter Try.func47, Try.ntmps47
      go_wp2
      go_ret
      exact ⟨rfl, rfl⟩
  · rw [decide_eq_false (fun h => h1 h.1)]
    go_enter Try.func47, Try.ntmps47
    go_wp2
    go_ret
    exact ⟨rfl, rfl⟩
set_option maxHeartbeats 4000000 in
set_option maxRecDepth 100000 in
theorem zero_any (w : World) (op by' sz obj hi lo : Int) (gv : Bool) (rt off n ix : Int) (Ad Ag : Option Addr) (nd cd ng cg : Nat) (b : Bool) (hb : b = true ↔ op = 0 ∧ by' = 0 ∧ sz = 0 ∧ (obj = 0 ∧ hi = 0 ∧ lo = 0) ∧ gv = false ∧ rt = 0 ∧ off = 0 ∧ n = 0 ∧ nd = 0 ∧ ix = 0 ∧ ng = 0) :
    Calls Try.prog 48 #[.agg #[.int .i64 op, .int .i64 by', .int .i64 sz, .int .i64 obj, .int .u64 hi, .int .u64 lo, .bool gv, .int .i64 rt, .int .i64 off, .int .i64 n, .slice Ad nd cd, .int .i64 ix, .slice Ag ng cg]] w fun e w' => e = .returned (.bool b) ∧ Below w.heap.size w w' := by
  by_cases h0 : op = 0
  rotate_left
  · obtain rfl : b = false := by cases b with | false => rfl | true => exact absurd (hb.1 rfl).1 h0
    clear hb
    go_enter Try.func48, Try.ntmps48
    go_wp2
    go_ret
    exact ⟨rfl, (Below.refl _ w).alloc (Nat.le_refl _) _⟩
  subst h0
  by_cases h1 : by' = 0
  rotate_left
  · obtain rfl : b = false := by cases b with | false => rfl | true => exact absurd (hb.1 rfl).2.1 h1
    clear hb
    go_enter Try.func48, Try.ntmps48
    go_wp2
    go_ret
    exact ⟨rfl, (Below.refl _ w).alloc (Nat.le_refl _) _⟩
  subst h1
  by_cases h2 : sz = 0
  rotate_left
  · obtain rfl : b = false := by cases b with | false => rfl | true => exact absurd (hb.1 rfl).2.2.1 h2
    clear hb
    go_enter Try.func48, Try.ntmps48
    go_wp2
    go_ret
    exact ⟨rfl, (Below.refl _ w).alloc (Nat.le_refl _) _⟩
  subst h2
  by_cases h3 : obj = 0
  rotate_left
  · obtain rfl : b = false := by cases b with | false => rfl | true => exact absurd (hb.1 rfl).2.2.2.1.1 h3
    clear hb
    go_enter Try.func48, Try.ntmps48
    go_wp2
    go_ret
    exact ⟨rfl, (Below.refl _ w).alloc (Nat.le_refl _) _⟩
  subst h3
  by_cases h4 : hi = 0
  rotate_left
  · obtain rfl : b = false := by cases b with | false => rfl | true => exact absurd (hb.1 rfl).2.2.2.1.2.1 h4
    clear hb
    go_enter Try.func48, Try.ntmps48
    go_wp2
    go_ret
    exact ⟨rfl, (Below.refl _ w).alloc (Nat.le_refl _) _⟩
  subst h4
  by_cases h5 : lo = 0
  rotate_left
  · obtain rfl : b = false := by cases b with | false => rfl | true => exact absurd (hb.1 rfl).2.2.2.1.2.2 h5
    clear hb
    go_enter Try.func48, Try.ntmps48
    go_wp2
    go_ret
    exact ⟨rfl, (Below.refl _ w).alloc (Nat.le_refl _) _⟩
  subst h5
  by_cases h6 : gv = false
  rotate_left
  · obtain rfl : b = false := by cases b with | false => rfl | true => exact absurd (hb.1 rfl).2.2.2.2.1 h6
    obtain rfl : gv = true := by cases gv with | false => exact absurd rfl h6 | true => rfl
    clear hb
    go_enter Try.func48, Try.ntmps48
    go_wp2
    go_ret
    exact ⟨rfl, (Below.refl _ w).alloc (Nat.le_refl _) _⟩
  subst h6
  by_cases h7 : rt = 0
  rotate_left
  · obtain rfl : b = false := by cases b with | false => rfl | true => exact absurd (hb.1 rfl).2.2.2.2.2.1 h7
    clear hb
    go_enter Try.func48, Try.ntmps48
    go_wp2
    go_ret
    exact ⟨rfl, (Below.refl _ w).alloc (Nat.le_refl _) _⟩
  subst h7
  by_cases h8 : off = 0
  rotate_left
  · obtain rfl : b = false := by cases b with | false => rfl | true => exact absurd (hb.1 rfl).2.2.2.2.2.2.1 h8
    clear hb
    go_enter Try.func48, Try.ntmps48
    go_wp2
    go_ret
    exact ⟨rfl, (Below.refl _ w).alloc (Nat.le_refl _) _⟩
  subst h8
  by_cases h9 : n = 0
  rotate_left
  · obtain rfl : b = false := by cases b with | false => rfl | true => exact absurd (hb.1 rfl).2.2.2.2.2.2.2.1 h9
    clear hb
    go_enter Try.func48, Try.ntmps48
    go_wp2
    go_ret
    exact ⟨rfl, (Below.refl _ w).alloc (Nat.le_refl _) _⟩
  subst h9
  by_cases h10 : nd = 0
  rotate_left
  · obtain rfl : b = false := by cases b with | false => rfl | true => exact absurd (hb.1 rfl).2.2.2.2.2.2.2.2.1 h10
    clear hb
    have h10' : ¬ (((nd : Nat) : Int) = 0) := by omega
    go_enter Try.func48, Try.ntmps48
    go_wp2
    go_ret
    exact ⟨rfl, (Below.refl _ w).alloc (Nat.le_refl _) _⟩
  subst h10
  by_cases h11 : ix = 0
  rotate_left
  · obtain rfl : b = false := by cases b with | false => rfl | true => exact absurd (hb.1 rfl).2.2.2.2.2.2.2.2.2.1 h11
    clear hb
    go_enter Try.func48, Try.ntmps48
    go_wp2
    go_ret
    exact ⟨rfl, (Below.refl _ w).alloc (Nat.le_refl _) _⟩
  subst h11
  by_cases h12 : ng = 0
  rotate_left
  · obtain rfl : b = false := by cases b with | false => rfl | true => exact absurd (hb.1 rfl).2.2.2.2.2.2.2.2.2.2 h12
    clear hb
    have h12' : ¬ (((ng : Nat) : Int) = 0) := by omega
    go_enter Try.func48, Try.ntmps48
    go_wp2
    go_ret
    exact ⟨ret_bool rfl (by symm; simpa using h12'), (Below.refl _ w).alloc (Nat.le_refl _) _⟩
  subst h12
  obtain rfl : b = true := hb.2 (by simp)
  clear hb
  go_enter Try.func48, Try.ntmps48
  go_wp2
  go_ret
  exact ⟨rfl, (Below.refl _ w).alloc (Nat.le_refl _) _⟩
/-- A slice of so many. -/
def SL (v : Value) (n : Nat) : Prop := ∃ A k, v = .slice A n k
set_option maxHeartbeats 4000000 in
set_option maxRecDepth 100000 in
theorem rest_any (w : World) (c : Cl) (D G : Value) (hD : SL D c.da.length) (hG : SL G c.gi.length) :
    Calls Try.prog 49 #[cv c D G] w fun e w' => (∃ D' G', e = .returned (cv (restC c) D' G') ∧ SL D' (restC c).da.length ∧ SL G' (restC c).gi.length) ∧ Below w.heap.size w w' := by
  obtain ⟨op, by', sz, obj, hi, lo, gv, rt, off, n, da, ix, gi⟩ := c
  obtain ⟨Ad, cd, rfl⟩ := hD
  obtain ⟨Ag, cg, rfl⟩ := hG
  obtain ⟨nd, hnd⟩ : ∃ nd, da.length = nd := ⟨_, rfl⟩
  obtain ⟨ng, hng⟩ : ∃ ng, gi.length = ng := ⟨_, rfl⟩
  simp only [hnd, hng]
  have HD := Lib.hid hnd
  have HG := Lib.hid hng
  clear hnd hng
  unfold restC cv cells
  simp only
  by_cases h1 : op = 1
  · subst h1
    go_enter Try.func49, Try.ntmps49
    go_wp2
    refine bodyPost_ret (results_cell_row rfl _ _ (w.heap.size + 1) 30 _ (0, 0) _ rfl (row_new (by simp)) Try.underlying30 rfl info30) rfl ?_
    refine ⟨⟨_, _, rfl, ?_, ?_⟩, ((Below.refl _ w).alloc (Nat.le_refl _) _).alloc (by simp) _⟩
    · first | exact ⟨_, _, by rw [HD.out]⟩ | exact ⟨none, 0, rfl⟩
    · first | exact ⟨_, _, by rw [HG.out]⟩ | exact ⟨none, 0, rfl⟩
  by_cases h2 : op = 2
  · subst h2
    go_enter Try.func49, Try.ntmps49
    go_wp2
    refine bodyPost_ret (results_cell_row rfl _ _ (w.heap.size + 1) 30 _ (0, 0) _ rfl (row_new (by simp)) Try.underlying30 rfl info30) rfl ?_
    refine ⟨⟨_, _, rfl, ?_, ?_⟩, ((Below.refl _ w).alloc (Nat.le_refl _) _).alloc (by simp) _⟩
    · first | exact ⟨_, _, by rw [HD.out]⟩ | exact ⟨none, 0, rfl⟩
    · first | exact ⟨_, _, by rw [HG.out]⟩ | exact ⟨none, 0, rfl⟩
  by_cases h3 : op = 3
  · subst h3
    go_enter Try.func49, Try.ntmps49
    go_wp2
    refine bodyPost_ret (results_cell_row rfl _ _ (w.heap.size + 1) 30 _ (0, 0) _ rfl (row_new (by simp)) Try.underlying30 rfl info30) rfl ?_
    refine ⟨⟨_, _, rfl, ?_, ?_⟩, ((Below.refl _ w).alloc (Nat.le_refl _) _).alloc (by simp) _⟩
    · first | exact ⟨_, _, by rw [HD.out]⟩ | exact ⟨none, 0, rfl⟩
    · first | exact ⟨_, _, by rw [HG.out]⟩ | exact ⟨none, 0, rfl⟩
  by_cases h4 : op = 4
  · subst h4
    go_enter Try.func49, Try.ntmps49
    go_wp2
    refine bodyPost_ret (results_cell_row rfl _ _ (w.heap.size + 1) 30 _ (0, 0) _ rfl (row_new (by simp)) Try.underlying30 rfl info30) rfl ?_
    refine ⟨⟨_, _, rfl, ?_, ?_⟩, ((Below.refl _ w).alloc (Nat.le_refl _) _).alloc (by simp) _⟩
    · first | exact ⟨_, _, by rw [HD.out]⟩ | exact ⟨none, 0, rfl⟩
    · first | exact ⟨_, _, by rw [HG.out]⟩ | exact ⟨none, 0, rfl⟩
  by_cases h5 : op = 5
  · subst h5
    go_enter Try.func49, Try.ntmps49
    go_wp2
    refine bodyPost_ret (results_cell_row rfl _ _ (w.heap.size + 1) 30 _ (0, 0) _ rfl (row_new (by simp)) Try.underlying30 rfl info30) rfl ?_
    refine ⟨⟨_, _, rfl, ?_, ?_⟩, ((Below.refl _ w).alloc (Nat.le_refl _) _).alloc (by simp) _⟩
    · first | exact ⟨_, _, by rw [HD.out]⟩ | exact ⟨none, 0, rfl⟩
    · first | exact ⟨_, _, by rw [HG.out]⟩ | exact ⟨none, 0, rfl⟩
  by_cases h6 : op = 6
  · subst h6
    go_enter Try.func49, Try.ntmps49
    go_wp2
    refine bodyPost_ret (results_cell_row rfl _ _ (w.heap.size + 1) 30 _ (0, 0) _ rfl (row_new (by simp)) Try.underlying30 rfl info30) rfl ?_
    refine ⟨⟨_, _, rfl, ?_, ?_⟩, ((Below.refl _ w).alloc (Nat.le_refl _) _).alloc (by simp) _⟩
    · first | exact ⟨_, _, by rw [HD.out]⟩ | exact ⟨none, 0, rfl⟩
    · first | exact ⟨_, _, by rw [HG.out]⟩ | exact ⟨none, 0, rfl⟩
  by_cases h7 : op = 7
  · subst h7
    go_enter Try.func49, Try.ntmps49
    go_wp2
    refine bodyPost_ret (results_cell_row rfl _ _ (w.heap.size + 1) 30 _ (0, 0) _ rfl (row_new (by simp)) Try.underlying30 rfl info30) rfl ?_
    refine ⟨⟨_, _, rfl, ?_, ?_⟩, ((Below.refl _ w).alloc (Nat.le_refl _) _).alloc (by simp) _⟩
    · first | exact ⟨_, _, by rw [HD.out]⟩ | exact ⟨none, 0, rfl⟩
    · first | exact ⟨_, _, by rw [HG.out]⟩ | exact ⟨none, 0, rfl⟩
  by_cases h8 : op = 8
  · subst h8
    go_enter Try.func49, Try.ntmps49
    go_wp2
    refine bodyPost_ret (results_cell_row rfl _ _ (w.heap.size + 1) 30 _ (0, 0) _ rfl (row_new (by simp)) Try.underlying30 rfl info30) rfl ?_
    refine ⟨⟨_, _, rfl, ?_, ?_⟩, ((Below.refl _ w).alloc (Nat.le_refl _) _).alloc (by simp) _⟩
    · first | exact ⟨_, _, by rw [HD.out]⟩ | exact ⟨none, 0, rfl⟩
    · first | exact ⟨_, _, by rw [HG.out]⟩ | exact ⟨none, 0, rfl⟩
  by_cases h9 : op = 9
  · subst h9
    go_enter Try.func49, Try.ntmps49
    go_wp2
    refine bodyPost_ret (results_cell_row rfl _ _ (w.heap.size + 1) 30 _ (0, 0) _ rfl (row_new (by simp)) Try.underlying30 rfl info30) rfl ?_
    refine ⟨⟨_, _, rfl, ?_, ?_⟩, ((Below.refl _ w).alloc (Nat.le_refl _) _).alloc (by simp) _⟩
    · first | exact ⟨_, _, by rw [HD.out]⟩ | exact ⟨none, 0, rfl⟩
    · first | exact ⟨_, _, by rw [HG.out]⟩ | exact ⟨none, 0, rfl⟩
  rw [if_neg h1, if_neg (by omega), if_neg h3, if_neg h5, if_neg h6, if_neg h8, if_neg h9]
  go_enter Try.func49, Try.ntmps49
  go_wp2
  refine bodyPost_ret (results_cell_row rfl _ _ (w.heap.size + 1) 30 _ (0, 0) _ rfl (row_new (by simp)) Try.underlying30 rfl info30) rfl ?_
  refine ⟨⟨_, _, rfl, ?_, ?_⟩, ((Below.refl _ w).alloc (Nat.le_refl _) _).alloc (by simp) _⟩
  · first | exact ⟨_, _, by rw [HD.out]⟩ | exact ⟨none, 0, rfl⟩
  · first | exact ⟨_, _, by rw [HG.out]⟩ | exact ⟨none, 0, rfl⟩
end Go.Proofs.Ytfpkdbogapmhmaa.O

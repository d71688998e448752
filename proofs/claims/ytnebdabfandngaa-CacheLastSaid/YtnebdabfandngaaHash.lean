/- The walks of layer 5's functions: the program's Hash, the reference's, the witness. -/
import Derived.Test.YtnebdabfandngaaProg
import Derived.Test.YtnebdabfandngaaMixed
import Derived.WalkKit
import Derived.KernelRfl
import Derived.WalkLawsBesides
import Derived.LoopN
namespace Go.Proofs.Ytnebdabfandngaa.Hash
open Go.RowKit Go.Proofs.Ytnebdabfandngaa.Mixed

set_option maxHeartbeats 4000000 in
set_option maxRecDepth 100000 in
theorem hash_low (obj hi lo knob : Int) (w : World) (h0 : knob ≤ 0) :
    Calls Try.prog 25 #[.int .i64 obj, .agg #[.int .u64 hi, .int .u64 lo], .int .i64 knob] w fun e w' => e = .returned (.int .u64 (hashK obj hi lo knob)) ∧ Below w.heap.size w w' := by
  have hb := (Below.refl w.heap.size w).alloc (Nat.le_refl _) (Obj.cells #[Value.int IntKind.u64 hi, Value.int IntKind.u64 lo] 34)
  go_enter Try.func25, Try.ntmps25
  go_wp2
  go_step3
  go_wp2
  go_step3
  go_wp2
  refine wp_loop_rounds 4 ?_
  rw [rounds_succ]
  go_wp2
  rw [rounds_succ]
  go_wp2
  rw [rounds_succ]
  go_wp2
  rw [rounds_succ]
  go_wp2
  rw [Exit.noGoto_ret]
  go_ret
  exact ⟨ret_u64 rfl (hashK_low h0), hb⟩

set_option maxHeartbeats 4000000 in
set_option maxRecDepth 100000 in
theorem hash_all (obj hi lo knob : Int) (w : World) (h0 : 0 < knob) (h1 : 64 ≤ knob) :
    Calls Try.prog 25 #[.int .i64 obj, .agg #[.int .u64 hi, .int .u64 lo], .int .i64 knob] w fun e w' => e = .returned (.int .u64 (hashK obj hi lo knob)) ∧ Below w.heap.size w w' := by
  have hb := (Below.refl w.heap.size w).alloc (Nat.le_refl _) (Obj.cells #[Value.int IntKind.u64 hi, Value.int IntKind.u64 lo] 34)
  go_enter Try.func25, Try.ntmps25
  go_wp2
  go_step3
  go_wp2
  go_step3
  go_wp2
  refine wp_loop_rounds 4 ?_
  rw [rounds_succ]
  go_wp2
  rw [rounds_succ]
  go_wp2
  rw [rounds_succ]
  go_wp2
  rw [rounds_succ]
  go_wp2
  rw [Exit.noGoto_ret]
  go_ret
  exact ⟨ret_u64 rfl (hashK_all h0 h1), hb⟩

set_option maxHeartbeats 4000000 in
set_option maxRecDepth 100000 in
theorem hash_mid (obj hi lo knob : Int) (w : World) (h0 : 0 < knob) (h1 : knob < 64) :
    Calls Try.prog 25 #[.int .i64 obj, .agg #[.int .u64 hi, .int .u64 lo], .int .i64 knob] w fun e w' => e = .returned (.int .u64 (hashK obj hi lo knob)) ∧ Below w.heap.size w w' := by
  have hb := (Below.refl w.heap.size w).alloc (Nat.le_refl _) (Obj.cells #[Value.int IntKind.u64 hi, Value.int IntKind.u64 lo] 34)
  go_enter Try.func25, Try.ntmps25
  go_wp2
  go_step3
  go_wp2
  go_step3
  go_wp2
  refine wp_loop_rounds 4 ?_
  rw [rounds_succ]
  go_wp2
  rw [rounds_succ]
  go_wp2
  rw [rounds_succ]
  go_wp2
  rw [rounds_succ]
  go_wp2
  rw [Exit.noGoto_ret]
  go_ret
  exact ⟨ret_u64 rfl (hashK_mid h0 h1), hb⟩

set_option maxHeartbeats 4000000 in
set_option maxRecDepth 100000 in
theorem ref_low (obj hi lo knob : Int) (w : World) (h0 : knob ≤ 0) :
    Calls Try.prog 27 #[.int .i64 obj, .agg #[.int .u64 hi, .int .u64 lo], .int .i64 knob] w fun e w' => e = .returned (.int .u64 (hashR obj hi lo knob)) ∧ Below w.heap.size w w' := by
  have hb := ((Below.refl w.heap.size w).alloc (Nat.le_refl _) (Obj.cells #[Value.int IntKind.u64 hi, Value.int IntKind.u64 lo] 34)).alloc (by simp) (Obj.cells #[Value.int IntKind.u64 (IntKind.u64.wrap obj), Value.int IntKind.u64 hi, Value.int IntKind.u64 lo] 73)
  go_enter Try.func27, Try.ntmps27
  go_wp2
  refine wp_loop_rounds 4 ?_
  rw [rounds_succ]
  go_wp2
  rw [rounds_succ]
  go_wp2
  rw [rounds_succ]
  go_wp2
  rw [rounds_succ]
  go_wp2
  go_ret
  exact ⟨ret_u64 rfl (hashR_low h0), hb⟩

set_option maxHeartbeats 4000000 in
set_option maxRecDepth 100000 in
theorem ref_all (obj hi lo knob : Int) (w : World) (h0 : 0 < knob) (h1 : 64 ≤ knob) :
    Calls Try.prog 27 #[.int .i64 obj, .agg #[.int .u64 hi, .int .u64 lo], .int .i64 knob] w fun e w' => e = .returned (.int .u64 (hashR obj hi lo knob)) ∧ Below w.heap.size w w' := by
  have hb := ((Below.refl w.heap.size w).alloc (Nat.le_refl _) (Obj.cells #[Value.int IntKind.u64 hi, Value.int IntKind.u64 lo] 34)).alloc (by simp) (Obj.cells #[Value.int IntKind.u64 (IntKind.u64.wrap obj), Value.int IntKind.u64 hi, Value.int IntKind.u64 lo] 73)
  go_enter Try.func27, Try.ntmps27
  go_wp2
  refine wp_loop_rounds 4 ?_
  rw [rounds_succ]
  go_wp2
  rw [rounds_succ]
  go_wp2
  rw [rounds_succ]
  go_wp2
  rw [rounds_succ]
  go_wp2
  go_ret
  exact ⟨ret_u64 rfl (hashR_all h0 h1), hb⟩

set_option maxHeartbeats 4000000 in
set_option maxRecDepth 100000 in
theorem ref_mid (obj hi lo knob : Int) (w : World) (h0 : 0 < knob) (h1 : knob < 64) :
    Calls Try.prog 27 #[.int .i64 obj, .agg #[.int .u64 hi, .int .u64 lo], .int .i64 knob] w fun e w' => e = .returned (.int .u64 (hashR obj hi lo knob)) ∧ Below w.heap.size w w' := by
  have hb := ((Below.refl w.heap.size w).alloc (Nat.le_refl _) (Obj.cells #[Value.int IntKind.u64 hi, Value.int IntKind.u64 lo] 34)).alloc (by simp) (Obj.cells #[Value.int IntKind.u64 (IntKind.u64.wrap obj), Value.int IntKind.u64 hi, Value.int IntKind.u64 lo] 73)
  go_enter Try.func27, Try.ntmps27
  go_wp2
  refine wp_loop_rounds 4 ?_
  rw [rounds_succ]
  go_wp2
  rw [rounds_succ]
  go_wp2
  rw [rounds_succ]
  go_wp2
  rw [rounds_succ]
  go_wp2
  · exact absurd (by assumption) (pow_ne h1)
  · go_ret
    exact ⟨ret_u64 rfl (hashR_mid h0 h1), hb⟩

theorem hash_any (obj hi lo knob : Int) (w : World) :
    Calls Try.prog 25 #[.int .i64 obj, .agg #[.int .u64 hi, .int .u64 lo], .int .i64 knob] w fun e w' => e = .returned (.int .u64 (hashK obj hi lo knob)) ∧ Below w.heap.size w w' := by
  by_cases h0 : knob ≤ 0
  · exact hash_low obj hi lo knob w h0
  · by_cases h1 : 64 ≤ knob
    · exact hash_all obj hi lo knob w (by omega) h1
    · exact hash_mid obj hi lo knob w (by omega) (by omega)

theorem ref_any (obj hi lo knob : Int) (w : World) :
    Calls Try.prog 27 #[.int .i64 obj, .agg #[.int .u64 hi, .int .u64 lo], .int .i64 knob] w fun e w' => e = .returned (.int .u64 (hashR obj hi lo knob)) ∧ Below w.heap.size w w' := by
  by_cases h0 : knob ≤ 0
  · exact ref_low obj hi lo knob w h0
  · by_cases h1 : 64 ≤ knob
    · exact ref_all obj hi lo knob w (by omega) h1
    · exact ref_mid obj hi lo knob w (by omega) (by omega)

end Go.Proofs.Ytnebdabfandngaa.Hash

/- The walks of layer 5's functions: the program's Hash, the reference's, the witness. -/
import Derived.Test.YtpijhkilkccioaaProg
import Derived.Test.YtpijhkilkccioaaMixed
import Derived.WalkKit
import Derived.KernelRfl
import Derived.WalkLawsBesides
import Derived.LoopN
namespace Go.Proofs.Ytpijhkilkccioaa.Hash
open Go.RowKit Go.Proofs.Ytpijhkilkccioaa.Mixed

set_option maxHeartbeats 4000000 in
set_option maxRecDepth 100000 in
theorem hash_low (obj hi lo knob : Int) (w : World) (h0 : knob ≤ 0) :
    Calls Try.prog 7 #[.int .i64 obj, .agg #[.int .u64 hi, .int .u64 lo], .int .i64 knob] w fun e w' => e = .returned (.int .u64 (hashK obj hi lo knob)) ∧ Below w.heap.size w w' := by
  have hb := (Below.refl w.heap.size w).alloc (Nat.le_refl _) (Obj.cells #[Value.int IntKind.u64 hi, Value.int IntKind.u64 lo] 24)
  go_enter Try.func7, Try.ntmps7
  go_wp2
  go_step3
  go_wp2
  go_step3
  go_wp2
  refine wp_loop_rounds 4 ?_
  rw [rounds_succ]
  go_wp2
  rw [rounds_succ]
  go_wp2
  rw [rounds_succ]
  go_wp2
  rw [rounds_succ]
  go_wp2
  rw [Exit.noGoto_ret]
  go_ret
  exact ⟨ret_u64 rfl (hashK_low h0), hb⟩

set_option maxHeartbeats 4000000 in
set_option maxRecDepth 100000 in
theorem hash_all (obj hi lo knob : Int) (w : World) (h0 : 0 < knob) (h1 : 64 ≤ knob) :
    Calls Try.prog 7 #[.int .i64 obj, .agg #[.int .u64 hi, .int .u64 lo], .int .i64 knob] w fun e w' => e = .returned (.int .u64 (hashK obj hi lo knob)) ∧ Below w.heap.size w w' := by
  have hb := (Below.refl w.heap.size w).alloc (Nat.le_refl _) (Obj.cells #[Value.int IntKind.u64 hi, Value.int IntKind.u64 lo] 24)
  go_enter Try.func7, Try.ntmps7
  go_wp2
  go_step3
  go_wp2
  go_step3
  go_wp2
  refine wp_loop_rounds 4 ?_
  rw [rounds_succ]
  go_wp2
  rw [rounds_succ]
  go_wp2
  rw [rounds_succ]
  go_wp2
  rw [rounds_succ]
  go_wp2
  rw [Exit.noGoto_ret]
  go_ret
  exact ⟨ret_u64 rfl (hashK_all h0 h1), hb⟩

set_option maxHeartbeats 4000000 in
set_option maxRecDepth 100000 in
theorem hash_mid (obj hi lo knob : Int) (w : World) (h0 : 0 < knob) (h1 : knob < 64) :
    Calls Try.prog 7 #[.int .i64 obj, .agg #[.int .u64 hi, .int .u64 lo], .int .i64 knob] w fun e w' => e = .returned (.int .u64 (hashK obj hi lo knob)) ∧ Below w.heap.size w w' := by
  have hb := (Below.refl w.heap.size w).alloc (Nat.le_refl _) (Obj.cells #[Value.int IntKind.u64 hi, Value.int IntKind.u64 lo] 24)
  go_enter Try.func7, Try.ntmps7
  go_wp2
  go_step3
  go_wp2
  go_step3
  go_wp2
  refine wp_loop_rounds 4 ?_
  rw [rounds_succ]
  go_wp2
  rw [rounds_succ]
  go_wp2
  rw [rounds_succ]
  go_wp2
  rw [rounds_succ]
  go_wp2
  rw [Exit.noGoto_ret]
  go_ret
  exact ⟨ret_u64 rfl (hashK_mid h0 h1), hb⟩

set_option maxHeartbeats 4000000 in
set_option maxRecDepth 100000 in
theorem ref_low (obj hi lo knob : Int) (w : World) (h0 : knob ≤ 0) :
    Calls Try.prog 8 #[.int .i64 obj, .agg #[.int .u64 hi, .int .u64 lo], .int .i64 knob] w fun e w' => e = .returned (.int .u64 (hashR obj hi lo knob)) ∧ Below w.heap.size w w' := by
  have hb := ((Below.refl w.heap.size w).alloc (Nat.le_refl _) (Obj.cells #[Value.int IntKind.u64 hi, Value.int IntKind.u64 lo] 24)).alloc (by simp) (Obj.cells #[Value.int IntKind.u64 (IntKind.u64.wrap obj), Value.int IntKind.u64 hi, Value.int IntKind.u64 lo] 30)
  go_enter Try.func8, Try.ntmps8
  go_wp2
  refine wp_loop_rounds 4 ?_
  rw [rounds_succ]
  go_wp2
  rw [rounds_succ]
  go_wp2
  rw [rounds_succ]
  go_wp2
  rw [rounds_succ]
  go_wp2
  go_ret
  exact ⟨ret_u64 rfl (hashR_low h0), hb⟩

set_option maxHeartbeats 4000000 in
set_option maxRecDepth 100000 in
theorem ref_all (obj hi lo knob : Int) (w : World) (h0 : 0 < knob) (h1 : 64 ≤ knob) :
    Calls Try.prog 8 #[.int .i64 obj, .agg #[.int .u64 hi, .int .u64 lo], .int .i64 knob] w fun e w' => e = .returned (.int .u64 (hashR obj hi lo knob)) ∧ Below w.heap.size w w' := by
  have hb := ((Below.refl w.heap.size w).alloc (Nat.le_refl _) (Obj.cells #[Value.int IntKind.u64 hi, Value.int IntKind.u64 lo] 24)).alloc (by simp) (Obj.cells #[Value.int IntKind.u64 (IntKind.u64.wrap obj), Value.int IntKind.u64 hi, Value.int IntKind.u64 lo] 30)
  go_enter Try.func8, Try.ntmps8
  go_wp2
  refine wp_loop_rounds 4 ?_
  rw [rounds_succ]
  go_wp2
  rw [rounds_succ]
  go_wp2
  rw [rounds_succ]
  go_wp2
  rw [rounds_succ]
  go_wp2
  go_ret
  exact ⟨ret_u64 rfl (hashR_all h0 h1), hb⟩

set_option maxHeartbeats 4000000 in
set_option maxRecDepth 100000 in
theorem ref_mid (obj hi lo knob : Int) (w : World) (h0 : 0 < knob) (h1 : knob < 64) :
    Calls Try.prog 8 #[.int .i64 obj, .agg #[.int .u64 hi, .int .u64 lo], .int .i64 knob] w fun e w' => e = .returned (.int .u64 (hashR obj hi lo knob)) ∧ Below w.heap.size w w' := by
  have hb := ((Below.refl w.heap.size w).alloc (Nat.le_refl _) (Obj.cells #[Value.int IntKind.u64 hi, Value.int IntKind.u64 lo] 24)).alloc (by simp) (Obj.cells #[Value.int IntKind.u64 (IntKind.u64.wrap obj), Value.int IntKind.u64 hi, Value.int IntKind.u64 lo] 30)
  go_enter Try.func8, Try.ntmps8
  go_wp2
  refine wp_loop_rounds 4 ?_
  rw [rounds_succ]
  go_wp2
  rw [rounds_succ]
  go_wp2
  rw [rounds_succ]
  go_wp2
  rw [rounds_succ]
  go_wp2
  · exact absurd (by assumption) (pow_ne h1)
  · go_ret
    exact ⟨ret_u64 rfl (hashR_mid h0 h1), hb⟩

theorem hash_any (obj hi lo knob : Int) (w : World) :
    Calls Try.prog 7 #[.int .i64 obj, .agg #[.int .u64 hi, .int .u64 lo], .int .i64 knob] w fun e w' => e = .returned (.int .u64 (hashK obj hi lo knob)) ∧ Below w.heap.size w w' := by
  by_cases h0 : knob ≤ 0
  · exact hash_low obj hi lo knob w h0
  · by_cases h1 : 64 ≤ knob
    · exact hash_all obj hi lo knob w (by omega) h1
    · exact hash_mid obj hi lo knob w (by omega) (by omega)

theorem ref_any (obj hi lo knob : Int) (w : World) :
    Calls Try.prog 8 #[.int .i64 obj, .agg #[.int .u64 hi, .int .u64 lo], .int .i64 knob] w fun e w' => e = .returned (.int .u64 (hashR obj hi lo knob)) ∧ Below w.heap.size w w' := by
  by_cases h0 : knob ≤ 0
  · exact ref_low obj hi lo knob w h0
  · by_cases h1 : 64 ≤ knob
    · exact ref_all obj hi lo knob w (by omega) h1
    · exact ref_mid obj hi lo knob w (by omega) (by omega)

theorem alive_true : (hashK 1 0 5 64 == 8857019173382971535) = true := by rw [alive_is]; rfl
theorem alive_any (w : World) : Calls Try.prog 6 #[] w fun e w' => e = .returned (.bool true) ∧ Below w.heap.size w w' := by
  go_enter Try.func6, Try.ntmps6
  go_wp2_with fail
  refine (hash_any _ _ _ _ _).mono ?_; rintro e w1 ⟨rfl, hb1⟩
  go_wp2_with fail
  refine bodyPost_ret (v := .bool (hashK 1 0 5 64 == 8857019173382971535)) (by simp [results, go_sem]) rfl ⟨by rw [alive_true], hb1⟩

end Go.Proofs.Ytpijhkilkccioaa.Hash

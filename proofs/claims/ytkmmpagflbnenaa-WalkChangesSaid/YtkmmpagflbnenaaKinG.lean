/- New. Own text; Ytkmmpagflbnenaa and the numbers between @..@ are the seat's. -/
import Derived.Test.YtkmmpagflbnenaaKinF
import Derived.Test.YtkmmpagflbnenaaKinL
namespace Go.Proofs.Ytkmmpagflbnenaa.Kin
open Go.RowKit Go.Proofs.Ytkmmpagflbnenaa.Mem
set_option linter.unusedVariables false
theorem made_at {z : Array Value} (n k i : Nat) (hz : z.size = 3) (hk : k < n) (hi : i < 3) : (madeCells z (n * 3))[k * 3 + i]? = z[i]? := by
  unfold madeCells
  have h1 : k * 3 + i < n * 3 := by omega
  have h2 : (k * 3 + i) % 3 = i := by omega
  rw [Array.getElem?_map, Array.getElem?_range, if_pos h1]
  simp only [Option.map_some, hz, h2]
  rw [getElem!_def]
  cases e : z[i]? with
  | none => have := Array.getElem?_eq_none_iff.1 e; omega
  | some v => rfl
set_option maxHeartbeats 1000000 in
theorem new_in (w : World) (n : Nat) (hn : n ≤ 1024) : Calls Try.prog 26 #[.int .i64 n] w fun e w' => ∃ p g, e = .returned (.tuple #[.pointer (some ⟨p, 0, none⟩), .int .i64 0]) ∧ Below w.heap.size w w' ∧ Kt w' p g n [] (fun _ => .slice none 0 0) (fun b => w.heap.size ≤ b) := by
  obtain ⟨Z, hZ⟩ : ∃ Z : Array Value, madeCells #[.bool false, .int .i64 0, .slice none 0 0] (n * 3) = Z := ⟨_, rfl⟩
  have mk1 : ∀ w, (Instr.makeSlice 75 (.int .i64 n) (.int .i64 n)).run Try.prog w = .ok (.slice (some ⟨w.heap.size, 0, none⟩) n n) (w.alloc (.cells Z 64)) := fun w => by
    obtain ⟨i, hi, hz', hsize, hby⟩ := info_parts info_node
    have := run_make (P := Try.prog) w 75 64 i _ Try.underlying75 hi hz' .i64 .i64 n n (by omega) (by omega) (by rw [hby]; omega) (by omega)
    rw [this, hsize, Int.toNat_natCast, show (Value.agg #[Value.bool false, Value.int .i64 0, Value.slice none 0 0]).cells = #[Value.bool false, Value.int .i64 0, Value.slice none 0 0] from rfl, hZ]
  have HZ : Hid (∀ k, k < n → Z[k * 3]? = some (.bool false) ∧ Z[k * 3 + 1]? = some (.int .i64 0) ∧ Z[k * 3 + 2]? = some (.slice none 0 0)) := fun k hk => by
    have e0 := made_at (z := #[.bool false, .int .i64 0, .slice none 0 0]) n k 0 rfl hk (by omega)
    have e1 := made_at (z := #[.bool false, .int .i64 0, .slice none 0 0]) n k 1 rfl hk (by omega)
    have e2 := made_at (z := #[.bool false, .int .i64 0, .slice none 0 0]) n k 2 rfl hk (by omega)
    rw [hZ] at e0 e1 e2
    exact ⟨e0, e1, e2⟩
  clear hZ
  go_enter Try.func26, Try.ntmps26
  go_wp2
  go_ret2
  refine ⟨w.heap.size + 1, w.heap.size, rfl, ?_, ?_⟩
  · exact ((Below.refl _ w).alloc (Nat.le_refl _) _).alloc (by simp) _
  · have r1 : ((w.alloc (.cells Z 64)).alloc (.cells #[.slice (some ⟨w.heap.size, 0, none⟩) n n] 77)).heap[w.heap.size]? = some (.cells Z 64) := no_keeps (heap_alloc_new w _) ((Kept.refl _ _).alloc _)
    have r2 : ((w.alloc (.cells Z 64)).alloc (.cells #[.slice (some ⟨w.heap.size, 0, none⟩) n n] 77)).heap[w.heap.size + 1]? = some (.cells #[.slice (some ⟨w.heap.size, 0, none⟩) n n] 77) := by
      have := heap_alloc_new (w.alloc (.cells Z 64)) (.cells #[.slice (some ⟨w.heap.size, 0, none⟩) n n] 77)
      rwa [show (w.alloc (.cells Z 64)).heap.size = w.heap.size + 1 by simp] at this
    refine ⟨⟨r2, ⟨Z, r1, HZ.out⟩, ⟨fun k hk => World.ownsRow_nil _ _ _ _, fun i j b hi hj e => by simp [Value.ownBlock] at e⟩, by omega, by omega, Nat.le_refl _, fun k b hk e => by simp [Value.ownBlock] at e, hn⟩, inv_nil n⟩
theorem new_out (w : World) (n : Int) (hn : n < 0 ∨ 1024 < n) : Calls Try.prog 26 #[.int .i64 n] w fun e w' => e = .returned (.tuple #[.pointer none, .int .i64 16]) ∧ w = w' := by
  by_cases h0 : n < 0
  · go_enter Try.func26, Try.ntmps26
    go_wp2
    go_ret2
    exact ⟨rfl, rfl⟩
  · have h1 : 1024 < n := by omega
    have h2 : ¬ n < 0 := h0
    clear hn h0
    go_enter Try.func26, Try.ntmps26
    go_wp2
    go_ret2
    exact ⟨rfl, rfl⟩
end Go.Proofs.Ytkmmpagflbnenaa.Kin

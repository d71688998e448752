/- New, of whatever number: the document's and the program's. -/
import Derived.Test.YtbhpikagjcojbaaBr4
namespace Go.Proofs.Ytbhpikagjcojbaa.Ar
open Go.RowKit Go.Proofs.Ytbhpikagjcojbaa.Mem
set_option linter.unusedVariables false
theorem made_at {z : Array Value} (n k i : Nat) (hz : z.size = 65) (hk : k < n) (hi : i < 65) : (madeCells z (n * 65))[k * 65 + i]? = z[i]? := by
  unfold madeCells
  have h1 : k * 65 + i < n * 65 := by omega
  have h2 : (k * 65 + i) % 65 = i := by omega
  rw [Array.getElem?_map, Array.getElem?_range, if_pos h1]
  simp only [Option.map_some, hz, h2]
  rw [getElem!_def]
  cases e : z[i]? with
  | none => have := Array.getElem?_eq_none_iff.1 e; omega
  | some v => rfl
theorem made_size (z : Array Value) (n : Nat) : (madeCells z n).size = n := by simp [madeCells]
theorem info75z : (Try.prog.info? 75).map (fun i => (i.zero, i.size, i.bytes)) = some (some (.agg zeroPage.toArray), 65, 65) := by kernel_rfl
theorem zeroPage_size : zeroPage.toArray.size = 65 := by kernel_rfl
theorem zeroPage_at {i : Nat} (hi : i < 64) : zeroPage.toArray[1 + i]? = some (byteC 0) := by
  unfold zeroPage
  rw [List.getElem?_toArray, Nat.add_comm, List.getElem?_cons_succ, List.getElem?_replicate, if_pos hi]
set_option maxHeartbeats 1000000 in
theorem rnew_in (w : World) (n : Nat) (hn : n ≤ 256) : Calls Try.prog 17 #[.int .i64 n] w fun e w' => ∃ r P, e = .returned (.tuple #[.pointer (some ⟨r, 0, none⟩), .int .i64 0]) ∧ Ra w' r P n (List.replicate n false) (List.replicate (n * 64) 0) ∧ Below w.heap.size w w' ∧ w.heap.size ≤ r ∧ w.heap.size ≤ P := by
  obtain ⟨Z, hZ⟩ : ∃ Z : Array Value, madeCells zeroPage.toArray (n * 65) = Z := ⟨_, rfl⟩
  have mk1 : ∀ w, (Instr.makeSlice 63 (.int .i64 n) (.int .i64 n)).run Try.prog w = .ok (.slice (some ⟨w.heap.size, 0, none⟩) n n) (w.alloc (.cells Z 75)) := fun w => by
    obtain ⟨i, hi, hz', hsize, hby⟩ := info_parts info75z
    have := run_make (P := Try.prog) w 63 75 i _ Try.underlying63 hi hz' .i64 .i64 n n (by omega) (by omega) (by rw [hby]; omega) (by omega)
    rw [this, hsize, Int.toNat_natCast, show (Value.agg zeroPage.toArray).cells = zeroPage.toArray from rfl, hZ]
  have HZ : Hid (∀ k, k < n → Z[k * 65]? = some (.bool false) ∧ ∀ q, q < 64 → Z[k * 65 + 1 + q]? = some (byteC 0)) := fun k hk => by
    refine ⟨?_, fun q hq => ?_⟩
    · have := made_at n k 0 zeroPage_size hk (by omega)
      rw [hZ, Nat.add_zero] at this
      exact this
    · have := made_at n k (1 + q) zeroPage_size hk (by omega)
      rw [hZ, zeroPage_at hq, ← Nat.add_assoc] at this
      exact this
  clear hZ
  go_enter Try.func17, Try.ntmps17
  go_wp2
  go_ret2
  refine ⟨w.heap.size + 1, w.heap.size, rfl, ?_, ((Below.refl _ w).alloc (Nat.le_refl _) _).alloc (by simp) _, by omega, Nat.le_refl _⟩
  have r1 : ((w.alloc (.cells Z 75)).alloc (.cells #[.slice (some ⟨w.heap.size, 0, none⟩) n n] 65)).heap[w.heap.size]? = some (.cells Z 75 (0, 0)) := no_keeps (heap_alloc_new w _) ((Kept.refl _ _).alloc _)
  have r2 : ((w.alloc (.cells Z 75)).alloc (.cells #[.slice (some ⟨w.heap.size, 0, none⟩) n n] 65)).heap[w.heap.size + 1]? = some (.cells #[.slice (some ⟨w.heap.size, 0, none⟩) n n] 65 (0, 0)) := by
    have := heap_alloc_new (w.alloc (.cells Z 75)) (.cells #[.slice (some ⟨w.heap.size, 0, none⟩) n n] 65)
    rwa [show (w.alloc (.cells Z 75)).heap.size = w.heap.size + 1 by simp] at this
  refine ⟨r2, fun j b hb => ?_, fun j q b hq hb => ?_, fun j => free_row r1, lt_of_row r1, by simp, by simp, by omega, hn⟩
  · rw [List.getElem?_replicate] at hb
    split at hb
    · next hj =>
      obtain rfl := Option.some.inj hb
      exact cell_row r1 (HZ.out j hj).1
    · cases hb
  · rw [List.getElem?_replicate] at hb
    split at hb
    · next hj =>
      obtain rfl := Option.some.inj hb
      exact cell_row r1 ((HZ.out j (by omega)).2 q hq)
    · cases hb
theorem rnew_out (w : World) (n : Int) (hn : n < 0 ∨ 256 < n) : Calls Try.prog 17 #[.int .i64 n] w fun e w' => e = .returned (.tuple #[.pointer none, .int .i64 16]) ∧ w = w' := by
  by_cases h0 : n < 0
  · go_enter Try.func17, Try.ntmps17
    go_wp2
    go_ret2
    exact ⟨rfl, rfl⟩
  · have h1 : 256 < n := by omega
    have h2 : ¬ n < 0 := h0
    clear hn h0
    go_enter Try.func17, Try.ntmps17
    go_wp2
    go_ret2
    exact ⟨rfl, rfl⟩
theorem new_out (w : World) (n : Int) (hn : n < 0 ∨ 256 < n) : Calls Try.prog 7 #[.int .i64 n] w fun e w' => e = .returned (.tuple #[.pointer none, .int .i64 16]) ∧ w = w' := by
  by_cases h0 : n < 0
  · go_enter Try.func7, Try.ntmps7
    go_wp2
    go_ret2
    exact ⟨rfl, rfl⟩
  · have h1 : 256 < n := by omega
    have h2 : ¬ n < 0 := h0
    clear hn h0
    go_enter Try.func7, Try.ntmps7
    go_wp2
    go_ret2
    exact ⟨rfl, rfl⟩
end Go.Proofs.Ytbhpikagjcojbaa.Ar

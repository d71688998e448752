/- The arena: New. -/
import Derived.Test.YtbhpikagjcojbaaAr1
namespace Go.Proofs.Ytbhpikagjcojbaa.Ar
open Go.RowKit Go.Proofs.Ytbhpikagjcojbaa.Mem
theorem made_same {z : Array Value} {v : Value} (k : Nat) (hz : ∀ j, j < z.size → z[j]? = some v) (hp : 0 < z.size) : madeCells z k = (List.replicate k v).toArray := by
  unfold madeCells
  apply Array.ext
  · simp
  · intro i h1 h2
    have h3 := hz (i % z.size) (Nat.mod_lt _ hp)
    simp only [Array.getElem_map, Array.getElem_range]
    rw [getElem!_def, h3]
    simp
theorem info59z : (Try.prog.info? 59).map (fun i => (i.zero, i.size, i.bytes)) = some (some (.agg (Array.replicate 64 (.int .u8 0))), 64, 64) := by kernel_rfl
theorem zero59 : ∃ z, (Try.prog.info? 59).map (fun i => (i.zero, i.size, i.bytes)) = some (some z, 64, 64) ∧ z.cells = (List.replicate 64 (byteC 0)).toArray :=
  ⟨_, info59z, rfl⟩
theorem at_new {n : Nat} (hn : n ≤ 256) {p a t : Nat} {W : World} (h1 : W.heap[p]? = some (.cells #[.slice (some ⟨a, 0, none⟩) n n, .slice (some ⟨t, 0, none⟩) n n] 57 (0, 0))) (h2 : W.heap[a]? = some (.cells (List.replicate (n * 64) (byteC 0)).toArray 59 (0, 0))) (h3 : W.heap[t]? = some (.cells (List.replicate n (Value.bool false)).toArray 4 (0, 0))) (hf : p ≠ a ∧ p ≠ t ∧ a ≠ t) :
    At W p a t n (List.replicate n false) (List.replicate (n * 64) 0) :=
  ⟨h1, by rw [List.map_replicate]; exact h2, by rw [List.map_replicate]; exact h3, by simp, by simp, hf, hn⟩
set_option maxHeartbeats 4000000 in
set_option maxRecDepth 100000 in
theorem new_in (w : World) (n : Nat) (hn : n ≤ 256) : Calls Try.prog 7 #[.int .i64 n] w fun e w' => ∃ p a t, e = .returned (.tuple #[.pointer (some ⟨p, 0, none⟩), .int .i64 0]) ∧ At w' p a t n (List.replicate n false) (List.replicate (n * 64) 0) ∧ Below w.heap.size w w' ∧ w.heap.size ≤ p ∧ w.heap.size ≤ a ∧ w.heap.size ≤ t := by
  obtain ⟨Z1, hZ1⟩ : ∃ Z : Array Value, (List.replicate (n * 64) (byteC 0)).toArray = Z := ⟨_, rfl⟩
  obtain ⟨Z2, hZ2⟩ : ∃ Z : Array Value, (List.replicate n (Value.bool false)).toArray = Z := ⟨_, rfl⟩
  have mk1 : ∀ w, (Instr.makeSlice 54 (.int .i64 n) (.int .i64 n)).run Try.prog w = .ok (.slice (some ⟨w.heap.size, 0, none⟩) n n) (w.alloc (.cells Z1 59)) := fun w => by
    obtain ⟨z, hinfo, hz⟩ := zero59
    obtain ⟨i, hi, hz', hsize, hby⟩ := info_parts hinfo
    have := run_make (P := Try.prog) w 54 59 i z Try.underlying54 hi hz' .i64 .i64 n n (by omega) (by omega) (by rw [hby]; omega) (by omega)
    rw [this, hsize, hz, made_same (v := byteC 0) _ (fun j hj => by rw [List.getElem?_toArray, List.getElem?_replicate, if_pos (by simpa using hj)]) (by simp), Int.toNat_natCast, hZ1]
  have mk2 : ∀ w, (Instr.makeSlice 55 (.int .i64 n) (.int .i64 n)).run Try.prog w = .ok (.slice (some ⟨w.heap.size, 0, none⟩) n n) (w.alloc (.cells Z2 4)) := fun w => by
    obtain ⟨i, hi, hz', hsize, hby⟩ := info_parts info4
    have := run_make (P := Try.prog) w 55 4 i _ Try.underlying55 hi hz' .i64 .i64 n n (by omega) (by omega) (by rw [hby]; omega) (by omega)
    rw [this, hsize, made_same (v := .bool false) _ (fun j hj => by simp [Value.cells] at hj; subst hj; rfl) (by simp [Value.cells]), Int.toNat_natCast, Nat.mul_one, hZ2]
  go_enter Try.func7, Try.ntmps7
  go_wp2_with fail
  go_region
  all_goals clear mk1 mk2
  · have r1 : ((((w.alloc (Obj.cells Z1 59)).alloc (Obj.cells Z2 4)).alloc (Obj.cells #[.slice (some ⟨w.heap.size, 0, none⟩) n n, .slice (some ⟨w.heap.size + 1, 0, none⟩) n n] 57)).drew).heap[w.heap.size]? = some (.cells Z1 59 (0, 0)) := no_keeps (heap_alloc_new w _) ((((Kept.refl _ _).alloc _).alloc _).drew)
    have r2 : ((((w.alloc (Obj.cells Z1 59)).alloc (Obj.cells Z2 4)).alloc (Obj.cells #[.slice (some ⟨w.heap.size, 0, none⟩) n n, .slice (some ⟨w.heap.size + 1, 0, none⟩) n n] 57)).drew).heap[w.heap.size + 1]? = some (.cells Z2 4 (0, 0)) := no_keeps (by simpa using heap_alloc_new (w.alloc (Obj.cells Z1 59)) (Obj.cells Z2 4)) (((Kept.refl _ _).alloc _).drew)
    have r3 : ((((w.alloc (Obj.cells Z1 59)).alloc (Obj.cells Z2 4)).alloc (Obj.cells #[.slice (some ⟨w.heap.size, 0, none⟩) n n, .slice (some ⟨w.heap.size + 1, 0, none⟩) n n] 57)).drew).heap[w.heap.size + 1 + 1]? = some (.cells #[.slice (some ⟨w.heap.size, 0, none⟩) n n, .slice (some ⟨w.heap.size + 1, 0, none⟩) n n] 57 (0, 0)) := by
      have h := heap_alloc_new ((w.alloc (Obj.cells Z1 59)).alloc (Obj.cells Z2 4)) (Obj.cells #[.slice (some ⟨w.heap.size, 0, none⟩) n n, .slice (some ⟨w.heap.size + 1, 0, none⟩) n n] 57)
      rw [show ((w.alloc (Obj.cells Z1 59)).alloc (Obj.cells Z2 4)).heap.size = w.heap.size + 1 + 1 from by simp] at h
      exact h
    have HA := Lib.hid (at_new hn r3 (by rw [hZ1]; exact r1) (by rw [hZ2]; exact r2) (by omega))
    have HB : Hid (Below w.heap.size w ((((w.alloc (Obj.cells Z1 59)).alloc (Obj.cells Z2 4)).alloc (Obj.cells #[.slice (some ⟨w.heap.size, 0, none⟩) n n, .slice (some ⟨w.heap.size + 1, 0, none⟩) n n] 57)).drew)) := ((((Below.refl _ w).alloc (Nat.le_refl _) _).alloc (by simp) _).alloc (by simp; omega) _).drew
    clear r1 r2 r3
    go_wp2
    go_ret2
    exact ⟨_, _, _, rfl, HA.out, HB.out, by omega, by omega, by omega⟩
  · have r1 : ((((w.alloc (Obj.cells Z2 4)).alloc (Obj.cells Z1 59)).alloc (Obj.cells #[.slice (some ⟨w.heap.size + 1, 0, none⟩) n n, .slice (some ⟨w.heap.size, 0, none⟩) n n] 57)).drew).heap[w.heap.size]? = some (.cells Z2 4 (0, 0)) := no_keeps (heap_alloc_new w _) ((((Kept.refl _ _).alloc _).alloc _).drew)
    have r2 : ((((w.alloc (Obj.cells Z2 4)).alloc (Obj.cells Z1 59)).alloc (Obj.cells #[.slice (some ⟨w.heap.size + 1, 0, none⟩) n n, .slice (some ⟨w.heap.size, 0, none⟩) n n] 57)).drew).heap[w.heap.size + 1]? = some (.cells Z1 59 (0, 0)) := no_keeps (by simpa using heap_alloc_new (w.alloc (Obj.cells Z2 4)) (Obj.cells Z1 59)) (((Kept.refl _ _).alloc _).drew)
    have r3 : ((((w.alloc (Obj.cells Z2 4)).alloc (Obj.cells Z1 59)).alloc (Obj.cells #[.slice (some ⟨w.heap.size + 1, 0, none⟩) n n, .slice (some ⟨w.heap.size, 0, none⟩) n n] 57)).drew).heap[w.heap.size + 1 + 1]? = some (.cells #[.slice (some ⟨w.heap.size + 1, 0, none⟩) n n, .slice (some ⟨w.heap.size, 0, none⟩) n n] 57 (0, 0)) := by
      have h := heap_alloc_new ((w.alloc (Obj.cells Z2 4)).alloc (Obj.cells Z1 59)) (Obj.cells #[.slice (some ⟨w.heap.size + 1, 0, none⟩) n n, .slice (some ⟨w.heap.size, 0, none⟩) n n] 57)
      rw [show ((w.alloc (Obj.cells Z2 4)).alloc (Obj.cells Z1 59)).heap.size = w.heap.size + 1 + 1 from by simp] at h
      exact h
    have HA := Lib.hid (at_new hn r3 (by rw [hZ1]; exact r2) (by rw [hZ2]; exact r1) (by omega))
    have HB : Hid (Below w.heap.size w ((((w.alloc (Obj.cells Z2 4)).alloc (Obj.cells Z1 59)).alloc (Obj.cells #[.slice (some ⟨w.heap.size + 1, 0, none⟩) n n, .slice (some ⟨w.heap.size, 0, none⟩) n n] 57)).drew)) := ((((Below.refl _ w).alloc (Nat.le_refl _) _).alloc (by simp) _).alloc (by simp; omega) _).drew
    clear r1 r2 r3
    go_wp2
    go_ret2
    exact ⟨_, _, _, rfl, HA.out, HB.out, by omega, by omega, by omega⟩
end Go.Proofs.Ytbhpikagjcojbaa.Ar

/- lent: bytes in new memory, with marks behind them. -/
import Derived.Test.YtbhpikagjcojbaaAr7
namespace Go.Proofs.Ytbhpikagjcojbaa.Ar
open Go.RowKit Go.Proofs.Ytbhpikagjcojbaa.Mem
def lentL (zs : List Int) : List Int := zs ++ (List.range 120).map fun (k : Nat) => IntKind.u8.wrap (129 + (k : Int))
theorem lentL_len (zs : List Int) : (lentL zs).length = zs.length + 120 := by simp [lentL]
theorem lentL_lo {zs : List Int} {i : Nat} {z : Int} (h : zs[i]? = some z) : (lentL zs)[i]? = some z := by
  unfold lentL
  rw [List.getElem?_append_left (List.getElem?_eq_some_iff.1 h).1]
  exact h
theorem lentL_hi {zs : List Int} {i : Nat} (h1 : zs.length ≤ i) (h2 : i < zs.length + 120) : (lentL zs)[i]? = some (IntKind.u8.wrap (129 + ((i : Int) - (zs.length : Int)))) := by
  unfold lentL
  rw [List.getElem?_append_right h1, List.getElem?_map, List.getElem?_range (by omega)]
  simp
  congr 1
  omega
def half (L : List Int) (i : Nat) : List Int := L.take i ++ List.replicate (L.length - i) 0
theorem half_set {L : List Int} {i : Nat} {b : Int} (h : L[i]? = some b) : (half L i).set i b = half L (i + 1) := by
  have hi := (List.getElem?_eq_some_iff.1 h).1
  unfold half
  rw [List.set_append_right _ _ (by rw [List.length_take]; omega), List.length_take, Nat.min_eq_left (by omega), Nat.sub_self, show L.length - i = (L.length - (i + 1)) + 1 by omega, List.replicate_succ, List.set_cons_zero, List.take_add_one, h, List.append_assoc]
  rfl
def Lay (w : World) (L : List Int) (i : Nat) (wr : World) : Prop := wr.heap[w.heap.size]? = some (.cells ((half L i).map byteC).toArray 5 (0, 0)) ∧ Below w.heap.size w wr
theorem Lay.store {w wr : World} {L : List Int} {i : Nat} {b : Int} (h : Lay w L i wr) (hb : L[i]? = some b) : Lay w L (i + 1) (wr.setCell ⟨w.heap.size, i, none⟩ (.int .u8 b)) := by
  refine ⟨?_, h.2.setCell (Nat.le_refl _) _⟩
  rw [heap_setCell_same wr _ i _ _ (.int .u8 b) h.1]
  congr 2
  rw [← half_set hb, List.map_set]
  simp [byteC]
theorem Lay.cell {w wr : World} {L : List Int} {i : Nat} (h : Lay w L i wr) (hi : i < L.length) : wr.cell? ⟨w.heap.size, i, none⟩ = some (.int .u8 0) ∧ wr.frozen? ⟨w.heap.size, i, none⟩ = false := by
  refine ⟨cell_row h.1 ?_, free_row h.1⟩
  rw [List.getElem?_toArray, List.getElem?_map]
  unfold half
  rw [List.getElem?_append_right (by rw [List.length_take]; omega), List.length_take, List.getElem?_replicate, if_pos (by omega)]
  rfl
/-- Bytes that lie somewhere. -/
def ReadsB (w : World) (A : Option Addr) (zs : List Int) : Prop := 0 < zs.length → ∃ g o, A = some ⟨g, o, none⟩ ∧ ∀ j u, zs[j]? = some u → w.cell? ⟨g, o + j, none⟩ = some (.int .u8 u)
set_option maxHeartbeats 1000000 in
set_option maxRecDepth 100000 in
theorem lent_any (w : World) (A : Option Addr) (n c : Nat) (zs : List Int) (hn : zs.length = n) (hb : n ≤ 140737488351232) (hs : ReadsB w A zs) :
    Calls Try.prog 14 #[.slice A n c] w fun e w' => e = .returned (.slice (some ⟨w.heap.size, 0, none⟩) (n + 120) (n + 120)) ∧ w'.heap[w.heap.size]? = some (.cells ((lentL zs).map byteC).toArray 5 (0, 0)) ∧ Below w.heap.size w w' := by
  obtain ⟨Z, hZ⟩ : ∃ Z : Array Value, ((half (lentL zs) 0).map byteC).toArray = Z := ⟨_, rfl⟩
  have hll := lentL_len zs
  rw [hn] at hll
  have hmk : ∀ w, (Instr.makeSlice 36 (.int .i64 ((n : Int) + 120)) (.int .i64 ((n : Int) + 120))).run Try.prog w = .ok (.slice (some ⟨w.heap.size, 0, none⟩) (n + 120) (n + 120)) (w.alloc (.cells Z 5)) := fun w => by
    obtain ⟨i, hi, hz', hsize, hby⟩ := info_parts info5
    have := run_make (P := Try.prog) w 36 5 i _ Try.underlying36 hi hz' .i64 .i64 ((n : Int) + 120) ((n : Int) + 120) (by omega) (by omega) (by rw [hby]; omega) (by omega)
    rw [this, hsize, made_same (v := .int .u8 0) _ (fun j hj => by simp [Value.cells] at hj; subst hj; rfl) (by simp [Value.cells]), ← hZ]
    unfold half
    rw [List.take_zero, List.nil_append, List.map_replicate, Nat.sub_zero, hll]
    have e : ((n : Int) + 120).toNat = n + 120 := by omega
    rw [e, Nat.mul_one]
    rfl
  have HL0 : Hid (Lay w (lentL zs) 0 (w.alloc (.cells Z 5))) := ⟨by rw [← hZ]; exact heap_alloc_new w _, (Below.refl _ w).alloc (Nat.le_refl _) _⟩
  have HN := Lib.hid hn
  have HS := Lib.hid hs
  have HLL := Lib.hid hll
  clear hZ hs hn hll
  go_enter Try.func14, Try.ntmps14
  go_wp2_with fail
  go_loopw [4] (fun v4 wr => ∃ i : Nat, i ≤ n ∧ v4 = .int .i64 i ∧ Hid (Lay w (lentL zs) i wr)) (fun v4 _ => n - (intOf v4).toNat)
  case atStart => exact ⟨0, Nat.zero_le _, rfl, HL0⟩
  case round =>
    clear HL0 hmk
    obtain ⟨i, hi, rfl, HL⟩ := hrel
    by_cases hlt : i < n
    · obtain ⟨z, hz⟩ : ∃ z, zs[i]? = some z := ⟨_, List.getElem?_eq_getElem (by rw [HN.out]; exact hlt)⟩
      obtain ⟨g, o, rfl, hcell⟩ := HS.out (by rw [HN.out]; omega)
      have k0 := hcell i z hz
      have y0 := (HL.out.2.cell (World.block_lt_of_cell? w _ k0)).trans k0
      obtain ⟨q0, f0⟩ := HL.out.cell (by rw [HLL.out]; omega)
      have HL1 := Lib.hid (HL.out.store (lentL_lo hz))
      clear hcell hz k0
      go_wp2_with fail
      exact ⟨⟨i + 1, by omega, by simp, HL1⟩, by simp [intOf]; omega⟩
    · have : i = n := by omega
      subst this
      clear hlt hi
      go_wp2_with fail
      go_loopw [5] (fun v5 wr => ∃ j : Nat, i ≤ j ∧ j ≤ i + 120 ∧ v5 = .int .i64 j ∧ Hid (Lay w (lentL zs) j wr)) (fun v5 _ => i + 120 - (intOf v5).toNat)
      case atStart => exact ⟨i, Nat.le_refl _, by omega, rfl, HL⟩
      case round =>
        clear HL
        obtain ⟨j, hij, hj, rfl, HL⟩ := hrel
        by_cases hlt : j < i + 120
        · obtain ⟨q0, f0⟩ := HL.out.cell (by rw [HLL.out]; omega)
          have hhi := lentL_hi (zs := zs) (i := j) (by rw [HN.out]; exact hij) (by rw [HN.out]; exact hlt)
          rw [HN.out, ← Int.add_sub_assoc] at hhi
          obtain ⟨b, hb⟩ : ∃ b, IntKind.u8.wrap (129 + (j : Int) - (i : Int)) = b := ⟨_, rfl⟩
          rw [hb] at hhi
          have HL1 := Lib.hid (HL.out.store hhi)
          have HBB := Lib.hid hb
          clear hhi hb
          go_wp2_with fail
          have hbv : b = 129 + (j : Int) - (i : Int) := by rw [← HBB.out]; exact IntWalk.u8_in _ (by omega)
          rw [hbv] at HL1
          exact ⟨⟨j + 1, by omega, by omega, by simp, HL1⟩, by simp [intOf]; omega⟩
        · have : j = i + 120 := by omega
          subst this
          have HE : Hid (half (lentL zs) (i + 120) = lentL zs) := by
            show _ = _
            unfold half
            rw [List.take_of_length_le (by rw [HLL.out]; exact Nat.le_refl _), HLL.out]
            simp
          go_wp2_with fail
          go_ret
          exact ⟨rfl, by have := HL.out.1; rwa [HE.out] at this, HL.out.2⟩
end Go.Proofs.Ytbhpikagjcojbaa.Ar

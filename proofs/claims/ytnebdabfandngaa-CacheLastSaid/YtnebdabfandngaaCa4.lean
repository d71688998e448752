/- The cache: a new epoch; what is told; a new cache; what stands at the beginning. -/
import Derived.Test.YtnebdabfandngaaCa3
namespace Go.Proofs.Ytnebdabfandngaa.C
open Go.RowKit Go.Proofs.Ytnebdabfandngaa.Mem
def zl (n : Nat) : List Value := (List.replicate n (plL pl0)).flatten
theorem zl_len (n : Nat) : (zl n).length = n * 7 := by
  induction n with
  | zero => rfl
  | succ n ih => rw [zl, List.replicate_succ, List.flatten_cons, List.length_append]; show 7 + (zl n).length = _; omega
theorem zl_at : ∀ {n q j : Nat}, q < n → j < 7 → (zl n)[q * 7 + j]? = (plL pl0)[j]?
  | n + 1, 0, j, _, hj => by
    rw [zl, List.replicate_succ, List.flatten_cons, List.getElem?_append_left (by show _ < 7; omega)]
    simp
  | n + 1, q + 1, j, h, hj => by
    have ih := zl_at (n := n) (q := q) (j := j) (by omega) hj
    rw [zl, List.replicate_succ, List.flatten_cons, List.getElem?_append_right (by show 7 ≤ _; omega), ← ih]
    show (zl n)[(q + 1) * 7 + j - 7]? = _
    congr 1
    omega
theorem zl_one (n : Nat) : ∀ v ∈ zl n, v.oneCell' = true := by
  intro v hv
  unfold zl at hv
  obtain ⟨l, hl, hv⟩ := List.mem_flatten.1 hv
  have := (List.mem_replicate.1 hl).2
  subst this
  simp only [plL, List.mem_cons, List.not_mem_nil, or_false] at hv
  rcases hv with rfl | rfl | rfl | rfl | rfl | rfl | rfl <;> rfl
theorem zero60 (w : World) : (zeroValue 60).run Try.prog w = .ok (.agg (zl 64).toArray) w := by kernel_rfl
def newL (sets ways knob : Int) : List Value := .int .i64 sets :: .int .i64 ways :: .int .i64 knob :: (zl 64 ++ [.int .i64 0, .int .i64 0, .int .i64 0, .int .i64 0])
theorem zero62 (w : World) : (zeroValue 62).run Try.prog w = .ok (.agg (newL 0 0 0).toArray) w := by kernel_rfl
theorem CAt.cleared {w : World} {p sets ways : Nat} {knob epoch puts hits misses : Int} {pl : Nat → Pl} (h : CAt w p sets ways knob pl epoch puts hits misses) : CAt (w.setCells p 3 (zl 64)) p sets ways knob (fun _ => pl0) epoch puts hits misses := by
  have hl := zl_len 64
  have hk : Kept (fun k => k = p) w (w.setCells p 3 (zl 64)) := Kept.setCells _ _ (Kept.refl _ w) rfl
  have out : ∀ j, j < 3 ∨ 451 ≤ j → (w.setCells p 3 (zl 64)).cell? ⟨p, j, none⟩ = w.cell? ⟨p, j, none⟩ := fun j hj => World.cell?_setCells_out p (zl 64) 3 w ⟨p, j, none⟩ (fun _ _ => by rw [hl]; exact hj)
  refine ⟨Nat.lt_of_lt_of_le h.lt hk.size, fun j hj => by rw [World.frozen?_setCells]; exact h.free j hj, (out 0 (by omega)).trans h.c0, (out 1 (by omega)).trans h.c1, (out 2 (by omega)).trans h.c2, fun r hr j v hv => ?_, (out 451 (by omega)).trans h.ce, (out 452 (by omega)).trans h.cn, (out 453 (by omega)).trans h.ch, (out 454 (by omega)).trans h.cm⟩
  have hj : j < 7 := (List.getElem?_eq_some_iff.1 hv).1
  have hth : ∀ k, k < (zl 64).length → (w.cell? ⟨p, 3 + k, none⟩).isSome = true := fun k hk => by
    rw [hl] at hk
    have := h.cp (k / 7) (by omega) (k % 7) _ (List.getElem?_eq_getElem (show k % 7 < 7 by omega))
    rw [show 3 + k / 7 * 7 + k % 7 = 3 + k by omega] at this
    rw [this]
    rfl
  have hlt : r * 7 + j < (zl 64).length := by rw [hl]; omega
  rw [Nat.add_assoc, World.cell?_setCells_in p (zl 64) 3 w hth (r * 7 + j) hlt, ← hv, ← zl_at hr hj]
  exact (List.getElem?_eq_getElem hlt).symm
theorem newL_at {sets ways : Nat} {knob : Int} {w : World} : CAt (w.alloc (.cells (newL sets ways knob).toArray 62)) w.heap.size sets ways knob (fun _ => pl0) 0 0 0 0 := by
  have hrow := heap_alloc_new w (.cells (newL sets ways knob).toArray 62)
  have hl := zl_len 64
  have hc : ∀ j v, (newL sets ways knob)[j]? = some v → (w.alloc (.cells (newL sets ways knob).toArray 62)).cell? ⟨w.heap.size, j, none⟩ = some v := fun j v hv => cell_row hrow (by rw [List.getElem?_toArray]; exact hv)
  have last : ∀ k v, ([Value.int .i64 0, .int .i64 0, .int .i64 0, .int .i64 0] : List Value)[k]? = some v → (newL sets ways knob)[451 + k]? = some v := fun k v hv => by
    unfold newL
    rw [show 451 + k = (448 + k) + 1 + 1 + 1 by omega, List.getElem?_cons_succ, List.getElem?_cons_succ, List.getElem?_cons_succ, List.getElem?_append_right (by rw [hl]; omega), hl, show 448 + k - 64 * 7 = k by omega]
    exact hv
  refine ⟨by simp, fun j _ => free_row hrow, hc 0 _ rfl, hc 1 _ rfl, hc 2 _ rfl, fun q hq j v hv => hc _ _ ?_, hc 451 _ (last 0 _ rfl), hc 452 _ (last 1 _ rfl), hc 453 _ (last 2 _ rfl), hc 454 _ (last 3 _ rfl)⟩
  have hj : j < 7 := (List.getElem?_eq_some_iff.1 hv).1
  unfold newL
  rw [show 3 + q * 7 + j = (q * 7 + j) + 1 + 1 + 1 by omega, List.getElem?_cons_succ, List.getElem?_cons_succ, List.getElem?_cons_succ, List.getElem?_append_left (by rw [hl]; omega), zl_at hq hj]
  exact hv
set_option maxHeartbeats 4000000 in
theorem turn_next (w : World) (p sets ways : Nat) (knob epoch puts hits misses : Int) (pl : Nat → Pl) (h : CAt w p sets ways knob pl epoch puts hits misses) (h0 : 0 ≤ epoch) (h1 : epoch < 255) :
    Calls Try.prog 14 #[.pointer (some ⟨p, 0, none⟩)] w fun e w' => e = .returned (.tuple #[]) ∧ CAt w' p sets ways knob pl (epoch + 1) puts hits misses ∧ Kept (fun k => k = p) w w' := by
  have ce := h.ce
  have fe := h.free 451 (by decide)
  have F := Lib.hid h
  clear h
  go_enter Try.func14, Try.ntmps14
  go_wp2_with fail
  go_end0
  exact ⟨rfl, F.out.turned _, (Kept.refl (fun k => k = p) w).setCell (p := ⟨p, 451, none⟩) (.inl rfl) _⟩
set_option maxHeartbeats 4000000 in
theorem turn_over (w : World) (p sets ways : Nat) (knob puts hits misses : Int) (pl : Nat → Pl) (h : CAt w p sets ways knob pl 255 puts hits misses) :
    Calls Try.prog 14 #[.pointer (some ⟨p, 0, none⟩)] w fun e w' => e = .returned (.tuple #[]) ∧ CAt w' p sets ways knob (fun _ => pl0) 0 puts hits misses ∧ Kept (fun k => k = p) w w' := by
  have ce := h.ce
  have fe := h.free 451 (by decide)
  have F := Lib.hid h
  have hbd := zero60
  obtain ⟨Z, hZ⟩ : ∃ Z, zl 64 = Z := ⟨_, rfl⟩
  rw [hZ] at hbd
  have HZ := Lib.hid hZ
  clear h hZ
  go_enter Try.func14, Try.ntmps14
  have HT : Hid (((w.setCell ⟨p, 451, none⟩ (.int .i64 256)).setCell ⟨p, 451, none⟩ (.int .i64 0)).there p 3 Z.toArray.size) := fun j hj => by
    have hj2 : j < 448 := by rw [List.size_toArray, ← HZ.out, zl_len] at hj; exact hj
    have F2 := (F.out.turned 256).turned 0
    have h7 : j % 7 < (plL (pl (j / 7))).length := by show j % 7 < 7; omega
    have := F2.cp (j / 7) (by omega) (j % 7) _ (List.getElem?_eq_getElem h7)
    rw [show 3 + j / 7 * 7 + j % 7 = 3 + j by omega] at this
    rw [this]
    exact ⟨rfl, F2.free _ (by omega)⟩
  have i60 : (Try.prog.info? 60).map (·.size) = some Z.toArray.size := by rw [List.size_toArray, ← HZ.out, zl_len]; exact info60
  have one : Z.toArray.all (·.oneCell') = true := by rw [← HZ.out]; exact all_oneCell_toArray (zl_one 64)
  go_wp2_with (first | (with_reducible refine wpList_store_mid rfl 60 (.tmp 20) (.tmp 16) rfl p 3 Z.toArray rfl rfl HT.out i60 one ?_) | fail)
  go_end0
  rw [← HZ.out]
  exact ⟨rfl, ((F.out.turned 256).turned 0).cleared, Kept.setCells _ _ (((Kept.refl (fun k => k = p) w).setCell (p := ⟨p, 451, none⟩) (.inl rfl) _).setCell (p := ⟨p, 451, none⟩) (.inl rfl) _) rfl⟩
set_option maxHeartbeats 4000000 in
theorem put_zero (w : World) (p ways : Nat) (knob epoch puts hits misses : Int) (pl : Nat → Pl) (h : CAt w p 0 ways knob pl epoch puts hits misses) (c : Cap) (r : Int) :
    Calls Try.prog 12 #[.pointer (some ⟨p, 0, none⟩), capV c, .int .i64 r] w fun e w' => e = .returned (.tuple #[]) ∧ CAt w' p 0 ways knob pl epoch puts hits misses ∧ Kept (fun k => k = p) w w' := by
  have hb := (Below.refl w.heap.size w).alloc (Nat.le_refl _) (.cells #[.int .i64 c.obj, .int .u64 c.hi, .int .u64 c.lo] 36)
  have F0 := Lib.hid (h.below hb)
  have HB0 := Lib.hid hb
  have c0 : (w.alloc (.cells #[.int .i64 c.obj, .int .u64 c.hi, .int .u64 c.lo] 36)).cell? ⟨p, 0, none⟩ = some (.int .i64 0) := F0.out.c0
  clear h hb
  go_enter Try.func12, Try.ntmps12
  go_wp2_with fail
  exact bodyPost_ret (v := .tuple #[]) (by simp [results, go_sem]) rfl ⟨rfl, F0.out, Kept.of_below (S := fun k => k = p) HB0.out⟩
theorem epoch_any (w : World) (p sets ways : Nat) (knob epoch puts hits misses : Int) (pl : Nat → Pl) (h : CAt w p sets ways knob pl epoch puts hits misses) :
    Calls Try.prog 17 #[.pointer (some ⟨p, 0, none⟩)] w fun e w' => e = .returned (.int .i64 epoch) ∧ w = w' := by
  have ce := h.ce
  clear h
  go_enter Try.func17, Try.ntmps17
  go_wp2_with fail
  go_ret
  exact ⟨rfl, rfl⟩
theorem hits_any (w : World) (p sets ways : Nat) (knob epoch puts hits misses : Int) (pl : Nat → Pl) (h : CAt w p sets ways knob pl epoch puts hits misses) :
    Calls Try.prog 16 #[.pointer (some ⟨p, 0, none⟩)] w fun e w' => e = .returned (.tuple #[.int .i64 hits, .int .i64 misses]) ∧ ∃ n, w' = w.drewN n := by
  have ch := h.ch
  have cm := h.cm
  clear h
  go_enter Try.func16, Try.ntmps16
  go_wp2_with fail
  go_quiet (fail)
  go_wp2
  go_ret2
  exact ⟨rfl, _, rfl⟩
theorem num_any (w : World) (e : Int) : Calls Try.prog 8 #[.int .i64 e] w fun x w' => x = .returned (.int .i64 e) ∧ w = w' := by
  go_enter Try.func8, Try.ntmps8
  go_wp2
  go_ret
  exact ⟨rfl, rfl⟩
set_option maxHeartbeats 4000000 in
theorem new_any (w : World) (sets ways : Nat) (knob : Int) (h1 : sets ≤ 16) (h2 : 1 ≤ ways) (h3 : ways ≤ 4) (h4 : 0 ≤ knob) (h5 : knob ≤ 64) :
    Calls Try.prog 6 #[.int .i64 sets, .int .i64 ways, .int .i64 knob] w fun e w' => ∃ p, e = .returned (.tuple #[.pointer (some ⟨p, 0, none⟩), .int .i64 0]) ∧ CAt w' p sets ways knob (fun _ => pl0) 0 0 0 0 ∧ Below w.heap.size w w' ∧ w.heap.size ≤ p := by
  have hz := zero62
  obtain ⟨Z, hZ⟩ : ∃ Z, zl 64 ++ [Value.int .i64 0, .int .i64 0, .int .i64 0, .int .i64 0] = Z := ⟨_, rfl⟩
  unfold newL at hz
  rw [hZ] at hz
  have HZ := Lib.hid hZ
  clear hZ
  have d1 : decide ((sets : Int) < 0) = false := decide_eq_false (by omega)
  have d2 : decide (16 < (sets : Int)) = false := decide_eq_false (by omega)
  have d3 : decide ((ways : Int) < 1) = false := decide_eq_false (by omega)
  have d4 : decide (4 < (ways : Int)) = false := decide_eq_false (by omega)
  have d5 : decide (knob < 0) = false := decide_eq_false (by omega)
  have d6 : decide (64 < knob) = false := decide_eq_false (by omega)
  go_enter Try.func6, Try.ntmps6
  go_wp2_with fail
  go_ret2
  rw [show (Value.int .i64 sets :: Value.int .i64 ways :: Value.int .i64 knob :: Z) = newL sets ways knob by rw [← HZ.out]; rfl]
  exact ⟨_, rfl, newL_at, (Below.refl _ w).alloc (Nat.le_refl _) _, Nat.le_refl _⟩
set_option maxHeartbeats 4000000 in
set_option maxRecDepth 100000 in
theorem new_no (w : World) (sets ways knob : Int) (h : sets < 0 ∨ 16 < sets ∨ ways < 1 ∨ 4 < ways ∨ knob < 0 ∨ 64 < knob) :
    Calls Try.prog 6 #[.int .i64 sets, .int .i64 ways, .int .i64 knob] w fun e w' => e = .returned (.tuple #[.pointer none, .int .i64 16]) ∧ w = w' := by
  have H := Lib.hid h
  clear h
  go_enter Try.func6, Try.ntmps6
  go_wp2
  all_goals first | (go_ret2; exact ⟨rfl, rfl⟩) | (exfalso; have := H.out; omega)
end Go.Proofs.Ytnebdabfandngaa.C

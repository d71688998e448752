/- Record: the document's word at a place (written by gen_rdc.py). -/
import Derived.Test.YtfpkdbogapmhmaaRdB
import Derived.Test.YtfpkdbogapmhmaaRcJ
import Derived.Test.YtfpkdbogapmhmaaRcT
namespace Go.Proofs.Ytfpkdbogapmhmaa.O
open Go.RowKit Go.Proofs.Ytfpkdbogapmhmaa.Mem
set_option linter.unusedVariables false
set_option linter.unusedSimpArgs false
theorem gv_byte {zs : List Int} (hB : Bytes zs) : ∀ (n i a : Nat), i < n → gv zs a n / 256 ^ i % 256 = zs.getD (a + i) 0
  | 0, _, _, h => absurd h (Nat.not_lt_zero _)
  | n + 1, 0, a, _ => by
    have h1 := getD_byte hB a
    unfold gv
    rw [Int.pow_zero, Int.ediv_one]
    show _ = zs.getD a 0
    omega
  | n + 1, i + 1, a, h => by
    have h1 := getD_byte hB a
    unfold gv
    rw [Int.pow_succ, Int.mul_comm (256 ^ i) 256, ← Int.ediv_ediv_of_nonneg (by decide)]
    have e : (zs.getD a 0 + 256 * gv zs (a + 1) n) / 256 = gv zs (a + 1) n := by omega
    rw [e, gv_byte hB n i (a + 1) (by omega)]
    congr 1
    omega
theorem low_bit (Y : Int) (r : Nat) (hr : r < 8) : Y / 2 ^ r % 2 = Y % 256 / 2 ^ r % 2 := by
  have : r = 0 ∨ r = 1 ∨ r = 2 ∨ r = 3 ∨ r = 4 ∨ r = 5 ∨ r = 6 ∨ r = 7 := by omega
  rcases this with h | h | h | h | h | h | h | h <;> subst h <;> omega
theorem gv_bit {zs : List Int} (hB : Bytes zs) (a n q r : Nat) (hq : q < n) (hr : r < 8) : gv zs a n / 2 ^ (8 * q + r) % 2 = zs.getD (a + q) 0 / 2 ^ r % 2 := by
  rw [Int.pow_add, ← Int.ediv_ediv_of_nonneg (by exact Int.le_of_lt (Int.pow_pos (by decide))), pow_byte, low_bit _ r hr, gv_byte hB n q a hq]
theorem gv_cut (zs : List Int) : ∀ (i n a : Nat), gv zs a (i + n) = gv zs a i + 256 ^ i * gv zs (a + i) n
  | 0, n, a => by rw [Nat.zero_add, Nat.add_zero, Int.pow_zero, Int.one_mul]; show _ = 0 + _; omega
  | i + 1, n, a => by
    rw [show i + 1 + n = (i + n) + 1 by omega]
    show zs.getD a 0 + 256 * gv zs (a + 1) (i + n) = zs.getD a 0 + 256 * gv zs (a + 1) i + _
    rw [gv_cut zs i n (a + 1), Int.pow_succ, show a + 1 + i = a + (i + 1) by omega, Int.mul_comm (256 ^ i) 256, Int.mul_assoc, Int.mul_add, Int.add_assoc]
theorem mod_step (X : Int) (k : Nat) : X % 2 ^ (k + 1) = X % 2 ^ k + X / 2 ^ k % 2 * 2 ^ k := by
  have h1 := Int.emod_add_mul_ediv X (2 ^ (k + 1))
  have h2 := Int.emod_add_mul_ediv X (2 ^ k)
  have h3 := Int.emod_add_mul_ediv (X / 2 ^ k) 2
  have e : X / 2 ^ (k + 1) = X / 2 ^ k / 2 := by rw [Int.pow_succ, ← Int.ediv_ediv_of_nonneg (by exact Int.le_of_lt (Int.pow_pos (by decide)))]
  rw [e, Int.pow_succ] at h1
  obtain ⟨P, hP⟩ : ∃ P : Int, 2 ^ k = P := ⟨_, rfl⟩
  rw [Int.pow_succ]
  rw [hP] at h1 h2 h3 ⊢
  obtain ⟨Y, hY⟩ : ∃ Y, X / P = Y := ⟨_, rfl⟩
  rw [hY] at h1 h2 h3 ⊢
  have e1 : P * 2 * (Y / 2) = P * (2 * (Y / 2)) := by rw [Int.mul_assoc]
  have e2 : P * Y = P * (Y % 2) + P * (2 * (Y / 2)) := by rw [← Int.mul_add, h3]
  have e3 : Y % 2 * P = P * (Y % 2) := Int.mul_comm _ _
  omega
/-- The two halves after k bits. -/
def loK (X : Int) (k : Nat) : Int := X % 2 ^ (min k 64)
def hiK (X : Int) (k : Nat) : Int := X / 2 ^ 64 % 2 ^ (k - 64)
theorem lo_step (X : Int) (k : Nat) : loK X (k + 1) = if k < 64 then loK X k + X / 2 ^ k % 2 * 2 ^ k else loK X k := by
  unfold loK
  split
  · rw [show min (k + 1) 64 = k + 1 by omega, show min k 64 = k by omega, mod_step]
  · rw [show min (k + 1) 64 = 64 by omega, show min k 64 = 64 by omega]
theorem hi_step (X : Int) (k : Nat) : hiK X (k + 1) = if k < 64 then hiK X k else hiK X k + X / 2 ^ k % 2 * 2 ^ (k - 64) := by
  unfold hiK
  split
  · rw [show k + 1 - 64 = 0 by omega, show k - 64 = 0 by omega]
  · rw [show k + 1 - 64 = (k - 64) + 1 by omega, mod_step, Int.ediv_ediv_of_nonneg (by exact Int.le_of_lt (Int.pow_pos (by decide))), ← Int.pow_add, show 64 + (k - 64) = k by omega]
theorem lo_lt (X : Int) (k : Nat) : 0 ≤ loK X k ∧ (k < 64 → loK X k < 2 ^ k) := by
  have hp : ∀ k : Nat, (0 : Int) < 2 ^ k := fun k => Int.pow_pos (by decide)
  unfold loK
  refine ⟨Int.emod_nonneg _ (Int.ne_of_gt (hp _)), fun h => ?_⟩
  rw [show min k 64 = k by omega]
  exact Int.emod_lt_of_pos _ (hp _)
theorem hi_lt (X : Int) (k : Nat) : 0 ≤ hiK X k ∧ (¬ k < 64 → hiK X k < 2 ^ (k - 64)) := by
  have hp : ∀ k : Nat, (0 : Int) < 2 ^ k := fun k => Int.pow_pos (by decide)
  unfold hiK
  exact ⟨Int.emod_nonneg _ (Int.ne_of_gt (hp _)), fun h => Int.emod_lt_of_pos _ (hp _)⟩
theorem lo_end {zs : List Int} (hB : Bytes zs) (a : Nat) : loK (gv zs a 16) 128 = gv zs a 8 := by
  have h := gv_cut zs 8 8 a
  have h8 := gv_lo hB 8 a
  unfold loK
  rw [show (16 : Nat) = 8 + 8 from rfl, h, show min 128 64 = 64 from rfl, show (2 : Int) ^ 64 = 256 ^ 8 by decide, Int.add_mul_emod_self_left, Int.emod_eq_of_lt h8.1 h8.2]
theorem hi_end {zs : List Int} (hB : Bytes zs) (a : Nat) : hiK (gv zs a 16) 128 = gv zs (a + 8) 8 := by
  have h := gv_cut zs 8 8 a
  have h8 := gv_lo hB 8 a
  have h9 := gv_lo hB 8 (a + 8)
  unfold hiK
  rw [show (16 : Nat) = 8 + 8 from rfl, h, show 128 - 64 = 64 from rfl, show (2 : Int) ^ 64 = 256 ^ 8 by decide, Int.add_mul_ediv_left _ _ (by decide), Int.ediv_eq_zero_of_lt h8.1 h8.2, Int.zero_add, Int.emod_eq_of_lt h9.1 h9.2]
theorem hi_0 (X : Int) : hiK X 0 = 0 ∧ loK X 0 = 0 := by unfold hiK loK; simp
set_option maxHeartbeats 4000000 in
set_option maxRecDepth 100000 in
theorem dword_any (w : World) (v : Value) (zs : List Int) (a : Nat) (h : RB w v zs) (hB : Bytes zs) (ha : a ≤ 100000) (A0 : Int) (hA0 : (a : Int) = A0) :
    Calls Try.prog 44 #[v, .int .i64 A0] w fun e w' => e = .returned (.agg #[.int .u64 (gv zs (a + 8) 8), .int .u64 (gv zs a 8)]) ∧ Below w.heap.size w w' := by
  suffices ∀ R : Ending → World → Prop, (∀ w', Below w.heap.size w w' → R (.returned (.agg #[.int .u64 (gv zs (a + 8) 8), .int .u64 (gv zs a 8)])) w') → Calls Try.prog 44 #[v, .int .i64 A0] w R from this _ (fun _ h => ⟨rfl, h⟩)
  intro R HR
  replace HR := Lib.hid HR
  subst hA0
  obtain ⟨A, c, rfl, h1, h2, h3⟩ := h
  obtain ⟨m, hm⟩ : ∃ m, zs.length = m := ⟨_, rfl⟩
  rw [hm] at h1 h3 ⊢
  unfold maxLen at h2
  have HV : Hid (RB w (.slice A m c) zs) := Lib.hid ⟨A, c, by rw [hm], by rw [hm]; exact h1, h2, by rw [hm]; exact h3⟩
  have HM := Lib.hid hm
  have HD := Lib.hid (getD_byte hB)
  obtain ⟨X, hX⟩ : ∃ X, gv zs a 16 = X := ⟨_, rfl⟩
  have HX : Hid (∀ q r : Nat, q < 16 → r < 8 → X / 2 ^ (8 * q + r) % 2 = zs.getD (a + q) 0 / 2 ^ r % 2) := Lib.hid (fun q r hq hr => by rw [← hX]; exact gv_bit hB a 16 q r hq hr)
  have HLE := Lib.hid (show loK X 128 = gv zs a 8 ∧ hiK X 128 = gv zs (a + 8) 8 by rw [← hX]; exact ⟨lo_end hB a, hi_end hB a⟩)
  obtain ⟨B, hBe⟩ : ∃ B, w.heap.size = B := ⟨_, rfl⟩
  have HBE := Lib.hid hBe
  have HBX := Lib.hid (show Below w.heap.size w ((w.alloc (.cells #[.int .u64 0, .int .u64 0] 24)).alloc (.cells #[.int .u64 0, .int .u64 0] 24)) from ((Below.refl _ w).alloc (Nat.le_refl _) _).alloc (by simp) _)
  have HR0 : Hid (((w.alloc (.cells #[.int .u64 0, .int .u64 0] 24)).alloc (.cells #[.int .u64 0, .int .u64 0] 24)).heap[B]? = some (.cells #[.int .u64 0, .int .u64 0] 24)) := Lib.hid (row_on ((Below.refl _ _).alloc (Nat.le_refl _) _) (row_new hBe.symm))
  have HR1 : Hid (((w.alloc (.cells #[.int .u64 0, .int .u64 0] 24)).alloc (.cells #[.int .u64 0, .int .u64 0] 24)).heap[B + 1]? = some (.cells #[.int .u64 0, .int .u64 0] 24)) := Lib.hid (row_new (by simp [hBe]))
  have HSZ : Hid (((w.alloc (.cells #[.int .u64 0, .int .u64 0] 24)).alloc (.cells #[.int .u64 0, .int .u64 0] 24)).heap.size = B + 2) := Lib.hid (by simp [hBe])
  clear h3 hm hB hX hBe
  go_enter Try.func44, Try.ntmps44
  go_wp2_with fail
  generalize (w.alloc (.cells #[.int .u64 0, .int .u64 0] 24)).alloc (.cells #[.int .u64 0, .int .u64 0] 24) = W0 at *
  have hBe := HBE.out
  subst hBe
  go_loopw [6] (fun v6 we => ∃ k : Nat, k ≤ 128 ∧ v6 = .int .i64 (k : Int) ∧ Hid (we.heap[w.heap.size]? = some (.cells #[.int .u64 0, .int .u64 0] 24)) ∧ Hid (we.heap[w.heap.size + 1]? = some (.cells #[.int .u64 (hiK X k), .int .u64 (loK X k)] 24)) ∧ Hid (Below w.heap.size w we) ∧ Hid (w.heap.size + 2 ≤ we.heap.size)) (fun v6 _ => 128 - (intOf v6).toNat)
  case atStart => exact ⟨0, by omega, rfl, HR0, by rw [(hi_0 X).1, (hi_0 X).2]; exact HR1, HBX, Lib.hid (by rw [HSZ.out]; exact Nat.le_refl _)⟩
  case round =>
    obtain ⟨k, hk, rfl, HA0, HA1, HW, HS⟩ := hrel
    by_cases hlt : k < 128
    · have hlt' : (k : Int) < 128 := by omega
      obtain ⟨q, r, hqr, hr⟩ : ∃ q r : Nat, k = 8 * q + r ∧ r < 8 := ⟨k / 8, k % 8, by omega, by omega⟩
      have hq : q < 16 := by omega
      have hbit := HX.out q r hq hr
      rw [← hqr] at hbit
      have hz := HD.out (a + q)
      have ls := lo_step X k
      have hs := hi_step X k
      have ll := lo_lt X k
      have hl := hi_lt X k
      rw [hbit] at ls hs
      obtain ⟨z, hze⟩ : ∃ z, zs.getD (a + q) 0 = z := ⟨_, rfl⟩
      have HZ := Lib.hid hze
      rw [hze] at hz ls hs
      obtain ⟨L, hL⟩ : ∃ L, loK X k = L := ⟨_, rfl⟩
      obtain ⟨H, hH⟩ : ∃ H, hiK X k = H := ⟨_, rfl⟩
      rw [hL] at ls ll HA1
      rw [hH] at hs hl HA1
      have LS := Lib.hid ls
      have HSS := Lib.hid hs
      have hdv : (k : Int).tdiv 8 = (q : Int) := by rw [Int.tdiv_eq_ediv_of_nonneg (by omega)]; omega
      have hmd : (k : Int).tmod 8 = (r : Int) := by rw [Int.tmod_eq_emod_of_nonneg (by omega)]; omega
      have hdv2 : (k : Int) / 8 = (q : Int) := by omega
      have hmd2 : (k : Int) % 8 = (r : Int) := by omega
      have hdv3 : k / 8 = q := by omega
      have hmd3 : k % 8 = r := by omega
      have HQR := Lib.hid hqr
      have hq0 : (0 : Int) ≤ (a : Int) + (q : Int) := by omega
      have hw1 : IntKind.i64.wrap ((a : Int) + (q : Int)) = (a : Int) + (q : Int) := by rw [IntKind.wrap_i64]; omega
      have hw2 : IntKind.i64.wrap (q : Int) = (q : Int) := by rw [IntKind.wrap_i64]; omega
      have hw3 : IntKind.i64.wrap (r : Int) = (r : Int) := by rw [IntKind.wrap_i64]; omega
      have hw4 : IntKind.u64.wrap (r : Int) = (r : Int) := by rw [IntKind.wrap_u64]; omega
      have hw5 : IntKind.i64.wrap ((k : Int) + 1) = (k : Int) + 1 := by rw [IntKind.wrap_i64]; omega
      have HST := Lib.hid (set_any wr H L k hlt ll.1 hl.1 ll.2 hl.2 k rfl)
      have q3 : 0 ≤ z / 2 ^ r := Int.ediv_nonneg hz.1 (Int.le_of_lt (Int.pow_pos (by decide)))
      have hw6 : (z / 2 ^ r).tmod 2 = z / 2 ^ r % 2 := Int.tmod_eq_emod_of_nonneg q3
      have q1 := Int.emod_nonneg (z / 2 ^ r) (b := 2) (by decide)
      have q2 := Int.emod_lt_of_pos (z / 2 ^ r) (b := 2) (by decide)
      have hw7 : IntKind.u8.wrap (z / 2 ^ r % 2) = z / 2 ^ r % 2 := by rw [IntKind.wrap_u8]; omega
      clear hs ls hze hL hH ll hl q3 hbit hqr
      by_cases hin : a + q < m
      · have hin' : (a : Int) + (q : Int) < (m : Int) := by omega
        have hHV := HV.out.below HW.out
        obtain ⟨A', c', hA', h1', h2', h3'⟩ := hHV
        rw [HM.out] at hA' h3'
        obtain ⟨rfl, rfl⟩ : A' = A ∧ c' = c := by cases hA'; exact ⟨rfl, rfl⟩
        obtain ⟨g0, o0, rfl, hc⟩ := h3' (by omega)
        have hy := hc (a + q) z (by rw [← HZ.out, List.getD_eq_getElem?_getD, List.getElem?_eq_getElem (by rw [HM.out]; exact hin)]; rfl)
        have hnt : ((a : Int) + (q : Int)).toNat = a + q := by omega
        clear hc hA' h1' h2' h3'
        by_cases hb : z / 2 ^ r % 2 = 1
        · rw [hb] at hw6 hw7
          have LS' := LS.out
          have HS' := HSS.out
          rw [hb, Int.one_mul] at LS' HS'
          have LS2 := Lib.hid LS'
          have HS2 := Lib.hid HS'
          clear LS' HS' q1 q2 hb LS HSS
          go_wp2_with (first | (refine wpList_load_row rfl 24 (.tmp 5) rfl (w.heap.size + 1) 24 #[.int .u64 H, .int .u64 L] (0, 0) _ rfl HA1.out Try.underlying24 rfl info25 ?_) | (go_at_call 66; (with_reducible refine HST.out.mono ?_); rintro e w6 ⟨rfl, hb6⟩; have HB6 := Lib.hid hb6; clear hb6) | (refine wpList_store_row rfl 24 (.tmp 5) (.tmp 35) rfl (w.heap.size + 1) 24 #[.int .u64 H, .int .u64 L] #[.int .u64 (if k < 64 then H else H + 2 ^ (k - 64)), .int .u64 (if k < 64 then L + 2 ^ k else L)] rfl rfl (row_on HB6.out HA1.out) info25 rfl (by simp [Value.oneCell']) ?_) | fail)
          exact ⟨⟨k + 1, by omega, by first | rfl | simp, Lib.hid ((setRow_other _ _ _ _ (by omega)).trans (row_on HB6.out HA0.out)), by rw [HS2.out, LS2.out]; exact Lib.hid (setRow_heap _ _ _ _ _ _ (row_on HB6.out HA1.out)), Lib.hid (HW.out.trans ((HB6.out.mono HW.out.size).trans (((Kept.refl (fun b => b = w.heap.size + 1) w6).setRow (.inl rfl) _).below (B := w.heap.size) (fun x hx => by have h3 : x = w.heap.size + 1 := hx; omega) (Nat.le_trans HW.out.size HB6.out.size)))), Lib.hid (by have h1 := HS.out; have h2 := HB6.out.size; have h3 := ((Kept.refl (fun b => b = w.heap.size + 1) w6).setRow (.inl rfl) #[.int .u64 (if k < 64 then H else H + 2 ^ (k - 64)), .int .u64 (if k < 64 then L + 2 ^ k else L)]).size; omega)⟩, by simp [intOf] <;> omega⟩
        · have hb0 : z / 2 ^ r % 2 = 0 := by omega
          rw [hb0] at hw6 hw7
          have LS' := LS.out
          have HS' := HSS.out
          rw [hb0, Int.zero_mul, Int.add_zero, ite_self] at LS' HS'
          have LS2 := Lib.hid LS'
          have HS2 := Lib.hid HS'
          clear LS' HS' q1 q2 hb hb0 LS HSS
          go_wp2
          exact ⟨⟨k + 1, by omega, by first | rfl | simp, HA0, by rw [HS2.out, LS2.out]; exact HA1, HW, HS⟩, by simp [intOf] <;> omega⟩
      · have hin' : ¬ ((a : Int) + (q : Int) < (m : Int)) := by omega
        obtain rfl : z = 0 := by rw [← HZ.out, List.getD_eq_getElem?_getD, List.getElem?_eq_none (by rw [HM.out]; omega)]; rfl
        have LS' := LS.out
        have HS' := HSS.out
        rw [Int.zero_ediv, Int.zero_emod, Int.zero_mul, Int.add_zero, ite_self] at LS' HS'
        have LS2 := Lib.hid LS'
        have HS2 := Lib.hid HS'
        clear LS' HS' q1 q2 hw6 hw7 LS HSS
        go_wp2
        exact ⟨⟨k + 1, by omega, by first | rfl | simp, HA0, by rw [HS2.out, LS2.out]; exact HA1, HW, HS⟩, by simp [intOf] <;> omega⟩
    · have hk' : k = 128 := by omega
      subst hk'
      rw [HLE.out.1, HLE.out.2] at HA1
      have HK := Lib.hid (setRow_heap wr w.heap.size _ #[.int .u64 (gv zs (a + 8) 8), .int .u64 (gv zs a 8)] 24 (0, 0) HA0.out)
      have HW9 := Lib.hid (HW.out.trans (((Kept.refl (fun b => b = w.heap.size) wr).setRow (.inl rfl) #[.int .u64 (gv zs (a + 8) 8), .int .u64 (gv zs a 8)]).below (B := w.heap.size) (fun x hx => by have h3 : x = w.heap.size := hx; omega) HW.out.size))
      obtain ⟨p, hp⟩ : ∃ p, gv zs (a + 8) 8 = p := ⟨_, rfl⟩
      obtain ⟨q, hq⟩ : ∃ q, gv zs a 8 = q := ⟨_, rfl⟩
      rw [hp, hq] at HA1 HK HW9 HR
      clear hp hq HLE
      go_wp2_with (first | (refine wpList_load_row rfl 24 (.tmp 5) rfl (w.heap.size + 1) 24 #[.int .u64 p, .int .u64 q] (0, 0) _ rfl HA1.out Try.underlying24 rfl info25 ?_) | (refine wpList_store_row rfl 24 (.tmp 4) (.tmp 36) rfl w.heap.size 24 #[.int .u64 0, .int .u64 0] #[.int .u64 p, .int .u64 q] rfl rfl HA0.out info25 rfl (by simp [Value.oneCell']) ?_) | fail)
      refine bodyPost_ret (results_cell_row rfl _ _ w.heap.size 24 _ (0, 0) _ rfl HK.out Try.underlying24 rfl info25) rfl ?_
      exact HR.out _ HW9.out
end Go.Proofs.Ytfpkdbogapmhmaa.O

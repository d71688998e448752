/- Record: the document's bits of a word (written by gen_rct.py). -/
import Derived.Test.YtfpkdbogapmhmaaRcS
namespace Go.Proofs.Ytfpkdbogapmhmaa.O
open Go.RowKit Go.Proofs.Ytfpkdbogapmhmaa.Mem
set_option linter.unusedVariables false
set_option linter.unusedSimpArgs false
/-! The plain law: a word as one number. -/
def wnum (hi lo : Int) : Int := lo + 18446744073709551616 * hi
theorem le_add (k : Nat) : ∀ (v u : Int), le k (v + 256 ^ k * u) = le k v := by
  induction k with
  | zero => intros; rfl
  | succ k ih =>
    intro v u
    rw [le_snoc, le_snoc]
    have e1 : v + 256 ^ (k + 1) * u = v + 256 ^ k * (256 * u) := by rw [Int.pow_succ, Int.mul_assoc]
    have hp : (0 : Int) < 256 ^ k := Int.pow_pos (by decide)
    rw [e1, ih, Int.add_mul_ediv_left _ _ (by omega)]
    congr 2
    omega
theorem le_append (a b : Nat) (v : Int) : le (a + b) v = le a v ++ le b (v / 256 ^ a) := by
  induction b with
  | zero => simp [le]
  | succ b ih =>
    rw [← Nat.add_assoc, le_snoc, le_snoc, ih, List.append_assoc]
    congr 3
    rw [Int.pow_add, Int.ediv_ediv_of_nonneg (by exact Int.le_of_lt (Int.pow_pos (by decide)))]
theorem word_le16 (hi lo : Int) (h : U64 lo) : wordB hi lo = le 16 (wnum hi lo) := by
  have e : le 16 (wnum hi lo) = le 8 (wnum hi lo) ++ le 8 (wnum hi lo / 256 ^ 8) := le_append 8 8 _
  rw [e]
  unfold wnum wordB
  have e8 : (18446744073709551616 : Int) = 256 ^ 8 := by decide
  rw [e8, le_add, Int.add_mul_ediv_left _ _ (by decide), Int.ediv_eq_zero_of_lt h.1 (by rw [← e8]; exact h.2), Int.zero_add]
def bitI (hi lo : Int) (j : Nat) : Int := if j < 64 then lo / 2 ^ j % 2 else hi / 2 ^ (j - 64) % 2
theorem bit_num (hi lo : Int) (h : U64 lo) (j : Nat) : bitI hi lo j = wnum hi lo / 2 ^ j % 2 := by
  unfold bitI wnum
  have hp : ∀ k : Nat, (0 : Int) < 2 ^ k := fun k => Int.pow_pos (by decide)
  split
  · rename_i hj
    obtain ⟨k, hk⟩ : ∃ k, 64 = j + (k + 1) := ⟨63 - j, by omega⟩
    have e : (18446744073709551616 : Int) = 2 ^ j * (2 ^ k * 2) := by
      rw [← Int.pow_succ, ← Int.pow_add, ← hk]; decide
    have hj0 := hp j
    rw [e, Int.mul_assoc, Int.add_mul_ediv_left _ _ (by omega)]
    have e2 : (2 : Int) ^ k * 2 * hi = 2 * (2 ^ k * hi) := by rw [Int.mul_comm (2 ^ k) 2, Int.mul_assoc]
    rw [e2]
    omega
  · rename_i hj
    have e : (2 : Int) ^ j = 18446744073709551616 * 2 ^ (j - 64) := by
      rw [show (18446744073709551616 : Int) = 2 ^ 64 by decide, ← Int.pow_add, show 64 + (j - 64) = j by omega]
    rw [e, ← Int.ediv_ediv_of_nonneg (by decide), Int.add_mul_ediv_left _ _ (by decide), Int.ediv_eq_zero_of_lt h.1 h.2, Int.zero_add]
theorem bit_lo (hi lo : Int) (j : Nat) : 0 ≤ bitI hi lo j ∧ bitI hi lo j < 2 := by unfold bitI; split <;> omega
/-- The bits above. -/
def topB (X : Int) (j : Nat) : Int := X / 2 ^ j % 2 ^ (8 - j)
theorem top_step (X : Int) (j : Nat) (hj : j < 8) : topB X j = 2 * topB X (j + 1) + X / 2 ^ j % 2 := by
  unfold topB
  obtain ⟨m, hm⟩ : ∃ m, 8 - j = m + 1 := ⟨7 - j, by omega⟩
  rw [hm, show 8 - (j + 1) = m by omega, Int.pow_succ 2 j, ← Int.ediv_ediv_of_nonneg (by exact Int.le_of_lt (Int.pow_pos (by decide)))]
  obtain ⟨Y, hY⟩ : ∃ Y, X / 2 ^ j = Y := ⟨_, rfl⟩
  rw [hY, Int.pow_succ]
  have hp : (0 : Int) < 2 ^ m := Int.pow_pos (by decide)
  have h1 := Int.emod_add_mul_ediv Y (2 ^ m * 2)
  have h2 := Int.emod_add_mul_ediv (Y / 2) (2 ^ m)
  have e3 : Y / (2 ^ m * 2) = Y / 2 / 2 ^ m := by rw [Int.mul_comm, Int.ediv_ediv_of_nonneg (by decide)]
  rw [e3] at h1
  have e4 : (2 : Int) ^ m * 2 * (Y / 2 / 2 ^ m) = 2 * (2 ^ m * (Y / 2 / 2 ^ m)) := by rw [Int.mul_comm (2 ^ m) 2, Int.mul_assoc]
  rw [e4] at h1
  omega
theorem top_8 (X : Int) : topB X 8 = 0 := by unfold topB; simp
theorem top_0 (X : Int) : topB X 0 = X % 256 := by unfold topB; simp
theorem top_lt (X : Int) (j : Nat) (hj : j ≤ 8) : 0 ≤ topB X j ∧ topB X j < 256 := by
  unfold topB
  have hp : (0 : Int) < 2 ^ (8 - j) := Int.pow_pos (by decide)
  have h1 := Int.emod_nonneg (X / 2 ^ j) (Int.ne_of_gt hp)
  have h2 := Int.emod_lt_of_pos (X / 2 ^ j) hp
  have h3 : (2 : Int) ^ (8 - j) ≤ 256 := by
    have : j = 0 ∨ j = 1 ∨ j = 2 ∨ j = 3 ∨ j = 4 ∨ j = 5 ∨ j = 6 ∨ j = 7 ∨ j = 8 := by omega
    rcases this with h | h | h | h | h | h | h | h | h <;> subst h <;> decide
  omega
set_option maxHeartbeats 4000000 in
set_option maxRecDepth 100000 in
theorem bit_any (w : World) (hi lo : Int) (hh : U64 hi) (hl : U64 lo) (j : Nat) (hj : j < 128) (J : Int) (hJ : (j : Int) = J) :
    Calls Try.prog 58 #[.agg #[.int .u64 hi, .int .u64 lo], .int .i64 J] w fun e w' => e = .returned (.int .i64 (bitI hi lo j)) ∧ Below w.heap.size w w' := by
  subst hJ
  have hbx := Lib.hid ((Below.refl w.heap.size w).alloc (Nat.le_refl _) (.cells #[.int .u64 hi, .int .u64 lo] 24))
  have hw1 : IntKind.u64.wrap (j : Int) = (j : Int) := by rw [IntKind.wrap_u64]; omega
  have hp : ∀ k : Nat, (0 : Int) < 2 ^ k := fun k => Int.pow_pos (by decide)
  by_cases h : j < 64
  · have h' : (j : Int) < 64 := by omega
    have e : bitI hi lo j = lo / 2 ^ j % 2 := if_pos h
    rw [e]
    have q1 := Int.emod_nonneg (lo / 2 ^ j) (b := 2) (by decide)
    have q2 := Int.emod_lt_of_pos (lo / 2 ^ j) (b := 2) (by decide)
    have hw3 : IntKind.i64.wrap (lo / 2 ^ j % 2) = lo / 2 ^ j % 2 := by rw [IntKind.wrap_i64]; omega
    have q3 : 0 ≤ lo / 2 ^ j := Int.ediv_nonneg hl.1 (Int.le_of_lt (hp j))
    have hw4 : (lo / 2 ^ j).tmod 2 = lo / 2 ^ j % 2 := Int.tmod_eq_emod_of_nonneg q3
    clear e q1 q2 hp
    go_enter Try.func58, Try.ntmps58
    go_wp2
    go_ret
    exact ⟨rfl, hbx.out⟩
  · have h' : ¬ ((j : Int) < 64) := by omega
    have e : bitI hi lo j = hi / 2 ^ (j - 64) % 2 := if_neg h
    rw [e]
    obtain ⟨k, hk⟩ : ∃ k, j - 64 = k := ⟨_, rfl⟩
    have hjk : (j : Int) = (k : Int) + 64 := by omega
    rw [hk, hjk]
    rw [hjk] at h'
    have q1 := Int.emod_nonneg (hi / 2 ^ k) (b := 2) (by decide)
    have q2 := Int.emod_lt_of_pos (hi / 2 ^ k) (b := 2) (by decide)
    have hw3 : IntKind.i64.wrap (hi / 2 ^ k % 2) = hi / 2 ^ k % 2 := by rw [IntKind.wrap_i64]; omega
    have hw5 : IntKind.i64.wrap ((k : Int) + 64 - 64) = (k : Int) := by rw [IntKind.wrap_i64]; omega
    have hw6 : IntKind.u64.wrap (k : Int) = (k : Int) := by rw [IntKind.wrap_u64]; omega
    have q3 : 0 ≤ hi / 2 ^ k := Int.ediv_nonneg hh.1 (Int.le_of_lt (hp k))
    have hw4 : (hi / 2 ^ k).tmod 2 = hi / 2 ^ k % 2 := Int.tmod_eq_emod_of_nonneg q3
    clear e q1 q2 hp hw1
    go_enter Try.func58, Try.ntmps58
    go_wp2
    go_ret
    exact ⟨rfl, hbx.out⟩
set_option maxHeartbeats 4000000 in
set_option maxRecDepth 100000 in
theorem bytes01_any (w : World) (hi lo : Int) (hh : U64 hi) (hl : U64 lo) :
    Calls Try.prog 35 #[.agg #[.int .u64 hi, .int .u64 lo]] w fun e w' => GB w (wordB hi lo) e w' := by
  have HE : Hid (wordB hi lo = le 16 (wnum hi lo)) := Lib.hid (word_le16 hi lo hl)
  have HBT := Lib.hid (fun a j hj J hJ => bit_any a hi lo hh hl j hj J hJ)
  have HBN := Lib.hid (fun j => bit_num hi lo hl j)
  have HBL := Lib.hid (fun j => bit_lo hi lo j)
  obtain ⟨X, hX⟩ : ∃ X, wnum hi lo = X := ⟨_, rfl⟩
  rw [hX] at HE HBN
  have hbx : Below w.heap.size w (w.alloc (.cells #[.int .u64 hi, .int .u64 lo] 24)) := (Below.refl _ w).alloc (Nat.le_refl _) _
  obtain ⟨B, hB⟩ : ∃ B, w.heap.size = B := ⟨_, rfl⟩
  have HRW : Hid ((w.alloc (.cells #[.int .u64 hi, .int .u64 lo] 24)).heap[B]? = some (.cells #[.int .u64 hi, .int .u64 lo] 24)) := Lib.hid (row_new hB.symm)
  have HBX := Lib.hid hbx
  have HBB := Lib.hid hB
  have HS1 : Hid ((w.alloc (.cells #[.int .u64 hi, .int .u64 lo] 24)).heap.size = B + 1) := Lib.hid (by simp [hB])
  rw [HE.out]
  clear hh hl hX hbx hB
  go_enter Try.func35, Try.ntmps35
  go_wp2_with fail
  generalize w.alloc (.cells #[.int .u64 hi, .int .u64 lo] 24) = W1 at HRW HBX HS1 ⊢
  go_loopw [3, 4, 5, 6] (fun v3 v4 v5 v6 we => ∃ (i : Nat) (A : Option Addr) (c : Nat), i ≤ 16 ∧ v4 = .int .i64 i ∧ v3 = .slice A i c ∧ Hid (we.ownsRow 0 5 1 (.slice A i c) i ((le i X).map byteC)) ∧ Hid (Below W1.heap.size W1 we) ∧ Hid (∀ b, (Value.slice A i c).ownBlock = some b → W1.heap.size ≤ b)) (fun _ v4 _ _ _ => 16 - (intOf v4).toNat)
  case atStart => exact ⟨0, none, 0, by omega, rfl, rfl, World.ownsRow_nil _ _ _ _, Below.refl _ _, fun b e => by simp [Value.ownBlock] at e⟩
  case round =>
    obtain ⟨i, A, c, hile, rfl, rfl, HO, HW, HF⟩ := hrel
    by_cases hlt : i < 16
    · have hlt' : (i : Int) < 16 := by omega
      obtain ⟨Y, hY⟩ : ∃ Y, X / 256 ^ i = Y := ⟨_, rfl⟩
      have HY := Lib.hid hY
      have HYB : Hid (∀ k, k < 8 → bitI hi lo (8 * i + k) = Y / 2 ^ k % 2) := Lib.hid (fun k hk => by rw [HBN.out, Int.pow_add, ← Int.ediv_ediv_of_nonneg (by exact Int.le_of_lt (Int.pow_pos (by decide))), pow_byte, hY])
      clear hY
      go_upto_block 2 with fail
      go_cut [5, 6] from 11 to 23 (fun v5 v6 wc => v5 = .int .i64 (topB Y 0) ∧ Hid (Below wr.heap.size wr wc))
      case first =>
        go_wp2_with fail
        go_loopw [5, 6] (fun v5 v6 we => ∃ j : Nat, j ≤ 8 ∧ v6 = .int .i64 ((j : Int) - 1) ∧ v5 = .int .i64 (topB Y j) ∧ Hid (Below wr.heap.size wr we)) (fun _ v6 _ => (intOf v6 + 1).toNat)
        case atStart => exact ⟨8, by omega, rfl, by rw [top_8], Lib.hid (Below.refl _ _)⟩
        case round =>
          obtain ⟨j, hj, rfl, rfl, HWJ⟩ := hrel
          have HWW := Lib.hid (HW.out.trans (HWJ.out.mono HW.out.size))
          rcases j with _ | k
          · rw [show ((0 : Nat) : Int) - 1 = -1 from rfl]
            go_wp2
            go_meet
            exact ⟨rfl, HWJ⟩
          · rw [show ((k + 1 : Nat) : Int) - 1 = (k : Int) by omega]
            have hrow := row_on HWW.out HRW.out
            rw [← HBB.out] at hrow
            have y0 := cell_row (j := 0) hrow rfl
            have y1 := cell_row (j := 1) hrow rfl
            have hts := top_step Y k (by omega)
            rw [← HYB.out k (by omega)] at hts
            have ht1 := top_lt Y (k + 1) (by omega)
            have hb2 := HBL.out (8 * i + k)
            have HC := Lib.hid (HBT.out wr (8 * i + k) (by omega) (8 * (i : Int) + (k : Int)) (by omega))
            obtain ⟨T, hT⟩ : ∃ T, topB Y (k + 1) = T := ⟨_, rfl⟩
            obtain ⟨b, hbb⟩ : ∃ b, bitI hi lo (8 * i + k) = b := ⟨_, rfl⟩
            rw [hT, hbb] at hts
            rw [hT] at ht1 ⊢
            rw [hbb] at hb2 HC
            have hk0 : (0 : Int) ≤ (k : Int) := by omega
            have hw1 : IntKind.i64.wrap (2 * T) = 2 * T := by rw [IntKind.wrap_i64]; omega
            have hw2 : IntKind.i64.wrap (8 * (i : Int)) = 8 * (i : Int) := by rw [IntKind.wrap_i64]; omega
            have hw3 : IntKind.i64.wrap (8 * (i : Int) + (k : Int)) = 8 * (i : Int) + (k : Int) := by rw [IntKind.wrap_i64]; omega
            have hw4 : IntKind.i64.wrap (2 * T + b) = 2 * T + b := by rw [IntKind.wrap_i64]; omega
            have hw5 : IntKind.i64.wrap ((k : Int) - 1) = (k : Int) - 1 := by rw [IntKind.wrap_i64]; omega
            have HTS := Lib.hid hts
            clear hts hT hbb ht1 hb2 hrow
            go_wp2_with (first | (go_at_call 58; (with_reducible refine HC.out.mono ?_); rintro e w2 ⟨rfl, hb⟩; have HB2 := Lib.hid hb; clear hb) | fail)
            exact ⟨⟨k, by omega, rfl, by rw [HTS.out], Lib.hid (HWJ.out.trans (HB2.out.mono HWJ.out.size))⟩, by simp [intOf] <;> omega⟩
      case rest =>
        obtain ⟨rfl, HWC⟩ := hcut
        have ht := top_lt Y 0 (by omega)
        have HT0 := Lib.hid (top_0 Y)
        obtain ⟨b, hb⟩ : ∃ b, topB Y 0 = b := ⟨_, rfl⟩
        have HTB := Lib.hid hb
        rw [hb] at ht ⊢
        have hw1 : IntKind.u8.wrap b = b := by rw [IntKind.wrap_u8]; omega
        clear hb
        go_wp2_with (at_builtin; refine list_app2 rfl (.tmp 24) (.tmp 27) 27 rfl 5 0 _ 1 1 Try.underlying27 info5 rfl (by decide) (by decide) (.slice A i c) i _ rfl (own_keeps (own_keeps HO.out (Kept.of_below HWC.out)) ((Kept.refl _ _).alloc _)) (some ⟨wc.heap.size, 0, none⟩) 1 1 [.int .u8 b] rfl rfl (holds_new _ _ _ _ _ rfl) (by simp [Value.oneCell']) (by omega) (Nat.zero_le _) ?_; intro v9 w9 hown9 hwent9; obtain ⟨A9, c9, rfl, _⟩ := own_slice hown9; have HO9 := Lib.hid hown9; have HW9 := Lib.hid hwent9; clear hown9 hwent9)
        have ho9 : Hid (w9.ownsRow 0 5 1 (.slice A9 (i + 1) c9) (i + 1) ((le (i + 1) X).map byteC)) := by
          have h := HO9.out
          show w9.ownsRow 0 5 1 (.slice A9 (i + 1) c9) (i + 1) ((le (i + 1) X).map byteC)
          rw [le_snoc, List.map_append, HY.out, ← HT0.out, HTB.out]
          exact h
        have HWWC := HW.out.trans (HWC.out.mono HW.out.size)
        have hb9 : Hid (Below W1.heap.size W1 w9) := (HWWC.trans (((Below.refl _ wc).alloc (Nat.le_refl _) _).mono HWWC.size)).trans (HW9.out.kept.below (fun b hb => HF.out b hb) (by simp; have := HWWC.size; omega))
        have hf9 : Hid (∀ b, (Value.slice A9 (i + 1) c9).ownBlock = some b → W1.heap.size ≤ b) := went_bound HF.out (by simp; have := HWWC.size; omega) HW9.out
        exact ⟨⟨i + 1, A9, c9, by omega, rfl, rfl, ho9, hb9, hf9⟩, by simp [intOf]; omega⟩
    · have hin : i = 16 := by omega
      subst hin
      go_wp2_with fail
      go_ret
      exact ⟨_, rfl, (by have := HO.out; unfold OB; rw [le_len]; exact this), HBX.out.trans (HW.out.mono HBX.out.size), fun b hb => by have h1 := HF.out b hb; have h2 := HBX.out.size; omega⟩
end Go.Proofs.Ytfpkdbogapmhmaa.O

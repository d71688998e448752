/- Record: the document's Set (written by gen_rdb.py). -/
import Derived.Test.YtfpkdbogapmhmaaRdA
namespace Go.Proofs.Ytfpkdbogapmhmaa.O
open Go.RowKit Go.Proofs.Ytfpkdbogapmhmaa.Mem
set_option linter.unusedVariables false
set_option linter.unusedSimpArgs false
theorem pow_lt64 (j : Nat) (h : j < 64) : (2 : Int) ^ j < 18446744073709551616 ∧ 0 < (2 : Int) ^ j := by
  have hp : 2 ^ j < 2 ^ 64 := Nat.pow_lt_pow_right (by decide) h
  have e : ((2 : Int) ^ j) = ((2 ^ j : Nat) : Int) := by rw [Int.natCast_pow]; rfl
  have h0 : 0 < 2 ^ j := Nat.pow_pos (by decide)
  rw [e]
  omega
theorem or_bit (x : Int) (j : Nat) (h0 : 0 ≤ x) (h1 : x < 2 ^ j) (hj : j < 64) : bits .or .u64 x (2 ^ j) = x + 2 ^ j := by
  obtain ⟨X, rfl⟩ : ∃ X : Nat, x = (X : Int) := ⟨x.toNat, by omega⟩
  have hX : X < 2 ^ j := by
    have : (X : Int) < ((2 ^ j : Nat) : Int) := by rw [Int.natCast_pow]; exact h1
    omega
  have hp : 2 ^ j < 2 ^ 64 := Nat.pow_lt_pow_right (by decide) hj
  have hp2 : 2 ^ (j + 1) ≤ 2 ^ 64 := Nat.pow_le_pow_right (by decide) (by omega)
  rw [Nat.pow_succ] at hp2
  show IntKind.u64.wrap ((BitVec.ofInt 64 (X : Int) ||| BitVec.ofInt 64 ((2 : Int) ^ j)).toNat : Int) = _
  have e : ((2 : Int) ^ j) = ((2 ^ j : Nat) : Int) := by rw [Int.natCast_pow]; rfl
  rw [e, BitVec.ofInt_natCast, BitVec.ofInt_natCast, BitVec.toNat_or, BitVec.toNat_ofNat, BitVec.toNat_ofNat, Nat.mod_eq_of_lt (by omega), Nat.mod_eq_of_lt hp]
  have e2 : X ||| 2 ^ j = X + 2 ^ j := by
    have := Nat.two_pow_add_eq_or_of_lt (i := j) (b := X) hX 1
    rw [Nat.mul_one] at this
    rw [Nat.or_comm, ← this, Nat.add_comm]
  rw [e2, IntKind.wrap_u64]
  omega
set_option maxHeartbeats 4000000 in
set_option maxRecDepth 100000 in
theorem set_any (w : World) (hi lo : Int) (j : Nat) (hj : j < 128) (hl0 : 0 ≤ lo) (hh0 : 0 ≤ hi) (hl : j < 64 → lo < 2 ^ j) (hh : ¬ j < 64 → hi < 2 ^ (j - 64)) (J : Int) (hJ : (j : Int) = J) :
    Calls Try.prog 66 #[.agg #[.int .u64 hi, .int .u64 lo], .int .i64 J] w fun e w' => e = .returned (.agg #[.int .u64 (if j < 64 then hi else hi + 2 ^ (j - 64)), .int .u64 (if j < 64 then lo + 2 ^ j else lo)]) ∧ Below w.heap.size w w' := by
  subst hJ
  by_cases h : j < 64
  · rw [if_pos h, if_pos h]
    have h' : (j : Int) < 64 := by omega
    have hor := or_bit lo j hl0 (hl h) h
    have hw1 : IntKind.u64.wrap (j : Int) = (j : Int) := by rw [IntKind.wrap_u64]; omega
    have hp : (2 : Int) ^ j < 18446744073709551616 ∧ 0 < (2 : Int) ^ j := pow_lt64 j h
    have hw2 : IntKind.u64.wrap (2 ^ j) = 2 ^ j := by rw [IntKind.wrap_u64]; omega
    clear hl hh
    go_enter Try.func66, Try.ntmps66
    go_wp2
    refine bodyPost_ret (results_cell_row rfl _ _ (w.heap.size + 1) 24 _ (0, 0) _ rfl (row_new (by simp)) Try.underlying24 rfl info25) rfl ?_
    exact ⟨rfl, ((Below.refl _ w).alloc (Nat.le_refl _) _).alloc (by simp) _⟩
  · rw [if_neg h, if_neg h]
    have h' : ¬ ((j : Int) < 64) := by omega
    obtain ⟨k, hk⟩ : ∃ k, j - 64 = k := ⟨_, rfl⟩
    have hjk : (j : Int) = (k : Int) + 64 := by omega
    have hk64 : k < 64 := by omega
    have hhk := hh h
    rw [hk] at hhk ⊢
    rw [hjk] at h' ⊢
    have hor := or_bit hi k hh0 hhk hk64
    have hp : (2 : Int) ^ k < 18446744073709551616 ∧ 0 < (2 : Int) ^ k := pow_lt64 k hk64
    have hw2 : IntKind.u64.wrap (2 ^ k) = 2 ^ k := by rw [IntKind.wrap_u64]; omega
    have hw5 : IntKind.i64.wrap ((k : Int) + 64 - 64) = (k : Int) := by rw [IntKind.wrap_i64]; omega
    have hw6 : IntKind.u64.wrap (k : Int) = (k : Int) := by rw [IntKind.wrap_u64]; omega
    clear hl hh hhk hk hjk
    go_enter Try.func66, Try.ntmps66
    go_wp2
    refine bodyPost_ret (results_cell_row rfl _ _ (w.heap.size + 1) 24 _ (0, 0) _ rfl (row_new (by simp)) Try.underlying24 rfl info25) rfl ?_
    exact ⟨rfl, ((Below.refl _ w).alloc (Nat.le_refl _) _).alloc (by simp) _⟩
end Go.Proofs.Ytfpkdbogapmhmaa.O

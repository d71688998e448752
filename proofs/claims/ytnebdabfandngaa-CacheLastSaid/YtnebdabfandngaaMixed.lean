/- The mixture of layer 5 in plain numbers: what each function of the program and of the reference computes, and that it is injective in each of its parts. -/
import Derived.WalkKit
import Derived.Laws.Bits64
import Derived.Laws.BitsLemmas
namespace Go.Proofs.Ytnebdabfandngaa.Mixed
open Go.RowKit

/-- One round: a part is laid in, multiplied, shifted in. -/
def mixStep (h v : Int) : Int := bits .xor .u64 (IntKind.u64.wrap (bits .xor .u64 h v * 11400714819323198485)) (IntKind.u64.wrap (bits .xor .u64 h v * 11400714819323198485) / 536870912)
def hash64 (obj hi lo : Int) : Int := mixStep (mixStep (mixStep 5903417616801668165 (IntKind.u64.wrap obj)) hi) lo
/-- The program's answer. -/
def hashK (obj hi lo knob : Int) : Int := if knob ≤ 0 then 0 else if 64 ≤ knob then hash64 obj hi lo else bits .and .u64 (hash64 obj hi lo) (IntKind.u64.wrap (IntKind.u64.wrap (2 ^ knob.toNat) - 1))
/-- The reference's. -/
def hashR (obj hi lo knob : Int) : Int := if knob ≤ 0 then 0 else if 64 ≤ knob then hash64 obj hi lo else (hash64 obj hi lo).tmod (IntKind.u64.wrap (2 ^ knob.toNat))

theorem hashK_low {obj hi lo knob : Int} (h : knob ≤ 0) : hashK obj hi lo knob = 0 := by rw [hashK, if_pos h]
theorem hashK_all {obj hi lo knob : Int} (_h0 : 0 < knob) (h : 64 ≤ knob) : hashK obj hi lo knob = hash64 obj hi lo := by rw [hashK, if_neg (by omega), if_pos h]
theorem hashK_mid {obj hi lo knob : Int} (h0 : 0 < knob) (h : knob < 64) : hashK obj hi lo knob = bits .and .u64 (hash64 obj hi lo) (IntKind.u64.wrap (IntKind.u64.wrap (2 ^ knob.toNat) - 1)) := by rw [hashK, if_neg (by omega), if_neg (by omega)]
theorem hashR_low {obj hi lo knob : Int} (h : knob ≤ 0) : hashR obj hi lo knob = 0 := by rw [hashR, if_pos h]
theorem hashR_all {obj hi lo knob : Int} (_h0 : 0 < knob) (h : 64 ≤ knob) : hashR obj hi lo knob = hash64 obj hi lo := by rw [hashR, if_neg (by omega), if_pos h]
theorem hashR_mid {obj hi lo knob : Int} (h0 : 0 < knob) (h : knob < 64) : hashR obj hi lo knob = (hash64 obj hi lo).tmod (IntKind.u64.wrap (2 ^ knob.toNat)) := by rw [hashR, if_neg (by omega), if_neg (by omega)]
theorem pow_ne {knob : Int} (h1 : knob < 64) : IntKind.u64.wrap (2 ^ knob.toNat) ≠ 0 := by
  obtain ⟨k, hk⟩ : ∃ k : Nat, knob.toNat = k := ⟨_, rfl⟩
  have hk64 : k < 64 := by omega
  have hp : (2 : Nat) ^ k < 2 ^ 64 := Nat.pow_lt_pow_right (by decide) hk64
  have hp0 : 0 < (2 : Nat) ^ k := Nat.pow_pos (by decide)
  rw [hk, IntKind.wrap_u64, show ((2 : Int) ^ k) = ((2 ^ k : Nat) : Int) from by rw [Int.natCast_pow]; rfl]
  omega
/-- A function's result, whose number is known by another name. -/
theorem ret_u64 {v : Value} {n m : Int} (hv : v = .int .u64 n) (h : m = n) : Ending.returned v = .returned (.int .u64 m) := by rw [hv, h]

/-- A number of 64 bits, as such. -/
def bv (n : Int) : BitVec 64 := BitVec.ofInt 64 n
def un (x : BitVec 64) : Int := (x.toNat : Int)
theorem un_lt (x : BitVec 64) : 0 ≤ un x ∧ un x < 18446744073709551616 := ⟨Int.natCast_nonneg _, by have := x.isLt; unfold un; omega⟩
theorem wrap_un (n : Int) : IntKind.u64.wrap n = un (bv n) := by
  rw [IntKind.wrap_u64]
  unfold un bv
  rw [BitVec.toNat_ofInt]
  omega
theorem bv_un (x : BitVec 64) : bv (un x) = x := by
  unfold bv un
  rw [BitVec.ofInt_natCast]; simp
theorem un_bv {n : Int} (h0 : 0 ≤ n) (h1 : n < 18446744073709551616) : un (bv n) = n := by
  rw [← wrap_un, IntKind.wrap_u64]; omega
theorem xor_un (a b : Int) : bits .xor .u64 a b = un (bv a ^^^ bv b) := by
  show IntKind.u64.wrap ((BitVec.ofInt 64 a ^^^ BitVec.ofInt 64 b).toNat : Int) = _
  rw [wrap_un]
  exact congrArg un (bv_un _)
theorem bv_mul (a b : Int) : bv (a * b) = bv a * bv b := by
  unfold bv; rw [BitVec.ofInt_mul]
theorem bv_shift (x : BitVec 64) : bv (un x / 536870912) = x >>> 29 := by
  unfold bv un
  rw [show ((x.toNat : Int) / 536870912) = ((x.toNat / 2 ^ 29 : Nat) : Int) from by omega]
  rw [BitVec.ofInt_natCast]
  apply BitVec.eq_of_toNat_eq
  rw [BitVec.toNat_ofNat, BitVec.toNat_ushiftRight, Nat.shiftRight_eq_div_pow]
  have := x.isLt
  omega

def stepB (h v : BitVec 64) : BitVec 64 := ((h ^^^ v) * 0x9e3779b97f4a7c15#64) ^^^ (((h ^^^ v) * 0x9e3779b97f4a7c15#64) >>> 29)
theorem mixStep_un (h v : Int) : mixStep h v = un (stepB (bv h) (bv v)) := by
  unfold mixStep stepB
  have e : IntKind.u64.wrap (bits .xor .u64 h v * 11400714819323198485) = un ((bv h ^^^ bv v) * 0x9e3779b97f4a7c15#64) := by
    rw [wrap_un, bv_mul, xor_un, bv_un]; rfl
  rw [e, xor_un, bv_un, bv_shift]

theorem shift_inj {x y : BitVec 64} (h : x ^^^ (x >>> 29) = y ^^^ (y >>> 29)) : x = y := by
  have back : ∀ z : BitVec 64, (z ^^^ (z >>> 29)) ^^^ ((z ^^^ (z >>> 29)) >>> 29) ^^^ ((z ^^^ (z >>> 29)) >>> 58) = z := by
    intro z
    have e : z >>> 87 = 0#64 := by
      apply BitVec.eq_of_toNat_eq
      rw [BitVec.toNat_ushiftRight, Nat.shiftRight_eq_div_pow]
      have := z.isLt
      show z.toNat / 2 ^ 87 = 0
      exact Nat.div_eq_of_lt (by omega)
    rw [BitVec.ushiftRight_xor_distrib, BitVec.ushiftRight_xor_distrib, ← BitVec.shiftRight_add, ← BitVec.shiftRight_add]
    rw [show 29 + 29 = 58 from rfl, show 29 + 58 = 87 from rfl, e, BitVec.xor_zero]
    rw [BitVec.xor_assoc, BitVec.xor_assoc, BitVec.xor_assoc, BitVec.xor_self, BitVec.xor_zero, BitVec.xor_self, BitVec.xor_zero]
  rw [← back x, ← back y, h]
theorem mul_inj {x y : BitVec 64} (h : x * 0x9e3779b97f4a7c15#64 = y * 0x9e3779b97f4a7c15#64) : x = y := by
  have e : (0x9e3779b97f4a7c15#64) * 0xf1de83e19937733d#64 = 1#64 := by decide
  have : x * 0x9e3779b97f4a7c15#64 * 0xf1de83e19937733d#64 = y * 0x9e3779b97f4a7c15#64 * 0xf1de83e19937733d#64 := by rw [h]
  rwa [BitVec.mul_assoc, BitVec.mul_assoc, e, BitVec.mul_one, BitVec.mul_one] at this
theorem stepB_inj {h v h' v' : BitVec 64} (e : stepB h v = stepB h' v') : h ^^^ v = h' ^^^ v' := mul_inj (shift_inj e)
theorem xor_left {a b c : BitVec 64} (h : a ^^^ c = b ^^^ c) : a = b := by
  have : a ^^^ c ^^^ c = b ^^^ c ^^^ c := by rw [h]
  rwa [BitVec.xor_assoc, BitVec.xor_assoc, BitVec.xor_self, BitVec.xor_zero, BitVec.xor_zero] at this
theorem xor_right {a b c : BitVec 64} (h : c ^^^ a = c ^^^ b) : a = b := by
  rw [BitVec.xor_comm c a, BitVec.xor_comm c b] at h
  exact xor_left h

def hashB (o h l : BitVec 64) : BitVec 64 := stepB (stepB (stepB 0x51ed270b7a3f1c45#64 o) h) l
theorem hash64_un (obj hi lo : Int) : hash64 obj hi lo = un (hashB (bv obj) (bv hi) (bv lo)) := by
  unfold hash64 hashB
  rw [mixStep_un, mixStep_un, mixStep_un, wrap_un, bv_un, bv_un, bv_un]; rfl
theorem un_inj {x y : BitVec 64} (h : un x = un y) : x = y := by rw [← bv_un x, ← bv_un y, h]
theorem hash_lt (obj hi lo : Int) : 0 ≤ hash64 obj hi lo ∧ hash64 obj hi lo < 18446744073709551616 := by rw [hash64_un]; exact un_lt _

/-- Unlike objects' numbers have unlike answers, and so have words that part in one half. -/
theorem hash_obj (obj obj' hi lo : Int) : (hash64 obj hi lo = hash64 obj' hi lo) ↔ bv obj = bv obj' := by
  rw [hash64_un, hash64_un]
  constructor
  · intro h
    exact xor_right (stepB_inj (xor_left (stepB_inj (xor_left (stepB_inj (un_inj h))))))
  · intro h; rw [h]
theorem hash_hi (obj hi hi' lo : Int) : (hash64 obj hi lo = hash64 obj hi' lo) ↔ bv hi = bv hi' := by
  rw [hash64_un, hash64_un]
  constructor
  · intro h
    exact xor_right (stepB_inj (xor_left (stepB_inj (un_inj h))))
  · intro h; rw [h]
theorem hash_lo (obj hi lo lo' : Int) : (hash64 obj hi lo = hash64 obj hi lo') ↔ bv lo = bv lo' := by
  rw [hash64_un, hash64_un]
  constructor
  · intro h
    exact xor_right (stepB_inj (un_inj h))
  · intro h; rw [h]
theorem bv_inj {a b : Int} (ha : 0 ≤ a ∧ a < 18446744073709551616) (hb : 0 ≤ b ∧ b < 18446744073709551616) : (bv a = bv b) ↔ a = b := by
  constructor
  · intro h; rw [← un_bv ha.1 ha.2, ← un_bv hb.1 hb.2, h]
  · intro h; rw [h]

/-- The program's answer is the reference's. -/
theorem hash_same (obj hi lo knob : Int) : hashK obj hi lo knob = hashR obj hi lo knob := by
  unfold hashK hashR
  by_cases h0 : knob ≤ 0
  · rw [if_pos h0, if_pos h0]
  · by_cases h1 : 64 ≤ knob
    · rw [if_neg h0, if_neg h0, if_pos h1, if_pos h1]
    · rw [if_neg h0, if_neg h0, if_neg h1, if_neg h1]
      obtain ⟨k, hk⟩ : ∃ k : Nat, knob.toNat = k := ⟨_, rfl⟩
      have hk64 : k < 64 := by omega
      rw [hk, hash64_un]
      generalize hashB (bv obj) (bv hi) (bv lo) = x
      have hp : (2 : Nat) ^ k < 2 ^ 64 := Nat.pow_lt_pow_right (by decide) hk64
      have hp0 : 0 < (2 : Nat) ^ k := Nat.pow_pos (by decide)
      have e1 : IntKind.u64.wrap (2 ^ k) = ((2 ^ k : Nat) : Int) := by
        rw [IntKind.wrap_u64, show ((2 : Int) ^ k) = ((2 ^ k : Nat) : Int) from by rw [Int.natCast_pow]; rfl]; omega
      have e2 : IntKind.u64.wrap (((2 ^ k : Nat) : Int) - 1) = ((2 ^ k - 1 : Nat) : Int) := by
        rw [IntKind.wrap_u64]; omega
      rw [e1, e2]
      show IntKind.u64.wrap ((BitVec.ofInt 64 (un x) &&& BitVec.ofInt 64 ((2 ^ k - 1 : Nat) : Int)).toNat : Int) = _
      rw [show BitVec.ofInt 64 (un x) = x from bv_un x, BitVec.toNat_and, BitVec.ofInt_natCast, BitVec.toNat_ofNat, Nat.mod_eq_of_lt (by omega : 2 ^ k - 1 < 2 ^ 64), Nat.and_two_pow_sub_one_eq_mod]
      have hlt : x.toNat % 2 ^ k < 2 ^ 64 := Nat.lt_of_le_of_lt (Nat.mod_le _ _) x.isLt
      rw [IntKind.wrap_u64]
      unfold un
      rw [Int.tmod_eq_emod_of_nonneg (Int.natCast_nonneg _)]
      omega
theorem hashK_range (obj hi lo knob : Int) : 0 ≤ hashK obj hi lo knob ∧ hashK obj hi lo knob < 18446744073709551616 := by
  unfold hashK
  split
  · exact ⟨by decide, by decide⟩
  · split
    · exact hash_lt _ _ _
    · show 0 ≤ IntKind.u64.wrap _ ∧ IntKind.u64.wrap _ < _
      rw [IntKind.wrap_u64]
      omega
theorem alive_is : hashK 1 0 5 64 = 0x7aea7402fe50e08f := by decide +kernel
end Go.Proofs.Ytnebdabfandngaa.Mixed

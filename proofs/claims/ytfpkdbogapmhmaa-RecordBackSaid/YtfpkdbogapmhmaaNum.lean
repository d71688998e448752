/- Numbers as bytes, the least first. Own text; no program in sight. -/
import Derived.WalkKit
import Derived.Laws.Bits64
import Derived.Laws.BitsLemmas
namespace Go.Proofs.Ytfpkdbogapmhmaa.O
open Go.RowKit
/-- The lowest k bytes of a number. -/
def le : Nat → Int → List Int
  | 0, _ => []
  | k + 1, v => v % 256 :: le k (v / 256)
/-- The number whose bytes these are. -/
def val : List Int → Int
  | [] => 0
  | b :: l => b + 256 * val l
def Bytes (l : List Int) : Prop := ∀ z ∈ l, 0 ≤ z ∧ z < 256
theorem le_len : ∀ (k : Nat) (v : Int), (le k v).length = k
  | 0, _ => rfl
  | k + 1, v => by rw [le, List.length_cons, le_len k]
theorem le_bytes : ∀ (k : Nat) (v : Int), Bytes (le k v)
  | 0, _ => fun z hz => by cases hz
  | k + 1, v => fun z hz => by
    rw [le] at hz
    rcases List.mem_cons.1 hz with rfl | hz
    · omega
    · exact le_bytes k _ z hz
theorem val_lo : ∀ {l : List Int}, Bytes l → 0 ≤ val l
  | [], _ => Int.le_refl _
  | b :: l, h => by
    have h1 := h b (by simp)
    have h2 := val_lo (fun z hz => h z (by simp [hz]) : Bytes l)
    rw [val]; omega
theorem val_hi : ∀ {l : List Int}, Bytes l → val l < 256 ^ l.length
  | [], _ => by decide
  | b :: l, h => by
    have h1 := h b (by simp)
    have h2 := val_hi (fun z hz => h z (by simp [hz]) : Bytes l)
    rw [val, List.length_cons, Int.pow_succ]
    omega
theorem val_lt : ∀ {k : Nat} {l : List Int}, Bytes l → l.length ≤ k → val l < 256 ^ k
  | 0, [], _, _ => by decide
  | k + 1, [], _, _ => by rw [val]; exact Int.pow_pos (by decide)
  | k + 1, b :: l, h, hl => by
    have h1 := h b (by simp)
    have h2 := val_lt (k := k) (fun z hz => h z (by simp [hz]) : Bytes l) (by simpa using hl)
    rw [val, Int.pow_succ]
    omega
theorem le_val : ∀ {l : List Int}, Bytes l → le l.length (val l) = l
  | [], _ => rfl
  | b :: l, h => by
    have h1 := h b (by simp)
    rw [List.length_cons, le, val, show (b + 256 * val l) % 256 = b by omega, show (b + 256 * val l) / 256 = val l by omega, le_val (fun z hz => h z (by simp [hz]))]
theorem val_le : ∀ (k : Nat) (v : Int), 0 ≤ v → v < 256 ^ k → val (le k v) = v
  | 0, v, h0, h1 => by rw [le, val]; rw [Int.pow_zero] at h1; omega
  | k + 1, v, h0, h1 => by
    rw [Int.pow_succ] at h1
    rw [le, val, val_le k (v / 256) (by omega) (by omega)]
    omega
theorem le_snoc : ∀ (k : Nat) (v : Int), le (k + 1) v = le k v ++ [v / 256 ^ k % 256]
  | 0, v => by simp [le]
  | k + 1, v => by
    rw [le, le_snoc k (v / 256), le]
    simp only [List.cons_append, List.cons.injEq, true_and]
    congr 3
    rw [Int.pow_succ, Int.mul_comm, ← Int.ediv_ediv_of_nonneg (by decide)]
theorem val_append : ∀ (a b : List Int), val (a ++ b) = val a + 256 ^ a.length * val b
  | [], b => by simp [val]
  | x :: a, b => by
    rw [List.cons_append, val, val, val_append a b, List.length_cons, Int.pow_succ, Int.mul_add, ← Int.mul_assoc, Int.mul_comm 256 (256 ^ a.length)]
    omega
/-- A byte shifted in from below. -/
theorem or_byte (v b : Int) (h0 : 0 ≤ v) (h1 : v < 72057594037927936) (b0 : 0 ≤ b) (b1 : b < 256) : bits .or .u64 (v * 256) b = v * 256 + b := by
  obtain ⟨V, rfl⟩ : ∃ V : Nat, v = (V : Int) := ⟨v.toNat, by omega⟩
  obtain ⟨B, rfl⟩ : ∃ B : Nat, b = (B : Int) := ⟨b.toNat, by omega⟩
  show IntKind.u64.wrap ((BitVec.ofInt 64 ((V : Int) * 256) ||| BitVec.ofInt 64 (B : Int)).toNat : Int) = _
  have e1 : BitVec.ofInt 64 ((V : Int) * 256) = BitVec.ofNat 64 (V * 256) := by
    rw [show ((V : Int) * 256) = ((V * 256 : Nat) : Int) by omega, BitVec.ofInt_natCast]
  rw [e1, BitVec.ofInt_natCast, BitVec.toNat_or, BitVec.toNat_ofNat, BitVec.toNat_ofNat, Nat.mod_eq_of_lt (by omega), Nat.mod_eq_of_lt (by omega)]
  have e2 : V * 256 ||| B = V * 256 + B := by
    have := Nat.two_pow_add_eq_or_of_lt (i := 8) (b := B) (by omega) V
    rw [Nat.mul_comm V 256]
    exact this.symm
  rw [e2, IntKind.wrap_u64]
  omega
end Go.Proofs.Ytfpkdbogapmhmaa.O

/- Record: the document's get, minus (written by gen_rca2.py). -/
import Derived.Test.YtfpkdbogapmhmaaRcR
namespace Go.Proofs.Ytfpkdbogapmhmaa.O
open Go.RowKit Go.Proofs.Ytfpkdbogapmhmaa.Mem
set_option linter.unusedVariables false
set_option linter.unusedSimpArgs false
/-- The number of n bytes at a place; what is behind the end counts as 0. -/
def gv (zs : List Int) : Nat → Nat → Int
  | _, 0 => 0
  | at', n + 1 => zs.getD at' 0 + 256 * gv zs (at' + 1) n
theorem getD_byte {zs : List Int} (hB : Bytes zs) (i : Nat) : 0 ≤ zs.getD i 0 ∧ zs.getD i 0 < 256 := by
  rw [List.getD_eq_getElem?_getD]
  cases h : zs[i]? with
  | none => exact ⟨by decide, by decide⟩
  | some z => exact hB z (List.mem_of_getElem? h)
theorem gv_lo {zs : List Int} (hB : Bytes zs) : ∀ (n at' : Nat), 0 ≤ gv zs at' n ∧ gv zs at' n < 256 ^ n
  | 0, _ => ⟨by unfold gv; omega, by unfold gv; decide⟩
  | n + 1, at' => by
    have h1 := getD_byte hB at'
    have h2 := gv_lo hB n (at' + 1)
    unfold gv
    rw [Int.pow_succ]
    omega
theorem w64 (x : Int) : wrap64 x = IntKind.i64.wrap x := by first | rfl | (rw [IntKind.wrap_i64]; rfl) | (rw [IntKind.wrap_i64]; unfold wrap64; omega) | simp [wrap64]
theorem pow7 (q : Nat) (h : q ≤ 7) : (256 : Int) ^ q ≤ 72057594037927936 := by
  have : q = 0 ∨ q = 1 ∨ q = 2 ∨ q = 3 ∨ q = 4 ∨ q = 5 ∨ q = 6 ∨ q = 7 := by omega
  rcases this with h | h | h | h | h | h | h | h <;> subst h <;> decide
theorem or_byteI (v b : Int) (h0 : 0 ≤ v) (h1 : v < 72057594037927936) (b0 : 0 ≤ b) (b1 : b < 256) : bits .or .i64 (IntKind.i64.wrap (v * 256)) b = IntKind.i64.wrap (v * 256 + b) := by
  obtain ⟨V, rfl⟩ : ∃ V : Nat, v = (V : Int) := ⟨v.toNat, by omega⟩
  obtain ⟨B, rfl⟩ : ∃ B : Nat, b = (B : Int) := ⟨b.toNat, by omega⟩
  show IntKind.i64.wrap ((BitVec.ofInt 64 (IntKind.i64.wrap ((V : Int) * 256)) ||| BitVec.ofInt 64 (B : Int)).toNat : Int) = _
  have e1 : BitVec.ofInt 64 (IntKind.i64.wrap ((V : Int) * 256)) = BitVec.ofNat 64 (V * 256) := by
    apply BitVec.eq_of_toNat_eq
    rw [BitVec.toNat_ofInt, BitVec.toNat_ofNat, IntKind.wrap_i64]
    omega
  rw [e1, BitVec.ofInt_natCast, BitVec.toNat_or, BitVec.toNat_ofNat, BitVec.toNat_ofNat, Nat.mod_eq_of_lt (by omega), Nat.mod_eq_of_lt (by omega)]
  have e2 : V * 256 ||| B = V * 256 + B := by
    have := Nat.two_pow_add_eq_or_of_lt (i := 8) (b := B) (by omega) V
    rw [Nat.mul_comm V 256]
    exact this.symm
  rw [e2]
  congr 1
set_option maxHeartbeats 4000000 in
theorem minus_any (w : World) (v : Int) (h0 : -9223372036854775808 ≤ v) (h1 : v ≤ 9223372036854775807) : Calls Try.prog 59 #[.int .i64 v] w fun e w' => e = .returned (.int .i64 (sgn v)) ∧ w = w' := by
  unfold sgn
  by_cases h : v ≥ 2147483648
  · rw [if_pos h]
    have hw : IntKind.i64.wrap (v - 4294967296) = v - 4294967296 := by rw [IntKind.wrap_i64]; omega
    have d : decide (2147483648 ≤ v) = true := decide_eq_true h
    go_enter Try.func59, Try.ntmps59
    go_wp2
    go_ret
    exact ⟨rfl, rfl⟩
  · rw [if_neg h]
    have d : decide (2147483648 ≤ v) = false := decide_eq_false h
    have h' : ¬ (2147483648 ≤ v) := h
    go_enter Try.func59, Try.ntmps59
    go_wp2
    go_ret
    exact ⟨rfl, rfl⟩
set_option maxHeartbeats 4000000 in
set_option maxRecDepth 100000 in
theorem get_any (w : World) (v : Value) (zs : List Int) (at' n : Nat) (h : RB w v zs) (hB : Bytes zs) (hn : n ≤ 8) (ha : at' ≤ 100000) (A0 N0 : Int) (hA0 : (at' : Int) = A0) (hN0 : (n : Int) = N0) :
    Calls Try.prog 43 #[v, .int .i64 A0, .int .i64 N0] w fun e w' => e = .returned (.int .i64 (IntKind.i64.wrap (gv zs at' n))) ∧ w = w' := by
  subst hA0 hN0
  obtain ⟨A, c, rfl, h1, h2, h3⟩ := h
  obtain ⟨m, hm⟩ : ∃ m, zs.length = m := ⟨_, rfl⟩
  rw [hm] at h1 h3 ⊢
  unfold maxLen at h2
  have HA := Lib.hid h3
  have HM := Lib.hid hm
  have HG := Lib.hid (gv_lo hB)
  have HD := Lib.hid (getD_byte hB)
  have hw0 : IntKind.i64.wrap ((n : Int) - 1) = (n : Int) - 1 := by rw [IntKind.wrap_i64]; omega
  clear h3 hm hB
  go_enter Try.func43, Try.ntmps43
  go_wp2_with fail
  go_loopw [7, 8] (fun v7 v8 we => ∃ j : Nat, j ≤ n ∧ v8 = .int .i64 ((j : Int) - 1) ∧ v7 = .int .i64 (IntKind.i64.wrap (gv zs (at' + j) (n - j))) ∧ we = w) (fun _ v8 _ => (intOf v8 + 1).toNat)
  case atStart => exact ⟨n, Nat.le_refl _, rfl, by rw [Nat.sub_self]; rfl, rfl⟩
  case round =>
    obtain ⟨j, hj, rfl, rfl, rfl⟩ := hrel
    rcases j with _ | k
    · rw [show ((0 : Nat) : Int) - 1 = -1 from rfl, Nat.add_zero, Nat.sub_zero]
      go_wp2
      go_ret
      exact ⟨rfl, rfl⟩
    · rw [show ((k + 1 : Nat) : Int) - 1 = (k : Int) by omega]
      obtain ⟨q, hq⟩ : ∃ q, n - (k + 1) = q := ⟨_, rfl⟩
      have hstep : Hid (gv zs (at' + k) (n - k) = zs.getD (at' + k) 0 + 256 * gv zs (at' + (k + 1)) q) := Lib.hid (by rw [show n - k = q + 1 by omega]; rfl)
      have hg := HG.out q (at' + (k + 1))
      have hb := HD.out (at' + k)
      obtain ⟨G, hGe⟩ : ∃ G, gv zs (at' + (k + 1)) q = G := ⟨_, rfl⟩
      obtain ⟨b, hbe⟩ : ∃ b, zs.getD (at' + k) 0 = b := ⟨_, rfl⟩
      have HBE := Lib.hid hbe
      have hg7 : G < 72057594037927936 := by
        have h7 := pow7 q (by omega)
        rw [hGe] at hg
        omega
      rw [hGe] at hg
      rw [hbe] at hb
      rw [hq, hGe]
      have HST : Hid (gv zs (at' + k) (n - k) = b + 256 * G) := Lib.hid (by rw [hstep.out, hGe, hbe])
      have hgw : IntKind.i64.wrap G = G := by rw [IntKind.wrap_i64]; omega
      rw [hgw]
      have hor := or_byteI G b hg.1 hg7 hb.1 hb.2
      have hg0 := hg.1
      have HOR := Lib.hid hor
      clear hGe hbe hg hgw hq hstep
      have hw1 : IntKind.i64.wrap ((at' : Int) + (k : Int)) = (at' : Int) + (k : Int) := by rw [IntKind.wrap_i64]; omega
      have hw2 : IntKind.i64.wrap ((k : Int) - 1) = (k : Int) - 1 := by rw [IntKind.wrap_i64]; omega
      have hk0 : (0 : Int) ≤ (k : Int) := by omega
      by_cases hin : at' + k < m
      · have hin' : (at' : Int) + (k : Int) < (m : Int) := by omega
        have hka : (0 : Int) ≤ (at' : Int) + (k : Int) := by omega
        obtain ⟨g0, o0, rfl, hc⟩ := HA.out (by omega)
        have hy := hc (at' + k) b (by rw [← HBE.out, List.getD_eq_getElem?_getD, List.getElem?_eq_getElem (by rw [HM.out]; exact hin)]; rfl)
        have hnt : ((at' : Int) + (k : Int)).toNat = at' + k := by omega
        clear hc
        go_wp2
        exact ⟨⟨k, by omega, rfl, congrArg _ (by rw [HST.out, w64]; exact HOR.out.trans (congrArg _ (by omega))), by first | rfl | trivial⟩, by simp [intOf] <;> omega⟩
      · have hin' : ¬ ((at' : Int) + (k : Int) < (m : Int)) := by omega
        obtain rfl : b = 0 := by rw [← HBE.out, List.getD_eq_getElem?_getD, List.getElem?_eq_none (by rw [HM.out]; omega)]; rfl
        go_wp2
        exact ⟨⟨k, by omega, rfl, congrArg _ (by rw [HST.out, w64]; exact congrArg _ (by omega)), by first | rfl | trivial⟩, by simp [intOf] <;> omega⟩
end Go.Proofs.Ytfpkdbogapmhmaa.O

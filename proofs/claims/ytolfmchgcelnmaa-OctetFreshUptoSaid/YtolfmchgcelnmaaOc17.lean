/- An item: its kind; laid behind bytes. -/
import Derived.Test.YtolfmchgcelnmaaOc16
namespace Go.Proofs.Ytolfmchgcelnmaa.O
open Go.RowKit Go.Proofs.Ytolfmchgcelnmaa.Mem
set_option linter.unusedVariables false
theorem and_low (v : Int) (k : Nat) (hk : k ≤ 62) (M : Int) (hM : M = ((2 ^ k - 1 : Nat) : Int)) (h0 : 0 ≤ v) (h1 : v < 18446744073709551616) : bits .and .u64 v M = v % ((2 ^ k : Nat) : Int) := by
  subst hM
  obtain ⟨V, rfl⟩ : ∃ V : Nat, v = (V : Int) := ⟨v.toNat, by omega⟩
  have h2 : 2 ^ k ≤ 4611686018427387904 := Nat.pow_le_pow_right (n := 2) (by decide) hk
  show IntKind.u64.wrap ((BitVec.ofInt 64 (V : Int) &&& BitVec.ofInt 64 ((2 ^ k - 1 : Nat) : Int)).toNat : Int) = _
  rw [BitVec.ofInt_natCast, BitVec.ofInt_natCast, BitVec.toNat_and, BitVec.toNat_ofNat, BitVec.toNat_ofNat, Nat.mod_eq_of_lt (by omega), Nat.mod_eq_of_lt (by omega), Nat.and_two_pow_sub_one_eq_mod, IntKind.wrap_u64, show (V : Int) % ((2 ^ k : Nat) : Int) = ((V % 2 ^ k : Nat) : Int) from rfl]
  have h3 : V % 2 ^ k < 2 ^ k := Nat.mod_lt _ (Nat.two_pow_pos k)
  generalize V % 2 ^ k = R at *
  omega
/-- The seventh rest. -/
theorem tmod7 (k : Int) (h : ¬ k.tmod 7 < 0) : k.tmod 7 = k % 7 := by
  rcases Int.lt_or_le k 0 with hk | hk
  · have e : k.tmod 7 = -((-k).tmod 7) := by rw [Int.neg_tmod, Int.neg_neg]
    have e2 : (-k).tmod 7 = (-k) % 7 := Int.tmod_eq_emod_of_nonneg (by omega)
    rw [e2] at e
    omega
  · exact Int.tmod_eq_emod_of_nonneg hk
theorem tmod7' (k : Int) (h : k.tmod 7 < 0) : k.tmod 7 + 7 = k % 7 := by
  rcases Int.lt_or_le k 0 with hk | hk
  · have e : k.tmod 7 = -((-k).tmod 7) := by rw [Int.neg_tmod, Int.neg_neg]
    have e2 : (-k).tmod 7 = (-k) % 7 := Int.tmod_eq_emod_of_nonneg (by omega)
    rw [e2] at e
    omega
  · rw [Int.tmod_eq_emod_of_nonneg hk] at h
    omega
theorem tmod_lo (k : Int) : -7 < k.tmod 7 := by
  rcases Int.lt_or_le k 0 with hk | hk
  · have e : k.tmod 7 = -((-k).tmod 7) := by rw [Int.neg_tmod, Int.neg_neg]
    have e2 : (-k).tmod 7 = (-k) % 7 := Int.tmod_eq_emod_of_nonneg (by omega)
    rw [e2] at e
    omega
  · rw [Int.tmod_eq_emod_of_nonneg hk]
    omega
set_option maxHeartbeats 1000000 in
theorem kind_any (w : World) (k v obj hi lo : Int) (A : Option Addr) (n c : Nat) (hk0 : -9223372036854775808 ≤ k) (hk1 : k ≤ 9223372036854775807) : Calls Try.prog 50 #[.agg #[.int .i64 k, .int .u64 v, .int .i64 obj, .int .u64 hi, .int .u64 lo, .slice A n c]] w fun e w' => e = .returned (.int .i64 (k % 7)) ∧ Below w.heap.size w w' := by
  have hbx := Lib.hid ((Below.refl w.heap.size w).alloc (Nat.le_refl _) (.cells #[.int .i64 k, .int .u64 v, .int .i64 obj, .int .u64 hi, .int .u64 lo, .slice A n c] 73))
  have hlo : -7 < k.tmod 7 := tmod_lo k
  have hhi : k.tmod 7 < 7 := by have := tmod7 k; have := tmod7' k; omega
  by_cases hn : k.tmod 7 < 0
  · rw [← tmod7' k hn]
    obtain ⟨R, hR⟩ : ∃ R, k.tmod 7 = R := ⟨_, rfl⟩
    rw [hR] at hlo hhi hn ⊢
    go_enter Try.func50, Try.ntmps50
    go_wp2
    go_ret
    exact ⟨rfl, hbx.out⟩
  · rw [← tmod7 k hn]
    obtain ⟨R, hR⟩ : ∃ R, k.tmod 7 = R := ⟨_, rfl⟩
    rw [hR] at hlo hhi hn ⊢
    go_enter Try.func50, Try.ntmps50
    go_wp2
    go_ret
    exact ⟨rfl, hbx.out⟩
/-- The bytes of an item. -/
def layB (k v obj hi lo : Int) (zs : List Int) : List Int := if k % 7 = 0 then le 1 (v % 256) else if k % 7 = 1 then le 2 (v % 65536) else if k % 7 = 2 then le 4 (v % 4294967296) else if k % 7 = 3 then le 8 v else if k % 7 = 4 then wordB hi lo else if k % 7 = 5 then capB obj hi lo else zs
theorem rws2 (w : World) (a b : Value) (za zb : List Int) (t : TypeId) (ha : RB w a za) (hb : RB w b zb) : Rws (w.alloc (.cells #[a, b] t)) (.slice (some ⟨w.heap.size, 0, none⟩) 2 2) 2 (three a b b) (three za zb zb) := by
  have hbl : Below w.heap.size w (w.alloc (.cells #[a, b] t)) := (Below.refl _ w).alloc (Nat.le_refl _) _
  refine ⟨_, _, rfl, Nat.le_refl _, by decide, fun i hi => ?_, fun _ => ⟨_, _, rfl, fun i hi => ?_⟩⟩
  · match i, hi with
    | 0, _ => exact ha.below hbl
    | 1, _ => exact hb.below hbl
  · rw [Nat.zero_add]
    refine cell_row (heap_alloc_new w _) ?_
    match i, hi with
    | 0, _ => rfl
    | 1, _ => rfl
set_option maxHeartbeats 4000000 in
set_option linter.unusedVariables false in
theorem lay0 (w : World) (vb : Value) (bs zs : List Int) (k v obj hi lo : Int) (A : Option Addr) (n c : Nat) (hk0 : -9223372036854775808 ≤ k) (hk1 : k ≤ 9223372036854775807) (h0 : 0 ≤ v) (h1 : v < 18446744073709551616) (ho0 : 0 ≤ obj) (ho1 : obj ≤ 4611686018427387904) (hh : U64 hi) (hl : U64 lo) (hb : bs.length ≤ 140737488351000) (hb2 : bs.length + zs.length ≤ 140737488351000) (hr : RB w vb bs) (hz : RB w (.slice A n c) zs) (hkk : k % 7 = 0) :
    Calls Try.prog 33 #[vb, .agg #[.int .i64 k, .int .u64 v, .int .i64 obj, .int .u64 hi, .int .u64 lo, .slice A n c]] w fun e w' => ∃ v', e = .returned v' ∧ OB w' v' (bs ++ le 1 (v % 256)) ∧ Below w.heap.size w w' ∧ Fresh w v' := by
  have HK := Lib.hid (kind_any (w.alloc (.cells #[.int .i64 k, .int .u64 v, .int .i64 obj, .int .u64 hi, .int .u64 lo, .slice A n c] 73)) k v obj hi lo A n c hk0 hk1)
  rw [hkk] at HK
  have hbx := (Below.refl w.heap.size w).alloc (Nat.le_refl _) (.cells #[.int .i64 k, .int .u64 v, .int .i64 obj, .int .u64 hi, .int .u64 lo, .slice A n c] 73)
  have HBX := Lib.hid hbx
  have HB0 := Lib.hid (hr.below hbx)
  have HZ0 := Lib.hid (hz.below hbx)
  have brow := Lib.hid (heap_alloc_new w (.cells #[.int .i64 k, .int .u64 v, .int .i64 obj, .int .u64 hi, .int .u64 lo, .slice A n c] 73))
  have E16 : Hid (IntKind.u16.wrap v = v % 65536) := IntKind.wrap_u16 v
  obtain ⟨Ab, cb, rfl, _⟩ := hr
  clear hz hkk hbx hk0 hk1
  go_enter Try.func33, Try.ntmps33
  go_wp2_with fail
  (with_reducible refine HK.out.mono ?_)
  rintro e w1 ⟨rfl, b1⟩
  have HB1 := Lib.hid (HB0.out.below b1)
  have HZ1 := Lib.hid (HZ0.out.below b1)
  have brow1 := (Kept.of_below (S := fun _ => False) b1).row brow.out (fun h => h)
  have HW1 : Hid (Below w.heap.size w w1) := HBX.out.trans (b1.mono HBX.out.size)
  have y1 : w1.cell? ⟨w.heap.size, 1, none⟩ = some (.int .u64 v) := cell_row brow1 rfl
  have y2 : w1.cell? ⟨w.heap.size, 2, none⟩ = some (.int .i64 obj) := cell_row brow1 rfl
  have y3 : w1.cell? ⟨w.heap.size, 3, none⟩ = some (.int .u64 hi) := cell_row brow1 rfl
  have y4 : w1.cell? ⟨w.heap.size, 4, none⟩ = some (.int .u64 lo) := cell_row brow1 rfl
  have y5 : w1.cell? ⟨w.heap.size, 5, none⟩ = some (.slice A n c) := cell_row brow1 rfl
  clear b1 brow1 HK HB0 HZ0 brow HBX
  have HX := Lib.hid (put1_any w1 (.slice Ab bs.length cb) bs (v % 256) (by omega) (by omega) (by omega) HB1.out)
  go_wp2_with fail
  (with_reducible refine HX.out.mono ?_)
  rintro e w2 ⟨A2, c2, rfl, o2, b2, f2⟩
  have O2 := Lib.hid o2
  have HW2 : Hid (Below w.heap.size w w2) := HW1.out.trans (b2.mono HW1.out.size)
  have F2 : Hid (Fresh w _) := fun b hb => Nat.le_trans HW1.out.size (f2 b hb)
  clear f2 o2 b2 HX y1 y2 y3 y4 y5
  go_wp2_with fail
  go_ret
  exact ⟨_, rfl, O2.out, HW2.out, F2.out⟩
set_option maxHeartbeats 4000000 in
set_option linter.unusedVariables false in
theorem lay1 (w : World) (vb : Value) (bs zs : List Int) (k v obj hi lo : Int) (A : Option Addr) (n c : Nat) (hk0 : -9223372036854775808 ≤ k) (hk1 : k ≤ 9223372036854775807) (h0 : 0 ≤ v) (h1 : v < 18446744073709551616) (ho0 : 0 ≤ obj) (ho1 : obj ≤ 4611686018427387904) (hh : U64 hi) (hl : U64 lo) (hb : bs.length ≤ 140737488351000) (hb2 : bs.length + zs.length ≤ 140737488351000) (hr : RB w vb bs) (hz : RB w (.slice A n c) zs) (hkk : k % 7 = 1) :
    Calls Try.prog 33 #[vb, .agg #[.int .i64 k, .int .u64 v, .int .i64 obj, .int .u64 hi, .int .u64 lo, .slice A n c]] w fun e w' => ∃ v', e = .returned v' ∧ OB w' v' (bs ++ le 2 (v % 65536)) ∧ Below w.heap.size w w' ∧ Fresh w v' := by
  have HK := Lib.hid (kind_any (w.alloc (.cells #[.int .i64 k, .int .u64 v, .int .i64 obj, .int .u64 hi, .int .u64 lo, .slice A n c] 73)) k v obj hi lo A n c hk0 hk1)
  rw [hkk] at HK
  have hbx := (Below.refl w.heap.size w).alloc (Nat.le_refl _) (.cells #[.int .i64 k, .int .u64 v, .int .i64 obj, .int .u64 hi, .int .u64 lo, .slice A n c] 73)
  have HBX := Lib.hid hbx
  have HB0 := Lib.hid (hr.below hbx)
  have HZ0 := Lib.hid (hz.below hbx)
  have brow := Lib.hid (heap_alloc_new w (.cells #[.int .i64 k, .int .u64 v, .int .i64 obj, .int .u64 hi, .int .u64 lo, .slice A n c] 73))
  have E16 : Hid (IntKind.u16.wrap v = v % 65536) := IntKind.wrap_u16 v
  obtain ⟨Ab, cb, rfl, _⟩ := hr
  clear hz hkk hbx hk0 hk1
  go_enter Try.func33, Try.ntmps33
  go_wp2_with fail
  (with_reducible refine HK.out.mono ?_)
  rintro e w1 ⟨rfl, b1⟩
  have HB1 := Lib.hid (HB0.out.below b1)
  have HZ1 := Lib.hid (HZ0.out.below b1)
  have brow1 := (Kept.of_below (S := fun _ => False) b1).row brow.out (fun h => h)
  have HW1 : Hid (Below w.heap.size w w1) := HBX.out.trans (b1.mono HBX.out.size)
  have y1 : w1.cell? ⟨w.heap.size, 1, none⟩ = some (.int .u64 v) := cell_row brow1 rfl
  have y2 : w1.cell? ⟨w.heap.size, 2, none⟩ = some (.int .i64 obj) := cell_row brow1 rfl
  have y3 : w1.cell? ⟨w.heap.size, 3, none⟩ = some (.int .u64 hi) := cell_row brow1 rfl
  have y4 : w1.cell? ⟨w.heap.size, 4, none⟩ = some (.int .u64 lo) := cell_row brow1 rfl
  have y5 : w1.cell? ⟨w.heap.size, 5, none⟩ = some (.slice A n c) := cell_row brow1 rfl
  clear b1 brow1 HK HB0 HZ0 brow HBX
  have HX := Lib.hid (put2_any w1 (.slice Ab bs.length cb) bs (IntKind.u16.wrap v) (by rw [E16.out]; omega) (by rw [E16.out]; omega) (by omega) HB1.out)
  go_wp2_with fail
  (with_reducible refine HX.out.mono ?_)
  rintro e w2 ⟨A2, c2, rfl, o2, b2, f2⟩
  rw [E16.out] at o2
  have O2 := Lib.hid o2
  have HW2 : Hid (Below w.heap.size w w2) := HW1.out.trans (b2.mono HW1.out.size)
  have F2 : Hid (Fresh w _) := fun b hb => Nat.le_trans HW1.out.size (f2 b hb)
  clear f2 o2 b2 HX y1 y2 y3 y4 y5
  go_wp2_with fail
  go_ret
  exact ⟨_, rfl, O2.out, HW2.out, F2.out⟩
set_option maxHeartbeats 4000000 in
set_option linter.unusedVariables false in
theorem lay2 (w : World) (vb : Value) (bs zs : List Int) (k v obj hi lo : Int) (A : Option Addr) (n c : Nat) (hk0 : -9223372036854775808 ≤ k) (hk1 : k ≤ 9223372036854775807) (h0 : 0 ≤ v) (h1 : v < 18446744073709551616) (ho0 : 0 ≤ obj) (ho1 : obj ≤ 4611686018427387904) (hh : U64 hi) (hl : U64 lo) (hb : bs.length ≤ 140737488351000) (hb2 : bs.length + zs.length ≤ 140737488351000) (hr : RB w vb bs) (hz : RB w (.slice A n c) zs) (hkk : k % 7 = 2) :
    Calls Try.prog 33 #[vb, .agg #[.int .i64 k, .int .u64 v, .int .i64 obj, .int .u64 hi, .int .u64 lo, .slice A n c]] w fun e w' => ∃ v', e = .returned v' ∧ OB w' v' (bs ++ le 4 (v % 4294967296)) ∧ Below w.heap.size w w' ∧ Fresh w v' := by
  have HK := Lib.hid (kind_any (w.alloc (.cells #[.int .i64 k, .int .u64 v, .int .i64 obj, .int .u64 hi, .int .u64 lo, .slice A n c] 73)) k v obj hi lo A n c hk0 hk1)
  rw [hkk] at HK
  have hbx := (Below.refl w.heap.size w).alloc (Nat.le_refl _) (.cells #[.int .i64 k, .int .u64 v, .int .i64 obj, .int .u64 hi, .int .u64 lo, .slice A n c] 73)
  have HBX := Lib.hid hbx
  have HB0 := Lib.hid (hr.below hbx)
  have HZ0 := Lib.hid (hz.below hbx)
  have brow := Lib.hid (heap_alloc_new w (.cells #[.int .i64 k, .int .u64 v, .int .i64 obj, .int .u64 hi, .int .u64 lo, .slice A n c] 73))
  have E16 : Hid (IntKind.u16.wrap v = v % 65536) := IntKind.wrap_u16 v
  obtain ⟨Ab, cb, rfl, _⟩ := hr
  clear hz hkk hbx hk0 hk1
  go_enter Try.func33, Try.ntmps33
  go_wp2_with fail
  (with_reducible refine HK.out.mono ?_)
  rintro e w1 ⟨rfl, b1⟩
  have HB1 := Lib.hid (HB0.out.below b1)
  have HZ1 := Lib.hid (HZ0.out.below b1)
  have brow1 := (Kept.of_below (S := fun _ => False) b1).row brow.out (fun h => h)
  have HW1 : Hid (Below w.heap.size w w1) := HBX.out.trans (b1.mono HBX.out.size)
  have y1 : w1.cell? ⟨w.heap.size, 1, none⟩ = some (.int .u64 v) := cell_row brow1 rfl
  have y2 : w1.cell? ⟨w.heap.size, 2, none⟩ = some (.int .i64 obj) := cell_row brow1 rfl
  have y3 : w1.cell? ⟨w.heap.size, 3, none⟩ = some (.int .u64 hi) := cell_row brow1 rfl
  have y4 : w1.cell? ⟨w.heap.size, 4, none⟩ = some (.int .u64 lo) := cell_row brow1 rfl
  have y5 : w1.cell? ⟨w.heap.size, 5, none⟩ = some (.slice A n c) := cell_row brow1 rfl
  clear b1 brow1 HK HB0 HZ0 brow HBX
  have HX := Lib.hid (put4_any w1 (.slice Ab bs.length cb) bs (v % 4294967296) (by omega) (by omega) (by omega) HB1.out)
  go_wp2_with fail
  (with_reducible refine HX.out.mono ?_)
  rintro e w2 ⟨A2, c2, rfl, o2, b2, f2⟩
  have O2 := Lib.hid o2
  have HW2 : Hid (Below w.heap.size w w2) := HW1.out.trans (b2.mono HW1.out.size)
  have F2 : Hid (Fresh w _) := fun b hb => Nat.le_trans HW1.out.size (f2 b hb)
  clear f2 o2 b2 HX y1 y2 y3 y4 y5
  go_wp2_with fail
  go_ret
  exact ⟨_, rfl, O2.out, HW2.out, F2.out⟩
set_option maxHeartbeats 4000000 in
set_option linter.unusedVariables false in
theorem lay3 (w : World) (vb : Value) (bs zs : List Int) (k v obj hi lo : Int) (A : Option Addr) (n c : Nat) (hk0 : -9223372036854775808 ≤ k) (hk1 : k ≤ 9223372036854775807) (h0 : 0 ≤ v) (h1 : v < 18446744073709551616) (ho0 : 0 ≤ obj) (ho1 : obj ≤ 4611686018427387904) (hh : U64 hi) (hl : U64 lo) (hb : bs.length ≤ 140737488351000) (hb2 : bs.length + zs.length ≤ 140737488351000) (hr : RB w vb bs) (hz : RB w (.slice A n c) zs) (hkk : k % 7 = 3) :
    Calls Try.prog 33 #[vb, .agg #[.int .i64 k, .int .u64 v, .int .i64 obj, .int .u64 hi, .int .u64 lo, .slice A n c]] w fun e w' => ∃ v', e = .returned v' ∧ OB w' v' (bs ++ le 8 v) ∧ Below w.heap.size w w' ∧ Fresh w v' := by
  have HK := Lib.hid (kind_any (w.alloc (.cells #[.int .i64 k, .int .u64 v, .int .i64 obj, .int .u64 hi, .int .u64 lo, .slice A n c] 73)) k v obj hi lo A n c hk0 hk1)
  rw [hkk] at HK
  have hbx := (Below.refl w.heap.size w).alloc (Nat.le_refl _) (.cells #[.int .i64 k, .int .u64 v, .int .i64 obj, .int .u64 hi, .int .u64 lo, .slice A n c] 73)
  have HBX := Lib.hid hbx
  have HB0 := Lib.hid (hr.below hbx)
  have HZ0 := Lib.hid (hz.below hbx)
  have brow := Lib.hid (heap_alloc_new w (.cells #[.int .i64 k, .int .u64 v, .int .i64 obj, .int .u64 hi, .int .u64 lo, .slice A n c] 73))
  have E16 : Hid (IntKind.u16.wrap v = v % 65536) := IntKind.wrap_u16 v
  obtain ⟨Ab, cb, rfl, _⟩ := hr
  clear hz hkk hbx hk0 hk1
  go_enter Try.func33, Try.ntmps33
  go_wp2_with fail
  (with_reducible refine HK.out.mono ?_)
  rintro e w1 ⟨rfl, b1⟩
  have HB1 := Lib.hid (HB0.out.below b1)
  have HZ1 := Lib.hid (HZ0.out.below b1)
  have brow1 := (Kept.of_below (S := fun _ => False) b1).row brow.out (fun h => h)
  have HW1 : Hid (Below w.heap.size w w1) := HBX.out.trans (b1.mono HBX.out.size)
  have y1 : w1.cell? ⟨w.heap.size, 1, none⟩ = some (.int .u64 v) := cell_row brow1 rfl
  have y2 : w1.cell? ⟨w.heap.size, 2, none⟩ = some (.int .i64 obj) := cell_row brow1 rfl
  have y3 : w1.cell? ⟨w.heap.size, 3, none⟩ = some (.int .u64 hi) := cell_row brow1 rfl
  have y4 : w1.cell? ⟨w.heap.size, 4, none⟩ = some (.int .u64 lo) := cell_row brow1 rfl
  have y5 : w1.cell? ⟨w.heap.size, 5, none⟩ = some (.slice A n c) := cell_row brow1 rfl
  clear b1 brow1 HK HB0 HZ0 brow HBX
  have HX := Lib.hid (put8_any w1 (.slice Ab bs.length cb) bs v h0 h1 (by omega) HB1.out)
  go_wp2_with fail
  (with_reducible refine HX.out.mono ?_)
  rintro e w2 ⟨A2, c2, rfl, o2, b2, f2⟩
  have O2 := Lib.hid o2
  have HW2 : Hid (Below w.heap.size w w2) := HW1.out.trans (b2.mono HW1.out.size)
  have F2 : Hid (Fresh w _) := fun b hb => Nat.le_trans HW1.out.size (f2 b hb)
  clear f2 o2 b2 HX y1 y2 y3 y4 y5
  go_wp2_with fail
  go_ret
  exact ⟨_, rfl, O2.out, HW2.out, F2.out⟩
set_option maxHeartbeats 4000000 in
set_option linter.unusedVariables false in
theorem lay4 (w : World) (vb : Value) (bs zs : List Int) (k v obj hi lo : Int) (A : Option Addr) (n c : Nat) (hk0 : -9223372036854775808 ≤ k) (hk1 : k ≤ 9223372036854775807) (h0 : 0 ≤ v) (h1 : v < 18446744073709551616) (ho0 : 0 ≤ obj) (ho1 : obj ≤ 4611686018427387904) (hh : U64 hi) (hl : U64 lo) (hb : bs.length ≤ 140737488351000) (hb2 : bs.length + zs.length ≤ 140737488351000) (hr : RB w vb bs) (hz : RB w (.slice A n c) zs) (hkk : k % 7 = 4) :
    Calls Try.prog 33 #[vb, .agg #[.int .i64 k, .int .u64 v, .int .i64 obj, .int .u64 hi, .int .u64 lo, .slice A n c]] w fun e w' => ∃ v', e = .returned v' ∧ OB w' v' (bs ++ wordB hi lo) ∧ Below w.heap.size w w' ∧ Fresh w v' := by
  have HK := Lib.hid (kind_any (w.alloc (.cells #[.int .i64 k, .int .u64 v, .int .i64 obj, .int .u64 hi, .int .u64 lo, .slice A n c] 73)) k v obj hi lo A n c hk0 hk1)
  rw [hkk] at HK
  have hbx := (Below.refl w.heap.size w).alloc (Nat.le_refl _) (.cells #[.int .i64 k, .int .u64 v, .int .i64 obj, .int .u64 hi, .int .u64 lo, .slice A n c] 73)
  have HBX := Lib.hid hbx
  have HB0 := Lib.hid (hr.below hbx)
  have HZ0 := Lib.hid (hz.below hbx)
  have brow := Lib.hid (heap_alloc_new w (.cells #[.int .i64 k, .int .u64 v, .int .i64 obj, .int .u64 hi, .int .u64 lo, .slice A n c] 73))
  have E16 : Hid (IntKind.u16.wrap v = v % 65536) := IntKind.wrap_u16 v
  obtain ⟨Ab, cb, rfl, _⟩ := hr
  clear hz hkk hbx hk0 hk1
  go_enter Try.func33, Try.ntmps33
  go_wp2_with fail
  (with_reducible refine HK.out.mono ?_)
  rintro e w1 ⟨rfl, b1⟩
  have HB1 := Lib.hid (HB0.out.below b1)
  have HZ1 := Lib.hid (HZ0.out.below b1)
  have brow1 := (Kept.of_below (S := fun _ => False) b1).row brow.out (fun h => h)
  have HW1 : Hid (Below w.heap.size w w1) := HBX.out.trans (b1.mono HBX.out.size)
  have y1 : w1.cell? ⟨w.heap.size, 1, none⟩ = some (.int .u64 v) := cell_row brow1 rfl
  have y2 : w1.cell? ⟨w.heap.size, 2, none⟩ = some (.int .i64 obj) := cell_row brow1 rfl
  have y3 : w1.cell? ⟨w.heap.size, 3, none⟩ = some (.int .u64 hi) := cell_row brow1 rfl
  have y4 : w1.cell? ⟨w.heap.size, 4, none⟩ = some (.int .u64 lo) := cell_row brow1 rfl
  have y5 : w1.cell? ⟨w.heap.size, 5, none⟩ = some (.slice A n c) := cell_row brow1 rfl
  clear b1 brow1 HK HB0 HZ0 brow HBX
  have HX := Lib.hid (word_any w1 (.slice Ab bs.length cb) bs hi lo hh hl (by omega) HB1.out)
  go_wp2_with fail
  (with_reducible refine HX.out.mono ?_)
  rintro e w2 ⟨A2, c2, rfl, o2, b2, f2⟩
  have O2 := Lib.hid o2
  have HW2 : Hid (Below w.heap.size w w2) := HW1.out.trans (b2.mono HW1.out.size)
  have F2 : Hid (Fresh w _) := fun b hb => Nat.le_trans HW1.out.size (f2 b hb)
  clear f2 o2 b2 HX y1 y2 y3 y4 y5
  go_wp2_with fail
  go_ret
  exact ⟨_, rfl, O2.out, HW2.out, F2.out⟩
set_option maxHeartbeats 4000000 in
set_option linter.unusedVariables false in
theorem lay5 (w : World) (vb : Value) (bs zs : List Int) (k v obj hi lo : Int) (A : Option Addr) (n c : Nat) (hk0 : -9223372036854775808 ≤ k) (hk1 : k ≤ 9223372036854775807) (h0 : 0 ≤ v) (h1 : v < 18446744073709551616) (ho0 : 0 ≤ obj) (ho1 : obj ≤ 4611686018427387904) (hh : U64 hi) (hl : U64 lo) (hb : bs.length ≤ 140737488351000) (hb2 : bs.length + zs.length ≤ 140737488351000) (hr : RB w vb bs) (hz : RB w (.slice A n c) zs) (hkk : k % 7 = 5) :
    Calls Try.prog 33 #[vb, .agg #[.int .i64 k, .int .u64 v, .int .i64 obj, .int .u64 hi, .int .u64 lo, .slice A n c]] w fun e w' => ∃ v', e = .returned v' ∧ OB w' v' (bs ++ capB obj hi lo) ∧ Below w.heap.size w w' ∧ Fresh w v' := by
  have HK := Lib.hid (kind_any (w.alloc (.cells #[.int .i64 k, .int .u64 v, .int .i64 obj, .int .u64 hi, .int .u64 lo, .slice A n c] 73)) k v obj hi lo A n c hk0 hk1)
  rw [hkk] at HK
  have hbx := (Below.refl w.heap.size w).alloc (Nat.le_refl _) (.cells #[.int .i64 k, .int .u64 v, .int .i64 obj, .int .u64 hi, .int .u64 lo, .slice A n c] 73)
  have HBX := Lib.hid hbx
  have HB0 := Lib.hid (hr.below hbx)
  have HZ0 := Lib.hid (hz.below hbx)
  have brow := Lib.hid (heap_alloc_new w (.cells #[.int .i64 k, .int .u64 v, .int .i64 obj, .int .u64 hi, .int .u64 lo, .slice A n c] 73))
  have E16 : Hid (IntKind.u16.wrap v = v % 65536) := IntKind.wrap_u16 v
  obtain ⟨Ab, cb, rfl, _⟩ := hr
  clear hz hkk hbx hk0 hk1
  go_enter Try.func33, Try.ntmps33
  go_wp2_with fail
  (with_reducible refine HK.out.mono ?_)
  rintro e w1 ⟨rfl, b1⟩
  have HB1 := Lib.hid (HB0.out.below b1)
  have HZ1 := Lib.hid (HZ0.out.below b1)
  have brow1 := (Kept.of_below (S := fun _ => False) b1).row brow.out (fun h => h)
  have HW1 : Hid (Below w.heap.size w w1) := HBX.out.trans (b1.mono HBX.out.size)
  have y1 : w1.cell? ⟨w.heap.size, 1, none⟩ = some (.int .u64 v) := cell_row brow1 rfl
  have y2 : w1.cell? ⟨w.heap.size, 2, none⟩ = some (.int .i64 obj) := cell_row brow1 rfl
  have y3 : w1.cell? ⟨w.heap.size, 3, none⟩ = some (.int .u64 hi) := cell_row brow1 rfl
  have y4 : w1.cell? ⟨w.heap.size, 4, none⟩ = some (.int .u64 lo) := cell_row brow1 rfl
  have y5 : w1.cell? ⟨w.heap.size, 5, none⟩ = some (.slice A n c) := cell_row brow1 rfl
  clear b1 brow1 HK HB0 HZ0 brow HBX
  have HX := Lib.hid (cap_any w1 (.slice Ab bs.length cb) bs obj hi lo ho0 ho1 hh hl (by omega) HB1.out)
  go_wp2_with fail
  (with_reducible refine HX.out.mono ?_)
  rintro e w2 ⟨A2, c2, rfl, o2, b2, f2⟩
  have O2 := Lib.hid o2
  have HW2 : Hid (Below w.heap.size w w2) := HW1.out.trans (b2.mono HW1.out.size)
  have F2 : Hid (Fresh w _) := fun b hb => Nat.le_trans HW1.out.size (f2 b hb)
  clear f2 o2 b2 HX y1 y2 y3 y4 y5
  go_wp2_with fail
  go_ret
  exact ⟨_, rfl, O2.out, HW2.out, F2.out⟩
set_option maxHeartbeats 4000000 in
set_option linter.unusedVariables false in
theorem lay6 (w : World) (vb : Value) (bs zs : List Int) (k v obj hi lo : Int) (A : Option Addr) (n c : Nat) (hk0 : -9223372036854775808 ≤ k) (hk1 : k ≤ 9223372036854775807) (h0 : 0 ≤ v) (h1 : v < 18446744073709551616) (ho0 : 0 ≤ obj) (ho1 : obj ≤ 4611686018427387904) (hh : U64 hi) (hl : U64 lo) (hb : bs.length ≤ 140737488351000) (hb2 : bs.length + zs.length ≤ 140737488351000) (hr : RB w vb bs) (hz : RB w (.slice A n c) zs) (hkk : k % 7 = 6) :
    Calls Try.prog 33 #[vb, .agg #[.int .i64 k, .int .u64 v, .int .i64 obj, .int .u64 hi, .int .u64 lo, .slice A n c]] w fun e w' => ∃ v', e = .returned v' ∧ OB w' v' (bs ++ zs) ∧ Below w.heap.size w w' ∧ Fresh w v' := by
  have HK := Lib.hid (kind_any (w.alloc (.cells #[.int .i64 k, .int .u64 v, .int .i64 obj, .int .u64 hi, .int .u64 lo, .slice A n c] 73)) k v obj hi lo A n c hk0 hk1)
  rw [hkk] at HK
  have hbx := (Below.refl w.heap.size w).alloc (Nat.le_refl _) (.cells #[.int .i64 k, .int .u64 v, .int .i64 obj, .int .u64 hi, .int .u64 lo, .slice A n c] 73)
  have HBX := Lib.hid hbx
  have HB0 := Lib.hid (hr.below hbx)
  have HZ0 := Lib.hid (hz.below hbx)
  have brow := Lib.hid (heap_alloc_new w (.cells #[.int .i64 k, .int .u64 v, .int .i64 obj, .int .u64 hi, .int .u64 lo, .slice A n c] 73))
  have E16 : Hid (IntKind.u16.wrap v = v % 65536) := IntKind.wrap_u16 v
  obtain ⟨Ab, cb, rfl, _⟩ := hr
  clear hz hkk hbx hk0 hk1
  go_enter Try.func33, Try.ntmps33
  go_wp2_with fail
  (with_reducible refine HK.out.mono ?_)
  rintro e w1 ⟨rfl, b1⟩
  have HB1 := Lib.hid (HB0.out.below b1)
  have HZ1 := Lib.hid (HZ0.out.below b1)
  have brow1 := (Kept.of_below (S := fun _ => False) b1).row brow.out (fun h => h)
  have HW1 : Hid (Below w.heap.size w w1) := HBX.out.trans (b1.mono HBX.out.size)
  have y1 : w1.cell? ⟨w.heap.size, 1, none⟩ = some (.int .u64 v) := cell_row brow1 rfl
  have y2 : w1.cell? ⟨w.heap.size, 2, none⟩ = some (.int .i64 obj) := cell_row brow1 rfl
  have y3 : w1.cell? ⟨w.heap.size, 3, none⟩ = some (.int .u64 hi) := cell_row brow1 rfl
  have y4 : w1.cell? ⟨w.heap.size, 4, none⟩ = some (.int .u64 lo) := cell_row brow1 rfl
  have y5 : w1.cell? ⟨w.heap.size, 5, none⟩ = some (.slice A n c) := cell_row brow1 rfl
  clear b1 brow1 HK HB0 HZ0 brow HBX
  have HRW := Lib.hid (rws2 w1 (.slice Ab bs.length cb) (.slice A n c) bs zs 22 HB1.out HZ1.out)
  have b0 : Hid (Below w1.heap.size w1 (w1.alloc (.cells #[.slice Ab bs.length cb, .slice A n c] 22))) := (Below.refl _ w1).alloc (Nat.le_refl _) _
  have HX := Lib.hid (join_any (w1.alloc (.cells #[.slice Ab bs.length cb, .slice A n c] 22)) _ 2 _ _ (by simp [joinZ, three]; omega) (by decide) HRW.out)
  go_wp2_with fail
  (with_reducible refine HX.out.mono ?_)
  rintro e w2 ⟨A2, c2, rfl, o2, b2, f2⟩
  have O2 := Lib.hid o2
  have HW2 : Hid (Below w.heap.size w w2) := (HW1.out.trans (b0.out.mono HW1.out.size)).trans (b2.mono (Nat.le_trans HW1.out.size b0.out.size))
  have F2 : Hid (Fresh w _) := fun b hb => Nat.le_trans (Nat.le_trans HW1.out.size b0.out.size) (f2 b hb)
  clear f2 o2 b2 HX y1 y2 y3 y4 y5
  go_wp2_with fail
  go_ret
  exact ⟨_, rfl, O2.out, HW2.out, F2.out⟩
theorem lay_any (w : World) (vb : Value) (bs zs : List Int) (k v obj hi lo : Int) (A : Option Addr) (n c : Nat) (hk0 : -9223372036854775808 ≤ k) (hk1 : k ≤ 9223372036854775807) (h0 : 0 ≤ v) (h1 : v < 18446744073709551616) (ho0 : 0 ≤ obj) (ho1 : obj ≤ 4611686018427387904) (hh : U64 hi) (hl : U64 lo) (hb : bs.length ≤ 140737488351000) (hb2 : bs.length + zs.length ≤ 140737488351000) (hr : RB w vb bs) (hz : RB w (.slice A n c) zs) :
    Calls Try.prog 33 #[vb, .agg #[.int .i64 k, .int .u64 v, .int .i64 obj, .int .u64 hi, .int .u64 lo, .slice A n c]] w fun e w' => ∃ v', e = .returned v' ∧ OB w' v' (bs ++ layB k v obj hi lo zs) ∧ Below w.heap.size w w' ∧ Fresh w v' := by
  unfold layB
  by_cases e0 : k % 7 = 0
  · rw [if_pos e0]; exact lay0 w vb bs zs k v obj hi lo A n c hk0 hk1 h0 h1 ho0 ho1 hh hl hb hb2 hr hz e0
  rw [if_neg e0]
  by_cases e1 : k % 7 = 1
  · rw [if_pos e1]; exact lay1 w vb bs zs k v obj hi lo A n c hk0 hk1 h0 h1 ho0 ho1 hh hl hb hb2 hr hz e1
  rw [if_neg e1]
  by_cases e2 : k % 7 = 2
  · rw [if_pos e2]; exact lay2 w vb bs zs k v obj hi lo A n c hk0 hk1 h0 h1 ho0 ho1 hh hl hb hb2 hr hz e2
  rw [if_neg e2]
  by_cases e3 : k % 7 = 3
  · rw [if_pos e3]; exact lay3 w vb bs zs k v obj hi lo A n c hk0 hk1 h0 h1 ho0 ho1 hh hl hb hb2 hr hz e3
  rw [if_neg e3]
  by_cases e4 : k % 7 = 4
  · rw [if_pos e4]; exact lay4 w vb bs zs k v obj hi lo A n c hk0 hk1 h0 h1 ho0 ho1 hh hl hb hb2 hr hz e4
  rw [if_neg e4]
  by_cases e5 : k % 7 = 5
  · rw [if_pos e5]; exact lay5 w vb bs zs k v obj hi lo A n c hk0 hk1 h0 h1 ho0 ho1 hh hl hb hb2 hr hz e5
  rw [if_neg e5]
  exact lay6 w vb bs zs k v obj hi lo A n c hk0 hk1 h0 h1 ho0 ho1 hh hl hb hb2 hr hz (by omega)
end Go.Proofs.Ytolfmchgcelnmaa.O

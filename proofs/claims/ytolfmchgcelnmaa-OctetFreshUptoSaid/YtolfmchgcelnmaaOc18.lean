/- An item read back. -/
import Derived.Test.YtolfmchgcelnmaaOc17
namespace Go.Proofs.Ytolfmchgcelnmaa.O
open Go.RowKit Go.Proofs.Ytolfmchgcelnmaa.Mem
set_option linter.unusedVariables false
theorem num_back (k : Nat) (hk : (k : Int) = 1 ∨ (k : Int) = 2 ∨ (k : Int) = 4 ∨ (k : Int) = 8) (x : Int) (rest : List Int) (h0 : 0 ≤ x) (h1 : x < 256 ^ k) : numE (le k x ++ rest) k = 0 ∧ numV (le k x ++ rest) k = x ∧ numL (le k x ++ rest) k = rest := by
  have hk0 : ¬ ¬ ((k : Int) = 1 ∨ (k : Int) = 2 ∨ (k : Int) = 4 ∨ (k : Int) = 8) := fun h => h hk
  have hl : ¬ (((le k x ++ rest).length : Int) < (k : Int)) := by rw [List.length_append, le_len]; omega
  unfold numE numV numL
  rw [if_neg hk0, if_neg hk0, if_neg hk0, if_neg hl, if_neg hl, if_neg hl, Int.toNat_natCast, List.take_left' (le_len k x), List.drop_left' (le_len k x), val_le k x h0 h1]
  exact ⟨rfl, rfl, rfl⟩
theorem int_back (x : Int) (rest : List Int) (h0 : 0 ≤ x) (h1 : x < 65536) : intE (le 2 x ++ rest) 2 65535 = 0 ∧ intV (le 2 x ++ rest) 2 65535 = x ∧ intL (le 2 x ++ rest) 2 65535 = rest := by
  obtain ⟨a, b, c⟩ := num_back 2 (by decide) x rest h0 h1
  change numE (le 2 x ++ rest) 2 = 0 at a
  change numV (le 2 x ++ rest) 2 = x at b
  change numL (le 2 x ++ rest) 2 = rest at c
  unfold intE intV intL
  have z0 : ¬ ((65535 : Int) < 0) := by decide
  have z1 : ¬ ((0 : Int) ≠ 0) := fun h => h rfl
  have z2 : ¬ (x > 65535) := by omega
  rw [a, b, c, if_neg z0, if_neg z0, if_neg z0, if_neg z1, if_neg z1, if_neg z1, if_neg z2, if_neg z2, if_neg z2]
  exact ⟨rfl, rfl, rfl⟩
theorem word_back (hi lo : Int) (rest : List Int) (hh : U64 hi) (hl : U64 lo) : wordE (wordB hi lo ++ rest) = 0 ∧ wordH (wordB hi lo ++ rest) = hi ∧ wordL (wordB hi lo ++ rest) = lo ∧ wordR (wordB hi lo ++ rest) = rest := by
  have hlen : ¬ (wordB hi lo ++ rest).length < 16 := by rw [List.length_append, wordB, List.length_append, le_len, le_len]; omega
  unfold wordE wordH wordL wordR
  rw [if_neg hlen, if_neg hlen, if_neg hlen, if_neg hlen]
  have e : wordB hi lo ++ rest = le 8 lo ++ (le 8 hi ++ rest) := by rw [wordB, List.append_assoc]
  refine ⟨rfl, ?_, ?_, ?_⟩
  · rw [e, List.drop_left' (le_len 8 lo), List.take_left' (le_len 8 hi)]
    exact val_le 8 hi hh.1 hh.2
  · rw [e, List.take_left' (le_len 8 lo)]
    exact val_le 8 lo hl.1 hl.2
  · exact List.drop_left' (by rw [wordB, List.length_append, le_len, le_len])
theorem ka_back (obj hi lo : Int) (rest : List Int) (h0 : 0 ≤ obj) (h1 : obj ≤ 4611686018427387904) (hh : U64 hi) (hl : U64 lo) : kaE (capB obj hi lo ++ rest) = 0 ∧ kaO (capB obj hi lo ++ rest) = obj ∧ kaH (capB obj hi lo ++ rest) = hi ∧ kaL (capB obj hi lo ++ rest) = lo ∧ kaR (capB obj hi lo ++ rest) = rest := by
  have hlen : ¬ (capB obj hi lo ++ rest).length < 24 := by rw [List.length_append, capB_len]; omega
  have e : capB obj hi lo ++ rest = le 8 obj ++ (le 8 lo ++ (le 8 hi ++ rest)) := by rw [capB, wordB]; simp [List.append_assoc]
  have e8 : val ((capB obj hi lo ++ rest).take 8) = obj := by
    rw [e, List.take_left' (le_len 8 obj)]
    exact val_le 8 obj h0 (by omega)
  unfold kaE kaO kaH kaL kaR
  rw [if_neg hlen, if_neg hlen, if_neg hlen, if_neg hlen, if_neg hlen, e8, if_neg (by omega), if_neg (by omega), if_neg (by omega), if_neg (by omega), if_neg (by omega)]
  refine ⟨rfl, rfl, ?_, ?_, List.drop_left' (capB_len obj hi lo)⟩
  · rw [e, show (16 : Nat) = 8 + 8 from rfl, ← List.drop_drop, List.drop_left' (le_len 8 obj), List.drop_left' (le_len 8 lo), List.take_left' (le_len 8 hi)]
    exact val_le 8 hi hh.1 hh.2
  · rw [e, List.drop_left' (le_len 8 obj), List.take_left' (le_len 8 lo)]
    exact val_le 8 lo hl.1 hl.2
theorem row_back (zs rest : List Int) : rowE (zs ++ rest) zs.length = 0 ∧ rowZ (zs ++ rest) zs.length = zs ∧ rowL (zs ++ rest) zs.length = rest := by
  unfold rowE rowZ rowL
  have z0 : ¬ ((zs.length : Int) < 0) := by omega
  have z1 : ¬ (((zs ++ rest).length : Int) < (zs.length : Int)) := by rw [List.length_append]; omega
  rw [if_neg z0, if_neg z0, if_neg z0, if_neg z1, if_neg z1, if_neg z1, Int.toNat_natCast, List.take_left' rfl, List.drop_left' rfl]
  exact ⟨rfl, rfl, rfl⟩
set_option maxHeartbeats 4000000 in
theorem back0 (w : World) (r : Nat) (rest zs : List Int) (F : Nat → Prop) (k v obj hi lo : Int) (A : Option Addr) (n c : Nat) (hn : zs.length = n) (hk0 : -9223372036854775808 ≤ k) (hk1 : k ≤ 9223372036854775807) (h0 : 0 ≤ v) (h1 : v < 18446744073709551616) (ho0 : 0 ≤ obj) (ho1 : obj ≤ 4611686018427387904) (hh : U64 hi) (hl : U64 lo) (hr : Rd 82 w r (le 1 (v % 256) ++ rest) F) (hB : Bytes (le 1 (v % 256) ++ rest)) (hb : (le 1 (v % 256) ++ rest).length ≤ 140737488355000) (hz : ∀ w', Kept (fun b => b = r) w w' → RB w' (.slice A n c) zs) (hkk : k % 7 = 0) :
    Calls Try.prog 34 #[.pointer (some ⟨r, 0, none⟩), .agg #[.int .i64 k, .int .u64 v, .int .i64 obj, .int .u64 hi, .int .u64 lo, .slice A n c]] w fun e w' => e = .returned (.bool true) ∧ Rd 82 w' r rest F ∧ Kept (fun b => b = r) w w' := by
  have HK := Lib.hid (kind_any (w.alloc (.cells #[.int .i64 k, .int .u64 v, .int .i64 obj, .int .u64 hi, .int .u64 lo, .slice A n c] 73)) k v obj hi lo A n c hk0 hk1)
  rw [hkk] at HK
  have hbx := (Below.refl w.heap.size w).alloc (Nat.le_refl _) (.cells #[.int .i64 k, .int .u64 v, .int .i64 obj, .int .u64 hi, .int .u64 lo, .slice A n c] 73)
  have HBX := Lib.hid hbx
  have HR0 := Lib.hid (hr.below hbx)
  have hpr : Hid (w.heap.size ≠ r) := by have := hr.lt; show _ ≠ _; omega
  have brow := Lib.hid (heap_alloc_new w (.cells #[.int .i64 k, .int .u64 v, .int .i64 obj, .int .u64 hi, .int .u64 lo, .slice A n c] 73))
  have HZ := Lib.hid hz
  have HBY := Lib.hid hB
  clear hr hkk hbx hk0 hk1 hz hB
  go_enter Try.func34, Try.ntmps34
  go_wp2_with fail
  (with_reducible refine HK.out.mono ?_)
  rintro e w1 ⟨rfl, b1⟩
  have HR1 := Lib.hid (HR0.out.below b1)
  have brow1 := Lib.hid ((Kept.of_below (S := fun _ => False) b1).row brow.out (fun h => h))
  have HW1 : Hid (Below w.heap.size w w1) := HBX.out.trans (b1.mono HBX.out.size)
  have x5 : w1.cell? ⟨w.heap.size, 5, none⟩ = some (.slice A n c) := cell_row brow1.out rfl
  clear b1 HK HR0 brow HBX
  obtain ⟨e1, e2, e3⟩ := num_back 1 (by decide) (v % 256) rest (by omega) (by omega)
  change numE (le 1 (v % 256) ++ rest) 1 = 0 at e1
  change numV (le 1 (v % 256) ++ rest) 1 = _ at e2
  change numL (le 1 (v % 256) ++ rest) 1 = _ at e3
  have haf : bits .and .u64 v 255 = v % 256 := and_low v 8 (by decide) 255 (by decide) h0 h1
  have HX := number_any w1 r (le 1 (v % 256) ++ rest) F HR1.out HBY.out 1
  rw [e1, e2, e3] at HX
  replace HX := Lib.hid HX
  go_wp2_with fail
  (with_reducible refine HX.out.mono ?_)
  rintro e w2 ⟨rfl, g2, k2⟩
  have G2 := Lib.hid g2
  have brow2 := k2.row brow1.out hpr.out
  have KW : Hid (Kept (fun b => b = r) w w2) := (Kept.of_below (S := fun b => b = r) HW1.out).trans k2 (fun x hx => .inl hx)
  have hpw := lt_of_row brow2
  have y1 : w2.cell? ⟨w.heap.size, 1, none⟩ = some (.int .u64 v) := cell_row brow2 rfl
  have y2 : w2.cell? ⟨w.heap.size, 2, none⟩ = some (.int .i64 obj) := cell_row brow2 rfl
  have y3 : w2.cell? ⟨w.heap.size, 3, none⟩ = some (.int .u64 hi) := cell_row brow2 rfl
  have y4 : w2.cell? ⟨w.heap.size, 4, none⟩ = some (.int .u64 lo) := cell_row brow2 rfl
  have y5 : w2.cell? ⟨w.heap.size, 5, none⟩ = some (.slice A n c) := cell_row brow2 rfl
  clear x5 brow2 g2 k2 HX brow1 HR1
  obtain ⟨q, hq⟩ : ∃ q, w.heap.size = q := ⟨_, rfl⟩
  rw [hq] at y1 y2 y3 y4 y5 hpw
  rw [hq]
  clear hq hpr HW1
  clear e1 e2 e3
  go_wp2_with fail
  go_ret
  exact ⟨rfl, G2.out, KW.out⟩
set_option maxHeartbeats 4000000 in
theorem back2 (w : World) (r : Nat) (rest zs : List Int) (F : Nat → Prop) (k v obj hi lo : Int) (A : Option Addr) (n c : Nat) (hn : zs.length = n) (hk0 : -9223372036854775808 ≤ k) (hk1 : k ≤ 9223372036854775807) (h0 : 0 ≤ v) (h1 : v < 18446744073709551616) (ho0 : 0 ≤ obj) (ho1 : obj ≤ 4611686018427387904) (hh : U64 hi) (hl : U64 lo) (hr : Rd 82 w r (le 4 (v % 4294967296) ++ rest) F) (hB : Bytes (le 4 (v % 4294967296) ++ rest)) (hb : (le 4 (v % 4294967296) ++ rest).length ≤ 140737488355000) (hz : ∀ w', Kept (fun b => b = r) w w' → RB w' (.slice A n c) zs) (hkk : k % 7 = 2) :
    Calls Try.prog 34 #[.pointer (some ⟨r, 0, none⟩), .agg #[.int .i64 k, .int .u64 v, .int .i64 obj, .int .u64 hi, .int .u64 lo, .slice A n c]] w fun e w' => e = .returned (.bool true) ∧ Rd 82 w' r rest F ∧ Kept (fun b => b = r) w w' := by
  have HK := Lib.hid (kind_any (w.alloc (.cells #[.int .i64 k, .int .u64 v, .int .i64 obj, .int .u64 hi, .int .u64 lo, .slice A n c] 73)) k v obj hi lo A n c hk0 hk1)
  rw [hkk] at HK
  have hbx := (Below.refl w.heap.size w).alloc (Nat.le_refl _) (.cells #[.int .i64 k, .int .u64 v, .int .i64 obj, .int .u64 hi, .int .u64 lo, .slice A n c] 73)
  have HBX := Lib.hid hbx
  have HR0 := Lib.hid (hr.below hbx)
  have hpr : Hid (w.heap.size ≠ r) := by have := hr.lt; show _ ≠ _; omega
  have brow := Lib.hid (heap_alloc_new w (.cells #[.int .i64 k, .int .u64 v, .int .i64 obj, .int .u64 hi, .int .u64 lo, .slice A n c] 73))
  have HZ := Lib.hid hz
  have HBY := Lib.hid hB
  clear hr hkk hbx hk0 hk1 hz hB
  go_enter Try.func34, Try.ntmps34
  go_wp2_with fail
  (with_reducible refine HK.out.mono ?_)
  rintro e w1 ⟨rfl, b1⟩
  have HR1 := Lib.hid (HR0.out.below b1)
  have brow1 := Lib.hid ((Kept.of_below (S := fun _ => False) b1).row brow.out (fun h => h))
  have HW1 : Hid (Below w.heap.size w w1) := HBX.out.trans (b1.mono HBX.out.size)
  have x5 : w1.cell? ⟨w.heap.size, 5, none⟩ = some (.slice A n c) := cell_row brow1.out rfl
  clear b1 HK HR0 brow HBX
  obtain ⟨e1, e2, e3⟩ := num_back 4 (by decide) (v % 4294967296) rest (by omega) (by omega)
  change numE (le 4 (v % 4294967296) ++ rest) 4 = 0 at e1
  change numV (le 4 (v % 4294967296) ++ rest) 4 = _ at e2
  change numL (le 4 (v % 4294967296) ++ rest) 4 = _ at e3
  have haf : bits .and .u64 v 4294967295 = v % 4294967296 := and_low v 32 (by decide) 4294967295 (by decide) h0 h1
  have HX := number_any w1 r (le 4 (v % 4294967296) ++ rest) F HR1.out HBY.out 4
  rw [e1, e2, e3] at HX
  replace HX := Lib.hid HX
  go_wp2_with fail
  (with_reducible refine HX.out.mono ?_)
  rintro e w2 ⟨rfl, g2, k2⟩
  have G2 := Lib.hid g2
  have brow2 := k2.row brow1.out hpr.out
  have KW : Hid (Kept (fun b => b = r) w w2) := (Kept.of_below (S := fun b => b = r) HW1.out).trans k2 (fun x hx => .inl hx)
  have hpw := lt_of_row brow2
  have y1 : w2.cell? ⟨w.heap.size, 1, none⟩ = some (.int .u64 v) := cell_row brow2 rfl
  have y2 : w2.cell? ⟨w.heap.size, 2, none⟩ = some (.int .i64 obj) := cell_row brow2 rfl
  have y3 : w2.cell? ⟨w.heap.size, 3, none⟩ = some (.int .u64 hi) := cell_row brow2 rfl
  have y4 : w2.cell? ⟨w.heap.size, 4, none⟩ = some (.int .u64 lo) := cell_row brow2 rfl
  have y5 : w2.cell? ⟨w.heap.size, 5, none⟩ = some (.slice A n c) := cell_row brow2 rfl
  clear x5 brow2 g2 k2 HX brow1 HR1
  obtain ⟨q, hq⟩ : ∃ q, w.heap.size = q := ⟨_, rfl⟩
  rw [hq] at y1 y2 y3 y4 y5 hpw
  rw [hq]
  clear hq hpr HW1
  clear e1 e2 e3
  go_wp2_with fail
  go_ret
  exact ⟨rfl, G2.out, KW.out⟩
set_option maxHeartbeats 4000000 in
theorem back1 (w : World) (r : Nat) (rest zs : List Int) (F : Nat → Prop) (k v obj hi lo : Int) (A : Option Addr) (n c : Nat) (hn : zs.length = n) (hk0 : -9223372036854775808 ≤ k) (hk1 : k ≤ 9223372036854775807) (h0 : 0 ≤ v) (h1 : v < 18446744073709551616) (ho0 : 0 ≤ obj) (ho1 : obj ≤ 4611686018427387904) (hh : U64 hi) (hl : U64 lo) (hr : Rd 82 w r (le 2 (v % 65536) ++ rest) F) (hB : Bytes (le 2 (v % 65536) ++ rest)) (hb : (le 2 (v % 65536) ++ rest).length ≤ 140737488355000) (hz : ∀ w', Kept (fun b => b = r) w w' → RB w' (.slice A n c) zs) (hkk : k % 7 = 1) :
    Calls Try.prog 34 #[.pointer (some ⟨r, 0, none⟩), .agg #[.int .i64 k, .int .u64 v, .int .i64 obj, .int .u64 hi, .int .u64 lo, .slice A n c]] w fun e w' => e = .returned (.bool true) ∧ Rd 82 w' r rest F ∧ Kept (fun b => b = r) w w' := by
  have HK := Lib.hid (kind_any (w.alloc (.cells #[.int .i64 k, .int .u64 v, .int .i64 obj, .int .u64 hi, .int .u64 lo, .slice A n c] 73)) k v obj hi lo A n c hk0 hk1)
  rw [hkk] at HK
  have hbx := (Below.refl w.heap.size w).alloc (Nat.le_refl _) (.cells #[.int .i64 k, .int .u64 v, .int .i64 obj, .int .u64 hi, .int .u64 lo, .slice A n c] 73)
  have HBX := Lib.hid hbx
  have HR0 := Lib.hid (hr.below hbx)
  have hpr : Hid (w.heap.size ≠ r) := by have := hr.lt; show _ ≠ _; omega
  have brow := Lib.hid (heap_alloc_new w (.cells #[.int .i64 k, .int .u64 v, .int .i64 obj, .int .u64 hi, .int .u64 lo, .slice A n c] 73))
  have HZ := Lib.hid hz
  have HBY := Lib.hid hB
  clear hr hkk hbx hk0 hk1 hz hB
  go_enter Try.func34, Try.ntmps34
  go_wp2_with fail
  (with_reducible refine HK.out.mono ?_)
  rintro e w1 ⟨rfl, b1⟩
  have HR1 := Lib.hid (HR0.out.below b1)
  have brow1 := Lib.hid ((Kept.of_below (S := fun _ => False) b1).row brow.out (fun h => h))
  have HW1 : Hid (Below w.heap.size w w1) := HBX.out.trans (b1.mono HBX.out.size)
  have x5 : w1.cell? ⟨w.heap.size, 5, none⟩ = some (.slice A n c) := cell_row brow1.out rfl
  clear b1 HK HR0 brow HBX
  obtain ⟨e1, e2, e3⟩ := int_back (v % 65536) rest (by omega) (by omega)
  have haf : bits .and .u64 v 65535 = v % 65536 := and_low v 16 (by decide) 65535 (by decide) h0 h1
  have HX := int_any w1 r (le 2 (v % 65536) ++ rest) F HR1.out HBY.out 2 65535 (by decide)
  rw [e1, e2, e3] at HX
  replace HX := Lib.hid HX
  go_wp2_with fail
  (with_reducible refine HX.out.mono ?_)
  rintro e w2 ⟨rfl, g2, k2⟩
  have G2 := Lib.hid g2
  have brow2 := k2.row brow1.out hpr.out
  have KW : Hid (Kept (fun b => b = r) w w2) := (Kept.of_below (S := fun b => b = r) HW1.out).trans k2 (fun x hx => .inl hx)
  have hpw := lt_of_row brow2
  have y1 : w2.cell? ⟨w.heap.size, 1, none⟩ = some (.int .u64 v) := cell_row brow2 rfl
  have y2 : w2.cell? ⟨w.heap.size, 2, none⟩ = some (.int .i64 obj) := cell_row brow2 rfl
  have y3 : w2.cell? ⟨w.heap.size, 3, none⟩ = some (.int .u64 hi) := cell_row brow2 rfl
  have y4 : w2.cell? ⟨w.heap.size, 4, none⟩ = some (.int .u64 lo) := cell_row brow2 rfl
  have y5 : w2.cell? ⟨w.heap.size, 5, none⟩ = some (.slice A n c) := cell_row brow2 rfl
  clear x5 brow2 g2 k2 HX brow1 HR1
  obtain ⟨q, hq⟩ : ∃ q, w.heap.size = q := ⟨_, rfl⟩
  rw [hq] at y1 y2 y3 y4 y5 hpw
  rw [hq]
  clear hq hpr HW1
  clear e1 e2 e3
  go_wp2_with fail
  go_ret
  exact ⟨rfl, G2.out, KW.out⟩
set_option maxHeartbeats 4000000 in
theorem back3 (w : World) (r : Nat) (rest zs : List Int) (F : Nat → Prop) (k v obj hi lo : Int) (A : Option Addr) (n c : Nat) (hn : zs.length = n) (hk0 : -9223372036854775808 ≤ k) (hk1 : k ≤ 9223372036854775807) (h0 : 0 ≤ v) (h1 : v < 18446744073709551616) (ho0 : 0 ≤ obj) (ho1 : obj ≤ 4611686018427387904) (hh : U64 hi) (hl : U64 lo) (hr : Rd 82 w r (le 8 v ++ rest) F) (hB : Bytes (le 8 v ++ rest)) (hb : (le 8 v ++ rest).length ≤ 140737488355000) (hz : ∀ w', Kept (fun b => b = r) w w' → RB w' (.slice A n c) zs) (hkk : k % 7 = 3) :
    Calls Try.prog 34 #[.pointer (some ⟨r, 0, none⟩), .agg #[.int .i64 k, .int .u64 v, .int .i64 obj, .int .u64 hi, .int .u64 lo, .slice A n c]] w fun e w' => e = .returned (.bool true) ∧ Rd 82 w' r rest F ∧ Kept (fun b => b = r) w w' := by
  have HK := Lib.hid (kind_any (w.alloc (.cells #[.int .i64 k, .int .u64 v, .int .i64 obj, .int .u64 hi, .int .u64 lo, .slice A n c] 73)) k v obj hi lo A n c hk0 hk1)
  rw [hkk] at HK
  have hbx := (Below.refl w.heap.size w).alloc (Nat.le_refl _) (.cells #[.int .i64 k, .int .u64 v, .int .i64 obj, .int .u64 hi, .int .u64 lo, .slice A n c] 73)
  have HBX := Lib.hid hbx
  have HR0 := Lib.hid (hr.below hbx)
  have hpr : Hid (w.heap.size ≠ r) := by have := hr.lt; show _ ≠ _; omega
  have brow := Lib.hid (heap_alloc_new w (.cells #[.int .i64 k, .int .u64 v, .int .i64 obj, .int .u64 hi, .int .u64 lo, .slice A n c] 73))
  have HZ := Lib.hid hz
  have HBY := Lib.hid hB
  clear hr hkk hbx hk0 hk1 hz hB
  go_enter Try.func34, Try.ntmps34
  go_wp2_with fail
  (with_reducible refine HK.out.mono ?_)
  rintro e w1 ⟨rfl, b1⟩
  have HR1 := Lib.hid (HR0.out.below b1)
  have brow1 := Lib.hid ((Kept.of_below (S := fun _ => False) b1).row brow.out (fun h => h))
  have HW1 : Hid (Below w.heap.size w w1) := HBX.out.trans (b1.mono HBX.out.size)
  have x5 : w1.cell? ⟨w.heap.size, 5, none⟩ = some (.slice A n c) := cell_row brow1.out rfl
  clear b1 HK HR0 brow HBX
  obtain ⟨e1, e2, e3⟩ := num_back 8 (by decide) v rest h0 h1
  change numE (le 8 v ++ rest) 8 = 0 at e1
  change numV (le 8 v ++ rest) 8 = _ at e2
  change numL (le 8 v ++ rest) 8 = _ at e3
  have HX := number_any w1 r (le 8 v ++ rest) F HR1.out HBY.out 8
  rw [e1, e2, e3] at HX
  replace HX := Lib.hid HX
  go_wp2_with fail
  (with_reducible refine HX.out.mono ?_)
  rintro e w2 ⟨rfl, g2, k2⟩
  have G2 := Lib.hid g2
  have brow2 := k2.row brow1.out hpr.out
  have KW : Hid (Kept (fun b => b = r) w w2) := (Kept.of_below (S := fun b => b = r) HW1.out).trans k2 (fun x hx => .inl hx)
  have hpw := lt_of_row brow2
  have y1 : w2.cell? ⟨w.heap.size, 1, none⟩ = some (.int .u64 v) := cell_row brow2 rfl
  have y2 : w2.cell? ⟨w.heap.size, 2, none⟩ = some (.int .i64 obj) := cell_row brow2 rfl
  have y3 : w2.cell? ⟨w.heap.size, 3, none⟩ = some (.int .u64 hi) := cell_row brow2 rfl
  have y4 : w2.cell? ⟨w.heap.size, 4, none⟩ = some (.int .u64 lo) := cell_row brow2 rfl
  have y5 : w2.cell? ⟨w.heap.size, 5, none⟩ = some (.slice A n c) := cell_row brow2 rfl
  clear x5 brow2 g2 k2 HX brow1 HR1
  obtain ⟨q, hq⟩ : ∃ q, w.heap.size = q := ⟨_, rfl⟩
  rw [hq] at y1 y2 y3 y4 y5 hpw
  rw [hq]
  clear hq hpr HW1
  clear e1 e2 e3
  go_wp2_with fail
  go_ret
  exact ⟨rfl, G2.out, KW.out⟩
set_option maxHeartbeats 4000000 in
theorem back4 (w : World) (r : Nat) (rest zs : List Int) (F : Nat → Prop) (k v obj hi lo : Int) (A : Option Addr) (n c : Nat) (hn : zs.length = n) (hk0 : -9223372036854775808 ≤ k) (hk1 : k ≤ 9223372036854775807) (h0 : 0 ≤ v) (h1 : v < 18446744073709551616) (ho0 : 0 ≤ obj) (ho1 : obj ≤ 4611686018427387904) (hh : U64 hi) (hl : U64 lo) (hr : Rd 82 w r (wordB hi lo ++ rest) F) (hB : Bytes (wordB hi lo ++ rest)) (hb : (wordB hi lo ++ rest).length ≤ 140737488355000) (hz : ∀ w', Kept (fun b => b = r) w w' → RB w' (.slice A n c) zs) (hkk : k % 7 = 4) :
    Calls Try.prog 34 #[.pointer (some ⟨r, 0, none⟩), .agg #[.int .i64 k, .int .u64 v, .int .i64 obj, .int .u64 hi, .int .u64 lo, .slice A n c]] w fun e w' => e = .returned (.bool true) ∧ Rd 82 w' r rest F ∧ Kept (fun b => b = r) w w' := by
  have HK := Lib.hid (kind_any (w.alloc (.cells #[.int .i64 k, .int .u64 v, .int .i64 obj, .int .u64 hi, .int .u64 lo, .slice A n c] 73)) k v obj hi lo A n c hk0 hk1)
  rw [hkk] at HK
  have hbx := (Below.refl w.heap.size w).alloc (Nat.le_refl _) (.cells #[.int .i64 k, .int .u64 v, .int .i64 obj, .int .u64 hi, .int .u64 lo, .slice A n c] 73)
  have HBX := Lib.hid hbx
  have HR0 := Lib.hid (hr.below hbx)
  have hpr : Hid (w.heap.size ≠ r) := by have := hr.lt; show _ ≠ _; omega
  have brow := Lib.hid (heap_alloc_new w (.cells #[.int .i64 k, .int .u64 v, .int .i64 obj, .int .u64 hi, .int .u64 lo, .slice A n c] 73))
  have HZ := Lib.hid hz
  have HBY := Lib.hid hB
  clear hr hkk hbx hk0 hk1 hz hB
  go_enter Try.func34, Try.ntmps34
  go_wp2_with fail
  (with_reducible refine HK.out.mono ?_)
  rintro e w1 ⟨rfl, b1⟩
  have HR1 := Lib.hid (HR0.out.below b1)
  have brow1 := Lib.hid ((Kept.of_below (S := fun _ => False) b1).row brow.out (fun h => h))
  have HW1 : Hid (Below w.heap.size w w1) := HBX.out.trans (b1.mono HBX.out.size)
  have x5 : w1.cell? ⟨w.heap.size, 5, none⟩ = some (.slice A n c) := cell_row brow1.out rfl
  clear b1 HK HR0 brow HBX
  obtain ⟨e1, e2, e3, e4⟩ := word_back hi lo rest hh hl
  have HX := word_all w1 r (wordB hi lo ++ rest) F HR1.out HBY.out
  rw [e1, e2, e3, e4] at HX
  replace HX := Lib.hid HX
  go_wp2_with fail
  (with_reducible refine HX.out.mono ?_)
  rintro e w2 ⟨rfl, g2, k2⟩
  have G2 := Lib.hid g2
  have brow2 := k2.row brow1.out hpr.out
  have KW : Hid (Kept (fun b => b = r) w w2) := (Kept.of_below (S := fun b => b = r) HW1.out).trans k2 (fun x hx => .inl hx)
  have hpw := lt_of_row brow2
  have y1 : w2.cell? ⟨w.heap.size, 1, none⟩ = some (.int .u64 v) := cell_row brow2 rfl
  have y2 : w2.cell? ⟨w.heap.size, 2, none⟩ = some (.int .i64 obj) := cell_row brow2 rfl
  have y3 : w2.cell? ⟨w.heap.size, 3, none⟩ = some (.int .u64 hi) := cell_row brow2 rfl
  have y4 : w2.cell? ⟨w.heap.size, 4, none⟩ = some (.int .u64 lo) := cell_row brow2 rfl
  have y5 : w2.cell? ⟨w.heap.size, 5, none⟩ = some (.slice A n c) := cell_row brow2 rfl
  clear x5 brow2 g2 k2 HX brow1 HR1
  obtain ⟨q, hq⟩ : ∃ q, w.heap.size = q := ⟨_, rfl⟩
  rw [hq] at y1 y2 y3 y4 y5 hpw
  rw [hq]
  clear hq hpr HW1
  clear e1 e2 e3 e4
  go_wp2_with fail
  go_ret
  have b3 := (Below.refl w2.heap.size w2).alloc (Nat.le_refl _) (.cells #[.int .u64 hi, .int .u64 lo] 25)
  exact ⟨rfl, G2.out.below b3, KW.out.then_below b3⟩
set_option maxHeartbeats 4000000 in
theorem back5 (w : World) (r : Nat) (rest zs : List Int) (F : Nat → Prop) (k v obj hi lo : Int) (A : Option Addr) (n c : Nat) (hn : zs.length = n) (hk0 : -9223372036854775808 ≤ k) (hk1 : k ≤ 9223372036854775807) (h0 : 0 ≤ v) (h1 : v < 18446744073709551616) (ho0 : 0 ≤ obj) (ho1 : obj ≤ 4611686018427387904) (hh : U64 hi) (hl : U64 lo) (hr : Rd 82 w r (capB obj hi lo ++ rest) F) (hB : Bytes (capB obj hi lo ++ rest)) (hb : (capB obj hi lo ++ rest).length ≤ 140737488355000) (hz : ∀ w', Kept (fun b => b = r) w w' → RB w' (.slice A n c) zs) (hkk : k % 7 = 5) :
    Calls Try.prog 34 #[.pointer (some ⟨r, 0, none⟩), .agg #[.int .i64 k, .int .u64 v, .int .i64 obj, .int .u64 hi, .int .u64 lo, .slice A n c]] w fun e w' => e = .returned (.bool true) ∧ Rd 82 w' r rest F ∧ Kept (fun b => b = r) w w' := by
  have HK := Lib.hid (kind_any (w.alloc (.cells #[.int .i64 k, .int .u64 v, .int .i64 obj, .int .u64 hi, .int .u64 lo, .slice A n c] 73)) k v obj hi lo A n c hk0 hk1)
  rw [hkk] at HK
  have hbx := (Below.refl w.heap.size w).alloc (Nat.le_refl _) (.cells #[.int .i64 k, .int .u64 v, .int .i64 obj, .int .u64 hi, .int .u64 lo, .slice A n c] 73)
  have HBX := Lib.hid hbx
  have HR0 := Lib.hid (hr.below hbx)
  have hpr : Hid (w.heap.size ≠ r) := by have := hr.lt; show _ ≠ _; omega
  have brow := Lib.hid (heap_alloc_new w (.cells #[.int .i64 k, .int .u64 v, .int .i64 obj, .int .u64 hi, .int .u64 lo, .slice A n c] 73))
  have HZ := Lib.hid hz
  have HBY := Lib.hid hB
  clear hr hkk hbx hk0 hk1 hz hB
  go_enter Try.func34, Try.ntmps34
  go_wp2_with fail
  (with_reducible refine HK.out.mono ?_)
  rintro e w1 ⟨rfl, b1⟩
  have HR1 := Lib.hid (HR0.out.below b1)
  have brow1 := Lib.hid ((Kept.of_below (S := fun _ => False) b1).row brow.out (fun h => h))
  have HW1 : Hid (Below w.heap.size w w1) := HBX.out.trans (b1.mono HBX.out.size)
  have x5 : w1.cell? ⟨w.heap.size, 5, none⟩ = some (.slice A n c) := cell_row brow1.out rfl
  clear b1 HK HR0 brow HBX
  obtain ⟨e1, e2, e3, e4, e5⟩ := ka_back obj hi lo rest ho0 ho1 hh hl
  have HX := ka_all w1 r (capB obj hi lo ++ rest) F HR1.out HBY.out
  rw [e1, e2, e3, e4, e5] at HX
  replace HX := Lib.hid HX
  go_wp2_with fail
  (with_reducible refine HX.out.mono ?_)
  rintro e w2 ⟨rfl, g2, k2⟩
  have G2 := Lib.hid g2
  have brow2 := k2.row brow1.out hpr.out
  have KW : Hid (Kept (fun b => b = r) w w2) := (Kept.of_below (S := fun b => b = r) HW1.out).trans k2 (fun x hx => .inl hx)
  have hpw := lt_of_row brow2
  have y1 : w2.cell? ⟨w.heap.size, 1, none⟩ = some (.int .u64 v) := cell_row brow2 rfl
  have y2 : w2.cell? ⟨w.heap.size, 2, none⟩ = some (.int .i64 obj) := cell_row brow2 rfl
  have y3 : w2.cell? ⟨w.heap.size, 3, none⟩ = some (.int .u64 hi) := cell_row brow2 rfl
  have y4 : w2.cell? ⟨w.heap.size, 4, none⟩ = some (.int .u64 lo) := cell_row brow2 rfl
  have y5 : w2.cell? ⟨w.heap.size, 5, none⟩ = some (.slice A n c) := cell_row brow2 rfl
  clear x5 brow2 g2 k2 HX brow1 HR1
  obtain ⟨q, hq⟩ : ∃ q, w.heap.size = q := ⟨_, rfl⟩
  rw [hq] at y1 y2 y3 y4 y5 hpw
  rw [hq]
  clear hq hpr HW1
  clear e1 e2 e3 e4 e5
  go_wp2_with fail
  go_ret
  have b3 := (Below.refl w2.heap.size w2).alloc (Nat.le_refl _) (.cells #[.int .i64 obj, .int .u64 hi, .int .u64 lo] 27)
  exact ⟨rfl, G2.out.below b3, KW.out.then_below b3⟩
set_option maxHeartbeats 4000000 in
theorem back6 (w : World) (r : Nat) (rest zs : List Int) (F : Nat → Prop) (k v obj hi lo : Int) (A : Option Addr) (n c : Nat) (hn : zs.length = n) (hk0 : -9223372036854775808 ≤ k) (hk1 : k ≤ 9223372036854775807) (h0 : 0 ≤ v) (h1 : v < 18446744073709551616) (ho0 : 0 ≤ obj) (ho1 : obj ≤ 4611686018427387904) (hh : U64 hi) (hl : U64 lo) (hr : Rd 82 w r (zs ++ rest) F) (hB : Bytes (zs ++ rest)) (hb : (zs ++ rest).length ≤ 140737488355000) (hz : ∀ w', Kept (fun b => b = r) w w' → RB w' (.slice A n c) zs) (hkk : k % 7 = 6) :
    Calls Try.prog 34 #[.pointer (some ⟨r, 0, none⟩), .agg #[.int .i64 k, .int .u64 v, .int .i64 obj, .int .u64 hi, .int .u64 lo, .slice A n c]] w fun e w' => e = .returned (.bool true) ∧ Rd 82 w' r rest F ∧ Kept (fun b => b = r) w w' := by
  have HK := Lib.hid (kind_any (w.alloc (.cells #[.int .i64 k, .int .u64 v, .int .i64 obj, .int .u64 hi, .int .u64 lo, .slice A n c] 73)) k v obj hi lo A n c hk0 hk1)
  rw [hkk] at HK
  have hbx := (Below.refl w.heap.size w).alloc (Nat.le_refl _) (.cells #[.int .i64 k, .int .u64 v, .int .i64 obj, .int .u64 hi, .int .u64 lo, .slice A n c] 73)
  have HBX := Lib.hid hbx
  have HR0 := Lib.hid (hr.below hbx)
  have hpr : Hid (w.heap.size ≠ r) := by have := hr.lt; show _ ≠ _; omega
  have brow := Lib.hid (heap_alloc_new w (.cells #[.int .i64 k, .int .u64 v, .int .i64 obj, .int .u64 hi, .int .u64 lo, .slice A n c] 73))
  have HZ := Lib.hid hz
  have HBY := Lib.hid hB
  clear hr hkk hbx hk0 hk1 hz hB
  go_enter Try.func34, Try.ntmps34
  go_wp2_with fail
  (with_reducible refine HK.out.mono ?_)
  rintro e w1 ⟨rfl, b1⟩
  have HR1 := Lib.hid (HR0.out.below b1)
  have brow1 := Lib.hid ((Kept.of_below (S := fun _ => False) b1).row brow.out (fun h => h))
  have HW1 : Hid (Below w.heap.size w w1) := HBX.out.trans (b1.mono HBX.out.size)
  have x5 : w1.cell? ⟨w.heap.size, 5, none⟩ = some (.slice A n c) := cell_row brow1.out rfl
  clear b1 HK HR0 brow HBX
  obtain ⟨e1, e2, e3⟩ := row_back zs rest
  rw [hn] at e1 e2 e3
  have HX := row_any w1 r (zs ++ rest) F HR1.out n hb
  rw [e1, e2, e3] at HX
  replace HX := Lib.hid HX
  go_wp2_with fail
  (with_reducible refine HX.out.mono ?_)
  rintro e w2 ⟨A2, c2, rfl, o2, g2, k2, f2⟩
  have G2 := Lib.hid g2
  have brow2 := k2.row brow1.out hpr.out
  have KW : Hid (Kept (fun b => b = r) w w2) := (Kept.of_below (S := fun b => b = r) HW1.out).trans k2 (fun x hx => .inl hx)
  have hpw := lt_of_row brow2
  have y1 : w2.cell? ⟨w.heap.size, 1, none⟩ = some (.int .u64 v) := cell_row brow2 rfl
  have y2 : w2.cell? ⟨w.heap.size, 2, none⟩ = some (.int .i64 obj) := cell_row brow2 rfl
  have y3 : w2.cell? ⟨w.heap.size, 3, none⟩ = some (.int .u64 hi) := cell_row brow2 rfl
  have y4 : w2.cell? ⟨w.heap.size, 4, none⟩ = some (.int .u64 lo) := cell_row brow2 rfl
  have y5 : w2.cell? ⟨w.heap.size, 5, none⟩ = some (.slice A n c) := cell_row brow2 rfl
  clear x5 brow2 g2 k2 HX brow1 HR1
  obtain ⟨q, hq⟩ : ∃ q, w.heap.size = q := ⟨_, rfl⟩
  rw [hq] at y1 y2 y3 y4 y5 hpw
  rw [hq]
  clear hq hpr HW1
  rw [hn] at o2
  have HS := Lib.hid (same_eq w2 (.slice A2 n c2) _ zs o2.reads (HZ.out w2 KW.out))
  clear e1 e2 e3 o2 f2
  go_wp2_with fail
  (with_reducible refine HS.out.mono ?_)
  rintro e w3 ⟨rfl, rfl⟩
  go_wp2_with fail
  go_ret
  exact ⟨rfl, G2.out, KW.out⟩
theorem back_any (w : World) (r : Nat) (rest zs : List Int) (F : Nat → Prop) (k v obj hi lo : Int) (A : Option Addr) (n c : Nat) (hn : zs.length = n) (hk0 : -9223372036854775808 ≤ k) (hk1 : k ≤ 9223372036854775807) (h0 : 0 ≤ v) (h1 : v < 18446744073709551616) (ho0 : 0 ≤ obj) (ho1 : obj ≤ 4611686018427387904) (hh : U64 hi) (hl : U64 lo) (hr : Rd 82 w r (layB k v obj hi lo zs ++ rest) F) (hB : Bytes (layB k v obj hi lo zs ++ rest)) (hb : (layB k v obj hi lo zs ++ rest).length ≤ 140737488355000) (hz : ∀ w', Kept (fun b => b = r) w w' → RB w' (.slice A n c) zs) :
    Calls Try.prog 34 #[.pointer (some ⟨r, 0, none⟩), .agg #[.int .i64 k, .int .u64 v, .int .i64 obj, .int .u64 hi, .int .u64 lo, .slice A n c]] w fun e w' => e = .returned (.bool true) ∧ Rd 82 w' r rest F ∧ Kept (fun b => b = r) w w' := by
  unfold layB at hr hB hb
  by_cases e0 : k % 7 = 0
  · rw [if_pos e0] at hr hB hb; exact back0 w r rest zs F k v obj hi lo A n c hn hk0 hk1 h0 h1 ho0 ho1 hh hl hr hB hb hz e0
  rw [if_neg e0] at hr hB hb
  by_cases e1 : k % 7 = 1
  · rw [if_pos e1] at hr hB hb; exact back1 w r rest zs F k v obj hi lo A n c hn hk0 hk1 h0 h1 ho0 ho1 hh hl hr hB hb hz e1
  rw [if_neg e1] at hr hB hb
  by_cases e2 : k % 7 = 2
  · rw [if_pos e2] at hr hB hb; exact back2 w r rest zs F k v obj hi lo A n c hn hk0 hk1 h0 h1 ho0 ho1 hh hl hr hB hb hz e2
  rw [if_neg e2] at hr hB hb
  by_cases e3 : k % 7 = 3
  · rw [if_pos e3] at hr hB hb; exact back3 w r rest zs F k v obj hi lo A n c hn hk0 hk1 h0 h1 ho0 ho1 hh hl hr hB hb hz e3
  rw [if_neg e3] at hr hB hb
  by_cases e4 : k % 7 = 4
  · rw [if_pos e4] at hr hB hb; exact back4 w r rest zs F k v obj hi lo A n c hn hk0 hk1 h0 h1 ho0 ho1 hh hl hr hB hb hz e4
  rw [if_neg e4] at hr hB hb
  by_cases e5 : k % 7 = 5
  · rw [if_pos e5] at hr hB hb; exact back5 w r rest zs F k v obj hi lo A n c hn hk0 hk1 h0 h1 ho0 ho1 hh hl hr hB hb hz e5
  rw [if_neg e5] at hr hB hb
  exact back6 w r rest zs F k v obj hi lo A n c hn hk0 hk1 h0 h1 ho0 ho1 hh hl hr hB hb hz (by omega)
end Go.Proofs.Ytolfmchgcelnmaa.O

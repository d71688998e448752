/- The walks of layer 5's laws. -/
import Derived.Test.YtpijhkilkccioaaHash
import Derived.Deep.RegionHeld3
namespace Go.Proofs.Ytpijhkilkccioaa.Laws
open Go.RowKit Go.Proofs.Ytpijhkilkccioaa.Mixed Go.Proofs.Ytpijhkilkccioaa.Hash

/-- What the law keeps: its own copy of the word, and that nothing elder has changed. -/
def Keeps (w : World) (hi lo : Int) (w' : World) : Prop :=
  w'.cell? ⟨w.heap.size, 0, none⟩ = some (.int .u64 hi) ∧ w'.cell? ⟨w.heap.size, 1, none⟩ = some (.int .u64 lo) ∧ Below w.heap.size w w' ∧ w.heap.size < w'.heap.size
theorem keeps_start (w : World) (hi lo : Int) : Keeps w hi lo (w.alloc (Obj.cells #[Value.int IntKind.u64 hi, Value.int IntKind.u64 lo] 24)).drew :=
  ⟨by simp, by simp, ((Below.refl w.heap.size w).alloc (Nat.le_refl _) _).drew, by simp⟩
theorem keeps_later {w a b : World} {hi lo : Int} (hb : Below a.heap.size a b) (h : Keeps w hi lo a) : Keeps w hi lo b :=
  ⟨(hb.cell h.2.2.2).trans h.1, (hb.cell h.2.2.2).trans h.2.1, h.2.2.1.trans (hb.mono (Nat.le_of_lt h.2.2.2)), Nat.lt_of_lt_of_le h.2.2.2 hb.size⟩

theorem ref_same (obj hi lo knob : Int) (w : World) :
    Calls Try.prog 8 #[.int .i64 obj, .agg #[.int .u64 hi, .int .u64 lo], .int .i64 knob] w fun e w' => e = .returned (.int .u64 (hashK obj hi lo knob)) ∧ Below w.heap.size w w' := by
  rw [hash_same]; exact ref_any obj hi lo knob w

set_option maxHeartbeats 4000000 in
set_option maxRecDepth 100000 in
theorem hash_law (obj hi lo knob : Int) (w : World) :
    Calls Try.prog 3 #[.int .i64 obj, .agg #[.int .u64 hi, .int .u64 lo], .int .i64 knob] w fun e w' => e = .returned (.bool true) ∧ Below w.heap.size w w' := by
  have hb := (Below.refl w.heap.size w).alloc (Nat.le_refl _) (Obj.cells #[Value.int IntKind.u64 hi, Value.int IntKind.u64 lo] 24)
  go_enter Try.func3, Try.ntmps3
  go_wp2
  go_region_held3 (fun w' => w'.cell? ⟨w.heap.size, 0, none⟩ = some (.int .u64 hi) ∧ w'.cell? ⟨w.heap.size, 1, none⟩ = some (.int .u64 lo) ∧ Below w.heap.size w w' ∧ w.heap.size < w'.heap.size)
    (first | exact keeps_start w hi lo | (refine keeps_later (by assumption) ?_; go_split_ands; exact ⟨by assumption, by assumption, by assumption, by assumption⟩) | go_keep)
    (first | (go_at_call 6; refine (alive_any _).mono ?_; rintro e w1 ⟨rfl, hb1⟩) | (go_at_call 7; refine (hash_any _ _ _ _ _).mono ?_; rintro e w1 ⟨rfl, hb1⟩) | (go_at_call 8; refine (ref_same _ _ _ _ _).mono ?_; rintro e w1 ⟨rfl, hb1⟩))
  go_wp2
  go_split_ands
  go_ret
  exact ⟨rfl, by assumption⟩

theorem start' (w : World) (hi lo : Int) : Keeps w hi lo (w.alloc (Obj.cells #[Value.int IntKind.u64 hi, Value.int IntKind.u64 lo] 24)) :=
  ⟨by simp, by simp, ((Below.refl w.heap.size w).alloc (Nat.le_refl _) _), by simp⟩
theorem alive_acc {W w : World} {hi lo : Int} (h : Keeps W hi lo w) : Calls Try.prog 6 #[] w fun e w' => e = .returned (.bool true) ∧ Keeps W hi lo w' ∧
    w'.cell? ⟨W.heap.size, 0, none⟩ = some (.int .u64 hi) ∧ w'.cell? ⟨W.heap.size, 1, none⟩ = some (.int .u64 lo) :=
  (alive_any w).mono fun _ _ ⟨he, hb⟩ => ⟨he, keeps_later hb h, (keeps_later hb h).1, (keeps_later hb h).2.1⟩
theorem hash_acc {W w : World} {hi lo : Int} (h : Keeps W hi lo w) (o a b k : Int) : Calls Try.prog 7 #[.int .i64 o, .agg #[.int .u64 a, .int .u64 b], .int .i64 k] w fun e w' => e = .returned (.int .u64 (hashK o a b k)) ∧ Keeps W hi lo w' ∧
    w'.cell? ⟨W.heap.size, 0, none⟩ = some (.int .u64 hi) ∧ w'.cell? ⟨W.heap.size, 1, none⟩ = some (.int .u64 lo) :=
  (hash_any o a b k w).mono fun _ _ ⟨he, hb⟩ => ⟨he, keeps_later hb h, (keeps_later hb h).1, (keeps_later hb h).2.1⟩

set_option maxHeartbeats 4000000 in
set_option maxRecDepth 100000 in
theorem cuts_low (obj hi lo knob : Int) (w : World) (h0 : knob ≤ 0) :
    Calls Try.prog 4 #[.int .i64 obj, .agg #[.int .u64 hi, .int .u64 lo], .int .i64 knob] w fun e w' => e = .returned (.bool true) ∧ Below w.heap.size w w' := by
  have k0 := start' w hi lo
  have e64 : hashK obj hi lo 64 = hash64 obj hi lo := hashK_all (by omega) (by omega)
  have e70 : hashK obj hi lo 70 = hash64 obj hi lo := hashK_all (by omega) (by omega)
  have e1 : hashK obj hi lo (-1) = 0 := hashK_low (by omega)
  have e := hashK_low (obj := obj) (hi := hi) (lo := lo) h0
  go_enter Try.func4, Try.ntmps4
  go_wp2_with (first | (go_at_call 6; refine (alive_acc (by assumption)).mono ?_; rintro e w1 ⟨rfl, hk, hc1, hc2⟩) | (go_at_call 7; refine (hash_acc (by assumption) _ _ _ _).mono ?_; rintro e w1 ⟨rfl, hk, hc1, hc2⟩))
  all_goals go_ret
  all_goals exact ⟨rfl, (by assumption : Keeps _ _ _ _).2.2.1⟩

set_option maxHeartbeats 4000000 in
set_option maxRecDepth 100000 in
theorem cuts_all (obj hi lo knob : Int) (w : World) (h0 : 0 < knob) (h1 : 64 ≤ knob) :
    Calls Try.prog 4 #[.int .i64 obj, .agg #[.int .u64 hi, .int .u64 lo], .int .i64 knob] w fun e w' => e = .returned (.bool true) ∧ Below w.heap.size w w' := by
  have k0 := start' w hi lo
  have e64 : hashK obj hi lo 64 = hash64 obj hi lo := hashK_all (by omega) (by omega)
  have e70 : hashK obj hi lo 70 = hash64 obj hi lo := hashK_all (by omega) (by omega)
  have e1 : hashK obj hi lo (-1) = 0 := hashK_low (by omega)
  have e := hashK_all (obj := obj) (hi := hi) (lo := lo) h0 h1
  go_enter Try.func4, Try.ntmps4
  go_wp2_with (first | (go_at_call 6; refine (alive_acc (by assumption)).mono ?_; rintro e w1 ⟨rfl, hk, hc1, hc2⟩) | (go_at_call 7; refine (hash_acc (by assumption) _ _ _ _).mono ?_; rintro e w1 ⟨rfl, hk, hc1, hc2⟩))
  all_goals go_ret
  all_goals exact ⟨rfl, (by assumption : Keeps _ _ _ _).2.2.1⟩

set_option maxHeartbeats 4000000 in
set_option maxRecDepth 100000 in
theorem cuts_mid (obj hi lo knob : Int) (w : World) (h0 : 0 < knob) (h1 : knob < 64) :
    Calls Try.prog 4 #[.int .i64 obj, .agg #[.int .u64 hi, .int .u64 lo], .int .i64 knob] w fun e w' => e = .returned (.bool true) ∧ Below w.heap.size w w' := by
  have k0 := start' w hi lo
  have e64 : hashK obj hi lo 64 = hash64 obj hi lo := hashK_all (by omega) (by omega)
  have e70 : hashK obj hi lo 70 = hash64 obj hi lo := hashK_all (by omega) (by omega)
  have e1 : hashK obj hi lo (-1) = 0 := hashK_low (by omega)
  have e := hashK_mid (obj := obj) (hi := hi) (lo := lo) h0 h1
  go_enter Try.func4, Try.ntmps4
  go_wp2_with (first | (go_at_call 6; refine (alive_acc (by assumption)).mono ?_; rintro e w1 ⟨rfl, hk, hc1, hc2⟩) | (go_at_call 7; refine (hash_acc (by assumption) _ _ _ _).mono ?_; rintro e w1 ⟨rfl, hk, hc1, hc2⟩))
  all_goals go_ret
  all_goals exact ⟨rfl, (by assumption : Keeps _ _ _ _).2.2.1⟩

theorem hash64_acc {W w : World} {hi lo : Int} (h : Keeps W hi lo w) (o a b : Int) : Calls Try.prog 7 #[.int .i64 o, .agg #[.int .u64 a, .int .u64 b], .int .i64 64] w fun e w' => e = .returned (.int .u64 (hash64 o a b)) ∧ Keeps W hi lo w' ∧
    w'.cell? ⟨W.heap.size, 0, none⟩ = some (.int .u64 hi) ∧ w'.cell? ⟨W.heap.size, 1, none⟩ = some (.int .u64 lo) := by
  have := hash_acc h o a b 64
  rwa [hashK_all (by omega) (by omega)] at this
theorem bv_inj64 {a b : Int} (ha : -9223372036854775808 ≤ a ∧ a ≤ 9223372036854775807) (hb : -9223372036854775808 ≤ b ∧ b ≤ 9223372036854775807) : (bv a = bv b) ↔ a = b := by
  constructor
  · intro h
    have h2 := congrArg BitVec.toNat h
    unfold bv at h2
    rw [BitVec.toNat_ofInt, BitVec.toNat_ofInt] at h2
    omega
  · intro h; rw [h]
theorem unlike_obj {obj other : Int} (hi lo : Int) (ho : -9223372036854775808 ≤ obj ∧ obj ≤ 9223372036854775807) :
    (hash64 obj hi lo == hash64 (wrap64 other) hi lo) = (wrap64 other == obj) := by
  rw [Bool.eq_iff_iff, beq_iff_eq, beq_iff_eq, hash_obj, bv_inj64 ho (by unfold wrap64; omega)]
  exact eq_comm
theorem unlike_hi {hi other : Int} (obj lo : Int) (hh : 0 ≤ hi ∧ hi < 18446744073709551616) (ho : 0 ≤ other ∧ other < 18446744073709551616) :
    (hash64 obj hi lo == hash64 obj other lo) = (other == hi) := by
  rw [Bool.eq_iff_iff, beq_iff_eq, beq_iff_eq, hash_hi, bv_inj hh ho]
  exact eq_comm
theorem unlike_lo {lo other : Int} (obj hi : Int) (hh : 0 ≤ lo ∧ lo < 18446744073709551616) (ho : 0 ≤ other ∧ other < 18446744073709551616) :
    (hash64 obj hi lo == hash64 obj hi other) = (other == lo) := by
  rw [Bool.eq_iff_iff, beq_iff_eq, beq_iff_eq, hash_lo, bv_inj hh ho]
  exact eq_comm

set_option maxHeartbeats 4000000 in
set_option maxRecDepth 1000000 in
theorem unlike_walk (obj hi lo other : Int) (w : World) (f1 : ((hash64 obj hi lo == hash64 (wrap64 other) hi lo) == (wrap64 other == obj)) = true)
    (f2 : ((hash64 obj hi lo == hash64 obj other lo) == (other == hi)) = true) (f3 : ((hash64 obj hi lo == hash64 obj hi other) == (other == lo)) = true) :
    Calls Try.prog 5 #[.int .i64 obj, .agg #[.int .u64 hi, .int .u64 lo], .int .u64 other] w fun e w' => e = .returned (.bool true) ∧ Below w.heap.size w w' := by
  have k0 := start' w hi lo
  go_enter Try.func5, Try.ntmps5
  go_wp2_with (first | (go_at_call 6; refine (alive_acc (by assumption)).mono ?_; rintro e w1 ⟨rfl, hk, hc1, hc2⟩) | (go_at_call 7; refine (hash64_acc (by assumption) _ _ _).mono ?_; rintro e w1 ⟨rfl, hk, hc1, hc2⟩))
  all_goals go_ret
  all_goals exact ⟨rfl, (by assumption : Keeps _ _ _ _).2.2.1⟩
theorem unlike_law (obj hi lo other : Int) (w : World) (ho : -9223372036854775808 ≤ obj ∧ obj ≤ 9223372036854775807) (h1 : 0 ≤ hi ∧ hi < 18446744073709551616)
    (h2 : 0 ≤ lo ∧ lo < 18446744073709551616) (h3 : 0 ≤ other ∧ other < 18446744073709551616) :
    Calls Try.prog 5 #[.int .i64 obj, .agg #[.int .u64 hi, .int .u64 lo], .int .u64 other] w fun e w' => e = .returned (.bool true) ∧ Below w.heap.size w w' :=
  unlike_walk obj hi lo other w (beq_iff_eq.2 (unlike_obj hi lo ho)) (beq_iff_eq.2 (unlike_hi obj lo h1 h3)) (beq_iff_eq.2 (unlike_lo obj hi h2 h3))
theorem cuts_law (obj hi lo knob : Int) (w : World) :
    Calls Try.prog 4 #[.int .i64 obj, .agg #[.int .u64 hi, .int .u64 lo], .int .i64 knob] w fun e w' => e = .returned (.bool true) ∧ Below w.heap.size w w' := by
  by_cases h0 : knob ≤ 0
  · exact cuts_low obj hi lo knob w h0
  · by_cases h1 : 64 ≤ knob
    · exact cuts_all obj hi lo knob w (by omega) h1
    · exact cuts_mid obj hi lo knob w (by omega) (by omega)

theorem range_i64 {n : Int} (h : (Lit.int .i64 n).wf = true) : -9223372036854775808 ≤ n ∧ n ≤ 9223372036854775807 := by
  simp only [Lit.wf, IntKind.min, IntKind.max, IntKind.signed, IntKind.bits, Bool.and_eq_true, decide_eq_true_eq, if_true] at h
  omega
theorem range_u64 {n : Int} (h : (Lit.int .u64 n).wf = true) : 0 ≤ n ∧ n < 18446744073709551616 := by
  simp [Lit.wf, IntKind.min, IntKind.max, IntKind.signed, IntKind.bits] at h
  omega
end Go.Proofs.Ytpijhkilkccioaa.Laws

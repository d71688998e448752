/- For every three numbers, brought into masks: names come back and are unlike, Part is an order, and it is what the letters say; there is no condition beyond the given statement's own. -/
import Derived.Test.YtoegclilhchlmaaPMaskOrderx1
import Derived.WalkLawsBesides
namespace Go.Proofs.Ytoegclilhchlmaa.HandOrder
open Go.RowKit Go.Proofs.Ytoegclilhchlmaa.PMaskOrder Go.Proofs.YtoegclilhchlmaaW.PrintWords Go.Proofs.YtoegclilhchlmaaW.PrintLast
set_option linter.unusedVariables false
theorem head_true : sesamelaw03_head.f 80 = some true := by decide +kernel

def partB (a b : Int) : Bool := (mask_Part.f a b).getD false
def validB (a : Int) : Bool := (mask_Valid.f a).getD false
def nameOf (a : Int) : ByteArray := (mask_Names.f 80 a).getD ⟨#[]⟩

theorem valid_some (a : Int) : ∃ t, mask_Valid.f a = some t := by
  unfold mask_Valid.f; split <;> exact ⟨_, rfl⟩
theorem part_some (a b : Int) : mask_Part.f a b = some (partB a b) := by
  obtain ⟨t, ht⟩ := valid_some a
  obtain ⟨u, hu⟩ := valid_some b
  unfold partB mask_Part.f
  rw [ht, hu]
  cases t <;> cases u <;> simp
theorem valid_is (a : Int) : mask_Valid.f a = some (validB a) := by
  obtain ⟨t, ht⟩ := valid_some a
  unfold validB
  rw [ht]; rfl
theorem dtrans {a b c : World} (h : Drawn0 a b) (k : Drawn0 b c) : Drawn0 a c := by
  obtain ⟨n, rfl⟩ := h
  obtain ⟨m, rfl⟩ := k
  exact Drawn0.step ⟨⟨n, rfl⟩⟩ m
theorem part_acc {W w : World} (h : Drawn0 W w) (a b : Int) : Calls Try.prog 11 #[.int .i64 a, .int .i64 b] w fun e w' => e = .returned (.bool (partB a b)) ∧ Drawn0 W w' :=
  (mask_Part.calls a b _ w (part_some a b)).mono fun _ _ ⟨he, hd⟩ => ⟨he, dtrans h hd⟩
theorem has_acc {W w : World} (h : Drawn0 W w) (a b : Int) : Calls Try.prog 13 #[.int .i64 a, .int .i64 b] w fun e w' => e = .returned (.bool (partB b a)) ∧ Drawn0 W w' :=
  (mask_Has.calls a b (partB b a) w (by unfold mask_Has.f; rw [part_some]; rfl)).mono fun _ _ ⟨he, hd⟩ => ⟨he, dtrans h hd⟩
theorem valid_acc {W w : World} (h : Drawn0 W w) (a : Int) : Calls Try.prog 9 #[.int .i64 a] w fun e w' => e = .returned (.bool (validB a)) ∧ Drawn0 W w' :=
  (mask_Valid.calls a _ w (valid_is a)).mono fun _ _ ⟨he, hd⟩ => ⟨he, dtrans h hd⟩

/-- A mask's number. -/
def IsMask (a : Int) : Prop := 0 ≤ a ∧ a < 32
theorem names_tried : ∀ r : Fin 32, (mask_Names.f 80 ((r.val : Nat) : Int)).isSome = true := by decide +kernel
theorem name_is {a : Int} (h : IsMask a) : mask_Names.f 80 a = some (nameOf a) := by
  obtain ⟨n, rfl⟩ : ∃ n : Nat, a = (n : Int) := ⟨a.toNat, by have := h.1; omega⟩
  have h2 := h.2
  obtain ⟨b, hb⟩ := Option.isSome_iff_exists.1 (names_tried ⟨n, by omega⟩)
  have hb' : mask_Names.f 80 (n : Int) = some b := hb
  unfold nameOf
  rw [hb']; rfl
theorem name_acc {W w : World} (h : Drawn0 W w) {a : Int} (ha : IsMask a) : Calls Try.prog 14 #[.int .i64 a] w fun e w' => e = .returned (.string (nameOf a)) ∧ Drawn0 W w' :=
  (mask_Names.calls 80 a _ w (name_is ha)).mono fun _ _ ⟨he, hd⟩ => ⟨he, dtrans h hd⟩
theorem back_tried : ∀ a : Fin 32, mask_Parse.f 80 (nameOf ((a.val : Nat) : Int)) = some (((a.val : Nat) : Int), 0) := by decide +kernel
theorem back_is {a : Int} (h : IsMask a) : mask_Parse.f 80 (nameOf a) = some (a, 0) := by
  obtain ⟨n, rfl⟩ : ∃ n : Nat, a = (n : Int) := ⟨a.toNat, by have := h.1; omega⟩
  have h2 := h.2
  exact back_tried ⟨n, by omega⟩
theorem back_acc {W w : World} (h : Drawn0 W w) {a : Int} (ha : IsMask a) : Calls Try.prog 7 #[.string (nameOf a)] w fun e w' => e = .returned (.tuple #[.int .i64 a, .int .i64 0]) ∧ Drawn0 W w' :=
  (mask_Parse.calls 80 _ _ _ w (back_is ha)).mono fun _ _ ⟨he, hd⟩ => ⟨he, dtrans h hd⟩
theorem head_acc {W w : World} (h : Drawn0 W w) : Calls Try.prog 6 #[] w fun e w' => e = .returned (.bool true) ∧ Drawn0 W w' :=
  (sesamelaw03_head.calls 80 true w head_true).mono fun _ _ ⟨he, hd⟩ => ⟨he, dtrans h hd⟩

def lettersIn (q : Bool) (x y : ByteArray) (i : Nat) : Bool := q && (x.data.toList.take i).all (fun c => y.data.toList.contains c)
def foundB (c : Nat) (y : ByteArray) (k : Nat) : Bool := (y.data.toList.take k).any (fun d => c == d.toNat)

theorem beq_nat_int (c d : Nat) : ((c : Int) == (d : Int)) = (c == d) := by
  rw [Bool.eq_iff_iff, beq_iff_eq, beq_iff_eq]; omega
theorem take_snoc (s : ByteArray) (k : Nat) (h : k < s.size) : s.data.toList.take (k + 1) = s.data.toList.take k ++ [s[k]] := by
  rw [List.take_succ_eq_append_getElem (by simpa using h)]; rfl
theorem found_snoc (c : Nat) (y : ByteArray) (k : Nat) (h : k < y.size) : foundB c y (k + 1) = (foundB c y k || c == y[k].toNat) := by
  unfold foundB
  rw [take_snoc y k h]; simp
theorem letters_snoc (q : Bool) (x y : ByteArray) (i : Nat) (h : i < x.size) : lettersIn q x y (i + 1) = (lettersIn q x y i && foundB x[i].toNat y y.size) := by
  unfold lettersIn foundB
  rw [take_snoc x i h]
  have e : (y.data.toList.take y.size) = y.data.toList := List.take_of_length_le (by simp)
  rw [e]
  have e2 : y.data.toList.contains x[i] = y.data.toList.any (fun d => x[i].toNat == d.toNat) := by
    rw [List.contains_eq_any_beq]
    congr 1
    funext d
    rw [Bool.eq_iff_iff]
    simp [UInt8.toNat_inj]
  rw [List.all_append, List.all_cons, List.all_nil, e2, Bool.and_true, Bool.and_assoc]

theorem and31 (a : Int) : 0 ≤ Go.bits .and .i64 a 31 ∧ Go.bits .and .i64 a 31 < 32 := by
  have h : (BitVec.ofInt 64 a &&& 31#64).toNat ≤ 31 := by rw [BitVec.toNat_and]; exact Nat.and_le_right
  have e : Go.bits .and .i64 a 31 = IntKind.i64.wrap ((BitVec.ofInt 64 a &&& 31#64).toNat : Int) := rfl
  rw [e, IntKind.wrap_i64]
  omega

theorem size_tried : ∀ r : Fin 32, decide ((nameOf ((r.val : Nat) : Int)).size ≤ 5) = true := by decide +kernel
theorem size_is {a : Int} (h : IsMask a) : (nameOf a).size ≤ 5 := by
  obtain ⟨n, rfl⟩ : ∃ n : Nat, a = (n : Int) := ⟨a.toNat, by have := h.1; omega⟩
  have h2 := h.2
  exact of_decide_eq_true (size_tried ⟨n, by omega⟩)

set_option maxHeartbeats 8000000 in
set_option maxRecDepth 100000 in
theorem walk_zero (a b c : Int) (w : World) (ha : IsMask (Go.bits .and .i64 a 31)) (hb : IsMask (Go.bits .and .i64 b 31))
    (h0 : ((nameOf (Go.bits .and .i64 a 31)).toList == (nameOf (Go.bits .and .i64 b 31)).toList) = (Go.bits .and .i64 a 31 == Go.bits .and .i64 b 31))
    (h1 : (Go.bits .and .i64 a 31 == 0) = true) (h1b : (Go.bits .and .i64 a 31 != 0) = false) (h2 : partB (Go.bits .and .i64 a 31) (Go.bits .and .i64 b 31) = false) (h3 : partB (Go.bits .and .i64 b 31) (Go.bits .and .i64 a 31) = false) (h4 : validB (Go.bits .and .i64 a 31) = false) (q : Bool) (h6 : (Go.bits .and .i64 b 31 != 0) = q) (HL : Aside0 (lettersIn false (nameOf (Go.bits .and .i64 a 31)) (nameOf (Go.bits .and .i64 b 31)) (nameOf (Go.bits .and .i64 a 31)).size = partB (Go.bits .and .i64 a 31) (Go.bits .and .i64 b 31))) :
    Calls Try.prog 4 #[.int .i64 a, .int .i64 b, .int .i64 c] w fun e w' => e = .returned (.bool true) ∧ Below w.heap.size w w' := by
  have hd0 := Drawn0.refl w
  go_enter Try.func4, Try.ntmps4
  go_wp2_with (first | (go_at_call 6; refine (head_acc (by assumption)).mono ?_; rintro e w1 ⟨rfl, hd⟩) | (go_at_call 14; refine (name_acc (by assumption) (by assumption)).mono ?_; rintro e w1 ⟨rfl, hd⟩) | (go_at_call 7; refine (back_acc (by assumption) (by assumption)).mono ?_; rintro e w1 ⟨rfl, hd⟩) | (go_at_call 11; refine (part_acc (by assumption) _ _).mono ?_; rintro e w1 ⟨rfl, hd⟩) | (go_at_call 9; refine (valid_acc (by assumption) _).mono ?_; rintro e w1 ⟨rfl, hd⟩))
  obtain ⟨x, hx⟩ : ∃ x, nameOf (Go.bits .and .i64 a 31) = x := ⟨_, rfl⟩
  obtain ⟨y, hy⟩ : ∃ y, nameOf (Go.bits .and .i64 b 31) = y := ⟨_, rfl⟩
  rw [hx, hy]
  have HX := Aside0.mk hx
  have HY := Aside0.mk hy
  have hxs : x.size ≤ 5 := by rw [← HX.out]; exact size_is ha
  have hys : y.size ≤ 5 := by rw [← HY.out]; exact size_is hb
  clear hx hy h0 h6 h1 h1b h3 h4
  go_loopw [11, 12] (fun vin vi wr => ∃ (i : Nat) (t : Bool), i ≤ x.size ∧ vi = .int .i64 i ∧ vin = .bool t ∧ Aside0 (lettersIn false x y i = t) ∧ Drawn0 w wr) (fun _ vi _ => x.size - (intOf vi).toNat)
  case atStart => exact ⟨0, false, Nat.zero_le _, rfl, rfl, ⟨by simp [lettersIn]⟩, by assumption⟩
  case round =>
    obtain ⟨i, t, hi, rfl, rfl, HT, hdr⟩ := hrel
    by_cases hlt : i < x.size
    · go_wp2
      go_loopw [13, 14] (fun vf vk wr => ∃ (k : Nat) (u : Bool), k ≤ y.size ∧ vk = .int .i64 k ∧ vf = .bool u ∧ Aside0 (foundB x[i].toNat y k = u) ∧ Drawn0 w wr) (fun _ vi _ => y.size - (intOf vi).toNat)
      case atStart => exact ⟨0, false, Nat.zero_le _, rfl, rfl, ⟨by simp [foundB]⟩, by assumption⟩
      case round =>
        obtain ⟨k, u, hk, rfl, rfl, HU, hdr2⟩ := hrel
        by_cases hlt2 : k < y.size
        · have HS := Aside0.mk (found_snoc x[i].toNat y k hlt2)
          cases u
          · go_wp2
            go_quiet (fail)
            go_wp2
            go_roundw
            case rel => exact ⟨k + 1, _, by omega, by go_num, rfl, ⟨by rw [HS.out, HU.out]; simp [beq_nat_int]⟩, Drawn0.step (by assumption) _⟩
            case measure => simp [intOf]; omega
          · go_wp2
            go_quiet (fail)
            go_wp2
            go_roundw
            case rel => exact ⟨k + 1, _, by omega, by go_num, rfl, ⟨by rw [HS.out, HU.out]; simp⟩, Drawn0.step (by assumption) _⟩
            case measure => simp [intOf]; omega
        · have hk' : k = y.size := by omega
          have HS := Aside0.mk (letters_snoc false x y i hlt)
          clear hi
          subst hk'
          cases t <;> cases u
          all_goals
            go_wp2
            go_roundw
            case rel => exact ⟨i + 1, _, by omega, by go_num, rfl, ⟨by rw [HS.out, HT.out, HU.out]; first | rfl | simp⟩, by assumption⟩
            case measure => simp [intOf]; omega
    · have hi' : i = x.size := by omega
      have ht : t = partB (Go.bits .and .i64 a 31) (Go.bits .and .i64 b 31) := by rw [← HT.out, hi', ← HX.out, ← HY.out]; exact HL.out
      subst ht
      rw [h2]
      go_wp2_with (first | (go_at_call 11; refine (part_acc (by assumption) _ _).mono ?_; rintro e w1 ⟨rfl, hd⟩) |  (go_at_call 13; refine (has_acc (by assumption) _ _).mono ?_; rintro e w1 ⟨rfl, hd⟩))
      go_ret
      exact ⟨rfl, Drawn0.below (by assumption)⟩

set_option maxHeartbeats 8000000 in
set_option maxRecDepth 100000 in
theorem walk_no (a b c : Int) (w : World) (ha : IsMask (Go.bits .and .i64 a 31)) (hb : IsMask (Go.bits .and .i64 b 31))
    (h0 : ((nameOf (Go.bits .and .i64 a 31)).toList == (nameOf (Go.bits .and .i64 b 31)).toList) = (Go.bits .and .i64 a 31 == Go.bits .and .i64 b 31))
    (h1 : (Go.bits .and .i64 a 31 == 0) = false) (h1b : (Go.bits .and .i64 a 31 != 0) = true) (h2 : partB (Go.bits .and .i64 a 31) (Go.bits .and .i64 b 31) = false) (h3 : partB (Go.bits .and .i64 a 31) (Go.bits .and .i64 a 31) = true) (h4 : partB (Go.bits .and .i64 a 31) 31 = true) (h5 : validB (Go.bits .and .i64 a 31) = true) (q : Bool) (h6 : (Go.bits .and .i64 b 31 != 0) = q) (HL : Aside0 (lettersIn q (nameOf (Go.bits .and .i64 a 31)) (nameOf (Go.bits .and .i64 b 31)) (nameOf (Go.bits .and .i64 a 31)).size = partB (Go.bits .and .i64 a 31) (Go.bits .and .i64 b 31))) :
    Calls Try.prog 4 #[.int .i64 a, .int .i64 b, .int .i64 c] w fun e w' => e = .returned (.bool true) ∧ Below w.heap.size w w' := by
  have hd0 := Drawn0.refl w
  go_enter Try.func4, Try.ntmps4
  go_wp2_with (first | (go_at_call 6; refine (head_acc (by assumption)).mono ?_; rintro e w1 ⟨rfl, hd⟩) | (go_at_call 14; refine (name_acc (by assumption) (by assumption)).mono ?_; rintro e w1 ⟨rfl, hd⟩) | (go_at_call 7; refine (back_acc (by assumption) (by assumption)).mono ?_; rintro e w1 ⟨rfl, hd⟩) | (go_at_call 11; refine (part_acc (by assumption) _ _).mono ?_; rintro e w1 ⟨rfl, hd⟩) | (go_at_call 9; refine (valid_acc (by assumption) _).mono ?_; rintro e w1 ⟨rfl, hd⟩))
  obtain ⟨x, hx⟩ : ∃ x, nameOf (Go.bits .and .i64 a 31) = x := ⟨_, rfl⟩
  obtain ⟨y, hy⟩ : ∃ y, nameOf (Go.bits .and .i64 b 31) = y := ⟨_, rfl⟩
  rw [hx, hy]
  have HX := Aside0.mk hx
  have HY := Aside0.mk hy
  have hxs : x.size ≤ 5 := by rw [← HX.out]; exact size_is ha
  have hys : y.size ≤ 5 := by rw [← HY.out]; exact size_is hb
  clear hx hy h0 h6 h1 h1b h3 h4 h5
  go_loopw [11, 12] (fun vin vi wr => ∃ (i : Nat) (t : Bool), i ≤ x.size ∧ vi = .int .i64 i ∧ vin = .bool t ∧ Aside0 (lettersIn q x y i = t) ∧ Drawn0 w wr) (fun _ vi _ => x.size - (intOf vi).toNat)
  case atStart => exact ⟨0, q, Nat.zero_le _, rfl, rfl, ⟨by simp [lettersIn]⟩, by assumption⟩
  case round =>
    obtain ⟨i, t, hi, rfl, rfl, HT, hdr⟩ := hrel
    by_cases hlt : i < x.size
    · go_wp2
      go_loopw [13, 14] (fun vf vk wr => ∃ (k : Nat) (u : Bool), k ≤ y.size ∧ vk = .int .i64 k ∧ vf = .bool u ∧ Aside0 (foundB x[i].toNat y k = u) ∧ Drawn0 w wr) (fun _ vi _ => y.size - (intOf vi).toNat)
      case atStart => exact ⟨0, false, Nat.zero_le _, rfl, rfl, ⟨by simp [foundB]⟩, by assumption⟩
      case round =>
        obtain ⟨k, u, hk, rfl, rfl, HU, hdr2⟩ := hrel
        by_cases hlt2 : k < y.size
        · have HS := Aside0.mk (found_snoc x[i].toNat y k hlt2)
          cases u
          · go_wp2
            go_quiet (fail)
            go_wp2
            go_roundw
            case rel => exact ⟨k + 1, _, by omega, by go_num, rfl, ⟨by rw [HS.out, HU.out]; simp [beq_nat_int]⟩, Drawn0.step (by assumption) _⟩
            case measure => simp [intOf]; omega
          · go_wp2
            go_quiet (fail)
            go_wp2
            go_roundw
            case rel => exact ⟨k + 1, _, by omega, by go_num, rfl, ⟨by rw [HS.out, HU.out]; simp⟩, Drawn0.step (by assumption) _⟩
            case measure => simp [intOf]; omega
        · have hk' : k = y.size := by omega
          have HS := Aside0.mk (letters_snoc q x y i hlt)
          clear hi
          subst hk'
          cases t <;> cases u
          all_goals
            go_wp2
            go_roundw
            case rel => exact ⟨i + 1, _, by omega, by go_num, rfl, ⟨by rw [HS.out, HT.out, HU.out]; first | rfl | simp⟩, by assumption⟩
            case measure => simp [intOf]; omega
    · have hi' : i = x.size := by omega
      have ht : t = partB (Go.bits .and .i64 a 31) (Go.bits .and .i64 b 31) := by rw [← HT.out, hi', ← HX.out, ← HY.out]; exact HL.out
      subst ht
      rw [h2]
      go_wp2_with (first | (go_at_call 11; refine (part_acc (by assumption) _ _).mono ?_; rintro e w1 ⟨rfl, hd⟩) |  (go_at_call 13; refine (has_acc (by assumption) _ _).mono ?_; rintro e w1 ⟨rfl, hd⟩))
      go_ret
      exact ⟨rfl, Drawn0.below (by assumption)⟩

set_option maxHeartbeats 8000000 in
set_option maxRecDepth 100000 in
theorem walk_same (a b c : Int) (w : World) (ha : IsMask (Go.bits .and .i64 a 31)) (hb : IsMask (Go.bits .and .i64 b 31))
    (h0 : ((nameOf (Go.bits .and .i64 a 31)).toList == (nameOf (Go.bits .and .i64 b 31)).toList) = (Go.bits .and .i64 a 31 == Go.bits .and .i64 b 31))
    (h1 : (Go.bits .and .i64 a 31 == 0) = false) (h1b : (Go.bits .and .i64 a 31 != 0) = true) (h2 : partB (Go.bits .and .i64 a 31) (Go.bits .and .i64 b 31) = true) (h3 : partB (Go.bits .and .i64 a 31) (Go.bits .and .i64 a 31) = true) (h4 : partB (Go.bits .and .i64 a 31) 31 = true) (h5 : validB (Go.bits .and .i64 a 31) = true) (h7 : partB (Go.bits .and .i64 b 31) (Go.bits .and .i64 a 31) = true) (h8 : (Go.bits .and .i64 a 31 == Go.bits .and .i64 b 31) = true) (h8b : (Go.bits .and .i64 a 31 != Go.bits .and .i64 b 31) = false) (h9 : partB (Go.bits .and .i64 b 31) (Go.bits .and .i64 c 31) = false) (q : Bool) (h6 : (Go.bits .and .i64 b 31 != 0) = q) (HL : Aside0 (lettersIn q (nameOf (Go.bits .and .i64 a 31)) (nameOf (Go.bits .and .i64 b 31)) (nameOf (Go.bits .and .i64 a 31)).size = partB (Go.bits .and .i64 a 31) (Go.bits .and .i64 b 31))) :
    Calls Try.prog 4 #[.int .i64 a, .int .i64 b, .int .i64 c] w fun e w' => e = .returned (.bool true) ∧ Below w.heap.size w w' := by
  have hd0 := Drawn0.refl w
  go_enter Try.func4, Try.ntmps4
  go_wp2_with (first | (go_at_call 6; refine (head_acc (by assumption)).mono ?_; rintro e w1 ⟨rfl, hd⟩) | (go_at_call 14; refine (name_acc (by assumption) (by assumption)).mono ?_; rintro e w1 ⟨rfl, hd⟩) | (go_at_call 7; refine (back_acc (by assumption) (by assumption)).mono ?_; rintro e w1 ⟨rfl, hd⟩) | (go_at_call 11; refine (part_acc (by assumption) _ _).mono ?_; rintro e w1 ⟨rfl, hd⟩) | (go_at_call 9; refine (valid_acc (by assumption) _).mono ?_; rintro e w1 ⟨rfl, hd⟩))
  obtain ⟨x, hx⟩ : ∃ x, nameOf (Go.bits .and .i64 a 31) = x := ⟨_, rfl⟩
  obtain ⟨y, hy⟩ : ∃ y, nameOf (Go.bits .and .i64 b 31) = y := ⟨_, rfl⟩
  rw [hx, hy]
  have HX := Aside0.mk hx
  have HY := Aside0.mk hy
  have hxs : x.size ≤ 5 := by rw [← HX.out]; exact size_is ha
  have hys : y.size ≤ 5 := by rw [← HY.out]; exact size_is hb
  clear hx hy h0 h6 h1 h1b h3 h4 h5 h7 h8 h8b h9
  go_loopw [11, 12] (fun vin vi wr => ∃ (i : Nat) (t : Bool), i ≤ x.size ∧ vi = .int .i64 i ∧ vin = .bool t ∧ Aside0 (lettersIn q x y i = t) ∧ Drawn0 w wr) (fun _ vi _ => x.size - (intOf vi).toNat)
  case atStart => exact ⟨0, q, Nat.zero_le _, rfl, rfl, ⟨by simp [lettersIn]⟩, by assumption⟩
  case round =>
    obtain ⟨i, t, hi, rfl, rfl, HT, hdr⟩ := hrel
    by_cases hlt : i < x.size
    · go_wp2
      go_loopw [13, 14] (fun vf vk wr => ∃ (k : Nat) (u : Bool), k ≤ y.size ∧ vk = .int .i64 k ∧ vf = .bool u ∧ Aside0 (foundB x[i].toNat y k = u) ∧ Drawn0 w wr) (fun _ vi _ => y.size - (intOf vi).toNat)
      case atStart => exact ⟨0, false, Nat.zero_le _, rfl, rfl, ⟨by simp [foundB]⟩, by assumption⟩
      case round =>
        obtain ⟨k, u, hk, rfl, rfl, HU, hdr2⟩ := hrel
        by_cases hlt2 : k < y.size
        · have HS := Aside0.mk (found_snoc x[i].toNat y k hlt2)
          cases u
          · go_wp2
            go_quiet (fail)
            go_wp2
            go_roundw
            case rel => exact ⟨k + 1, _, by omega, by go_num, rfl, ⟨by rw [HS.out, HU.out]; simp [beq_nat_int]⟩, Drawn0.step (by assumption) _⟩
            case measure => simp [intOf]; omega
          · go_wp2
            go_quiet (fail)
            go_wp2
            go_roundw
            case rel => exact ⟨k + 1, _, by omega, by go_num, rfl, ⟨by rw [HS.out, HU.out]; simp⟩, Drawn0.step (by assumption) _⟩
            case measure => simp [intOf]; omega
        · have hk' : k = y.size := by omega
          have HS := Aside0.mk (letters_snoc q x y i hlt)
          clear hi
          subst hk'
          cases t <;> cases u
          all_goals
            go_wp2
            go_roundw
            case rel => exact ⟨i + 1, _, by omega, by go_num, rfl, ⟨by rw [HS.out, HT.out, HU.out]; first | rfl | simp⟩, by assumption⟩
            case measure => simp [intOf]; omega
    · have hi' : i = x.size := by omega
      have ht : t = partB (Go.bits .and .i64 a 31) (Go.bits .and .i64 b 31) := by rw [← HT.out, hi', ← HX.out, ← HY.out]; exact HL.out
      subst ht
      rw [h2]
      go_wp2_with (first | (go_at_call 11; refine (part_acc (by assumption) _ _).mono ?_; rintro e w1 ⟨rfl, hd⟩) |  (go_at_call 13; refine (has_acc (by assumption) _ _).mono ?_; rintro e w1 ⟨rfl, hd⟩))
      go_ret
      exact ⟨rfl, Drawn0.below (by assumption)⟩

set_option maxHeartbeats 8000000 in
set_option maxRecDepth 100000 in
theorem walk_sameup (a b c : Int) (w : World) (ha : IsMask (Go.bits .and .i64 a 31)) (hb : IsMask (Go.bits .and .i64 b 31))
    (h0 : ((nameOf (Go.bits .and .i64 a 31)).toList == (nameOf (Go.bits .and .i64 b 31)).toList) = (Go.bits .and .i64 a 31 == Go.bits .and .i64 b 31))
    (h1 : (Go.bits .and .i64 a 31 == 0) = false) (h1b : (Go.bits .and .i64 a 31 != 0) = true) (h2 : partB (Go.bits .and .i64 a 31) (Go.bits .and .i64 b 31) = true) (h3 : partB (Go.bits .and .i64 a 31) (Go.bits .and .i64 a 31) = true) (h4 : partB (Go.bits .and .i64 a 31) 31 = true) (h5 : validB (Go.bits .and .i64 a 31) = true) (h7 : partB (Go.bits .and .i64 b 31) (Go.bits .and .i64 a 31) = true) (h8 : (Go.bits .and .i64 a 31 == Go.bits .and .i64 b 31) = true) (h8b : (Go.bits .and .i64 a 31 != Go.bits .and .i64 b 31) = false) (h9 : partB (Go.bits .and .i64 b 31) (Go.bits .and .i64 c 31) = true) (h10 : partB (Go.bits .and .i64 a 31) (Go.bits .and .i64 c 31) = true) (q : Bool) (h6 : (Go.bits .and .i64 b 31 != 0) = q) (HL : Aside0 (lettersIn q (nameOf (Go.bits .and .i64 a 31)) (nameOf (Go.bits .and .i64 b 31)) (nameOf (Go.bits .and .i64 a 31)).size = partB (Go.bits .and .i64 a 31) (Go.bits .and .i64 b 31))) :
    Calls Try.prog 4 #[.int .i64 a, .int .i64 b, .int .i64 c] w fun e w' => e = .returned (.bool true) ∧ Below w.heap.size w w' := by
  have hd0 := Drawn0.refl w
  go_enter Try.func4, Try.ntmps4
  go_wp2_with (first | (go_at_call 6; refine (head_acc (by assumption)).mono ?_; rintro e w1 ⟨rfl, hd⟩) | (go_at_call 14; refine (name_acc (by assumption) (by assumption)).mono ?_; rintro e w1 ⟨rfl, hd⟩) | (go_at_call 7; refine (back_acc (by assumption) (by assumption)).mono ?_; rintro e w1 ⟨rfl, hd⟩) | (go_at_call 11; refine (part_acc (by assumption) _ _).mono ?_; rintro e w1 ⟨rfl, hd⟩) | (go_at_call 9; refine (valid_acc (by assumption) _).mono ?_; rintro e w1 ⟨rfl, hd⟩))
  obtain ⟨x, hx⟩ : ∃ x, nameOf (Go.bits .and .i64 a 31) = x := ⟨_, rfl⟩
  obtain ⟨y, hy⟩ : ∃ y, nameOf (Go.bits .and .i64 b 31) = y := ⟨_, rfl⟩
  rw [hx, hy]
  have HX := Aside0.mk hx
  have HY := Aside0.mk hy
  have hxs : x.size ≤ 5 := by rw [← HX.out]; exact size_is ha
  have hys : y.size ≤ 5 := by rw [← HY.out]; exact size_is hb
  clear hx hy h0 h6 h1 h1b h3 h4 h5 h7 h8 h8b h9 h10
  go_loopw [11, 12] (fun vin vi wr => ∃ (i : Nat) (t : Bool), i ≤ x.size ∧ vi = .int .i64 i ∧ vin = .bool t ∧ Aside0 (lettersIn q x y i = t) ∧ Drawn0 w wr) (fun _ vi _ => x.size - (intOf vi).toNat)
  case atStart => exact ⟨0, q, Nat.zero_le _, rfl, rfl, ⟨by simp [lettersIn]⟩, by assumption⟩
  case round =>
    obtain ⟨i, t, hi, rfl, rfl, HT, hdr⟩ := hrel
    by_cases hlt : i < x.size
    · go_wp2
      go_loopw [13, 14] (fun vf vk wr => ∃ (k : Nat) (u : Bool), k ≤ y.size ∧ vk = .int .i64 k ∧ vf = .bool u ∧ Aside0 (foundB x[i].toNat y k = u) ∧ Drawn0 w wr) (fun _ vi _ => y.size - (intOf vi).toNat)
      case atStart => exact ⟨0, false, Nat.zero_le _, rfl, rfl, ⟨by simp [foundB]⟩, by assumption⟩
      case round =>
        obtain ⟨k, u, hk, rfl, rfl, HU, hdr2⟩ := hrel
        by_cases hlt2 : k < y.size
        · have HS := Aside0.mk (found_snoc x[i].toNat y k hlt2)
          cases u
          · go_wp2
            go_quiet (fail)
            go_wp2
            go_roundw
            case rel => exact ⟨k + 1, _, by omega, by go_num, rfl, ⟨by rw [HS.out, HU.out]; simp [beq_nat_int]⟩, Drawn0.step (by assumption) _⟩
            case measure => simp [intOf]; omega
          · go_wp2
            go_quiet (fail)
            go_wp2
            go_roundw
            case rel => exact ⟨k + 1, _, by omega, by go_num, rfl, ⟨by rw [HS.out, HU.out]; simp⟩, Drawn0.step (by assumption) _⟩
            case measure => simp [intOf]; omega
        · have hk' : k = y.size := by omega
          have HS := Aside0.mk (letters_snoc q x y i hlt)
          clear hi
          subst hk'
          cases t <;> cases u
          all_goals
            go_wp2
            go_roundw
            case rel => exact ⟨i + 1, _, by omega, by go_num, rfl, ⟨by rw [HS.out, HT.out, HU.out]; first | rfl | simp⟩, by assumption⟩
            case measure => simp [intOf]; omega
    · have hi' : i = x.size := by omega
      have ht : t = partB (Go.bits .and .i64 a 31) (Go.bits .and .i64 b 31) := by rw [← HT.out, hi', ← HX.out, ← HY.out]; exact HL.out
      subst ht
      rw [h2]
      go_wp2_with (first | (go_at_call 11; refine (part_acc (by assumption) _ _).mono ?_; rintro e w1 ⟨rfl, hd⟩) |  (go_at_call 13; refine (has_acc (by assumption) _ _).mono ?_; rintro e w1 ⟨rfl, hd⟩))
      go_ret
      exact ⟨rfl, Drawn0.below (by assumption)⟩

set_option maxHeartbeats 8000000 in
set_option maxRecDepth 100000 in
theorem walk_part (a b c : Int) (w : World) (ha : IsMask (Go.bits .and .i64 a 31)) (hb : IsMask (Go.bits .and .i64 b 31))
    (h0 : ((nameOf (Go.bits .and .i64 a 31)).toList == (nameOf (Go.bits .and .i64 b 31)).toList) = (Go.bits .and .i64 a 31 == Go.bits .and .i64 b 31))
    (h1 : (Go.bits .and .i64 a 31 == 0) = false) (h1b : (Go.bits .and .i64 a 31 != 0) = true) (h2 : partB (Go.bits .and .i64 a 31) (Go.bits .and .i64 b 31) = true) (h3 : partB (Go.bits .and .i64 a 31) (Go.bits .and .i64 a 31) = true) (h4 : partB (Go.bits .and .i64 a 31) 31 = true) (h5 : validB (Go.bits .and .i64 a 31) = true) (h7 : partB (Go.bits .and .i64 b 31) (Go.bits .and .i64 a 31) = false) (h9 : partB (Go.bits .and .i64 b 31) (Go.bits .and .i64 c 31) = false) (q : Bool) (h6 : (Go.bits .and .i64 b 31 != 0) = q) (HL : Aside0 (lettersIn q (nameOf (Go.bits .and .i64 a 31)) (nameOf (Go.bits .and .i64 b 31)) (nameOf (Go.bits .and .i64 a 31)).size = partB (Go.bits .and .i64 a 31) (Go.bits .and .i64 b 31))) :
    Calls Try.prog 4 #[.int .i64 a, .int .i64 b, .int .i64 c] w fun e w' => e = .returned (.bool true) ∧ Below w.heap.size w w' := by
  have hd0 := Drawn0.refl w
  go_enter Try.func4, Try.ntmps4
  go_wp2_with (first | (go_at_call 6; refine (head_acc (by assumption)).mono ?_; rintro e w1 ⟨rfl, hd⟩) | (go_at_call 14; refine (name_acc (by assumption) (by assumption)).mono ?_; rintro e w1 ⟨rfl, hd⟩) | (go_at_call 7; refine (back_acc (by assumption) (by assumption)).mono ?_; rintro e w1 ⟨rfl, hd⟩) | (go_at_call 11; refine (part_acc (by assumption) _ _).mono ?_; rintro e w1 ⟨rfl, hd⟩) | (go_at_call 9; refine (valid_acc (by assumption) _).mono ?_; rintro e w1 ⟨rfl, hd⟩))
  obtain ⟨x, hx⟩ : ∃ x, nameOf (Go.bits .and .i64 a 31) = x := ⟨_, rfl⟩
  obtain ⟨y, hy⟩ : ∃ y, nameOf (Go.bits .and .i64 b 31) = y := ⟨_, rfl⟩
  rw [hx, hy]
  have HX := Aside0.mk hx
  have HY := Aside0.mk hy
  have hxs : x.size ≤ 5 := by rw [← HX.out]; exact size_is ha
  have hys : y.size ≤ 5 := by rw [← HY.out]; exact size_is hb
  clear hx hy h0 h6 h1 h1b h3 h4 h5 h7 h9
  go_loopw [11, 12] (fun vin vi wr => ∃ (i : Nat) (t : Bool), i ≤ x.size ∧ vi = .int .i64 i ∧ vin = .bool t ∧ Aside0 (lettersIn q x y i = t) ∧ Drawn0 w wr) (fun _ vi _ => x.size - (intOf vi).toNat)
  case atStart => exact ⟨0, q, Nat.zero_le _, rfl, rfl, ⟨by simp [lettersIn]⟩, by assumption⟩
  case round =>
    obtain ⟨i, t, hi, rfl, rfl, HT, hdr⟩ := hrel
    by_cases hlt : i < x.size
    · go_wp2
      go_loopw [13, 14] (fun vf vk wr => ∃ (k : Nat) (u : Bool), k ≤ y.size ∧ vk = .int .i64 k ∧ vf = .bool u ∧ Aside0 (foundB x[i].toNat y k = u) ∧ Drawn0 w wr) (fun _ vi _ => y.size - (intOf vi).toNat)
      case atStart => exact ⟨0, false, Nat.zero_le _, rfl, rfl, ⟨by simp [foundB]⟩, by assumption⟩
      case round =>
        obtain ⟨k, u, hk, rfl, rfl, HU, hdr2⟩ := hrel
        by_cases hlt2 : k < y.size
        · have HS := Aside0.mk (found_snoc x[i].toNat y k hlt2)
          cases u
          · go_wp2
            go_quiet (fail)
            go_wp2
            go_roundw
            case rel => exact ⟨k + 1, _, by omega, by go_num, rfl, ⟨by rw [HS.out, HU.out]; simp [beq_nat_int]⟩, Drawn0.step (by assumption) _⟩
            case measure => simp [intOf]; omega
          · go_wp2
            go_quiet (fail)
            go_wp2
            go_roundw
            case rel => exact ⟨k + 1, _, by omega, by go_num, rfl, ⟨by rw [HS.out, HU.out]; simp⟩, Drawn0.step (by assumption) _⟩
            case measure => simp [intOf]; omega
        · have hk' : k = y.size := by omega
          have HS := Aside0.mk (letters_snoc q x y i hlt)
          clear hi
          subst hk'
          cases t <;> cases u
          all_goals
            go_wp2
            go_roundw
            case rel => exact ⟨i + 1, _, by omega, by go_num, rfl, ⟨by rw [HS.out, HT.out, HU.out]; first | rfl | simp⟩, by assumption⟩
            case measure => simp [intOf]; omega
    · have hi' : i = x.size := by omega
      have ht : t = partB (Go.bits .and .i64 a 31) (Go.bits .and .i64 b 31) := by rw [← HT.out, hi', ← HX.out, ← HY.out]; exact HL.out
      subst ht
      rw [h2]
      go_wp2_with (first | (go_at_call 11; refine (part_acc (by assumption) _ _).mono ?_; rintro e w1 ⟨rfl, hd⟩) |  (go_at_call 13; refine (has_acc (by assumption) _ _).mono ?_; rintro e w1 ⟨rfl, hd⟩))
      go_ret
      exact ⟨rfl, Drawn0.below (by assumption)⟩

set_option maxHeartbeats 8000000 in
set_option maxRecDepth 100000 in
theorem walk_partup (a b c : Int) (w : World) (ha : IsMask (Go.bits .and .i64 a 31)) (hb : IsMask (Go.bits .and .i64 b 31))
    (h0 : ((nameOf (Go.bits .and .i64 a 31)).toList == (nameOf (Go.bits .and .i64 b 31)).toList) = (Go.bits .and .i64 a 31 == Go.bits .and .i64 b 31))
    (h1 : (Go.bits .and .i64 a 31 == 0) = false) (h1b : (Go.bits .and .i64 a 31 != 0) = true) (h2 : partB (Go.bits .and .i64 a 31) (Go.bits .and .i64 b 31) = true) (h3 : partB (Go.bits .and .i64 a 31) (Go.bits .and .i64 a 31) = true) (h4 : partB (Go.bits .and .i64 a 31) 31 = true) (h5 : validB (Go.bits .and .i64 a 31) = true) (h7 : partB (Go.bits .and .i64 b 31) (Go.bits .and .i64 a 31) = false) (h9 : partB (Go.bits .and .i64 b 31) (Go.bits .and .i64 c 31) = true) (h10 : partB (Go.bits .and .i64 a 31) (Go.bits .and .i64 c 31) = true) (q : Bool) (h6 : (Go.bits .and .i64 b 31 != 0) = q) (HL : Aside0 (lettersIn q (nameOf (Go.bits .and .i64 a 31)) (nameOf (Go.bits .and .i64 b 31)) (nameOf (Go.bits .and .i64 a 31)).size = partB (Go.bits .and .i64 a 31) (Go.bits .and .i64 b 31))) :
    Calls Try.prog 4 #[.int .i64 a, .int .i64 b, .int .i64 c] w fun e w' => e = .returned (.bool true) ∧ Below w.heap.size w w' := by
  have hd0 := Drawn0.refl w
  go_enter Try.func4, Try.ntmps4
  go_wp2_with (first | (go_at_call 6; refine (head_acc (by assumption)).mono ?_; rintro e w1 ⟨rfl, hd⟩) | (go_at_call 14; refine (name_acc (by assumption) (by assumption)).mono ?_; rintro e w1 ⟨rfl, hd⟩) | (go_at_call 7; refine (back_acc (by assumption) (by assumption)).mono ?_; rintro e w1 ⟨rfl, hd⟩) | (go_at_call 11; refine (part_acc (by assumption) _ _).mono ?_; rintro e w1 ⟨rfl, hd⟩) | (go_at_call 9; refine (valid_acc (by assumption) _).mono ?_; rintro e w1 ⟨rfl, hd⟩))
  obtain ⟨x, hx⟩ : ∃ x, nameOf (Go.bits .and .i64 a 31) = x := ⟨_, rfl⟩
  obtain ⟨y, hy⟩ : ∃ y, nameOf (Go.bits .and .i64 b 31) = y := ⟨_, rfl⟩
  rw [hx, hy]
  have HX := Aside0.mk hx
  have HY := Aside0.mk hy
  have hxs : x.size ≤ 5 := by rw [← HX.out]; exact size_is ha
  have hys : y.size ≤ 5 := by rw [← HY.out]; exact size_is hb
  clear hx hy h0 h6 h1 h1b h3 h4 h5 h7 h9 h10
  go_loopw [11, 12] (fun vin vi wr => ∃ (i : Nat) (t : Bool), i ≤ x.size ∧ vi = .int .i64 i ∧ vin = .bool t ∧ Aside0 (lettersIn q x y i = t) ∧ Drawn0 w wr) (fun _ vi _ => x.size - (intOf vi).toNat)
  case atStart => exact ⟨0, q, Nat.zero_le _, rfl, rfl, ⟨by simp [lettersIn]⟩, by assumption⟩
  case round =>
    obtain ⟨i, t, hi, rfl, rfl, HT, hdr⟩ := hrel
    by_cases hlt : i < x.size
    · go_wp2
      go_loopw [13, 14] (fun vf vk wr => ∃ (k : Nat) (u : Bool), k ≤ y.size ∧ vk = .int .i64 k ∧ vf = .bool u ∧ Aside0 (foundB x[i].toNat y k = u) ∧ Drawn0 w wr) (fun _ vi _ => y.size - (intOf vi).toNat)
      case atStart => exact ⟨0, false, Nat.zero_le _, rfl, rfl, ⟨by simp [foundB]⟩, by assumption⟩
      case round =>
        obtain ⟨k, u, hk, rfl, rfl, HU, hdr2⟩ := hrel
        by_cases hlt2 : k < y.size
        · have HS := Aside0.mk (found_snoc x[i].toNat y k hlt2)
          cases u
          · go_wp2
            go_quiet (fail)
            go_wp2
            go_roundw
            case rel => exact ⟨k + 1, _, by omega, by go_num, rfl, ⟨by rw [HS.out, HU.out]; simp [beq_nat_int]⟩, Drawn0.step (by assumption) _⟩
            case measure => simp [intOf]; omega
          · go_wp2
            go_quiet (fail)
            go_wp2
            go_roundw
            case rel => exact ⟨k + 1, _, by omega, by go_num, rfl, ⟨by rw [HS.out, HU.out]; simp⟩, Drawn0.step (by assumption) _⟩
            case measure => simp [intOf]; omega
        · have hk' : k = y.size := by omega
          have HS := Aside0.mk (letters_snoc q x y i hlt)
          clear hi
          subst hk'
          cases t <;> cases u
          all_goals
            go_wp2
            go_roundw
            case rel => exact ⟨i + 1, _, by omega, by go_num, rfl, ⟨by rw [HS.out, HT.out, HU.out]; first | rfl | simp⟩, by assumption⟩
            case measure => simp [intOf]; omega
    · have hi' : i = x.size := by omega
      have ht : t = partB (Go.bits .and .i64 a 31) (Go.bits .and .i64 b 31) := by rw [← HT.out, hi', ← HX.out, ← HY.out]; exact HL.out
      subst ht
      rw [h2]
      go_wp2_with (first | (go_at_call 11; refine (part_acc (by assumption) _ _).mono ?_; rintro e w1 ⟨rfl, hd⟩) |  (go_at_call 13; refine (has_acc (by assumption) _ _).mono ?_; rintro e w1 ⟨rfl, hd⟩))
      go_ret
      exact ⟨rfl, Drawn0.below (by assumption)⟩

def inLetters (x y : ByteArray) : Bool := x.data.toList.all (fun c => y.data.toList.contains c)
theorem nameOf_eq : ∀ a b : Fin 32, ((nameOf ((a.val : Nat) : Int)).data == (nameOf ((b.val : Nat) : Int)).data) = (((a.val : Nat) : Int) == ((b.val : Nat) : Int)) := by decide +kernel
theorem letters_tried : ∀ a b : Fin 32, ((((a.val : Nat) : Int) != 0 && ((b.val : Nat) : Int) != 0) && inLetters (nameOf ((a.val : Nat) : Int)) (nameOf ((b.val : Nat) : Int))) = partB ((a.val : Nat) : Int) ((b.val : Nat) : Int) := by decide +kernel
theorem anti_tried : ∀ a b : Fin 32, partB ((a.val : Nat) : Int) ((b.val : Nat) : Int) = true → partB ((b.val : Nat) : Int) ((a.val : Nat) : Int) = true → a = b := by decide +kernel
theorem trans_tried : ∀ a b : Fin 32, partB ((a.val : Nat) : Int) ((b.val : Nat) : Int) = true → ∀ c : Fin 32, partB ((b.val : Nat) : Int) ((c.val : Nat) : Int) = true → partB ((a.val : Nat) : Int) ((c.val : Nat) : Int) = true := by decide +kernel
theorem self_tried : ∀ a : Fin 32, a.val ≠ 0 → partB ((a.val : Nat) : Int) ((a.val : Nat) : Int) = true ∧ partB ((a.val : Nat) : Int) 31 = true ∧ validB ((a.val : Nat) : Int) = true := by decide +kernel
theorem zero_tried : ∀ b : Fin 32, partB 0 ((b.val : Nat) : Int) = false ∧ partB ((b.val : Nat) : Int) 0 = false ∧ validB 0 = false := by decide +kernel

theorem toList_beq (x y : ByteArray) : (x.toList == y.toList) = (x.data == y.data) := by
  rw [Bool.eq_iff_iff, beq_iff_eq, beq_iff_eq, ByteArray.toList_eq, ByteArray.toList_eq]
  constructor
  · intro h; exact Array.toList_inj.1 h
  · intro h; rw [h]

theorem order_walk (a b c : Int) (w : World) : Calls Try.prog 4 #[.int .i64 a, .int .i64 b, .int .i64 c] w fun e w' => e = .returned (.bool true) ∧ Below w.heap.size w w' := by
  have ha : IsMask (Go.bits .and .i64 a 31) := and31 a
  have hb : IsMask (Go.bits .and .i64 b 31) := and31 b
  have hc : IsMask (Go.bits .and .i64 c 31) := and31 c
  obtain ⟨n, hn⟩ : ∃ n : Fin 32, Go.bits .and .i64 a 31 = ((n.val : Nat) : Int) := ⟨⟨(Go.bits .and .i64 a 31).toNat, by have := ha.1; have := ha.2; omega⟩, by have := ha.1; simp; omega⟩
  obtain ⟨m, hm⟩ : ∃ n : Fin 32, Go.bits .and .i64 b 31 = ((n.val : Nat) : Int) := ⟨⟨(Go.bits .and .i64 b 31).toNat, by have := hb.1; have := hb.2; omega⟩, by have := hb.1; simp; omega⟩
  obtain ⟨l, hl⟩ : ∃ n : Fin 32, Go.bits .and .i64 c 31 = ((n.val : Nat) : Int) := ⟨⟨(Go.bits .and .i64 c 31).toNat, by have := hc.1; have := hc.2; omega⟩, by have := hc.1; simp; omega⟩
  have e0 : ((nameOf (Go.bits .and .i64 a 31)).toList == (nameOf (Go.bits .and .i64 b 31)).toList) = (Go.bits .and .i64 a 31 == Go.bits .and .i64 b 31) := by
    rw [toList_beq, hn, hm]; exact nameOf_eq n m
  have eL : lettersIn (Go.bits .and .i64 a 31 != 0 && Go.bits .and .i64 b 31 != 0) (nameOf (Go.bits .and .i64 a 31)) (nameOf (Go.bits .and .i64 b 31)) (nameOf (Go.bits .and .i64 a 31)).size = partB (Go.bits .and .i64 a 31) (Go.bits .and .i64 b 31) := by
    have := letters_tried n m
    rw [← hn, ← hm] at this
    rw [← this]
    unfold lettersIn inLetters
    rw [List.take_of_length_le (by simp)]
  by_cases h : Go.bits .and .i64 a 31 = 0
  · have z := zero_tried m
    rw [← hm] at z
    refine walk_zero a b c w ha hb e0 (by rw [h]; rfl) (by rw [h]; rfl) (by rw [h]; exact z.1) (by rw [h]; exact z.2.1) (by rw [h]; exact z.2.2) _ rfl ⟨?_⟩
    rw [h] at eL ⊢
    exact eL
  · have s := self_tried n (by intro h'; exact h (by rw [hn, h']; rfl))
    rw [← hn] at s
    have h1 : (Go.bits .and .i64 a 31 == 0) = false := by simpa using h
    have h1b : (Go.bits .and .i64 a 31 != 0) = true := by simpa using h
    rw [h1b, Bool.true_and] at eL
    by_cases ht : partB (Go.bits .and .i64 a 31) (Go.bits .and .i64 b 31) = true
    · by_cases hu : partB (Go.bits .and .i64 b 31) (Go.bits .and .i64 a 31) = true
      · have hab : Go.bits .and .i64 a 31 = Go.bits .and .i64 b 31 := by
          have := anti_tried n m (by rw [← hn, ← hm]; exact ht) (by rw [← hn, ← hm]; exact hu)
          rw [hn, hm, this]
        by_cases hv : partB (Go.bits .and .i64 b 31) (Go.bits .and .i64 c 31) = true
        · exact walk_sameup a b c w ha hb e0 h1 h1b ht s.1 s.2.1 s.2.2 hu (by simpa using hab) (by simpa using hab) hv (by rw [hab]; exact hv) _ rfl ⟨eL⟩
        · exact walk_same a b c w ha hb e0 h1 h1b ht s.1 s.2.1 s.2.2 hu (by simpa using hab) (by simpa using hab) (by simpa using hv) _ rfl ⟨eL⟩
      · by_cases hv : partB (Go.bits .and .i64 b 31) (Go.bits .and .i64 c 31) = true
        · have hx := trans_tried n m (by rw [← hn, ← hm]; exact ht) l (by rw [← hm, ← hl]; exact hv)
          rw [← hn, ← hl] at hx
          exact walk_partup a b c w ha hb e0 h1 h1b ht s.1 s.2.1 s.2.2 (by simpa using hu) hv hx _ rfl ⟨eL⟩
        · exact walk_part a b c w ha hb e0 h1 h1b ht s.1 s.2.1 s.2.2 (by simpa using hu) (by simpa using hv) _ rfl ⟨eL⟩
    · exact walk_no a b c w ha hb e0 h1 h1b (by simpa using ht) s.1 s.2.1 s.2.2 _ rfl ⟨eL⟩

end Go.Proofs.Ytoegclilhchlmaa.HandOrder

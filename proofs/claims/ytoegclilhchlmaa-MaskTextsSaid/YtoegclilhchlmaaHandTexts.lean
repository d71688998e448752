/- For every mask, every place and every byte: the mask's letters with that byte laid in are read as a mask only where they are its own letters; there is no condition beyond the given statement's own. -/
import Derived.Test.YtoegclilhchlmaaPMaskTextsx1
import Derived.WalkLawsBesides
namespace Go.Proofs.Ytoegclilhchlmaa.HandTexts
open Go.RowKit Go.Proofs.Ytoegclilhchlmaa.PMaskTexts Go.Proofs.YtoegclilhchlmaaW.PrintWords Go.Proofs.YtoegclilhchlmaaW.PrintLast

theorem head_true : sesamelaw03_head.f 80 = some true := by decide +kernel

/-- The letters of each mask, as both texts give them: by trial of all thirty-two. -/
theorem names_both : ∀ r : Fin 32, mask_Names.f 20 ((r.val : Nat) : Int) = sesameref03_Names.f 20 ((r.val : Nat) : Int) ∧ (mask_Names.f 20 ((r.val : Nat) : Int)).isSome = true := by decide +kernel

theorem names_at (r : Int) (h0 : 0 ≤ r) (h1 : r < 32) : ∃ b, ∀ k, 20 ≤ k → mask_Names.f k r = some b ∧ sesameref03_Names.f k r = some b := by
  obtain ⟨n, rfl⟩ : ∃ n : Nat, r = (n : Int) := ⟨r.toNat, by omega⟩
  obtain ⟨he, hs⟩ := names_both ⟨n, by omega⟩
  obtain ⟨b, hb⟩ := Option.isSome_iff_exists.1 hs
  refine ⟨b, fun k hk => ⟨at_rounds (mask_Names.mono _) hk hb, at_rounds (sesameref03_Names.mono _) hk ?_⟩⟩
  rw [← he]; exact hb

/-- Both readings of a text, from mask r on: one answer; found: its letters are the text; not found: 0 and the error. -/
theorem parse_both (s : ByteArray) (d : Nat) : ∀ (k : Nat) (r : Int), 0 ≤ r → r ≤ 32 → 32 - r = (d : Int) → 20 + d < k →
    ∃ x e, mask_Parse.l0 k s r = some (x, e) ∧ sesameref03_Parse.l0 k s r = some (x, e) ∧
      ((e = 0 ∧ r ≤ x ∧ x < 32 ∧ ∀ j b, 20 ≤ j → mask_Names.f j x = some b → b.toList = s.toList) ∨ (e = 22 ∧ x = 0)) := by
  induction d with
  | zero =>
    intro k r h0 h1 hd hk
    obtain ⟨k, rfl⟩ : ∃ m, k = m + 1 := ⟨k - 1, by omega⟩
    refine ⟨0, 22, ?_, ?_, .inr ⟨rfl, rfl⟩⟩
    · simp only [mask_Parse.l0]; rw [if_neg (by omega)]
    · simp only [sesameref03_Parse.l0]; rw [if_neg (by omega)]
  | succ d ih =>
    intro k r h0 h1 hd hk
    obtain ⟨k, rfl⟩ : ∃ m, k = m + 1 := ⟨k - 1, by omega⟩
    obtain ⟨b, hb⟩ := names_at r h0 (by omega)
    obtain ⟨hb1, hb2⟩ := hb k (by omega)
    have hw : wrap64 (r + 1) = r + 1 := by unfold wrap64; omega
    simp only [mask_Parse.l0, sesameref03_Parse.l0]
    rw [if_pos (by omega), if_pos (by omega), hb1, hb2]
    simp only [Option.bind_some]
    by_cases he : b.toList = s.toList
    · rw [if_pos he, if_pos he]
      refine ⟨r, 0, rfl, rfl, .inl ⟨rfl, Int.le_refl _, by omega, ?_⟩⟩
      intro j b' hj hb'
      rw [(hb j hj).1] at hb'
      obtain rfl := Option.some.inj hb'
      exact he
    · rw [if_neg he, if_neg he, hw]
      obtain ⟨x, e, e1, e2, h⟩ := ih k (r + 1) (by omega) (by omega) (by omega) (by omega)
      refine ⟨x, e, e1, e2, ?_⟩
      rcases h with ⟨h1, h2, h3⟩ | h
      · exact .inl ⟨h1, by omega, h3⟩
      · exact .inr h
theorem parse_at (s : ByteArray) (k : Nat) (hk : 60 ≤ k) : ∃ x e, mask_Parse.f k s = some (x, e) ∧ sesameref03_Parse.f k s = some (x, e) ∧
      ((e = 0 ∧ 0 ≤ x ∧ x < 32 ∧ ∀ j b, 20 ≤ j → mask_Names.f j x = some b → b.toList = s.toList) ∨ (e = 22 ∧ x = 0)) :=
  parse_both s 32 k 0 (by omega) (by omega) (by omega) (by omega)

theorem and31 (a : Int) : 0 ≤ Go.bits .and .i64 a 31 ∧ Go.bits .and .i64 a 31 < 32 := by
  have h : (BitVec.ofInt 64 a &&& 31#64).toNat ≤ 31 := by rw [BitVec.toNat_and]; exact Nat.and_le_right
  have e : Go.bits .and .i64 a 31 = IntKind.i64.wrap ((BitVec.ofInt 64 a &&& 31#64).toNat : Int) := rfl
  rw [e, IntKind.wrap_i64]
  omega

theorem names_small : ∀ r : Fin 32, (mask_Names.f 20 ((r.val : Nat) : Int)).map (fun b => decide (b.size ≤ 5)) = some true := by decide +kernel


theorem one_string (w : World) (c : Int) : (convert 33 9 (Value.slice (some ⟨w.heap.size, 0, none⟩) 1 1)).run Try.prog (w.alloc (Obj.cells #[Value.int .u8 c] 5)).drew =
    .ok (.string (strOfNums [c])) (w.alloc (Obj.cells #[Value.int .u8 c] 5)).drew := by
  have h : (w.alloc (Obj.cells #[Value.int .u8 c] 5)).drew.ownsRow 0 5 1 (Value.slice (some ⟨w.heap.size, 0, none⟩) 1 1) 1 (nums .u8 [c]) := by
    refine ⟨rfl, .inr ⟨w.heap.size, 1, #[Value.int .u8 c], rfl, Nat.zero_le _, ?_, by decide, by decide, rfl, rfl⟩⟩
    exact heap_alloc_new w _
  exact own_string (P := Try.prog) Try.underlying33 Try.underlying5 Try.underlying9 h

/-- What the program's Parse tells of a text: its answer, and that the reference's is the same. -/
def Tells (s : ByteArray) (w : World) (e : Ending) (w' : World) : Prop :=
  Drawn0 w w' ∧ ((∃ x, e = .returned (.tuple #[.int .i64 x, .int .i64 0]) ∧ 0 ≤ x ∧ x < 32 ∧ ∃ b, mask_Names.f 80 x = some b ∧ b.toList = s.toList) ∨
    (e = .returned (.tuple #[.int .i64 0, .int .i64 22]) ∧ sesameref03_Parse.f 80 s = some (0, 22)))
theorem parse_tells (s : ByteArray) (w : World) : Calls Try.prog 7 #[.string s] w (Tells s w) := by
  obtain ⟨x, e, p1, p2, h⟩ := parse_at s 80 (by omega)
  refine (mask_Parse.calls 80 s x e w p1).mono ?_
  rintro r w' ⟨rfl, hd⟩
  refine ⟨hd, ?_⟩
  rcases h with ⟨rfl, x0, x1, hn⟩ | ⟨rfl, rfl⟩
  · obtain ⟨b, hb⟩ := names_at x x0 x1
    have hb1 := (hb 80 (by omega)).1
    exact .inl ⟨x, rfl, x0, x1, b, hb1, hn 80 b (by omega) hb1⟩
  · exact .inr ⟨rfl, p2⟩

theorem bel {B : Nat} {a w w' : World} (h : Below B a w) (d : Drawn0 w w') (hB : B ≤ w.heap.size) : Below B a w' := h.trans (d.below.mono hB)

set_option maxHeartbeats 800000 in
theorem walk_pos (a at_ c : Int) (b : ByteArray) (w : World) (hn : Aside0 (mask_Names.f 80 (Go.bits .and .i64 a 31) = some b)) (hb5 : b.size ≤ 5) (h0 : 0 ≤ at_.tmod ((b.size : Int) + 1)) (h1 : at_.tmod ((b.size : Int) + 1) ≤ b.size) :
    Calls Try.prog 5 #[.int .i64 a, .int .i64 at_, .int .u8 c] w fun e w' => e = .returned (.bool true) ∧ Below w.heap.size w w' := by
  have hcv := fun w => one_string w c
  have es : (strOfNums [c]).size = 1 := rfl
  go_enter Try.func5, Try.ntmps5
  go_wp2_with (first | (go_at_call 6; refine (sesamelaw03_head.calls 80 true _ head_true).mono ?_; rintro e w1 ⟨rfl, hd⟩) | (go_at_call 14; refine (mask_Names.calls 80 _ b _ hn.out).mono ?_; rintro e w2 ⟨rfl, hd2⟩))
  go_region
  clear hcv es
  go_wp2_with fail
  refine (parse_tells _ _).mono ?_
  rintro e w3 ⟨hd3, ⟨x, rfl, x0, x1, bx, hbx, hbt⟩ | ⟨rfl, hp⟩⟩
  · have HBX := Aside0.mk hbx
    have HBT := Aside0.mk hbt
    clear hbx hbt
    go_wp2_with fail
    refine (mask_Names.calls 80 _ bx _ HBX.out).mono ?_
    rintro e w4 ⟨rfl, hd4⟩
    go_wp2_with fail
    go_ret
    have HB := bel (bel (((hd.below.trans (hd2.below.mono hd.below.size)).alloc (Nat.le_trans hd.below.size hd2.below.size) (Obj.cells #[Value.int IntKind.u8 c] 5)).drew) hd3 (Nat.le_trans (Nat.le_trans hd.below.size hd2.below.size) (by simp))) hd4 (Nat.le_trans (Nat.le_trans (Nat.le_trans hd.below.size hd2.below.size) (by simp)) hd3.below.size)
    exact ⟨by rw [HBT.out]; simp, HB⟩
  · have HP := Aside0.mk hp
    clear hp
    go_wp2_with fail
    refine (sesameref03_Parse.calls 80 _ _ _ _ HP.out).mono ?_
    rintro e w4 ⟨rfl, hd4⟩
    go_wp2_with fail
    go_ret
    have HB := (bel (((hd.below.trans (hd2.below.mono hd.below.size)).alloc (Nat.le_trans hd.below.size hd2.below.size) (Obj.cells #[Value.int IntKind.u8 c] 5)).drew) hd3 (Nat.le_trans (Nat.le_trans hd.below.size hd2.below.size) (by simp))).trans (hd4.mono (Nat.le_trans (Nat.le_trans (Nat.le_trans hd.below.size hd2.below.size) (by simp)) hd3.below.size))
    exact ⟨rfl, HB⟩

set_option maxHeartbeats 800000 in
theorem walk_neg (a at_ c : Int) (b : ByteArray) (w : World) (hn : Aside0 (mask_Names.f 80 (Go.bits .and .i64 a 31) = some b)) (hb5 : b.size ≤ 5) (h0 : at_.tmod ((b.size : Int) + 1) < 0) (h1 : -((b.size : Int) + 1) < at_.tmod ((b.size : Int) + 1)) :
    Calls Try.prog 5 #[.int .i64 a, .int .i64 at_, .int .u8 c] w fun e w' => e = .returned (.bool true) ∧ Below w.heap.size w w' := by
  have hcv := fun w => one_string w c
  have es : (strOfNums [c]).size = 1 := rfl
  go_enter Try.func5, Try.ntmps5
  go_wp2_with (first | (go_at_call 6; refine (sesamelaw03_head.calls 80 true _ head_true).mono ?_; rintro e w1 ⟨rfl, hd⟩) | (go_at_call 14; refine (mask_Names.calls 80 _ b _ hn.out).mono ?_; rintro e w2 ⟨rfl, hd2⟩))
  go_region
  clear hcv es
  go_wp2_with fail
  refine (parse_tells _ _).mono ?_
  rintro e w3 ⟨hd3, ⟨x, rfl, x0, x1, bx, hbx, hbt⟩ | ⟨rfl, hp⟩⟩
  · have HBX := Aside0.mk hbx
    have HBT := Aside0.mk hbt
    clear hbx hbt
    go_wp2_with fail
    refine (mask_Names.calls 80 _ bx _ HBX.out).mono ?_
    rintro e w4 ⟨rfl, hd4⟩
    go_wp2_with fail
    go_ret
    have HB := bel (bel (((hd.below.trans (hd2.below.mono hd.below.size)).alloc (Nat.le_trans hd.below.size hd2.below.size) (Obj.cells #[Value.int IntKind.u8 c] 5)).drew) hd3 (Nat.le_trans (Nat.le_trans hd.below.size hd2.below.size) (by simp))) hd4 (Nat.le_trans (Nat.le_trans (Nat.le_trans hd.below.size hd2.below.size) (by simp)) hd3.below.size)
    exact ⟨by rw [HBT.out]; simp, HB⟩
  · have HP := Aside0.mk hp
    clear hp
    go_wp2_with fail
    refine (sesameref03_Parse.calls 80 _ _ _ _ HP.out).mono ?_
    rintro e w4 ⟨rfl, hd4⟩
    go_wp2_with fail
    go_ret
    have HB := (bel (((hd.below.trans (hd2.below.mono hd.below.size)).alloc (Nat.le_trans hd.below.size hd2.below.size) (Obj.cells #[Value.int IntKind.u8 c] 5)).drew) hd3 (Nat.le_trans (Nat.le_trans hd.below.size hd2.below.size) (by simp))).trans (hd4.mono (Nat.le_trans (Nat.le_trans (Nat.le_trans hd.below.size hd2.below.size) (by simp)) hd3.below.size))
    exact ⟨rfl, HB⟩

theorem texts_walk (a at_ c : Int) (w : World) : Calls Try.prog 5 #[.int .i64 a, .int .i64 at_, .int .u8 c] w fun e w' => e = .returned (.bool true) ∧ Below w.heap.size w w' := by
  obtain ⟨m0, m1⟩ := and31 a
  obtain ⟨b, hb⟩ := names_at (Go.bits .and .i64 a 31) m0 m1
  have hs : b.size ≤ 5 := by
    generalize Go.bits .and .i64 a 31 = r at m0 m1 hb
    obtain ⟨n, rfl⟩ : ∃ n : Nat, r = (n : Int) := ⟨r.toNat, by omega⟩
    have := names_small ⟨n, by omega⟩
    rw [show mask_Names.f 20 (((⟨n, by omega⟩ : Fin 32).val : Nat) : Int) = some b from (hb 20 (by omega)).1] at this
    simpa using this
  have t0 := Int.tmod_lt_of_pos at_ (show (0 : Int) < (b.size : Int) + 1 by omega)
  have t1 : -((b.size : Int) + 1) < Int.tmod at_ ((b.size : Int) + 1) := by
    have := Int.tmod_lt_of_pos (-at_) (show (0 : Int) < (b.size : Int) + 1 by omega)
    rw [Int.neg_tmod] at this
    omega
  have hn := Aside0.mk (hb 80 (by omega)).1
  by_cases hp : 0 ≤ at_.tmod ((b.size : Int) + 1)
  · exact walk_pos a at_ c b w hn hs hp (by omega)
  · exact walk_neg a at_ c b w hn hs (by omega) (by omega)

end Go.Proofs.Ytoegclilhchlmaa.HandTexts

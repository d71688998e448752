/- alive: a page that is taken, written and read. -/
import Derived.Test.YtbhpikagjcojbaaAr9
import Derived.Test.YtbhpikagjcojbaaAr10
import Derived.Laws.BytesArg
import Derived.Lib.SlBytesConst
namespace Go.Proofs.Ytbhpikagjcojbaa.Ar
open Go.RowKit Go.Proofs.Ytbhpikagjcojbaa.Mem
theorem conv_own {w : World} {A : Option Addr} {n c : Nat} {zs : List Int} (h : w.ownsRow 0 5 1 (.slice A n c) n (zs.map byteC)) (hp : 0 < n) : (convert 36 9 (.slice A n c)).run Try.prog w = .ok (.string (strOfNums zs)) w := by
  have hl := h.1
  obtain ⟨g, c', cur, e, _, _, _, _, _, hcell⟩ := own_form h hp
  obtain ⟨rfl, rfl⟩ : A = some ⟨g, 0, none⟩ ∧ c = c' := by simpa using e
  rw [List.length_map, Nat.mul_one] at hl
  exact run_convert_bytes_arg w 36 5 Try.underlying36 Try.underlying5 g 0 n c zs hl (fun i hi => by
    rw [Nat.zero_add]
    refine hcell i _ ?_
    rw [List.getElem?_map, List.getD_eq_getElem?_getD, List.getElem?_eq_getElem (by omega)]
    rfl) 9 Try.underlying9
theorem str_ab : strOfNums [0, 97, 98] = ⟨#[0, 97, 98]⟩ := rfl
theorem trun_1_2 (bs : List Int) : trun 1 [false, false] bs 2 = ⟨[0], [true, false], laid bs 0 zeros⟩ := by
  simp [trun, tstep]
theorem free_2 : freeN [false, false] 2 = 2 := by decide
theorem free_1 : freeN [true, false] 2 = 1 := by decide
theorem tk_1 : tk [true, false] 2 = [0] := by decide
def bs1 : List Int := laid (laid (List.replicate 128 0) 0 zeros) 3 [97, 98]
theorem bs1_read : (bs1.drop 2).take 3 = [0, 97, 98] := by decide
set_option maxHeartbeats 4000000 in
set_option maxRecDepth 100000 in
theorem alive_any (w : World) : Calls Try.prog 9 #[] w fun e w' => e = .returned (.bool true) ∧ Below w.heap.size w w' := by
  have HNEW := Lib.hid (new_in w 2 (by decide))
  change Hid (Calls Try.prog 7 #[.int .i64 2] w _) at HNEW
  go_enter Try.func9, Try.ntmps9
  go_wp2_with fail
  (with_reducible refine HNEW.out.mono ?_)
  rintro e w1 ⟨p, a, t, rfl, h1, b1, hp, ha, ht⟩
  have HA1 := Lib.hid h1
  have HB1 := Lib.hid b1
  clear h1 b1 HNEW
  have HTK : Hid (Calls Try.prog 10 #[.pointer (some ⟨p, 0, none⟩), .int .i64 1] w1 fun e w' => ∃ A c, e = .returned (.tuple #[.slice A 1 c, .int .i64 0]) ∧ w'.ownsRow 0 3 1 (.slice A 1 c) 1 [.int .i64 0] ∧ At w' p a t 2 [true, false] (laid (List.replicate 128 0) 0 zeros) ∧ Kept (fun b => b = a ∨ b = t) w1 w' ∧ Fresh w1 (.slice A 1 c)) := by
    have := take_in w1 p a t 2 [false, false] (List.replicate 128 0) 1 HA1.out (by rw [free_2]; decide)
    rw [trun_1_2] at this
    exact this
  have HNUM := Lib.hid num_any
  have kc := fun (w : World) (C : Array Value) (n c : Nat) => Lib.run_convert_bytes_const (P := Try.prog) w 36 5 C n c Try.underlying36 Try.underlying5
  go_wp2_with (go_at_call 8; (with_reducible refine (HNUM.out _ _).mono ?_); rintro e w2 ⟨rfl, rfl⟩)
  (with_reducible refine HTK.out.mono ?_)
  rintro e w2 ⟨Al, cl, rfl, ol, h2, k2, fl⟩
  have HA2 := Lib.hid h2
  have OL := Lib.hid ol
  have FL := Lib.hid fl
  have HB2 : Hid (Below w.heap.size w w2) := HB1.out.trans (k2.below (fun b hb => by rcases hb with rfl | rfl <;> omega) HB1.out.size)
  have hal1 := HA1.out.cells.2.2.2.2.2.1
  clear h2 ol fl k2 HTK HA1 HB1
  have HA3 := Lib.hid (HA2.out.below ((Below.refl _ w2).alloc (Nat.le_refl _) (.cells #[.int .u8 97, .int .u8 98] 5 (2, 3))))
  have HWR : Hid (Calls Try.prog 15 #[.pointer (some ⟨p, 0, none⟩), .int .i64 0, .int .i64 3, .slice (some ⟨w2.heap.size, 0, none⟩) 2 2] (w2.alloc (.cells #[.int .u8 97, .int .u8 98] 5 (2, 3))) fun e w' => e = .returned (.int .i64 0) ∧ At w' p a t 2 [true, false] bs1 ∧ Kept (fun b => b = a) (w2.alloc (.cells #[.int .u8 97, .int .u8 98] 5 (2, 3))) w') :=
    write_in _ p a t 2 _ _ 0 3 2 _ 2 [97, 98] HA3.out (by decide) (by decide) (by decide) rfl (holds_new w2 #[.int .u8 97, .int .u8 98] 5 (2, 3) _ rfl)
  have OL3 := Lib.hid (own_keeps OL.out ((Kept.refl _ w2).alloc (.cells #[.int .u8 97, .int .u8 98] 5 (2, 3))))
  go_wp2_with fail
  (with_reducible refine HWR.out.mono ?_)
  rintro e w4 ⟨rfl, h4, k4⟩
  have HA4 := Lib.hid h4
  have HB4 : Hid (Below w.heap.size w w4) := (HB2.out.trans (((Below.refl _ w2).alloc (Nat.le_refl _) _).mono HB2.out.size)).trans (k4.below (fun b hb => by rw [hb]; exact ha) (Nat.le_trans HB2.out.size (by simp)))
  have OL4 := Lib.hid (own_kept OL3.out k4 (fun b hb e => by have := FL.out b hb; omega))
  clear h4 k4 HWR OL3 HA3 OL HA2 HB2
  have HRD : Hid (Calls Try.prog 16 #[.pointer (some ⟨p, 0, none⟩), .int .i64 0, .int .i64 2, .int .i64 3] w4 fun e w' => ∃ A c', e = .returned (.tuple #[.slice A 3 c', .int .i64 0]) ∧ w'.ownsRow 0 5 1 (.slice A 3 c') 3 ([0, 97, 98].map byteC) ∧ Below w4.heap.size w4 w' ∧ Fresh w4 (.slice A 3 c')) := by
    have := read_in w4 p a t 2 _ _ 0 2 3 HA4.out (by decide) (by decide) (by decide)
    rw [show 0 * 64 + 2 = 2 from rfl, bs1_read] at this
    exact this
  go_wp2_with fail
  (with_reducible refine HRD.out.mono ?_)
  rintro e w5 ⟨Ab, cb, rfl, ob, b5, _⟩
  have HA5 := Lib.hid (HA4.out.below b5)
  have HB5 := Lib.hid (HB4.out.trans (b5.mono HB4.out.size))
  have OL5 := Lib.hid (own_keeps OL4.out (Kept.of_below b5))
  have OB := Lib.hid ob
  clear HRD OL4 HA4 HB4 b5 ob
  have HN1 := Lib.hid (numbers_same (w5.alloc (.cells #[.int .i64 0] 3)) _ _ [0] (reads_own (n := 1) rfl (own_keeps OL5.out ((Kept.refl _ w5).alloc (.cells #[.int .i64 0] 3)))) (reads_new [0] 1 rfl (by decide) #[.int .i64 0] rfl))
  have HFR : Hid (∀ w', Below w5.heap.size w5 w' → Calls Try.prog 20 #[.pointer (some ⟨p, 0, none⟩)] w' fun e w2 => e = .returned (.int .i64 1) ∧ Below w'.heap.size w' w2) := fun w' hb => by
    have := free_any w' p a t 2 _ _ (HA5.out.below hb)
    rwa [free_1] at this
  have HTN : Hid (∀ w', Below w5.heap.size w5 w' → Calls Try.prog 11 #[.pointer (some ⟨p, 0, none⟩)] w' fun e w2 => ∃ A c, e = .returned (.slice A 1 c) ∧ w2.ownsRow 0 3 1 (.slice A 1 c) 1 ([0].map (Value.int .i64)) ∧ Below w'.heap.size w' w2) := fun w' hb => by
    refine (taken_any w' p a t 2 _ _ (HA5.out.below hb)).mono ?_
    rw [tk_1]
    rintro e w2 ⟨A, c, h1, h2, h3, _⟩
    exact ⟨A, c, h1, h2, h3⟩
  have hbx : ∀ w6, Below (w5.alloc (.cells #[.int .i64 0] 3)).heap.size (w5.alloc (.cells #[.int .i64 0] 3)) w6 → Below w5.heap.size w5 w6 := fun w6 hb => ((Below.refl _ w5).alloc (Nat.le_refl _) (.cells #[.int .i64 0] 3)).trans (hb.mono (by simp))
  have HBX := Lib.hid hbx
  have HCV : Hid (∀ w', Below w5.heap.size w5 w' → (convert 36 9 (.slice Ab 3 cb)).run Try.prog w' = .ok (.string ⟨#[0, 97, 98]⟩) w') := fun w' hb => by
    rw [← str_ab]
    exact conv_own (own_keeps OB.out (Kept.of_below hb)) (by decide)
  clear hbx OL5 OB
  go_wp2_with (first | (go_at_call 13; (with_reducible refine HN1.out.mono ?_); rintro e w6 ⟨rfl, b6⟩; have HB6 := Lib.hid (HBX.out _ b6); have hcv := HCV.out w6 HB6.out; clear b6) | (go_at_call 8; (with_reducible refine (HNUM.out _ _).mono ?_); rintro e w2 ⟨rfl, rfl⟩) | (go_at_call 20; (refine (HFR.out w6 HB6.out).mono ?_); rintro e w7 ⟨rfl, b7⟩; have HB7 := Lib.hid (HB6.out.trans (b7.mono HB6.out.size)); clear b7) | (go_at_call 11; (refine (HTN.out w7 HB7.out).mono ?_); rintro e w8 ⟨A8, c8, rfl, o8, b8⟩; have O8 := Lib.hid o8; have HB8 := Lib.hid (HB7.out.trans (b8.mono HB7.out.size)); clear o8 b8) | (go_at_call 13; (refine (numbers_same (w8.alloc (.cells #[.int .i64 0] 3)) _ _ [0] (reads_own (n := 1) rfl (own_keeps O8.out ((Kept.refl _ w8).alloc (.cells #[.int .i64 0] 3)))) (reads_new [0] 1 rfl (by decide) #[.int .i64 0] rfl)).mono ?_); rintro e w9 ⟨rfl, b9⟩; have HB9 := Lib.hid b9; clear b9))
  go_ret
  exact ⟨rfl, HB5.out.trans ((HB8.out.trans (((Below.refl _ w8).alloc (Nat.le_refl _) (.cells #[.int .i64 0] 3)).mono HB8.out.size |>.trans (HB9.out.mono (Nat.le_trans HB8.out.size (by simp))))).mono HB5.out.size)⟩
end Go.Proofs.Ytbhpikagjcojbaa.Ar

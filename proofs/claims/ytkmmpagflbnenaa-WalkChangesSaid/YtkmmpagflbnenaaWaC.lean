/- up, Fall. Own text; Ytkmmpagflbnenaa and the numbers between @..@ are the seat's. -/
import Derived.Test.YtkmmpagflbnenaaWaB
namespace Go.Proofs.Ytkmmpagflbnenaa.Kin
open Go.RowKit Go.Proofs.Ytkmmpagflbnenaa.Mem
set_option linter.unusedVariables false
/-- Where the way up stands. -/
structure Upw (L : List (Int × Int)) (n y : Int) (xs : List Int) : Prop where
  eq : xs ++ upl L y = upl L n
theorem Upw.next {m : Nat} {L : List (Int × Int)} (hi : Inv m L) {n y : Int} {xs : List Int} (hy : has L y = true) (h : Upw L n y xs) : Upw L n (par L y) (xs ++ [y]) := ⟨by rw [← h.eq, hi.up_eq hy]; simp⟩
theorem Upw.len {m : Nat} {L : List (Int × Int)} (hi : Inv m L) {n y : Int} {xs : List Int} (h : Upw L n y xs) : xs.length ≤ m := by
  have := hi.up_len n
  rw [← h.eq, List.length_append] at this
  omega
theorem Upw.done {L : List (Int × Int)} {n y : Int} {xs : List Int} (hy : has L y = false) (h : Upw L n y xs) : xs = upl L n := by
  have := h.eq
  rw [up_no (by rw [hy]; decide)] at this
  simpa using this
section
variable (w : World) (p g m : Nat) (L : List (Int × Int)) (V : Nat → Value) (F : Nat → Prop) (h : Kt w p g m L V F)
include h
set_option maxHeartbeats 4000000 in
theorem up_any (n : Int) : Calls Try.prog 49 #[.pointer (some ⟨p, 0, none⟩), .int .i64 n] w fun e w' => ∃ A c, e = .returned (.slice A (upl L n).length c) ∧ w'.ownsRow 0 3 1 (.slice A (upl L n).length c) (upl L n).length ((upl L n).map i64) ∧ Below w.heap.size w w' ∧ Fresh w (.slice A (upl L n).length c) := by
  have hm := h.hm
  have HI := Lib.hid h.inv
  have HH : Hid (∀ y w', Below w.heap.size w w' → Calls Try.prog 17 #[.pointer (some ⟨p, 0, none⟩), .int .i64 y] w' fun e w'' => e = .returned (.bool (has L y)) ∧ w' = w'') := fun y w' hb => has_any w' p g m L V F (h.below hb) y
  have HP : Hid (∀ y w', Below w.heap.size w w' → Calls Try.prog 10 #[.pointer (some ⟨p, 0, none⟩), .int .i64 y] w' fun e w'' => e = .returned (.tuple #[.int .i64 (par L y), .bool (has L y)]) ∧ w' = w'') := fun y w' hb => parent_any w' p g m L V F (h.below hb) y
  clear h
  go_enter Try.func49, Try.ntmps49
  go_wp2_with fail
  go_loopw [1, 5] (fun v1 v5 wr => ∃ (xs : List Int) (y : Int) (k : Nat) (B : Option Addr) (d : Nat), k ≤ m ∧ v1 = .int .i64 y ∧ v5 = .slice B k d ∧ Hid (xs.length = k) ∧ Hid (Upw L n y xs) ∧ Hid (wr.ownsRow 0 3 1 (.slice B k d) k (xs.map i64)) ∧ Hid (∀ b, (Value.slice B k d).ownBlock = some b → w.heap.size ≤ b) ∧ Hid (Below w.heap.size w wr)) (fun _ v5 _ => m + 1 - lenV v5)
  case atStart => exact ⟨[], n, 0, none, 0, Nat.zero_le _, rfl, rfl, rfl, ⟨by simp⟩, World.ownsRow_nil _ _ _ _, (fun b hb => by simp [Value.ownBlock] at hb), Below.refl _ _⟩
  case round =>
    obtain ⟨xs, y, k, B, d, hk, rfl, rfl, HX, HU, OX, DX, HW⟩ := hrel
    have HA := Lib.hid (HH.out y wr HW.out)
    by_cases hy : has L y = true
    · rw [hy] at HA
      go_wp2_with fail
      (with_reducible refine HA.out.mono ?_)
      rintro e w1 ⟨rfl, rfl⟩
      clear HA
      go_wp2_with (at_builtin; refine list_app2 rfl (.tmp 11) (.tmp 13) 34 rfl 3 0 _ 1 8 Try.underlying34 info_int rfl (by decide) (by decide) (.slice B k d) k _ rfl (own_keeps OX.out ((Kept.refl _ _).alloc _)) (some ⟨wr.heap.size, 0, none⟩) 1 1 [i64 y] rfl rfl (holds_new _ _ _ _ _ rfl) (by simp [Value.oneCell', i64]) (by omega) (Nat.zero_le _) ?_; intro v3 w3 hown3 hwent3; (obtain ⟨B3, d3, rfl, _⟩ := own_slice hown3); have O3 := Lib.hid hown3; have W3 := Lib.hid hwent3; clear hown3 hwent3)
      have U2 := Lib.hid (HU.out.next HI.out hy)
      have BW3 : Hid (Below w.heap.size w w3) := HW.out.trans ((((Kept.refl _ _).alloc _).trans W3.out.kept (fun b hb => .inl hb)).below (fun b hb => DX.out b hb) HW.out.size)
      have HQ := Lib.hid (HP.out y w3 BW3.out)
      rw [hy] at HQ
      clear hy
      (with_reducible refine HQ.out.mono ?_)
      rintro e w9 ⟨rfl, rfl⟩
      clear HQ
      have hk2 : k + 1 ≤ m := by
        have := U2.out.len HI.out
        rw [List.length_append, HX.out] at this
        exact this
      go_wp2_with fail
      refine ⟨⟨xs ++ [y], par L y, k + 1, B3, d3, hk2, rfl, rfl, by show _ = _; rw [List.length_append, HX.out]; rfl, U2, by show World.ownsRow _ _ _ _ _ _ _; rw [List.map_append]; exact O3.out, fun b hb => ?_, BW3⟩, by simp [lenV]; omega⟩
      rcases W3.out.block with e | e
      · exact DX.out b (e ▸ hb)
      · have h1 := Option.some.inj (e.symm.trans hb)
        have h2 := HW.out.size
        simp at h1
        omega
    · have hy' : has L y = false := by simpa using hy
      rw [hy'] at HA
      have hx := Lib.hid (HU.out.done hy')
      have hk : Hid ((upl L n).length = k) := by rw [← hx.out]; exact HX.out
      clear hy hy'
      go_wp2_with fail
      (with_reducible refine HA.out.mono ?_)
      rintro e w1 ⟨rfl, rfl⟩
      go_wp2_with fail
      go_ret
      refine ⟨B, d, by rw [hk.out]; rfl, ?_, HW.out, fun b hb => DX.out b (by rw [hk.out] at hb; exact hb)⟩
      rw [hk.out, ← hx.out]
      exact OX.out
theorem fall_any (n : Int) : Calls Try.prog 16 #[.pointer (some ⟨p, 0, none⟩), .int .i64 n] w fun e w' => ∃ A c, e = .returned (.slice A (fall L n).length c) ∧ w'.ownsRow 0 3 1 (.slice A (fall L n).length c) (fall L n).length ((fall L n).map i64) ∧ Below w.heap.size w w' ∧ Fresh w (.slice A (fall L n).length c) := by
  have HX := Lib.hid (down_any w p g m L V F h n true)
  unfold fall
  rw [List.length_reverse]
  obtain ⟨l, hl⟩ : ∃ l, dnl L true n = l := ⟨_, rfl⟩
  rw [hl] at HX ⊢
  obtain ⟨N, hN⟩ : ∃ N, l.length = N := ⟨_, rfl⟩
  rw [hN] at HX ⊢
  clear h hl hN
  go_enter Try.func16, Try.ntmps16
  go_wp2_with fail
  (with_reducible refine HX.out.mono ?_)
  rintro e w1 ⟨A, c, rfl, o1, b1, f1⟩
  have B1 := Lib.hid b1
  have F1 := Lib.hid f1
  have RV := Lib.hid (reverse_any w1 _ _ _ o1)
  clear o1 b1 f1 HX
  go_wp2_with fail
  (with_reducible refine RV.out.mono ?_)
  rintro e w2 ⟨rfl, o2, k2⟩
  have O2 := Lib.hid o2
  have B2 : Hid (Below w.heap.size w w2) := B1.out.trans (k2.below (fun b hb => F1.out b hb) B1.out.size)
  clear o2 k2 RV
  go_wp2_with fail
  go_ret
  exact ⟨A, c, rfl, O2.out, B2.out, F1.out⟩
end
end Go.Proofs.Ytkmmpagflbnenaa.Kin

-- PRINTED BY print.sh 35421559b90ae4d0a3588c463048766b98c2df88dd9212a6774a882060cdf62d: not written by this session
import Derived.Test.YtoegclilhchlmaaPMaskAllx0
import Derived.Test.YtoegclilhchlmaaPMaskAllx1
namespace Go.Proofs.Ytoegclilhchlmaa.PMaskAll
open Go.RowKit Go.Proofs.YtoegclilhchlmaaW.PrintWords Go.Proofs.YtoegclilhchlmaaW.PrintLast Go.Proofs.YtoegclilhchlmaaW.PrintMore
attribute [local go_sem] max2_int min2_int max_two min_two max_three min_three max_four min_four   -- for this text's walks alone
set_option linter.unusedVariables false
set_option linter.unusedSimpArgs false

/-! ### sesameref03_Part: function 12 -/
mutual
def sesameref03_Part.j0 : Nat → Int → Int → Bool → Option (Bool)
  | 0, _, _, _ => none
  | k + 1, x0, x1, x13 => if x13 = true then (some false) else (sesameref03_Part.l0 k x0 x1 0)
def sesameref03_Part.l0 : Nat → Int → Int → Int → Option (Bool)
  | 0, _, _, _ => none
  | k + 1, x0, x1, x5 => if x5 < 5 then ((sesameref03_has.f k x0 x5).bind fun t122 => (if t122 = true then ((sesameref03_has.f k x1 x5).bind fun t123 => (if t123 = true then (sesameref03_Part.l0 k x0 x1 (wrap64 (x5 + 1))) else (some false))) else (sesameref03_Part.l0 k x0 x1 (wrap64 (x5 + 1))))) else (some true)
end
def sesameref03_Part.f (k : Nat) (a0 : Int) (a1 : Int) : Option (Bool) := (sesameref03_Valid.f a0).bind fun t120 => (if t120 = true then ((sesameref03_Valid.f a1).bind fun t121 => (sesameref03_Part.j0 k a0 a1 (!t121))) else (sesameref03_Part.j0 k a0 a1 true))
theorem sesameref03_Part.mono_l : ∀ k, (∀ y0 y1 y2, LeO (sesameref03_Part.j0 k y0 y1 y2) (sesameref03_Part.j0 (k + 1) y0 y1 y2)) ∧ (∀ y0 y1 y2, LeO (sesameref03_Part.l0 k y0 y1 y2) (sesameref03_Part.l0 (k + 1) y0 y1 y2))
  | 0 => ⟨fun _ _ _ r h => by simp [sesameref03_Part.j0] at h, fun _ _ _ r h => by simp [sesameref03_Part.l0] at h⟩
  | k + 1 => by
    obtain ⟨ih0, ih1⟩ := sesameref03_Part.mono_l k
    refine ⟨?_, ?_⟩
    · intro y0 y1 y2
      unfold sesameref03_Part.j0
      repeat' first
      | (with_reducible exact ih0 _ _ _)
      | (with_reducible exact ih1 _ _ _)
      | (with_reducible exact sesameref03_has.mono _ _ _)
      | (with_reducible exact LeO.refl _)
      | (with_reducible exact LeO.none _)
      | (with_reducible refine LeO.ite ?_ ?_)
      | (with_reducible refine LeO.bind ?_ (fun _ => ?_))
      | exact ih0 _ _ _
      | exact ih1 _ _ _
      | exact sesameref03_has.mono _ _ _
      | exact LeO.none _
      | refine LeO.ite ?_ ?_
      | refine LeO.bind ?_ (fun _ => ?_)
    · intro y0 y1 y2
      unfold sesameref03_Part.l0
      repeat' first
      | (with_reducible exact ih0 _ _ _)
      | (with_reducible exact ih1 _ _ _)
      | (with_reducible exact sesameref03_has.mono _ _ _)
      | (with_reducible exact LeO.refl _)
      | (with_reducible exact LeO.none _)
      | (with_reducible refine LeO.ite ?_ ?_)
      | (with_reducible refine LeO.bind ?_ (fun _ => ?_))
      | exact ih0 _ _ _
      | exact ih1 _ _ _
      | exact sesameref03_has.mono _ _ _
      | exact LeO.none _
      | refine LeO.ite ?_ ?_
      | refine LeO.bind ?_ (fun _ => ?_)
theorem sesameref03_Part.mono : ∀ a0 a1 k, LeO (sesameref03_Part.f k a0 a1) (sesameref03_Part.f (k + 1) a0 a1) := by
  intro a0 a1 k
  obtain ⟨ih0, ih1⟩ := sesameref03_Part.mono_l k
  unfold sesameref03_Part.f
  repeat' first
      | (with_reducible exact ih0 _ _ _)
      | (with_reducible exact ih1 _ _ _)
      | (with_reducible exact sesameref03_has.mono _ _ _)
      | (with_reducible exact LeO.refl _)
      | (with_reducible exact LeO.none _)
      | (with_reducible refine LeO.ite ?_ ?_)
      | (with_reducible refine LeO.bind ?_ (fun _ => ?_))
      | exact ih0 _ _ _
      | exact ih1 _ _ _
      | exact sesameref03_has.mono _ _ _
      | exact LeO.none _
      | refine LeO.ite ?_ ?_
      | refine LeO.bind ?_ (fun _ => ?_)
set_option maxHeartbeats 8000000 in
set_option maxRecDepth 100000 in
theorem sesameref03_Part.calls (k : Nat) (a0 : Int) (a1 : Int) (r : Bool) (w : World) (h : sesameref03_Part.f k a0 a1 = some r) :
    Calls Try.prog 12 #[.int .i64 a0, .int .i64 a1] w fun e w' => e = .returned (.bool r) ∧ Drawn0 w w' := by
  have H : ((sesameref03_Valid.f a0).bind fun t120 => (if t120 = true then ((sesameref03_Valid.f a1).bind fun t121 => (sesameref03_Part.j0 k a0 a1 (!t121))) else (sesameref03_Part.j0 k a0 a1 true))) = some r := h
  clear h
  have HC3 := Aside0.mk H
  clear H
  go_enter Try.func12, Try.ntmps12
  go_upto_region 1 with (fail)
  go_cut [13] (fun v13 wc => ∃ (kq : Nat) (x13_2 : Bool), v13 = .bool x13_2 ∧ Aside0 (sesameref03_Part.j0 kq a0 a1 x13_2 = some r) ∧ Aside0 (kq ≤ k) ∧ Drawn0 w wc)
  case first =>
    have H := HC3.out
    clear HC3
    replace H := Option.bind_eq_some_iff.mp H
    obtain ⟨t120, A40, H⟩ := H
    replace H : (if t120 = true then ((sesameref03_Valid.f a1).bind fun t121 => (sesameref03_Part.j0 k a0 a1 (!t121))) else (sesameref03_Part.j0 k a0 a1 true)) = some r := H
    have A4 := Aside0.mk A40
    clear A40
    by_cases c5 : t120 = true
    · subst c5
      have H1 : ((sesameref03_Valid.f a1).bind fun t121 => (sesameref03_Part.j0 k a0 a1 (!t121))) = some r := by rw [if_pos rfl] at H; exact H
      clear H
      have H := H1
      clear H1
      replace H := Option.bind_eq_some_iff.mp H
      obtain ⟨t121, A60, H⟩ := H
      replace H : (sesameref03_Part.j0 k a0 a1 (!t121)) = some r := H
      have A6 := Aside0.mk A60
      clear A60
      have H' := Aside0.mk H
      clear H
      go_wp2_with (first | ((with_reducible refine gate_callee (f := 10) rfl ?_); refine goesL_ (some 7) rfl rfl Try.func10 (by kernel_rfl) rfl #[.int .i64 a0] rfl (by (try simp only [List.map_toArray, List.map_cons, List.map_nil]); first | done | rfl | (simp only [List.length_drop, List.length_take]; rfl)) ?_; (with_reducible refine (sesameref03_Valid.calls a0 true _ A4.out).mono ?_); rintro e w' ⟨rfl, ⟨nd, rfl⟩⟩; refine ⟨_, rfl, ?_⟩) | (go_at_call 10; (with_reducible refine (sesameref03_Valid.calls a1 t121 _ A6.out).mono ?_); rintro e w' ⟨rfl, ⟨nd, rfl⟩⟩))
      go_meet
      case rel => exact ⟨_, (!t121), (by first | rfl | (simp; done) | (simp [*]; done)), H', ⟨by first | omega | exact Nat.le_refl _⟩, by repeat (first | exact Drawn0.refl _ | apply Drawn0.step)⟩
    · replace c5 := Bool.eq_false_iff.mpr c5
      subst c5
      have H1 : (sesameref03_Part.j0 k a0 a1 true) = some r := by rw [if_neg (show ¬ (false = true) by decide)] at H; exact H
      clear H
      have H := H1
      clear H1
      have H' := Aside0.mk H
      clear H
      go_wp2_with (first | ((with_reducible refine gate_callee (f := 10) rfl ?_); refine goesL_ (some 7) rfl rfl Try.func10 (by kernel_rfl) rfl #[.int .i64 a0] rfl (by (try simp only [List.map_toArray, List.map_cons, List.map_nil]); first | done | rfl | (simp only [List.length_drop, List.length_take]; rfl)) ?_; (with_reducible refine (sesameref03_Valid.calls a0 false _ A4.out).mono ?_); rintro e w' ⟨rfl, ⟨nd, rfl⟩⟩; refine ⟨_, rfl, ?_⟩))
      go_meet
      case rel => exact ⟨_, (true), (by first | rfl | (simp; done) | (simp [*]; done)), H', ⟨by first | omega | exact Nat.le_refl _⟩, by repeat (first | exact Drawn0.refl _ | apply Drawn0.step)⟩
  case rest =>
    clear HC3
    try clear c1
    try clear p2
    try clear c5
    obtain ⟨kq, x13_2, rfl, HA, HJ2, ⟨mc2, rfl⟩⟩ := hcut
    cases kq with
    | zero => exact absurd HA.out (by simp [sesameref03_Part.j0])
    | succ kj2 =>
      have H := HA.out
      clear HA
      simp only [sesameref03_Part.j0] at H
      by_cases c7 : x13_2 = true
      · subst c7
        have H1 : (some false) = some r := by rw [if_pos rfl] at H; exact H
        clear H
        have H := H1
        clear H1
        obtain rfl := Option.some.inj H
        go_wp2
        go_ret
        exact ⟨by first | rfl | (simp; done) | (simp [*]; done), by repeat (first | exact Drawn0.refl _ | apply Drawn0.step)⟩
      · replace c7 := Bool.eq_false_iff.mpr c7
        subst c7
        have H1 : (sesameref03_Part.l0 kj2 a0 a1 0) = some r := by rw [if_neg (show ¬ (false = true) by decide)] at H; exact H
        clear H
        have H := H1
        clear H1
        have H' := Aside0.mk H
        clear H
        go_wp2
        go_loopg [5] kj2 (fun kq v5 w' => ∃ (x5_2 : Int), v5 = .int .i64 x5_2 ∧ Aside0 (sesameref03_Part.l0 kq a0 a1 x5_2 = some r) ∧ Aside0 (kq ≤ kj2) ∧ Drawn0 w w')
        case atStart => exact ⟨(0), (by first | rfl | (simp; done) | (simp [*]; done)), H', ⟨Nat.le_refl _⟩, by repeat (first | exact Drawn0.refl _ | apply Drawn0.step)⟩
        case round =>
          clear H'
          try clear c1
          try clear c2
          try clear p2
          try clear c5
          try clear c7
          try clear p2
          obtain ⟨x5_2, rfl, HA, HK2, ⟨m2, rfl⟩⟩ := hrel
          cases gk with
          | zero => exact absurd HA.out (by simp [sesameref03_Part.l0])
          | succ k2 =>
            have H := HA.out
            clear HA
            simp only [sesameref03_Part.l0] at H
            by_cases c8 : x5_2 < 5
            · rw [if_pos c8] at H
              have c8b0 : decide (x5_2 < 5) = true := decide_eq_true c8
              clear c8
              replace H := Option.bind_eq_some_iff.mp H
              obtain ⟨t122, A90, H⟩ := H
              replace H : (if t122 = true then ((sesameref03_has.f k2 a1 x5_2).bind fun t123 => (if t123 = true then (sesameref03_Part.l0 k2 a0 a1 (wrap64 (x5_2 + 1))) else (some false))) else (sesameref03_Part.l0 k2 a0 a1 (wrap64 (x5_2 + 1)))) = some r := H
              have A9 := Aside0.mk A90
              clear A90
              by_cases c10 : t122 = true
              · subst c10
                have H1 : ((sesameref03_has.f k2 a1 x5_2).bind fun t123 => (if t123 = true then (sesameref03_Part.l0 k2 a0 a1 (wrap64 (x5_2 + 1))) else (some false))) = some r := by rw [if_pos rfl] at H; exact H
                clear H
                have H := H1
                clear H1
                replace H := Option.bind_eq_some_iff.mp H
                obtain ⟨t123, A110, H⟩ := H
                replace H : (if t123 = true then (sesameref03_Part.l0 k2 a0 a1 (wrap64 (x5_2 + 1))) else (some false)) = some r := H
                have A11 := Aside0.mk A110
                clear A110
                by_cases c12 : t123 = true
                · subst c12
                  have H1 : (sesameref03_Part.l0 k2 a0 a1 (wrap64 (x5_2 + 1))) = some r := by rw [if_pos rfl] at H; exact H
                  clear H
                  have H := H1
                  clear H1
                  have H' := Aside0.mk H
                  clear H
                  go_wp2_with (first | ((with_reducible refine gate_callee (f := 16) rfl ?_); refine goesL_ (some 20) rfl rfl Try.func16 (by kernel_rfl) rfl #[.int .i64 a0, .int .i64 x5_2] rfl (by (try simp only [List.map_toArray, List.map_cons, List.map_nil]); first | done | rfl | (simp only [List.length_drop, List.length_take]; rfl)) ?_; (with_reducible refine (sesameref03_has.calls k2 a0 x5_2 true _ A9.out).mono ?_); rintro e w' ⟨rfl, ⟨nd, rfl⟩⟩; refine ⟨_, rfl, ?_⟩) | (go_at_call 16; (with_reducible refine (sesameref03_has.calls k2 a1 x5_2 true _ A11.out).mono ?_); rintro e w' ⟨rfl, ⟨nd, rfl⟩⟩))
                  go_roundg k2
                  case measure => have := HJ2.out; have := HK2.out; omega
                  case rel => exact ⟨(wrap64 (x5_2 + 1)), (by first | rfl | (simp; done) | (simp [*]; done)), H', ⟨by have := HJ2.out; have := HK2.out; omega⟩, by repeat (first | exact Drawn0.refl _ | apply Drawn0.step)⟩
                · replace c12 := Bool.eq_false_iff.mpr c12
                  subst c12
                  have H1 : (some false) = some r := by rw [if_neg (show ¬ (false = true) by decide)] at H; exact H
                  clear H
                  have H := H1
                  clear H1
                  obtain rfl := Option.some.inj H
                  go_wp2_with (first | ((with_reducible refine gate_callee (f := 16) rfl ?_); refine goesL_ (some 20) rfl rfl Try.func16 (by kernel_rfl) rfl #[.int .i64 a0, .int .i64 x5_2] rfl (by (try simp only [List.map_toArray, List.map_cons, List.map_nil]); first | done | rfl | (simp only [List.length_drop, List.length_take]; rfl)) ?_; (with_reducible refine (sesameref03_has.calls k2 a0 x5_2 true _ A9.out).mono ?_); rintro e w' ⟨rfl, ⟨nd, rfl⟩⟩; refine ⟨_, rfl, ?_⟩) | (go_at_call 16; (with_reducible refine (sesameref03_has.calls k2 a1 x5_2 false _ A11.out).mono ?_); rintro e w' ⟨rfl, ⟨nd, rfl⟩⟩))
                  go_ret
                  exact ⟨by first | rfl | (simp; done) | (simp [*]; done), by repeat (first | exact Drawn0.refl _ | apply Drawn0.step)⟩
              · replace c10 := Bool.eq_false_iff.mpr c10
                subst c10
                have H1 : (sesameref03_Part.l0 k2 a0 a1 (wrap64 (x5_2 + 1))) = some r := by rw [if_neg (show ¬ (false = true) by decide)] at H; exact H
                clear H
                have H := H1
                clear H1
                have H' := Aside0.mk H
                clear H
                go_wp2_with (first | ((with_reducible refine gate_callee (f := 16) rfl ?_); refine goesL_ (some 20) rfl rfl Try.func16 (by kernel_rfl) rfl #[.int .i64 a0, .int .i64 x5_2] rfl (by (try simp only [List.map_toArray, List.map_cons, List.map_nil]); first | done | rfl | (simp only [List.length_drop, List.length_take]; rfl)) ?_; (with_reducible refine (sesameref03_has.calls k2 a0 x5_2 false _ A9.out).mono ?_); rintro e w' ⟨rfl, ⟨nd, rfl⟩⟩; refine ⟨_, rfl, ?_⟩))
                go_roundg k2
                case measure => have := HJ2.out; have := HK2.out; omega
                case rel => exact ⟨(wrap64 (x5_2 + 1)), (by first | rfl | (simp; done) | (simp [*]; done)), H', ⟨by have := HJ2.out; have := HK2.out; omega⟩, by repeat (first | exact Drawn0.refl _ | apply Drawn0.step)⟩
            · rw [if_neg c8] at H
              have c8b0 : decide (x5_2 < 5) = false := decide_eq_false c8
              clear c8
              obtain rfl := Option.some.inj H
              go_wp2
              go_ret
              exact ⟨by first | rfl | (simp; done) | (simp [*]; done), by repeat (first | exact Drawn0.refl _ | apply Drawn0.step)⟩

/-! ### sesamelaw03_MaskAll: function 3 -/
def sesamelaw03_MaskAll.f (k : Nat) (a0 : Int) (a1 : Int) (a2 : ByteArray) : Option (Bool) := (sesamelaw03_head.f k).bind fun t124 => (if t124 = true then ((mask_Parse.f k a2).bind fun bt125 => ((sesameref03_Parse.f k a2).bind fun bt127 => ((mask_Valid.f a0).bind fun t129 => ((sesameref03_Valid.f a0).bind fun t130 => (if (t129 == t130) = true then ((mask_Part.f a0 a1).bind fun t131 => ((sesameref03_Part.f k a0 a1).bind fun t132 => (if (t131 == t132) = true then ((mask_Has.f a0 a1).bind fun t133 => ((sesameref03_Part.f k a1 a0).bind fun t134 => (if (t133 == t134) = true then ((mask_Names.f k a0).bind fun t135 => ((sesameref03_Names.f k a0).bind fun t136 => (if t135.toList = t136.toList then (if bt125.1 = bt127.1 then (some (bt125.2 == bt127.2)) else (some false)) else (some false)))) else (some false)))) else (some false)))) else (some false)))))) else (some false))
theorem sesamelaw03_MaskAll.mono : ∀ a0 a1 a2 k, LeO (sesamelaw03_MaskAll.f k a0 a1 a2) (sesamelaw03_MaskAll.f (k + 1) a0 a1 a2) := by
  intro a0 a1 a2 k
  unfold sesamelaw03_MaskAll.f
  repeat' first
      | (with_reducible exact mask_Names.mono _ _)
      | (with_reducible exact mask_Parse.mono _ _)
      | (with_reducible exact sesamelaw03_head.mono _)
      | (with_reducible exact sesameref03_Names.mono _ _)
      | (with_reducible exact sesameref03_Parse.mono _ _)
      | (with_reducible exact sesameref03_Part.mono _ _ _)
      | (with_reducible exact LeO.refl _)
      | (with_reducible exact LeO.none _)
      | (with_reducible refine LeO.ite ?_ ?_)
      | (with_reducible refine LeO.bind ?_ (fun _ => ?_))
      | exact mask_Names.mono _ _
      | exact mask_Parse.mono _ _
      | exact sesamelaw03_head.mono _
      | exact sesameref03_Names.mono _ _
      | exact sesameref03_Parse.mono _ _
      | exact sesameref03_Part.mono _ _ _
      | exact LeO.none _
      | refine LeO.ite ?_ ?_
      | refine LeO.bind ?_ (fun _ => ?_)
set_option maxHeartbeats 8000000 in
set_option maxRecDepth 100000 in
theorem sesamelaw03_MaskAll.calls (k : Nat) (a0 : Int) (a1 : Int) (a2 : ByteArray) (r : Bool) (w : World) (h : sesamelaw03_MaskAll.f k a0 a1 a2 = some r) :
    Calls Try.prog 3 #[.int .i64 a0, .int .i64 a1, .string a2] w fun e w' => e = .returned (.bool r) ∧ Below w.heap.size w w' := by
  have HB := Aside0.mk (Below.refl w.heap.size w)
  have H : ((sesamelaw03_head.f k).bind fun t124 => (if t124 = true then ((mask_Parse.f k a2).bind fun bt125 => ((sesameref03_Parse.f k a2).bind fun bt127 => ((mask_Valid.f a0).bind fun t129 => ((sesameref03_Valid.f a0).bind fun t130 => (if (t129 == t130) = true then ((mask_Part.f a0 a1).bind fun t131 => ((sesameref03_Part.f k a0 a1).bind fun t132 => (if (t131 == t132) = true then ((mask_Has.f a0 a1).bind fun t133 => ((sesameref03_Part.f k a1 a0).bind fun t134 => (if (t133 == t134) = true then ((mask_Names.f k a0).bind fun t135 => ((sesameref03_Names.f k a0).bind fun t136 => (if t135.toList = t136.toList then (if bt125.1 = bt127.1 then (some (bt125.2 == bt127.2)) else (some false)) else (some false)))) else (some false)))) else (some false)))) else (some false)))))) else (some false))) = some r := h
  clear h
  replace H := Option.bind_eq_some_iff.mp H
  obtain ⟨t124, A40, H⟩ := H
  replace H : (if t124 = true then ((mask_Parse.f k a2).bind fun bt125 => ((sesameref03_Parse.f k a2).bind fun bt127 => ((mask_Valid.f a0).bind fun t129 => ((sesameref03_Valid.f a0).bind fun t130 => (if (t129 == t130) = true then ((mask_Part.f a0 a1).bind fun t131 => ((sesameref03_Part.f k a0 a1).bind fun t132 => (if (t131 == t132) = true then ((mask_Has.f a0 a1).bind fun t133 => ((sesameref03_Part.f k a1 a0).bind fun t134 => (if (t133 == t134) = true then ((mask_Names.f k a0).bind fun t135 => ((sesameref03_Names.f k a0).bind fun t136 => (if t135.toList = t136.toList then (if bt125.1 = bt127.1 then (some (bt125.2 == bt127.2)) else (some false)) else (some false)))) else (some false)))) else (some false)))) else (some false)))))) else (some false)) = some r := H
  have A4 := Aside0.mk A40
  clear A40
  by_cases c5 : t124 = true
  · subst c5
    have H1 : ((mask_Parse.f k a2).bind fun bt125 => ((sesameref03_Parse.f k a2).bind fun bt127 => ((mask_Valid.f a0).bind fun t129 => ((sesameref03_Valid.f a0).bind fun t130 => (if (t129 == t130) = true then ((mask_Part.f a0 a1).bind fun t131 => ((sesameref03_Part.f k a0 a1).bind fun t132 => (if (t131 == t132) = true then ((mask_Has.f a0 a1).bind fun t133 => ((sesameref03_Part.f k a1 a0).bind fun t134 => (if (t133 == t134) = true then ((mask_Names.f k a0).bind fun t135 => ((sesameref03_Names.f k a0).bind fun t136 => (if t135.toList = t136.toList then (if bt125.1 = bt127.1 then (some (bt125.2 == bt127.2)) else (some false)) else (some false)))) else (some false)))) else (some false)))) else (some false)))))) = some r := by rw [if_pos rfl] at H; exact H
    clear H
    have H := H1
    clear H1
    replace H := Option.bind_eq_some_iff.mp H
    obtain ⟨⟨t125, t126⟩, A60, H⟩ := H
    replace H : ((sesameref03_Parse.f k a2).bind fun bt127 => ((mask_Valid.f a0).bind fun t129 => ((sesameref03_Valid.f a0).bind fun t130 => (if (t129 == t130) = true then ((mask_Part.f a0 a1).bind fun t131 => ((sesameref03_Part.f k a0 a1).bind fun t132 => (if (t131 == t132) = true then ((mask_Has.f a0 a1).bind fun t133 => ((sesameref03_Part.f k a1 a0).bind fun t134 => (if (t133 == t134) = true then ((mask_Names.f k a0).bind fun t135 => ((sesameref03_Names.f k a0).bind fun t136 => (if t135.toList = t136.toList then (if t125 = bt127.1 then (some (t126 == bt127.2)) else (some false)) else (some false)))) else (some false)))) else (some false)))) else (some false))))) = some r := H
    have A6 := Aside0.mk A60
    clear A60
    replace H := Option.bind_eq_some_iff.mp H
    obtain ⟨⟨t127, t128⟩, A70, H⟩ := H
    replace H : ((mask_Valid.f a0).bind fun t129 => ((sesameref03_Valid.f a0).bind fun t130 => (if (t129 == t130) = true then ((mask_Part.f a0 a1).bind fun t131 => ((sesameref03_Part.f k a0 a1).bind fun t132 => (if (t131 == t132) = true then ((mask_Has.f a0 a1).bind fun t133 => ((sesameref03_Part.f k a1 a0).bind fun t134 => (if (t133 == t134) = true then ((mask_Names.f k a0).bind fun t135 => ((sesameref03_Names.f k a0).bind fun t136 => (if t135.toList = t136.toList then (if t125 = t127 then (some (t126 == t128)) else (some false)) else (some false)))) else (some false)))) else (some false)))) else (some false)))) = some r := H
    have A7 := Aside0.mk A70
    clear A70
    replace H := Option.bind_eq_some_iff.mp H
    obtain ⟨t129, A80, H⟩ := H
    replace H : ((sesameref03_Valid.f a0).bind fun t130 => (if (t129 == t130) = true then ((mask_Part.f a0 a1).bind fun t131 => ((sesameref03_Part.f k a0 a1).bind fun t132 => (if (t131 == t132) = true then ((mask_Has.f a0 a1).bind fun t133 => ((sesameref03_Part.f k a1 a0).bind fun t134 => (if (t133 == t134) = true then ((mask_Names.f k a0).bind fun t135 => ((sesameref03_Names.f k a0).bind fun t136 => (if t135.toList = t136.toList then (if t125 = t127 then (some (t126 == t128)) else (some false)) else (some false)))) else (some false)))) else (some false)))) else (some false))) = some r := H
    have A8 := Aside0.mk A80
    clear A80
    replace H := Option.bind_eq_some_iff.mp H
    obtain ⟨t130, A90, H⟩ := H
    replace H : (if (t129 == t130) = true then ((mask_Part.f a0 a1).bind fun t131 => ((sesameref03_Part.f k a0 a1).bind fun t132 => (if (t131 == t132) = true then ((mask_Has.f a0 a1).bind fun t133 => ((sesameref03_Part.f k a1 a0).bind fun t134 => (if (t133 == t134) = true then ((mask_Names.f k a0).bind fun t135 => ((sesameref03_Names.f k a0).bind fun t136 => (if t135.toList = t136.toList then (if t125 = t127 then (some (t126 == t128)) else (some false)) else (some false)))) else (some false)))) else (some false)))) else (some false)) = some r := H
    have A9 := Aside0.mk A90
    clear A90
    by_cases c10 : (t129 == t130) = true
    · rw [if_pos c10] at H
      have c10b0 : (t129 == t130) = true := c10
      (try (have c10b1 : decide (t129 = t130) = true := by simpa using c10))
      (try (have c10b2 : (t129 == t130) = true := by simpa using c10))
      clear c10
      replace H := Option.bind_eq_some_iff.mp H
      obtain ⟨t131, A110, H⟩ := H
      replace H : ((sesameref03_Part.f k a0 a1).bind fun t132 => (if (t131 == t132) = true then ((mask_Has.f a0 a1).bind fun t133 => ((sesameref03_Part.f k a1 a0).bind fun t134 => (if (t133 == t134) = true then ((mask_Names.f k a0).bind fun t135 => ((sesameref03_Names.f k a0).bind fun t136 => (if t135.toList = t136.toList then (if t125 = t127 then (some (t126 == t128)) else (some false)) else (some false)))) else (some false)))) else (some false))) = some r := H
      have A11 := Aside0.mk A110
      clear A110
      replace H := Option.bind_eq_some_iff.mp H
      obtain ⟨t132, A120, H⟩ := H
      replace H : (if (t131 == t132) = true then ((mask_Has.f a0 a1).bind fun t133 => ((sesameref03_Part.f k a1 a0).bind fun t134 => (if (t133 == t134) = true then ((mask_Names.f k a0).bind fun t135 => ((sesameref03_Names.f k a0).bind fun t136 => (if t135.toList = t136.toList then (if t125 = t127 then (some (t126 == t128)) else (some false)) else (some false)))) else (some false)))) else (some false)) = some r := H
      have A12 := Aside0.mk A120
      clear A120
      by_cases c13 : (t131 == t132) = true
      · rw [if_pos c13] at H
        have c13b0 : (t131 == t132) = true := c13
        (try (have c13b1 : decide (t131 = t132) = true := by simpa using c13))
        (try (have c13b2 : (t131 == t132) = true := by simpa using c13))
        clear c13
        replace H := Option.bind_eq_some_iff.mp H
        obtain ⟨t133, A140, H⟩ := H
        replace H : ((sesameref03_Part.f k a1 a0).bind fun t134 => (if (t133 == t134) = true then ((mask_Names.f k a0).bind fun t135 => ((sesameref03_Names.f k a0).bind fun t136 => (if t135.toList = t136.toList then (if t125 = t127 then (some (t126 == t128)) else (some false)) else (some false)))) else (some false))) = some r := H
        have A14 := Aside0.mk A140
        clear A140
        replace H := Option.bind_eq_some_iff.mp H
        obtain ⟨t134, A150, H⟩ := H
        replace H : (if (t133 == t134) = true then ((mask_Names.f k a0).bind fun t135 => ((sesameref03_Names.f k a0).bind fun t136 => (if t135.toList = t136.toList then (if t125 = t127 then (some (t126 == t128)) else (some false)) else (some false)))) else (some false)) = some r := H
        have A15 := Aside0.mk A150
        clear A150
        by_cases c16 : (t133 == t134) = true
        · rw [if_pos c16] at H
          have c16b0 : (t133 == t134) = true := c16
          (try (have c16b1 : decide (t133 = t134) = true := by simpa using c16))
          (try (have c16b2 : (t133 == t134) = true := by simpa using c16))
          clear c16
          replace H := Option.bind_eq_some_iff.mp H
          obtain ⟨t135, A170, H⟩ := H
          replace H : ((sesameref03_Names.f k a0).bind fun t136 => (if t135.toList = t136.toList then (if t125 = t127 then (some (t126 == t128)) else (some false)) else (some false))) = some r := H
          have A17 := Aside0.mk A170
          clear A170
          replace H := Option.bind_eq_some_iff.mp H
          obtain ⟨t136, A180, H⟩ := H
          replace H : (if t135.toList = t136.toList then (if t125 = t127 then (some (t126 == t128)) else (some false)) else (some false)) = some r := H
          have A18 := Aside0.mk A180
          clear A180
          by_cases c19 : t135.toList = t136.toList
          · rw [if_pos c19] at H
            have c19b0 : (t135.toList == t136.toList) = true := beq_iff_eq.mpr c19
            have c19b1 : (t135.toList != t136.toList) = false := bne_eq_false_iff_eq.mpr c19
            clear c19
            by_cases c20 : t125 = t127
            · rw [if_pos c20] at H
              have c20b0 : (t125 == t127) = true := beq_iff_eq.mpr c20
              have c20b1 : (t125 != t127) = false := bne_eq_false_iff_eq.mpr c20
              clear c20
              obtain rfl := Option.some.inj H
              go_enter Try.func3, Try.ntmps3
              go_wp2_with (first | ((with_reducible refine gate_callee (f := 6) rfl ?_); refine goesL_ (some 11) rfl rfl Try.func6 (by kernel_rfl) rfl #[] rfl (by (try simp only [List.map_toArray, List.map_cons, List.map_nil]); first | done | rfl | (simp only [List.length_drop, List.length_take]; rfl)) ?_; (with_reducible refine (sesamelaw03_head.calls k  true _ A4.out).mono ?_); rintro e w' ⟨rfl, ⟨nd, rfl⟩⟩; refine ⟨_, rfl, ?_⟩) | ((with_reducible refine gate_callee (f := 7) rfl ?_); refine goesL_ (some 15) rfl rfl Try.func7 (by kernel_rfl) rfl #[.string a2] rfl (by (try simp only [List.map_toArray, List.map_cons, List.map_nil]); first | done | rfl | (simp only [List.length_drop, List.length_take]; rfl)) ?_; (with_reducible refine (mask_Parse.calls k a2 t125 t126 _ A6.out).mono ?_); rintro e w' ⟨rfl, ⟨nd, rfl⟩⟩; refine ⟨_, rfl, ?_⟩) | ((with_reducible refine gate_callee (f := 8) rfl ?_); refine goesL_ (some 20) rfl rfl Try.func8 (by kernel_rfl) rfl #[.string a2] rfl (by (try simp only [List.map_toArray, List.map_cons, List.map_nil]); first | done | rfl | (simp only [List.length_drop, List.length_take]; rfl)) ?_; (with_reducible refine (sesameref03_Parse.calls k a2 t127 t128 _ A7.out).mono ?_); rintro e w21 ⟨rfl, hb⟩; refine ⟨_, rfl, ?_⟩; have n0_ := Aside0.mk (below_step (by repeat (first | (with_reducible first | exact HB.out | apply below_alloc | apply pw_below_drewN | apply below_drew1) | exact HB.out)) hb); clear HB; have HB := n0_; clear n0_; (try clear hb); (try clear hb2); (try clear hk); (try clear hi)) | ((with_reducible refine gate_callee (f := 9) rfl ?_); refine goesL_ (some 24) rfl rfl Try.func9 (by kernel_rfl) rfl #[.int .i64 a0] rfl (by (try simp only [List.map_toArray, List.map_cons, List.map_nil]); first | done | rfl | (simp only [List.length_drop, List.length_take]; rfl)) ?_; (with_reducible refine (mask_Valid.calls a0 t129 _ A8.out).mono ?_); rintro e w' ⟨rfl, ⟨nd, rfl⟩⟩; refine ⟨_, rfl, ?_⟩) | ((with_reducible refine gate_callee (f := 10) rfl ?_); refine goesL_ (some 26) rfl rfl Try.func10 (by kernel_rfl) rfl #[.int .i64 a0] rfl (by (try simp only [List.map_toArray, List.map_cons, List.map_nil]); first | done | rfl | (simp only [List.length_drop, List.length_take]; rfl)) ?_; (with_reducible refine (sesameref03_Valid.calls a0 t130 _ A9.out).mono ?_); rintro e w' ⟨rfl, ⟨nd, rfl⟩⟩; refine ⟨_, rfl, ?_⟩) | (go_at_call 11; (with_reducible refine (mask_Part.calls a0 a1 t131 _ A11.out).mono ?_); rintro e w' ⟨rfl, ⟨nd, rfl⟩⟩) | (go_at_call 12; (with_reducible refine (sesameref03_Part.calls k a0 a1 t132 _ A12.out).mono ?_); rintro e w' ⟨rfl, ⟨nd, rfl⟩⟩) | (go_at_call 13; (with_reducible refine (mask_Has.calls a0 a1 t133 _ A14.out).mono ?_); rintro e w' ⟨rfl, ⟨nd, rfl⟩⟩) | (go_at_call 12; (with_reducible refine (sesameref03_Part.calls k a1 a0 t134 _ A15.out).mono ?_); rintro e w' ⟨rfl, ⟨nd, rfl⟩⟩) | (go_at_call 14; (with_reducible refine (mask_Names.calls k a0 t135 _ A17.out).mono ?_); rintro e w' ⟨rfl, ⟨nd, rfl⟩⟩) | (go_at_call 15; (with_reducible refine (sesameref03_Names.calls k a0 t136 _ A18.out).mono ?_); rintro e w22 ⟨rfl, hb⟩; have n0_ := Aside0.mk (below_step (by repeat (first | (with_reducible first | exact HB.out | apply below_alloc | apply pw_below_drewN | apply below_drew1) | exact HB.out)) hb); clear HB; have HB := n0_; clear n0_; (try clear hb); (try clear hb2); (try clear hk); (try clear hi)))
              go_ret
              exact ⟨by first | rfl | (simp [errW_none, errW_some] <;> rfl) | (simp [*, errW_none, errW_some] <;> rfl), by repeat (first | (with_reducible first | exact HB.out | apply below_alloc | apply pw_below_drewN | apply below_drew1) | exact HB.out)⟩
            · rw [if_neg c20] at H
              have c20b0 : (t125 == t127) = false := beq_eq_false_iff_ne.mpr c20
              have c20b1 : (t125 != t127) = true := bne_iff_ne.mpr c20
              obtain rfl := Option.some.inj H
              go_enter Try.func3, Try.ntmps3
              go_wp2_with (first | ((with_reducible refine gate_callee (f := 6) rfl ?_); refine goesL_ (some 11) rfl rfl Try.func6 (by kernel_rfl) rfl #[] rfl (by (try simp only [List.map_toArray, List.map_cons, List.map_nil]); first | done | rfl | (simp only [List.length_drop, List.length_take]; rfl)) ?_; (with_reducible refine (sesamelaw03_head.calls k  true _ A4.out).mono ?_); rintro e w' ⟨rfl, ⟨nd, rfl⟩⟩; refine ⟨_, rfl, ?_⟩) | ((with_reducible refine gate_callee (f := 7) rfl ?_); refine goesL_ (some 15) rfl rfl Try.func7 (by kernel_rfl) rfl #[.string a2] rfl (by (try simp only [List.map_toArray, List.map_cons, List.map_nil]); first | done | rfl | (simp only [List.length_drop, List.length_take]; rfl)) ?_; (with_reducible refine (mask_Parse.calls k a2 t125 t126 _ A6.out).mono ?_); rintro e w' ⟨rfl, ⟨nd, rfl⟩⟩; refine ⟨_, rfl, ?_⟩) | ((with_reducible refine gate_callee (f := 8) rfl ?_); refine goesL_ (some 20) rfl rfl Try.func8 (by kernel_rfl) rfl #[.string a2] rfl (by (try simp only [List.map_toArray, List.map_cons, List.map_nil]); first | done | rfl | (simp only [List.length_drop, List.length_take]; rfl)) ?_; (with_reducible refine (sesameref03_Parse.calls k a2 t127 t128 _ A7.out).mono ?_); rintro e w23 ⟨rfl, hb⟩; refine ⟨_, rfl, ?_⟩; have n0_ := Aside0.mk (below_step (by repeat (first | (with_reducible first | exact HB.out | apply below_alloc | apply pw_below_drewN | apply below_drew1) | exact HB.out)) hb); clear HB; have HB := n0_; clear n0_; (try clear hb); (try clear hb2); (try clear hk); (try clear hi)) | ((with_reducible refine gate_callee (f := 9) rfl ?_); refine goesL_ (some 24) rfl rfl Try.func9 (by kernel_rfl) rfl #[.int .i64 a0] rfl (by (try simp only [List.map_toArray, List.map_cons, List.map_nil]); first | done | rfl | (simp only [List.length_drop, List.length_take]; rfl)) ?_; (with_reducible refine (mask_Valid.calls a0 t129 _ A8.out).mono ?_); rintro e w' ⟨rfl, ⟨nd, rfl⟩⟩; refine ⟨_, rfl, ?_⟩) | ((with_reducible refine gate_callee (f := 10) rfl ?_); refine goesL_ (some 26) rfl rfl Try.func10 (by kernel_rfl) rfl #[.int .i64 a0] rfl (by (try simp only [List.map_toArray, List.map_cons, List.map_nil]); first | done | rfl | (simp only [List.length_drop, List.length_take]; rfl)) ?_; (with_reducible refine (sesameref03_Valid.calls a0 t130 _ A9.out).mono ?_); rintro e w' ⟨rfl, ⟨nd, rfl⟩⟩; refine ⟨_, rfl, ?_⟩) | (go_at_call 11; (with_reducible refine (mask_Part.calls a0 a1 t131 _ A11.out).mono ?_); rintro e w' ⟨rfl, ⟨nd, rfl⟩⟩) | (go_at_call 12; (with_reducible refine (sesameref03_Part.calls k a0 a1 t132 _ A12.out).mono ?_); rintro e w' ⟨rfl, ⟨nd, rfl⟩⟩) | (go_at_call 13; (with_reducible refine (mask_Has.calls a0 a1 t133 _ A14.out).mono ?_); rintro e w' ⟨rfl, ⟨nd, rfl⟩⟩) | (go_at_call 12; (with_reducible refine (sesameref03_Part.calls k a1 a0 t134 _ A15.out).mono ?_); rintro e w' ⟨rfl, ⟨nd, rfl⟩⟩) | (go_at_call 14; (with_reducible refine (mask_Names.calls k a0 t135 _ A17.out).mono ?_); rintro e w' ⟨rfl, ⟨nd, rfl⟩⟩) | (go_at_call 15; (with_reducible refine (sesameref03_Names.calls k a0 t136 _ A18.out).mono ?_); rintro e w24 ⟨rfl, hb⟩; have n0_ := Aside0.mk (below_step (by repeat (first | (with_reducible first | exact HB.out | apply below_alloc | apply pw_below_drewN | apply below_drew1) | exact HB.out)) hb); clear HB; have HB := n0_; clear n0_; (try clear hb); (try clear hb2); (try clear hk); (try clear hi)))
              go_ret
              exact ⟨by first | rfl | (simp [errW_none, errW_some] <;> rfl) | (simp [*, errW_none, errW_some] <;> rfl), by repeat (first | (with_reducible first | exact HB.out | apply below_alloc | apply pw_below_drewN | apply below_drew1) | exact HB.out)⟩
          · rw [if_neg c19] at H
            have c19b0 : (t135.toList == t136.toList) = false := beq_eq_false_iff_ne.mpr c19
            have c19b1 : (t135.toList != t136.toList) = true := bne_iff_ne.mpr c19
            obtain rfl := Option.some.inj H
            go_enter Try.func3, Try.ntmps3
            go_wp2_with (first | ((with_reducible refine gate_callee (f := 6) rfl ?_); refine goesL_ (some 11) rfl rfl Try.func6 (by kernel_rfl) rfl #[] rfl (by (try simp only [List.map_toArray, List.map_cons, List.map_nil]); first | done | rfl | (simp only [List.length_drop, List.length_take]; rfl)) ?_; (with_reducible refine (sesamelaw03_head.calls k  true _ A4.out).mono ?_); rintro e w' ⟨rfl, ⟨nd, rfl⟩⟩; refine ⟨_, rfl, ?_⟩) | ((with_reducible refine gate_callee (f := 7) rfl ?_); refine goesL_ (some 15) rfl rfl Try.func7 (by kernel_rfl) rfl #[.string a2] rfl (by (try simp only [List.map_toArray, List.map_cons, List.map_nil]); first | done | rfl | (simp only [List.length_drop, List.length_take]; rfl)) ?_; (with_reducible refine (mask_Parse.calls k a2 t125 t126 _ A6.out).mono ?_); rintro e w' ⟨rfl, ⟨nd, rfl⟩⟩; refine ⟨_, rfl, ?_⟩) | ((with_reducible refine gate_callee (f := 8) rfl ?_); refine goesL_ (some 20) rfl rfl Try.func8 (by kernel_rfl) rfl #[.string a2] rfl (by (try simp only [List.map_toArray, List.map_cons, List.map_nil]); first | done | rfl | (simp only [List.length_drop, List.length_take]; rfl)) ?_; (with_reducible refine (sesameref03_Parse.calls k a2 t127 t128 _ A7.out).mono ?_); rintro e w25 ⟨rfl, hb⟩; refine ⟨_, rfl, ?_⟩; have n0_ := Aside0.mk (below_step (by repeat (first | (with_reducible first | exact HB.out | apply below_alloc | apply pw_below_drewN | apply below_drew1) | exact HB.out)) hb); clear HB; have HB := n0_; clear n0_; (try clear hb); (try clear hb2); (try clear hk); (try clear hi)) | ((with_reducible refine gate_callee (f := 9) rfl ?_); refine goesL_ (some 24) rfl rfl Try.func9 (by kernel_rfl) rfl #[.int .i64 a0] rfl (by (try simp only [List.map_toArray, List.map_cons, List.map_nil]); first | done | rfl | (simp only [List.length_drop, List.length_take]; rfl)) ?_; (with_reducible refine (mask_Valid.calls a0 t129 _ A8.out).mono ?_); rintro e w' ⟨rfl, ⟨nd, rfl⟩⟩; refine ⟨_, rfl, ?_⟩) | ((with_reducible refine gate_callee (f := 10) rfl ?_); refine goesL_ (some 26) rfl rfl Try.func10 (by kernel_rfl) rfl #[.int .i64 a0] rfl (by (try simp only [List.map_toArray, List.map_cons, List.map_nil]); first | done | rfl | (simp only [List.length_drop, List.length_take]; rfl)) ?_; (with_reducible refine (sesameref03_Valid.calls a0 t130 _ A9.out).mono ?_); rintro e w' ⟨rfl, ⟨nd, rfl⟩⟩; refine ⟨_, rfl, ?_⟩) | (go_at_call 11; (with_reducible refine (mask_Part.calls a0 a1 t131 _ A11.out).mono ?_); rintro e w' ⟨rfl, ⟨nd, rfl⟩⟩) | (go_at_call 12; (with_reducible refine (sesameref03_Part.calls k a0 a1 t132 _ A12.out).mono ?_); rintro e w' ⟨rfl, ⟨nd, rfl⟩⟩) | (go_at_call 13; (with_reducible refine (mask_Has.calls a0 a1 t133 _ A14.out).mono ?_); rintro e w' ⟨rfl, ⟨nd, rfl⟩⟩) | (go_at_call 12; (with_reducible refine (sesameref03_Part.calls k a1 a0 t134 _ A15.out).mono ?_); rintro e w' ⟨rfl, ⟨nd, rfl⟩⟩) | (go_at_call 14; (with_reducible refine (mask_Names.calls k a0 t135 _ A17.out).mono ?_); rintro e w' ⟨rfl, ⟨nd, rfl⟩⟩) | (go_at_call 15; (with_reducible refine (sesameref03_Names.calls k a0 t136 _ A18.out).mono ?_); rintro e w26 ⟨rfl, hb⟩; have n0_ := Aside0.mk (below_step (by repeat (first | (with_reducible first | exact HB.out | apply below_alloc | apply pw_below_drewN | apply below_drew1) | exact HB.out)) hb); clear HB; have HB := n0_; clear n0_; (try clear hb); (try clear hb2); (try clear hk); (try clear hi)))
            go_ret
            exact ⟨by first | rfl | (simp [errW_none, errW_some] <;> rfl) | (simp [*, errW_none, errW_some] <;> rfl), by repeat (first | (with_reducible first | exact HB.out | apply below_alloc | apply pw_below_drewN | apply below_drew1) | exact HB.out)⟩
        · rw [if_neg c16] at H
          have c16b0 : (t133 == t134) = false := by simpa using c16
          (try (have c16b1 : decide (t133 = t134) = false := by simpa using c16))
          (try (have c16b2 : (t133 == t134) = false := by simpa using c16))
          (try (have c16b3 : ¬ (t133 = t134) := by simpa using c16))
          clear c16
          obtain rfl := Option.some.inj H
          go_enter Try.func3, Try.ntmps3
          go_wp2_with (first | ((with_reducible refine gate_callee (f := 6) rfl ?_); refine goesL_ (some 11) rfl rfl Try.func6 (by kernel_rfl) rfl #[] rfl (by (try simp only [List.map_toArray, List.map_cons, List.map_nil]); first | done | rfl | (simp only [List.length_drop, List.length_take]; rfl)) ?_; (with_reducible refine (sesamelaw03_head.calls k  true _ A4.out).mono ?_); rintro e w' ⟨rfl, ⟨nd, rfl⟩⟩; refine ⟨_, rfl, ?_⟩) | ((with_reducible refine gate_callee (f := 7) rfl ?_); refine goesL_ (some 15) rfl rfl Try.func7 (by kernel_rfl) rfl #[.string a2] rfl (by (try simp only [List.map_toArray, List.map_cons, List.map_nil]); first | done | rfl | (simp only [List.length_drop, List.length_take]; rfl)) ?_; (with_reducible refine (mask_Parse.calls k a2 t125 t126 _ A6.out).mono ?_); rintro e w' ⟨rfl, ⟨nd, rfl⟩⟩; refine ⟨_, rfl, ?_⟩) | ((with_reducible refine gate_callee (f := 8) rfl ?_); refine goesL_ (some 20) rfl rfl Try.func8 (by kernel_rfl) rfl #[.string a2] rfl (by (try simp only [List.map_toArray, List.map_cons, List.map_nil]); first | done | rfl | (simp only [List.length_drop, List.length_take]; rfl)) ?_; (with_reducible refine (sesameref03_Parse.calls k a2 t127 t128 _ A7.out).mono ?_); rintro e w27 ⟨rfl, hb⟩; refine ⟨_, rfl, ?_⟩; have n0_ := Aside0.mk (below_step (by repeat (first | (with_reducible first | exact HB.out | apply below_alloc | apply pw_below_drewN | apply below_drew1) | exact HB.out)) hb); clear HB; have HB := n0_; clear n0_; (try clear hb); (try clear hb2); (try clear hk); (try clear hi)) | ((with_reducible refine gate_callee (f := 9) rfl ?_); refine goesL_ (some 24) rfl rfl Try.func9 (by kernel_rfl) rfl #[.int .i64 a0] rfl (by (try simp only [List.map_toArray, List.map_cons, List.map_nil]); first | done | rfl | (simp only [List.length_drop, List.length_take]; rfl)) ?_; (with_reducible refine (mask_Valid.calls a0 t129 _ A8.out).mono ?_); rintro e w' ⟨rfl, ⟨nd, rfl⟩⟩; refine ⟨_, rfl, ?_⟩) | ((with_reducible refine gate_callee (f := 10) rfl ?_); refine goesL_ (some 26) rfl rfl Try.func10 (by kernel_rfl) rfl #[.int .i64 a0] rfl (by (try simp only [List.map_toArray, List.map_cons, List.map_nil]); first | done | rfl | (simp only [List.length_drop, List.length_take]; rfl)) ?_; (with_reducible refine (sesameref03_Valid.calls a0 t130 _ A9.out).mono ?_); rintro e w' ⟨rfl, ⟨nd, rfl⟩⟩; refine ⟨_, rfl, ?_⟩) | (go_at_call 11; (with_reducible refine (mask_Part.calls a0 a1 t131 _ A11.out).mono ?_); rintro e w' ⟨rfl, ⟨nd, rfl⟩⟩) | (go_at_call 12; (with_reducible refine (sesameref03_Part.calls k a0 a1 t132 _ A12.out).mono ?_); rintro e w' ⟨rfl, ⟨nd, rfl⟩⟩) | (go_at_call 13; (with_reducible refine (mask_Has.calls a0 a1 t133 _ A14.out).mono ?_); rintro e w' ⟨rfl, ⟨nd, rfl⟩⟩) | (go_at_call 12; (with_reducible refine (sesameref03_Part.calls k a1 a0 t134 _ A15.out).mono ?_); rintro e w' ⟨rfl, ⟨nd, rfl⟩⟩))
          go_ret
          exact ⟨by first | rfl | (simp [errW_none, errW_some] <;> rfl) | (simp [*, errW_none, errW_some] <;> rfl), by repeat (first | (with_reducible first | exact HB.out | apply below_alloc | apply pw_below_drewN | apply below_drew1) | exact HB.out)⟩
      · rw [if_neg c13] at H
        have c13b0 : (t131 == t132) = false := by simpa using c13
        (try (have c13b1 : decide (t131 = t132) = false := by simpa using c13))
        (try (have c13b2 : (t131 == t132) = false := by simpa using c13))
        (try (have c13b3 : ¬ (t131 = t132) := by simpa using c13))
        clear c13
        obtain rfl := Option.some.inj H
        go_enter Try.func3, Try.ntmps3
        go_wp2_with (first | ((with_reducible refine gate_callee (f := 6) rfl ?_); refine goesL_ (some 11) rfl rfl Try.func6 (by kernel_rfl) rfl #[] rfl (by (try simp only [List.map_toArray, List.map_cons, List.map_nil]); first | done | rfl | (simp only [List.length_drop, List.length_take]; rfl)) ?_; (with_reducible refine (sesamelaw03_head.calls k  true _ A4.out).mono ?_); rintro e w' ⟨rfl, ⟨nd, rfl⟩⟩; refine ⟨_, rfl, ?_⟩) | ((with_reducible refine gate_callee (f := 7) rfl ?_); refine goesL_ (some 15) rfl rfl Try.func7 (by kernel_rfl) rfl #[.string a2] rfl (by (try simp only [List.map_toArray, List.map_cons, List.map_nil]); first | done | rfl | (simp only [List.length_drop, List.length_take]; rfl)) ?_; (with_reducible refine (mask_Parse.calls k a2 t125 t126 _ A6.out).mono ?_); rintro e w' ⟨rfl, ⟨nd, rfl⟩⟩; refine ⟨_, rfl, ?_⟩) | ((with_reducible refine gate_callee (f := 8) rfl ?_); refine goesL_ (some 20) rfl rfl Try.func8 (by kernel_rfl) rfl #[.string a2] rfl (by (try simp only [List.map_toArray, List.map_cons, List.map_nil]); first | done | rfl | (simp only [List.length_drop, List.length_take]; rfl)) ?_; (with_reducible refine (sesameref03_Parse.calls k a2 t127 t128 _ A7.out).mono ?_); rintro e w28 ⟨rfl, hb⟩; refine ⟨_, rfl, ?_⟩; have n0_ := Aside0.mk (below_step (by repeat (first | (with_reducible first | exact HB.out | apply below_alloc | apply pw_below_drewN | apply below_drew1) | exact HB.out)) hb); clear HB; have HB := n0_; clear n0_; (try clear hb); (try clear hb2); (try clear hk); (try clear hi)) | ((with_reducible refine gate_callee (f := 9) rfl ?_); refine goesL_ (some 24) rfl rfl Try.func9 (by kernel_rfl) rfl #[.int .i64 a0] rfl (by (try simp only [List.map_toArray, List.map_cons, List.map_nil]); first | done | rfl | (simp only [List.length_drop, List.length_take]; rfl)) ?_; (with_reducible refine (mask_Valid.calls a0 t129 _ A8.out).mono ?_); rintro e w' ⟨rfl, ⟨nd, rfl⟩⟩; refine ⟨_, rfl, ?_⟩) | ((with_reducible refine gate_callee (f := 10) rfl ?_); refine goesL_ (some 26) rfl rfl Try.func10 (by kernel_rfl) rfl #[.int .i64 a0] rfl (by (try simp only [List.map_toArray, List.map_cons, List.map_nil]); first | done | rfl | (simp only [List.length_drop, List.length_take]; rfl)) ?_; (with_reducible refine (sesameref03_Valid.calls a0 t130 _ A9.out).mono ?_); rintro e w' ⟨rfl, ⟨nd, rfl⟩⟩; refine ⟨_, rfl, ?_⟩) | (go_at_call 11; (with_reducible refine (mask_Part.calls a0 a1 t131 _ A11.out).mono ?_); rintro e w' ⟨rfl, ⟨nd, rfl⟩⟩) | (go_at_call 12; (with_reducible refine (sesameref03_Part.calls k a0 a1 t132 _ A12.out).mono ?_); rintro e w' ⟨rfl, ⟨nd, rfl⟩⟩))
        go_ret
        exact ⟨by first | rfl | (simp [errW_none, errW_some] <;> rfl) | (simp [*, errW_none, errW_some] <;> rfl), by repeat (first | (with_reducible first | exact HB.out | apply below_alloc | apply pw_below_drewN | apply below_drew1) | exact HB.out)⟩
    · rw [if_neg c10] at H
      have c10b0 : (t129 == t130) = false := by simpa using c10
      (try (have c10b1 : decide (t129 = t130) = false := by simpa using c10))
      (try (have c10b2 : (t129 == t130) = false := by simpa using c10))
      (try (have c10b3 : ¬ (t129 = t130) := by simpa using c10))
      clear c10
      obtain rfl := Option.some.inj H
      go_enter Try.func3, Try.ntmps3
      go_wp2_with (first | ((with_reducible refine gate_callee (f := 6) rfl ?_); refine goesL_ (some 11) rfl rfl Try.func6 (by kernel_rfl) rfl #[] rfl (by (try simp only [List.map_toArray, List.map_cons, List.map_nil]); first | done | rfl | (simp only [List.length_drop, List.length_take]; rfl)) ?_; (with_reducible refine (sesamelaw03_head.calls k  true _ A4.out).mono ?_); rintro e w' ⟨rfl, ⟨nd, rfl⟩⟩; refine ⟨_, rfl, ?_⟩) | ((with_reducible refine gate_callee (f := 7) rfl ?_); refine goesL_ (some 15) rfl rfl Try.func7 (by kernel_rfl) rfl #[.string a2] rfl (by (try simp only [List.map_toArray, List.map_cons, List.map_nil]); first | done | rfl | (simp only [List.length_drop, List.length_take]; rfl)) ?_; (with_reducible refine (mask_Parse.calls k a2 t125 t126 _ A6.out).mono ?_); rintro e w' ⟨rfl, ⟨nd, rfl⟩⟩; refine ⟨_, rfl, ?_⟩) | ((with_reducible refine gate_callee (f := 8) rfl ?_); refine goesL_ (some 20) rfl rfl Try.func8 (by kernel_rfl) rfl #[.string a2] rfl (by (try simp only [List.map_toArray, List.map_cons, List.map_nil]); first | done | rfl | (simp only [List.length_drop, List.length_take]; rfl)) ?_; (with_reducible refine (sesameref03_Parse.calls k a2 t127 t128 _ A7.out).mono ?_); rintro e w29 ⟨rfl, hb⟩; refine ⟨_, rfl, ?_⟩; have n0_ := Aside0.mk (below_step (by repeat (first | (with_reducible first | exact HB.out | apply below_alloc | apply pw_below_drewN | apply below_drew1) | exact HB.out)) hb); clear HB; have HB := n0_; clear n0_; (try clear hb); (try clear hb2); (try clear hk); (try clear hi)) | ((with_reducible refine gate_callee (f := 9) rfl ?_); refine goesL_ (some 24) rfl rfl Try.func9 (by kernel_rfl) rfl #[.int .i64 a0] rfl (by (try simp only [List.map_toArray, List.map_cons, List.map_nil]); first | done | rfl | (simp only [List.length_drop, List.length_take]; rfl)) ?_; (with_reducible refine (mask_Valid.calls a0 t129 _ A8.out).mono ?_); rintro e w' ⟨rfl, ⟨nd, rfl⟩⟩; refine ⟨_, rfl, ?_⟩) | ((with_reducible refine gate_callee (f := 10) rfl ?_); refine goesL_ (some 26) rfl rfl Try.func10 (by kernel_rfl) rfl #[.int .i64 a0] rfl (by (try simp only [List.map_toArray, List.map_cons, List.map_nil]); first | done | rfl | (simp only [List.length_drop, List.length_take]; rfl)) ?_; (with_reducible refine (sesameref03_Valid.calls a0 t130 _ A9.out).mono ?_); rintro e w' ⟨rfl, ⟨nd, rfl⟩⟩; refine ⟨_, rfl, ?_⟩))
      go_ret
      exact ⟨by first | rfl | (simp [errW_none, errW_some] <;> rfl) | (simp [*, errW_none, errW_some] <;> rfl), by repeat (first | (with_reducible first | exact HB.out | apply below_alloc | apply pw_below_drewN | apply below_drew1) | exact HB.out)⟩
  · replace c5 := Bool.eq_false_iff.mpr c5
    subst c5
    have H1 : (some false) = some r := by rw [if_neg (show ¬ (false = true) by decide)] at H; exact H
    clear H
    have H := H1
    clear H1
    obtain rfl := Option.some.inj H
    go_enter Try.func3, Try.ntmps3
    go_wp2_with (first | ((with_reducible refine gate_callee (f := 6) rfl ?_); refine goesL_ (some 11) rfl rfl Try.func6 (by kernel_rfl) rfl #[] rfl (by (try simp only [List.map_toArray, List.map_cons, List.map_nil]); first | done | rfl | (simp only [List.length_drop, List.length_take]; rfl)) ?_; (with_reducible refine (sesamelaw03_head.calls k  false _ A4.out).mono ?_); rintro e w' ⟨rfl, ⟨nd, rfl⟩⟩; refine ⟨_, rfl, ?_⟩))
    go_ret
    exact ⟨by first | rfl | (simp [errW_none, errW_some] <;> rfl) | (simp [*, errW_none, errW_some] <;> rfl), by repeat (first | (with_reducible first | exact HB.out | apply below_alloc | apply pw_below_drewN | apply below_drew1) | exact HB.out)⟩

/-- THE ONE PURE STATEMENT of sesamelaw03_MaskAll: yours. -/
def sesamelaw03_MaskAll.Pure : Prop := ∀ (a0 : Int) (a1 : Int) (a2 : ByteArray), (Lit.int .i64 a0).wf = true → (Lit.int .i64 a1).wf = true → a2.size ≤ 140737488351232 → ∃ k, sesamelaw03_MaskAll.f k a0 a1 a2 = some true
theorem sesamelaw03_MaskAll.walk (P : sesamelaw03_MaskAll.Pure) (a0 : Int) (a1 : Int) (a2 : ByteArray) (w : World) (w0 : (Lit.int .i64 a0).wf = true) (w1 : (Lit.int .i64 a1).wf = true) (w2 : a2.size ≤ 140737488351232) :
    Calls Try.prog 3 #[.int .i64 a0, .int .i64 a1, .string a2] w fun e w' => e = .returned (.bool true) ∧ Below w.heap.size w w' := by
  obtain ⟨k, h⟩ := P a0 a1 a2 w0 w1 w2
  refine (sesamelaw03_MaskAll.calls k a0 a1 a2 true w h).mono ?_
  rintro e w' ⟨rfl, hd⟩
  exact ⟨rfl, hd⟩

end Go.Proofs.Ytoegclilhchlmaa.PMaskAll

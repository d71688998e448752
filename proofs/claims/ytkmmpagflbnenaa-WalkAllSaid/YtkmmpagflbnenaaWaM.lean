/- WalkAll: the walk. Own text; Ytkmmpagflbnenaa and the numbers between @..@ are the seat's. -/
import Derived.Test.YtkmmpagflbnenaaWaL
namespace Go.Proofs.Ytkmmpagflbnenaa.Kin
open Go.RowKit Go.Proofs.Ytkmmpagflbnenaa.Mem
set_option linter.unusedVariables false
theorem rkids_kids {m : Nat} {L : List (Int × Int)} (h : Inv m L) (n : Int) : rkids L n = kids L n := by
  unfold kids rkids
  by_cases hn : has L n = true
  · rw [if_pos hn, if_pos (h.has_rng hn).1]
  · rw [if_neg hn]
    by_cases h0 : 0 ≤ n
    · rw [if_pos h0, h.chl_no (by simpa using hn) (by omega)]
    · rw [if_neg h0]
section
variable {w wr w' : World} {p g m r : Nat} {L : List (Int × Int)} {X : Nat → Prop}
theorem Duo.parents (h : Duo w wr p g m r L L X) (n : Int) : Calls Try.prog 10 #[.pointer (some ⟨p, 0, none⟩), .int .i64 n] wr (fun e w' => e = .returned (.tuple #[.int .i64 (par L n), .bool (has L n)]) ∧ wr = w') ∧ Calls Try.prog 11 #[.pointer (some ⟨r, 0, none⟩), .int .i64 n] wr fun e w' => e = .returned (.tuple #[.int .i64 (par L n), .bool (has L n)]) ∧ wr = w' := by
  obtain ⟨V, F, G, h1, h2, _, _⟩ := h
  exact ⟨parent_any wr p g m L V F h1 n, rparent_any wr r m L G h2 n⟩
theorem Duo.kidz (h : Duo w wr p g m r L L X) (n : Int) : Calls Try.prog 13 #[.pointer (some ⟨p, 0, none⟩), .int .i64 n] wr (fun e w' => ∃ A c, e = .returned (.slice A (kids L n).length c) ∧ w'.ownsRow 0 3 1 (.slice A (kids L n).length c) (kids L n).length ((kids L n).map i64) ∧ Below wr.heap.size wr w') ∧ ∀ w2, Below wr.heap.size wr w2 → Calls Try.prog 14 #[.pointer (some ⟨r, 0, none⟩), .int .i64 n] w2 fun e w' => ∃ A c, e = .returned (.slice A (kids L n).length c) ∧ w'.ownsRow 0 3 1 (.slice A (kids L n).length c) (kids L n).length ((kids L n).map i64) ∧ Below w2.heap.size w2 w' := by
  obtain ⟨V, F, G, h1, h2, _, _⟩ := h
  refine ⟨(children_any wr p g m L V F h1 n).mono (by rintro e w' ⟨A, c, e1, e2, e3, _⟩; exact ⟨A, c, e1, e2, e3⟩), fun w2 hb => ?_⟩
  have := rchildren_any w2 r m L G (h2.below hb) n
  rwa [rkids_kids h1.inv n] at this
theorem Duo.kidslen (h : Duo w wr p g m r L L X) (n : Int) : (kids L n).length ≤ m := by
  obtain ⟨V, F, G, h1, h2, _, _⟩ := h
  unfold kids
  split
  · exact chl_le h1.inv n
  · simp
end
set_option maxHeartbeats 8000000 in
set_option maxRecDepth 100000 in
theorem law_all (w : World) (n0 : Int) (vs : Value) (os : List (Int × Int × Int)) (a n : Int) (hs : ReadsOps w vs os) :
    Calls Try.prog 3 #[.int .i64 n0, vs, .int .i64 a, .int .i64 n] w fun e w' => e = .returned (.bool true) ∧ Below w.heap.size w w' := by
  have hs' := hs
  obtain ⟨As, cs, rfl, hs1, hs2, hs3⟩ := hs
  unfold maxLen at hs2
  have HS := Lib.hid hs3
  clear hs3
  have e1 : n0.tmod 200 < 200 := Int.tmod_lt_of_pos n0 (by decide)
  have e2 : -200 < n0.tmod 200 := Int.lt_tmod_of_pos n0 (by decide)
  obtain ⟨R, hR⟩ : ∃ R, n0.tmod 200 = R := ⟨_, rfl⟩
  have hw : IntKind.i64.wrap (n0.tmod 200) = R := by rw [hR]; exact IntWalk.i64_in _ (by omega)
  rw [hR] at e1 e2
  obtain ⟨m, hm⟩ : ∃ m : Nat, R % 200 = m := ⟨(R % 200).toNat, by omega⟩
  have hm2 : m < 200 := by omega
  have HX := Lib.hid (forest_any w m (by omega) _ os hs')
  clear hs'
  go_enter Try.func3, Try.ntmps3
  go_wp2_with fail
  (with_reducible refine HX.out.mono ?_)
  rintro e w1 ⟨p, g, r, rfl, d1, b1⟩
  have D1 := Lib.hid d1
  have B1 := Lib.hid b1
  have HM := Lib.hid hm
  clear HX d1 b1 hw hR hm e1 e2
  obtain ⟨L, hL⟩ : ∃ L, runL m os = L := ⟨_, rfl⟩
  rw [hL] at D1
  clear hL
  have HX := Lib.hid (alive_any w1)
  go_wp2_with fail
  (with_reducible refine HX.out.mono ?_)
  rintro e w2 ⟨rfl, b2⟩
  have D2 := Lib.hid (D1.out.below b2)
  have B2 := Lib.hid (B1.out.trans (b2.mono B1.out.size))
  clear b2 HX D1 B1
  have C := Lib.hid (D2.out.asks a n)
  go_wp2_with fail
  (with_reducible refine C.out.mono ?_)
  rintro e w3 ⟨rfl, b3⟩
  replace D2 := Lib.hid (D2.out.below b3)
  replace B2 := Lib.hid (B2.out.trans (b3.mono B2.out.size))
  replace C := Lib.hid (D2.out.asks n a)
  clear b3
  go_wp2_with fail
  (with_reducible refine C.out.mono ?_)
  rintro e w4 ⟨rfl, b4⟩
  replace D2 := Lib.hid (D2.out.below b4)
  replace B2 := Lib.hid (B2.out.trans (b4.mono B2.out.size))
  replace C := Lib.hid (D2.out.asks n n)
  clear b4
  go_wp2_with fail
  (with_reducible refine C.out.mono ?_)
  rintro e w5 ⟨rfl, b5⟩
  replace D2 := Lib.hid (D2.out.below b5)
  replace B2 := Lib.hid (B2.out.trans (b5.mono B2.out.size))
  clear b5 C
  -- THE LOOPS
  go_wp2_with fail
  rw [HM.out]
  go_loopw [12] (fun v12 wr => ∃ i : Nat, i ≤ os.length ∧ i ≤ 40 ∧ v12 = .int .i64 i ∧ Hid (Duo w wr p g m r L L (fun _ => False)) ∧ Hid (Below w.heap.size w wr)) (fun v12 _ => os.length - (intOf v12).toNat)
  case atStart => exact ⟨0, Nat.zero_le _, by omega, rfl, D2, B2⟩
  case round =>
    clear D2 B2
    obtain ⟨i, hi, hi4, rfl, HD, HW⟩ := hrel
    by_cases h40 : i < 40
    · by_cases hlt : i < os.length
      · obtain ⟨x, hx⟩ : ∃ x, os[i]? = some x := ⟨_, List.getElem?_eq_getElem hlt⟩
        obtain ⟨gs, ss, rfl, hcell⟩ := HS.out (by omega)
        obtain ⟨k, q, n1⟩ := x
        have hgs : Hid (gs < w.heap.size) := World.block_lt_of_cell? w _ (hcell i (k, q, n1) hx 0 _ rfl)
        have Y : Hid (∀ w', Below w.heap.size w w' → w'.cell? ⟨gs, ss + i * 3 + 1, none⟩ = some (.int .i64 q) ∧ w'.cell? ⟨gs, ss + i * 3 + 2, none⟩ = some (.int .i64 n1)) := fun w' hb => ⟨(hb.cell (show (⟨gs, ss + i * 3 + 1, none⟩ : Addr).block < w.heap.size from hgs.out)).trans (hcell i (k, q, n1) hx 1 _ rfl), (hb.cell (show (⟨gs, ss + i * 3 + 2, none⟩ : Addr).block < w.heap.size from hgs.out)).trans (hcell i (k, q, n1) hx 2 _ rfl)⟩
        clear hcell hx
        have BD : Hid (Below w.heap.size w wr.drew) := HW.out.drew
        have DD : Hid (Duo w wr.drew p g m r L L (fun _ => False)) := HD.out.below (Below.refl _ wr).drew
        have ST := Lib.hid (Y.out _ BD.out)
        have C1 := Lib.hid (DD.out.asks n1 n)
        have C2 : Hid (∀ w', Below wr.drew.heap.size wr.drew w' → Calls Try.prog 9 #[.pointer (some ⟨p, 0, none⟩), .pointer (some ⟨r, 0, none⟩), .int .i64 q, .int .i64 n1] w' fun e w'' => e = .returned (.bool true) ∧ Below w'.heap.size w' w'') := fun w' hb => (DD.out.below hb).asks q n1
        have YK : Hid (∀ w', Below wr.drew.heap.size wr.drew w' → w'.cell? ⟨gs, ss + i * 3 + 1, none⟩ = some (.int .i64 q) ∧ w'.cell? ⟨gs, ss + i * 3 + 2, none⟩ = some (.int .i64 n1)) := fun w' hb => Y.out w' (BD.out.trans (hb.mono BD.out.size))
        have hi40 : (i : Int) < 40 := by omega
        go_wp2_with fail
        go_region_held3 (fun w' => w'.cell? ⟨gs, ss + i * 3 + 1, none⟩ = some (.int .i64 q) ∧ w'.cell? ⟨gs, ss + i * 3 + 2, none⟩ = some (.int .i64 n1))
          (first | exact ST.out | exact YK.out _ (b6.trans (b7.mono b6.size)) | exact YK.out _ b6 | fail)
          (first | (go_at_call 9; (with_reducible refine C1.out.mono ?_); rintro e w6 ⟨rfl, b6⟩) | (go_at_call 9; (with_reducible refine (C2.out _ b6).mono ?_); rintro e w7 ⟨rfl, b7⟩) | fail)
        have b67 := b6.trans (b7.mono b6.size)
        have D7 := Lib.hid (DD.out.below b67)
        have W7 := Lib.hid (BD.out.trans (b67.mono BD.out.size))
        clear b6 b7 b67 C1 C2 YK ST BD DD HD HW Y
        go_wp2_with fail
        exact ⟨⟨i + 1, by omega, by omega, by simp, D7, W7⟩, by simp [intOf]; omega⟩
      · have hi40 : (i : Int) < 40 := by omega
        have hio : ¬ (i : Int) < (os.length : Int) := by omega
        clear hlt
        go_wp2_with fail
        go_loopw [13] (fun v13 wr => ∃ k : Nat, k ≤ m ∧ v13 = .int .i64 k ∧ Hid (Duo w wr p g m r L L (fun _ => False)) ∧ Hid (Below w.heap.size w wr)) (fun v13 _ => m - (intOf v13).toNat)
        case atStart => exact ⟨0, Nat.zero_le _, rfl, HD, HW⟩
        case round =>
          clear HD HW
          obtain ⟨k, hk, rfl, HD, HW⟩ := hrel
          by_cases hlt2 : k < m
          · have HP := Lib.hid (HD.out.parents k)
            obtain ⟨P1, hP1⟩ : ∃ P1, par L k = P1 := ⟨_, rfl⟩
            obtain ⟨h1, hh1⟩ : ∃ h1, has L k = h1 := ⟨_, rfl⟩
            rw [hP1, hh1] at HP
            have HC := Lib.hid (HD.out.kidz k)
            have hkl := HD.out.kidslen k
            obtain ⟨zs, hz⟩ : ∃ zs, kids L (k : Int) = zs := ⟨_, rfl⟩
            rw [hz] at HC hkl
            obtain ⟨N, hN⟩ : ∃ N, zs.length = N := ⟨_, rfl⟩
            have HN := Lib.hid hN
            rw [hN] at HC hkl
            clear hP1 hh1 hz hN
            have hbb : (h1 != h1) = false := by simp
            go_wp2_with fail
            (with_reducible refine HP.out.1.mono ?_)
            rintro e w6 ⟨rfl, rfl⟩
            go_wp2_with fail
            (with_reducible refine HP.out.2.mono ?_)
            rintro e w6 ⟨rfl, rfl⟩
            go_wp2_with fail
            (with_reducible refine HC.out.1.mono ?_)
            rintro e w6 ⟨A6, c6, rfl, o6, b6⟩
            have HC2 := Lib.hid (HC.out.2 w6 b6)
            have O6 := Lib.hid o6
            have HD6 := Lib.hid (HD.out.below b6)
            have HW6 := Lib.hid (HW.out.trans (b6.mono HW.out.size))
            clear o6 b6 HC HP
            go_wp2_with fail
            (with_reducible refine HC2.out.mono ?_)
            rintro e w7 ⟨A7, c7, rfl, o7, b7⟩
            have NS := Lib.hid (numbers_same w7 _ _ zs (reads_own HN.out (own_keeps O6.out (Kept.of_below b7))) (reads_own HN.out o7))
            replace HD6 := Lib.hid (HD6.out.below b7)
            replace HW6 := Lib.hid (HW6.out.trans (b7.mono HW6.out.size))
            clear o7 b7 HC2 O6
            go_wp2_with fail
            (with_reducible refine NS.out.mono ?_)
            rintro e w8 ⟨rfl, b8⟩
            replace HD6 := Lib.hid (HD6.out.below b8)
            replace HW6 := Lib.hid (HW6.out.trans (b8.mono HW6.out.size))
            clear b8 NS
            go_wp2_with fail
            exact ⟨⟨k + 1, by omega, by simp, HD6, HW6⟩, by simp [intOf]; omega⟩
          · have : k = m := by omega
            subst this
            go_wp2_with fail
            go_ret
            exact ⟨rfl, HW.out⟩
    · have hi40 : ¬ (i : Int) < 40 := by omega
      by_cases hlt : i < os.length
      · skip
        go_wp2_with fail
        go_loopw [13] (fun v13 wr => ∃ k : Nat, k ≤ m ∧ v13 = .int .i64 k ∧ Hid (Duo w wr p g m r L L (fun _ => False)) ∧ Hid (Below w.heap.size w wr)) (fun v13 _ => m - (intOf v13).toNat)
        case atStart => exact ⟨0, Nat.zero_le _, rfl, HD, HW⟩
        case round =>
          clear HD HW
          obtain ⟨k, hk, rfl, HD, HW⟩ := hrel
          by_cases hlt2 : k < m
          · have HP := Lib.hid (HD.out.parents k)
            obtain ⟨P1, hP1⟩ : ∃ P1, par L k = P1 := ⟨_, rfl⟩
            obtain ⟨h1, hh1⟩ : ∃ h1, has L k = h1 := ⟨_, rfl⟩
            rw [hP1, hh1] at HP
            have HC := Lib.hid (HD.out.kidz k)
            have hkl := HD.out.kidslen k
            obtain ⟨zs, hz⟩ : ∃ zs, kids L (k : Int) = zs := ⟨_, rfl⟩
            rw [hz] at HC hkl
            obtain ⟨N, hN⟩ : ∃ N, zs.length = N := ⟨_, rfl⟩
            have HN := Lib.hid hN
            rw [hN] at HC hkl
            clear hP1 hh1 hz hN
            have hbb : (h1 != h1) = false := by simp
            go_wp2_with fail
            (with_reducible refine HP.out.1.mono ?_)
            rintro e w6 ⟨rfl, rfl⟩
            go_wp2_with fail
            (with_reducible refine HP.out.2.mono ?_)
            rintro e w6 ⟨rfl, rfl⟩
            go_wp2_with fail
            (with_reducible refine HC.out.1.mono ?_)
            rintro e w6 ⟨A6, c6, rfl, o6, b6⟩
            have HC2 := Lib.hid (HC.out.2 w6 b6)
            have O6 := Lib.hid o6
            have HD6 := Lib.hid (HD.out.below b6)
            have HW6 := Lib.hid (HW.out.trans (b6.mono HW.out.size))
            clear o6 b6 HC HP
            go_wp2_with fail
            (with_reducible refine HC2.out.mono ?_)
            rintro e w7 ⟨A7, c7, rfl, o7, b7⟩
            have NS := Lib.hid (numbers_same w7 _ _ zs (reads_own HN.out (own_keeps O6.out (Kept.of_below b7))) (reads_own HN.out o7))
            replace HD6 := Lib.hid (HD6.out.below b7)
            replace HW6 := Lib.hid (HW6.out.trans (b7.mono HW6.out.size))
            clear o7 b7 HC2 O6
            go_wp2_with fail
            (with_reducible refine NS.out.mono ?_)
            rintro e w8 ⟨rfl, b8⟩
            replace HD6 := Lib.hid (HD6.out.below b8)
            replace HW6 := Lib.hid (HW6.out.trans (b8.mono HW6.out.size))
            clear b8 NS
            go_wp2_with fail
            exact ⟨⟨k + 1, by omega, by simp, HD6, HW6⟩, by simp [intOf]; omega⟩
          · have : k = m := by omega
            subst this
            go_wp2_with fail
            go_ret
            exact ⟨rfl, HW.out⟩
      · skip
        go_wp2_with fail
        go_loopw [13] (fun v13 wr => ∃ k : Nat, k ≤ m ∧ v13 = .int .i64 k ∧ Hid (Duo w wr p g m r L L (fun _ => False)) ∧ Hid (Below w.heap.size w wr)) (fun v13 _ => m - (intOf v13).toNat)
        case atStart => exact ⟨0, Nat.zero_le _, rfl, HD, HW⟩
        case round =>
          clear HD HW
          obtain ⟨k, hk, rfl, HD, HW⟩ := hrel
          by_cases hlt2 : k < m
          · have HP := Lib.hid (HD.out.parents k)
            obtain ⟨P1, hP1⟩ : ∃ P1, par L k = P1 := ⟨_, rfl⟩
            obtain ⟨h1, hh1⟩ : ∃ h1, has L k = h1 := ⟨_, rfl⟩
            rw [hP1, hh1] at HP
            have HC := Lib.hid (HD.out.kidz k)
            have hkl := HD.out.kidslen k
            obtain ⟨zs, hz⟩ : ∃ zs, kids L (k : Int) = zs := ⟨_, rfl⟩
            rw [hz] at HC hkl
            obtain ⟨N, hN⟩ : ∃ N, zs.length = N := ⟨_, rfl⟩
            have HN := Lib.hid hN
            rw [hN] at HC hkl
            clear hP1 hh1 hz hN
            have hbb : (h1 != h1) = false := by simp
            go_wp2_with fail
            (with_reducible refine HP.out.1.mono ?_)
            rintro e w6 ⟨rfl, rfl⟩
            go_wp2_with fail
            (with_reducible refine HP.out.2.mono ?_)
            rintro e w6 ⟨rfl, rfl⟩
            go_wp2_with fail
            (with_reducible refine HC.out.1.mono ?_)
            rintro e w6 ⟨A6, c6, rfl, o6, b6⟩
            have HC2 := Lib.hid (HC.out.2 w6 b6)
            have O6 := Lib.hid o6
            have HD6 := Lib.hid (HD.out.below b6)
            have HW6 := Lib.hid (HW.out.trans (b6.mono HW.out.size))
            clear o6 b6 HC HP
            go_wp2_with fail
            (with_reducible refine HC2.out.mono ?_)
            rintro e w7 ⟨A7, c7, rfl, o7, b7⟩
            have NS := Lib.hid (numbers_same w7 _ _ zs (reads_own HN.out (own_keeps O6.out (Kept.of_below b7))) (reads_own HN.out o7))
            replace HD6 := Lib.hid (HD6.out.below b7)
            replace HW6 := Lib.hid (HW6.out.trans (b7.mono HW6.out.size))
            clear o7 b7 HC2 O6
            go_wp2_with fail
            (with_reducible refine NS.out.mono ?_)
            rintro e w8 ⟨rfl, b8⟩
            replace HD6 := Lib.hid (HD6.out.below b8)
            replace HW6 := Lib.hid (HW6.out.trans (b8.mono HW6.out.size))
            clear b8 NS
            go_wp2_with fail
            exact ⟨⟨k + 1, by omega, by simp, HD6, HW6⟩, by simp [intOf]; omega⟩
          · have : k = m := by omega
            subst this
            go_wp2_with fail
            go_ret
            exact ⟨rfl, HW.out⟩
end Go.Proofs.Ytkmmpagflbnenaa.Kin

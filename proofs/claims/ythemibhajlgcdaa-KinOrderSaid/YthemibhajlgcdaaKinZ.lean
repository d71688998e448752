/- last: a new child of each node comes last, and is gone again. Own text; Ythemibhajlgcdaa and the numbers between @..@ are the seat's. -/
import Derived.Test.YthemibhajlgcdaaKinY
import Derived.Test.YthemibhajlgcdaaKinL
namespace Go.Proofs.Ythemibhajlgcdaa.Kin
open Go.RowKit Go.Proofs.Ythemibhajlgcdaa.Mem
set_option linter.unusedVariables false
theorem inR_top (m : Nat) : inR m (m : Int) = false := by simp [inR]
theorem inR_neg (m : Nat) : inR m (-1) = false := by simp [inR]
theorem inR_of {m q : Nat} (h : q < m) : inR m (q : Int) = true := by simp [inR]; omega
set_option maxHeartbeats 8000000 in
set_option maxRecDepth 100000 in
theorem last_any (w wr0 : World) (p g m : Nat) (L : List (Int × Int)) (n : Int) (h : Solo w wr0 p g m L (fun _ => False)) : Calls Try.prog 16 #[.pointer (some ⟨p, 0, none⟩), .int .i64 m, .int .i64 n] wr0 fun e w' => e = .returned (.bool true) ∧ Below w.heap.size w w' := by
  have hm := h.hm
  have HI := Lib.hid h.inv
  have HTOP : Hid (has L (m : Int) = false) := by
    cases e : has L (m : Int) with
    | false => rfl
    | true => have := h.inv.has_rng e; omega
  have HOUT : Hid (∀ z : Int, ¬ (0 ≤ z ∧ z < m) → has L z = false) := fun z hz => by
    cases e : has L z with
    | false => rfl
    | true => exact absurd (h.inv.has_rng e) hz
  have H0 := Lib.hid h
  clear h
  go_enter Try.func16, Try.ntmps16
  go_wp2_with fail
  go_loopw [7, 8] (fun v7 v8 wr => ∃ (k : Nat) (f : Int), k ≤ m ∧ v8 = .int .i64 k ∧ v7 = .int .i64 f ∧ wr = wr0 ∧ Hid (f = -1 ∨ ∃ q : Nat, f = q ∧ q < m ∧ has L q = false)) (fun _ v8 _ => m - (intOf v8).toNat)
  case atStart => exact ⟨0, -1, Nat.zero_le _, rfl, rfl, rfl, .inl rfl⟩
  case round =>
    obtain ⟨k, f, hk, rfl, rfl, rfl, HF⟩ := hrel
    by_cases hlt : k < m
    · have HX := Lib.hid (H0.out.has k)
      cases e : has L (k : Int) with
      | true =>
        rw [e] at HX
        go_wp2_with fail
        (with_reducible refine HX.out.mono ?_)
        rintro e w1 ⟨rfl, rfl⟩
        go_wp2_with fail
        exact ⟨⟨k + 1, f, by omega, by simp, rfl, trivial, HF⟩, by simp [intOf]; omega⟩
      | false =>
        have HF2 : Hid ((k : Int) = -1 ∨ ∃ q : Nat, (k : Int) = q ∧ q < m ∧ has L q = false) := .inr ⟨k, rfl, hlt, e⟩
        rw [e] at HX
        clear e
        go_wp2_with fail
        (with_reducible refine HX.out.mono ?_)
        rintro e w1 ⟨rfl, rfl⟩
        go_wp2_with fail
        exact ⟨⟨k + 1, k, by omega, by simp, rfl, trivial, HF2⟩, by simp [intOf]; omega⟩
    · have : k = m := by omega
      subst this
      clear hlt hk
      go_wp2_with fail
      go_loopw [9] (fun v9 wr => ∃ i : Nat, i ≤ k ∧ v9 = .int .i64 i ∧ Hid (Solo w wr p g k L (fun _ => False))) (fun v9 _ => k - (intOf v9).toNat)
      case atStart => exact ⟨0, Nat.zero_le _, rfl, H0⟩
      case round =>
        clear H0
        obtain ⟨i, hi, rfl, HS⟩ := hrel
        by_cases hlt : i < k
        · rcases HF.out with rfl | ⟨q, rfl, hq, hqn⟩
          · generalize k = m at *
            have HX := Lib.hid (HS.out.root (fun _ h => h.elim) (m : Int))
            rw [(root_no (L := L) (inR_top m)).1, (root_no (L := L) (inR_top m)).2] at HX
            go_wp2_with (first | (go_at_call 8; (refine (num_any _ _).mono ?_); rintro e w9 ⟨rfl, rfl⟩) | fail)
            (with_reducible refine HX.out.mono ?_)
            rintro e wa ⟨rfl, sa, _⟩
            have SA := Lib.hid sa
            clear sa HX HS
            have HX := Lib.hid (SA.out.root (fun _ h => h.elim) (-1))
            rw [(root_no (L := L) (inR_neg m)).1, (root_no (L := L) (inR_neg m)).2] at HX
            go_wp2_with (first | (go_at_call 8; (refine (num_any _ _).mono ?_); rintro e w9 ⟨rfl, rfl⟩) | fail)
            (with_reducible refine HX.out.mono ?_)
            rintro e wb ⟨rfl, sb, _⟩
            have SB := Lib.hid sb
            clear sb HX SA
            have HX := Lib.hid (SB.out.cut (fun _ h => h.elim) (m : Int))
            rw [(cut_no HTOP.out).1, (cut_no HTOP.out).2] at HX
            go_wp2_with (first | (go_at_call 8; (refine (num_any _ _).mono ?_); rintro e w9 ⟨rfl, rfl⟩) | fail)
            (with_reducible refine HX.out.mono ?_)
            rintro e wc ⟨rfl, sc, _⟩
            have SC := Lib.hid sc
            clear sc HX SB
            by_cases hn1 : n < (m : Int)
            · by_cases hn0 : 0 ≤ n
              · go_wp2_with (first | (go_at_call 8; (refine (num_any _ _).mono ?_); rintro e w9 ⟨rfl, rfl⟩) | fail)
                go_ret
                exact ⟨rfl, SC.out.2⟩
              · have HX := Lib.hid (SC.out.cut (fun _ h => h.elim) n)
                rw [(cut_no (HOUT.out n (fun e => hn0 e.1))).1] at HX
                have hn0x : n < 0 := by omega
                go_wp2_with (first | (go_at_call 8; (refine (num_any _ _).mono ?_); rintro e w9 ⟨rfl, rfl⟩) | fail)
                (with_reducible refine HX.out.mono ?_)
                rintro e wd ⟨rfl, sd, _⟩
                have SD := Lib.hid sd
                clear sd HX
                go_wp2_with (first | (go_at_call 8; (refine (num_any _ _).mono ?_); rintro e w9 ⟨rfl, rfl⟩) | fail)
                go_ret
                exact ⟨rfl, SD.out.2⟩
            · have HX := Lib.hid (SC.out.cut (fun _ h => h.elim) n)
              rw [(cut_no (HOUT.out n (fun e => hn1 e.2))).1] at HX
              have hn1x : (m : Int) ≤ n := by omega
              go_wp2_with (first | (go_at_call 8; (refine (num_any _ _).mono ?_); rintro e w9 ⟨rfl, rfl⟩) | fail)
              (with_reducible refine HX.out.mono ?_)
              rintro e wd ⟨rfl, sd, _⟩
              have SD := Lib.hid sd
              clear sd HX
              go_wp2_with (first | (go_at_call 8; (refine (num_any _ _).mono ?_); rintro e w9 ⟨rfl, rfl⟩) | fail)
              go_ret
              exact ⟨rfl, SD.out.2⟩
          · have hq0 : (0 : Int) ≤ (q : Int) := by omega
            have hqr := inR_of hq
            have HX := Lib.hid (HS.out.has i)
            cases e : has L (i : Int) with
            | false =>
              rw [e] at HX
              have HY := Lib.hid (HS.out.child (fun _ h => h.elim) i q)
              rw [(child_no (m := k) (q := (q : Int)) e).1, (child_no (m := k) (q := (q : Int)) e).2] at HY
              clear e
              go_wp2_with fail
              (with_reducible refine HX.out.mono ?_)
              rintro e w1 ⟨rfl, rfl⟩
              go_wp2_with fail
              (with_reducible refine HY.out.mono ?_)
              rintro e w1 ⟨rfl, s1, _⟩
              have S1 := Lib.hid s1
              clear s1 HX HY
              go_wp2_with (first | (go_at_call 8; (refine (num_any _ _).mono ?_); rintro e w9 ⟨rfl, rfl⟩) | fail)
              exact ⟨⟨i + 1, by omega, by simp, S1⟩, by simp [intOf]; omega⟩
            | true =>
              rw [e] at HX
              have hl := kids_len HS.out.inv HS.out.hm i
              have HC := Lib.hid (HS.out.children i)
              obtain ⟨zs, hz⟩ : ∃ zs, kids L (i : Int) = zs := ⟨_, rfl⟩
              have hz2 : chl L (i : Int) = zs := by rw [← hz]; unfold kids; rw [if_pos e]
              rw [hz] at HC hl
              have HZ := Lib.hid hz
              have HZ2 := Lib.hid hz2
              obtain ⟨N, hN⟩ : ∃ N, zs.length = N := ⟨_, rfl⟩
              have HN := Lib.hid hN
              rw [hN] at HC hl
              have HE := Lib.hid e
              have HQ := Lib.hid hqn
              have HQR := Lib.hid hqr
              have hiq : (i : Int) ≠ q := fun e2 => by rw [e2, hqn] at e; cases e
              have HIQ := Lib.hid hiq
              clear e hz hz2 hN hqn hqr hiq
              go_wp2_with fail
              (with_reducible refine HX.out.mono ?_)
              rintro e w1 ⟨rfl, rfl⟩
              go_wp2_with fail
              (with_reducible refine HC.out.mono ?_)
              rintro e w2 ⟨A, c, rfl, o2, b2, f2⟩
              have S2 : Hid (Solo w w2 p g k L (fun b => (Value.slice A N c).ownBlock = some b)) := (HS.out.free (fun b hb => .inr (.inl (f2 b hb)))).below b2
              have O2 := Lib.hid o2
              have XL2 : Hid (∀ b, (Value.slice A N c).ownBlock = some b → b < w2.heap.size) := fun b hb => own_lt o2 b hb
              clear o2 b2 f2 HX HC HS
              have HX := Lib.hid (S2.out.child XL2.out i q)
              rw [(child_yes HQR.out HE.out HQ.out).1, (child_yes HQR.out HE.out HQ.out).2] at HX
              have E1 : Hid (has (L ++ [((q : Int), (i : Int))]) q = true) := by show _ = _; rw [has_app]; simp
              have E2 : Hid (has (L ++ [((q : Int), (i : Int))]) i = true) := by show _ = _; rw [has_app, HE.out]; rfl
              have E3 : Hid (chl (L ++ [((q : Int), (i : Int))]) i = zs ++ [(q : Int)]) := by show _ = _; rw [chl_app, if_pos rfl, HZ2.out]
              have E4 : Hid (chl (L ++ [((q : Int), (i : Int))]) q = []) := by show _ = _; rw [chl_app, if_neg HIQ.out, HI.out.chl_no HQ.out (by omega)]; rfl
              have E5 : Hid (cut (L ++ [((q : Int), (i : Int))]) q = L) := cut_app HQ.out
              obtain ⟨L1, hL1⟩ : ∃ L1, L ++ [((q : Int), (i : Int))] = L1 := ⟨_, rfl⟩
              rw [hL1] at HX E1 E2 E3 E4 E5
              clear hL1
              go_wp2_with fail
              (with_reducible refine HX.out.mono ?_)
              rintro e w3 ⟨rfl, s3, k3⟩
              have S3 := Lib.hid s3
              have O3 := Lib.hid (own_kept O2.out k3 (fun b hb e => e.2 hb))
              have XL3 : Hid (∀ b, (Value.slice A N c).ownBlock = some b → b < w3.heap.size) := fun b hb => own_lt O3.out b hb
              clear s3 k3 HX S2 O2 XL2
              have HX := Lib.hid (S3.out.root XL3.out q)
              rw [(root_there HQR.out E1.out).1, (root_there HQR.out E1.out).2] at HX
              go_wp2_with (first | (go_at_call 8; (refine (num_any _ _).mono ?_); rintro e w9 ⟨rfl, rfl⟩) | fail)
              (with_reducible refine HX.out.mono ?_)
              rintro e w4 ⟨rfl, s3, k3⟩
              have S4 := Lib.hid s3
              have O4 := Lib.hid (own_kept O3.out k3 (fun b hb e => e.2 hb))
              have XL4 : Hid (∀ b, (Value.slice A N c).ownBlock = some b → b < w4.heap.size) := fun b hb => own_lt O4.out b hb
              clear s3 k3 HX S3 O3 XL3
              have HX := Lib.hid (S4.out.child XL4.out i q)
              rw [(child_there HQR.out E2.out E1.out).1, (child_there HQR.out E2.out E1.out).2] at HX
              go_wp2_with (first | (go_at_call 8; (refine (num_any _ _).mono ?_); rintro e w9 ⟨rfl, rfl⟩) | fail)
              (with_reducible refine HX.out.mono ?_)
              rintro e w5 ⟨rfl, s3, k3⟩
              have S5 := Lib.hid s3
              have O5 := Lib.hid (own_kept O4.out k3 (fun b hb e => e.2 hb))
              clear s3 k3 HX S4 O4 XL4
              have HX := Lib.hid (S5.out.children i)
              rw [show kids L1 (i : Int) = zs ++ [(q : Int)] by unfold kids; rw [if_pos E2.out, E3.out], show (zs ++ [(q : Int)]).length = N + 1 by rw [List.length_append, HN.out]; rfl] at HX
              go_wp2_with (first | (go_at_call 8; (refine (num_any _ _).mono ?_); rintro e w9 ⟨rfl, rfl⟩) | fail)
              (with_reducible refine HX.out.mono ?_)
              rintro e w6 ⟨A6, c6, rfl, o6, b6, f6⟩
              have S6 := Lib.hid (S5.out.below b6)
              have O6 := Lib.hid (own_keeps O5.out (Kept.of_below b6))
              have P6 := Lib.hid o6
              clear o6 b6 f6 HX S5 O5
              have HX := Lib.hid (copied_any w6 _ N zs O6.out (by omega))
              go_wp2_with fail
              (with_reducible refine HX.out.mono ?_)
              rintro e w7 ⟨A7, c7, rfl, o7, b7, f7⟩
              have S7 := Lib.hid ((S6.out.free (Y := fun b => (Value.slice A N c).ownBlock = some b ∨ (Value.slice A7 N c7).ownBlock = some b) (fun b hb => by rcases hb with e | e; exact .inl e; exact .inr (.inl (f7 b e)))).below b7)
              have O7 := Lib.hid (own_keeps O6.out (Kept.of_below b7))
              have P7 := Lib.hid (own_keeps P6.out (Kept.of_below b7))
              have Q7 := Lib.hid o7
              have FO : Hid (∀ b, (Value.slice A7 N c7).ownBlock = some b → ¬ (Value.slice A N c).ownBlock = some b) := fun b hb e => by have h1 := f7 b hb; have h2 := own_lt O6.out b e; omega
              have FP : Hid (∀ b, (Value.slice A7 N c7).ownBlock = some b → ¬ (Value.slice A6 (N + 1) c6).ownBlock = some b) := fun b hb e => by have h1 := f7 b hb; have h2 := own_lt P6.out b e; omega
              have LW : Hid (∀ b, (Value.slice A7 N c7).ownBlock = some b → w.heap.size ≤ b) := fun b hb => Nat.le_trans S6.out.2.size (f7 b hb)
              clear o7 b7 f7 HX O6 P6 S6
              go_wp2_with (at_builtin; refine list_app2 rfl (.tmp 68) (.tmp 70) 41 rfl 3 0 _ 1 8 Try.underlying41 info_int rfl (by decide) (by decide) (.slice A7 N c7) N _ rfl (own_keeps Q7.out ((Kept.refl _ _).alloc _)) (some ⟨w7.heap.size, 0, none⟩) 1 1 [.int .i64 q] rfl rfl (holds_new _ _ _ _ _ rfl) (by simp [Value.oneCell']) (by omega) (Nat.zero_le _) ?_; intro v8 w8 hown8 hwent8; (obtain ⟨A8, c8, rfl, _⟩ := own_slice hown8); have K8 : Hid (Kept (fun b => (Value.slice A7 N c7).ownBlock = some b) w7 w8) := ((Kept.refl _ w7).alloc _).trans hwent8.kept (fun b hb => .inl hb); have Q8 := Lib.hid hown8; clear hown8 hwent8)
              have S8 : Hid (Solo w w8 p g k L1 (fun b => (Value.slice A N c).ownBlock = some b)) := (S7.out.kept K8.out (fun b hb => .inl (.inr hb)) LW.out).free (fun b hb => .inl (.inl hb))
              have O8 := Lib.hid (own_kept O7.out K8.out (fun b hb e => FO.out b e hb))
              have P8 := Lib.hid (own_kept P7.out K8.out (fun b hb e => FP.out b e hb))
              have NS := Lib.hid (numbers_same w8 _ _ (zs ++ [(q : Int)]) (reads_own (n := N + 1) (by rw [List.length_append, HN.out, List.length_singleton]) P8.out) (reads_own (n := N + 1) (by rw [List.length_append, HN.out, List.length_singleton]) (by rw [List.map_append]; exact Q8.out)))
              clear S7 O7 P7 Q7 FO FP LW K8 P8 Q8
              (with_reducible refine NS.out.mono ?_)
              rintro e w9 ⟨rfl, b9⟩
              have S9 := Lib.hid (S8.out.below b9)
              have O9 := Lib.hid (own_keeps O8.out (Kept.of_below b9))
              have XL9 : Hid (∀ b, (Value.slice A N c).ownBlock = some b → b < w9.heap.size) := fun b hb => own_lt O9.out b hb
              clear b9 NS S8 O8
              have HX := Lib.hid (S9.out.cut XL9.out i)
              rw [(cut_full E2.out (by rw [E3.out]; simp)).1, (cut_full E2.out (by rw [E3.out]; simp)).2] at HX
              go_wp2_with fail
              (with_reducible refine HX.out.mono ?_)
              rintro e wa ⟨rfl, s3, k3⟩
              have SA := Lib.hid s3
              have OA := Lib.hid (own_kept O9.out k3 (fun b hb e => e.2 hb))
              have XLA : Hid (∀ b, (Value.slice A N c).ownBlock = some b → b < wa.heap.size) := fun b hb => own_lt OA.out b hb
              clear s3 k3 HX S9 O9 XL9
              have HX := Lib.hid (SA.out.cut XLA.out q)
              rw [(cut_leaf E1.out E4.out).1, (cut_leaf E1.out E4.out).2, E5.out] at HX
              go_wp2_with (first | (go_at_call 8; (refine (num_any _ _).mono ?_); rintro e w9 ⟨rfl, rfl⟩) | fail)
              (with_reducible refine HX.out.mono ?_)
              rintro e wb ⟨rfl, s3, k3⟩
              have SB := Lib.hid s3
              have OB := Lib.hid (own_kept OA.out k3 (fun b hb e => e.2 hb))
              clear s3 k3 HX SA OA XLA
              have HX := Lib.hid (SB.out.children i)
              rw [HZ.out, HN.out] at HX
              go_wp2_with (first | (go_at_call 8; (refine (num_any _ _).mono ?_); rintro e w9 ⟨rfl, rfl⟩) | fail)
              (with_reducible refine HX.out.mono ?_)
              rintro e wc ⟨AC, cC, rfl, oc, bc, _⟩
              have SC := Lib.hid (SB.out.below bc)
              have NS := Lib.hid (numbers_same wc _ _ zs (reads_own HN.out oc) (reads_own HN.out (own_keeps OB.out (Kept.of_below bc))))
              clear oc bc HX SB OB
              go_wp2_with fail
              (with_reducible refine NS.out.mono ?_)
              rintro e wd ⟨rfl, bd⟩
              have SD : Hid (Solo w wd p g k L (fun _ => False)) := (SC.out.below bd).free (fun _ h => h.elim)
              clear bd NS SC E1 E2 E3 E4 E5
              go_wp2_with fail
              exact ⟨⟨i + 1, by omega, by simp, SD⟩, by simp [intOf]; omega⟩
        · have : i = k := by omega
          subst this
          generalize i = m at *
          have HX := Lib.hid (HS.out.root (fun _ h => h.elim) (m : Int))
          rw [(root_no (L := L) (inR_top m)).1, (root_no (L := L) (inR_top m)).2] at HX
          go_wp2_with (first | (go_at_call 8; (refine (num_any _ _).mono ?_); rintro e w9 ⟨rfl, rfl⟩) | fail)
          (with_reducible refine HX.out.mono ?_)
          rintro e wa ⟨rfl, sa, _⟩
          have SA := Lib.hid sa
          clear sa HX HS
          have HX := Lib.hid (SA.out.root (fun _ h => h.elim) (-1))
          rw [(root_no (L := L) (inR_neg m)).1, (root_no (L := L) (inR_neg m)).2] at HX
          go_wp2_with (first | (go_at_call 8; (refine (num_any _ _).mono ?_); rintro e w9 ⟨rfl, rfl⟩) | fail)
          (with_reducible refine HX.out.mono ?_)
          rintro e wb ⟨rfl, sb, _⟩
          have SB := Lib.hid sb
          clear sb HX SA
          have HX := Lib.hid (SB.out.cut (fun _ h => h.elim) (m : Int))
          rw [(cut_no HTOP.out).1, (cut_no HTOP.out).2] at HX
          go_wp2_with (first | (go_at_call 8; (refine (num_any _ _).mono ?_); rintro e w9 ⟨rfl, rfl⟩) | fail)
          (with_reducible refine HX.out.mono ?_)
          rintro e wc ⟨rfl, sc, _⟩
          have SC := Lib.hid sc
          clear sc HX SB
          by_cases hn1 : n < (m : Int)
          · by_cases hn0 : 0 ≤ n
            · go_wp2_with (first | (go_at_call 8; (refine (num_any _ _).mono ?_); rintro e w9 ⟨rfl, rfl⟩) | fail)
              go_ret
              exact ⟨rfl, SC.out.2⟩
            · have HX := Lib.hid (SC.out.cut (fun _ h => h.elim) n)
              rw [(cut_no (HOUT.out n (fun e => hn0 e.1))).1] at HX
              have hn0x : n < 0 := by omega
              go_wp2_with (first | (go_at_call 8; (refine (num_any _ _).mono ?_); rintro e w9 ⟨rfl, rfl⟩) | fail)
              (with_reducible refine HX.out.mono ?_)
              rintro e wd ⟨rfl, sd, _⟩
              have SD := Lib.hid sd
              clear sd HX
              go_wp2_with (first | (go_at_call 8; (refine (num_any _ _).mono ?_); rintro e w9 ⟨rfl, rfl⟩) | fail)
              go_ret
              exact ⟨rfl, SD.out.2⟩
          · have HX := Lib.hid (SC.out.cut (fun _ h => h.elim) n)
            rw [(cut_no (HOUT.out n (fun e => hn1 e.2))).1] at HX
            have hn1x : (m : Int) ≤ n := by omega
            go_wp2_with (first | (go_at_call 8; (refine (num_any _ _).mono ?_); rintro e w9 ⟨rfl, rfl⟩) | fail)
            (with_reducible refine HX.out.mono ?_)
            rintro e wd ⟨rfl, sd, _⟩
            have SD := Lib.hid sd
            clear sd HX
            go_wp2_with (first | (go_at_call 8; (refine (num_any _ _).mono ?_); rintro e w9 ⟨rfl, rfl⟩) | fail)
            go_ret
            exact ⟨rfl, SD.out.2⟩
end Go.Proofs.Ythemibhajlgcdaa.Kin

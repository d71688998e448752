/- WalkKeeps: the walk. Own text; Ytkmmpagflbnenaa and the numbers between @..@ are the seat's. -/
import Derived.Test.YtkmmpagflbnenaaWcA
namespace Go.Proofs.Ytkmmpagflbnenaa.Kin
open Go.RowKit Go.Proofs.Ytkmmpagflbnenaa.Mem
set_option linter.unusedVariables false
set_option maxHeartbeats 8000000 in
set_option maxRecDepth 100000 in
theorem law_keeps (w : World) (n0 n : Int) :
    Calls Try.prog 6 #[.int .i64 n0, .int .i64 n] w fun e w' => e = .returned (.bool true) ∧ Below w.heap.size w w' := by
  have e1 : n0.tmod 1024 < 1024 := Int.tmod_lt_of_pos n0 (by decide)
  have e2 : -1024 < n0.tmod 1024 := Int.lt_tmod_of_pos n0 (by decide)
  obtain ⟨R, hR⟩ : ∃ R, n0.tmod 1024 = R := ⟨_, rfl⟩
  have hw : IntKind.i64.wrap (n0.tmod 1024) = R := by rw [hR]; exact IntWalk.i64_in _ (by omega)
  rw [hR] at e1 e2
  obtain ⟨m0, hm0⟩ : ∃ m : Nat, R % 1024 = m := ⟨(R % 1024).toNat, by omega⟩
  obtain ⟨m, hm⟩ : ∃ m : Nat, (1 : Int) + m0 = m := ⟨1 + m0, by omega⟩
  have hm1 : 0 < m := by omega
  have hm2 : m ≤ 1024 := by omega
  have HX := Lib.hid (new_in w m hm2)
  go_enter Try.func6, Try.ntmps6
  go_wp2_with fail
  (with_reducible refine HX.out.mono ?_)
  rintro e w1 ⟨p, g, rfl, b1, k1⟩
  have S := Lib.hid (solo_new k1 b1)
  clear HX b1 k1 hw hR hm hm0 e1 e2
  have HNum := Lib.hid (fun w => num_any w 0)
  have HA := Lib.hid (alive_any w1)
  go_wp2_with fail
  (with_reducible refine (HNum.out w1).mono ?_)
  rintro e w2 ⟨rfl, rfl⟩
  go_wp2_with fail
  (with_reducible refine HA.out.mono ?_)
  rintro e w2 ⟨rfl, b2⟩
  replace S := Lib.hid (S.out.below b2)
  clear HA b2
  have HR := Lib.hid (S.out.root (fun b e => e.elim) 0)
  rw [(chain_root m hm1).1, (chain_root m hm1).2] at HR
  go_wp2_with fail
  (with_reducible refine HR.out.mono ?_)
  rintro e w3 ⟨rfl, s3, k3⟩
  have HS := Lib.hid s3
  clear s3 k3 HR S
  go_wp2_with fail
  (with_reducible refine (HNum.out w3).mono ?_)
  rintro e w2 ⟨rfl, rfl⟩
  go_wp2_with fail
  go_loopw [9] (fun v9 wr => ∃ i : Nat, 0 < i ∧ i ≤ m ∧ v9 = .int .i64 i ∧ Hid (Solo w wr p g m (chain i) (fun _ => False))) (fun v9 _ => m - (intOf v9).toNat)
  case atStart => exact ⟨1, by omega, by omega, rfl, HS⟩
  case round =>
    clear HS
    obtain ⟨i, hi0, hi, rfl, HS⟩ := hrel
    by_cases hlt : i < m
    · have HC := Lib.hid (HS.out.child (fun b e => e.elim) ((i : Int) - 1) i)
      rw [(chain_child m i hi0 hlt).1, (chain_child m i hi0 hlt).2] at HC
      go_wp2_with fail
      (with_reducible refine HC.out.mono ?_)
      rintro e w4 ⟨rfl, s4, k4⟩
      have HS4 := Lib.hid s4
      clear s4 k4 HC HS
      go_wp2_with fail
      (with_reducible refine (HNum.out w4).mono ?_)
      rintro e w5 ⟨rfl, rfl⟩
      go_wp2_with fail
      exact ⟨⟨i + 1, by omega, by omega, by simp, HS4⟩, by simp [intOf]; omega⟩
    · have : m = i := by omega
      rw [← this] at HS
      have hmi : ¬ (i : Int) < m := by omega
      clear this hlt
      go_wp2_with fail
      have I := Lib.hid HS.out.inv
      go_loopw [8, 10] (fun v8 v10 wr => ∃ (j : Nat) (z : Int) (A : Option Addr) (c : Nat), j ≤ m ∧ z = (m : Int) - 1 - j ∧ v8 = .slice A j c ∧ v10 = .int .i64 z ∧ Hid (Solo w wr p g m (chain m) (fun b => (Value.slice A j c).ownBlock = some b)) ∧ Hid (wr.ownsRow 0 3 1 (.slice A j c) j ((wl m j).map i64)) ∧ Hid (∀ b, (Value.slice A j c).ownBlock = some b → w.heap.size ≤ b)) (fun _ v10 _ => (intOf v10 + 1).toNat)
      case atStart => exact ⟨0, (m : Int) - 1, none, 0, Nat.zero_le _, by omega, rfl, rfl, HS.out.free (fun b e => by simp [Value.ownBlock] at e), World.ownsRow_nil _ _ _ _, fun b e => by simp [Value.ownBlock] at e⟩
      case round =>
        clear HS
        obtain ⟨j, z, A, c, hj, hz, rfl, rfl, HS, HO, HB⟩ := hrel
        by_cases hjm : j < m
        · have hz0 : 0 ≤ z := by omega
          have hz1 : z < 1024 := by omega
          have HZ := Lib.hid hz
          clear hz
          go_wp2_with (first | (at_builtin; refine list_app2 rfl (.tmp 62) (.tmp 64) 34 rfl 3 0 _ 1 8 Try.underlying34 info_int rfl (by decide) (by decide) (.slice A j c) j _ rfl (own_keeps HO.out ((Kept.refl _ _).alloc _)) (some ⟨wr.heap.size, 0, none⟩) 1 1 [i64 z] rfl rfl (holds_new _ _ _ _ _ rfl) (by simp [Value.oneCell', i64]) (by omega) (Nat.zero_le _) ?_; intro v9 w9 hown9 hwent9; (obtain ⟨A9, c9, rfl, _⟩ := own_slice hown9); have O9 := Lib.hid hown9; have W9 := Lib.hid hwent9; clear hown9 hwent9))
          have S9 : Hid (Solo w w9 p g m (chain m) (fun b => (Value.slice A9 (j + 1) c9).ownBlock = some b)) := by
            have h1 := HS.out.free (Y := fun b => (Value.slice A j c).ownBlock = some b ∨ wr.heap.size ≤ b) (fun b e => by rcases e with e | e; exact .inl e; exact .inr (.inl e))
            refine (h1.kept (((Kept.refl _ wr).alloc _).trans W9.out.kept (fun b hb => .inl hb)) (fun b e => .inl (.inl e)) (fun b e => HB.out b e)).free (fun b e => .inl ?_)
            rcases W9.out.block with e2 | e2
            · exact .inl (e2 ▸ e)
            · have h2 := Option.some.inj (e2.symm.trans e)
              simp at h2
              exact .inr (by omega)
          have HB9 : Hid (∀ b, (Value.slice A9 (j + 1) c9).ownBlock = some b → w.heap.size ≤ b) := fun b e => by
            rcases W9.out.block with e2 | e2
            · exact HB.out b (e2 ▸ e)
            · have h2 := Option.some.inj (e2.symm.trans e)
              have h3 := HS.out.2.size
              simp at h2
              omega
          have hO9 : Hid (w9.ownsRow 0 3 1 (.slice A9 (j + 1) c9) (j + 1) ((wl m (j + 1)).map i64)) := by
            rw [wl_next, ← HZ.out, List.map_append]
            exact O9.out
          clear HS HO HB W9 O9
          go_wp2_with fail
          exact ⟨⟨j + 1, z - 1, A9, c9, by omega, by have := HZ.out; omega, rfl, rfl, S9, hO9, HB9⟩, by simp [intOf]; omega⟩
        · have : m = j := by omega
          subst this
          have hz0 : ¬ 0 ≤ z := by omega
          have e3 : n.tmod m < m := Int.tmod_lt_of_pos n (by omega)
          have e4 : -(m : Int) < n.tmod m := Int.lt_tmod_of_pos n (by omega)
          obtain ⟨R2, hR2⟩ : ∃ R, n.tmod m = R := ⟨_, rfl⟩
          have hw2 : IntKind.i64.wrap (n.tmod m) = R2 := by rw [hR2]; exact IntWalk.i64_in _ (by omega)
          rw [hR2] at e3 e4
          obtain ⟨k, hk⟩ : ∃ k : Nat, (R2 + m).tmod m = k := ⟨((R2 + m).tmod m).toNat, by have := Int.tmod_nonneg (m : Int) (show 0 ≤ R2 + m by omega); omega⟩
          have hkm : k < m := by have := Int.tmod_lt_of_pos (R2 + m) (show (0:Int) < m by omega); omega
          have hw3 : IntKind.i64.wrap ((R2 + m).tmod m) = k := by rw [hk]; exact IntWalk.i64_in _ (by omega)
          have hmz : (m : Int) ≠ 0 := by omega
          clear hz
          go_wp2_with fail
          have F0 : fall (chain m) 0 = wl m m := chain_fall I.out m 0 (by omega) hm1
          obtain ⟨j, hj2⟩ : ∃ j : Nat, m - k = j := ⟨_, rfl⟩
          have hjm : j ≤ m := by omega
          have hj0 : 0 < j := by omega
          have hjk : (m : Int) - k = j := by omega
          have Fk : fall (chain m) k = wl m j := chain_fall I.out j k (by omega) hj0
          have Um : upl (chain m) ((m : Int) - 1) = wl m m := by
            have := chain_up I.out (m - 1) (by omega)
            rw [show ((m - 1 : Nat) : Int) = (m : Int) - 1 by omega, show m - 1 + 1 = m by omega] at this
            exact this
          have U0 : upl (chain m) 0 = [0] := chain_up I.out 0 hm1
          have F0' := Lib.hid F0
          have Fk' := Lib.hid Fk
          have Um' := Lib.hid Um
          have U0' := Lib.hid U0
          have HJ := Lib.hid hj2
          have HL := Lib.hid (wl_len m m)
          clear F0 Fk Um U0 hj2 hw2 hw3 hk hR2 e3 e4 hz0
          have HX := Lib.hid (HS.out.fall 0)
          rw [F0'.out, wl_len] at HX
          obtain ⟨l, hl⟩ : ∃ l, wl m m = l := ⟨_, rfl⟩
          have hlt : wl m j = l.take j := by rw [← hl, wl_take m m j hjm]
          have HT := Lib.hid hlt
          have HW := Lib.hid hl
          rw [hl] at HX HL
          rw [hl] at HO
          clear hl hlt
          (with_reducible refine HX.out.mono ?_)
          rintro e w6 ⟨Aa, ca, rfl, oa, ba, fa⟩
          have OA := Lib.hid oa
          have BA := Lib.hid ba
          have FA := Lib.hid fa
          have S6 := Lib.hid (HS.out.below ba)
          clear oa ba fa HX
          have HX := Lib.hid (S6.out.fall k)
          rw [Fk'.out, wl_len, HT.out] at HX
          go_wp2_with fail
          (with_reducible refine HX.out.mono ?_)
          rintro e w7 ⟨Ab, cb, rfl, ob, bb, fb⟩
          have OB := Lib.hid ob
          have BB := Lib.hid bb
          have FB := Lib.hid fb
          have S7 := Lib.hid (S6.out.below bb)
          clear ob bb fb HX
          have HX := Lib.hid (S7.out.fall 0)
          rw [F0'.out, HW.out, HL.out] at HX
          go_wp2_with fail
          (with_reducible refine HX.out.mono ?_)
          rintro e w8 ⟨Ac, cc, rfl, oc, bc, fc⟩
          have OC := Lib.hid oc
          have BC := Lib.hid bc
          have FC := Lib.hid fc
          clear oc bc fc HX
          obtain ⟨g1, rfl⟩ := own_block HO.out hm1
          have hcap := own_cap HO.out
          have hjc : (j : Int) ≤ c := by omega
          have AP := Lib.hid (apart3 wr w6 w7 w8 m j l HL.out hm2 hm1 hjm (some ⟨g1, 0, none⟩) Aa Ab Ac c ca cb cc HO.out OA.out BA.out FA.out OB.out BB.out FB.out OC.out BC.out FC.out)
          go_wp2_with fail
          (with_reducible refine AP.out.mono ?_)
          rintro e w9 ⟨rfl, b9⟩
          have S9 := Lib.hid (HS.out.below b9)
          have O9 := Lib.hid (own_keeps HO.out (Kept.of_below b9))
          clear AP OA OB OC BA BB BC FA FB FC b9 HO S6 S7 hcap hjc hjk
          have HX := Lib.hid (S9.out.ups ((m : Int) - 1))
          rw [Um'.out, HW.out, HL.out] at HX
          go_wp2_with fail
          (with_reducible refine HX.out.mono ?_)
          rintro e x1 ⟨A1, c1, rfl, o1, b1, f1⟩
          have T1 := Lib.hid (S9.out.below b1)
          have P1 := Lib.hid (own_keeps O9.out (Kept.of_below b1))
          have NS := Lib.hid (numbers_same x1 _ _ l (reads_own HL.out o1) (reads_own HL.out P1.out))
          clear o1 b1 f1 HX O9 S9
          go_wp2_with fail
          (with_reducible refine NS.out.mono ?_)
          rintro e x2 ⟨rfl, b2⟩
          have T2 := Lib.hid (T1.out.below b2)
          have P2 := Lib.hid (own_keeps P1.out (Kept.of_below b2))
          have HX := Lib.hid (T2.out.fall 0)
          rw [F0'.out, HW.out, HL.out] at HX
          clear NS b2 T1 P1
          go_wp2_with fail
          (with_reducible refine HX.out.mono ?_)
          rintro e x3 ⟨A3, c3, rfl, o3, b3, f3⟩
          have T3 := Lib.hid (T2.out.below b3)
          have P3 := Lib.hid (own_keeps P2.out (Kept.of_below b3))
          have NS := Lib.hid (numbers_same x3 _ _ l (reads_own HL.out o3) (reads_own HL.out P3.out))
          clear o3 b3 f3 HX T2 P2
          go_wp2_with fail
          (with_reducible refine NS.out.mono ?_)
          rintro e x4 ⟨rfl, b4⟩
          have T4 := Lib.hid (T3.out.below b4)
          have HX := Lib.hid (T4.out.under 0 ((m : Int) - 1))
          rw [Um'.out, decide_eq_true (wl_mem.2 ⟨m - 1, by omega, by omega⟩)] at HX
          clear NS b4 T3 P3
          go_wp2_with fail
          (with_reducible refine HX.out.mono ?_)
          rintro e x5 ⟨rfl, b5⟩
          have T5 := Lib.hid (T4.out.below b5)
          clear b5 T4 HX
          by_cases h1 : m = 1
          · have h1' : ((m : Int) == 1) = true := by simp [h1]
            clear h1
            go_wp2_with fail
            go_ret
            exact ⟨rfl, T5.out.2⟩
          · have h1' : ((m : Int) == 1) = false := by simp; omega
            have HX := Lib.hid (T5.out.under ((m : Int) - 1) 0)
            rw [U0'.out, decide_eq_false (show ¬ (m : Int) - 1 ∈ [(0 : Int)] by rw [List.mem_singleton]; omega)] at HX
            clear h1
            go_wp2_with fail
            (with_reducible refine HX.out.mono ?_)
            rintro e x6 ⟨rfl, b6⟩
            have T6 := Lib.hid (T5.out.below b6)
            clear b6 T5 HX
            go_wp2_with fail
            go_ret
            exact ⟨rfl, T6.out.2⟩
end Go.Proofs.Ytkmmpagflbnenaa.Kin

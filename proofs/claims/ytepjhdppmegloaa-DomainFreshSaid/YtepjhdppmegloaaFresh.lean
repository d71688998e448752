/- DomainFresh: the walk. -/
import Derived.Test.YtepjhdppmegloaaFresh0
import Derived.StillTailTactics
import Derived.Deep.CutBlock
import Derived.Deep.DeepCutAuto
namespace Go.Proofs.Ytepjhdppmegloaa.Caps
open Go.RowKit Go.Proofs.Ytepjhdppmegloaa.Mem
theorem intoI_has (z : Int) (m : List Cap) (hm : 0 < m.length) : hasB m (intoI z m.length) = true := by
  unfold hasB
  have h1 := intoI_lo z (top := (m.length : Int)) (by omega)
  have h2 := intoI_hi z (top := (m.length : Int)) (by omega)
  simp [h1, h2]
set_option maxHeartbeats 4000000 in
set_option maxRecDepth 100000 in
theorem law_fresh (w : World) (v1 v2 : Value) (ls : List Cap) (ps : List Int) (h1 : ReadsCaps w v1 ls) (h2 : ReadsInts w v2 ps) : Calls Try.prog 5 #[v1, v2] w fun e w' => e = .returned (.bool true) ∧ Below w.heap.size w w' := by
  obtain ⟨A1, c1, rfl, m1, f1⟩ := h1.form
  obtain ⟨A2, c2, rfl, m2, f2⟩ := h2.form
  obtain ⟨n1, e1⟩ : ∃ n, ls.length = n := ⟨_, rfl⟩
  obtain ⟨n2, e2⟩ : ∃ n, ps.length = n := ⟨_, rfl⟩
  have HL := Lib.hid f1
  have HR := Lib.hid f2
  rw [e1] at HL m1 ⊢
  rw [e2] at HR m2 ⊢
  unfold maxLen at m1 m2
  have E1 := Lib.hid e1
  have E2 := Lib.hid e2
  clear f1 f2 e1 e2 h1 h2
  have HM := Lib.hid (show mostOk 32 = true by decide)
  go_enter Try.func5, Try.ntmps5
  go_wp2_with (first | (go_at_call 6; (with_reducible refine (new_on _ _ HM.out).mono ?_); rintro e w1 ⟨rfl, rfl⟩) | (go_at_call 8; (with_reducible refine (known_any _).mono ?_); rintro e w5 ⟨rfl, b5⟩; have HA := Lib.hid (adds_start b5); clear b5))
  (with_reducible refine (adds_add HA.out ⟨3, 0, 0⟩ (by decide)).mono ?_)
  rintro e w6 ⟨rfl, HA6⟩
  replace HA := Lib.hid HA6
  clear HA6
  go_wp2_with fail
  (with_reducible refine (adds_add HA.out ⟨4, 0, 0⟩ (by decide)).mono ?_)
  rintro e w7 ⟨rfl, HA7⟩
  replace HA := Lib.hid HA7
  clear HA7
  go_upto_block 0 with fail
  go_cut [9] (fun v9 wr => ∃ l : List Cap, 2 ≤ l.length ∧ l.length ≤ 32 ∧ Hid (Adds w l wr))
  case first =>
    go_wp2_with fail
    go_loopw [9] (fun v9 wr => ∃ (i : Nat) (l : List Cap), i ≤ n1 ∧ i ≤ 30 ∧ v9 = .int .i64 i ∧ 2 ≤ l.length ∧ l.length ≤ 2 + i ∧ Hid (Adds w l wr)) (fun vi _ => n1 - (intOf vi).toNat)
    case atStart => exact ⟨0, _, Nat.zero_le _, Nat.zero_le _, rfl, by simp, by simp, HA⟩
    case round =>
      clear HA
      obtain ⟨i, l, hi, hi30, rfl, hl2, hli, HA⟩ := hrel
      by_cases hlt : i < n1 ∧ i < 30
      · obtain ⟨hlt, hlt30⟩ := hlt
        obtain ⟨x, hx⟩ : ∃ x, ls[i]? = some x := ⟨_, List.getElem?_eq_getElem (by rw [E1.out]; exact hlt)⟩
        obtain ⟨g, o, rfl, hcA⟩ := HL.out (by omega)
        obtain ⟨k0, k1, k2⟩ := hcA i x hx
        have up : ∀ (q : Addr) (u : Value), w.cell? q = some u → wr.cell? q = some u := fun q u hq => (HA.out.2.2.cell (World.block_lt_of_cell? w q hq)).trans hq
        replace k0 := up _ _ k0
        replace k1 := up _ _ k1
        replace k2 := up _ _ k2
        clear up hx hcA
        have HB := Lib.hid (adds_add HA.out x (by omega))
        go_wp2_with (go_at_call 11; (with_reducible refine HB.out.mono ?_); rintro e w8 ⟨rfl, F8⟩; have HF8 := Lib.hid F8; clear F8)
        exact ⟨⟨i + 1, l ++ [x], by omega, by omega, by simp, by simp; omega, by simp; omega, HF8⟩, by simp [intOf]; omega⟩
      · have hend : i = n1 ∨ (i < n1 ∧ i = 30) := by omega
        clear hlt
        rcases hend with rfl | ⟨hlt, rfl⟩
        · go_wp2
          go_meet
          exact ⟨l, hl2, by omega, HA⟩
        · go_wp2
          go_meet
          exact ⟨l, hl2, by omega, HA⟩
  case rest =>
    clear HA
    obtain ⟨m, hm2, hm32, HA⟩ := hcut
    obtain ⟨w3, rfl⟩ : ∃ x, x = wc := ⟨wc, rfl⟩
    go_upto_block 2 with (go_at_call 13; (with_reducible refine (adds_len HA.out).mono ?_); rintro e w8 ⟨rfl, rfl⟩)
    obtain ⟨n, hn⟩ : ∃ n, m.length = n := ⟨_, rfl⟩
    have HN := Lib.hid hn
    have HI : Hid (∀ (w : World) (z : Int), Calls Try.prog 10 #[.int .i64 z, .int .i64 n] w fun e w' => e = .returned (.int .i64 (intoI z n)) ∧ w = w') := fun w z => into_any w z n (by omega) (by omega)
    rw [hn] at hm2 hm32 ⊢
    clear hn
    go_cut [11] (fun v11 wr => ∃ (i : Nat) (A : Option Addr) (c : Nat) (zs : List Int), v11 = .slice A i c ∧ i ≤ 32 ∧ Hid (zs.length = i) ∧ Hid (∀ z ∈ zs, hasB m z = true) ∧ Hid (wr.ownsRow 0 3 1 (.slice A i c) i (zs.map (Value.int .i64))) ∧ Hid (Below w3.heap.size w3 wr) ∧ Hid (Fresh w3 (.slice A i c)))
    case first =>
      go_wp2_with fail
      go_loopw [11, 12] (fun v11 v12 wr => ∃ (i : Nat) (A : Option Addr) (c : Nat) (zs : List Int), i ≤ n2 ∧ i ≤ 32 ∧ v12 = .int .i64 i ∧ v11 = .slice A i c ∧ Hid (zs.length = i) ∧ Hid (∀ z ∈ zs, hasB m z = true) ∧ Hid (wr.ownsRow 0 3 1 (.slice A i c) i (zs.map (Value.int .i64))) ∧ Hid (Below w3.heap.size w3 wr) ∧ Hid (Fresh w3 (.slice A i c))) (fun _ vi _ => n2 - (intOf vi).toNat)
      case atStart => exact ⟨0, none, 0, [], Nat.zero_le _, Nat.zero_le _, rfl, rfl, rfl, (fun z hz => by cases hz), World.ownsRow_nil _ _ _ _, Below.refl _ _, fun k hk => by simp [Value.ownBlock] at hk⟩
      case round =>
        obtain ⟨i, A, c, zs, hi, hi32, rfl, rfl, HZ, HH, HO, HB, HF⟩ := hrel
        by_cases hlt : i < n2 ∧ i < 32
        · obtain ⟨hlt, hlt32⟩ := hlt
          obtain ⟨z, hz⟩ : ∃ z, ps[i]? = some z := ⟨_, List.getElem?_eq_getElem (by rw [E2.out]; exact hlt)⟩
          obtain ⟨g, o, rfl, hcA⟩ := HR.out (by omega)
          have k0 := hcA i z hz
          replace k0 := ((HA.out.2.2.trans (HB.out.mono HA.out.2.2.size)).cell (World.block_lt_of_cell? w _ k0)).trans k0
          have HY : Hid (hasB m (intoI z n) = true) := by
            have := intoI_has z m (by rw [HN.out]; omega)
            rw [HN.out] at this
            exact this
          obtain ⟨y, hy⟩ : ∃ y, intoI z n = y := ⟨_, rfl⟩
          have HIz := Lib.hid (fun w => HI.out w z)
          rw [hy] at HIz HY
          clear hz hcA hy
          go_wp2_with (first | (go_at_call 10; (with_reducible refine (HIz.out _).mono ?_); rintro e w9 ⟨rfl, rfl⟩) | (at_builtin; refine list_app2 rfl (.tmp 86) (.tmp 93) 38 rfl 3 0 _ 1 8 Try.underlying38 info3 rfl (by decide) (by decide) (.slice A i c) i _ rfl (own_keeps HO.out ((Kept.refl _ _).alloc _)) (some ⟨wr.heap.size, 0, none⟩) 1 1 [.int .i64 y] rfl rfl (holds_new _ _ _ _ _ rfl) (by simp [Value.oneCell']) (by omega) (Nat.zero_le _) ?_; intro v9 w9 hown9 hwent9))
          obtain ⟨A9, c9, rfl, _⟩ := own_slice hown9
          have hbel9 : Below w3.heap.size w3 w9 := (HB.out.trans (((Below.refl _ wr).alloc (Nat.le_refl _) _).mono HB.out.size)).trans (hwent9.kept.below (fun k hk => HF.out k hk) (Nat.le_trans HB.out.size (by simp)))
          refine ⟨⟨i + 1, A9, c9, zs ++ [y], by omega, by omega, by simp, rfl, ?_, ?_, ?_, hbel9, ?_⟩, by simp [intOf]; omega⟩
          · show _ = _
            have := HZ.out; simp; omega
          · intro q hq
            rcases List.mem_append.1 hq with h | h
            · exact HH.out q h
            · rw [List.mem_singleton.1 h]; exact HY.out
          · show World.ownsRow _ _ _ _ _ _ _
            simpa using hown9
          · intro k hk
            rcases hwent9.block with h | h
            · exact HF.out k (h ▸ hk)
            · have := Option.some.inj (h.symm.trans hk)
              have h2 := HB.out.size
              simp at this
              omega
        · have hend : i = n2 ∨ (i < n2 ∧ i = 32) := by omega
          clear hlt
          rcases hend with rfl | ⟨hlt, rfl⟩
          · go_wp2
            go_meet
            exact ⟨i, A, c, zs, rfl, by omega, HZ, HH, HO, HB, HF⟩
          · go_wp2
            go_meet
            exact ⟨32, A, c, zs, rfl, by omega, HZ, HH, HO, HB, HF⟩
    case rest =>
      obtain ⟨k, A, c, zs, rfl, hk32, HZ, HH, HO, HB, HF⟩ := hcut
      go_wp2_with (first | (at_builtin; refine list_app2 rfl (.tmp 95) (.tmp 96) 38 rfl 3 0 _ 1 8 Try.underlying38 info3 rfl (by decide) (by decide) (.slice (some ⟨wc.heap.size, 0, none⟩) 0 0) 0 [] rfl (World.ownsRow_made wc #[] 0 (Nat.zero_le _) (Nat.zero_le _) rfl) A k c _ rfl (by rw [List.length_map, HZ.out, Nat.mul_one]) (own_holds (own_keeps HO.out ((Kept.refl _ _).alloc _))) (by simp [Value.oneCell']) (by omega) (Nat.zero_le _) ?_; intro vw w9 hownW hwentW; have HBW := Lib.hid (((Below.refl _ wc).alloc (Nat.le_refl _) (.cells #[] 3)).trans (hwentW.kept.below (B := wc.heap.size) (fun k hk => Nat.le_of_eq (by simpa [Value.ownBlock] using hk)) (by simp))); have HO9 := Lib.hid (own_keeps HO.out (Kept.of_below HBW.out)); have HOW := Lib.hid hownW; have HGW := Lib.hid hwentW.block; clear hownW hwentW) | (at_builtin; refine list_app2 rfl (.tmp 100) (.tmp 101) 38 rfl 3 0 _ 1 8 Try.underlying38 info3 rfl (by decide) (by decide) (.slice A k c) k _ rfl (own_keeps HO9.out ((Kept.refl _ _).alloc _)) (some ⟨w9.heap.size, 0, none⟩) 3 3 [.int .i64 901, .int .i64 902, .int .i64 903] rfl rfl (holds_new _ _ _ _ _ rfl) (by simp [Value.oneCell']) (by omega) (Nat.zero_le _) ?_; intro vr w10 hownR hwentR; obtain ⟨g, c10, cu, rfl, _⟩ := own_form hownR (by omega); obtain ⟨AW, cW, rfl, _⟩ := own_slice HOW.out; have HOR := Lib.hid hownR; have HWR := Lib.hid hwentR; clear hownR hwentR))
      have hbR : Below w3.heap.size w3 w10 := (((HB.out.trans (HBW.out.mono HB.out.size)).trans (((Below.refl _ w9).alloc (Nat.le_refl _) (.cells #[.int .i64 901, .int .i64 902, .int .i64 903] 3)).mono (Nat.le_trans HB.out.size HBW.out.size)))).trans (HWR.out.kept.below (fun b hb => HF.out b hb) (Nat.le_trans (Nat.le_trans HB.out.size HBW.out.size) (by simp)))
      have hgR : w3.heap.size ≤ g := by
        rcases HWR.out.block with h | h
        · exact HF.out g (by rw [← h]; rfl)
        · have h1 : g = _ := Option.some.inj h
          have h2 := HB.out.size
          have h3 := HBW.out.size
          simp at h1
          omega
      have HBS : Hid (Base w m zs g c10 w10) := base_start HA.out hbR (by rw [HZ.out]; simpa using HOR.out) hgR
      have HW10 : Hid (w10.ownsRow 0 3 1 (.slice AW k cW) k (zs.map (Value.int .i64))) := by
        have h1 := own_kept (S := fun b => (Value.slice A k c).ownBlock = some b) (own_keeps HOW.out ((Kept.refl _ w9).alloc (.cells #[.int .i64 901, .int .i64 902, .int .i64 903] 3))) HWR.out.kept (fun b hb h2 => by
          have h3 := own_lt HO.out b h2
          rcases HGW.out with h4 | h4
          · have := h4.symm.trans hb
            simp [Value.ownBlock] at this
            omega
          · have := Option.some.inj (h4.symm.trans hb)
            simp at this
            omega)
        show World.ownsRow _ _ _ _ _ _ _
        simpa using h1
      clear hbR hgR HB HF HO HBW HO9 HOW HGW HOR HWR HA
      (with_reducible refine (base_all HBS.out HN.out hm32).mono ?_)
      rintro e wa ⟨Aa, ca, rfl, oa, ba, fa⟩
      have OA := Lib.hid oa
      have BA := Lib.hid ba
      have FA := Lib.hid fa
      clear oa ba fa
      go_wp2_with fail
      (with_reducible refine (base_all (HBS.out.below BA.out) HN.out hm32).mono ?_)
      rintro e wb ⟨Ab, cb, rfl, ob, bb, fb⟩
      have OB := Lib.hid ob
      have BB := Lib.hid bb
      have FB := Lib.hid fb
      clear ob bb fb
      have hc10 : k + 3 ≤ c10 ∧ c10 ≤ 9223372036854775807 := by
        have h1 := HBS.out.cells
        rw [HZ.out] at h1
        exact ⟨h1.1, by have := h1.2.1; unfold maxLen at this; omega⟩
      obtain ⟨hc10a, hc10b⟩ := hc10
      go_wp2_with fail
      (with_reducible refine (base_pick ((HBS.out.below BA.out).below BB.out) HZ.out hk32 HH.out).mono ?_)
      rintro e wp ⟨Ap, cp, rfl, op, bp, fp⟩
      have OP := Lib.hid op
      have BP := Lib.hid bp
      have FP := Lib.hid fp
      clear op bp fp
      go_wp2_with fail
      (with_reducible refine (base_pick (((HBS.out.below BA.out).below BB.out).below BP.out) HZ.out hk32 HH.out).mono ?_)
      rintro e wq ⟨Aq, cq, rfl, oq, bq, fq⟩
      have OQ := Lib.hid oq
      have BQ := Lib.hid bq
      have FQ := Lib.hid fq
      clear oq bq fq
      have KAQ := Lib.hid (BB.out.trans ((BP.out.trans (BQ.out.mono BP.out.size)).mono BB.out.size))
      have KPQ := BQ
      go_wp2_with (first | (at_builtin; refine list_app2 rfl (.tmp 123) (.tmp 124) 43 rfl 37 0 _ 3 24 Try.underlying43 info37 rfl (by decide) (by decide) (.slice (some ⟨wq.heap.size, 0, none⟩) 0 0) 0 [] rfl (World.ownsRow_made wq #[] 0 (Nat.zero_le _) (Nat.zero_le _) rfl) Aa n ca (capsC m) rfl (by rw [capsC_length, HN.out]) (own_holds (own_keeps (own_keeps OA.out (Kept.of_below KAQ.out)) ((Kept.refl _ _).alloc _))) (capsC_one _) (by omega) (Nat.zero_le _) ?_; intro vall wx hownX hwentX; have HBX := Lib.hid (((Below.refl _ wq).alloc (Nat.le_refl _) (.cells #[] 37)).trans (hwentX.kept.below (B := wq.heap.size) (fun k hk => Nat.le_of_eq (by simpa [Value.ownBlock] using hk)) (by simp))); have HOX := Lib.hid hownX; have HGX := Lib.hid hwentX.block; clear hownX hwentX) | (at_builtin; refine list_app2 rfl (.tmp 126) (.tmp 127) 43 rfl 37 0 _ 3 24 Try.underlying43 info37 rfl (by decide) (by decide) (.slice (some ⟨wx.heap.size, 0, none⟩) 0 0) 0 [] rfl (World.ownsRow_made wx #[] 0 (Nat.zero_le _) (Nat.zero_le _) rfl) Ap k cp (capsC (picked m zs)) rfl (by rw [capsC_length]; unfold picked; rw [List.length_map, HZ.out]) (own_holds (own_keeps (own_keeps (own_keeps OP.out (Kept.of_below BQ.out)) (Kept.of_below HBX.out)) ((Kept.refl _ _).alloc _))) (capsC_one _) (by omega) (Nat.zero_le _) ?_; intro vpk wy hownY hwentY; have HBY := Lib.hid (((Below.refl _ wx).alloc (Nat.le_refl _) (.cells #[] 37)).trans (hwentY.kept.below (B := wx.heap.size) (fun k hk => Nat.le_of_eq (by simpa [Value.ownBlock] using hk)) (by simp))); have HOY := Lib.hid hownY; have HGY := Lib.hid hwentY.block; clear hownY hwentY))
      have KQY := Lib.hid (HBX.out.trans (HBY.out.mono HBX.out.size))
      have OALL : Hid (wy.ownsRow 0 37 3 vall n (capsC m)) := by
        have := own_keeps HOX.out (Kept.of_below HBY.out)
        show World.ownsRow _ _ _ _ _ _ _
        simpa using this
      have OPK : Hid (wy.ownsRow 0 37 3 vpk k (capsC (picked m zs))) := by
        show World.ownsRow _ _ _ _ _ _ _
        simpa using HOY.out
      have hGX : Hid (∀ b, vall.ownBlock = some b → wq.heap.size ≤ b) := fun b hb => by
        rcases HGX.out with h | h
        · have := h.symm.trans hb
          simp [Value.ownBlock] at this
          omega
        · have := Option.some.inj (h.symm.trans hb)
          simp at this
          omega
      have hGY : Hid (∀ b, vpk.ownBlock = some b → wq.heap.size ≤ b) := fun b hb => by
        have h0 := HBX.out.size
        rcases HGY.out with h | h
        · have := h.symm.trans hb
          simp [Value.ownBlock] at this
          omega
        · have := Option.some.inj (h.symm.trans hb)
          simp at this
          omega
      obtain ⟨A21, c21, rfl, _⟩ := own_slice OALL.out
      obtain ⟨A22, c22, rfl, _⟩ := own_slice OPK.out
      clear HOX HOY HGX HGY HBX HBY
      have HPL : Hid ((picked m zs).length = k) := by show _ = _; unfold picked; rw [List.length_map]; exact HZ.out
      have KBY := Lib.hid (BP.out.trans ((BQ.out.trans (KQY.out.mono BQ.out.size)).mono BP.out.size))
      have HSM := Lib.hid (same_own (n := n) HN.out (own_keeps OB.out (Kept.of_below KBY.out)) OALL.out)
      (with_reducible refine HSM.out.mono ?_)
      rintro e wz ⟨rfl, bz⟩
      have BZ := Lib.hid bz
      clear bz
      have HSM2 := Lib.hid (same_own (n := k) HPL.out (own_keeps OQ.out (Kept.of_below (KQY.out.trans (BZ.out.mono KQY.out.size)))) (own_keeps OPK.out (Kept.of_below BZ.out)))
      go_wp2_with fail
      (with_reducible refine HSM2.out.mono ?_)
      rintro e wu ⟨rfl, bu⟩
      have BU := Lib.hid bu
      clear bu
      have KQU := Lib.hid ((KQY.out.trans (BZ.out.mono KQY.out.size)).trans (BU.out.mono (Nat.le_trans KQY.out.size BZ.out.size)))
      go_wp2_with fail
      have KUL := Lib.hid (KQU.out.trans (((Below.refl _ wu).alloc (Nat.le_refl _) (.cells #[.slice Aa n ca, .slice Ab n cb, .slice Ap k cp, .slice Aq k cq] 43)).mono (KQU.out.size)))
      have ROWS := Lib.hid (four_rows OA.out BA.out FA.out OB.out BB.out FB.out OP.out BP.out FP.out OQ.out BQ.out FQ.out KUL.out)
      have HMK := Lib.hid (marked_any (wu.alloc (.cells #[.slice Aa n ca, .slice Ab n cb, .slice Ap k cp, .slice Aq k cq] 43)) 4 (by decide) _ _ _ ROWS.out.1 (fun j hj => by rcases four_cases hj with rfl | rfl | rfl | rfl <;> simp only [sel] <;> omega) wu.heap.size 0 4 (fun j hj => by
        rcases four_cases hj with rfl | rfl | rfl | rfl <;> exact cell_row (heap_alloc_new wu _) rfl) (fun j hj hb => by
        have := (ROWS.out.2 _ ⟨j, hj, hb⟩).2
        have := KQU.out.size
        omega) (by simp))
      (with_reducible refine HMK.out.mono ?_)
      rintro e wm ⟨rfl, km⟩
      have K10 : Below w10.heap.size w10 wm := ((BA.out.trans ((KAQ.out.trans (KUL.out.mono KAQ.out.size)).mono BA.out.size))).trans (km.below (fun b hb => (ROWS.out.2 b hb).1) (Nat.le_trans BA.out.size (Nat.le_trans KAQ.out.size KUL.out.size)))
      have HBM := Lib.hid (HBS.out.below K10)
      have HWM := Lib.hid (own_keeps HW10.out (Kept.of_below K10))
      have KYL := BZ.out.trans ((BU.out.trans (((Below.refl _ wu).alloc (Nat.le_refl _) (.cells #[.slice Aa n ca, .slice Ab n cb, .slice Ap k cp, .slice Aq k cq] 43)).mono BU.out.size)).mono BZ.out.size)
      have HAL := Lib.hid (own_kept (own_keeps OALL.out (Kept.of_below KYL)) km (fun b hb ht => by have h1 := (ROWS.out.2 b ht).2; have h2 := hGX.out b hb; omega))
      have HPK := Lib.hid (own_kept (own_keeps OPK.out (Kept.of_below KYL)) km (fun b hb ht => by have h1 := (ROWS.out.2 b ht).2; have h2 := hGY.out b hb; omega))
      have hAg : Hid (∀ b, (Value.slice A21 n c21).ownBlock = some b → b ≠ g) := fun b hb e => by
        have h1 := hGX.out b hb
        have h2 := own_lt HBS.out.room g rfl
        have h3 := BA.out.size
        have h4 := KAQ.out.size
        omega
      have HLN := Lib.hid (len_none HBM.out.o)
      clear KYL K10 km HMK ROWS KUL KQU HBS HW10 OALL OPK hGX hGY OA OB OP OQ FA FB FP FQ BA BB BP BQ KAQ KPQ KQY KBY HSM HSM2 BZ BU
      go_wp2_with fail
      (with_reducible refine HLN.out.mono ?_)
      rintro e wn ⟨rfl, rfl⟩
      clear HLN
      go_wp2_with fail
      go_loopw [23] (fun v23 wr => ∃ i : Nat, i ≤ k ∧ v23 = .int .i64 i ∧ ∃ q, wr = wm.drewN q) (fun vi _ => k - (intOf vi).toNat)
      case atStart => exact ⟨0, Nat.zero_le _, rfl, 0, rfl⟩
      case round =>
        obtain ⟨i, hi, rfl, q, rfl⟩ := hrel
        by_cases hlt : i < k
        · obtain ⟨z, hz⟩ : ∃ z, zs[i]? = some z := ⟨_, List.getElem?_eq_getElem (by rw [HZ.out]; exact hlt)⟩
          have y0 := HBM.out.cells.2.2.2.1 i z hz
          obtain ⟨gw, cw, cu, e1, _, hcw, hcwm, _, _, hcell⟩ := own_form HWM.out (by omega)
          obtain ⟨rfl, rfl⟩ : AW = some ⟨gw, 0, none⟩ ∧ cW = cw := by simpa using e1
          have y1 := hcell i (.int .i64 z) (by rw [List.getElem?_map, hz]; rfl)
          unfold maxLen at hcwm
          clear hcell e1 hz
          go_wp2_with fail
          go_quiet (fail)
          go_wp2
          exact ⟨⟨i + 1, by omega, by simp, _, rfl⟩, by simp [intOf]; omega⟩
        · have : i = k := by omega
          subst this
          have HB3 := Lib.hid (HBM.out.below (w' := wm.drewN q) ⟨rfl, rfl, rfl, Nat.le_refl _, fun _ _ => rfl⟩)
          have HAL3 := Lib.hid (own_keeps HAL.out (Kept.of_below (b := wm.drewN q) ⟨rfl, rfl, rfl, Nat.le_refl _, fun _ _ => rfl⟩))
          have HPK3 := Lib.hid (own_keeps HPK.out (Kept.of_below (b := wm.drewN q) ⟨rfl, rfl, rfl, Nat.le_refl _, fun _ _ => rfl⟩))
          clear HBM HAL HPK HWM hlt
          generalize wm.drewN q = wn at HB3 HAL3 HPK3 ⊢
          have hy := HB3.out.cells.2.2.2.2
          rw [HZ.out] at hy
          obtain ⟨y0, y1, y2⟩ := hy
          have HPI := Lib.hid (base_pick HB3.out HZ.out hk32 HH.out)
          go_wp2_with fail
          (with_reducible refine HPI.out.mono ?_)
          rintro e wp2 ⟨Ap2, cp2, rfl, op2, bp2, _⟩
          have HB4 := Lib.hid (HB3.out.below bp2)
          have HAL4 := Lib.hid (own_keeps HAL3.out (Kept.of_below bp2))
          have HSM3 := Lib.hid (same_own (n := i) HPL.out op2 (own_keeps HPK3.out (Kept.of_below bp2)))
          clear HPI HB3 HAL3 HPK3 op2 bp2 y0 y1 y2
          go_wp2_with fail
          (with_reducible refine HSM3.out.mono ?_)
          rintro e wp3 ⟨rfl, bp3⟩
          have HB5 := Lib.hid (HB4.out.below bp3)
          have HAL5 := Lib.hid (own_keeps HAL4.out (Kept.of_below bp3))
          clear HSM3 HB4 HAL4 bp3
          go_wp2_with fail
          (with_reducible refine (base_all HB5.out HN.out hm32).mono ?_)
          rintro e wp4 ⟨Aa4, ca4, rfl, oa4, ba4, _⟩
          have HB6 := Lib.hid (HB5.out.below ba4)
          have HAL6 := Lib.hid (own_keeps HAL5.out (Kept.of_below ba4))
          have HSM4 := Lib.hid (same_own (n := n) HN.out oa4 HAL6.out)
          clear HB5 HAL5 ba4 oa4
          go_wp2_with fail
          (with_reducible refine HSM4.out.mono ?_)
          rintro e wp5 ⟨rfl, bp5⟩
          have HB7 := Lib.hid (HB6.out.below bp5)
          have HAL7 := Lib.hid (own_keeps HAL6.out (Kept.of_below bp5))
          clear HSM4 HB6 HAL6 bp5
          go_wp2_with fail
          clear hc10b
          go_loopw [24] (fun v24 wr => ∃ (t : Nat) (ys : List Int), t ≤ i ∧ v24 = .int .i64 t ∧ Hid (ys.length = i) ∧ Hid (∀ z ∈ ys, hasB m z = true) ∧ Hid (Base w m ys g c10 wr) ∧ Hid (wr.ownsRow 0 37 3 (.slice A21 n c21) n (capsC m))) (fun vi _ => i - (intOf vi).toNat)
          case atStart => exact ⟨0, zs, Nat.zero_le _, rfl, HZ, HH, HB7, HAL7⟩
          case round =>
            clear HB7 HAL7
            obtain ⟨t, ys, ht, rfl, HYL, HYH, HB8, HAL8⟩ := hrel
            have hcs := HB8.out.cells
            rw [HYL.out] at hcs
            obtain ⟨hcc, hcm, hglt, hcell, _⟩ := hcs
            unfold maxLen at hcm
            by_cases hlt4 : t < i
            · obtain ⟨z, hz⟩ : ∃ z, ys[t]? = some z := ⟨_, List.getElem?_eq_getElem (by rw [HYL.out]; exact hlt4)⟩
              have y0 := hcell t z hz
              have hzi := HYH.out z (List.mem_of_getElem? hz)
              have hz' : 0 ≤ z ∧ z < (m.length : Int) := by simpa [hasB] using hzi
              rw [HN.out] at hz'
              obtain ⟨hz0, hz1⟩ := hz'
              obtain ⟨g', c', cur, e1, hg, _⟩ := own_form HB8.out.room (by omega)
              obtain ⟨rfl, rfl⟩ : g = g' ∧ c10 = c' := by simpa using e1
              have f0 : wr.frozen? ⟨g, t, none⟩ = false := free_row hg
              have hnew : hasB m ((n : Int) - 1 - z) = true := by
                unfold hasB
                rw [HN.out]
                simp; omega
              have HB9 := Lib.hid (HB8.out.store (i := t) (by rw [HYL.out]; exact hlt4) ((n : Int) - 1 - z))
              have HAL9 := Lib.hid (own_kept HAL8.out ((Kept.refl (fun b => b = g) wr).setCell (p := ⟨g, t, none⟩) (.inl rfl) (.int .i64 ((n : Int) - 1 - z))) (fun b hb e => hAg.out b hb e))
              have HNEW := Lib.hid hnew
              clear hcell hz hzi hg e1 hnew
              go_wp2_with fail
              refine ⟨⟨t + 1, ys.set t ((n : Int) - 1 - z), by omega, by simp, ?_, ?_, HB9, HAL9⟩, by simp [intOf]; omega⟩
              · show _ = _
                rw [List.length_set]; exact HYL.out
              · intro y hy
                rcases List.mem_or_eq_of_mem_set hy with h | h
                · exact HYH.out y h
                · rw [h]; exact HNEW.out
            · have : t = i := by omega
              subst this
              clear hcell hlt4
              have HPI := Lib.hid (base_pick HB8.out HYL.out hk32 HYH.out)
              go_wp2_with fail
              (with_reducible refine HPI.out.mono ?_)
              rintro e wp6 ⟨Ap6, cp6, rfl, op6, bp6, _⟩
              have HB9 := Lib.hid (HB8.out.below bp6)
              have HAL9 := Lib.hid (own_keeps HAL8.out (Kept.of_below bp6))
              have HOP := Lib.hid op6
              clear HPI HB8 HAL8 op6 bp6
              go_wp2_with fail
              go_loopw [25] (fun v25 wr => ∃ j : Nat, j ≤ t ∧ v25 = .int .i64 j ∧ ∃ q, wr = wp6.drewN q) (fun vi _ => t - (intOf vi).toNat)
              case atStart => exact ⟨0, Nat.zero_le _, rfl, 0, rfl⟩
              case round =>
                obtain ⟨j, hj, rfl, q', rfl⟩ := hrel
                by_cases hlt5 : j < t
                · obtain ⟨z, hz⟩ : ∃ z, ys[j]? = some z := ⟨_, List.getElem?_eq_getElem (by rw [HYL.out]; exact hlt5)⟩
                  have y0 := HB9.out.cells.2.2.2.1 j z hz
                  have hzi := HYH.out z (List.mem_of_getElem? hz)
                  have hz' : 0 ≤ z ∧ z < (m.length : Int) := by simpa [hasB] using hzi
                  rw [HN.out] at hz'
                  obtain ⟨hz0, hz1⟩ := hz'
                  obtain ⟨s, rfl⟩ : ∃ s : Nat, z = (s : Int) := ⟨z.toNat, by omega⟩
                  have hsn : s < n := by omega
                  obtain ⟨x, hx⟩ : ∃ x, m[s]? = some x := ⟨_, List.getElem?_eq_getElem (by rw [HN.out]; exact hsn)⟩
                  obtain ⟨g1, c1', cu1, e1, _, hcn1, hcm1, _, _, hcell1⟩ := own_form HAL9.out (by omega)
                  obtain ⟨rfl, rfl⟩ : A21 = some ⟨g1, 0, none⟩ ∧ c21 = c1' := by simpa using e1
                  obtain ⟨g2, c2', cu2, e2, _, hcn2, hcm2, _, _, hcell2⟩ := own_form HOP.out (by omega)
                  obtain ⟨rfl, rfl⟩ : Ap6 = some ⟨g2, 0, none⟩ ∧ cp6 = c2' := by simpa using e2
                  have em : m.getD s z0 = x := by rw [List.getD_eq_getElem?_getD, hx]; rfl
                  have f1 : ∀ i', i' < 3 → (capsC m)[s * 3 + i']? = (capC x)[i']? := fun i' hi' => by rw [← em]; exact capsC_at m s i' (by rw [HN.out]; exact hsn) hi'
                  have hpj : (picked m ys)[j]? = some x := by
                    unfold picked
                    rw [List.getElem?_map, hz]
                    simp [List.getD_eq_getElem?_getD, hx]
                  have f2 : ∀ i', i' < 3 → (capsC (picked m ys))[j * 3 + i']? = (capC x)[i']? := fun i' hi' => by
                    have e : (picked m ys).getD j z0 = x := by rw [List.getD_eq_getElem?_getD, hpj]; rfl
                    rw [← e]
                    exact capsC_at _ j i' (List.getElem?_eq_some_iff.1 hpj).1 hi'
                  have p0 := hcell2 (j * 3) _ (f2 0 (by omega))
                  have p1 := hcell2 (j * 3 + 1) _ (f2 1 (by omega))
                  have p2 := hcell2 (j * 3 + 2) _ (f2 2 (by omega))
                  have a0 := hcell1 (s * 3) _ (f1 0 (by omega))
                  have a1 := hcell1 (s * 3 + 1) _ (f1 1 (by omega))
                  have a2 := hcell1 (s * 3 + 2) _ (f1 2 (by omega))
                  have heq := eqCap
                  have hs := capEq_self x
                  unfold maxLen at hcm1 hcm2
                  clear f1 f2 hpj hcell1 hcell2 hz hx hzi hz0 hz1 em e1 e2
                  go_wp2_with fail
                  go_quiet (fail)
                  go_wp2
                  exact ⟨⟨j + 1, by omega, by simp, _, rfl⟩, by simp [intOf]; omega⟩
                · have : j = t := by omega
                  subst this
                  go_wp2_with fail
                  go_ret
                  exact ⟨rfl, HB9.out.elder.trans ⟨rfl, rfl, rfl, Nat.le_refl _, fun _ _ => rfl⟩⟩
end Go.Proofs.Ytepjhdppmegloaa.Caps

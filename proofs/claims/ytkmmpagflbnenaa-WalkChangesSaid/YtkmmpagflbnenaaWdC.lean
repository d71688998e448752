/- WalkChanges: the walk. Own text (gen_wdc.py); Ytkmmpagflbnenaa and the numbers between @..@ are the seat's. -/
import Derived.Test.YtkmmpagflbnenaaWdB
namespace Go.Proofs.Ytkmmpagflbnenaa.Kin
open Go.RowKit Go.Proofs.Ytkmmpagflbnenaa.Mem Go.Shelf
set_option linter.unusedVariables false
attribute [local go_sem] Oper.semAt_some
theorem readsOps_below {w w' : World} {v : Value} {os : List (Int × Int × Int)} (h : ReadsOps w v os) (hb : Below w.heap.size w w') : ReadsOps w' v os := by
  obtain ⟨A, c, h1, h2, h3, h4⟩ := h
  refine ⟨A, c, h1, h2, h3, fun hp => ?_⟩
  obtain ⟨g, o, e, h5⟩ := h4 hp
  refine ⟨g, o, e, fun i x hx j u hu => ?_⟩
  have := h5 i x hx j u hu
  exact (hb.cell (World.block_lt_of_cell? w _ this)).trans this
set_option maxRecDepth 100000 in
set_option maxHeartbeats 16000000 in
theorem law_changes (w : World) (n0 : Int) (vs : Value) (os : List (Int × Int × Int)) (n s : Int) (hs : ReadsOps w vs os) :
    Calls Try.prog 5 #[.int .i64 n0, vs, .int .i64 n, .int .i64 s] w fun e w' => e = .returned (.bool true) ∧ Below w.heap.size w w' := by
  have e1 : n0.tmod 60 < 60 := Int.tmod_lt_of_pos n0 (by decide)
  have e2 : -60 < n0.tmod 60 := Int.lt_tmod_of_pos n0 (by decide)
  obtain ⟨R, hR⟩ : ∃ R, n0.tmod 60 = R := ⟨_, rfl⟩
  have hw : IntKind.i64.wrap (n0.tmod 60) = R := by rw [hR]; exact IntWalk.i64_in _ (by omega)
  rw [hR] at e1 e2
  obtain ⟨m, hm⟩ : ∃ m : Nat, (R + 60).tmod 60 = m := ⟨((R + 60).tmod 60).toNat, by have := Int.tmod_nonneg 60 (show 0 ≤ R + 60 by omega); omega⟩
  have hm2 : m < 60 := by have := Int.tmod_lt_of_pos (R + 60) (show (0:Int) < 60 by decide); omega
  have hK := (Wk.start w).new 3 (.int .i64 n)
  replace hK := hK.new 3 (.int .i64 s)
  replace hK := hK.new 4 (.bool false)
  simp only [World.size_alloc] at hK
  obtain ⟨W0, hW0⟩ : ∃ W0, ((w.alloc (.cells #[.int .i64 n] 3)).alloc (.cells #[.int .i64 s] 3)).alloc (.cells #[.bool false] 4) = W0 := ⟨_, rfl⟩
  have hs0 : W0.heap.size = w.heap.size + 3 := by rw [← hW0]; simp
  have HW0 := Lib.hid hW0
  rw [hW0] at hK
  have HS0 := Lib.hid (readsOps_below hs hK.bel)
  have HX := Lib.hid (forest_any W0 m (by omega) _ os HS0.out)
  have HK := Lib.hid hK
  clear hs hW0 hK hs0
  refine (callsIn_wide (n := 12)).1 ?_
  refine callsIn_of_wp_marks Try.func5 rfl trivial ?_ rfl
  simp only [Try.ntmps5, List.size_toArray, List.length_cons, List.length_nil, Nat.reduceAdd, Nat.reduceSub, Array.replicate_succ, Array.replicate_zero, List.push_toArray, List.append_toArray, List.nil_append, List.cons_append]
  gi_wp2
  rw [HW0.out]
  refine ⟨trivial, ?_⟩
  gi_at_call 7
  refine (callsIn_wide.2 HX.out).mono ?_
  rintro e w1 ⟨p, g, r, rfl, d1, b1⟩
  obtain ⟨L, hL⟩ : ∃ L, runL m os = L := ⟨_, rfl⟩
  rw [hL] at d1
  have A1 := (al_start HK.out b1 d1).new 23 (.pointer (some ⟨p, 0, none⟩))
  have HA1 := Lib.hid A1
  have HAL := Lib.hid (fun w => alive_any w)
  clear HX d1 b1 hL A1 HK HS0 HW0 hw hR hm e1 e2
  gi_wp2
  obtain ⟨tb, htb⟩ : ∃ tb, w1.heap.size = tb := ⟨_, rfl⟩
  rw [htb] at HA1 ⊢
  obtain ⟨w2, hw2⟩ : ∃ w2, w1.alloc (.cells #[.pointer (some ⟨p, 0, none⟩)] 23) = w2 := ⟨_, rfl⟩
  rw [hw2] at HA1 ⊢
  clear htb hw2
  refine ⟨trivial, ?_⟩
  gi_at_call 8
  refine (callsIn_wide.2 (HAL.out w2)).mono ?_
  rintro e w3 ⟨rfl, b3⟩
  replace HA1 := Lib.hid (HA1.out.below b3)
  clear b3 HAL
  obtain ⟨V, F, hkt⟩ := HA1.out.kt
  have I := Lib.hid hkt.inv
  have HD := Lib.hid (downs_any w3 p g m L V F hkt n)
  obtain ⟨D, hD⟩ : ∃ D, dnl L false n = D := ⟨_, rfl⟩
  have HDD := Lib.hid hD
  have hDm : D.length ≤ m := by rw [← hD]; exact I.out.dnl_len false n
  rw [hD] at HD
  have p0 := (HA1.out.at 0 rfl).cell
  have n0' := (HA1.out.at 3 rfl).cell
  clear hD hkt
  gi_wp2
  refine ⟨trivial, ?_⟩
  gi_at_call 15
  refine (callsIn_wide.2 HD.out).mono ?_
  rintro e w4 ⟨A4, c4, rfl, o4, b4, f4⟩
  have HA4 := Lib.hid ((HA1.out.add b4 o4 f4).new 34 (.slice A4 D.length c4))
  clear HD o4 b4 f4 p0 n0' HA1
  have p0 := (HA4.out.at 1 rfl).cell
  have n0' := (HA4.out.at 4 rfl).cell
  obtain ⟨w5, hw5⟩ : ∃ w5, w4.alloc (.cells #[.slice A4 D.length c4] 34) = w5 := ⟨_, rfl⟩
  obtain ⟨V, F, hkt⟩ := HA4.out.kt
  have HD := Lib.hid (ups_any _ p g m L V F hkt n)
  obtain ⟨U, hU⟩ : ∃ U, upl L n = U := ⟨_, rfl⟩
  have HUU := Lib.hid hU
  have hUm : U.length ≤ m := by rw [← hU]; exact I.out.up_len n
  rw [hU, hw5] at HD
  rw [hw5] at HA4
  have HW5 := Lib.hid hw5
  clear hU hkt hw5
  gi_wp2
  rw [HW5.out]
  refine ⟨trivial, ?_⟩
  gi_at_call 19
  refine (callsIn_wide.2 HD.out).mono ?_
  rintro e w6 ⟨A6, c6, rfl, o6, b6, f6⟩
  have HA6 := Lib.hid (HA4.out.add b6 o6 f6)
  have p1 := (HA6.out.at 1 rfl).cell
  have n1 := (HA6.out.at 4 rfl).cell
  have HD2 := Lib.hid (down_it w6 p n)
  have A7 := ((HA6.out.new 23 (.pointer (some ⟨p, 0, none⟩))).new 3 (.int .i64 n)).new 81 (.func (.func 47) #[] #[.pointer (some ⟨w6.heap.size, 0, none⟩), .pointer (some ⟨w6.heap.size + 1, 0, none⟩)])
  simp only [World.size_alloc] at A7
  obtain ⟨w7, hw7⟩ : ∃ W1, ((w6.alloc (.cells #[.pointer (some ⟨p, 0, none⟩)] 23)).alloc (.cells #[.int .i64 n] 3)).alloc (.cells #[.func (.func 47) #[] #[.pointer (some ⟨w6.heap.size, 0, none⟩), .pointer (some ⟨w6.heap.size + 1, 0, none⟩)]] 81) = W1 := ⟨_, rfl⟩
  rw [hw7] at A7 HD2
  obtain ⟨dn, hdn⟩ : ∃ x, w6.heap.size = x := ⟨_, rfl⟩
  rw [hdn] at A7 HD2
  have HA7 := Lib.hid A7
  clear HD o6 b6 f6 p0 n0' HA4 hw7 hdn HW5 A7
  gi_wp2
  refine ⟨trivial, ?_⟩
  gi_at_call 23
  refine (callsIn_wide.2 HD2.out).mono ?_
  rintro e w7' ⟨rfl, rfl⟩
  have p2 := (HA7.out.at 4 rfl).cell
  have n2 := (HA7.out.at 7 rfl).cell
  have HD3 := Lib.hid (up_it w7' p n)
  have A8 := ((HA7.out.new 23 (.pointer (some ⟨p, 0, none⟩))).new 3 (.int .i64 n)).new 81 (.func (.func 48) #[] #[.pointer (some ⟨w7'.heap.size, 0, none⟩), .pointer (some ⟨w7'.heap.size + 1, 0, none⟩)])
  simp only [World.size_alloc] at A8
  obtain ⟨w8, hw8⟩ : ∃ W1, ((w7'.alloc (.cells #[.pointer (some ⟨p, 0, none⟩)] 23)).alloc (.cells #[.int .i64 n] 3)).alloc (.cells #[.func (.func 48) #[] #[.pointer (some ⟨w7'.heap.size, 0, none⟩), .pointer (some ⟨w7'.heap.size + 1, 0, none⟩)]] 81) = W1 := ⟨_, rfl⟩
  rw [hw8] at A8 HD3
  obtain ⟨un, hun⟩ : ∃ x, w7'.heap.size = x := ⟨_, rfl⟩
  rw [hun] at A8 HD3
  have HA8 := Lib.hid A8
  clear HD2 p1 n1 HA7 HA6 hw8 hun A8
  gi_wp2
  refine ⟨trivial, ?_⟩
  gi_at_call 24
  refine (callsIn_wide.2 HD3.out).mono ?_
  rintro e w8' ⟨rfl, rfl⟩
  have hnilD := fun w => nil48 w #[.pointer (some ⟨dn + 2, 0, none⟩)]
  have hnilU := fun w => nil48 w #[.pointer (some ⟨un + 2, 0, none⟩)]
  have HA9 := Lib.hid (HA8.out.new 3 (.int .i64 0))
  have HNE := Lib.hid HA8.out.ne
  clear HD3 p2 n2 HA8
  gi_wp2
  obtain ⟨db, hdb⟩ : ∃ x, w4.heap.size = x := ⟨_, rfl⟩
  obtain ⟨kb, hkb⟩ : ∃ x, w8'.heap.size = x := ⟨_, rfl⟩
  obtain ⟨w9, hw9⟩ : ∃ x, w8'.alloc (.cells #[.int .i64 0] 3) = x := ⟨_, rfl⟩
  rw [hdb, hkb] at HA9
  rw [hkb] at HNE
  rw [hdb, hkb, hw9]
  rw [hw9] at HA9
  rw [hdb] at HNE
  clear hdb hkb hw9
  rename_i KK HKK
  obtain ⟨rs, hrs⟩ : ∃ rs : List (Value × List Int), [(.slice A6 U.length c6, U), (.slice A4 D.length c4, D)] = rs := ⟨_, rfl⟩
  obtain ⟨cl, hcl⟩ : ∃ cl : List (Nat × TypeId × Value), [(un + 1 + 1, 81, Value.func (.func 48) #[] #[.pointer (some ⟨un, 0, none⟩), .pointer (some ⟨un + 1, 0, none⟩)]), (un + 1, 3, .int .i64 n), (un, 23, .pointer (some ⟨p, 0, none⟩)),
    (dn + 1 + 1, 81, .func (.func 47) #[] #[.pointer (some ⟨dn, 0, none⟩), .pointer (some ⟨dn + 1, 0, none⟩)]), (dn + 1, 3, .int .i64 n), (dn, 23, .pointer (some ⟨p, 0, none⟩)), (db, 34, .slice A4 D.length c4), (tb, 23, .pointer (some ⟨p, 0, none⟩)), (w.heap.size + 1 + 1, 4, .bool false), (w.heap.size + 1, 3, .int .i64 s), (w.heap.size, 3, .int .i64 n)] = cl := ⟨_, rfl⟩
  rw [hcl, hrs] at HA9
  rw [hcl] at HNE
  have HCL := Lib.hid hcl
  have HRS := Lib.hid hrs
  clear hcl hrs
  have GD : Hid (∀ (W : World) (L : List (Int × Int)) (v : Value) Y, Al w W p g m L ((kb, 3, v) :: cl) rs Y → (dnl L false n).length ≤ 100000 → SeqStopsK Fence.wide 11 Try.prog 54 #[.pointer (some ⟨dn + 2, 0, none⟩)] (fun x : Int => #[.int .i64 x]) (KpM (Mc W.heap.size)) (fun ys => ys = dnl L false n) (fun pre => pre <+: dnl L false n) (dnl L false n).length W) := fun W L v Y h hl => by
    rw [← HCL.out] at h
    obtain ⟨V, F, hkt⟩ := h.kt
    exact told1_down W (dn + 2) _ _ hl (Mc W.heap.size) (fun W g _ e => e) (h.at 4 rfl).cell (down1_gives W p g m L V F hkt n _ _ (h.at 6 rfl).cell (h.at 5 rfl).cell) 11 (by decide)
  have GU : Hid (∀ (W : World) (L : List (Int × Int)) (v : Value) Y, Al w W p g m L ((kb, 3, v) :: cl) rs Y → (upl L n).length ≤ 100000 → SeqStopsK Fence.wide 11 Try.prog 54 #[.pointer (some ⟨un + 2, 0, none⟩)] (fun x : Int => #[.int .i64 x]) (KpM (Mc W.heap.size)) (fun ys => ys = upl L n) (fun pre => pre <+: upl L n) (upl L n).length W) := fun W L v Y h hl => by
    rw [← HCL.out] at h
    obtain ⟨V, F, hkt⟩ := h.kt
    exact told1_up W (un + 2) _ _ hl (Mc W.heap.size) (fun W g _ e => e) (h.at 1 rfl).cell (up1_gives W p g m L V F hkt n _ _ (h.at 3 rfl).cell (h.at 2 rfl).cell) 11 (by decide)
  have hkb : kb < w9.heap.size := (HA9.out.at 0 rfl).lt
  have hw9 : w.heap.size ≤ w9.heap.size := HA9.out.wk.bel.size
  refine wpIn_cutframe (fun a => ∀ (E : Nat) (W : World) (kk : Nat), w9.heap.size ≤ E → W.heap[E]? = some (.deferred (some [])) → Al w W p g m L ((kb, 3, .int .i64 (kk : Int)) :: cl) rs (fun _ => False) → (kk = D.length ∨ (kk : Int) = s) → KK { a with defers := { target := .collected E, args := #[] } :: a.defers } W) ?rest (fun REST => ?_)
  case rest =>
    intro E W kk hE hK hA hkk
    refine HKK _ _ ?_
    dsimp only
    have hA2 := hA
    rw [← HCL.out, ← HRS.out] at hA2
    have k0 := (hA2.at 0 rfl).cell
    have d0 := (hA2.at 7 rfl).cell
    have p0 := (hA2.at 8 rfl).cell
    have s0 := (hA2.at 10 rfl).cell
    have n0' := (hA2.at 11 rfl).cell
    obtain ⟨V, F, hkt⟩ := hA2.kt
    have WI := Lib.hid (within_any W p g m L V F hkt n A4 A6 D.length U.length c4 c6 (by rw [HDD.out]; exact hA2.own 1 rfl) (by rw [HUU.out]; exact hA2.own 0 rfl))
    have HA := Lib.hid hA
    clear hA hA2 hkt
    rcases Classical.em (kk = D.length) with hkd | hkd
    · have hkd' : ((kk : Int) != (D.length : Int)) = false := by simp [hkd]
      clear hkk hkd
      gi_wp2
      refine ⟨trivial, ?_⟩
      gi_at_call 25
      refine (callsIn_wide.2 WI.out).mono ?_
      rintro e wa ⟨rfl, ba⟩
      have HB := Lib.hid ((HA.out.below ba).set (.int .i64 0) HNE.out)
      have hKa := (ba.block E (lt_of_row hK)).trans hK
      have hK1 : Hid ((wa.setCell ⟨kb, 0, none⟩ (.int .i64 0)).heap[E]? = some (.deferred (some []))) := (KeepsOthers.setCell wa ⟨kb, 0, none⟩ (.int .i64 0)).same E _ hKa rfl
      have hC2 := HA.out.below ba
      rw [← HCL.out] at hC2
      have k2 := (hC2.at 0 rfl).cell
      have k3 := (hC2.at 0 rfl).frozen
      clear WI hKa hK ba HA k0 d0 p0 s0 n0' hC2
      gi_wp2
      obtain ⟨wb, hwb⟩ : ∃ x, wa.setCell ⟨kb, 0, none⟩ (.int .i64 0) = x := ⟨_, rfl⟩
      rw [hwb] at HB hK1 ⊢
      clear hwb k2 k3
      have hBs : kb < wb.heap.size := (HB.out.at 0 rfl).lt
      have hwb : w.heap.size ≤ wb.heap.size := HB.out.wk.bel.size
      have hEs : E < wb.heap.size := lt_of_row hK1.out
      have ST := GD.out wb L _ _ HB.out (by rw [HDD.out]; omega)
      rw [HDD.out] at ST
      obtain ⟨M, hM⟩ : ∃ M, cuts L (fall L n) = M := ⟨_, rfl⟩
      have HM := Lib.hid hM
      have hgone : Hid (Kin.has M n = false) := by rw [← hM]; exact I.out.gone n
      clear hM
      apply wpIn_rangeFunc_ownF (n := 12) rfl (by decide) (gf := 54) (lb := #[.pointer (some ⟨dn + 2, 0, none⟩)]) rfl trivial (enters_of Try.func54 (by kernel_rfl) rfl) ST KpM.trans (kpM_b (fun W l g o' hl e => mc_b W l g o' hl e)) (Below.refl _ _) (fun _ => rfl)
        (fun pre W => (Al w W p g m (if pre = [] then L else M) ((kb, 3, .int .i64 (pre.length : Int)) :: cl) rs (fun b => pre = [] ∧ wb.heap.size ≤ b) ∧ W.heap[E]? = some (.deferred (some []))) ∧ pre <+: D) (fun c pre W => ¬ pre <+: D)
        (fun s W W' row hs hg hr => ⟨⟨hs.1.1.grown hg (fun r e => by have := (hr r e).1; omega) (fun r e => (hr r e).2), keep_mark hg hs.1.2 (fun r e => by have := (hr r e).1; omega)⟩, hs.2⟩)
        (fun _ _ _ _ _ hs _ _ => hs) ⟨⟨by rw [if_pos rfl]; exact HB.out.free (fun b e => .inr e.2), hK1.out⟩, List.nil_prefix⟩
      case hassign =>
        intro l x W K hK
        gi_wp2
        exact hK
      case hbody =>
        rintro l pre x W ⟨⟨hC, hE1⟩, hpre⟩ hlen
        obtain ⟨y, hy⟩ : ∃ y, D[pre.length]? = some y := ⟨_, List.getElem?_eq_getElem hlen⟩
        have hC2 := hC
        rw [← HCL.out, ← HRS.out] at hC2
        have k0 := (hC2.at 0 rfl).cell
        have k1 := (hC2.at 0 rfl).frozen
        have d0 := (hC2.at 7 rfl).cell
        have p1 := (hC2.at 8 rfl).cell
        have r0 := (hC2.at 9 rfl).cell
        have r1 := (hC2.at 9 rfl).frozen
        have n1 := (hC2.at 11 rfl).cell
        have OD := hC2.own 1 rfl
        obtain ⟨gd, rfl⟩ := own_block OD (by omega)
        have y0 := own_cell OD hy
        have HY := Lib.hid hy
        have HE1 := Lib.hid hE1
        have HP := Lib.hid hpre
        have hlb' : (pre.length : Int) < D.length := by omega
        clear hy OD hpre hC2 hE1
        by_cases hxy : x = y
        · have hxy' : (x != y) = false := by simp [hxy]
          have HXY := Lib.hid hxy
          have hq : Hid ((pre ++ [x]) <+: D) := pre_next HP.out (by rw [HXY.out]; exact HY.out)
          clear hxy HP HY
          cases pre with
          | nil =>
            rw [if_pos rfl] at hC
            have HC : Hid (Al w W p g m L ((kb, 3, .int .i64 0) :: cl) rs (fun b => wb.heap.size ≤ b)) := hC.free (fun b e => .inl ⟨rfl, e⟩)
            have k0' : W.cell? ⟨kb, 0, none⟩ = some (.int .i64 0) := k0
            have y0' : W.cell? ⟨gd, 0, none⟩ = some (.int .i64 y) := y0
            have hlb0 : (0 : Int) < D.length := hlb'
            have hD0 : ¬ D = [] := fun e => by rw [e] at hlb0; simp at hlb0
            obtain ⟨V, F, hkt⟩ := HC.out.kt
            have HF := Lib.hid (fall_any W p g m L V F hkt n)
            clear hC k0 y0 hlb' hkt hlen
            gi_wp2
            refine ⟨trivial, ?_⟩
            gi_at_call 16
            refine (callsIn_wide.2 HF.out).mono ?_
            rintro e wf ⟨Af, cf, rfl, o_f, bf, ff⟩
            have HL0 := Lib.hid ((HC.out.add bf o_f ff).free (Z := fun b => wb.heap.size ≤ b ∧ b < W.heap.size) (fun b e => .inl e.1))
            have HKF : Hid (Kept (fun b => b < wb.heap.size) W wf) := Kept.of_below bf
            have HKO : Hid (KeepsOthers W wf) := ⟨bf.size, fun k o hk _ => (bf.block k (lt_of_row hk)).trans hk⟩
            obtain ⟨f, hf⟩ : ∃ f, fall L n = f := ⟨_, rfl⟩
            rw [hf] at HL0 HM ⊢
            have HFf := Lib.hid hf
            have hfm : f.length ≤ m := by rw [← hf, I.out.fall_len, HDD.out]; exact hDm
            clear HF o_f bf ff HC hf k0' y0' k1 d0 p1 n1 r0 r1
            gi_wp2
            gi_loopw [22] (fun v22 wr => ∃ i : Nat, i ≤ f.length ∧ v22 = .int .i64 i ∧ Hid (Al w wr p g m (cuts L (f.take i)) ((kb, 3, .int .i64 0) :: cl) ((.slice Af f.length cf, f) :: rs) (fun b => wb.heap.size ≤ b ∧ b < W.heap.size)) ∧ Hid (Kept (fun b => b < wb.heap.size) W wr) ∧ Hid (KeepsOthers W wr)) (fun v22 _ => f.length - (intOf v22).toNat)
            case atStart => exact ⟨0, Nat.zero_le _, rfl, HL0, HKF, HKO⟩
            case round =>
              clear HL0 HKF HKO
              obtain ⟨i, hi, rfl, HL, HKF, HKO⟩ := hrel
              by_cases hlt : i < f.length
              · obtain ⟨x', hx'⟩ : ∃ x', f[i]? = some x' := ⟨_, List.getElem?_eq_getElem hlt⟩
                obtain ⟨g4, hg4⟩ := own_block (HL.out.own 0 rfl) (by omega)
                subst hg4
                have NX := I.out.cuts_next (n := n) (i := i) (x := x') (by rw [HFf.out]; exact hx')
                rw [HFf.out] at NX
                have HLd := Lib.hid (HL.out.below (Below.refl _ wr).drew)
                have HCu := Lib.hid (HLd.out.cut (fun b e => Nat.lt_of_lt_of_le e.2 HKF.out.size) x')
                rw [NX.1, NX.2.1] at HCu
                have hLd := HLd.out
                rw [← HCL.out] at hLd
                have c1 : wr.drew.cell? _ = _ := own_cell (hLd.own 0 rfl) hx'
                have q1 : wr.drew.cell? _ = _ := (hLd.at 8 rfl).cell
                have c2 : wr.cell? ⟨g4, i, none⟩ = some (.int .i64 x') := c1
                have q2 : wr.cell? ⟨tb, 0, none⟩ = some (.pointer (some ⟨p, 0, none⟩)) := q1
                clear NX hLd
                gi_wp2
                gi_region_with (refine ⟨trivial, ?_⟩; gi_at_call 22; (refine (callsIn_wide.2 HCu.out).mono ?_); rintro e w7 ⟨rfl, a7, k7, o7⟩)
                all_goals
                  have HA7 := Lib.hid a7
                  have HK7 : Hid (Kept (fun b => b < wb.heap.size) W w7) := HKF.out.drew.trans k7 (fun b e => by omega)
                  have HO7 : Hid (KeepsOthers W w7) := HKO.out.trans ((KeepsOthers.drew wr).trans o7)
                  clear a7 k7 o7 HL HKF HKO HLd HCu c1 q1 c2 q2 hx'
                  gi_wp2
                  exact ⟨⟨i + 1, by omega, by simp, HA7, HK7, HO7⟩, by simp [intOf]; omega⟩
              · have hfi : f.length = i := by omega
                have hM' : cuts L (f.take i) = M := by rw [← hfi, List.take_length]; exact HM.out
                rw [hM'] at HL
                have hL := HL.out
                rw [← HCL.out] at hL
                have k8 := (hL.at 0 rfl).cell
                have k9 := (hL.at 0 rfl).frozen
                have hii : ¬ (i : Int) < f.length := by omega
                clear hM' hL hfi hi hlt
                gi_wp2
                refine ⟨HKO.out.trans (KeepsOthers.setCell _ _ _), kpM_kept (S := fun b => b < wb.heap.size) (HKF.out.setCell (p := ⟨kb, 0, none⟩) (.inl hBs) _) (fun b e => e), ⟨?_, (HKO.out.trans (KeepsOthers.setCell _ _ _)).same E _ HE1.out rfl⟩, hq.out⟩
                rw [if_neg (by simp)]
                exact ((HL.out.set (.int .i64 1) HNE.out).subr (fun x hx => List.mem_cons_of_mem _ hx)).free (fun b e => by simp at e)
          | cons z pre' =>
            rw [if_neg (by simp)] at hC
            have HC := Lib.hid (hC.free (Z := fun _ => False) (fun b e => e.elim))
            obtain ⟨j, hj⟩ : ∃ j, (z :: pre').length = j := ⟨_, rfl⟩
            have hj0 : ((j : Int) == 0) = false := by rw [← hj]; simp; omega
            have HJ := Lib.hid hj
            rw [hj] at k0 y0 hlb'
            clear hC hj hlen
            gi_wp2
            refine ⟨KeepsOthers.setCell _ _ _, kpM_kept (S := fun b => b = kb) ((Kept.refl _ W).setCell (S := fun b => b = kb) (p := ⟨kb, 0, none⟩) (.inl rfl) _) (fun b e => by omega), ⟨?_, (KeepsOthers.setCell W _ _).same E _ HE1.out rfl⟩, hq.out⟩
            rw [if_neg (by simp), List.length_append, HJ.out]
            exact ((HC.out.set (.int .i64 ((j : Int) + 1)) HNE.out)).free (fun b e => by simp at e)
        · have hxy' : (x != y) = true := by simp [hxy]
          have HXY := Lib.hid hxy
          clear hxy hC
          obtain ⟨j, hj⟩ : ∃ j, pre.length = j := ⟨_, rfl⟩
          rw [hj] at k0 y0 hlb'
          have HJ := Lib.hid hj
          clear hj hlen
          gi_wp2
          exact ⟨KeepsOthers.setCell _ _ _, fun hp => HXY.out (pre_at hp HY.out)⟩
      case hdone =>
        rintro E2 xs W hE2 hxs ⟨⟨hC, hE1⟩, _⟩ hK2
        obtain rfl : D = xs := hxs.symm
        obtain ⟨G, hG⟩ : ∃ G, (if D = [] then L else M) = G := ⟨_, rfl⟩
        have hnone : dnl G false n = [] ∧ upl G n = [] := by
          rw [← hG]
          by_cases hD : D = []
          · rw [if_pos hD]
            have h1 := I.out.has_len n
            rw [HDD.out, hD] at h1
            exact ⟨by rw [HDD.out]; exact hD, up_no (by rw [h1]; simp)⟩
          · rw [if_neg hD]
            exact ⟨by unfold dnl; rw [if_neg (by rw [hgone.out]; decide)], up_no (by rw [hgone.out]; decide)⟩
        rw [hG] at hC
        have A3 := (hC.free (Z := fun _ => False) (fun b e => e.elim)).new 3 (.int .i64 0)
        have hne3 := hC.ne
        obtain ⟨lb, hlb⟩ : ∃ x, W.heap.size = x := ⟨_, rfl⟩
        have hE1' : (W.alloc (.cells #[.int .i64 0] 3)).heap[E]? = some (.deferred (some [])) := ((Below.refl _ W).alloc (Nat.le_refl _) _ |>.block E (lt_of_row hE1)).trans hE1
        have hE2' : (W.alloc (.cells #[.int .i64 0] 3)).heap[E2]? = some (.deferred (some [])) := ((Below.refl _ W).alloc (Nat.le_refl _) _ |>.block E2 (lt_of_row hK2)).trans hK2
        have HE12 := Lib.hid (show E ≠ E2 by omega)
        obtain ⟨wl, hwl⟩ : ∃ x, W.alloc (.cells #[.int .i64 0] 3) = x := ⟨_, rfl⟩
        rw [hwl] at A3 hE1' hE2'
        rw [hlb] at A3 hne3
        have HA3 := Lib.hid A3
        have HN3 := Lib.hid hne3
        have HE1 := Lib.hid hE1'
        have HE2 := Lib.hid hE2'
        have HLB := Lib.hid hlb
        have HWL := Lib.hid hwl
        have HNO := Lib.hid hnone
        clear hC A3 hne3 hE1 hK2 hE1' hE2' hlb hwl hnone hG ST
        gi_wp2
        rw [HWL.out, HLB.out]
        have ST := GD.out wl G _ _ (HA3.out.sub (fun x hx => List.mem_cons_of_mem _ hx)) (by rw [HNO.out.1]; simp)
        rw [HNO.out.1] at ST
        have hlE : E < wl.heap.size := lt_of_row HE1.out
        have hlE2 : E2 < wl.heap.size := lt_of_row HE2.out
        have hwl : w.heap.size ≤ wl.heap.size := HA3.out.wk.bel.size
        apply wpIn_rangeFunc_ownF (n := 12) rfl (by decide) (gf := 54) (lb := #[.pointer (some ⟨dn + 2, 0, none⟩)]) rfl trivial (enters_of Try.func54 (by kernel_rfl) rfl) ST KpM.trans (kpM_b (fun W l g o' hl e => mc_b W l g o' hl e)) (Below.refl _ _) (fun _ => rfl)
          (fun pre W => Al w W p g m G ((lb, 3, .int .i64 0) :: (kb, 3, .int .i64 (D.length : Int)) :: cl) rs (fun _ => False) ∧ W.heap[E]? = some (.deferred (some [])) ∧ W.heap[E2]? = some (.deferred (some []))) (fun _ _ _ => False)
          (fun s W W' row hs hg hr => ⟨hs.1.grown hg (fun r e => by have := (hr r e).1; omega) (fun r e => (hr r e).2), keep_mark hg hs.2.1 (fun r e => by have := (hr r e).1; omega), keep_mark hg hs.2.2 (fun r e => by have := (hr r e).1; omega)⟩)
          (fun _ _ _ _ _ hs _ _ => hs) ⟨HA3.out, HE1.out, HE2.out⟩
        case hassign =>
          intro l x W K hK
          gi_wp2
          exact hK
        case hbody =>
          intro l pre x W _ hlen
          exact absurd hlen (by simp)
        case hstop =>
          intro E3 c pre W _ _ h2 _
          exact h2.elim
        case hdone =>
          rintro E3 xs W3 hE3 _ ⟨hC, hE1, hE2⟩ hK3
          have HA4 := Lib.hid hC
          have HM1 := Lib.hid hE1
          have HM2 := Lib.hid hE2
          have HM3 := Lib.hid hK3
          have ST4 := GU.out W3 G _ _ (hC.sub (fun x hx => List.mem_cons_of_mem _ hx)) (by rw [HNO.out.2]; simp)
          rw [HNO.out.2] at ST4
          have hlF : E < W3.heap.size := lt_of_row hE1
          have hlF2 : E2 < W3.heap.size := lt_of_row hE2
          have hlF3 : E3 < W3.heap.size := lt_of_row hK3
          have hw3 : w.heap.size ≤ W3.heap.size := hC.wk.bel.size
          clear hC hE1 hE2 hK3 ST
          gi_wp2
          apply wpIn_rangeFunc_ownF (n := 12) rfl (by decide) (gf := 54) (lb := #[.pointer (some ⟨un + 2, 0, none⟩)]) rfl trivial (enters_of Try.func54 (by kernel_rfl) rfl) ST4 KpM.trans (kpM_b (fun W l g o' hl e => mc_b W l g o' hl e)) (Below.refl _ _) (fun _ => rfl)
            (fun pre W => Al w W p g m G ((lb, 3, .int .i64 0) :: (kb, 3, .int .i64 (D.length : Int)) :: cl) rs (fun _ => False) ∧ W.heap[E]? = some (.deferred (some [])) ∧ W.heap[E2]? = some (.deferred (some [])) ∧ W.heap[E3]? = some (.deferred (some []))) (fun _ _ _ => False)
            (fun s W W' row hs hg hr => ⟨hs.1.grown hg (fun r e => by have := (hr r e).1; omega) (fun r e => (hr r e).2), keep_mark hg hs.2.1 (fun r e => by have := (hr r e).1; omega), keep_mark hg hs.2.2.1 (fun r e => by have := (hr r e).1; omega), keep_mark hg hs.2.2.2 (fun r e => by have := (hr r e).1; omega)⟩)
            (fun _ _ _ _ _ hs _ _ => hs) ⟨HA4.out, HM1.out, HM2.out, HM3.out⟩
          case hassign =>
            intro l x W K hK
            gi_wp2
            exact hK
          case hbody =>
            intro l pre x W _ hlen
            exact absurd hlen (by simp)
          case hstop =>
            intro E4 c pre W _ _ h2 _
            exact h2.elim
          case hdone =>
            rintro E4 xs4 W4 hE4 _ ⟨hC, hE1, hE2, hE3⟩ hK4
            have hC2 := hC
            rw [← HCL.out] at hC2
            have l0 := (hC2.at 0 rfl).cell
            have k0 := (hC2.at 1 rfl).cell
            have d0 := (hC2.at 8 rfl).cell
            have r0 := (hC2.at 10 rfl).cell
            have r1 := (hC2.at 10 rfl).frozen
            have hr := (hC2.at 10 rfl).set (.bool true)
            have hb := hC2.wk.bel.setCell (p := ⟨w.heap.size + 1 + 1, 0, none⟩) (by simp; omega) (.bool true)
            have ko := KeepsOthers.setCell W4 ⟨w.heap.size + 1 + 1, 0, none⟩ (.bool true)
            have m4 := Lib.hid (ko.same E4 _ hK4 rfl)
            have m3 := Lib.hid (ko.same E3 _ hE3 rfl)
            have m2 := Lib.hid (ko.same E2 _ hE2 rfl)
            have m1 := Lib.hid (ko.same E _ hE1 rfl)
            have HR := Lib.hid hr
            have HB := Lib.hid hb
            have n12 := HE12.out
            have n34 : Hid (E3 ≠ E4 ∧ E2 ≠ E4 ∧ E ≠ E4) := ⟨by omega, by omega, by omega⟩
            have n33 : Hid (E2 ≠ E3 ∧ E ≠ E3) := ⟨by omega, by omega⟩
            clear hC hC2 hE1 hE2 hE3 hK4 hr hb ko ST4 n12
            gi_wp2
            have q3 := shut_mark n34.out.1 m3.out (E := E4)
            have q2 := shut_mark n34.out.2.1 m2.out (E := E4)
            have q1 := shut_mark n34.out.2.2 m1.out (E := E4)
            have p2 := shut_mark n33.out.1 q2 (E := E3)
            have p1 := shut_mark n33.out.2 q1 (E := E3)
            have o1 := shut_mark HE12.out p1 (E := E2)
            refine ⟨by simp, .inl ⟨_, _, rfl, run_takeDeferred m4.out, by simp, .inl ⟨_, _, rfl, run_takeDeferred q3, by simp, .inl ⟨_, _, rfl, run_takeDeferred p2, by simp, .inl ⟨_, _, rfl, run_takeDeferred o1, ?_⟩⟩⟩⟩⟩
            refine ⟨_, results_box rfl _ rfl (Try.isAgg4 _) (shut_box o1 (shut_box p2 (shut_box q3 (shut_box m4.out HR.out)))).cell, rfl, ?_⟩
            exact shut_below o1 (by omega) (shut_below p2 (by omega) (shut_below q3 (by omega) (shut_below m4.out (by omega) HB.out)))
      case hstop =>
        intro E2 c pre W _ h1 h2 _
        exact (h2 h1).elim
    · have hks : (kk : Int) = s := hkk.resolve_left hkd
      have hkd' : ((kk : Int) != (D.length : Int)) = true := by simp; omega
      have hks' : ((kk : Int) != s) = false := by simp [hks]
      clear hkk hkd hks
      gi_wp2
      refine ⟨trivial, ?_⟩
      gi_at_call 25
      refine (callsIn_wide.2 WI.out).mono ?_
      rintro e wa ⟨rfl, ba⟩
      have HB := Lib.hid ((HA.out.below ba).set (.int .i64 0) HNE.out)
      have hKa := (ba.block E (lt_of_row hK)).trans hK
      have hK1 : Hid ((wa.setCell ⟨kb, 0, none⟩ (.int .i64 0)).heap[E]? = some (.deferred (some []))) := (KeepsOthers.setCell wa ⟨kb, 0, none⟩ (.int .i64 0)).same E _ hKa rfl
      have hC2 := HA.out.below ba
      rw [← HCL.out] at hC2
      have k2 := (hC2.at 0 rfl).cell
      have k3 := (hC2.at 0 rfl).frozen
      clear WI hKa hK ba HA k0 d0 p0 s0 n0' hC2
      gi_wp2
      obtain ⟨wb, hwb⟩ : ∃ x, wa.setCell ⟨kb, 0, none⟩ (.int .i64 0) = x := ⟨_, rfl⟩
      rw [hwb] at HB hK1 ⊢
      clear hwb k2 k3
      have hBs : kb < wb.heap.size := (HB.out.at 0 rfl).lt
      have hwb : w.heap.size ≤ wb.heap.size := HB.out.wk.bel.size
      have hEs : E < wb.heap.size := lt_of_row hK1.out
      have ST := GD.out wb L _ _ HB.out (by rw [HDD.out]; omega)
      rw [HDD.out] at ST
      obtain ⟨M, hM⟩ : ∃ M, cuts L (fall L n) = M := ⟨_, rfl⟩
      have HM := Lib.hid hM
      have hgone : Hid (Kin.has M n = false) := by rw [← hM]; exact I.out.gone n
      clear hM
      apply wpIn_rangeFunc_ownF (n := 12) rfl (by decide) (gf := 54) (lb := #[.pointer (some ⟨dn + 2, 0, none⟩)]) rfl trivial (enters_of Try.func54 (by kernel_rfl) rfl) ST KpM.trans (kpM_b (fun W l g o' hl e => mc_b W l g o' hl e)) (Below.refl _ _) (fun _ => rfl)
        (fun pre W => (Al w W p g m (if pre = [] then L else M) ((kb, 3, .int .i64 (pre.length : Int)) :: cl) rs (fun b => pre = [] ∧ wb.heap.size ≤ b) ∧ W.heap[E]? = some (.deferred (some []))) ∧ pre <+: D) (fun c pre W => ¬ pre <+: D)
        (fun s W W' row hs hg hr => ⟨⟨hs.1.1.grown hg (fun r e => by have := (hr r e).1; omega) (fun r e => (hr r e).2), keep_mark hg hs.1.2 (fun r e => by have := (hr r e).1; omega)⟩, hs.2⟩)
        (fun _ _ _ _ _ hs _ _ => hs) ⟨⟨by rw [if_pos rfl]; exact HB.out.free (fun b e => .inr e.2), hK1.out⟩, List.nil_prefix⟩
      case hassign =>
        intro l x W K hK
        gi_wp2
        exact hK
      case hbody =>
        rintro l pre x W ⟨⟨hC, hE1⟩, hpre⟩ hlen
        obtain ⟨y, hy⟩ : ∃ y, D[pre.length]? = some y := ⟨_, List.getElem?_eq_getElem hlen⟩
        have hC2 := hC
        rw [← HCL.out, ← HRS.out] at hC2
        have k0 := (hC2.at 0 rfl).cell
        have k1 := (hC2.at 0 rfl).frozen
        have d0 := (hC2.at 7 rfl).cell
        have p1 := (hC2.at 8 rfl).cell
        have r0 := (hC2.at 9 rfl).cell
        have r1 := (hC2.at 9 rfl).frozen
        have n1 := (hC2.at 11 rfl).cell
        have OD := hC2.own 1 rfl
        obtain ⟨gd, rfl⟩ := own_block OD (by omega)
        have y0 := own_cell OD hy
        have HY := Lib.hid hy
        have HE1 := Lib.hid hE1
        have HP := Lib.hid hpre
        have hlb' : (pre.length : Int) < D.length := by omega
        clear hy OD hpre hC2 hE1
        by_cases hxy : x = y
        · have hxy' : (x != y) = false := by simp [hxy]
          have HXY := Lib.hid hxy
          have hq : Hid ((pre ++ [x]) <+: D) := pre_next HP.out (by rw [HXY.out]; exact HY.out)
          clear hxy HP HY
          cases pre with
          | nil =>
            rw [if_pos rfl] at hC
            have HC : Hid (Al w W p g m L ((kb, 3, .int .i64 0) :: cl) rs (fun b => wb.heap.size ≤ b)) := hC.free (fun b e => .inl ⟨rfl, e⟩)
            have k0' : W.cell? ⟨kb, 0, none⟩ = some (.int .i64 0) := k0
            have y0' : W.cell? ⟨gd, 0, none⟩ = some (.int .i64 y) := y0
            have hlb0 : (0 : Int) < D.length := hlb'
            have hD0 : ¬ D = [] := fun e => by rw [e] at hlb0; simp at hlb0
            obtain ⟨V, F, hkt⟩ := HC.out.kt
            have HF := Lib.hid (fall_any W p g m L V F hkt n)
            clear hC k0 y0 hlb' hkt hlen
            gi_wp2
            refine ⟨trivial, ?_⟩
            gi_at_call 16
            refine (callsIn_wide.2 HF.out).mono ?_
            rintro e wf ⟨Af, cf, rfl, o_f, bf, ff⟩
            have HL0 := Lib.hid ((HC.out.add bf o_f ff).free (Z := fun b => wb.heap.size ≤ b ∧ b < W.heap.size) (fun b e => .inl e.1))
            have HKF : Hid (Kept (fun b => b < wb.heap.size) W wf) := Kept.of_below bf
            have HKO : Hid (KeepsOthers W wf) := ⟨bf.size, fun k o hk _ => (bf.block k (lt_of_row hk)).trans hk⟩
            obtain ⟨f, hf⟩ : ∃ f, fall L n = f := ⟨_, rfl⟩
            rw [hf] at HL0 HM ⊢
            have HFf := Lib.hid hf
            have hfm : f.length ≤ m := by rw [← hf, I.out.fall_len, HDD.out]; exact hDm
            clear HF o_f bf ff HC hf k0' y0' k1 d0 p1 n1 r0 r1
            gi_wp2
            gi_loopw [22] (fun v22 wr => ∃ i : Nat, i ≤ f.length ∧ v22 = .int .i64 i ∧ Hid (Al w wr p g m (cuts L (f.take i)) ((kb, 3, .int .i64 0) :: cl) ((.slice Af f.length cf, f) :: rs) (fun b => wb.heap.size ≤ b ∧ b < W.heap.size)) ∧ Hid (Kept (fun b => b < wb.heap.size) W wr) ∧ Hid (KeepsOthers W wr)) (fun v22 _ => f.length - (intOf v22).toNat)
            case atStart => exact ⟨0, Nat.zero_le _, rfl, HL0, HKF, HKO⟩
            case round =>
              clear HL0 HKF HKO
              obtain ⟨i, hi, rfl, HL, HKF, HKO⟩ := hrel
              by_cases hlt : i < f.length
              · obtain ⟨x', hx'⟩ : ∃ x', f[i]? = some x' := ⟨_, List.getElem?_eq_getElem hlt⟩
                obtain ⟨g4, hg4⟩ := own_block (HL.out.own 0 rfl) (by omega)
                subst hg4
                have NX := I.out.cuts_next (n := n) (i := i) (x := x') (by rw [HFf.out]; exact hx')
                rw [HFf.out] at NX
                have HLd := Lib.hid (HL.out.below (Below.refl _ wr).drew)
                have HCu := Lib.hid (HLd.out.cut (fun b e => Nat.lt_of_lt_of_le e.2 HKF.out.size) x')
                rw [NX.1, NX.2.1] at HCu
                have hLd := HLd.out
                rw [← HCL.out] at hLd
                have c1 : wr.drew.cell? _ = _ := own_cell (hLd.own 0 rfl) hx'
                have q1 : wr.drew.cell? _ = _ := (hLd.at 8 rfl).cell
                have c2 : wr.cell? ⟨g4, i, none⟩ = some (.int .i64 x') := c1
                have q2 : wr.cell? ⟨tb, 0, none⟩ = some (.pointer (some ⟨p, 0, none⟩)) := q1
                clear NX hLd
                gi_wp2
                gi_region_with (refine ⟨trivial, ?_⟩; gi_at_call 22; (refine (callsIn_wide.2 HCu.out).mono ?_); rintro e w7 ⟨rfl, a7, k7, o7⟩)
                all_goals
                  have HA7 := Lib.hid a7
                  have HK7 : Hid (Kept (fun b => b < wb.heap.size) W w7) := HKF.out.drew.trans k7 (fun b e => by omega)
                  have HO7 : Hid (KeepsOthers W w7) := HKO.out.trans ((KeepsOthers.drew wr).trans o7)
                  clear a7 k7 o7 HL HKF HKO HLd HCu c1 q1 c2 q2 hx'
                  gi_wp2
                  exact ⟨⟨i + 1, by omega, by simp, HA7, HK7, HO7⟩, by simp [intOf]; omega⟩
              · have hfi : f.length = i := by omega
                have hM' : cuts L (f.take i) = M := by rw [← hfi, List.take_length]; exact HM.out
                rw [hM'] at HL
                have hL := HL.out
                rw [← HCL.out] at hL
                have k8 := (hL.at 0 rfl).cell
                have k9 := (hL.at 0 rfl).frozen
                have hii : ¬ (i : Int) < f.length := by omega
                clear hM' hL hfi hi hlt
                gi_wp2
                refine ⟨HKO.out.trans (KeepsOthers.setCell _ _ _), kpM_kept (S := fun b => b < wb.heap.size) (HKF.out.setCell (p := ⟨kb, 0, none⟩) (.inl hBs) _) (fun b e => e), ⟨?_, (HKO.out.trans (KeepsOthers.setCell _ _ _)).same E _ HE1.out rfl⟩, hq.out⟩
                rw [if_neg (by simp)]
                exact ((HL.out.set (.int .i64 1) HNE.out).subr (fun x hx => List.mem_cons_of_mem _ hx)).free (fun b e => by simp at e)
          | cons z pre' =>
            rw [if_neg (by simp)] at hC
            have HC := Lib.hid (hC.free (Z := fun _ => False) (fun b e => e.elim))
            obtain ⟨j, hj⟩ : ∃ j, (z :: pre').length = j := ⟨_, rfl⟩
            have hj0 : ((j : Int) == 0) = false := by rw [← hj]; simp; omega
            have HJ := Lib.hid hj
            rw [hj] at k0 y0 hlb'
            clear hC hj hlen
            gi_wp2
            refine ⟨KeepsOthers.setCell _ _ _, kpM_kept (S := fun b => b = kb) ((Kept.refl _ W).setCell (S := fun b => b = kb) (p := ⟨kb, 0, none⟩) (.inl rfl) _) (fun b e => by omega), ⟨?_, (KeepsOthers.setCell W _ _).same E _ HE1.out rfl⟩, hq.out⟩
            rw [if_neg (by simp), List.length_append, HJ.out]
            exact ((HC.out.set (.int .i64 ((j : Int) + 1)) HNE.out)).free (fun b e => by simp at e)
        · have hxy' : (x != y) = true := by simp [hxy]
          have HXY := Lib.hid hxy
          clear hxy hC
          obtain ⟨j, hj⟩ : ∃ j, pre.length = j := ⟨_, rfl⟩
          rw [hj] at k0 y0 hlb'
          have HJ := Lib.hid hj
          clear hj hlen
          gi_wp2
          exact ⟨KeepsOthers.setCell _ _ _, fun hp => HXY.out (pre_at hp HY.out)⟩
      case hdone =>
        rintro E2 xs W hE2 hxs ⟨⟨hC, hE1⟩, _⟩ hK2
        obtain rfl : D = xs := hxs.symm
        obtain ⟨G, hG⟩ : ∃ G, (if D = [] then L else M) = G := ⟨_, rfl⟩
        have hnone : dnl G false n = [] ∧ upl G n = [] := by
          rw [← hG]
          by_cases hD : D = []
          · rw [if_pos hD]
            have h1 := I.out.has_len n
            rw [HDD.out, hD] at h1
            exact ⟨by rw [HDD.out]; exact hD, up_no (by rw [h1]; simp)⟩
          · rw [if_neg hD]
            exact ⟨by unfold dnl; rw [if_neg (by rw [hgone.out]; decide)], up_no (by rw [hgone.out]; decide)⟩
        rw [hG] at hC
        have A3 := (hC.free (Z := fun _ => False) (fun b e => e.elim)).new 3 (.int .i64 0)
        have hne3 := hC.ne
        obtain ⟨lb, hlb⟩ : ∃ x, W.heap.size = x := ⟨_, rfl⟩
        have hE1' : (W.alloc (.cells #[.int .i64 0] 3)).heap[E]? = some (.deferred (some [])) := ((Below.refl _ W).alloc (Nat.le_refl _) _ |>.block E (lt_of_row hE1)).trans hE1
        have hE2' : (W.alloc (.cells #[.int .i64 0] 3)).heap[E2]? = some (.deferred (some [])) := ((Below.refl _ W).alloc (Nat.le_refl _) _ |>.block E2 (lt_of_row hK2)).trans hK2
        have HE12 := Lib.hid (show E ≠ E2 by omega)
        obtain ⟨wl, hwl⟩ : ∃ x, W.alloc (.cells #[.int .i64 0] 3) = x := ⟨_, rfl⟩
        rw [hwl] at A3 hE1' hE2'
        rw [hlb] at A3 hne3
        have HA3 := Lib.hid A3
        have HN3 := Lib.hid hne3
        have HE1 := Lib.hid hE1'
        have HE2 := Lib.hid hE2'
        have HLB := Lib.hid hlb
        have HWL := Lib.hid hwl
        have HNO := Lib.hid hnone
        clear hC A3 hne3 hE1 hK2 hE1' hE2' hlb hwl hnone hG ST
        gi_wp2
        rw [HWL.out, HLB.out]
        have ST := GD.out wl G _ _ (HA3.out.sub (fun x hx => List.mem_cons_of_mem _ hx)) (by rw [HNO.out.1]; simp)
        rw [HNO.out.1] at ST
        have hlE : E < wl.heap.size := lt_of_row HE1.out
        have hlE2 : E2 < wl.heap.size := lt_of_row HE2.out
        have hwl : w.heap.size ≤ wl.heap.size := HA3.out.wk.bel.size
        apply wpIn_rangeFunc_ownF (n := 12) rfl (by decide) (gf := 54) (lb := #[.pointer (some ⟨dn + 2, 0, none⟩)]) rfl trivial (enters_of Try.func54 (by kernel_rfl) rfl) ST KpM.trans (kpM_b (fun W l g o' hl e => mc_b W l g o' hl e)) (Below.refl _ _) (fun _ => rfl)
          (fun pre W => Al w W p g m G ((lb, 3, .int .i64 0) :: (kb, 3, .int .i64 (D.length : Int)) :: cl) rs (fun _ => False) ∧ W.heap[E]? = some (.deferred (some [])) ∧ W.heap[E2]? = some (.deferred (some []))) (fun _ _ _ => False)
          (fun s W W' row hs hg hr => ⟨hs.1.grown hg (fun r e => by have := (hr r e).1; omega) (fun r e => (hr r e).2), keep_mark hg hs.2.1 (fun r e => by have := (hr r e).1; omega), keep_mark hg hs.2.2 (fun r e => by have := (hr r e).1; omega)⟩)
          (fun _ _ _ _ _ hs _ _ => hs) ⟨HA3.out, HE1.out, HE2.out⟩
        case hassign =>
          intro l x W K hK
          gi_wp2
          exact hK
        case hbody =>
          intro l pre x W _ hlen
          exact absurd hlen (by simp)
        case hstop =>
          intro E3 c pre W _ _ h2 _
          exact h2.elim
        case hdone =>
          rintro E3 xs W3 hE3 _ ⟨hC, hE1, hE2⟩ hK3
          have HA4 := Lib.hid hC
          have HM1 := Lib.hid hE1
          have HM2 := Lib.hid hE2
          have HM3 := Lib.hid hK3
          have ST4 := GU.out W3 G _ _ (hC.sub (fun x hx => List.mem_cons_of_mem _ hx)) (by rw [HNO.out.2]; simp)
          rw [HNO.out.2] at ST4
          have hlF : E < W3.heap.size := lt_of_row hE1
          have hlF2 : E2 < W3.heap.size := lt_of_row hE2
          have hlF3 : E3 < W3.heap.size := lt_of_row hK3
          have hw3 : w.heap.size ≤ W3.heap.size := hC.wk.bel.size
          clear hC hE1 hE2 hK3 ST
          gi_wp2
          apply wpIn_rangeFunc_ownF (n := 12) rfl (by decide) (gf := 54) (lb := #[.pointer (some ⟨un + 2, 0, none⟩)]) rfl trivial (enters_of Try.func54 (by kernel_rfl) rfl) ST4 KpM.trans (kpM_b (fun W l g o' hl e => mc_b W l g o' hl e)) (Below.refl _ _) (fun _ => rfl)
            (fun pre W => Al w W p g m G ((lb, 3, .int .i64 0) :: (kb, 3, .int .i64 (D.length : Int)) :: cl) rs (fun _ => False) ∧ W.heap[E]? = some (.deferred (some [])) ∧ W.heap[E2]? = some (.deferred (some [])) ∧ W.heap[E3]? = some (.deferred (some []))) (fun _ _ _ => False)
            (fun s W W' row hs hg hr => ⟨hs.1.grown hg (fun r e => by have := (hr r e).1; omega) (fun r e => (hr r e).2), keep_mark hg hs.2.1 (fun r e => by have := (hr r e).1; omega), keep_mark hg hs.2.2.1 (fun r e => by have := (hr r e).1; omega), keep_mark hg hs.2.2.2 (fun r e => by have := (hr r e).1; omega)⟩)
            (fun _ _ _ _ _ hs _ _ => hs) ⟨HA4.out, HM1.out, HM2.out, HM3.out⟩
          case hassign =>
            intro l x W K hK
            gi_wp2
            exact hK
          case hbody =>
            intro l pre x W _ hlen
            exact absurd hlen (by simp)
          case hstop =>
            intro E4 c pre W _ _ h2 _
            exact h2.elim
          case hdone =>
            rintro E4 xs4 W4 hE4 _ ⟨hC, hE1, hE2, hE3⟩ hK4
            have hC2 := hC
            rw [← HCL.out] at hC2
            have l0 := (hC2.at 0 rfl).cell
            have k0 := (hC2.at 1 rfl).cell
            have d0 := (hC2.at 8 rfl).cell
            have r0 := (hC2.at 10 rfl).cell
            have r1 := (hC2.at 10 rfl).frozen
            have hr := (hC2.at 10 rfl).set (.bool true)
            have hb := hC2.wk.bel.setCell (p := ⟨w.heap.size + 1 + 1, 0, none⟩) (by simp; omega) (.bool true)
            have ko := KeepsOthers.setCell W4 ⟨w.heap.size + 1 + 1, 0, none⟩ (.bool true)
            have m4 := Lib.hid (ko.same E4 _ hK4 rfl)
            have m3 := Lib.hid (ko.same E3 _ hE3 rfl)
            have m2 := Lib.hid (ko.same E2 _ hE2 rfl)
            have m1 := Lib.hid (ko.same E _ hE1 rfl)
            have HR := Lib.hid hr
            have HB := Lib.hid hb
            have n12 := HE12.out
            have n34 : Hid (E3 ≠ E4 ∧ E2 ≠ E4 ∧ E ≠ E4) := ⟨by omega, by omega, by omega⟩
            have n33 : Hid (E2 ≠ E3 ∧ E ≠ E3) := ⟨by omega, by omega⟩
            clear hC hC2 hE1 hE2 hE3 hK4 hr hb ko ST4 n12
            gi_wp2
            have q3 := shut_mark n34.out.1 m3.out (E := E4)
            have q2 := shut_mark n34.out.2.1 m2.out (E := E4)
            have q1 := shut_mark n34.out.2.2 m1.out (E := E4)
            have p2 := shut_mark n33.out.1 q2 (E := E3)
            have p1 := shut_mark n33.out.2 q1 (E := E3)
            have o1 := shut_mark HE12.out p1 (E := E2)
            refine ⟨by simp, .inl ⟨_, _, rfl, run_takeDeferred m4.out, by simp, .inl ⟨_, _, rfl, run_takeDeferred q3, by simp, .inl ⟨_, _, rfl, run_takeDeferred p2, by simp, .inl ⟨_, _, rfl, run_takeDeferred o1, ?_⟩⟩⟩⟩⟩
            refine ⟨_, results_box rfl _ rfl (Try.isAgg4 _) (shut_box o1 (shut_box p2 (shut_box q3 (shut_box m4.out HR.out)))).cell, rfl, ?_⟩
            exact shut_below o1 (by omega) (shut_below p2 (by omega) (shut_below q3 (by omega) (shut_below m4.out (by omega) HB.out)))
      case hstop =>
        intro E2 c pre W _ h1 h2 _
        exact (h2 h1).elim
  have ST := GD.out w9 L _ _ HA9.out (by rw [HDD.out]; omega)
  rw [HDD.out] at ST
  apply wpIn_rangeFunc_ownF (n := 12) rfl (by decide) (gf := 54) (lb := #[.pointer (some ⟨dn + 2, 0, none⟩)]) rfl trivial (enters_of Try.func54 (by kernel_rfl) rfl) ST KpM.trans (kpM_b (fun W l g o' hl e => mc_b W l g o' hl e)) (Below.refl _ _) (fun _ => rfl)
    (fun pre W => Al w W p g m L ((kb, 3, .int .i64 (pre.length : Int)) :: cl) rs (fun _ => False) ∧ pre <+: D) (fun c pre W => ¬ pre <+: D ∨ (c = .exit 0 ∧ Al w W p g m L ((kb, 3, .int .i64 (pre.length : Int)) :: cl) rs (fun _ => False) ∧ (pre.length : Int) = s)) (fun s W W' row hs hg hr => ⟨hs.1.grown hg (fun r e => by have := (hr r e).1; omega) (fun r e => (hr r e).2), hs.2⟩)
    (fun c s W W' row hs hg hr => by
      rcases hs with hs | ⟨h1, h2, h3⟩
      · exact .inl hs
      · exact .inr ⟨h1, h2.grown hg (fun r e => by have := (hr r e).1; omega) (fun r e => (hr r e).2), h3⟩) ⟨HA9.out, List.nil_prefix⟩
  case hassign =>
    intro l x W K hK
    gi_wp2
    exact hK
  case hbody =>
    clear REST
    rintro l pre x W ⟨hC, hpre⟩ hlen
    obtain ⟨y, hy⟩ : ∃ y, D[pre.length]? = some y := ⟨_, List.getElem?_eq_getElem hlen⟩
    have hC2 := hC
    rw [← HCL.out, ← HRS.out] at hC2
    have k0 := (hC2.at 0 rfl).cell
    have k1 := (hC2.at 0 rfl).frozen
    have d0 := (hC2.at 7 rfl).cell
    have r0 := (hC2.at 9 rfl).cell
    have r1 := (hC2.at 9 rfl).frozen
    have s0 := (hC2.at 10 rfl).cell
    have OD := hC2.own 1 rfl
    obtain ⟨gd, rfl⟩ := own_block OD (by omega)
    have y0 := own_cell OD hy
    have HY := Lib.hid hy
    have HC := Lib.hid hC
    have HP := Lib.hid hpre
    have hlb' : (pre.length : Int) < D.length := by omega
    obtain ⟨j, hj⟩ : ∃ j, pre.length = j := ⟨_, rfl⟩
    have HJ := Lib.hid hj
    rw [hj] at k0 y0 hlb'
    clear hC hy OD hlen hpre hj hC2
    have hset := HC.out
    rw [HJ.out] at hset
    have HST := Lib.hid (hset.set (.int .i64 ((j : Int) + 1)) HNE.out)
    clear hset
    have hset2 := HST.out
    rw [← HCL.out] at hset2
    have t0 := (hset2.at 0 rfl).cell
    have t1 := (hset2.at 10 rfl).cell
    clear hset2
    by_cases hxy : x = y
    · have hxy' : (x != y) = false := by simp [hxy]
      have HXY := Lib.hid hxy
      have hq : Hid ((pre ++ [x]) <+: D) := pre_next HP.out (by rw [HXY.out]; exact HY.out)
      clear hxy
      by_cases hst : (j : Int) + 1 = s
      · have hst' : ((j : Int) + 1 == s) = true := by simp [hst]
        have HS := Lib.hid hst
        clear hst
        gi_wp2
        refine ⟨KeepsOthers.setCell _ _ _, .inr ⟨rfl, ?_, ?_⟩⟩
        · rw [List.length_append, HJ.out]; exact HST.out
        · rw [List.length_append, HJ.out]; exact HS.out
      · have hst' : ((j : Int) + 1 == s) = false := by simp [hst]
        clear hst
        gi_wp2
        refine ⟨KeepsOthers.setCell _ _ _, ?_, ?_, hq.out⟩
        · exact kpM_kept (S := fun b => b = kb) ((Kept.refl _ W).setCell (S := fun b => b = kb) (p := ⟨kb, 0, none⟩) (.inl rfl) _) (fun b e => by omega)
        · rw [List.length_append, HJ.out]; exact HST.out
    · have hxy' : (x != y) = true := by simp [hxy]
      have HXY := Lib.hid hxy
      clear hxy
      gi_wp2
      exact ⟨KeepsOthers.setCell _ _ _, .inl (fun hp => HXY.out (pre_at hp HY.out))⟩
  case hdone =>
    rintro E xs W hE rfl ⟨hC, _⟩ hK
    exact REST E W xs.length hE hK hC (.inl rfl)
  case hstop =>
    rintro E c pre W hE h1 h2 hK
    rcases h2 with h2 | ⟨rfl, h3, h4⟩
    · exact (h2 h1).elim
    · refine wpIn_exit (inBlock_exit ?_)
      exact REST E W pre.length hE hK h3 (.inr h4)
end Go.Proofs.Ytkmmpagflbnenaa.Kin

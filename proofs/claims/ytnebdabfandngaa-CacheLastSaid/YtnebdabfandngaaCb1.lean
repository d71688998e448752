/- CacheScripts: the walk. -/
import Derived.Test.YtnebdabfandngaaCa9
namespace Go.Proofs.Ytnebdabfandngaa.C
open Go.RowKit Go.Proofs.Ytnebdabfandngaa.Mem
structure Ops where
  kind : Int
  c : Cap
  n : Int
def opL (o : Ops) : List Value := [.int .i64 o.kind, .int .i64 o.c.obj, .int .u64 o.c.hi, .int .u64 o.c.lo, .int .i64 o.n]
def ReadsOps (w : World) (v : Value) (l : List Ops) : Prop :=
  ∃ A c, v = .slice A l.length c ∧ l.length ≤ c ∧ c ≤ maxLen ∧ l.length ≤ 140737488355328 ∧ (0 < l.length → ∃ g o, A = some ⟨g, o, none⟩ ∧ ∀ i x, l[i]? = some x → ∀ j u, (opL x)[j]? = some u → w.cell? ⟨g, o + i * 5 + j, none⟩ = some u)
def FF (W : World) (p : Nat) (b : Nat) : Prop := b ≠ p ∧ W.heap.size ≤ b
/-- Both caches, alike. -/
structure Bo (W : World) (p r sets ways : Nat) (knob : Int) (L : List En) (epoch N yes no : Int) (w : World) : Prop where
  k : KAt w p sets ways knob L epoch N yes no
  r' : RAt w r sets ways knob epoch yes no L (FF W p)
  below : Below W.heap.size W w
  hp : W.heap.size ≤ p
section
variable {W w w' : World} {p r sets ways : Nat} {knob epoch N yes no e2 y2 n2 : Int} {L L2 : List En}
theorem Bo.box (h : Bo W p r sets ways knob L epoch N yes no w) (hb : Below w.heap.size w w') : Bo W p r sets ways knob L epoch N yes no w' :=
  ⟨h.k.below hb, h.r'.below hb, h.below.trans (hb.mono h.below.size), h.hp⟩
/-- The program's cache was called. -/
theorem Bo.ours (h : Bo W p r sets ways knob L epoch N yes no w) (hk : Kept (fun b => b = p) w w') : RAt w' r sets ways knob epoch yes no L (FF W p) ∧ Below W.heap.size W w' :=
  ⟨h.r'.kept hk (fun _ hb => hb.1), h.below.trans (hk.below (fun b hb => by rw [hb]; exact h.hp) h.below.size)⟩
theorem kept_theirs {L' : List En} {e' N' y' n' : Int} (h : KAt w p sets ways knob L' e' N' y' n') (hk : Kept (FF W p) w w') : KAt w' p sets ways knob L' e' N' y' n' := h.kept hk (fun hf => hf.1 rfl)
end
theorem epoch_quiet (w : World) (n : Nat) (p sets ways : Nat) (knob : Int) (L : List En) (epoch N hits misses : Int) (h : KAt w p sets ways knob L epoch N hits misses) :
    Calls Try.prog 17 #[.pointer (some ⟨p, 0, none⟩)] (w.drewN n) fun x w'' => x = .returned (.int .i64 epoch) ∧ ∃ m, w'' = w.drewN m :=
  (k_epoch _ p sets ways knob L epoch N hits misses (h.below (below_drewN w n))).mono (by rintro x w' ⟨rfl, rfl⟩; exact ⟨rfl, n, rfl⟩)
set_option maxHeartbeats 4000000 in
set_option maxRecDepth 100000 in
theorem law_scripts_no (w : World) (s a k : Int) (v : Value) (hbad : s < 0 ∨ 16 < s ∨ a < 1 ∨ 4 < a ∨ k < 0 ∨ 64 < k) : Calls Try.prog 3 #[.int .i64 s, .int .i64 a, .int .i64 k, v] w fun e w' => e = .returned (.bool true) ∧ Below w.heap.size w w' := by
  have H1 := Lib.hid (new_no w s a k hbad)
  have H2 := Lib.hid (rnew_no w s a k hbad)
  clear hbad
  go_enter Try.func3, Try.ntmps3
  go_wp2_with (first | (go_at_call 6; (with_reducible refine H1.out.mono ?_); rintro e w1 ⟨rfl, rfl⟩) | (go_at_call 7; (with_reducible refine H2.out.mono ?_); rintro e w1 ⟨rfl, rfl⟩) | (go_at_call 8; (with_reducible refine (num_any _ _).mono ?_); rintro e w2 ⟨rfl, rfl⟩) | (go_at_call 9; (with_reducible refine (alive_any _).mono ?_); rintro e w2 ⟨rfl, b2⟩; have HB2 := Lib.hid b2; clear b2) | fail)
  go_ret
  exact ⟨rfl, HB2.out⟩
set_option maxHeartbeats 8000000 in
set_option maxRecDepth 100000 in
theorem law_scripts_in (w : World) (sets ways : Nat) (k : Int) (v : Value) (l : List Ops) (hv : ReadsOps w v l) (h1 : sets ≤ 16) (h2 : 1 ≤ ways) (h3 : ways ≤ 4) (h4 : 0 ≤ k) (h5 : k ≤ 64) : Calls Try.prog 3 #[.int .i64 sets, .int .i64 ways, .int .i64 k, v] w fun e w' => e = .returned (.bool true) ∧ Below w.heap.size w w' := by
  obtain ⟨A, cl0, rfl, hlc, hcm, hl47, hA⟩ := hv
  unfold maxLen at hcm
  obtain ⟨n, hn⟩ : ∃ n, l.length = n := ⟨_, rfl⟩
  have HA := Lib.hid hA
  rw [hn] at HA hlc hl47 ⊢
  have HN := Lib.hid hn
  have H1 := Lib.hid (k_new w sets ways k h1 h2 h3 h4 h5)
  have H2 := Lib.hid (fun w => rnew_any w (sets : Int) (ways : Int) k (by omega) (by omega) (by omega) (by omega) h4 h5)
  clear hA hn
  go_enter Try.func3, Try.ntmps3
  go_wp2_with fail
  refine H1.out.mono ?_
  rintro e w1 ⟨p, rfl, g1, b1, hp⟩
  have HK1 := Lib.hid g1
  have HB1 := Lib.hid b1
  have hpl := g1.lt
  clear g1 b1 H1
  go_wp2_with fail
  refine (H2.out w1).mono ?_
  rintro e w2 ⟨r, rfl, g2, b2, hr⟩
  have hsz1 := HB1.out.size
  have B2 : Hid (Bo w p r sets ways k [] 0 0 0 0 w2) := ⟨HK1.out.below b2, g2 (FF w p) ⟨by omega, by omega⟩, HB1.out.trans (b2.mono hsz1), hp⟩
  clear g2 b2 HK1 HB1 H2
  go_wp2_with (first | (go_at_call 8; (with_reducible refine (num_any _ _).mono ?_); rintro e w3 ⟨rfl, rfl⟩) | (go_at_call 9; (with_reducible refine (alive_any _).mono ?_); rintro e w3 ⟨rfl, b3⟩; have B3 := Lib.hid (B2.out.box b3); clear b3) | fail)
  clear B2
  have hn47 : n ≤ 140737488355328 := by omega
  go_loopw [13] (fun v13 wr => ∃ (i : Nat) (L : List En) (ep yes no : Int), i ≤ n ∧ v13 = .int .i64 i ∧ Hid (Bo w p r sets ways k L ep i yes no wr)) (fun v13 _ => n - (intOf v13).toNat)
  case atStart => exact ⟨0, [], 0, 0, 0, Nat.zero_le _, rfl, B3⟩
  case round =>
    clear B3
    obtain ⟨i, L, ep, yes, no, hi, rfl, HB⟩ := hrel
    by_cases hlt : i < n
    · obtain ⟨x, hx⟩ : ∃ x, l[i]? = some x := ⟨_, List.getElem?_eq_getElem (by rw [HN.out]; exact hlt)⟩
      obtain ⟨g, o, rfl, hcell⟩ := HA.out (by omega)
      have hc := hcell i x hx
      have yy : ∀ (j : Nat) (u : Value), (opL x)[j]? = some u → wr.cell? ⟨g, o + i * 5 + j, none⟩ = some u := fun j u hu => by
        have := hc j u hu
        exact (HB.out.below.cell (World.block_lt_of_cell? w _ this)).trans this
      have y0 : wr.cell? ⟨g, o + i * 5, none⟩ = some (.int .i64 x.kind) := yy 0 _ rfl
      have y1 := yy 1 _ rfl
      have y2 := yy 2 _ rfl
      have y3 := yy 3 _ rfl
      have y4 := yy 4 _ rfl
      clear hc yy hx hcell
      obtain ⟨kind, c, nn⟩ := x
      have hbx := (Below.refl _ wr).alloc (Nat.le_refl _) (.cells #[.int .i64 kind, .int .i64 c.obj, .int .u64 c.hi, .int .u64 c.lo, .int .i64 nn] 38)
      have BX := Lib.hid (HB.out.box hbx)
      have hpl2 := HB.out.k.lt
      have hrl2 : r < wr.heap.size := by
        obtain ⟨_, hh⟩ := HB.out.r'
        exact lt_of_row hh.row
      have hgp : wr.heap.size ≠ p := by omega
      have hgr : wr.heap.size ≠ r := by omega
      have hrp : r ≠ p := by
        obtain ⟨_, hh⟩ := HB.out.r'
        exact hh.hr.1
      have hrw : w.heap.size ≤ r := by
        obtain ⟨_, hh⟩ := HB.out.r'
        exact hh.hr.2
      have hi47 : (i : Int) < 4000000000000000000 := by omega
      have HRF : Hid (∀ b, b = r → FF w p b) := fun b hb => by rw [hb]; exact ⟨hrp, hrw⟩
      have HFF : Hid (∀ w' : World, Below w.heap.size w w' → p < w'.heap.size → ∀ b, w'.heap.size ≤ b → FF w p b) := fun w' hb hpl b hbb => ⟨by omega, Nat.le_trans hb.size hbb⟩
      go_upto_block 2 with (fail)
      go_cut [14] (fun v14 wc => ∃ (L' : List En) (ep' yes' no' : Int), v14 = .pointer (some ⟨wr.heap.size, 0, none⟩) ∧ Hid (Bo w p r sets ways k L' ep' ((i : Int) + 1) yes' no' wc))
      case first =>
        by_cases hk1 : kind = 1
        · subst hk1
          go_wp2_with fail
          refine (k_get _ p sets ways k L ep i yes no BX.out.k h3 h1 c).mono ?_
          rintro e w5 ⟨rfl, g5, k5⟩
          obtain ⟨q5, b5⟩ := BX.out.ours k5
          have z1 : w5.cell? ⟨wr.heap.size, 1, none⟩ = some (.int .i64 c.obj) := (k5.cell (by simp) hgp).trans (by simp)
          have z2 : w5.cell? ⟨wr.heap.size, 2, none⟩ = some (.int .u64 c.hi) := (k5.cell (by simp) hgp).trans (by simp)
          have z3 : w5.cell? ⟨wr.heap.size, 3, none⟩ = some (.int .u64 c.lo) := (k5.cell (by simp) hgp).trans (by simp)
          have HG5 := Lib.hid g5
          have HQ5 := Lib.hid q5
          have HB5 := Lib.hid b5
          clear g5 q5 b5 k5
          obtain ⟨R, hR⟩ : ∃ R, look L c = R := ⟨_, rfl⟩
          have HG := Lib.hid (rget_any w5 r sets ways k ep yes no L (FF w p) HQ5.out c)
          rw [hR] at HG5 HG ⊢
          clear hR
          cases R with
          | some m =>
            go_wp2_with fail
            refine HG.out.mono ?_
            rintro e w6 ⟨rfl, g6, k6⟩
            have B6 : Hid (Bo w p r sets ways k L ep ((i : Int) + 1) _ _ w6) := ⟨(kept_theirs HG5.out (k6.mono HRF.out)).more (by omega), g6, HB5.out.trans (k6.below (fun b hb => by rw [hb]; exact hrw) HB5.out.size), HB.out.hp⟩
            clear g6 k6 HG HG5 HQ5 HB5
            go_wp2
            go_meet
            exact ⟨L, ep, _, _, rfl, B6⟩
          | none =>
            go_wp2_with fail
            refine HG.out.mono ?_
            rintro e w6 ⟨rfl, g6, k6⟩
            have B6 : Hid (Bo w p r sets ways k L ep ((i : Int) + 1) _ _ w6) := ⟨(kept_theirs HG5.out (k6.mono HRF.out)).more (by omega), g6, HB5.out.trans (k6.below (fun b hb => by rw [hb]; exact hrw) HB5.out.size), HB.out.hp⟩
            clear g6 k6 HG HG5 HQ5 HB5
            go_wp2
            go_meet
            exact ⟨L, ep, _, _, rfl, B6⟩
        · have e1 : (kind == 1) = false := by simpa using hk1
          by_cases hk2 : kind = 2
          · subst hk2
            clear e1 hk1
            go_wp2_with fail
            refine (k_put _ p sets ways k L ep i yes no BX.out.k h3 (by omega) h1 hi47 c nn).mono ?_
            rintro e w5 ⟨rfl, g5, k5⟩
            obtain ⟨q5, b5⟩ := BX.out.ours k5
            have z1 : w5.cell? ⟨wr.heap.size, 1, none⟩ = some (.int .i64 c.obj) := (k5.cell (by simp) hgp).trans (by simp)
            have z2 : w5.cell? ⟨wr.heap.size, 2, none⟩ = some (.int .u64 c.hi) := (k5.cell (by simp) hgp).trans (by simp)
            have z3 : w5.cell? ⟨wr.heap.size, 3, none⟩ = some (.int .u64 c.lo) := (k5.cell (by simp) hgp).trans (by simp)
            have z4 : w5.cell? ⟨wr.heap.size, 4, none⟩ = some (.int .i64 nn) := (k5.cell (by simp) hgp).trans (by simp)
            have HG5 := Lib.hid g5
            have HB5 := Lib.hid b5
            have HG := Lib.hid (rput_k w5 r sets ways k ep yes no L (FF w p) (HFF.out w5 b5 g5.lt) q5 h1 (by have := BX.out.k.len; omega) h3 (by omega) c nn)
            clear g5 q5 b5 k5
            go_wp2_with fail
            refine HG.out.mono ?_
            rintro e w6 ⟨rfl, g6, k6⟩
            have B6 : Hid (Bo w p r sets ways k (putL sets ways k L c nn) ep ((i : Int) + 1) yes no w6) := ⟨kept_theirs HG5.out k6, g6, HB5.out.trans (k6.below (fun b hb => hb.2) HB5.out.size), HB.out.hp⟩
            clear g6 k6 HG HG5 HB5
            go_wp2
            go_meet
            exact ⟨_, ep, _, _, rfl, B6⟩
          · have e2 : (kind == 2) = false := by simpa using hk2
            have he := BX.out.k.epochs
            obtain ⟨he0, he1⟩ := he
            by_cases hk3 : kind = 3
            · subst hk3
              clear e1 e2 hk1 hk2
              go_wp2_with fail
              refine (k_turn _ p sets ways k L ep i yes no BX.out.k).mono ?_
              rintro e w5 ⟨rfl, g5, k5⟩
              obtain ⟨q5, b5⟩ := BX.out.ours k5
              have HG5 := Lib.hid g5
              have HB5 := Lib.hid b5
              have HG := Lib.hid (rturn_any w5 r sets ways k ep yes no L (FF w p) q5 he0 he1)
              clear g5 q5 b5 k5
              go_wp2_with fail
              refine HG.out.mono ?_
              rintro e w6 ⟨rfl, g6, k6⟩
              have B6 : Hid (Bo w p r sets ways k [] _ ((i : Int) + 1) yes no w6) := ⟨(kept_theirs HG5.out (k6.mono HRF.out)).more (by omega), g6, HB5.out.trans (k6.below (fun b hb => by rw [hb]; exact hrw) HB5.out.size), HB.out.hp⟩
              clear g6 k6 HG HG5 HB5
              go_wp2
              go_meet
              exact ⟨_, _, _, _, rfl, B6⟩
            · have e3 : (kind == 3) = false := by simpa using hk3
              by_cases hk4 : kind = 4
              · subst hk4
                clear e1 e2 e3 hk1 hk2 hk3
                have t1 := Int.tmod_lt_of_pos nn (b := 600) (by decide)
                have t2 := Int.lt_tmod_of_pos nn (b := 600) (by decide)
                obtain ⟨q, hq⟩ : ∃ q, nn.tmod 600 = q := ⟨_, rfl⟩
                go_wp2_with fail
                obtain ⟨m0, hm0⟩ : ∃ m0 : Nat, q % 600 = (m0 : Int) := ⟨(q % 600).toNat, by omega⟩
                have hm6 : m0 ≤ 600 := by omega
                rw [hm0]
                clear hq t1 t2 hm0
                go_loopw [19] (fun v19 w5 => ∃ (m : Nat) (L5 : List En) (ep5 : Int), m ≤ 600 ∧ v19 = .int .i64 m ∧ Hid (Bo w p r sets ways k L5 ep5 i yes no w5)) (fun v19 _ => (intOf v19).toNat)
                case atStart => exact ⟨m0, L, ep, hm6, rfl, BX⟩
                case round =>
                  clear BX he0 he1 HB y0 y1 y2 y3 y4 hbx
                  obtain ⟨m, L5, ep5, hm, rfl, BX⟩ := hrel
                  have he := BX.out.k.epochs
                  obtain ⟨he0, he1⟩ := he
                  have hph := BX.out.hp
                  rcases Nat.eq_zero_or_pos m with rfl | hm0
                  · have B6 : Hid (Bo w p r sets ways k L5 ep5 ((i : Int) + 1) yes no _) := ⟨BX.out.k.more (by omega), BX.out.r', BX.out.below, BX.out.hp⟩
                    clear BX
                    go_wp2
                    go_meet
                    exact ⟨_, _, _, _, rfl, B6⟩
                  · have hmz : (0 : Int) < (m : Int) := by omega
                    go_wp2_with fail
                    refine (k_turn _ p sets ways k L5 ep5 i yes no BX.out.k).mono ?_
                    rintro e w5 ⟨rfl, g5, k5⟩
                    obtain ⟨q5, b5⟩ := BX.out.ours k5
                    have HG5 := Lib.hid g5
                    have HB5 := Lib.hid b5
                    have HG := Lib.hid (rturn_any w5 r sets ways k ep5 yes no L5 (FF w p) q5 he0 he1)
                    clear g5 q5 b5 k5
                    go_wp2_with fail
                    refine HG.out.mono ?_
                    rintro e w6 ⟨rfl, g6, k6⟩
                    have B6 : Hid (Bo w p r sets ways k [] _ i yes no w6) := ⟨kept_theirs HG5.out (k6.mono HRF.out), g6, HB5.out.trans (k6.below (fun b hb => by rw [hb]; exact hrw) HB5.out.size), hph⟩
                    clear g6 k6 HG HG5 HB5
                    go_wp2_with fail
                    exact ⟨⟨m - 1, _, _, by omega, by simp; omega, B6⟩, by simp [intOf]; omega⟩
              · have e4 : (kind == 4) = false := by simpa using hk4
                have B6 : Hid (Bo w p r sets ways k L ep ((i : Int) + 1) yes no _) := ⟨BX.out.k.more (by omega), BX.out.r', BX.out.below, HB.out.hp⟩
                clear BX hk1 hk2 hk3 hk4
                go_wp2
                go_meet
                exact ⟨_, _, _, _, rfl, B6⟩
      case rest =>
        obtain ⟨L', ep', yes', no', rfl, B6⟩ := hcut
        clear y0 y1 y2 y3 y4 BX HB
        go_wp2_with fail
        refine (k_hits _ p sets ways k _ _ _ _ _ B6.out.k).mono ?_
        rintro e w7 ⟨rfl, n7, rfl⟩
        have B7 := Lib.hid (B6.out.box (below_drewN _ n7))
        obtain ⟨w7, hw7⟩ : ∃ w7, wc.drewN n7 = w7 := ⟨_, rfl⟩
        rw [hw7] at B7 ⊢
        clear hw7 B6
        obtain ⟨v7, hv7⟩ := B7.out.r'
        obtain ⟨_, _, _, c3, c4, c5, _, _, _⟩ := hv7.cells
        clear hv7
        have HEP := Lib.hid (fun m => epoch_quiet w7 m p sets ways k L' ep' _ yes' no' B7.out.k)
        go_wp2_with fail
        go_quiet ((go_at_call 17; exact HEP.out _))
        have B8 := Lib.hid (B7.out.box (below_drewN _ nq))
        go_wp2_with fail
        exact ⟨⟨i + 1, L', ep', yes', no', by omega, by simp, B8⟩, by simp [intOf]; omega⟩
    · have : i = n := by omega
      subst this
      have B0 : Hid (∃ M, Bo w p r sets ways k L ep M yes no wr) := ⟨_, HB.out⟩
      clear HB
      go_wp2_with fail
      go_loopw [22] (fun v22 w5 => ∃ (j : Nat) (yes5 no5 : Int), j ≤ i ∧ v22 = .int .i64 j ∧ Hid (∃ M, Bo w p r sets ways k L ep M yes5 no5 w5)) (fun v22 _ => i - (intOf v22).toNat)
      case atStart => exact ⟨0, yes, no, Nat.zero_le _, rfl, B0⟩
      case round =>
        clear B0
        obtain ⟨j, yes5, no5, hj, rfl, HB⟩ := hrel
        by_cases hlt2 : j < i
        · obtain ⟨M, hB⟩ := HB.out
          obtain ⟨x, hx⟩ : ∃ x, l[j]? = some x := ⟨_, List.getElem?_eq_getElem (by rw [HN.out]; exact hlt2)⟩
          obtain ⟨g, o, rfl, hcell⟩ := HA.out (by omega)
          have hc := hcell j x hx
          have hblt : ∀ (q : Nat) (u : Value), (opL x)[q]? = some u → g < w.heap.size := fun q u hu => World.block_lt_of_cell? w _ (hc q u hu)
          have hgw := hblt 0 _ rfl
          have yy : ∀ w' : World, Below w.heap.size w w' → ∀ (q : Nat) (u : Value), (opL x)[q]? = some u → w'.cell? ⟨g, o + j * 5 + q, none⟩ = some u := fun w' hb q u hu => by
            have := hc q u hu
            exact (hb.cell (World.block_lt_of_cell? w _ this)).trans this
          have YY := Lib.hid yy
          have y1 := yy wr hB.below 1 _ rfl
          have y2 := yy wr hB.below 2 _ rfl
          have y3 := yy wr hB.below 3 _ rfl
          have hrp : r ≠ p ∧ w.heap.size ≤ r := by
            obtain ⟨_, hh⟩ := hB.r'
            exact hh.hr
          obtain ⟨hrp, hrw⟩ := hrp
          have HRF : Hid (∀ b, b = r → FF w p b) := fun b hb => by rw [hb]; exact ⟨hrp, hrw⟩
          have HBB := Lib.hid hB
          clear hc yy hx hcell hblt hB
          obtain ⟨kind, c, nn⟩ := x
          go_wp2_with fail
          refine (k_get _ p sets ways k L ep M yes5 no5 HBB.out.k h3 h1 c).mono ?_
          rintro e w5 ⟨rfl, g5, k5⟩
          obtain ⟨q5, b5⟩ := HBB.out.ours k5
          have z1 := YY.out w5 b5 1 _ rfl
          have z2 := YY.out w5 b5 2 _ rfl
          have z3 := YY.out w5 b5 3 _ rfl
          have HG5 := Lib.hid g5
          have HQ5 := Lib.hid q5
          have HB5 := Lib.hid b5
          clear g5 q5 b5 k5 y1 y2 y3
          obtain ⟨R, hR⟩ : ∃ R, look L c = R := ⟨_, rfl⟩
          have HG := Lib.hid (rget_any w5 r sets ways k ep yes5 no5 L (FF w p) HQ5.out c)
          rw [hR] at HG5 HG ⊢
          clear hR
          cases R with
          | some m =>
            go_wp2_with fail
            refine HG.out.mono ?_
            rintro e w6 ⟨rfl, g6, k6⟩
            have B6 : Hid (∃ M, Bo w p r sets ways k L ep M _ _ w6) := ⟨M, kept_theirs HG5.out (k6.mono HRF.out), g6, HB5.out.trans (k6.below (fun b hb => by rw [hb]; exact hrw) HB5.out.size), HBB.out.hp⟩
            clear g6 k6 HG HG5 HQ5 HB5
            go_wp2_with fail
            exact ⟨⟨j + 1, _, _, by omega, by simp, B6⟩, by simp [intOf]; omega⟩
          | none =>
            go_wp2_with fail
            refine HG.out.mono ?_
            rintro e w6 ⟨rfl, g6, k6⟩
            have B6 : Hid (∃ M, Bo w p r sets ways k L ep M _ _ w6) := ⟨M, kept_theirs HG5.out (k6.mono HRF.out), g6, HB5.out.trans (k6.below (fun b hb => by rw [hb]; exact hrw) HB5.out.size), HBB.out.hp⟩
            clear g6 k6 HG HG5 HQ5 HB5
            go_wp2_with fail
            exact ⟨⟨j + 1, _, _, by omega, by simp, B6⟩, by simp [intOf]; omega⟩
        · have : j = i := by omega
          subst this
          obtain ⟨M, hB⟩ := HB.out
          have HBB := Lib.hid hB.below
          clear hB
          go_wp2_with fail
          go_ret
          exact ⟨rfl, HBB.out⟩
theorem law_scripts (w : World) (s a k : Int) (v : Value) (l : List Ops) (hv : ReadsOps w v l) : Calls Try.prog 3 #[.int .i64 s, .int .i64 a, .int .i64 k, v] w fun e w' => e = .returned (.bool true) ∧ Below w.heap.size w w' := by
  by_cases hbad : s < 0 ∨ 16 < s ∨ a < 1 ∨ 4 < a ∨ k < 0 ∨ 64 < k
  · exact law_scripts_no w s a k v hbad
  · obtain ⟨sets, rfl⟩ : ∃ sets : Nat, s = (sets : Int) := ⟨s.toNat, by omega⟩
    obtain ⟨ways, rfl⟩ : ∃ ways : Nat, a = (ways : Int) := ⟨a.toNat, by omega⟩
    exact law_scripts_in w sets ways k v l hv (by omega) (by omega) (by omega) (by omega) (by omega)
end Go.Proofs.Ytnebdabfandngaa.C

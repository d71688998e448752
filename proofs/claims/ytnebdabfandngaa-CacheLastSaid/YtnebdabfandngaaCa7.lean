/- The document's cache: what is put. -/
import Derived.Test.YtnebdabfandngaaCa6
namespace Go.Proofs.Ytnebdabfandngaa.C
open Go.RowKit Go.Proofs.Ytnebdabfandngaa.Mem
def PutS6 (gv g r i : Nat) (x : En) (c : Cap) (N cp : Nat) (wr w' : World) : Prop :=
  w'.cell? ⟨gv, i * 4, none⟩ = some (.int .i64 x.c.obj) ∧ w'.cell? ⟨gv, i * 4 + 1, none⟩ = some (.int .u64 x.c.hi) ∧ w'.cell? ⟨gv, i * 4 + 2, none⟩ = some (.int .u64 x.c.lo) ∧ w'.cell? ⟨g, 0, none⟩ = some (.int .i64 c.obj) ∧ w'.cell? ⟨g, 1, none⟩ = some (.int .u64 c.hi) ∧ w'.cell? ⟨g, 2, none⟩ = some (.int .u64 c.lo) ∧ w'.cell? ⟨r, 6, none⟩ = some (.slice (some ⟨gv, 0, none⟩) N cp) ∧ Below wr.heap.size wr w'
theorem PutS6.later {gv g r i : Nat} {x : En} {c : Cap} {N cp : Nat} {wr a b : World} (hb : Below a.heap.size a b) (h : PutS6 gv g r i x c N cp wr a) : PutS6 gv g r i x c N cp wr b := by
  obtain ⟨h0, h1, h2, h3, h4, h5, h6, h7⟩ := h
  exact ⟨cl hb h0, cl hb h1, cl hb h2, cl hb h3, cl hb h4, cl hb h5, cl hb h6, h7.trans (hb.mono h7.size)⟩
theorem rv_list {w1 : World} {r : Nat} {s a k e y n : Int} {v0 v' : Value} {L' : List En} {F : Nat → Prop} (hrow : w1.heap[r]? = some (.cells #[.int .i64 s, .int .i64 a, .int .i64 k, .int .i64 e, .int .i64 y, .int .i64 n, v0] 46 (0, 0))) (hr : F r) (ho : w1.ownsRow 0 66 4 v' L'.length (ensC L')) (hv' : ∀ b, v'.ownBlock = some b → F b ∧ b ≠ r) : RV (w1.setCell ⟨r, 6, none⟩ v') r s a k e y n v' L' F := by
  have hk : Kept (fun b => b = r) w1 (w1.setCell ⟨r, 6, none⟩ v') := (Kept.refl (fun b => b = r) w1).setCell (p := ⟨r, 6, none⟩) (.inl rfl) _
  refine ⟨?_, own_kept ho hk (fun b hb => (hv' b hb).2), hr, hv'⟩
  rw [heap_setCell_same w1 r 6 _ _ v' hrow]
  simp
set_option maxHeartbeats 8000000 in
set_option maxRecDepth 100000 in
theorem rput_any (w : World) (r : Nat) (s ways : Nat) (k e y n : Int) (L : List En) (F : Nat → Prop) (hF : ∀ b, w.heap.size ≤ b → F b) (h : RAt w r s ways k e y n L F) (hs : 0 < s) (hs16 : s ≤ 16) (hL : L.length ≤ 1000) (hw4 : ways ≤ 4) (hw0 : 0 < ways) (c : Cap) (rr : Int) :
    Calls Try.prog 13 #[.pointer (some ⟨r, 0, none⟩), capV c, .int .i64 rr] w fun x w' => x = .returned (.tuple #[]) ∧ RAt w' r s ways k e y n (lput ways (homeN s k) L c rr) F ∧ Kept F w w' := by
  obtain ⟨v, h⟩ := h
  have hb := (Below.refl w.heap.size w).alloc (Nat.le_refl _) (.cells #[.int .i64 c.obj, .int .u64 c.hi, .int .u64 c.lo] 36)
  obtain ⟨A, cp, rfl, hcp, hcm⟩ := h.slice
  have H0 := Lib.hid (h.below hb)
  have HB0 := Lib.hid hb
  have c00 := H0.out.cells.1
  have hrlt := lt_of_row h.row
  obtain ⟨N, hN⟩ : ∃ N, L.length = N := ⟨_, rfl⟩
  rw [hN] at hcp H0 hL
  have HN := Lib.hid hN
  have HF := Lib.hid hF
  unfold maxLen at hcm
  have hq := eqCap
  have hsz : ((s : Int) == 0) = false := beq_eq_false_iff_ne.2 (by omega)
  have HSET0 : Hid (∀ a cc, RAt a r s ways k e y n L F → Calls Try.prog 23 #[.pointer (some ⟨r, 0, none⟩), capV cc] a fun x w' => x = .returned (.int .u64 (homeN s k cc)) ∧ Below a.heap.size a w') := fun a cc ha => rset_any a r s ways k e y n L F ha hs hs16 cc
  obtain ⟨hm, hhm⟩ : ∃ hm : Cap → Int, homeN s k = hm := ⟨_, rfl⟩
  rw [hhm] at HSET0 ⊢
  have HVE : Hid (∀ w', RV w' r s ways k e y n (.slice A N cp) L F → RAt w' r s ways k e y n L F) := fun w' h => ⟨_, h⟩
  clear h hb hN hF hhm
  go_enter Try.func13, Try.ntmps13
  go_wp2_with fail
  go_loopw [6, 7, 8, 9] (fun v6 v7 v8 v9 wr => ∃ i : Nat, i ≤ N ∧ v6 = .int .i64 (countR L hm (hm c) i : Nat) ∧ v7 = .int .i64 (firstR L hm (hm c) i) ∧ v8 = .int .i64 (knownR L c i) ∧ v9 = .int .i64 i ∧ Hid (RV wr r s ways k e y n (.slice A N cp) L F) ∧ Hid (Below w.heap.size w wr) ∧ wr.cell? ⟨w.heap.size, 0, none⟩ = some (.int .i64 c.obj) ∧ wr.cell? ⟨w.heap.size, 1, none⟩ = some (.int .u64 c.hi) ∧ wr.cell? ⟨w.heap.size, 2, none⟩ = some (.int .u64 c.lo)) (fun _ _ _ v9 _ => N - (intOf v9).toNat)
  case atStart => exact ⟨0, Nat.zero_le _, rfl, rfl, rfl, rfl, H0, HB0, by simp, by simp, by simp⟩
  case round =>
    clear H0 HB0 c00
    obtain ⟨i, hi, rfl, rfl, rfl, rfl, HW, HB, m0, m1, m2⟩ := hrel
    obtain ⟨c0, c1, c2, c3, c4, c5, c6, cf, hrl⟩ := HW.out.cells
    clear c2 c3 c4 c5
    by_cases hlt : i < N
    · clear c0 c1 cf
      obtain ⟨gv, c', e1, _, _, k0, k1, k2, k3⟩ := HW.out.item (i := i) (by rw [HN.out]; exact hlt)
      rw [HN.out] at e1
      obtain ⟨rfl, rfl⟩ : A = some ⟨gv, 0, none⟩ ∧ cp = c' := by simpa using e1
      have sK : knownR L c (i + 1) = if (L.getD i e0).c = c then (i : Int) else knownR L c i := rfl
      have sF : firstR L hm (hm c) (i + 1) = if hm (L.getD i e0).c = hm c ∧ firstR L hm (hm c) i < 0 then (i : Int) else firstR L hm (hm c) i := rfl
      have sC : countR L hm (hm c) (i + 1) = if hm (L.getD i e0).c = hm c then countR L hm (hm c) i + 1 else countR L hm (hm c) i := rfl
      have hF0 := firstR_lo L hm (hm c) i
      have hC0 := countR_le L hm (hm c) i
      obtain ⟨K0, hK0⟩ : ∃ K0, knownR L c i = K0 := ⟨_, rfl⟩
      obtain ⟨F0, hF0e⟩ : ∃ F0, firstR L hm (hm c) i = F0 := ⟨_, rfl⟩
      obtain ⟨C0, hC0e⟩ : ∃ C0, countR L hm (hm c) i = C0 := ⟨_, rfl⟩
      obtain ⟨x, hx⟩ : ∃ x, L.getD i e0 = x := ⟨_, rfl⟩
      rw [hK0] at sK ⊢
      rw [hF0e] at sF hF0 ⊢
      rw [hC0e] at sC hC0 ⊢
      rw [hx] at sK sF sC k0 k1 k2
      obtain ⟨hF0a, hF0b⟩ := hF0
      obtain ⟨b1, hb1⟩ : ∃ b, capEq ⟨x.c.obj, x.c.hi, x.c.lo⟩ ⟨c.obj, c.hi, c.lo⟩ = b := ⟨_, rfl⟩
      have hbi : (x.c = c) ↔ b1 = true := by rw [← hb1]; exact (capEq_iff x.c c).symm
      obtain ⟨b2, hb2⟩ : ∃ b, (hm x.c == hm c) = b := ⟨_, rfl⟩
      have hbj : (hm x.c = hm c) ↔ b2 = true := by rw [← hb2]; simp
      have HSET : Hid (∀ a cc, Below wr.heap.size wr a → Calls Try.prog 23 #[.pointer (some ⟨r, 0, none⟩), capV cc] a fun x w' => x = .returned (.int .u64 (hm cc)) ∧ Below a.heap.size a w') := fun a cc ha => HSET0.out a cc (HVE.out _ (HW.out.below ha))
      have KEEP : Hid (∀ a b, Below a.heap.size a b → PutS6 gv w.heap.size r i x c N cp wr a → PutS6 gv w.heap.size r i x c N cp wr b) := fun a b hb h => h.later hb
      have i9 : (0 : Int) ≤ (i : Int) := by omega
      have i8 : (i : Int) < (N : Int) := by omega
      clear hx e1 hK0 hF0e hC0e k3
      simp only [hbi, hbj] at sK sF sC
      clear hbi hbj
      cases b2
      · have sF' := Lib.hid (show firstR L hm (hm c) (i + 1) = F0 by rw [sF, if_neg (fun h => by cases h.1)])
        have sC' := Lib.hid (show countR L hm (hm c) (i + 1) = C0 by rw [sC, if_neg (fun h => by cases h)])
        clear sF sC
        cases b1
        · have sK' := Lib.hid (show knownR L c (i + 1) = K0 by rw [sK, if_neg (fun h => by cases h)])
          clear sK
          go_wp2_with fail
          go_quiet (fail)
          obtain ⟨w5, hw5⟩ : ∃ w5, wr.drewN nq = w5 := ⟨_, rfl⟩
          rw [hw5]
          have ST : Hid (PutS6 gv w.heap.size r i x c N cp wr w5.drew) := by rw [← hw5]; exact ⟨k0, k1, k2, m0, m1, m2, c6, (below_q (Below.refl _ wr) nq).drew⟩
          clear hw5
          go_wp2_with fail
          first | (go_region_held3 (fun w' => w'.cell? ⟨gv, i * 4, none⟩ = some (.int .i64 x.c.obj) ∧ w'.cell? ⟨gv, i * 4 + 1, none⟩ = some (.int .u64 x.c.hi) ∧ w'.cell? ⟨gv, i * 4 + 2, none⟩ = some (.int .u64 x.c.lo) ∧ w'.cell? ⟨w.heap.size, 0, none⟩ = some (.int .i64 c.obj) ∧ w'.cell? ⟨w.heap.size, 1, none⟩ = some (.int .u64 c.hi) ∧ w'.cell? ⟨w.heap.size, 2, none⟩ = some (.int .u64 c.lo) ∧ w'.cell? ⟨r, 6, none⟩ = some (.slice (some ⟨gv, 0, none⟩) N cp) ∧ Below wr.heap.size wr w')
                      (first | exact ST.out | (refine KEEP.out _ _ (by with_reducible assumption) ?_; go_split_ands; exact ⟨by with_reducible assumption, by with_reducible assumption, by with_reducible assumption, by with_reducible assumption, by with_reducible assumption, by with_reducible assumption, by with_reducible assumption, by with_reducible assumption⟩) | go_keep)
                      (first | (go_at_call 23; (with_reducible refine (HSET.out _ _ ?_).mono ?_); (go_split_ands; with_reducible assumption); rintro e w1 ⟨rfl, hb1⟩) | fail)) | fail
          all_goals (go_split_ands; have HW9 := Lib.hid (HW.out.below (by with_reducible assumption)); have HB9 := Lib.hid (HB.out.trans (Below.mono (by with_reducible assumption) HB.out.size)); go_wp2_with fail; exact ⟨⟨i + 1, by omega, by rw [sC'.out], by rw [sF'.out], by rw [sK'.out], by simp, HW9, HB9, by with_reducible assumption, by with_reducible assumption, by with_reducible assumption⟩, by simp [intOf]; omega⟩)
        · have sK' := Lib.hid (show knownR L c (i + 1) = (i : Int) by rw [sK, if_pos rfl])
          clear sK
          go_wp2_with fail
          go_quiet (fail)
          obtain ⟨w5, hw5⟩ : ∃ w5, wr.drewN nq = w5 := ⟨_, rfl⟩
          rw [hw5]
          have ST : Hid (PutS6 gv w.heap.size r i x c N cp wr w5.drew) := by rw [← hw5]; exact ⟨k0, k1, k2, m0, m1, m2, c6, (below_q (Below.refl _ wr) nq).drew⟩
          clear hw5
          go_wp2_with fail
          first | (go_region_held3 (fun w' => w'.cell? ⟨gv, i * 4, none⟩ = some (.int .i64 x.c.obj) ∧ w'.cell? ⟨gv, i * 4 + 1, none⟩ = some (.int .u64 x.c.hi) ∧ w'.cell? ⟨gv, i * 4 + 2, none⟩ = some (.int .u64 x.c.lo) ∧ w'.cell? ⟨w.heap.size, 0, none⟩ = some (.int .i64 c.obj) ∧ w'.cell? ⟨w.heap.size, 1, none⟩ = some (.int .u64 c.hi) ∧ w'.cell? ⟨w.heap.size, 2, none⟩ = some (.int .u64 c.lo) ∧ w'.cell? ⟨r, 6, none⟩ = some (.slice (some ⟨gv, 0, none⟩) N cp) ∧ Below wr.heap.size wr w')
                      (first | exact ST.out | (refine KEEP.out _ _ (by with_reducible assumption) ?_; go_split_ands; exact ⟨by with_reducible assumption, by with_reducible assumption, by with_reducible assumption, by with_reducible assumption, by with_reducible assumption, by with_reducible assumption, by with_reducible assumption, by with_reducible assumption⟩) | go_keep)
                      (first | (go_at_call 23; (with_reducible refine (HSET.out _ _ ?_).mono ?_); (go_split_ands; with_reducible assumption); rintro e w1 ⟨rfl, hb1⟩) | fail)) | fail
          all_goals (go_split_ands; have HW9 := Lib.hid (HW.out.below (by with_reducible assumption)); have HB9 := Lib.hid (HB.out.trans (Below.mono (by with_reducible assumption) HB.out.size)); go_wp2_with fail; exact ⟨⟨i + 1, by omega, by rw [sC'.out], by rw [sF'.out], by rw [sK'.out], by simp, HW9, HB9, by with_reducible assumption, by with_reducible assumption, by with_reducible assumption⟩, by simp [intOf]; omega⟩)
      · have sC' := Lib.hid (show countR L hm (hm c) (i + 1) = C0 + 1 by rw [sC, if_pos rfl])
        clear sC
        by_cases hneg : F0 < 0
        · have sF' := Lib.hid (show firstR L hm (hm c) (i + 1) = (i : Int) by rw [sF, if_pos ⟨rfl, hneg⟩])
          clear sF
          cases b1
          · have sK' := Lib.hid (show knownR L c (i + 1) = K0 by rw [sK, if_neg (fun h => by cases h)])
            clear sK
            go_wp2_with fail
            go_quiet (fail)
            obtain ⟨w5, hw5⟩ : ∃ w5, wr.drewN nq = w5 := ⟨_, rfl⟩
            rw [hw5]
            have ST : Hid (PutS6 gv w.heap.size r i x c N cp wr w5.drew) := by rw [← hw5]; exact ⟨k0, k1, k2, m0, m1, m2, c6, (below_q (Below.refl _ wr) nq).drew⟩
            clear hw5
            go_wp2_with fail
            first | (go_region_held3 (fun w' => w'.cell? ⟨gv, i * 4, none⟩ = some (.int .i64 x.c.obj) ∧ w'.cell? ⟨gv, i * 4 + 1, none⟩ = some (.int .u64 x.c.hi) ∧ w'.cell? ⟨gv, i * 4 + 2, none⟩ = some (.int .u64 x.c.lo) ∧ w'.cell? ⟨w.heap.size, 0, none⟩ = some (.int .i64 c.obj) ∧ w'.cell? ⟨w.heap.size, 1, none⟩ = some (.int .u64 c.hi) ∧ w'.cell? ⟨w.heap.size, 2, none⟩ = some (.int .u64 c.lo) ∧ w'.cell? ⟨r, 6, none⟩ = some (.slice (some ⟨gv, 0, none⟩) N cp) ∧ Below wr.heap.size wr w')
                        (first | exact ST.out | (refine KEEP.out _ _ (by with_reducible assumption) ?_; go_split_ands; exact ⟨by with_reducible assumption, by with_reducible assumption, by with_reducible assumption, by with_reducible assumption, by with_reducible assumption, by with_reducible assumption, by with_reducible assumption, by with_reducible assumption⟩) | go_keep)
                        (first | (go_at_call 23; (with_reducible refine (HSET.out _ _ ?_).mono ?_); (go_split_ands; with_reducible assumption); rintro e w1 ⟨rfl, hb1⟩) | fail)) | fail
            all_goals (go_split_ands; have HW9 := Lib.hid (HW.out.below (by with_reducible assumption)); have HB9 := Lib.hid (HB.out.trans (Below.mono (by with_reducible assumption) HB.out.size)); go_wp2_with fail; exact ⟨⟨i + 1, by omega, by rw [sC'.out]; simp, by rw [sF'.out], by rw [sK'.out], by simp, HW9, HB9, by with_reducible assumption, by with_reducible assumption, by with_reducible assumption⟩, by simp [intOf]; omega⟩)
          · have sK' := Lib.hid (show knownR L c (i + 1) = (i : Int) by rw [sK, if_pos rfl])
            clear sK
            go_wp2_with fail
            go_quiet (fail)
            obtain ⟨w5, hw5⟩ : ∃ w5, wr.drewN nq = w5 := ⟨_, rfl⟩
            rw [hw5]
            have ST : Hid (PutS6 gv w.heap.size r i x c N cp wr w5.drew) := by rw [← hw5]; exact ⟨k0, k1, k2, m0, m1, m2, c6, (below_q (Below.refl _ wr) nq).drew⟩
            clear hw5
            go_wp2_with fail
            first | (go_region_held3 (fun w' => w'.cell? ⟨gv, i * 4, none⟩ = some (.int .i64 x.c.obj) ∧ w'.cell? ⟨gv, i * 4 + 1, none⟩ = some (.int .u64 x.c.hi) ∧ w'.cell? ⟨gv, i * 4 + 2, none⟩ = some (.int .u64 x.c.lo) ∧ w'.cell? ⟨w.heap.size, 0, none⟩ = some (.int .i64 c.obj) ∧ w'.cell? ⟨w.heap.size, 1, none⟩ = some (.int .u64 c.hi) ∧ w'.cell? ⟨w.heap.size, 2, none⟩ = some (.int .u64 c.lo) ∧ w'.cell? ⟨r, 6, none⟩ = some (.slice (some ⟨gv, 0, none⟩) N cp) ∧ Below wr.heap.size wr w')
                        (first | exact ST.out | (refine KEEP.out _ _ (by with_reducible assumption) ?_; go_split_ands; exact ⟨by with_reducible assumption, by with_reducible assumption, by with_reducible assumption, by with_reducible assumption, by with_reducible assumption, by with_reducible assumption, by with_reducible assumption, by with_reducible assumption⟩) | go_keep)
                        (first | (go_at_call 23; (with_reducible refine (HSET.out _ _ ?_).mono ?_); (go_split_ands; with_reducible assumption); rintro e w1 ⟨rfl, hb1⟩) | fail)) | fail
            all_goals (go_split_ands; have HW9 := Lib.hid (HW.out.below (by with_reducible assumption)); have HB9 := Lib.hid (HB.out.trans (Below.mono (by with_reducible assumption) HB.out.size)); go_wp2_with fail; exact ⟨⟨i + 1, by omega, by rw [sC'.out]; simp, by rw [sF'.out], by rw [sK'.out], by simp, HW9, HB9, by with_reducible assumption, by with_reducible assumption, by with_reducible assumption⟩, by simp [intOf]; omega⟩)
        · have sF' := Lib.hid (show firstR L hm (hm c) (i + 1) = F0 by rw [sF, if_neg (fun h => hneg h.2)])
          clear sF
          cases b1
          · have sK' := Lib.hid (show knownR L c (i + 1) = K0 by rw [sK, if_neg (fun h => by cases h)])
            clear sK
            go_wp2_with fail
            go_quiet (fail)
            obtain ⟨w5, hw5⟩ : ∃ w5, wr.drewN nq = w5 := ⟨_, rfl⟩
            rw [hw5]
            have ST : Hid (PutS6 gv w.heap.size r i x c N cp wr w5.drew) := by rw [← hw5]; exact ⟨k0, k1, k2, m0, m1, m2, c6, (below_q (Below.refl _ wr) nq).drew⟩
            clear hw5
            go_wp2_with fail
            first | (go_region_held3 (fun w' => w'.cell? ⟨gv, i * 4, none⟩ = some (.int .i64 x.c.obj) ∧ w'.cell? ⟨gv, i * 4 + 1, none⟩ = some (.int .u64 x.c.hi) ∧ w'.cell? ⟨gv, i * 4 + 2, none⟩ = some (.int .u64 x.c.lo) ∧ w'.cell? ⟨w.heap.size, 0, none⟩ = some (.int .i64 c.obj) ∧ w'.cell? ⟨w.heap.size, 1, none⟩ = some (.int .u64 c.hi) ∧ w'.cell? ⟨w.heap.size, 2, none⟩ = some (.int .u64 c.lo) ∧ w'.cell? ⟨r, 6, none⟩ = some (.slice (some ⟨gv, 0, none⟩) N cp) ∧ Below wr.heap.size wr w')
                        (first | exact ST.out | (refine KEEP.out _ _ (by with_reducible assumption) ?_; go_split_ands; exact ⟨by with_reducible assumption, by with_reducible assumption, by with_reducible assumption, by with_reducible assumption, by with_reducible assumption, by with_reducible assumption, by with_reducible assumption, by with_reducible assumption⟩) | go_keep)
                        (first | (go_at_call 23; (with_reducible refine (HSET.out _ _ ?_).mono ?_); (go_split_ands; with_reducible assumption); rintro e w1 ⟨rfl, hb1⟩) | fail)) | fail
            all_goals (go_split_ands; have HW9 := Lib.hid (HW.out.below (by with_reducible assumption)); have HB9 := Lib.hid (HB.out.trans (Below.mono (by with_reducible assumption) HB.out.size)); go_wp2_with fail; exact ⟨⟨i + 1, by omega, by rw [sC'.out]; simp, by rw [sF'.out], by rw [sK'.out], by simp, HW9, HB9, by with_reducible assumption, by with_reducible assumption, by with_reducible assumption⟩, by simp [intOf]; omega⟩)
          · have sK' := Lib.hid (show knownR L c (i + 1) = (i : Int) by rw [sK, if_pos rfl])
            clear sK
            go_wp2_with fail
            go_quiet (fail)
            obtain ⟨w5, hw5⟩ : ∃ w5, wr.drewN nq = w5 := ⟨_, rfl⟩
            rw [hw5]
            have ST : Hid (PutS6 gv w.heap.size r i x c N cp wr w5.drew) := by rw [← hw5]; exact ⟨k0, k1, k2, m0, m1, m2, c6, (below_q (Below.refl _ wr) nq).drew⟩
            clear hw5
            go_wp2_with fail
            first | (go_region_held3 (fun w' => w'.cell? ⟨gv, i * 4, none⟩ = some (.int .i64 x.c.obj) ∧ w'.cell? ⟨gv, i * 4 + 1, none⟩ = some (.int .u64 x.c.hi) ∧ w'.cell? ⟨gv, i * 4 + 2, none⟩ = some (.int .u64 x.c.lo) ∧ w'.cell? ⟨w.heap.size, 0, none⟩ = some (.int .i64 c.obj) ∧ w'.cell? ⟨w.heap.size, 1, none⟩ = some (.int .u64 c.hi) ∧ w'.cell? ⟨w.heap.size, 2, none⟩ = some (.int .u64 c.lo) ∧ w'.cell? ⟨r, 6, none⟩ = some (.slice (some ⟨gv, 0, none⟩) N cp) ∧ Below wr.heap.size wr w')
                        (first | exact ST.out | (refine KEEP.out _ _ (by with_reducible assumption) ?_; go_split_ands; exact ⟨by with_reducible assumption, by with_reducible assumption, by with_reducible assumption, by with_reducible assumption, by with_reducible assumption, by with_reducible assumption, by with_reducible assumption, by with_reducible assumption⟩) | go_keep)
                        (first | (go_at_call 23; (with_reducible refine (HSET.out _ _ ?_).mono ?_); (go_split_ands; with_reducible assumption); rintro e w1 ⟨rfl, hb1⟩) | fail)) | fail
            all_goals (go_split_ands; have HW9 := Lib.hid (HW.out.below (by with_reducible assumption)); have HB9 := Lib.hid (HB.out.trans (Below.mono (by with_reducible assumption) HB.out.size)); go_wp2_with fail; exact ⟨⟨i + 1, by omega, by rw [sC'.out]; simp, by rw [sF'.out], by rw [sK'.out], by simp, HW9, HB9, by with_reducible assumption, by with_reducible assumption, by with_reducible assumption⟩, by simp [intOf]; omega⟩)
    · have : i = N := by omega
      subst this
      have HLN : Hid (L.length = i) := HN.out
      have hK0 := knownR_lo L c i
      have hF0 := firstR_lo L hm (hm c) i
      obtain ⟨hF0a, hF0b⟩ := hF0
      obtain ⟨hK0a, hK0b⟩ := hK0
      have HRR : Hid (RAt wr r s ways k e y n L F) := HVE.out _ HW.out
      have HFr := Lib.hid HW.out.hr
      have HKF : Hid (Kept F w wr) := Kept.of_below HB.out
      have hwsz : w.heap.size ≤ wr.heap.size := HB.out.size
      have hgr : w.heap.size ≠ r := by omega
      have f6 := cf 6
      by_cases hK : 0 ≤ knownR L c i
      · obtain ⟨kk, hkk⟩ : ∃ kk : Nat, knownR L c i = (kk : Int) := ⟨_, (Int.toNat_of_nonneg hK).symm⟩
        have HCUT : Hid (lcut ways hm L c = L.eraseIdx kk) := by
          show lcut ways hm L c = L.eraseIdx kk
          unfold lcut
          rw [HLN.out, if_pos hK, hkk, Int.toNat_natCast]
        rw [hkk]
        have hkN : kk < i := by omega
        have HWO : Hid (Calls Try.prog 24 #[.pointer (some ⟨r, 0, none⟩), .int .i64 kk] wr fun x w' => x = .returned (.tuple #[]) ∧ RAt w' r s ways k e y n (L.eraseIdx kk) F ∧ Kept (fun b => b = r) wr w') := without_any wr r s ways k e y n L F (fun b hb => HF.out b (by omega)) HRR.out kk (by rw [HLN.out]; exact hkN) (by rw [HLN.out]; omega)
        have HL2 : Hid ((L.eraseIdx kk).length ≤ 1000) := by
          have := List.length_eraseIdx_le L kk
          rw [HLN.out] at this
          exact Nat.le_trans this hL
        clear hkk hK hK0a hK0b hF0a hF0b HRR c0 c1 cf f6 HVE HW HSET0
        go_wp2_with fail
        (with_reducible refine HWO.out.mono ?_)
        rintro e5 w5 ⟨rfl, hr5, hk5⟩
        have HR5 := Lib.hid hr5
        have HK5 : Hid (Kept F w w5) := HKF.out.trans hk5 (fun b hb => .inl (by rw [hb]; exact HFr.out))
        have m0 := (hk5.cell (p := ⟨w.heap.size, 0, none⟩) (World.block_lt_of_cell? wr _ m0) hgr).trans m0
        have m1 := (hk5.cell (p := ⟨w.heap.size, 1, none⟩) (World.block_lt_of_cell? wr _ m1) hgr).trans m1
        have m2 := (hk5.cell (p := ⟨w.heap.size, 2, none⟩) (World.block_lt_of_cell? wr _ m2) hgr).trans m2
        clear hr5 hk5 HWO HKF
        rw [← HCUT.out] at HR5 HL2
        obtain ⟨L2, hL2e⟩ : ∃ L2, lcut ways hm L c = L2 := ⟨_, rfl⟩
        rw [hL2e] at HR5 HL2
        have HLC := Lib.hid hL2e
        obtain ⟨v5, hv5⟩ := HR5.out
        obtain ⟨A5, cp5, rfl, hcp5, hcm5⟩ := hv5.slice
        obtain ⟨N5, hN5⟩ : ∃ N5, L2.length = N5 := ⟨_, rfl⟩
        have HN5 := Lib.hid hN5
        have hl5 := HL2.out
        rw [hN5] at hcp5 hv5 hl5
        have HV5 := Lib.hid hv5
        have HOW5 : Hid (w5.ownsRow 0 66 4 (.slice A5 N5 cp5) N5 (ensC L2)) := hN5 ▸ hv5.own
        have q6 := hv5.cells.2.2.2.2.2.2.1
        have hgl5 := World.block_lt_of_cell? w5 _ m0
        have hrl5 := World.block_lt_of_cell? w5 _ q6
        have hKK := Lib.hid (fun (o : Obj) => ((Kept.refl (fun _ => False) w5).alloc o).drew)
        clear hL2e hv5 hN5 HL2 HCUT
        go_wp2_with fail
        go_region_law (refine step_app rfl (.tmp 72) (.tmp 76) 44 rfl 66 0 _ 4 32 Try.underlying44 info66 rfl (by decide) (by decide) (.slice A5 N5 cp5) N5 (ensC L2) rfl (own_keeps HOW5.out (hKK.out _)) _ 1 1 (enC ⟨c, rr⟩) rfl rfl (holds_new _ _ _ _ _ (by simp)) (by simp [enC, Value.oneCell']) (by omega) (Nat.zero_le _) ?_; intro v1 w1 hown1 hgrow1 hat1 _; obtain ⟨A1, c1', rfl, _⟩ := own_slice hown1; have r1 := Lib.hid (row_grown (no_keeps HV5.out.row (hKK.out _)) hgrow1 (fun e => (HV5.out.hv r e).2 rfl)); have e1 := cell_row (j := 6) r1.out rfl; have f1 := free_row (j := 6) r1.out)
        all_goals
          go_wp2
          go_end0
          have hlp : lput ways hm L c rr = L2 ++ [⟨c, rr⟩] := by unfold lput; rw [HLC.out]
          rw [hlp]
          have hfb : ∀ b, (Value.slice A1 (N5 + 1) c1').ownBlock = some b → F b ∧ b ≠ r := fun b hbb => by
            rcases hat1 with e | e
            · exact HV5.out.hv b (e ▸ hbb)
            · have e2 := Option.some.inj (e.symm.trans hbb)
              have e3 := HK5.out.size
              simp at e2
              exact ⟨HF.out b (by omega), by omega⟩
          have hown2 : w1.ownsRow 0 66 4 (.slice A1 (N5 + 1) c1') (L2 ++ [(⟨c, rr⟩ : En)]).length (ensC (L2 ++ [(⟨c, rr⟩ : En)])) := by
            have e4 : ensC (L2 ++ [(⟨c, rr⟩ : En)]) = ensC L2 ++ enC ⟨c, rr⟩ := by simp [ensC, List.flatMap_append]
            rw [e4, List.length_append, HN5.out]
            exact hown1
          exact ⟨rfl, ⟨_, rv_list r1.out HFr.out hown2 hfb⟩, (((HK5.out.alloc _).drew).grown hgrow1 (fun b hb => .inl (HV5.out.hv b hb).1)).setCell (p := ⟨r, 6, none⟩) (.inl HFr.out) _⟩
      · have hKn : knownR L c i < 0 := by omega
        have hKd : decide (0 ≤ knownR L c i) = false := decide_eq_false hK
        by_cases hC : ways ≤ countR L hm (hm c) i
        · have hpos := countR_pos (L := L) (h := hm) (s := hm c) (i := i) (by omega)
          obtain ⟨kk, hkk⟩ : ∃ kk : Nat, firstR L hm (hm c) i = (kk : Int) := ⟨_, (Int.toNat_of_nonneg hpos).symm⟩
          have HCUT : Hid (lcut ways hm L c = L.eraseIdx kk) := by
            show lcut ways hm L c = L.eraseIdx kk
            unfold lcut
            rw [HLN.out, if_neg hK, if_pos hC, hkk, Int.toNat_natCast]
          obtain ⟨K0, hK0e⟩ : ∃ K0, knownR L c i = K0 := ⟨_, rfl⟩
          obtain ⟨C0, hC0e⟩ : ∃ C0, countR L hm (hm c) i = C0 := ⟨_, rfl⟩
          rw [hkk, hK0e, hC0e]
          rw [hK0e] at hKn hKd
          rw [hC0e] at hC
          have hC2 : (ways : Int) ≤ (C0 : Int) := by omega
          have hkN : kk < i := by omega
          have HWO : Hid (Calls Try.prog 24 #[.pointer (some ⟨r, 0, none⟩), .int .i64 kk] wr fun x w' => x = .returned (.tuple #[]) ∧ RAt w' r s ways k e y n (L.eraseIdx kk) F ∧ Kept (fun b => b = r) wr w') := without_any wr r s ways k e y n L F (fun b hb => HF.out b (by omega)) HRR.out kk (by rw [HLN.out]; exact hkN) (by rw [HLN.out]; omega)
          have HL2 : Hid ((L.eraseIdx kk).length ≤ 1000) := by
            have := List.length_eraseIdx_le L kk
            rw [HLN.out] at this
            exact Nat.le_trans this hL
          clear hkk hK hK0a hK0b hF0a hF0b HRR c0 cf f6 HVE HW HSET0 hpos hK0e hC0e
          go_wp2_with fail
          (with_reducible refine HWO.out.mono ?_)
          rintro e5 w5 ⟨rfl, hr5, hk5⟩
          have HR5 := Lib.hid hr5
          have HK5 : Hid (Kept F w w5) := HKF.out.trans hk5 (fun b hb => .inl (by rw [hb]; exact HFr.out))
          have m0 := (hk5.cell (p := ⟨w.heap.size, 0, none⟩) (World.block_lt_of_cell? wr _ m0) hgr).trans m0
          have m1 := (hk5.cell (p := ⟨w.heap.size, 1, none⟩) (World.block_lt_of_cell? wr _ m1) hgr).trans m1
          have m2 := (hk5.cell (p := ⟨w.heap.size, 2, none⟩) (World.block_lt_of_cell? wr _ m2) hgr).trans m2
          clear hr5 hk5 HWO HKF
          rw [← HCUT.out] at HR5 HL2
          obtain ⟨L2, hL2e⟩ : ∃ L2, lcut ways hm L c = L2 := ⟨_, rfl⟩
          rw [hL2e] at HR5 HL2
          have HLC := Lib.hid hL2e
          obtain ⟨v5, hv5⟩ := HR5.out
          obtain ⟨A5, cp5, rfl, hcp5, hcm5⟩ := hv5.slice
          obtain ⟨N5, hN5⟩ : ∃ N5, L2.length = N5 := ⟨_, rfl⟩
          have HN5 := Lib.hid hN5
          have hl5 := HL2.out
          rw [hN5] at hcp5 hv5 hl5
          have HV5 := Lib.hid hv5
          have HOW5 : Hid (w5.ownsRow 0 66 4 (.slice A5 N5 cp5) N5 (ensC L2)) := hN5 ▸ hv5.own
          have q6 := hv5.cells.2.2.2.2.2.2.1
          have hgl5 := World.block_lt_of_cell? w5 _ m0
          have hrl5 := World.block_lt_of_cell? w5 _ q6
          have hKK := Lib.hid (fun (o : Obj) => ((Kept.refl (fun _ => False) w5).alloc o).drew)
          clear hL2e hv5 hN5 HL2 HCUT
          go_wp2_with fail
          go_region_law (refine step_app rfl (.tmp 72) (.tmp 76) 44 rfl 66 0 _ 4 32 Try.underlying44 info66 rfl (by decide) (by decide) (.slice A5 N5 cp5) N5 (ensC L2) rfl (own_keeps HOW5.out (hKK.out _)) _ 1 1 (enC ⟨c, rr⟩) rfl rfl (holds_new _ _ _ _ _ (by simp)) (by simp [enC, Value.oneCell']) (by omega) (Nat.zero_le _) ?_; intro v1 w1 hown1 hgrow1 hat1 _; obtain ⟨A1, c1', rfl, _⟩ := own_slice hown1; have r1 := Lib.hid (row_grown (no_keeps HV5.out.row (hKK.out _)) hgrow1 (fun e => (HV5.out.hv r e).2 rfl)); have e1 := cell_row (j := 6) r1.out rfl; have f1 := free_row (j := 6) r1.out)
          all_goals
            go_wp2
            go_end0
            have hlp : lput ways hm L c rr = L2 ++ [⟨c, rr⟩] := by unfold lput; rw [HLC.out]
            rw [hlp]
            have hfb : ∀ b, (Value.slice A1 (N5 + 1) c1').ownBlock = some b → F b ∧ b ≠ r := fun b hbb => by
              rcases hat1 with e | e
              · exact HV5.out.hv b (e ▸ hbb)
              · have e2 := Option.some.inj (e.symm.trans hbb)
                have e3 := HK5.out.size
                simp at e2
                exact ⟨HF.out b (by omega), by omega⟩
            have hown2 : w1.ownsRow 0 66 4 (.slice A1 (N5 + 1) c1') (L2 ++ [(⟨c, rr⟩ : En)]).length (ensC (L2 ++ [(⟨c, rr⟩ : En)])) := by
              have e4 : ensC (L2 ++ [(⟨c, rr⟩ : En)]) = ensC L2 ++ enC ⟨c, rr⟩ := by simp [ensC, List.flatMap_append]
              rw [e4, List.length_append, HN5.out]
              exact hown1
            exact ⟨rfl, ⟨_, rv_list r1.out HFr.out hown2 hfb⟩, (((HK5.out.alloc _).drew).grown hgrow1 (fun b hb => .inl (HV5.out.hv b hb).1)).setCell (p := ⟨r, 6, none⟩) (.inl HFr.out) _⟩
        · have HCUT : Hid (lcut ways hm L c = L) := by
            show lcut ways hm L c = L
            unfold lcut
            rw [HLN.out, if_neg hK, if_neg hC]
          obtain ⟨K0, hK0e⟩ : ∃ K0, knownR L c i = K0 := ⟨_, rfl⟩
          obtain ⟨C0, hC0e⟩ : ∃ C0, countR L hm (hm c) i = C0 := ⟨_, rfl⟩
          rw [hK0e, hC0e]
          rw [hK0e] at hKn hKd
          rw [hC0e] at hC
          have hC2 : ¬ (ways : Int) ≤ (C0 : Int) := by omega
          have HL2 : Hid (L.length ≤ 1000) := by rw [HLN.out]; exact hL
          clear hK hK0a hK0b hF0a hF0b c0 cf f6 HVE HW HSET0 hK0e hC0e hC
          obtain ⟨w5, hw5⟩ : ∃ w5, wr = w5 := ⟨_, rfl⟩
          rw [hw5] at HRR HKF m0 m1 m2 c1 c6 ⊢
          have HR5 := Lib.hid HRR.out
          have HK5 := Lib.hid HKF.out
          clear hw5 HRR HKF
          go_wp2_with fail
          clear c6 c1
          rw [← HCUT.out] at HR5 HL2
          obtain ⟨L2, hL2e⟩ : ∃ L2, lcut ways hm L c = L2 := ⟨_, rfl⟩
          rw [hL2e] at HR5 HL2
          have HLC := Lib.hid hL2e
          obtain ⟨v5, hv5⟩ := HR5.out
          obtain ⟨A5, cp5, rfl, hcp5, hcm5⟩ := hv5.slice
          obtain ⟨N5, hN5⟩ : ∃ N5, L2.length = N5 := ⟨_, rfl⟩
          have HN5 := Lib.hid hN5
          have hl5 := HL2.out
          rw [hN5] at hcp5 hv5 hl5
          have HV5 := Lib.hid hv5
          have HOW5 : Hid (w5.ownsRow 0 66 4 (.slice A5 N5 cp5) N5 (ensC L2)) := hN5 ▸ hv5.own
          have q6 := hv5.cells.2.2.2.2.2.2.1
          have hgl5 := World.block_lt_of_cell? w5 _ m0
          have hrl5 := World.block_lt_of_cell? w5 _ q6
          have hKK := Lib.hid (fun (o : Obj) => ((Kept.refl (fun _ => False) w5).alloc o).drew)
          clear hL2e hv5 hN5 HL2 HCUT
          go_wp2_with fail
          go_region_law (refine step_app rfl (.tmp 72) (.tmp 76) 44 rfl 66 0 _ 4 32 Try.underlying44 info66 rfl (by decide) (by decide) (.slice A5 N5 cp5) N5 (ensC L2) rfl (own_keeps HOW5.out (hKK.out _)) _ 1 1 (enC ⟨c, rr⟩) rfl rfl (holds_new _ _ _ _ _ (by simp)) (by simp [enC, Value.oneCell']) (by omega) (Nat.zero_le _) ?_; intro v1 w1 hown1 hgrow1 hat1 _; obtain ⟨A1, c1', rfl, _⟩ := own_slice hown1; have r1 := Lib.hid (row_grown (no_keeps HV5.out.row (hKK.out _)) hgrow1 (fun e => (HV5.out.hv r e).2 rfl)); have e1 := cell_row (j := 6) r1.out rfl; have f1 := free_row (j := 6) r1.out)
          all_goals
            go_wp2
            go_end0
            have hlp : lput ways hm L c rr = L2 ++ [⟨c, rr⟩] := by unfold lput; rw [HLC.out]
            rw [hlp]
            have hfb : ∀ b, (Value.slice A1 (N5 + 1) c1').ownBlock = some b → F b ∧ b ≠ r := fun b hbb => by
              rcases hat1 with e | e
              · exact HV5.out.hv b (e ▸ hbb)
              · have e2 := Option.some.inj (e.symm.trans hbb)
                have e3 := HK5.out.size
                simp at e2
                exact ⟨HF.out b (by omega), by omega⟩
            have hown2 : w1.ownsRow 0 66 4 (.slice A1 (N5 + 1) c1') (L2 ++ [(⟨c, rr⟩ : En)]).length (ensC (L2 ++ [(⟨c, rr⟩ : En)])) := by
              have e4 : ensC (L2 ++ [(⟨c, rr⟩ : En)]) = ensC L2 ++ enC ⟨c, rr⟩ := by simp [ensC, List.flatMap_append]
              rw [e4, List.length_append, HN5.out]
              exact hown1
            exact ⟨rfl, ⟨_, rv_list r1.out HFr.out hown2 hfb⟩, (((HK5.out.alloc _).drew).grown hgrow1 (fun b hb => .inl (HV5.out.hv b hb).1)).setCell (p := ⟨r, 6, none⟩) (.inl HFr.out) _⟩
end Go.Proofs.Ytnebdabfandngaa.C

/- Cut. Own text; Ytkmmpagflbnenaa and the numbers between @..@ are the seat's. -/
import Derived.Test.YtkmmpagflbnenaaKinE
namespace Go.Proofs.Ytkmmpagflbnenaa.Kin
open Go.RowKit Go.Proofs.Ytkmmpagflbnenaa.Mem
set_option linter.unusedVariables false
section
variable (w : World) (p g m : Nat) (L : List (Int × Int)) (V : Nat → Value) (F : Nat → Prop) (h : Kt w p g m L V F)
include h
set_option maxHeartbeats 4000000 in
theorem cut_root (k : Nat) (hk : k < m) (hn : has L k = true) (hc : chl L k = []) (hp : par L k = -1) : Calls Try.prog 22 #[.pointer (some ⟨p, 0, none⟩), .int .i64 k] w fun e w' => e = .returned (.int .i64 0) ∧ Kept F w w' ∧ ∃ V', Kt w' p g m (cut L k) V' (fun b => F b ∨ w.heap.size ≤ b) := by
  have c0 := h.c0
  have hm := h.hm
  have HH := Lib.hid (has_any w p g m L V F h k)
  rw [hn] at HH
  have HA := Lib.hid (at_any w p g m k hk hm c0)
  obtain ⟨y0, y1, y2⟩ := h.cell hk
  obtain ⟨A, n, hV⟩ : ∃ A c, V k = .slice A 0 c := by
    obtain ⟨A, c, e, _⟩ := own_slice (h.kg.own.own k hk)
    simp only [hc, List.length_nil] at e
    exact ⟨A, c, e⟩
  rw [hV] at y2
  rw [hp] at y1
  have f0 := h.kg.free (k * 3)
  have f1 := h.kg.free (k * 3 + 1)
  have f2 := h.kg.free (k * 3 + 2)
  obtain ⟨k1, k2⟩ := h.kg.node hk false 0
  have FIN : Hid (Kept F w (((w.setCell ⟨g, k * 3, none⟩ (.bool false)).setCell ⟨g, k * 3 + 1, none⟩ (.int .i64 0)).setCell ⟨g, k * 3 + 2, none⟩ (.slice none 0 0)) ∧ ∃ V', Kt (((w.setCell ⟨g, k * 3, none⟩ (.bool false)).setCell ⟨g, k * 3 + 1, none⟩ (.int .i64 0)).setCell ⟨g, k * 3 + 2, none⟩ (.slice none 0 0)) p g m (cut L k) V' (fun b => F b ∨ w.heap.size ≤ b)) := by
    refine ⟨k2.mono (fun b hb => hb ▸ h.kg.fg), _, (k1.mono (fun b hb => .inl hb)).congr (fun j hj => ?_), h.inv.cut hc⟩
    simp only [has_cut, par_cut]
    by_cases hjk : j = k
    · subst hjk
      rw [up_same, up_same, up_same, if_pos rfl, h.inv.chl_cut_other (by rw [hp]; omega), hc]
      simp
    · rw [up_other _ _ hjk, up_other _ _ hjk, up_other _ _ hjk, if_neg (by omega), h.inv.chl_cut_other (by rw [hp]; omega)]
      have e1 : (((j : Int) != (k : Int)) : Bool) = true := by simp; omega
      rw [e1, Bool.and_true]
      exact ⟨rfl, rfl, rfl⟩
  clear h k1 k2 hn hc hp hV
  go_enter Try.func22, Try.ntmps22
  go_wp2_with fail
  (with_reducible refine HH.out.mono ?_)
  rintro e w1 ⟨rfl, rfl⟩
  go_wp2_with fail
  (with_reducible refine HA.out.mono ?_)
  rintro e w1 ⟨rfl, rfl⟩
  go_wp2_with fail
  (with_reducible refine HA.out.mono ?_)
  rintro e w1 ⟨rfl, rfl⟩
  go_wp2_with fail
  (with_reducible refine HA.out.mono ?_)
  rintro e w1 ⟨rfl, rfl⟩
  go_wp2
  go_ret
  exact ⟨rfl, FIN.out⟩
set_option maxHeartbeats 4000000 in
theorem cut_child (k q : Nat) (hk : k < m) (hq : q < m) (hn : has L k = true) (hc : chl L k = []) (hp : par L k = q) (hqk : q ≠ k) : Calls Try.prog 22 #[.pointer (some ⟨p, 0, none⟩), .int .i64 k] w fun e w' => e = .returned (.int .i64 0) ∧ Kept F w w' ∧ ∃ V', Kt w' p g m (cut L k) V' (fun b => F b ∨ w.heap.size ≤ b) := by
  have c0 := h.c0
  have hm := h.hm
  have HH := Lib.hid (has_any w p g m L V F h k)
  rw [hn] at HH
  have HA := Lib.hid (at_any w p g m k hk hm c0)
  have HQ := Lib.hid (at_any w p g m q hq hm c0)
  obtain ⟨y0, y1, y2⟩ := h.cell hk
  obtain ⟨_, _, yq⟩ := h.cell hq
  obtain ⟨A, n, hV⟩ : ∃ A c, V k = .slice A 0 c := by
    obtain ⟨A, c, e, _⟩ := own_slice (h.kg.own.own k hk)
    simp only [hc, List.length_nil] at e
    exact ⟨A, c, e⟩
  rw [hV] at y2
  rw [hp] at y1
  obtain ⟨X, Y, hXY, hX, hY⟩ := h.inv.chl_at hn
  rw [hp] at hXY
  have hl := chl_len w p g m L V F h q
  have ownq := h.kg.own.own q hq
  obtain ⟨A2, n2, hV2⟩ : ∃ A c, V q = .slice A (chl L q).length c := by
    obtain ⟨A, c, e, _⟩ := own_slice ownq
    exact ⟨A, c, e⟩
  obtain ⟨N, hN⟩ : ∃ N, (chl L q).length = N := ⟨_, rfl⟩
  replace ownq : w.ownsRow 0 3 1 (V q) (chl L q).length ((chl L q).map i64) := ownq
  rw [hN] at ownq hV2 hl
  rw [hV2] at yq ownq
  rw [hXY] at ownq
  have HI := Lib.hid (index_any w _ N X Y k ownq hX (by omega))
  have HD := Lib.hid (delete_any w _ N X Y k ownq (by omega))
  have HK := Lib.hid h
  have HV2 := Lib.hid hV2
  have HXY := Lib.hid hXY
  have HP := Lib.hid hp
  have HC := Lib.hid hc
  have HX := Lib.hid hX
  have HY := Lib.hid hY
  have hlx : X.length + 1 + Y.length = N := by have := ownq.1; simp at this; omega
  obtain ⟨a, ha⟩ : ∃ a, X.length = a := ⟨_, rfl⟩
  rw [ha] at HI HD hlx
  have w1 : IntKind.i64.wrap ((a : Int) + 1) = (a : Int) + 1 := by rw [IntKind.wrap_i64]; omega
  clear h hn hc hp hV hXY hX hY ownq hN hV2 ha
  go_enter Try.func22, Try.ntmps22
  go_wp2_with fail
  (with_reducible refine HH.out.mono ?_)
  rintro e w1 ⟨rfl, rfl⟩
  go_wp2_with fail
  (with_reducible refine HA.out.mono ?_)
  rintro e w1 ⟨rfl, rfl⟩
  go_wp2_with fail
  (with_reducible refine HA.out.mono ?_)
  rintro e w1 ⟨rfl, rfl⟩
  go_wp2_with fail
  (with_reducible refine HQ.out.mono ?_)
  rintro e w1 ⟨rfl, rfl⟩
  go_wp2_with fail
  (with_reducible refine HI.out.mono ?_)
  rintro e w1 ⟨rfl, rfl⟩
  go_wp2_with fail
  (with_reducible refine HD.out.mono ?_)
  rintro e w2 ⟨v', rfl, o2, e2, k2⟩
  obtain ⟨A3, n3, rfl, _⟩ := own_slice o2
  obtain ⟨g1, g2⟩ := HK.out.kg.list hq (w1 := w2) o2 (by rw [HV2.out]; exact k2) (fun b hb => .inl (by rw [HV2.out, ← e2]; exact hb))
  have hlg := HK.out.kg.lt
  have hfq : ∀ b, (Value.slice A2 N n2).ownBlock = some b → b ≠ g := fun b hb => (HK.out.kg.fv q b hq (by rw [HV2.out]; exact hb)).2.2
  have fq2 : w2.frozen? ⟨g, q * 3 + 2, none⟩ = false := (k2.frozen hlg.1 (fun e => hfq g e rfl)).trans (HK.out.kg.free _)
  have yq2 : w2.cell? ⟨g, q * 3 + 2, none⟩ = some (.slice A2 N n2) := (k2.cell hlg.1 (fun e => hfq g e rfl)).trans yq
  obtain ⟨M, hM⟩ : ∃ M, (X ++ Y).length = M := ⟨_, rfl⟩
  rw [hM] at g1 g2 ⊢
  have G1 := Lib.hid g1
  have G2 := Lib.hid g2
  clear hM
  clear g1 g2 o2 e2 k2 HI HD HH HA HQ y0 y1 y2 yq c0 hlg hfq
  go_wp2_with fail
  generalize w2.setCell ⟨g, q * 3 + 2, none⟩ (.slice A3 M n3) = W2 at *
  have c0 := G1.out.c0
  (with_reducible refine (at_any W2 p g m k hk hm c0).mono ?_)
  rintro e w1 ⟨rfl, rfl⟩
  obtain ⟨y0, y1, y2⟩ := G1.out.cell hk
  have f0 := G1.out.free (k * 3)
  have f1 := G1.out.free (k * 3 + 1)
  have f2 := G1.out.free (k * 3 + 2)
  obtain ⟨g3, g4⟩ := G1.out.node hk false 0
  have G3 := Lib.hid g3
  have G4 := Lib.hid g4
  clear g3 g4 fq2 yq2
  go_wp2
  go_ret
  refine ⟨rfl, (G2.out.mono (fun b hb => ?_)).trans G4.out (fun b hb => ?_), _, G3.out.congr (fun j hj => ?_), HK.out.inv.cut HC.out⟩
  · rcases hb with e | e
    · exact e ▸ HK.out.kg.fg
    · exact (HK.out.kg.fv q b hq e).1
  · exact .inl (hb ▸ HK.out.kg.fg)
  · simp only [has_cut, par_cut]
    by_cases hjk : j = k
    · subst hjk
      rw [up_same, up_same, up_same, if_pos rfl, HK.out.inv.chl_cut_other (by rw [HP.out]; omega), HC.out]
      simp
    · rw [up_other _ _ hjk, up_other _ _ hjk, up_other _ _ hjk, if_neg (by omega)]
      have e1 : (((j : Int) != (k : Int)) : Bool) = true := by simp; omega
      rw [e1, Bool.and_true]
      refine ⟨rfl, rfl, ?_⟩
      by_cases hjq : j = q
      · subst hjq
        rw [up_same, chl_cut, HXY.out, chl_cut_at HX.out HY.out]
      · rw [up_other _ _ hjq, HK.out.inv.chl_cut_other (by rw [HP.out]; omega)]
theorem cut_any (n : Int) : Calls Try.prog 22 #[.pointer (some ⟨p, 0, none⟩), .int .i64 n] w fun e w' => e = .returned (.int .i64 (cutE L n)) ∧ Kept F w w' ∧ ∃ V', Kt w' p g m (cutL L n) V' (fun b => F b ∨ w.heap.size ≤ b) := by
  have same : Hid (Kept F w w ∧ ∃ V', Kt w p g m L V' (fun b => F b ∨ w.heap.size ≤ b)) := ⟨Kept.refl _ _, V, h.mono (fun b hb => .inl hb)⟩
  have HH := Lib.hid (has_any w p g m L V F h n)
  unfold cutE cutL
  by_cases hn : has L n = true
  · rw [if_pos hn]
    have hr := h.inv.has_rng hn
    obtain ⟨k, rfl⟩ : ∃ k : Nat, n = k := ⟨n.toNat, by omega⟩
    have hk : k < m := by omega
    by_cases hc : chl L (k : Int) = []
    · rw [if_pos hc, if_pos ⟨hn, hc⟩]
      rcases h.inv.par_rng hn with e | ⟨e, e2⟩
      · exact cut_root w p g m L V F h k hk hn hc e
      · have hpr := h.inv.has_rng e
        obtain ⟨q, hq⟩ : ∃ q : Nat, par L (k : Int) = q := ⟨(par L (k : Int)).toNat, by omega⟩
        exact cut_child w p g m L V F h k q hk (by omega) hn hc hq (by omega)
    · rw [if_neg hc, if_neg (fun e => hc e.2)]
      rw [hn] at HH
      have c0 := h.c0
      have hm := h.hm
      have HA := Lib.hid (at_any w p g m k hk hm c0)
      obtain ⟨_, _, y2⟩ := h.cell hk
      obtain ⟨A, n, hV⟩ : ∃ A c, V k = .slice A (chl L (k : Int)).length c := by
        obtain ⟨A, c, e, _⟩ := own_slice (h.kg.own.own k hk)
        exact ⟨A, c, e⟩
      rw [hV] at y2
      have hl : 0 < (chl L (k : Int)).length := List.length_pos_iff.2 hc
      obtain ⟨N, hN⟩ : ∃ N, (chl L (k : Int)).length = N := ⟨_, rfl⟩
      rw [hN] at y2 hl
      clear h hn hc hN hV hr
      go_enter Try.func22, Try.ntmps22
      go_wp2_with fail
      (with_reducible refine HH.out.mono ?_)
      rintro e w1 ⟨rfl, rfl⟩
      go_wp2_with fail
      (with_reducible refine HA.out.mono ?_)
      rintro e w1 ⟨rfl, rfl⟩
      go_wp2
      go_ret
      exact ⟨rfl, same.out⟩
  · rw [if_neg hn, if_neg (fun e => hn e.1)]
    rw [show has L n = false by simpa using hn] at HH
    clear h hn
    go_enter Try.func22, Try.ntmps22
    go_wp2_with fail
    (with_reducible refine HH.out.mono ?_)
    rintro e w1 ⟨rfl, rfl⟩
    go_wp2
    go_ret
    exact ⟨rfl, same.out⟩
end
end Go.Proofs.Ytkmmpagflbnenaa.Kin

/- within: a range of a range. Own text; Ytkmmpagflbnenaa and the numbers between @..@ are the seat's. -/
import Derived.Test.YtkmmpagflbnenaaWdA
namespace Go.Proofs.Ytkmmpagflbnenaa.Kin
open Go.RowKit Go.Proofs.Ytkmmpagflbnenaa.Mem Go.Shelf
set_option linter.unusedVariables false
attribute [local go_sem] Oper.semAt_some
set_option maxRecDepth 100000 in
set_option maxHeartbeats 4000000 in
theorem within_any (w : World) (p g m : Nat) (L : List (Int × Int)) (V : Nat → Value) (F : Nat → Prop) (h : Kt w p g m L V F) (n : Int) (A B : Option Addr) (a b q r : Nat)
    (ha : w.ownsRow 0 3 1 (.slice A a q) a ((dnl L false n).map i64)) (hb : w.ownsRow 0 3 1 (.slice B b r) b ((upl L n).map i64)) :
    Calls Try.prog 25 #[.pointer (some ⟨p, 0, none⟩), .int .i64 n, .slice A a q, .slice B b r] w fun e w' => e = .returned (.bool true) ∧ Below w.heap.size w w' := by
  have hK := (Wk.start w).new 23 (.pointer (some ⟨p, 0, none⟩))
  replace hK := hK.new 3 (.int .i64 n)
  replace hK := hK.new 34 (.slice A a q)
  replace hK := hK.new 34 (.slice B b r)
  replace hK := hK.new 4 (.bool false)
  replace hK := hK.new 3 (.int .i64 0)
  simp only [World.size_alloc] at hK
  have hla : (dnl L false n).length = a := by have := ha.1; simpa using this
  have hlb : (upl L n).length = b := by have := hb.1; simpa using this
  obtain ⟨U, hU⟩ : ∃ U, upl L n = U := ⟨_, rfl⟩
  rw [hU] at hlb hb
  have hbm : b ≤ m := by rw [← hlb, ← hU]; exact h.inv.up_len n
  have hm := h.hm
  obtain ⟨W0, hW0⟩ : ∃ W0, (((((w.alloc (.cells #[.pointer (some ⟨p, 0, none⟩)] 23)).alloc (.cells #[.int .i64 n] 3)).alloc (.cells #[.slice A a q] 34)).alloc (.cells #[.slice B b r] 34)).alloc (.cells #[.bool false] 4)).alloc (.cells #[.int .i64 0] 3) = W0 := ⟨_, rfl⟩
  have hs0 : W0.heap.size = w.heap.size + 6 := by rw [← hW0]; simp
  have HT := Lib.hid (up_it W0 p n)
  have HW0 := Lib.hid hW0
  rw [hW0] at hK
  have hK1 := ((hK.new 23 (.pointer (some ⟨p, 0, none⟩))).new 3 (.int .i64 n)).new 81 (.func (.func 48) #[] #[.pointer (some ⟨W0.heap.size, 0, none⟩), .pointer (some ⟨W0.heap.size + 1, 0, none⟩)])
  simp only [World.size_alloc] at hK1
  obtain ⟨W1, hW1⟩ : ∃ W1, ((W0.alloc (.cells #[.pointer (some ⟨p, 0, none⟩)] 23)).alloc (.cells #[.int .i64 n] 3)).alloc (.cells #[.func (.func 48) #[] #[.pointer (some ⟨W0.heap.size, 0, none⟩), .pointer (some ⟨W0.heap.size + 1, 0, none⟩)]] 81) = W1 := ⟨_, rfl⟩
  have hs1 : W1.heap.size = w.heap.size + 9 := by rw [← hW1]; simp; omega
  rw [hW1] at hK1 HT
  rw [hs0] at hK1 HT
  clear hK hW1 hW0
  have HK1 := Lib.hid hK1
  have HU := Lib.hid hU
  have ST := told1_up W1 (w.heap.size + 6 + 2) _ U (by omega) (Mc W1.heap.size) (fun W g _ e => e) (hK1.at 0 rfl).cell (by rw [← hU]; exact up1_gives W1 p g m L V F (h.below hK1.bel) n _ _ (hK1.at 2 rfl).cell (hK1.at 1 rfl).cell) 11 (by decide)
  refine (callsIn_wide (n := 12)).1 ?_
  refine callsIn_of_wp_marks Try.func25 rfl trivial ?_ rfl
  simp only [Try.ntmps25, List.size_toArray, List.length_cons, List.length_nil, Nat.reduceAdd, Nat.reduceSub, Array.replicate_succ, Array.replicate_zero, List.push_toArray, List.append_toArray, List.nil_append, List.cons_append]
  clear hK1 hU hs0
  gi_wp2
  rw [HW0.out]
  refine ⟨trivial, ?_⟩
  gi_at_call 24
  refine (callsIn_wide.2 HT.out).mono ?_
  rintro e w1 ⟨rfl, rfl⟩
  clear HT
  gi_wp2
  obtain ⟨cl, hcl⟩ : ∃ cl : List (Nat × TypeId × Value), [(w.heap.size + 6 + 1 + 1, 81, .func (.func 48) #[] #[.pointer (some ⟨w.heap.size + 6, 0, none⟩), .pointer (some ⟨w.heap.size + 6 + 1, 0, none⟩)]), (w.heap.size + 6 + 1, 3, .int .i64 n), (w.heap.size + 6, 23, .pointer (some ⟨p, 0, none⟩)), (w.heap.size + 1 + 1 + 1 + 1, 4, .bool false), (w.heap.size + 1 + 1 + 1, 34, .slice B b r), (w.heap.size + 1 + 1, 34, .slice A a q), (w.heap.size + 1, 3, .int .i64 n), (w.heap.size, 23, .pointer (some ⟨p, 0, none⟩))] = cl := ⟨_, rfl⟩
  have I0 : Wk w w1 ((w.heap.size + 1 + 1 + 1 + 1 + 1, 3, .int .i64 0) :: cl) [] := HK1.out.sub (fun x hx => by rw [← hcl] at hx; simp at hx ⊢; grind)
  have hne : ∀ x ∈ cl, x.1 ≠ w.heap.size + 1 + 1 + 1 + 1 + 1 := fun x hx => by rw [← hcl] at hx; simp at hx; rcases hx with rfl | rfl | rfl | rfl | rfl | rfl | rfl | rfl <;> simp <;> omega
  have HCL := Lib.hid hcl
  clear hcl
  refine wpIn_rangeFunc_ownF (n := 12) rfl (by decide) (gf := 54) (lb := #[.pointer (some ⟨w.heap.size + 6 + 2, 0, none⟩)]) rfl trivial (enters_of Try.func54 (by kernel_rfl) rfl) ST KpM.trans (kpM_b (fun W l g o' hl e => mc_b W l g o' hl e)) (Below.refl _ _) (fun _ => rfl)
    (fun pre W => Wk w W ((w.heap.size + 1 + 1 + 1 + 1 + 1, 3, .int .i64 (pre.length : Int)) :: cl) [] ∧ pre <+: U) (fun _ pre _ => ¬ pre <+: U) (fun s W W' row hs hg hr => ⟨hs.1.grown hg (fun r e => by have := (hr r e).1; omega) (fun r e => (hr r e).2), hs.2⟩) (fun _ _ _ _ _ hs _ _ => hs) ⟨I0, List.nil_prefix⟩
    (fun x => { tmps := #[.pointer (some ⟨p, 0, none⟩), .int .i64 n, .slice A a q, .slice B b r, .pointer (some ⟨w.heap.size, 0, none⟩), .pointer (some ⟨w.heap.size + 1, 0, none⟩), .pointer (some ⟨w.heap.size + 1 + 1, 0, none⟩), .pointer (some ⟨w.heap.size + 1 + 1 + 1, 0, none⟩), .pointer (some ⟨w.heap.size + 1 + 1 + 1 + 1, 0, none⟩), .pointer (some ⟨w.heap.size + 1 + 1 + 1 + 1 + 1, 0, none⟩), .int .i64 x, undef, undef, .pointer (some ⟨p, 0, none⟩), .int .i64 n, .func (.func 54) #[] #[.pointer (some ⟨w.heap.size + 6 + 2, 0, none⟩)], .int .i64 x, undef, undef, undef, undef, undef, undef, undef, undef, undef, undef, undef, undef, undef, undef, undef, undef, undef, undef, undef, undef, undef, undef, undef, undef, undef, undef, undef, undef, undef, undef, undef, undef], defers := [] }) ?assign ?body ?done ?stop
  case assign =>
    intro l x W K hK
    gi_wp2
    exact hK
  case body =>
    rintro l pre x W ⟨hC, hpre⟩ hlen
    dsimp only
    have hC2 := hC
    rw [← HCL.out] at hC2
    have k0 := (hC2.at 0 rfl).cell
    have k1 := (hC2.at 0 rfl).frozen
    have r0 := (hC2.at 4 rfl).cell
    have r1 := (hC2.at 4 rfl).frozen
    have u0 := (hC2.at 5 rfl).cell
    have n0 := (hC2.at 7 rfl).cell
    have p0 := (hC2.at 8 rfl).cell
    have HW2 := Lib.hid hC2
    clear hC2
    obtain ⟨y, hy⟩ : ∃ y, U[pre.length]? = some y := ⟨_, List.getElem?_eq_getElem hlen⟩
    have OB := own_keeps hb (Kept.of_below hC.bel)
    obtain ⟨gb, rfl⟩ := own_block OB (by omega)
    have y0 := own_cell OB hy
    have HY := Lib.hid hy
    have HC := Lib.hid hC
    have hlb' : (pre.length : Int) < b := by omega
    obtain ⟨j, hj⟩ : ∃ j, pre.length = j := ⟨_, rfl⟩
    have HJ := Lib.hid hj
    have HP := Lib.hid hpre
    rw [hj] at k0 y0 hlb'
    clear hC hy OB hlen hpre hj
    by_cases hxy : x = y
    · have hxy' : (x != y) = false := by simp [hxy]
      have HXY := Lib.hid hxy
      have HD := Lib.hid (downs_any W p g m L V F (h.below HC.out.bel) n)
      rw [hla] at HD
      clear hxy
      gi_wp2
      refine ⟨trivial, ?_⟩
      gi_at_call 15
      refine (callsIn_wide.2 HD.out).mono ?_
      rintro e w2 ⟨A2, c2, rfl, o2, b2, f2⟩
      have HC3 := HW2.out.below b2
      have z0 := (HC3.at 0 rfl).cell
      have z1 := (HC3.at 0 rfl).frozen
      have a0 := (HC3.at 6 rfl).cell
      have NS := Lib.hid (numbers_same w2 _ _ _ (reads_own hla o2) (reads_own hla (own_keeps ha (Kept.of_below HC3.bel))))
      have B2 := Lib.hid b2
      have HC4 := Lib.hid HC3
      rw [HJ.out] at z0
      clear HD o2 f2 b2 HC3 k0 k1 r0 r1 n0 p0 y0
      gi_wp2
      refine ⟨trivial, ?_⟩
      gi_at_call 12
      refine (callsIn_wide.2 NS.out).mono ?_
      rintro e w3 ⟨rfl, b3⟩
      have HC5 := HC4.out.below b3
      have x0 := (HC5.at 0 rfl).cell
      have x1 := (HC5.at 0 rfl).frozen
      rw [HJ.out] at x0
      have B3 : Hid (Below W.heap.size W w3) := B2.out.trans (b3.mono B2.out.size)
      have HC6 := Lib.hid HC5
      clear NS b3 HC5 z0 z1 a0 HC4 B2
      gi_wp2
      have hq : (pre ++ [x]) <+: U := pre_next HP.out (by rw [HXY.out]; exact HY.out)
      have hset := HC6.out
      rw [HCL.out, HJ.out] at hset
      replace hset := hset.set (.int .i64 ((j : Int) + 1)) hne
      refine ⟨?_, ?_, ?_, hq⟩
      · exact (show KeepsOthers W w3 from ⟨B3.out.size, fun k o hk _ => (B3.out.block k (lt_of_row hk)).trans hk⟩).trans (KeepsOthers.setCell _ _ _)
      · exact kpM_kept (S := fun b => b = w.heap.size + 1 + 1 + 1 + 1 + 1) ((Kept.of_below B3.out).setCell (S := fun b => b = w.heap.size + 1 + 1 + 1 + 1 + 1) (p := ⟨w.heap.size + 1 + 1 + 1 + 1 + 1, 0, none⟩) (.inl rfl) _) (fun b e => by omega)
      · rw [List.length_append, HJ.out]
        exact hset
    · have hxy' : (x != y) = true := by simp [hxy]
      have HXY := Lib.hid hxy
      clear hxy
      gi_wp2
      refine ⟨KeepsOthers.setCell _ _ _, fun hp => HXY.out (pre_at hp HY.out)⟩
  case done =>
    rintro D xs W hD rfl ⟨hC, _⟩ hK
    dsimp only
    rw [hlb] at hC
    have hC2 := hC
    rw [← HCL.out] at hC2
    have k0 := (hC2.at 0 rfl).cell
    have r0 := (hC2.at 4 rfl).cell
    have r1 := (hC2.at 4 rfl).frozen
    have u0 := (hC2.at 5 rfl).cell
    have R := (hC2.at 4 rfl).set (.bool true)
    have HC := Lib.hid hC
    have HR := Lib.hid R
    clear hC2 hC R
    gi_wp2
    have hK2 := (KeepsOthers.setCell W ⟨w.heap.size + 1 + 1 + 1 + 1, 0, none⟩ (.bool true)).same D _ hK rfl
    refine ⟨by simp, .inl ⟨_, _, rfl, run_takeDeferred hK2, ?_⟩⟩
    refine ⟨_, results_box rfl _ rfl (Try.isAgg4 _) (cell_kept HR.out.cell (grownBy_putObj' _ D (.deferred none)) (fun r e => by cases e; exact ⟨_, hK2, rfl⟩)), rfl, ?_⟩
    exact (HC.out.bel.setCell (p := ⟨w.heap.size + 1 + 1 + 1 + 1, 0, none⟩) (by simp; omega) (.bool true)).trans (belowK_b (w := w) (Nat.le_refl _) _ D _ _ (by omega) hK2 rfl rfl)
  case stop =>
    rintro D c pre W _ h1 h2 _
    exact (h2 h1).elim
end Go.Proofs.Ytkmmpagflbnenaa.Kin

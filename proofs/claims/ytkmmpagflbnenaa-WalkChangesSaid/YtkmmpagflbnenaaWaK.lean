/- forest: the walk. Own text (gen_wak.py); Ytkmmpagflbnenaa and the numbers between @..@ are the seat's. -/
import Derived.Test.YtkmmpagflbnenaaWaJ
namespace Go.Proofs.Ytkmmpagflbnenaa.Kin
open Go.RowKit Go.Proofs.Ytkmmpagflbnenaa.Mem
set_option linter.unusedVariables false
structure Bo (w W : World) (bo : Nat) (k q n : Int) : Prop where
  c0 : W.cell? ⟨bo, 0, none⟩ = some (.int .i64 k)
  c1 : W.cell? ⟨bo, 1, none⟩ = some (.int .i64 q)
  c2 : W.cell? ⟨bo, 2, none⟩ = some (.int .i64 n)
theorem Bo.kept {w W W' : World} {bo : Nat} {k q n : Int} (h : Bo w W bo k q n) (hk : Kept (fun b => w.heap.size ≤ b ∧ ¬ b = bo) W W') : Bo w W' bo k q n := ⟨(hk.cell (World.block_lt_of_cell? W _ h.c0) (fun e => e.2 rfl)).trans h.c0, (hk.cell (World.block_lt_of_cell? W _ h.c1) (fun e => e.2 rfl)).trans h.c1, (hk.cell (World.block_lt_of_cell? W _ h.c2) (fun e => e.2 rfl)).trans h.c2⟩
theorem Bo.lt {w W : World} {bo : Nat} {k q n : Int} (h : Bo w W bo k q n) : bo < W.heap.size := World.block_lt_of_cell? W _ h.c0
theorem runL_take (m : Nat) (os : List (Int × Int × Int)) (i : Nat) (x : Int × Int × Int) (h : os[i]? = some x) : runL m (os.take (i + 1)) = doL m (runL m (os.take i)) x.1 x.2.1 x.2.2 := by
  obtain ⟨hlt, rfl⟩ := List.getElem?_eq_some_iff.1 h
  unfold runL
  rw [List.take_succ_eq_append_getElem hlt, List.foldl_append]
  rfl
set_option maxHeartbeats 8000000 in
set_option maxRecDepth 100000 in
theorem forest_any (w : World) (m : Nat) (hm : m ≤ 1024) (vs : Value) (os : List (Int × Int × Int)) (hs : ReadsOps w vs os) :
    Calls Try.prog 7 #[.int .i64 m, vs] w fun e w' => ∃ p g r, e = .returned (.tuple #[.pointer (some ⟨p, 0, none⟩), .pointer (some ⟨r, 0, none⟩)]) ∧ Duo w w' p g m r (runL m os) (runL m os) (fun _ => False) ∧ Below w.heap.size w w' := by
  obtain ⟨As, cs, rfl, hs1, hs2, hs3⟩ := hs
  unfold maxLen at hs2
  have HS := Lib.hid hs3
  clear hs3
  have HX := Lib.hid (new_in w m hm)
  go_enter Try.func7, Try.ntmps7
  go_wp2_with fail
  (with_reducible refine HX.out.mono ?_)
  rintro e w1 ⟨p, g, rfl, b1, k1⟩
  have HB1 := Lib.hid b1
  have HK1 := Lib.hid k1.tight
  clear HX b1 k1
  have HX := Lib.hid (rnew_in w1 m hm)
  go_wp2_with fail
  (with_reducible refine HX.out.mono ?_)
  rintro e w2 ⟨r, rfl, b2, r2⟩
  have HD : Hid (Duo w w2 p g m r [] [] (fun _ => False)) := ⟨_, _, _, HK1.out.below b2, r2.tight, fun b hb => ⟨hb.1, Nat.lt_of_lt_of_le hb.2 b2.size, fun e => by have := e.1; have := hb.2; omega, fun e => e⟩, fun b hb => ⟨Nat.le_trans HB1.out.size hb.1, hb.2, fun e => e⟩⟩
  have HB2 : Hid (Below w.heap.size w w2) := HB1.out.trans (b2.mono HB1.out.size)
  clear HX b2 r2 HK1 HB1
  go_wp2_with (first | (go_at_call 21; (refine (num_any _ _).mono ?_); rintro e w9 ⟨rfl, rfl⟩) | fail)
  go_loopw [10] (fun v10 wr => ∃ i : Nat, i ≤ os.length ∧ v10 = .int .i64 i ∧ Hid (Duo w wr p g m r (runL m (os.take i)) (runL m (os.take i)) (fun _ => False)) ∧ Hid (Below w.heap.size w wr)) (fun v10 _ => os.length - (intOf v10).toNat)
  case atStart => exact ⟨0, Nat.zero_le _, rfl, HD, HB2⟩
  case round =>
    clear HD HB2
    obtain ⟨i, hi, rfl, HD, HW⟩ := hrel
    by_cases hlt : i < os.length
    · obtain ⟨x, hx⟩ : ∃ x, os[i]? = some x := ⟨_, List.getElem?_eq_getElem hlt⟩
      obtain ⟨gs, ss, rfl, hcell⟩ := HS.out (by omega)
      obtain ⟨k, q, n⟩ := x
      have HXX := Lib.hid hx
      have hgs : Hid (gs < w.heap.size) := World.block_lt_of_cell? w _ (hcell i (k, q, n) hx 0 _ rfl)
      have y0 := (HW.out.cell (show (⟨gs, ss + i * 3, none⟩ : Addr).block < w.heap.size from hgs.out)).trans (hcell i (k, q, n) hx 0 _ rfl)
      have y1 := (HW.out.cell (show (⟨gs, ss + i * 3 + 1, none⟩ : Addr).block < w.heap.size from hgs.out)).trans (hcell i (k, q, n) hx 1 _ rfl)
      have y2 := (HW.out.cell (show (⟨gs, ss + i * 3 + 2, none⟩ : Addr).block < w.heap.size from hgs.out)).trans (hcell i (k, q, n) hx 2 _ rfl)
      clear hcell hx
      have D0 : Hid (Duo w (wr.alloc (.cells #[.int .i64 k, .int .i64 q, .int .i64 n] 30)) p g m r (runL m (os.take i)) (runL m (os.take i)) (fun b => b = wr.heap.size)) := (HD.out.free (fun b hb => Nat.le_of_eq hb.symm)).below ((Below.refl _ wr).alloc (Nat.le_refl _) _)
      have W0 : Hid (Below w.heap.size w (wr.alloc (.cells #[.int .i64 k, .int .i64 q, .int .i64 n] 30))) := HW.out.alloc HW.out.size _
      have ROW : Hid ((wr.alloc (.cells #[.int .i64 k, .int .i64 q, .int .i64 n] 30)).heap[wr.heap.size]? = some (.cells #[.int .i64 k, .int .i64 q, .int .i64 n] 30)) := heap_alloc_new wr _
      have BO : Hid (Bo w (wr.alloc (.cells #[.int .i64 k, .int .i64 q, .int .i64 n] 30)) wr.heap.size k q n) := ⟨cell_row ROW.out rfl, cell_row ROW.out rfl, cell_row ROW.out rfl⟩
      by_cases k1 : k = 1
      · subst k1
        go_wp2_with fail
        clear y0 y1 y2 HD HW ROW
        generalize wr.heap.size = bo at *
        generalize wr.alloc (.cells #[.int .i64 1, .int .i64 q, .int .i64 n] 30) = W1 at *
        have HL1 := Lib.hid (runL_take m os i (1, q, n) HXX.out)
        obtain ⟨L, hL⟩ : ∃ L, runL m (os.take i) = L := ⟨_, rfl⟩
        rw [hL] at D0 HL1
        have C1 := Lib.hid (D0.out.left (fun b hb => hb ▸ BO.out.lt) (fun V F h => (root_any W1 p g m L V F h n)))
        (with_reducible refine C1.out.mono ?_)
        rintro e w4 ⟨rfl, d4, k4⟩
        have BO4 := BO.out.kept k4
        have z1 := BO4.c1
        have z2 := BO4.c2
        have D4 := Lib.hid d4
        have C2 := Lib.hid (D4.out.right (fun b hb => hb ▸ BO4.lt) (fun G h => (rroot_any w4 r m L G h n)))
        have W4 : Hid (Below w.heap.size w w4) := W0.out.trans (k4.below (fun x hx => hx.1) W0.out.size)
        clear d4 k4 BO4
        go_wp2_with (first | (go_at_call 21; (refine (num_any _ _).mono ?_); rintro e w9 ⟨rfl, rfl⟩) | fail)
        (with_reducible refine C2.out.mono ?_)
        rintro e w5 ⟨rfl, d5, k5⟩
        have W5 := Lib.hid (W4.out.trans (k5.below (fun x hx => hx.1) W4.out.size))
        have D5 := Lib.hid (d5.free (Y := fun _ => False) (fun _ h => h.elim))
        clear d5 k5 C1 C2 z1 z2 W4 D4
        go_wp2_with fail
        exact ⟨⟨i + 1, by omega, by simp, by show Duo _ _ _ _ _ _ _ _ _; rw [HL1.out]; exact D5.out, W5⟩, by simp [intOf]; omega⟩
      by_cases k2 : k = 2
      · subst k2
        go_wp2_with fail
        clear y0 y1 y2 HD HW ROW
        generalize wr.heap.size = bo at *
        generalize wr.alloc (.cells #[.int .i64 2, .int .i64 q, .int .i64 n] 30) = W1 at *
        have HL1 := Lib.hid (runL_take m os i (2, q, n) HXX.out)
        obtain ⟨L, hL⟩ : ∃ L, runL m (os.take i) = L := ⟨_, rfl⟩
        rw [hL] at D0 HL1
        have C1 := Lib.hid (D0.out.left (fun b hb => hb ▸ BO.out.lt) (fun V F h => (child_any W1 p g m L V F h q n)))
        (with_reducible refine C1.out.mono ?_)
        rintro e w4 ⟨rfl, d4, k4⟩
        have BO4 := BO.out.kept k4
        have z1 := BO4.c1
        have z2 := BO4.c2
        have D4 := Lib.hid d4
        have C2 := Lib.hid (D4.out.right (fun b hb => hb ▸ BO4.lt) (fun G h => (rchild_any w4 r m L G h q n)))
        have W4 : Hid (Below w.heap.size w w4) := W0.out.trans (k4.below (fun x hx => hx.1) W0.out.size)
        clear d4 k4 BO4
        go_wp2_with (first | (go_at_call 21; (refine (num_any _ _).mono ?_); rintro e w9 ⟨rfl, rfl⟩) | fail)
        (with_reducible refine C2.out.mono ?_)
        rintro e w5 ⟨rfl, d5, k5⟩
        have W5 := Lib.hid (W4.out.trans (k5.below (fun x hx => hx.1) W4.out.size))
        have D5 := Lib.hid (d5.free (Y := fun _ => False) (fun _ h => h.elim))
        clear d5 k5 C1 C2 z1 z2 W4 D4
        go_wp2_with fail
        exact ⟨⟨i + 1, by omega, by simp, by show Duo _ _ _ _ _ _ _ _ _; rw [HL1.out]; exact D5.out, W5⟩, by simp [intOf]; omega⟩
      by_cases k3 : k = 3
      · subst k3
        go_wp2_with fail
        clear y0 y1 y2 HD HW ROW
        generalize wr.heap.size = bo at *
        generalize wr.alloc (.cells #[.int .i64 3, .int .i64 q, .int .i64 n] 30) = W1 at *
        have HL1 := Lib.hid (runL_take m os i (3, q, n) HXX.out)
        obtain ⟨L, hL⟩ : ∃ L, runL m (os.take i) = L := ⟨_, rfl⟩
        rw [hL] at D0 HL1
        have C1 := Lib.hid (D0.out.left (fun b hb => hb ▸ BO.out.lt) (fun V F h => (cut_any W1 p g m L V F h n)))
        (with_reducible refine C1.out.mono ?_)
        rintro e w4 ⟨rfl, d4, k4⟩
        have BO4 := BO.out.kept k4
        have z1 := BO4.c1
        have z2 := BO4.c2
        have D4 := Lib.hid d4
        have C2 := Lib.hid (D4.out.right (fun b hb => hb ▸ BO4.lt) (fun G h => (rcut_any w4 r m L G h n)))
        have W4 : Hid (Below w.heap.size w w4) := W0.out.trans (k4.below (fun x hx => hx.1) W0.out.size)
        clear d4 k4 BO4
        go_wp2_with (first | (go_at_call 21; (refine (num_any _ _).mono ?_); rintro e w9 ⟨rfl, rfl⟩) | fail)
        (with_reducible refine C2.out.mono ?_)
        rintro e w5 ⟨rfl, d5, k5⟩
        have W5 := Lib.hid (W4.out.trans (k5.below (fun x hx => hx.1) W4.out.size))
        have D5 := Lib.hid (d5.free (Y := fun _ => False) (fun _ h => h.elim))
        clear d5 k5 C1 C2 z1 z2 W4 D4
        go_wp2_with fail
        exact ⟨⟨i + 1, by omega, by simp, by show Duo _ _ _ _ _ _ _ _ _; rw [HL1.out]; exact D5.out, W5⟩, by simp [intOf]; omega⟩
      have HL1 : Hid (runL m (os.take (i + 1)) = runL m (os.take i)) := by
        show _ = _
        rw [runL_take m os i (k, q, n) HXX.out]
        simp [doL, k1, k2, k3]
      have D5 := Lib.hid (D0.out.free (Y := fun _ => False) (fun _ h => h.elim))
      clear D0 HD HW
      go_wp2_with fail
      exact ⟨⟨i + 1, by omega, by simp, by show Duo _ _ _ _ _ _ _ _ _; rw [HL1.out]; exact D5.out, W0⟩, by simp [intOf]; omega⟩
    · have : i = os.length := by omega
      subst this
      rw [List.take_of_length_le (Nat.le_refl _)] at HD
      go_wp2_with fail
      go_ret2
      exact ⟨p, g, r, rfl, HD.out, HW.out⟩
end Go.Proofs.Ytkmmpagflbnenaa.Kin

/- KinScripts: the walk. -/
import Derived.Test.YthemibhajlgcdaaKinV
namespace Go.Proofs.Ythemibhajlgcdaa.Kin
open Go.RowKit Go.Proofs.Ythemibhajlgcdaa.Mem
set_option linter.unusedVariables false
/-- Calls in memory. -/
def opL (x : Int × Int × Int) : List Value := [.int .i64 x.1, .int .i64 x.2.1, .int .i64 x.2.2]
def ReadsOps (w : World) (v : Value) (os : List (Int × Int × Int)) : Prop :=
  ∃ A c, v = .slice A os.length c ∧ os.length ≤ c ∧ c ≤ maxLen ∧ (0 < os.length → ∃ g o, A = some ⟨g, o, none⟩ ∧ ∀ i x, os[i]? = some x → ∀ j u, (opL x)[j]? = some u → w.cell? ⟨g, o + i * 3 + j, none⟩ = some u)
/-- Two forests beside one another, both of them new; the program's may be a call ahead; neither touches X. -/
def Duo (w wr : World) (p g m r : Nat) (L L' : List (Int × Int)) (X : Nat → Prop) : Prop :=
  ∃ V F G, Kt wr p g m L' V F ∧ Rg wr r m L G ∧ (∀ b, F b → w.heap.size ≤ b ∧ b < wr.heap.size ∧ ¬ G b ∧ ¬ X b) ∧ (∀ b, G b → w.heap.size ≤ b ∧ b < wr.heap.size ∧ ¬ X b)
section
variable {w wr w' : World} {p g m r : Nat} {L L' : List (Int × Int)} {X Y : Nat → Prop}
theorem Duo.below (h : Duo w wr p g m r L L' X) (hb : Below wr.heap.size wr w') : Duo w w' p g m r L L' X := by
  obtain ⟨V, F, G, h1, h2, h3, h4⟩ := h
  have := hb.size
  exact ⟨V, F, G, h1.below hb, h2.below hb, fun b hb' => ⟨(h3 b hb').1, Nat.lt_of_lt_of_le (h3 b hb').2.1 this, (h3 b hb').2.2⟩, fun b hb' => ⟨(h4 b hb').1, Nat.lt_of_lt_of_le (h4 b hb').2.1 this, (h4 b hb').2.2⟩⟩
theorem Duo.free (h : Duo w wr p g m r L L' X) (hY : ∀ b, Y b → wr.heap.size ≤ b) : Duo w wr p g m r L L' Y := by
  obtain ⟨V, F, G, h1, h2, h3, h4⟩ := h
  exact ⟨V, F, G, h1, h2, fun b hb' => ⟨(h3 b hb').1, (h3 b hb').2.1, (h3 b hb').2.2.1, fun e => by have := hY b e; have := (h3 b hb').2.1; omega⟩, fun b hb' => ⟨(h4 b hb').1, (h4 b hb').2.1, fun e => by have := hY b e; have := (h4 b hb').2.1; omega⟩⟩
theorem Duo.hm (h : Duo w wr p g m r L L' X) : m ≤ 1024 := by
  obtain ⟨V, F, G, h1, _⟩ := h
  exact h1.hm
theorem Duo.told (h : Duo w wr p g m r L L X) (n : Int) : Calls Try.prog 12 #[.pointer (some ⟨p, 0, none⟩), .pointer (some ⟨r, 0, none⟩), .int .i64 n] wr fun e w' => e = .returned (.bool true) ∧ Below wr.heap.size wr w' := by
  obtain ⟨V, F, G, h1, h2, _, _⟩ := h
  exact told_any wr p g m r L V F G h1 h2 n
theorem Duo.does (h : Duo w wr p g m r L L X) (hX : ∀ b, X b → b < wr.heap.size) (k q n : Int) : Calls Try.prog 10 #[.pointer (some ⟨p, 0, none⟩), .agg #[.int .i64 k, .int .i64 q, .int .i64 n]] wr fun e w' => e = .returned (.int .i64 (doE m L k q n)) ∧ Duo w w' p g m r L (doL m L k q n) X ∧ Kept (fun b => w.heap.size ≤ b ∧ ¬ X b) wr w' := by
  obtain ⟨V, F, G, h1, h2, h3, h4⟩ := h
  refine (does_any wr p g m L V F h1 k q n).mono ?_
  rintro e w' ⟨rfl, hk, V', h5⟩
  refine ⟨rfl, ⟨V', _, G, h5.tight, h2.kept hk (fun b hb hf => (h3 b hf).2.2.1 hb), fun b hb => ?_, fun b hb => ⟨(h4 b hb).1, Nat.lt_of_lt_of_le (h4 b hb).2.1 hk.size, (h4 b hb).2.2⟩⟩, hk.mono (fun b hb => ⟨(h3 b hb).1, (h3 b hb).2.2.2⟩)⟩
  obtain ⟨h6, h7⟩ := hb
  rcases h6 with h6 | h6
  · exact ⟨(h3 b h6).1, h7, (h3 b h6).2.2⟩
  · have hw : w.heap.size ≤ wr.heap.size := Nat.le_of_lt (Nat.lt_of_le_of_lt (h3 p h1.kg.fp).1 (h3 p h1.kg.fp).2.1)
    exact ⟨Nat.le_trans hw h6, h7, fun hg => by have := (h4 b hg).2.1; omega, fun hx => by have := hX b hx; omega⟩
theorem Duo.should (h : Duo w wr p g m r L L' X) (hX : ∀ b, X b → b < wr.heap.size) (k q n : Int) (hL : L' = doL m L k q n) : Calls Try.prog 11 #[.pointer (some ⟨r, 0, none⟩), .agg #[.int .i64 k, .int .i64 q, .int .i64 n]] wr fun e w' => e = .returned (.int .i64 (doE m L k q n)) ∧ Duo w w' p g m r L' L' X ∧ Kept (fun b => w.heap.size ≤ b ∧ ¬ X b) wr w' := by
  obtain ⟨V, F, G, h1, h2, h3, h4⟩ := h
  refine (should_any wr r m L G h2 k q n).mono ?_
  rintro e w' ⟨rfl, hk, h5⟩
  rw [← hL] at h5
  refine ⟨rfl, ⟨V, F, _, h1.kept hk (fun b hb hf => (h3 b hb).2.2.1 hf), h5.tight, fun b hb => ⟨(h3 b hb).1, Nat.lt_of_lt_of_le (h3 b hb).2.1 hk.size, ?_, (h3 b hb).2.2.2⟩, fun b hb => ?_⟩, hk.mono (fun b hb => ⟨(h4 b hb).1, (h4 b hb).2.2⟩)⟩
  · rintro ⟨h6 | h6, _⟩
    · exact (h3 b hb).2.2.1 h6
    · have := (h3 b hb).2.1; omega
  · obtain ⟨h6, h7⟩ := hb
    rcases h6 with h6 | h6
    · exact ⟨(h4 b h6).1, h7, (h4 b h6).2.2⟩
    · have hw : w.heap.size ≤ wr.heap.size := Nat.le_of_lt (Nat.lt_of_le_of_lt (h3 p h1.kg.fp).1 (h3 p h1.kg.fp).2.1)
      exact ⟨Nat.le_trans hw h6, h7, fun hx => by have := hX b hx; omega⟩
end
set_option maxHeartbeats 8000000 in
set_option maxRecDepth 100000 in
theorem law_in (w : World) (m : Nat) (hm : m ≤ 1024) (vs : Value) (os : List (Int × Int × Int)) (hs : ReadsOps w vs os) :
    Calls Try.prog 3 #[.int .i64 m, vs] w fun e w' => e = .returned (.bool true) ∧ Below w.heap.size w w' := by
  obtain ⟨As, cs, rfl, hs1, hs2, hs3⟩ := hs
  unfold maxLen at hs2
  have HS := Lib.hid hs3
  clear hs3
  have HX := Lib.hid (new_in w m hm)
  go_enter Try.func3, Try.ntmps3
  go_wp2_with fail
  (with_reducible refine HX.out.mono ?_)
  rintro e w1 ⟨p, g, rfl, b1, k1⟩
  have HB1 := Lib.hid b1
  have HK1 := Lib.hid k1.tight
  clear HX b1 k1
  have HX := Lib.hid (rnew_in w1 m hm)
  go_wp2_with fail
  (with_reducible refine HX.out.mono ?_)
  rintro e w2 ⟨r, rfl, b2, r2⟩
  have HD : Hid (Duo w w2 p g m r [] [] (fun _ => False)) := ⟨_, _, _, HK1.out.below b2, r2.tight, fun b hb => ⟨hb.1, Nat.lt_of_lt_of_le hb.2 b2.size, fun e => by have := e.1; have := hb.2; omega, fun e => e⟩, fun b hb => ⟨Nat.le_trans HB1.out.size hb.1, hb.2, fun e => e⟩⟩
  have HB2 : Hid (Below w.heap.size w w2) := HB1.out.trans (b2.mono HB1.out.size)
  clear HX b2 r2 HK1 HB1
  have HX := Lib.hid (alive_any w2)
  go_wp2_with (first | (go_at_call 8; (refine (num_any _ _).mono ?_); rintro e w9 ⟨rfl, rfl⟩) | fail)
  (with_reducible refine HX.out.mono ?_)
  rintro e w3 ⟨rfl, b3⟩
  replace HD := Lib.hid (HD.out.below b3)
  have HB3 : Hid (Below w.heap.size w w3) := HB2.out.trans (b3.mono HB2.out.size)
  clear b3 HX HB2
  go_wp2_with fail
  go_loopw [9] (fun v9 wr => ∃ (i : Nat) (L : List (Int × Int)), i ≤ os.length ∧ v9 = .int .i64 i ∧ Hid (Duo w wr p g m r L L (fun _ => False)) ∧ Hid (Below w.heap.size w wr)) (fun v9 _ => os.length - (intOf v9).toNat)
  case atStart => exact ⟨0, [], Nat.zero_le _, rfl, HD, HB3⟩
  case round =>
    clear HD HB3
    obtain ⟨i, L, hi, rfl, HD, HW⟩ := hrel
    by_cases hlt : i < os.length
    · obtain ⟨x, hx⟩ : ∃ x, os[i]? = some x := ⟨_, List.getElem?_eq_getElem hlt⟩
      obtain ⟨gs, ss, rfl, hcell⟩ := HS.out (by omega)
      obtain ⟨k, q, n⟩ := x
      have hgs : Hid (gs < w.heap.size) := World.block_lt_of_cell? w _ (hcell i (k, q, n) hx 0 _ rfl)
      have y0 := (HW.out.cell (show (⟨gs, ss + i * 3, none⟩ : Addr).block < w.heap.size from hgs.out)).trans (hcell i (k, q, n) hx 0 _ rfl)
      have y1 := (HW.out.cell (show (⟨gs, ss + i * 3 + 1, none⟩ : Addr).block < w.heap.size from hgs.out)).trans (hcell i (k, q, n) hx 1 _ rfl)
      have y2 := (HW.out.cell (show (⟨gs, ss + i * 3 + 2, none⟩ : Addr).block < w.heap.size from hgs.out)).trans (hcell i (k, q, n) hx 2 _ rfl)
      clear hcell hx
      go_wp2_with fail
      have D0 : Hid (Duo w (wr.alloc (.cells #[.int .i64 k, .int .i64 q, .int .i64 n] 33)).drew p g m r L L (fun b => b = wr.heap.size)) := (HD.out.free (fun b hb => Nat.le_of_eq hb.symm)).below (((Below.refl _ wr).alloc (Nat.le_refl _) _).drew)
      have W0 : Hid (Below w.heap.size w (wr.alloc (.cells #[.int .i64 k, .int .i64 q, .int .i64 n] 33)).drew) := (HW.out.alloc HW.out.size _).drew
      have ROW : Hid ((wr.alloc (.cells #[.int .i64 k, .int .i64 q, .int .i64 n] 33)).drew.heap[wr.heap.size]? = some (.cells #[.int .i64 k, .int .i64 q, .int .i64 n] 33)) := heap_alloc_new wr _
      have FR : Hid (∀ b, b = wr.heap.size → b < (wr.alloc (.cells #[.int .i64 k, .int .i64 q, .int .i64 n] 33)).drew.heap.size) := fun b hb => by subst hb; exact lt_of_row ROW.out
      clear y0 y1 y2 HD HW
      generalize wr.heap.size = bo at *
      have ST : Hid ((wr.alloc (.cells #[.int .i64 k, .int .i64 q, .int .i64 n] 33)).drew.cell? ⟨bo, 0, none⟩ = some (.int .i64 k) ∧ (wr.alloc (.cells #[.int .i64 k, .int .i64 q, .int .i64 n] 33)).drew.cell? ⟨bo, 1, none⟩ = some (.int .i64 q) ∧ (wr.alloc (.cells #[.int .i64 k, .int .i64 q, .int .i64 n] 33)).drew.cell? ⟨bo, 2, none⟩ = some (.int .i64 n)) := ⟨cell_row ROW.out rfl, cell_row ROW.out rfl, cell_row ROW.out rfl⟩
      generalize wr.alloc (.cells #[.int .i64 k, .int .i64 q, .int .i64 n] 33) = W1 at *
      have KQ : Hid (∀ (a b : World), Kept (fun b => w.heap.size ≤ b ∧ ¬ b = bo) a b → (a.cell? ⟨bo, 0, none⟩ = some (.int .i64 k) ∧ a.cell? ⟨bo, 1, none⟩ = some (.int .i64 q) ∧ a.cell? ⟨bo, 2, none⟩ = some (.int .i64 n)) → (b.cell? ⟨bo, 0, none⟩ = some (.int .i64 k) ∧ b.cell? ⟨bo, 1, none⟩ = some (.int .i64 q) ∧ b.cell? ⟨bo, 2, none⟩ = some (.int .i64 n))) := fun a b hk h => ⟨(hk.cell (World.block_lt_of_cell? a _ h.1) (fun e => e.2 rfl)).trans h.1, (hk.cell (World.block_lt_of_cell? a _ h.2.1) (fun e => e.2 rfl)).trans h.2.1, (hk.cell (World.block_lt_of_cell? a _ h.2.2) (fun e => e.2 rfl)).trans h.2.2⟩
      have KB : Hid (∀ (a b : World), Below a.heap.size a b → (a.cell? ⟨bo, 0, none⟩ = some (.int .i64 k) ∧ a.cell? ⟨bo, 1, none⟩ = some (.int .i64 q) ∧ a.cell? ⟨bo, 2, none⟩ = some (.int .i64 n)) → (b.cell? ⟨bo, 0, none⟩ = some (.int .i64 k) ∧ b.cell? ⟨bo, 1, none⟩ = some (.int .i64 q) ∧ b.cell? ⟨bo, 2, none⟩ = some (.int .i64 n))) := fun a b hb h => KQ.out a b (Kept.of_below hb) h
      obtain ⟨E, hE⟩ : ∃ E, doE m L k q n = E := ⟨_, rfl⟩
      obtain ⟨L', hL'⟩ : ∃ L', doL m L k q n = L' := ⟨_, rfl⟩
      have C1 := Lib.hid (D0.out.does FR.out k q n)
      rw [hE, hL'] at C1
      have C2 : Hid (∀ a, Duo w a p g m r L L' (fun b => b = bo) → bo < a.heap.size → Calls Try.prog 11 #[.pointer (some ⟨r, 0, none⟩), .agg #[.int .i64 k, .int .i64 q, .int .i64 n]] a fun e w' => e = .returned (.int .i64 E) ∧ Duo w w' p g m r L' L' (fun b => b = bo) ∧ Kept (fun b => w.heap.size ≤ b ∧ ¬ b = bo) a w') := fun a ha hb => by
        have := ha.should (fun b hb' => hb' ▸ hb) k q n hL'.symm
        rwa [hE] at this
      have LTB : Hid (bo < W1.drew.heap.size) := lt_of_row ROW.out
      clear hE hL' ROW
      go_region_held3 (fun w' => w'.cell? ⟨bo, 0, none⟩ = some (.int .i64 k) ∧ w'.cell? ⟨bo, 1, none⟩ = some (.int .i64 q) ∧ w'.cell? ⟨bo, 2, none⟩ = some (.int .i64 n))
        (first | exact ST.out | (refine KQ.out _ _ (by with_reducible assumption) ?_; go_split_ands; exact ⟨by with_reducible assumption, by with_reducible assumption, by with_reducible assumption⟩) | (refine KB.out _ _ (by with_reducible assumption) ?_; go_split_ands; exact ⟨by with_reducible assumption, by with_reducible assumption, by with_reducible assumption⟩) | fail)
        (first | (go_at_call 10; (with_reducible refine C1.out.mono ?_); rintro e w4 ⟨rfl, d4, k4⟩) | (go_at_call 11; (with_reducible refine (C2.out _ d4 (Nat.lt_of_lt_of_le LTB.out k4.size)).mono ?_); rintro e w5 ⟨rfl, d5, k5⟩) | (go_at_call 12; (with_reducible refine (d5.told n).mono ?_); rintro e w6 ⟨rfl, b6⟩) | (go_at_call 12; (with_reducible refine ((d5.below b6).told q).mono ?_); rintro e w7 ⟨rfl, b7⟩) | fail)
      have D7 : Hid (Duo w w7 p g m r L' L' (fun _ => False)) := ((d5.below b6).below b7).free (fun _ h => h.elim)
      have W7 : Hid (Below w.heap.size w w7) := by
        have h1 := W0.out.trans (k4.below (fun x hx => hx.1) W0.out.size)
        have h2 := h1.trans (k5.below (fun x hx => hx.1) h1.size)
        have h3 := h2.trans (b6.mono h2.size)
        exact h3.trans (b7.mono h3.size)
      clear d4 k4 d5 k5 b6 b7 C1 C2 LTB FR ST KQ KB D0 W0
      go_wp2_with fail
      exact ⟨⟨i + 1, L', by omega, by simp, D7, W7⟩, by simp [intOf]; omega⟩
    · have : i = os.length := by omega
      subst this
      clear hlt hi
      have HD2 := HD
      have HW2 := HW
      clear HD HW
      go_wp2_with fail
      go_loopw [11] (fun v11 wr => ∃ z : Int, -2 ≤ z ∧ z ≤ 40 ∧ v11 = .int .i64 z ∧ Hid (Duo w wr p g m r L L (fun _ => False)) ∧ Hid (Below w.heap.size w wr)) (fun v11 _ => (40 - intOf v11).toNat)
      case atStart => exact ⟨-2, by omega, by omega, rfl, HD2, HW2⟩
      case round =>
        clear HD2 HW2
        obtain ⟨z, hz1, hz2, rfl, HD, HW⟩ := hrel
        by_cases h1 : z ≤ (m : Int)
        · by_cases h2 : z < 40
          · have T1 := Lib.hid (HD.out.told z)
            go_wp2_with fail
            (with_reducible refine T1.out.mono ?_)
            rintro e w4 ⟨rfl, b4⟩
            have D4 := Lib.hid (HD.out.below b4)
            have W4 := Lib.hid (HW.out.trans (b4.mono HW.out.size))
            clear b4 T1
            go_wp2_with fail
            exact ⟨⟨z + 1, by omega, by omega, rfl, D4, W4⟩, by simp [intOf]; omega⟩
          · have hz : z = 40 := by omega
            subst hz
            have T1 := Lib.hid (HD.out.told (m : Int))
            go_wp2_with fail
            (with_reducible refine T1.out.mono ?_)
            rintro e w4 ⟨rfl, b4⟩
            have T2 := Lib.hid ((HD.out.below b4).told ((m : Int) - 1))
            replace HW := Lib.hid (HW.out.trans (b4.mono HW.out.size))
            clear b4
            go_wp2_with fail
            (with_reducible refine T2.out.mono ?_)
            rintro e w5 ⟨rfl, b5⟩
            have FIN := Lib.hid (HW.out.trans (b5.mono HW.out.size))
            clear b5
            go_wp2_with fail
            go_ret
            exact ⟨rfl, FIN.out⟩
        · have h1' : (m : Int) < z := by omega
          have T1 := Lib.hid (HD.out.told (m : Int))
          go_wp2_with fail
          (with_reducible refine T1.out.mono ?_)
          rintro e w4 ⟨rfl, b4⟩
          have T2 := Lib.hid ((HD.out.below b4).told ((m : Int) - 1))
          replace HW := Lib.hid (HW.out.trans (b4.mono HW.out.size))
          clear b4
          go_wp2_with fail
          (with_reducible refine T2.out.mono ?_)
          rintro e w5 ⟨rfl, b5⟩
          have FIN := Lib.hid (HW.out.trans (b5.mono HW.out.size))
          clear b5
          go_wp2_with fail
          go_ret
          exact ⟨rfl, FIN.out⟩
end Go.Proofs.Ythemibhajlgcdaa.Kin

/- ProcsScripts: the walk. Own text; Ytpkgiemigbjfeaa and the numbers between @..@ are the seat's. -/
import Derived.Test.YtpkgiemigbjfeaaPrH
import Derived.Test.YtpkgiemigbjfeaaPrI
namespace Go.Proofs.Ytpkgiemigbjfeaa.Kin
open Go.RowKit Go.Proofs.Ytpkgiemigbjfeaa.Mem
set_option linter.unusedVariables false
/-- Calls in memory. -/
def opL (x : Int × Int) : List Value := [.int .i64 x.1, .int .i64 x.2]
def ReadsOps (w : World) (v : Value) (os : List (Int × Int)) : Prop :=
  ∃ A c, v = .slice A os.length c ∧ os.length ≤ c ∧ c ≤ maxLen ∧ (0 < os.length → ∃ g o, A = some ⟨g, o, none⟩ ∧ ∀ i x, os[i]? = some x → ∀ j u, (opL x)[j]? = some u → w.cell? ⟨g, o + i * 2 + j, none⟩ = some u)
/-- Two records beside one another, both of them new; neither touches X. -/
def Duo (w wr : World) (p r most : Nat) (n1 : Int) (l1 : List Int) (n2 : Int) (l2 : List Int) (X : Nat → Prop) : Prop :=
  ∃ F G, Pt 54 wr p most n1 l1 F ∧ Pt 57 wr r most n2 l2 G ∧ (∀ b, F b → w.heap.size ≤ b ∧ b < wr.heap.size ∧ ¬ G b ∧ ¬ X b) ∧ (∀ b, G b → w.heap.size ≤ b ∧ b < wr.heap.size ∧ ¬ X b)
section
variable {w wr w' : World} {p r most : Nat} {n1 n2 n1' n2' : Int} {l1 l2 l1' l2' : List Int} {X Y : Nat → Prop}
theorem Duo.below (h : Duo w wr p r most n1 l1 n2 l2 X) (hb : Below wr.heap.size wr w') : Duo w w' p r most n1 l1 n2 l2 X := by
  obtain ⟨F, G, h1, h2, h3, h4⟩ := h
  have := hb.size
  exact ⟨F, G, h1.below hb, h2.below hb, fun b hb' => ⟨(h3 b hb').1, Nat.lt_of_lt_of_le (h3 b hb').2.1 this, (h3 b hb').2.2⟩, fun b hb' => ⟨(h4 b hb').1, Nat.lt_of_lt_of_le (h4 b hb').2.1 this, (h4 b hb').2.2⟩⟩
theorem Duo.free (h : Duo w wr p r most n1 l1 n2 l2 X) (hY : ∀ b, Y b → wr.heap.size ≤ b) : Duo w wr p r most n1 l1 n2 l2 Y := by
  obtain ⟨F, G, h1, h2, h3, h4⟩ := h
  exact ⟨F, G, h1, h2, fun b hb' => ⟨(h3 b hb').1, (h3 b hb').2.1, (h3 b hb').2.2.1, fun e => by have := hY b e; have := (h3 b hb').2.1; omega⟩, fun b hb' => ⟨(h4 b hb').1, (h4 b hb').2.1, fun e => by have := hY b e; have := (h4 b hb').2.1; omega⟩⟩
theorem Duo.told (h : Duo w wr p r most n1 l1 n1 l1 X) (n : Int) : Calls Try.prog 16 #[.pointer (some ⟨p, 0, none⟩), .pointer (some ⟨r, 0, none⟩), .int .i64 n] wr fun e w' => e = .returned (.bool true) ∧ Below wr.heap.size wr w' := by
  obtain ⟨F, G, h1, h2, _, _⟩ := h
  exact told_any wr p r most n1 l1 F G h1 h2 n
theorem Duo.left {f : Nat} {ar : Array Value} {E : Ending} (h : Duo w wr p r most n1 l1 n2 l2 X) (hX : ∀ b, X b → b < wr.heap.size)
    (hc : ∀ F, Pt 54 wr p most n1 l1 F → Calls Try.prog f ar wr fun e w' => e = E ∧ Kept F wr w' ∧ Pt 54 w' p most n1' l1' (fun b => F b ∨ wr.heap.size ≤ b)) :
    Calls Try.prog f ar wr fun e w' => e = E ∧ Duo w w' p r most n1' l1' n2 l2 X ∧ Kept (fun b => w.heap.size ≤ b ∧ ¬ X b) wr w' := by
  obtain ⟨F, G, h1, h2, h3, h4⟩ := h
  refine (hc F h1).mono ?_
  rintro e w' ⟨rfl, hk, h5⟩
  refine ⟨rfl, ⟨_, G, h5.tight, h2.kept hk (fun b hb hf => (h3 b hf).2.2.1 hb), fun b hb => ?_, fun b hb => ⟨(h4 b hb).1, Nat.lt_of_lt_of_le (h4 b hb).2.1 hk.size, (h4 b hb).2.2⟩⟩, hk.mono (fun b hb => ⟨(h3 b hb).1, (h3 b hb).2.2.2⟩)⟩
  obtain ⟨h6, h7⟩ := hb
  rcases h6 with h6 | h6
  · exact ⟨(h3 b h6).1, h7, (h3 b h6).2.2⟩
  · have hw : w.heap.size ≤ wr.heap.size := Nat.le_of_lt (Nat.lt_of_le_of_lt (h3 p h1.g.fp).1 (h3 p h1.g.fp).2.1)
    exact ⟨Nat.le_trans hw h6, h7, fun hg => by have := (h4 b hg).2.1; omega, fun hx => by have := hX b hx; omega⟩
theorem Duo.right {f : Nat} {ar : Array Value} {E : Ending} (h : Duo w wr p r most n1 l1 n2 l2 X) (hX : ∀ b, X b → b < wr.heap.size)
    (hc : ∀ F, Pt 57 wr r most n2 l2 F → Calls Try.prog f ar wr fun e w' => e = E ∧ Kept F wr w' ∧ Pt 57 w' r most n2' l2' (fun b => F b ∨ wr.heap.size ≤ b)) :
    Calls Try.prog f ar wr fun e w' => e = E ∧ Duo w w' p r most n1 l1 n2' l2' X ∧ Kept (fun b => w.heap.size ≤ b ∧ ¬ X b) wr w' := by
  obtain ⟨F, G, h1, h2, h3, h4⟩ := h
  refine (hc G h2).mono ?_
  rintro e w' ⟨rfl, hk, h5⟩
  refine ⟨rfl, ⟨F, _, h1.kept hk (fun b hb hf => (h3 b hb).2.2.1 hf), h5.tight, fun b hb => ⟨(h3 b hb).1, Nat.lt_of_lt_of_le (h3 b hb).2.1 hk.size, ?_, (h3 b hb).2.2.2⟩, fun b hb => ?_⟩, hk.mono (fun b hb => ⟨(h4 b hb).1, (h4 b hb).2.2⟩)⟩
  · rintro ⟨h6 | h6, _⟩
    · exact (h3 b hb).2.2.1 h6
    · have := (h3 b hb).2.1; omega
  · obtain ⟨h6, h7⟩ := hb
    rcases h6 with h6 | h6
    · exact ⟨(h4 b h6).1, h7, (h4 b h6).2.2⟩
    · have hw : w.heap.size ≤ wr.heap.size := Nat.le_of_lt (Nat.lt_of_le_of_lt (h3 p h1.g.fp).1 (h3 p h1.g.fp).2.1)
      exact ⟨Nat.le_trans hw h6, h7, fun hx => by have := hX b hx; omega⟩
end
/-- What a round works upon: the copy of the call, and the two records behind it. -/
structure Bo (w W : World) (bo : Nat) (k n : Int) : Prop where
  c0 : W.cell? ⟨bo, 0, none⟩ = some (.int .i64 k)
  c1 : W.cell? ⟨bo, 1, none⟩ = some (.int .i64 n)
theorem Bo.kept {w W W' : World} {bo : Nat} {k n : Int} (h : Bo w W bo k n) (hk : Kept (fun b => w.heap.size ≤ b ∧ ¬ b = bo) W W') : Bo w W' bo k n := ⟨(hk.cell (World.block_lt_of_cell? W _ h.c0) (fun e => e.2 rfl)).trans h.c0, (hk.cell (World.block_lt_of_cell? W _ h.c1) (fun e => e.2 rfl)).trans h.c1⟩
theorem Bo.below {w W W' : World} {bo : Nat} {k n : Int} (h : Bo w W bo k n) (hb : Below W.heap.size W W') : Bo w W' bo k n := h.kept (Kept.of_below hb)
theorem Bo.lt {w W : World} {bo : Nat} {k n : Int} (h : Bo w W bo k n) : bo < W.heap.size := World.block_lt_of_cell? W _ h.c0
set_option maxHeartbeats 8000000 in
set_option maxRecDepth 100000 in
theorem law_in (w : World) (m : Nat) (hm1 : 1 ≤ m) (hm : m ≤ 32) (vs : Value) (os : List (Int × Int)) (hs : ReadsOps w vs os) :
    Calls Try.prog 3 #[.int .i64 m, vs] w fun e w' => e = .returned (.bool true) ∧ Below w.heap.size w w' := by
  obtain ⟨As, cs, rfl, hs1, hs2, hs3⟩ := hs
  unfold maxLen at hs2
  have HS := Lib.hid hs3
  clear hs3
  have HX := Lib.hid (new_in w m hm1 hm)
  go_enter Try.func3, Try.ntmps3
  go_wp2_with fail
  (with_reducible refine HX.out.mono ?_)
  rintro e w1 ⟨p, rfl, b1, k1⟩
  have HB1 := Lib.hid b1
  have HK1 := Lib.hid k1.tight
  clear HX b1 k1
  have HX := Lib.hid (rnew_in w1 m hm1 hm)
  go_wp2_with fail
  (with_reducible refine HX.out.mono ?_)
  rintro e w2 ⟨r, rfl, b2, r2⟩
  have HD : Hid (Duo w w2 p r m 1 [0] 1 [0] (fun _ => False)) := ⟨_, _, HK1.out.below b2, r2.tight, fun b hb => ⟨hb.1, Nat.lt_of_lt_of_le hb.2 b2.size, fun e => by have := e.1; have := hb.2; omega, fun e => e⟩, fun b hb => ⟨Nat.le_trans HB1.out.size hb.1, hb.2, fun e => e⟩⟩
  have HB2 : Hid (Below w.heap.size w w2) := HB1.out.trans (b2.mono HB1.out.size)
  clear HX b2 r2 HK1 HB1
  have HX := Lib.hid (alive_any w2)
  go_wp2_with (first | (go_at_call 8; (refine (num_any _ _).mono ?_); rintro e w9 ⟨rfl, rfl⟩) | fail)
  (with_reducible refine HX.out.mono ?_)
  rintro e w3 ⟨rfl, b3⟩
  replace HD := Lib.hid (HD.out.below b3)
  have HB3 : Hid (Below w.heap.size w w3) := HB2.out.trans (b3.mono HB2.out.size)
  clear b3 HX HB2
  go_wp2_with fail
  go_loopw [9] (fun v9 wr => ∃ (i : Nat) (next : Int) (l : List Int), i ≤ os.length ∧ v9 = .int .i64 i ∧ Hid (Duo w wr p r m next l next l (fun _ => False)) ∧ Hid (Below w.heap.size w wr)) (fun v9 _ => os.length - (intOf v9).toNat)
  case atStart => exact ⟨0, 1, [0], Nat.zero_le _, rfl, HD, HB3⟩
  case round =>
    clear HD HB3
    obtain ⟨i, next, l, hi, rfl, HD, HW⟩ := hrel
    by_cases hlt : i < os.length
    · obtain ⟨x, hx⟩ : ∃ x, os[i]? = some x := ⟨_, List.getElem?_eq_getElem hlt⟩
      obtain ⟨gs, ss, rfl, hcell⟩ := HS.out (by omega)
      obtain ⟨k, n⟩ := x
      have hgs : Hid (gs < w.heap.size) := World.block_lt_of_cell? w _ (hcell i (k, n) hx 0 _ rfl)
      have y0 := (HW.out.cell (show (⟨gs, ss + i * 2, none⟩ : Addr).block < w.heap.size from hgs.out)).trans (hcell i (k, n) hx 0 _ rfl)
      have y1 := (HW.out.cell (show (⟨gs, ss + i * 2 + 1, none⟩ : Addr).block < w.heap.size from hgs.out)).trans (hcell i (k, n) hx 1 _ rfl)
      clear hcell hx
      have hbW := (Below.refl _ wr).alloc (Nat.le_refl _) (.cells #[.int .i64 k, .int .i64 n] 33)
      have D0 : Hid (Duo w (wr.alloc (.cells #[.int .i64 k, .int .i64 n] 33)) p r m next l next l (fun b => b = wr.heap.size)) := (HD.out.free (fun b hb => Nat.le_of_eq hb.symm)).below hbW
      have W0 : Hid (Below w.heap.size w (wr.alloc (.cells #[.int .i64 k, .int .i64 n] 33))) := HW.out.alloc HW.out.size _
      have ROW : Hid ((wr.alloc (.cells #[.int .i64 k, .int .i64 n] 33)).heap[wr.heap.size]? = some (.cells #[.int .i64 k, .int .i64 n] 33)) := heap_alloc_new wr _
      have BO : Hid (Bo w (wr.alloc (.cells #[.int .i64 k, .int .i64 n] 33)) wr.heap.size k n) := ⟨cell_row ROW.out rfl, cell_row ROW.out rfl⟩
      clear hbW
      by_cases k1 : k = 1
      · subst k1
        go_wp2_with fail
        clear y0 y1 HD HW ROW
        generalize wr.heap.size = bo at *
        generalize wr.alloc (.cells #[.int .i64 1, .int .i64 n] 33) = W1 at *
        have C1 := Lib.hid (D0.out.left (fun b hb => hb ▸ BO.out.lt) (fun F h => spawn_any W1 p m next l F h))
        (with_reducible refine C1.out.mono ?_)
        rintro e w4 ⟨rfl, d4, k4⟩
        have C2 := Lib.hid (d4.right (fun b hb => hb ▸ Nat.lt_of_lt_of_le BO.out.lt k4.size) (fun F h => rspawn_any w4 r m next l F h))
        go_wp2_with fail
        (with_reducible refine C2.out.mono ?_)
        rintro e w5 ⟨rfl, d5, k5⟩
        have D5 : Hid (Duo w w5 p r m _ _ _ _ (fun _ => False)) := d5.free (fun _ h => h.elim)
        have W5 : Hid (Below w.heap.size w w5) := by
          have h1 := W0.out.trans (k4.below (fun x hx => hx.1) W0.out.size)
          exact h1.trans (k5.below (fun x hx => hx.1) h1.size)
        have BO5 := (BO.out.kept k4).kept k5
        have z1 := BO5.c1
        have T1 := Lib.hid (D5.out.told n)
        clear d4 d5 k4 k5 BO5 C1 C2 D0 W0 BO
        go_wp2_with (first | (go_at_call 8; (refine (num_any _ _).mono ?_); rintro e w9 ⟨rfl, rfl⟩) | fail)
        (with_reducible refine T1.out.mono ?_)
        rintro e w6 ⟨rfl, b6⟩
        have D6 := Lib.hid (D5.out.below b6)
        have W6 := Lib.hid (W5.out.trans (b6.mono W5.out.size))
        clear b6 T1 D5 W5 z1
        go_wp2_with fail
        exact ⟨⟨i + 1, _, _, by omega, by simp, D6, W6⟩, by simp [intOf]; omega⟩
      by_cases k2 : k = 2
      · subst k2
        clear k1
        go_wp2_with fail
        clear y0 y1 HD HW ROW
        generalize wr.heap.size = bo at *
        generalize wr.alloc (.cells #[.int .i64 2, .int .i64 n] 33) = W1 at *
        replace D0 := Lib.hid (D0.out.below (Below.refl _ W1).drew)
        replace W0 := Lib.hid (W0.out.drew)
        replace BO := Lib.hid (BO.out.below (Below.refl _ W1).drew)
        have C1 := Lib.hid (D0.out.left (fun b hb => hb ▸ BO.out.lt) (fun F h => exit_any _ p m next l F h n))
        have C2 : Hid (∀ a, Duo w a p r m next (del l n) next l (fun b => b = bo) → bo < a.heap.size → _) := fun a ha hb => ha.right (fun b hb' => hb' ▸ hb) (fun F h => rexit_any _ r m next l F h n)
        have LTB := Lib.hid BO.out.lt
        have ST := Lib.hid (And.intro BO.out.c0 BO.out.c1)
        have KQ : Hid (∀ (a b : World), Kept (fun b => w.heap.size ≤ b ∧ ¬ b = bo) a b → (a.cell? ⟨bo, 0, none⟩ = some (.int .i64 2) ∧ a.cell? ⟨bo, 1, none⟩ = some (.int .i64 n)) → (b.cell? ⟨bo, 0, none⟩ = some (.int .i64 2) ∧ b.cell? ⟨bo, 1, none⟩ = some (.int .i64 n))) := fun a b hk h => ⟨(Bo.kept (w := w) ⟨h.1, h.2⟩ hk).c0, (Bo.kept (w := w) ⟨h.1, h.2⟩ hk).c1⟩
        go_region_held3 (fun w' => w'.cell? ⟨bo, 0, none⟩ = some (.int .i64 2) ∧ w'.cell? ⟨bo, 1, none⟩ = some (.int .i64 n))
          (first | exact ST.out | exact KQ.out _ _ k5 (KQ.out _ _ k4 ST.out) | exact KQ.out _ _ k4 ST.out | fail)
          (first | (go_at_call 12; (with_reducible refine C1.out.mono ?_); rintro e w4 ⟨rfl, d4, k4⟩) | (go_at_call 8; (refine (num_any _ _).mono ?_); rintro e w9 ⟨rfl, rfl⟩) | (go_at_call 13; (with_reducible refine (C2.out _ d4 (Nat.lt_of_lt_of_le LTB.out k4.size)).mono ?_); rintro e w5 ⟨rfl, d5, k5⟩) | fail)
        clear ST KQ LTB
        have D5 : Hid (Duo w w5 p r m _ _ _ _ (fun _ => False)) := d5.free (fun _ h => h.elim)
        have W5 : Hid (Below w.heap.size w w5) := by
          have h1 := W0.out.trans (k4.below (fun x hx => hx.1) W0.out.size)
          exact h1.trans (k5.below (fun x hx => hx.1) h1.size)
        have BO5 := (BO.out.kept k4).kept k5
        have z1 := BO5.c1
        have T1 := Lib.hid (D5.out.told n)
        clear d4 d5 k4 k5 BO5 C1 C2 D0 W0 BO
        go_wp2_with (first | (go_at_call 8; (refine (num_any _ _).mono ?_); rintro e w9 ⟨rfl, rfl⟩) | fail)
        (with_reducible refine T1.out.mono ?_)
        rintro e w6 ⟨rfl, b6⟩
        have D6 := Lib.hid (D5.out.below b6)
        have W6 := Lib.hid (W5.out.trans (b6.mono W5.out.size))
        clear b6 T1 D5 W5 z1
        go_wp2_with fail
        exact ⟨⟨i + 1, _, _, by omega, by simp, D6, W6⟩, by simp [intOf]; omega⟩
      by_cases k3 : k = 3
      · subst k3
        clear k1 k2
        go_wp2_with fail
        clear y0 y1 HD HW ROW
        generalize wr.heap.size = bo at *
        generalize wr.alloc (.cells #[.int .i64 3, .int .i64 n] 33) = W1 at *
        replace D0 := Lib.hid (D0.out.below (Below.refl _ W1).drew)
        replace W0 := Lib.hid (W0.out.drew)
        replace BO := Lib.hid (BO.out.below (Below.refl _ W1).drew)
        have C1 := Lib.hid (D0.out.left (fun b hb => hb ▸ BO.out.lt) (fun F h => (setnext_any _ p m next l F h n).mono (fun e w' x => ⟨x.1, x.2.1, x.2.2.mono (fun b hb => .inl hb)⟩)))
        have C2 : Hid (∀ a, Duo w a p r m (seX next l n) l next l (fun b => b = bo) → bo < a.heap.size → _) := fun a ha hb => ha.right (fun b hb' => hb' ▸ hb) (fun F h => (rsetnext_any _ r m next l F h n).mono (fun e w' x => ⟨x.1, x.2.1, x.2.2.mono (fun b hb => .inl hb)⟩))
        have LTB := Lib.hid BO.out.lt
        have ST := Lib.hid (And.intro BO.out.c0 BO.out.c1)
        have KQ : Hid (∀ (a b : World), Kept (fun b => w.heap.size ≤ b ∧ ¬ b = bo) a b → (a.cell? ⟨bo, 0, none⟩ = some (.int .i64 3) ∧ a.cell? ⟨bo, 1, none⟩ = some (.int .i64 n)) → (b.cell? ⟨bo, 0, none⟩ = some (.int .i64 3) ∧ b.cell? ⟨bo, 1, none⟩ = some (.int .i64 n))) := fun a b hk h => ⟨(Bo.kept (w := w) ⟨h.1, h.2⟩ hk).c0, (Bo.kept (w := w) ⟨h.1, h.2⟩ hk).c1⟩
        go_region_held3 (fun w' => w'.cell? ⟨bo, 0, none⟩ = some (.int .i64 3) ∧ w'.cell? ⟨bo, 1, none⟩ = some (.int .i64 n))
          (first | exact ST.out | exact KQ.out _ _ k5 (KQ.out _ _ k4 ST.out) | exact KQ.out _ _ k4 ST.out | fail)
          (first | (go_at_call 14; (with_reducible refine C1.out.mono ?_); rintro e w4 ⟨rfl, d4, k4⟩) | (go_at_call 8; (refine (num_any _ _).mono ?_); rintro e w9 ⟨rfl, rfl⟩) | (go_at_call 15; (with_reducible refine (C2.out _ d4 (Nat.lt_of_lt_of_le LTB.out k4.size)).mono ?_); rintro e w5 ⟨rfl, d5, k5⟩) | fail)
        clear ST KQ LTB
        have D5 : Hid (Duo w w5 p r m _ _ _ _ (fun _ => False)) := d5.free (fun _ h => h.elim)
        have W5 : Hid (Below w.heap.size w w5) := by
          have h1 := W0.out.trans (k4.below (fun x hx => hx.1) W0.out.size)
          exact h1.trans (k5.below (fun x hx => hx.1) h1.size)
        have BO5 := (BO.out.kept k4).kept k5
        have z1 := BO5.c1
        have T1 := Lib.hid (D5.out.told n)
        clear d4 d5 k4 k5 BO5 C1 C2 D0 W0 BO
        go_wp2_with (first | (go_at_call 8; (refine (num_any _ _).mono ?_); rintro e w9 ⟨rfl, rfl⟩) | fail)
        (with_reducible refine T1.out.mono ?_)
        rintro e w6 ⟨rfl, b6⟩
        have D6 := Lib.hid (D5.out.below b6)
        have W6 := Lib.hid (W5.out.trans (b6.mono W5.out.size))
        clear b6 T1 D5 W5 z1
        go_wp2_with fail
        exact ⟨⟨i + 1, _, _, by omega, by simp, D6, W6⟩, by simp [intOf]; omega⟩
      have T1 := Lib.hid (D0.out.told n)
      have D9 : Hid (Duo w (wr.alloc (.cells #[.int .i64 k, .int .i64 n] 33)) p r m next l next l (fun _ => False)) := D0.out.free (fun _ h => h.elim)
      clear D0 HD HW
      go_wp2_with fail
      (with_reducible refine T1.out.mono ?_)
      rintro e w6 ⟨rfl, b6⟩
      have D6 := Lib.hid (D9.out.below b6)
      have W6 := Lib.hid (W0.out.trans (b6.mono W0.out.size))
      clear b6 T1 D9 W0
      go_wp2_with fail
      exact ⟨⟨i + 1, next, l, by omega, by simp, D6, W6⟩, by simp [intOf]; omega⟩
    · have : i = os.length := by omega
      subst this
      clear hlt hi
      have T1 := Lib.hid (HD.out.told 0)
      go_wp2_with fail
      (with_reducible refine T1.out.mono ?_)
      rintro e w6 ⟨rfl, b6⟩
      have W6 := Lib.hid (HW.out.trans (b6.mono HW.out.size))
      clear b6 T1 HD HW
      go_wp2_with fail
      go_ret
      exact ⟨rfl, W6.out⟩
end Go.Proofs.Ytpkgiemigbjfeaa.Kin

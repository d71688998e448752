/- downs, ups: a range that collects. Own text (gen_wah.py); Ytkmmpagflbnenaa and the numbers between @..@ are the seat's. -/
import Derived.Test.YtkmmpagflbnenaaWaG
import Derived.Maps.OwnIn
import Derived.Maps.AppendAt
namespace Go.Proofs.Ytkmmpagflbnenaa.Kin
open Go.RowKit Go.Proofs.Ytkmmpagflbnenaa.Mem Go.Shelf
set_option linter.unusedVariables false
attribute [local go_sem] Oper.semAt_some
theorem eqIn48 (d : Nat) (w : World) (lb : Array Value) : (Op.equalIn (d + 1) 48 (.func (.func 54) #[] lb) .nilFunc).run Try.prog w = .ok false w := by
  simp [Op.equalIn, run_underlying Try.underlying48]
theorem nil48 (w : World) (lb : Array Value) : (binOp .eql 48 (.func (.func 54) #[] lb) .nilFunc).run Try.prog w = .ok (.bool false) w := by
  rw [show binOp .eql 48 (.func (.func 54) #[] lb) .nilFunc = (do return .bool (← Op.equal 48 (.func (.func 54) #[] lb) .nilFunc)) from rfl]
  have h : (Op.equal 48 (.func (.func 54) #[] lb) .nilFunc).run Try.prog w = .ok false w := eqIn48 9999 w lb
  simp [h]
/-- What the body may write: the box, and the list that the box holds. -/
def MBox (X : Nat) (W : World) (g : Nat) : Prop := g = X ∨ ∃ v, W.cell? ⟨X, 0, none⟩ = some v ∧ v.ownBlock = some g
theorem mbox_put {X B : Nat} (hX : X < B) (W : World) (l g : Nat) (o' : Obj) (hl : B ≤ l) (h : MBox X (W.putObj l o') g) : MBox X W g := by
  rcases h with h | ⟨v, h1, h2⟩
  · exact .inl h
  · refine .inr ⟨v, ?_, h2⟩
    rw [← h1]
    exact (World.cell?_of_block (World.putObj_heap_other (by simp; omega))).symm
theorem own_grown {W W' : World} {row : Option Nat} {v : Value} {n : Nat} {xs : List Value} (h : W.ownsRow 0 3 1 v n xs) (hg : W.grownBy W' row) (hrow : ∀ r, row = some r → ∃ o : Obj, W.heap[r]? = some o ∧ o.isCells = false) : W'.ownsRow 0 3 1 v n xs := by
  refine own_kept (S := fun b => row = some b) h ⟨hg.os, hg.tape, hg.output, hg.size, fun k hk hne => hg.block k hk (fun e => hne e.symm)⟩ (fun b hb e => ?_)
  obtain ⟨o, ho, hc⟩ := hrow b e
  rcases h.2 with ⟨rfl, _⟩ | ⟨g, cap, cur, rfl, _, hgb, _⟩
  · simp [Value.ownBlock] at hb
  · obtain rfl : g = b := Option.some.inj hb
    rw [hgb] at ho; cases ho; cases hc
/-- Between two rounds. -/
structure Col (w : World) (R4 R5 X : Nat) (W : World) (zs : List Int) : Prop where
  b4 : Boxed W R4 34 (.slice none 0 0)
  b5 : Boxed W R5 4 (.bool false)
  bx : ∃ B d, Boxed W X 34 (.slice B zs.length d) ∧ W.ownsRow 0 3 1 (.slice B zs.length d) zs.length (zs.map i64) ∧ ∀ b, (Value.slice B zs.length d).ownBlock = some b → w.heap.size ≤ b ∧ b ≠ R4 ∧ b ≠ R5 ∧ b ≠ X
  bel : Below w.heap.size w W
theorem col_own {w : World} {R4 R5 X B : Nat} (hB : w.heap.size ≤ B) : OwnFrom B (fun (zs : List Int) W => Col w R4 R5 X W zs) := by
  intro s W W' row h hg hr
  have hr' : ∀ r, row = some r → ∃ o : Obj, W.heap[r]? = some o ∧ o.isCells = false := fun r e => (hr r e).2
  obtain ⟨C, d, h1, h2, h3⟩ := h.bx
  have bk : ∀ (X : Nat) (t : TypeId) (v : Value), Boxed W X t v → Boxed W' X t v := fun X t v hb => boxed_own X t (fun (_ : Unit) => v) () W W' row hb hg hr'
  exact ⟨bk _ _ _ h.b4, bk _ _ _ h.b5, ⟨C, d, bk _ _ _ h1, own_grown h2 hg hr', h3⟩, h.bel.grown hg h.bel.size (fun k e => Nat.le_trans hB (hr k e).1)⟩
/-- One more. -/
theorem Col.step {w W w1 : World} {R4 R5 X : Nat} {zs : List Int} {x : Int} {B C : Option Addr} {d e : Nat} (h : Col w R4 R5 X W zs) (h1 : Boxed W X 34 (.slice B zs.length d)) (h2 : W.ownsRow 0 3 1 (.slice B zs.length d) zs.length (zs.map i64)) (h3 : ∀ b, (Value.slice B zs.length d).ownBlock = some b → w.heap.size ≤ b ∧ b ≠ R4 ∧ b ≠ R5 ∧ b ≠ X) (hX : w.heap.size ≤ X) (n4 : R4 ≠ X) (n5 : R5 ≠ X)
    (o : w1.ownsRow 0 3 1 (.slice C (zs.length + 1) e) (zs.length + 1) (zs.map i64 ++ [i64 x])) (hg : (W.alloc (.cells #[.int .i64 x] 3)).grownBy w1 (Value.slice B zs.length d).ownBlock) (hb : (Value.slice C (zs.length + 1) e).ownBlock = (Value.slice B zs.length d).ownBlock ∨ (Value.slice C (zs.length + 1) e).ownBlock = some (W.heap.size + 1)) :
    Boxed w1 X 34 (.slice B zs.length d) ∧ KeepsOthers W (w1.setCell ⟨X, 0, none⟩ (.slice C (zs.length + 1) e)) ∧ KpM (MBox X) W (w1.setCell ⟨X, 0, none⟩ (.slice C (zs.length + 1) e)) ∧ Col w R4 R5 X (w1.setCell ⟨X, 0, none⟩ (.slice C (zs.length + 1) e)) (zs ++ [x]) := by
  have keep : ∀ k, k < W.heap.size → (Value.slice B zs.length d).ownBlock ≠ some k → w1.heap[k]? = W.heap[k]? := fun k hk hne => (hg.block k (by simp; omega) (fun e => hne e.symm)).trans (Below.heap_alloc W _ k hk)
  have keep2 : ∀ k, k < W.heap.size → (Value.slice B zs.length d).ownBlock ≠ some k → k ≠ X → (w1.setCell ⟨X, 0, none⟩ (.slice C (zs.length + 1) e)).heap[k]? = W.heap[k]? := fun k hk hne hx => ((grownBy_setCell' w1 X _).block k (Nat.lt_of_lt_of_le hk (Nat.le_trans (by simp) hg.size)) (fun e => hx (by cases e; rfl))).trans (keep k hk hne)
  have bx1 : Boxed w1 X 34 (.slice B zs.length d) := (keep X h1.lt (fun e => (h3 X e).2.2.2 rfl)).trans h1
  have hsz : W.heap.size ≤ w1.heap.size := Nat.le_trans (by simp) hg.size
  have hsz2 : W.heap.size ≤ (w1.setCell ⟨X, 0, none⟩ (.slice C (zs.length + 1) e)).heap.size := Nat.le_trans hsz (grownBy_setCell' w1 X _).size
  have bx2 := bx1.set (.slice C (zs.length + 1) e)
  have hXW := h1.lt
  have h4W := h.b4.lt
  have h5W := h.b5.lt
  have hws := h.bel.size
  have dis : ∀ b, (Value.slice C (zs.length + 1) e).ownBlock = some b → w.heap.size ≤ b ∧ b ≠ R4 ∧ b ≠ R5 ∧ b ≠ X := fun b e => by
    rcases hb with h | h
    · exact h3 b (h.symm.trans e)
    · have := Option.some.inj (h.symm.trans e)
      exact ⟨by omega, by omega, by omega, by omega⟩
  refine ⟨bx1, ⟨hsz2, fun k o hk hc => ?_⟩, ⟨hsz2, fun g o hgo hc hm => ?_⟩, ⟨?_, ?_, ⟨C, e, ?_, ?_, ?_⟩, ?_⟩⟩
  · have hkl : k < W.heap.size := (Array.getElem?_eq_some_iff.1 hk).1
    refine (keep2 k hkl (fun e => ?_) (fun e => ?_)).trans hk
    · rcases h2.2 with ⟨e2, _⟩ | ⟨g, cap, cur, e2, _, hgb, _⟩
      · rw [e2] at e; simp [Value.ownBlock] at e
      · rw [e2] at e
        obtain rfl : g = k := Option.some.inj e
        rw [hgb] at hk; cases hk; cases hc
    · subst e; rw [show W.heap[k]? = _ from h1] at hk; cases hk; cases hc
  · have hgl : g < W.heap.size := (Array.getElem?_eq_some_iff.1 hgo).1
    have hne : (Value.slice B zs.length d).ownBlock ≠ some g := fun e => hm (.inr ⟨_, h1.cell, e⟩)
    have hnx : g ≠ X := fun e => hm (.inl e)
    refine ⟨(keep2 g hgl hne hnx).trans hgo, ?_⟩
    rintro (e | ⟨v, e1, e2⟩)
    · exact hnx e
    · rw [bx2.cell] at e1
      obtain rfl := Option.some.inj e1
      rcases hb with h | h
      · exact hne (h.symm.trans e2)
      · have := Option.some.inj (h.symm.trans e2); omega
  · exact (keep2 R4 h4W (fun e => (h3 R4 e).2.1 rfl) n4).trans h.b4
  · exact (keep2 R5 h5W (fun e => (h3 R5 e).2.2.1 rfl) n5).trans h.b5
  · rw [List.length_append]; exact bx2
  · rw [List.length_append, List.map_append]
    exact own_kept o ((Kept.refl (fun b => b = X) w1).setCell (p := ⟨X, 0, none⟩) (.inl rfl) _) (fun b hb e => (dis b hb).2.2.2 e)
  · rw [List.length_append]; exact dis
  · refine h.bel.trans ⟨?_, ?_, ?_, hsz2, fun k hk => keep2 k (by omega) (fun e => by have := (h3 k e).1; omega) (by omega)⟩
    · exact hg.os
    · exact hg.tape
    · exact hg.output
set_option maxRecDepth 100000 in
set_option maxHeartbeats 4000000 in
theorem downs_any (w : World) (p g m : Nat) (L : List (Int × Int)) (V : Nat → Value) (F : Nat → Prop) (h : Kt w p g m L V F) (n : Int) : Calls Try.prog 15 #[.pointer (some ⟨p, 0, none⟩), .int .i64 n] w fun e w' => ∃ A c, e = .returned (.tuple #[.slice A (dnl L false n).length c, .bool true]) ∧ w'.ownsRow 0 3 1 (.slice A (dnl L false n).length c) (dnl L false n).length ((dnl L false n).map i64) ∧ Below w.heap.size w w' ∧ Fresh w (.slice A (dnl L false n).length c) := by
  have hb2 : Below w.heap.size w ((w.alloc (.cells #[.slice none 0 0] 34)).alloc (.cells #[.bool false] 4)) := ((Below.refl _ w).alloc (Nat.le_refl _) _).alloc (by simp) _
  have B4 := (Boxed.new w 34 (.slice none 0 0)).alloc (.cells #[.bool false] 4)
  have B5 := Boxed.new (w.alloc (.cells #[.slice none 0 0] 34)) 4 (.bool false)
  rw [World.size_alloc] at B5
  have HT := Lib.hid (down_ready ((w.alloc (.cells #[.slice none 0 0] 34)).alloc (.cells #[.bool false] 4)) p n)
  have hul : (dnl L false n).length ≤ m := (by unfold dnl; split; exact h.inv.dn_len false (by assumption); simp)
  have hm := h.hm
  refine (callsIn_wide (n := 8)).1 ?_
  refine callsIn_of_wp_marks Try.func15 rfl trivial ?_ rfl
  simp only [Try.ntmps15, List.size_toArray, List.length_cons, List.length_nil, Nat.reduceAdd, Nat.reduceSub, Array.replicate_succ, Array.replicate_zero, List.push_toArray, List.append_toArray, List.nil_append, List.cons_append]
  gi_wp2
  refine ⟨trivial, ?_⟩
  gi_at_call 23
  refine (callsIn_wide.2 HT.out).mono ?_
  rintro e w1 ⟨Bx, b1, b2, rfl, bl, it, _⟩
  have hsz := bl.size
  simp at hsz
  have hB1 : Below w.heap.size w w1 := hb2.trans (bl.mono hb2.size)
  have c4 : Boxed w1 w.heap.size 34 (.slice none 0 0) := (bl.block w.heap.size (by simp; omega)).trans B4
  have c5 : Boxed w1 (w.heap.size + 1) 4 (.bool false) := (bl.block (w.heap.size + 1) (by simp)).trans B5
  clear HT bl hb2 B4 B5
  have hnil := fun w => nil48 w #[.pointer (some ⟨Bx, 0, none⟩)]
  have cX := Boxed.new w1 34 (.slice none 0 0)
  have hb3 : Below w1.heap.size w1 (w1.alloc (.cells #[.slice none 0 0] 34)) := (Below.refl _ w1).alloc (Nat.le_refl _) _
  have it2 := it.below hb3
  have hs1 : w.heap.size ≤ w1.heap.size := hB1.size
  have C0 : Col w w.heap.size (w.heap.size + 1) w1.heap.size (w1.alloc (.cells #[.slice none 0 0] 34)) [] := ⟨c4.alloc _, c5.alloc _, ⟨none, 0, cX, World.ownsRow_nil _ _ _ _, fun b hb => by simp [Value.ownBlock] at hb⟩, hB1.alloc hs1 _⟩
  have ST := told1_down (w1.alloc (.cells #[.slice none 0 0] 34)) Bx _ (dnl L false n) (by omega) (MBox w1.heap.size) (by
    rintro W x hb (rfl | ⟨v, e1, e2⟩)
    · simp
    · rw [(hb.cell (p := ⟨w1.heap.size, 0, none⟩) (by simp)).trans cX.cell] at e1
      obtain rfl := Option.some.inj e1
      simp [Value.ownBlock] at e2) it2.c0 (down1_gives _ p g m L V F ((h.below hB1).below hb3) n b1 b2 it2.c1 it2.c2) 7 (by decide)
  clear h it it2 hb3 c4 c5
  gi_wp2
  refine wpIn_rangeFunc_ownF (n := 8) rfl (by decide) (gf := 54) (lb := #[.pointer (some ⟨Bx, 0, none⟩)]) rfl trivial (enters_of Try.func54 (by kernel_rfl) rfl) ST KpM.trans (kpM_b (fun W l g o' hl e => mbox_put (by simp) W l g o' hl e)) (Below.refl _ _) (fun _ => rfl)
    (fun pre W => Col w w.heap.size (w.heap.size + 1) w1.heap.size W pre) (fun _ _ _ => False) (col_own (by simp; omega)) (fun _ _ _ _ _ hs _ _ => hs) C0
    (fun x => { tmps := #[.pointer (some ⟨p, 0, none⟩), .int .i64 n, undef, undef, .pointer (some ⟨w.heap.size, 0, none⟩), .pointer (some ⟨w.heap.size + 1, 0, none⟩), .func (.func 54) #[] #[.pointer (some ⟨Bx, 0, none⟩)], .pointer (some ⟨w1.heap.size, 0, none⟩), .int .i64 x, .pointer (some ⟨p, 0, none⟩), .int .i64 n, .func (.func 54) #[] #[.pointer (some ⟨Bx, 0, none⟩)], .func (.func 54) #[] #[.pointer (some ⟨Bx, 0, none⟩)], .bool false, .func (.func 54) #[] #[.pointer (some ⟨Bx, 0, none⟩)], .int .i64 x, undef, undef, undef, undef, undef, undef, undef, undef, undef], defers := [] }) ?assign ?body ?done ?stop
  case assign =>
    intro l x W K hK
    gi_wp2
    exact hK
  case body =>
    rintro l pre x W hC hlen
    obtain ⟨B, d, hx1, hx2, hx3⟩ := hC.bx
    have hxc := hx1.cell
    obtain ⟨i0, hi, hz0, hz1, hz2⟩ := info_parts info_int
    gi_wp2_with (gi_at_builtin; refine wpListIn_append_own_at _ rfl (.tmp 16) (.tmp 18) 34 rfl 0 3 i0 (.int .i64 0) 1 8 Try.underlying34 hi hz0 hz1 hz2 rfl (by decide) (.slice B pre.length d) pre.length _ rfl (hx2.alloc _) ⟨W.heap.size, 0, none⟩ 1 1 [i64 x] rfl rfl (cell_one_new _ _ _) (by simp [Value.oneCell', i64]) (by unfold maxLen; omega) (by omega) (Nat.zero_le _) ?_; intro v' w5 hown' hgrow _ hblk; obtain ⟨g', cap', rfl⟩ := ownsRow_succ hown'; obtain ⟨hv1, hk2, hk3, hk4⟩ := hC.step hx1 hx2 hx3 (by omega) (by omega) (by omega) hown' hgrow (by rw [World.size_alloc] at hblk; exact hblk); have hc1 := hv1.cell; have hf1 := hv1.frozen; have hc2 := (hv1.set (.slice (some ⟨g', 0, none⟩) (pre.length + 1) cap')).cell)
    exact ⟨hk2, hk3, hk4⟩
  case done =>
    rintro D xs W hD rfl hC hK
    obtain ⟨B, d, hx1, hx2, hx3⟩ := hC.bx
    have hxc := hx1.cell
    have h4c := hC.b4.cell
    have h4f := hC.b4.frozen
    have h5c := hC.b5.cell
    have h5f := hC.b5.frozen
    obtain ⟨l, hl⟩ : ∃ l, dnl L false n = l := ⟨_, rfl⟩
    rw [hl] at hx1 hx2 hx3 hxc
    obtain ⟨N, hN⟩ : ∃ N, l.length = N := ⟨_, rfl⟩
    rw [hN] at hx1 hx2 hx3 hxc
    have y4 := hC.b4.set (.slice B N d)
    have y5 := (hC.b5.other (B' := w.heap.size) (by omega) (.slice B N d))
    have y5c := y5.cell
    have y5f := y5.frozen
    have z4 := y4.other (B' := w.heap.size + 1) (by omega) (.bool true)
    have z5 := y5.set (.bool true)
    have hb6 := (hC.bel.setCell (p := ⟨w.heap.size, 0, none⟩) (Nat.le_refl _) (.slice B N d)).setCell (p := ⟨w.heap.size + 1, 0, none⟩) (by simp) (.bool true)
    have hK2 := (KeepsOthers.setCell _ ⟨w.heap.size + 1, 0, none⟩ (.bool true)).same D _ ((KeepsOthers.setCell W ⟨w.heap.size, 0, none⟩ (.slice B N d)).same D _ hK rfl) rfl
    have ox : ((W.setCell ⟨w.heap.size, 0, none⟩ (.slice B N d)).setCell ⟨w.heap.size + 1, 0, none⟩ (.bool true)).ownsRow 0 3 1 (.slice B N d) N (l.map i64) :=
      own_kept hx2 (((Kept.refl (fun b => b = w.heap.size ∨ b = w.heap.size + 1) W).setCell (p := ⟨w.heap.size, 0, none⟩) (.inl (.inl rfl)) _).setCell (p := ⟨w.heap.size + 1, 0, none⟩) (.inl (.inr rfl)) _) (fun b hb e => by rcases e with e | e; exact (hx3 b hb).2.1 e; exact (hx3 b hb).2.2.1 e)
    have HF : Hid (∀ b, (Value.slice B N d).ownBlock = some b → w.heap.size ≤ b) := fun b hb => (hx3 b hb).1
    have HL := Lib.hid hl
    have HN := Lib.hid hN
    clear hl hN
    gi_wp2
    refine ⟨by simp, .inl ⟨_, _, rfl, run_takeDeferred hK2, ?_⟩⟩
    refine ⟨_, results_box2 rfl _ rfl rfl (Try.isAgg34 _) (Try.isAgg4 _) (cell_kept z4.cell (grownBy_putObj' _ D (.deferred none)) (fun r e => by cases e; exact ⟨_, hK2, rfl⟩)) (cell_kept z5.cell (grownBy_putObj' _ D (.deferred none)) (fun r e => by cases e; exact ⟨_, hK2, rfl⟩)), B, d, ?_, ?_, ?_, ?_⟩
    · rw [HL.out, HN.out]
    · rw [HL.out, HN.out]
      exact ownsRow_putObj ox _ hK2 rfl
    · exact hb6.trans (belowK_b (w := w) (Nat.le_refl _) _ D _ _ (by simp at hD; omega) hK2 rfl rfl)
    · rw [HL.out, HN.out]; exact HF.out
  case stop =>
    rintro D c pre W _ _ h _
    exact h.elim
set_option maxRecDepth 100000 in
set_option maxHeartbeats 4000000 in
theorem ups_any (w : World) (p g m : Nat) (L : List (Int × Int)) (V : Nat → Value) (F : Nat → Prop) (h : Kt w p g m L V F) (n : Int) : Calls Try.prog 19 #[.pointer (some ⟨p, 0, none⟩), .int .i64 n] w fun e w' => ∃ A c, e = .returned (.tuple #[.slice A (upl L n).length c, .bool true]) ∧ w'.ownsRow 0 3 1 (.slice A (upl L n).length c) (upl L n).length ((upl L n).map i64) ∧ Below w.heap.size w w' ∧ Fresh w (.slice A (upl L n).length c) := by
  have hb2 : Below w.heap.size w ((w.alloc (.cells #[.slice none 0 0] 34)).alloc (.cells #[.bool false] 4)) := ((Below.refl _ w).alloc (Nat.le_refl _) _).alloc (by simp) _
  have B4 := (Boxed.new w 34 (.slice none 0 0)).alloc (.cells #[.bool false] 4)
  have B5 := Boxed.new (w.alloc (.cells #[.slice none 0 0] 34)) 4 (.bool false)
  rw [World.size_alloc] at B5
  have HT := Lib.hid (up_ready ((w.alloc (.cells #[.slice none 0 0] 34)).alloc (.cells #[.bool false] 4)) p n)
  have hul : (upl L n).length ≤ m := h.inv.up_len n
  have hm := h.hm
  refine (callsIn_wide (n := 8)).1 ?_
  refine callsIn_of_wp_marks Try.func19 rfl trivial ?_ rfl
  simp only [Try.ntmps19, List.size_toArray, List.length_cons, List.length_nil, Nat.reduceAdd, Nat.reduceSub, Array.replicate_succ, Array.replicate_zero, List.push_toArray, List.append_toArray, List.nil_append, List.cons_append]
  gi_wp2
  refine ⟨trivial, ?_⟩
  gi_at_call 24
  refine (callsIn_wide.2 HT.out).mono ?_
  rintro e w1 ⟨Bx, b1, b2, rfl, bl, it, _⟩
  have hsz := bl.size
  simp at hsz
  have hB1 : Below w.heap.size w w1 := hb2.trans (bl.mono hb2.size)
  have c4 : Boxed w1 w.heap.size 34 (.slice none 0 0) := (bl.block w.heap.size (by simp; omega)).trans B4
  have c5 : Boxed w1 (w.heap.size + 1) 4 (.bool false) := (bl.block (w.heap.size + 1) (by simp)).trans B5
  clear HT bl hb2 B4 B5
  have hnil := fun w => nil48 w #[.pointer (some ⟨Bx, 0, none⟩)]
  have cX := Boxed.new w1 34 (.slice none 0 0)
  have hb3 : Below w1.heap.size w1 (w1.alloc (.cells #[.slice none 0 0] 34)) := (Below.refl _ w1).alloc (Nat.le_refl _) _
  have it2 := it.below hb3
  have hs1 : w.heap.size ≤ w1.heap.size := hB1.size
  have C0 : Col w w.heap.size (w.heap.size + 1) w1.heap.size (w1.alloc (.cells #[.slice none 0 0] 34)) [] := ⟨c4.alloc _, c5.alloc _, ⟨none, 0, cX, World.ownsRow_nil _ _ _ _, fun b hb => by simp [Value.ownBlock] at hb⟩, hB1.alloc hs1 _⟩
  have ST := told1_up (w1.alloc (.cells #[.slice none 0 0] 34)) Bx _ (upl L n) (by omega) (MBox w1.heap.size) (by
    rintro W x hb (rfl | ⟨v, e1, e2⟩)
    · simp
    · rw [(hb.cell (p := ⟨w1.heap.size, 0, none⟩) (by simp)).trans cX.cell] at e1
      obtain rfl := Option.some.inj e1
      simp [Value.ownBlock] at e2) it2.c0 (up1_gives _ p g m L V F ((h.below hB1).below hb3) n b1 b2 it2.c1 it2.c2) 7 (by decide)
  clear h it it2 hb3 c4 c5
  gi_wp2
  refine wpIn_rangeFunc_ownF (n := 8) rfl (by decide) (gf := 54) (lb := #[.pointer (some ⟨Bx, 0, none⟩)]) rfl trivial (enters_of Try.func54 (by kernel_rfl) rfl) ST KpM.trans (kpM_b (fun W l g o' hl e => mbox_put (by simp) W l g o' hl e)) (Below.refl _ _) (fun _ => rfl)
    (fun pre W => Col w w.heap.size (w.heap.size + 1) w1.heap.size W pre) (fun _ _ _ => False) (col_own (by simp; omega)) (fun _ _ _ _ _ hs _ _ => hs) C0
    (fun x => { tmps := #[.pointer (some ⟨p, 0, none⟩), .int .i64 n, undef, undef, .pointer (some ⟨w.heap.size, 0, none⟩), .pointer (some ⟨w.heap.size + 1, 0, none⟩), .func (.func 54) #[] #[.pointer (some ⟨Bx, 0, none⟩)], .pointer (some ⟨w1.heap.size, 0, none⟩), .int .i64 x, .pointer (some ⟨p, 0, none⟩), .int .i64 n, .func (.func 54) #[] #[.pointer (some ⟨Bx, 0, none⟩)], .func (.func 54) #[] #[.pointer (some ⟨Bx, 0, none⟩)], .bool false, .func (.func 54) #[] #[.pointer (some ⟨Bx, 0, none⟩)], .int .i64 x, undef, undef, undef, undef, undef, undef, undef, undef, undef], defers := [] }) ?assign ?body ?done ?stop
  case assign =>
    intro l x W K hK
    gi_wp2
    exact hK
  case body =>
    rintro l pre x W hC hlen
    obtain ⟨B, d, hx1, hx2, hx3⟩ := hC.bx
    have hxc := hx1.cell
    obtain ⟨i0, hi, hz0, hz1, hz2⟩ := info_parts info_int
    gi_wp2_with (gi_at_builtin; refine wpListIn_append_own_at _ rfl (.tmp 16) (.tmp 18) 34 rfl 0 3 i0 (.int .i64 0) 1 8 Try.underlying34 hi hz0 hz1 hz2 rfl (by decide) (.slice B pre.length d) pre.length _ rfl (hx2.alloc _) ⟨W.heap.size, 0, none⟩ 1 1 [i64 x] rfl rfl (cell_one_new _ _ _) (by simp [Value.oneCell', i64]) (by unfold maxLen; omega) (by omega) (Nat.zero_le _) ?_; intro v' w5 hown' hgrow _ hblk; obtain ⟨g', cap', rfl⟩ := ownsRow_succ hown'; obtain ⟨hv1, hk2, hk3, hk4⟩ := hC.step hx1 hx2 hx3 (by omega) (by omega) (by omega) hown' hgrow (by rw [World.size_alloc] at hblk; exact hblk); have hc1 := hv1.cell; have hf1 := hv1.frozen; have hc2 := (hv1.set (.slice (some ⟨g', 0, none⟩) (pre.length + 1) cap')).cell)
    exact ⟨hk2, hk3, hk4⟩
  case done =>
    rintro D xs W hD rfl hC hK
    obtain ⟨B, d, hx1, hx2, hx3⟩ := hC.bx
    have hxc := hx1.cell
    have h4c := hC.b4.cell
    have h4f := hC.b4.frozen
    have h5c := hC.b5.cell
    have h5f := hC.b5.frozen
    obtain ⟨l, hl⟩ : ∃ l, upl L n = l := ⟨_, rfl⟩
    rw [hl] at hx1 hx2 hx3 hxc
    obtain ⟨N, hN⟩ : ∃ N, l.length = N := ⟨_, rfl⟩
    rw [hN] at hx1 hx2 hx3 hxc
    have y4 := hC.b4.set (.slice B N d)
    have y5 := (hC.b5.other (B' := w.heap.size) (by omega) (.slice B N d))
    have y5c := y5.cell
    have y5f := y5.frozen
    have z4 := y4.other (B' := w.heap.size + 1) (by omega) (.bool true)
    have z5 := y5.set (.bool true)
    have hb6 := (hC.bel.setCell (p := ⟨w.heap.size, 0, none⟩) (Nat.le_refl _) (.slice B N d)).setCell (p := ⟨w.heap.size + 1, 0, none⟩) (by simp) (.bool true)
    have hK2 := (KeepsOthers.setCell _ ⟨w.heap.size + 1, 0, none⟩ (.bool true)).same D _ ((KeepsOthers.setCell W ⟨w.heap.size, 0, none⟩ (.slice B N d)).same D _ hK rfl) rfl
    have ox : ((W.setCell ⟨w.heap.size, 0, none⟩ (.slice B N d)).setCell ⟨w.heap.size + 1, 0, none⟩ (.bool true)).ownsRow 0 3 1 (.slice B N d) N (l.map i64) :=
      own_kept hx2 (((Kept.refl (fun b => b = w.heap.size ∨ b = w.heap.size + 1) W).setCell (p := ⟨w.heap.size, 0, none⟩) (.inl (.inl rfl)) _).setCell (p := ⟨w.heap.size + 1, 0, none⟩) (.inl (.inr rfl)) _) (fun b hb e => by rcases e with e | e; exact (hx3 b hb).2.1 e; exact (hx3 b hb).2.2.1 e)
    have HF : Hid (∀ b, (Value.slice B N d).ownBlock = some b → w.heap.size ≤ b) := fun b hb => (hx3 b hb).1
    have HL := Lib.hid hl
    have HN := Lib.hid hN
    clear hl hN
    gi_wp2
    refine ⟨by simp, .inl ⟨_, _, rfl, run_takeDeferred hK2, ?_⟩⟩
    refine ⟨_, results_box2 rfl _ rfl rfl (Try.isAgg34 _) (Try.isAgg4 _) (cell_kept z4.cell (grownBy_putObj' _ D (.deferred none)) (fun r e => by cases e; exact ⟨_, hK2, rfl⟩)) (cell_kept z5.cell (grownBy_putObj' _ D (.deferred none)) (fun r e => by cases e; exact ⟨_, hK2, rfl⟩)), B, d, ?_, ?_, ?_, ?_⟩
    · rw [HL.out, HN.out]
    · rw [HL.out, HN.out]
      exact ownsRow_putObj ox _ hK2 rfl
    · exact hb6.trans (belowK_b (w := w) (Nat.le_refl _) _ D _ _ (by simp at hD; omega) hK2 rfl rfl)
    · rw [HL.out, HN.out]; exact HF.out
  case stop =>
    rintro D c pre W _ _ h _
    exact h.elim
end Go.Proofs.Ytkmmpagflbnenaa.Kin

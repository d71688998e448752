/- The witness: the document's example. -/
import Derived.Test.YtepjhdppmegloaaCaps5
namespace Go.Proofs.Ytepjhdppmegloaa.Caps
open Go.RowKit Go.Proofs.Ytepjhdppmegloaa.Mem

theorem new_yes (most : Int) (w : World) (h1 : 1 ≤ most) (h2 : most ≤ 32) : Calls Try.prog 6 #[.int .i64 most] w fun e w' =>
    e = .returned (.tuple #[.pointer (some ⟨w.heap.size, 0, none⟩), .int .i64 0]) ∧ w.alloc (.cells #[.int .i64 most, .slice none 0 0] 58) = w' := by
  refine (new_any most w).mono ?_
  intro e w' h
  unfold Made mostOk at h
  rw [if_pos (by simp [h1, h2])] at h
  exact ⟨h.1, h.2.symm⟩
theorem one_add_yes {X : Nat → Prop} {w : World} {p : Nat} {most : Int} {l : List Cap} (h : One 58 X w p most l) (x : Cap) (hb : l.length ≤ 1000000) (hl : (l.length : Int) < most) : Calls Try.prog 11 #[.pointer (some ⟨p, 0, none⟩), capV x] w fun e w' =>
    e = .returned (.int .i64 0) ∧ One 58 X w' p most (l ++ [x]) ∧ Away X w w' := by
  have := one_add h x hb
  unfold addE addL at this
  rwa [if_neg (by omega), if_neg (by omega)] at this
theorem one_add_no {X : Nat → Prop} {w : World} {p : Nat} {most : Int} {l : List Cap} (h : One 58 X w p most l) (x : Cap) (hb : l.length ≤ 1000000) (hl : most ≤ (l.length : Int)) : Calls Try.prog 11 #[.pointer (some ⟨p, 0, none⟩), capV x] w fun e w' =>
    e = .returned (.int .i64 14) ∧ One 58 X w' p most l ∧ Away X w w' := by
  have := one_add h x hb
  unfold addE addL at this
  rwa [if_pos hl, if_pos hl] at this
theorem one_pick_yes {X : Nat → Prop} {w : World} {p : Nat} {most : Int} {l : List Cap} (h : One 58 X w p most l) (u : Value) (ps : List Int) (hu : ReadsInts w u ps) (hm : most ≤ 32) (he : pickE most l ps = 0) : Calls Try.prog 17 #[.pointer (some ⟨p, 0, none⟩), u] w fun e w' =>
    ∃ v, e = .returned (.tuple #[v, .int .i64 0]) ∧ w'.ownsRow 0 37 3 v (picked l ps).length (capsC (picked l ps)) ∧ Below w.heap.size w w' ∧ Fresh w v := by
  refine (one_pick h u ps hu hm).mono ?_
  rintro e w' ⟨v, h1, h2, h3, h4⟩
  rw [he] at h1
  unfold pickL at h2
  rw [if_pos he] at h2
  exact ⟨v, h1, h2, h3, h4⟩
theorem one_remove_yes {X : Nat → Prop} {w : World} {p : Nat} {most : Int} {l : List Cap} (h : One 58 X w p most l) (i : Int) (hi : hasB l i = true) : Calls Try.prog 12 #[.pointer (some ⟨p, 0, none⟩), .int .i64 i] w fun e w' =>
    e = .returned (.tuple #[capV (l.getD i.toNat z0), .int .i64 0]) ∧ One 58 X w' p most (l.take i.toNat ++ l.drop (i.toNat + 1)) ∧ Away X w w' := by
  have := one_remove h i
  unfold remV remL at this
  rwa [if_pos hi, if_pos hi] at this
theorem reads_new {w : World} (zs : List Int) (hl : zs.length ≤ maxLen) (g : Nat) (hg : g = w.heap.size) : ReadsInts (w.alloc (.cells (zs.map (Value.int .i64)).toArray 3)) (.slice (some ⟨g, 0, none⟩) zs.length zs.length) zs := by
  subst hg
  refine ⟨_, _, rfl, hl, fun _ => ⟨_, _, rfl, fun j u hu => ?_⟩⟩
  rw [Nat.zero_add]
  exact cell_row (heap_alloc_new w _) (by simp [hu])

def ka : Cap := ⟨1, 0, 0⟩
def kb : Cap := ⟨2, 0, 0⟩
@[reducible] def boxC (c : Cap) : Obj := .cells #[.int .i64 c.obj, .int .u64 c.hi, .int .u64 c.lo] 37
/-- Three boxes, told as cells. -/
def Boxes (a b : Nat) (w : World) : Prop :=
  w.heap[a]? = some (boxC ⟨1, 0, 0⟩) ∧ w.heap[b]? = some (boxC ⟨2, 0, 0⟩)

theorem One.widen {T : Nat} {X Y : Nat → Prop} {w w' : World} {p : Nat} {most : Int} {l : List Cap} (h : One T X w p most l) (hb : Below w.heap.size w w') (hY : ∀ k, Y k → (X k ∨ w.heap.size ≤ k) ∧ k < w'.heap.size) : One T Y w' p most l := by
  obtain ⟨F, h1, h2, h3⟩ := h
  exact ⟨F, h1.kept (S := fun _ => False) (Kept.of_below hb) (fun _ _ h => h), fun k hf => ⟨fun hy => ((hY k hy).1).elim (h2 k hf).1 (fun hl => by have := (h2 k hf).2; omega), Nat.lt_of_lt_of_le (h2 k hf).2 hb.size⟩, fun k hy => (hY k hy).2⟩
theorem one_fresh {T : Nat} {w : World} {p : Nat} {most : Int} (hrow : w.heap[p]? = some (.cells #[.int .i64 most, .slice none 0 0] T (0, 0))) : One T (fun k => k < w.heap.size ∧ k ≠ p) w p most [] :=
  ⟨fun k => k = p, ⟨.slice none 0 0, hrow, World.ownsRow_nil _ _ _ _, rfl, fun k hk => by simp [Value.ownBlock] at hk⟩, fun k hk => ⟨fun hx => hx.2 hk, by rw [hk]; exact lt_of_row hrow⟩, fun k hk => hk.1⟩
/-- What is known of the world behind the boxes: the list, the two boxes, and that nothing elder has changed. -/
structure Sees (W : World) (l : List Cap) (w : World) : Prop where
  one : One 58 (fun k => k < W.heap.size + 3 ∧ k ≠ W.heap.size) w W.heap.size 2 l
  a : w.heap[W.heap.size + 1]? = some (boxC ⟨1, 0, 0⟩)
  b : w.heap[W.heap.size + 1 + 1]? = some (boxC ⟨2, 0, 0⟩)
  elder : Below W.heap.size W w
  size : W.heap.size + 3 ≤ w.heap.size
theorem Sees.away {W w w' : World} {l l' : List Cap} (h : Sees W l w) (ho : One 58 (fun k => k < W.heap.size + 3 ∧ k ≠ W.heap.size) w' W.heap.size 2 l') (ha : Away (fun k => k < W.heap.size + 3 ∧ k ≠ W.heap.size) w w') : Sees W l' w' :=
  ⟨ho, ha.row h.a ⟨by omega, by omega⟩, ha.row h.b ⟨by omega, by omega⟩, h.elder.trans (ha.below (fun k hk => ⟨by omega, by omega⟩) (Nat.le_trans (by omega) h.size)), Nat.le_trans h.size ha.size⟩
theorem Sees.below {W w w' : World} {l : List Cap} (h : Sees W l w) (hb : Below w.heap.size w w') : Sees W l w' := h.away (h.one.below hb) (Away.of_below hb)
theorem sees_start (W : World) : Sees W [] (((W.alloc (.cells #[.int .i64 2, .slice none 0 0] 58)).alloc (boxC ⟨1, 0, 0⟩)).alloc (boxC ⟨2, 0, 0⟩)) := by
  have e : (((W.alloc (.cells #[.int .i64 2, .slice none 0 0] 58)).alloc (boxC ⟨1, 0, 0⟩)).alloc (boxC ⟨2, 0, 0⟩)).heap.size = W.heap.size + 3 := by simp
  have r0 : (((W.alloc (.cells #[.int .i64 2, .slice none 0 0] 58)).alloc (boxC ⟨1, 0, 0⟩)).alloc (boxC ⟨2, 0, 0⟩)).heap[W.heap.size]? = some (.cells #[.int .i64 2, .slice none 0 0] 58 (0, 0)) :=
    no_keeps (heap_alloc_new W _) (((Kept.refl _ _).alloc _).alloc _)
  refine ⟨?_, ?_, ?_, ((((Below.refl _ _).alloc (Nat.le_refl _) _).alloc (by simp) _).alloc (by simp; omega) _), by rw [e]; exact Nat.le_refl _⟩
  · have := one_fresh r0
    rwa [e] at this
  · exact no_keeps (by simpa using heap_alloc_new (W.alloc (.cells #[.int .i64 2, .slice none 0 0] 58)) (boxC ⟨1, 0, 0⟩)) ((Kept.refl _ _).alloc _)
  · simpa using heap_alloc_new ((W.alloc (.cells #[.int .i64 2, .slice none 0 0] 58)).alloc (boxC ⟨1, 0, 0⟩)) (boxC ⟨2, 0, 0⟩)

/-- What the last statement keeps: the three boxes, and all that is elder. -/
def Hold (n m : Nat) (W w' : World) : Prop :=
  w'.cell? ⟨n + 1, 0, none⟩ = some (.int .i64 1) ∧ w'.cell? ⟨n + 1, 1, none⟩ = some (.int .u64 0) ∧ w'.cell? ⟨n + 1, 2, none⟩ = some (.int .u64 0) ∧ w'.cell? ⟨n + 1 + 1, 0, none⟩ = some (.int .i64 2) ∧ w'.cell? ⟨n + 1 + 1, 1, none⟩ = some (.int .u64 0) ∧ w'.cell? ⟨n + 1 + 1, 2, none⟩ = some (.int .u64 0) ∧
      w'.cell? ⟨m, 0, none⟩ = some (.int .i64 1) ∧ w'.cell? ⟨m, 1, none⟩ = some (.int .u64 0) ∧ w'.cell? ⟨m, 2, none⟩ = some (.int .u64 0) ∧ Below (m + 1) W w'
theorem hold_later {n m : Nat} {W a b : World} (hb : Below a.heap.size a b) (h : Hold n m W a) : Hold n m W b := by
  obtain ⟨h0, h1, h2, h3, h4, h5, h6, h7, h8, h9⟩ := h
  have f : ∀ (q : Addr) (u : Value), a.cell? q = some u → b.cell? q = some u := fun q u hq => (hb.cell (World.block_lt_of_cell? a q hq)).trans hq
  have hm := World.block_lt_of_cell? a _ h6
  exact ⟨f _ _ h0, f _ _ h1, f _ _ h2, f _ _ h3, f _ _ h4, f _ _ h5, f _ _ h6, f _ _ h7, f _ _ h8, h9.trans (hb.mono hm)⟩
theorem hold_alloc {n m : Nat} {W a : World} (h : Hold n m W a) (o : Obj) : Hold n m W (a.alloc o) := hold_later ((Below.refl _ _).alloc (Nat.le_refl _) o) h
theorem hold_alloc_drew {n m : Nat} {W a : World} (h : Hold n m W a.drew) (o : Obj) : Hold n m W (a.alloc o).drew := hold_alloc h o
theorem below_drawn {B : Nat} {w w' : World} (h : ∃ n, w' = w.drewN n) : Below B w w' := by
  obtain ⟨n, rfl⟩ := h
  exact ⟨rfl, rfl, rfl, Nat.le_refl _, fun _ _ => rfl⟩
theorem caps_below {B : Nat} {w w' : World} {v : Value} {l : List Cap} (h : ReadsCaps w v l) (hb : Below B w w') (hB : B = w.heap.size) : ReadsCaps w' v l := by
  subst hB
  obtain ⟨A, c, h1, h2, h3⟩ := h
  refine ⟨A, c, h1, h2, fun hne => ?_⟩
  obtain ⟨b, o, e, h4⟩ := h3 hne
  exact ⟨b, o, e, fun j u hu => (hb.cell (World.block_lt_of_cell? w _ (h4 j u hu))).trans (h4 j u hu)⟩
theorem same_below (w : World) (u v : Value) (a b : List Cap) (ha : ReadsCaps w u a) (hb : ReadsCaps w v b) :
    Calls Try.prog 14 #[u, v] w fun e w' => e = .returned (.bool (sameB a b)) ∧ Below w.heap.size w w' := by
  refine (same_any w u v a b ha hb).mono ?_
  rintro e w' ⟨h, hd⟩
  exact ⟨h, below_drawn hd⟩
theorem below10 {n : Nat} {w a : World} {o : Obj} (h : Hold n w.heap.size (w.alloc o) a) : Below w.heap.size w a := by
  obtain ⟨_, _, _, _, _, _, _, _, _, h⟩ := h
  exact ((Below.refl _ _).alloc (Nat.le_refl _) o).trans (h.mono (by omega))
theorem reads_hold {n : Nat} {w a : World} {o : Obj} {v : Value} {l : List Cap} (ho : w.ownsRow 0 37 3 v l.length (capsC l)) (h : Hold n w.heap.size (w.alloc o) a) : ReadsCaps a v l := reads_of_own (own_keeps ho (Kept.of_below (below10 h)))
theorem caps_new (X : World) (l : List Cap) (cs : Array Value) (hc : cs.toList = capsC l) (hl : l.length ≤ maxLen) (g : Nat) (hg : g = X.heap.size) (n : Nat) (hn : n = l.length) : ReadsCaps (X.alloc (.cells cs 37)) (.slice (some ⟨g, 0, none⟩) n n) l := by
  subst hg hn
  refine ⟨_, _, rfl, hl, fun _ => ⟨_, _, rfl, fun j u hu => ?_⟩⟩
  rw [Nat.zero_add]
  exact cell_row (heap_alloc_new X _) (by rw [← hc] at hu; simpa using hu)
theorem caps_new_drew (X : World) (l : List Cap) (cs : Array Value) (hc : cs.toList = capsC l) (hl : l.length ≤ maxLen) (g : Nat) (hg : g = X.heap.size) (n : Nat) (hn : n = l.length) : ReadsCaps (X.alloc (.cells cs 37)).drew (.slice (some ⟨g, 0, none⟩) n n) l :=
  caps_new X.drew l cs hc hl g hg n hn
theorem hold_start {W w : World} {l : List Cap} (h : Sees W l w) : Hold W.heap.size w.heap.size (w.alloc (boxC ⟨1, 0, 0⟩)) (w.alloc (boxC ⟨1, 0, 0⟩)).drew := by
  obtain ⟨a0, a1, a2, _⟩ := row3 (no_keeps h.a ((Kept.refl _ w).alloc (boxC ⟨1, 0, 0⟩)).drew)
  obtain ⟨b0, b1, b2, _⟩ := row3 (no_keeps h.b ((Kept.refl _ w).alloc (boxC ⟨1, 0, 0⟩)).drew)
  obtain ⟨c0, c1, c2, _⟩ := row3 (w := (w.alloc (boxC ⟨1, 0, 0⟩)).drew) (heap_alloc_new w (boxC ⟨1, 0, 0⟩))
  exact ⟨a0, a1, a2, b0, b1, b2, c0, c1, c2, (Below.refl _ _).drew⟩

set_option maxHeartbeats 4000000 in
set_option maxRecDepth 100000 in
theorem known_any (w : World) : Calls Try.prog 8 #[] w fun e w' => e = .returned (.bool true) ∧ Below w.heap.size w w' := by
  have s5 := Lib.hid (sees_start w)
  go_enter Try.func8, Try.ntmps8
  go_wp2_with (go_at_call 6; refine (new_yes 2 _ (by omega) (by omega)).mono ?_; rintro e w1 ⟨rfl, rfl⟩)
  refine (one_add_yes s5.out.one ⟨1, 0, 0⟩ (by decide) (by decide)).mono ?_
  rintro e w6 ⟨rfl, h6, a6⟩
  have s6 := Lib.hid (s5.out.away h6 a6)
  clear h6 a6
  obtain ⟨b0, b1, b2, _, _, _⟩ := row3 s6.out.b
  go_wp2_with fail
  refine (one_add_yes s6.out.one ⟨2, 0, 0⟩ (by decide) (by decide)).mono ?_
  rintro e w7 ⟨rfl, h7, a7⟩
  have s7 := Lib.hid (s6.out.away h7 a7)
  clear h7 a7 b0 b1 b2
  obtain ⟨b0, b1, b2, _, _, _⟩ := row3 s7.out.b
  go_wp2_with fail
  refine (one_add_no s7.out.one ⟨2, 0, 0⟩ (by decide) (by decide)).mono ?_
  rintro e w8 ⟨rfl, h8, a8⟩
  have s8 := Lib.hid (s7.out.away h8 a8)
  clear h8 a8 b0 b1 b2
  go_wp2_with fail
  have s8a := Lib.hid (s8.out.below (Below.alloc (Below.refl _ _) (Nat.le_refl _) (.cells #[.int .i64 1, .int .i64 0] 3)))
  refine (one_pick_yes s8a.out.one _ [1, 0] (reads_new [1, 0] (by decide) _ rfl) (by decide) (by decide)).mono ?_
  rintro e w9 ⟨v, rfl, own9, below9, fresh9⟩
  have own9' : w9.ownsRow 0 37 3 v ([⟨2, 0, 0⟩, ⟨1, 0, 0⟩] : List Cap).length (capsC [⟨2, 0, 0⟩, ⟨1, 0, 0⟩]) := own9
  have OWN9 := Lib.hid own9'
  clear own9'
  have FR9 := Lib.hid fresh9
  have s9 := Lib.hid (s8a.out.below below9)
  have one9 := Lib.hid (s8a.out.one.widen (Y := fun k => (k < w.heap.size + 3 ∧ k ≠ w.heap.size) ∨ v.ownBlock = some k) below9 (fun k hk => hk.elim (fun h => ⟨.inl h, Nat.lt_of_lt_of_le h.1 (Nat.le_trans s8a.out.size below9.size)⟩) (fun h => ⟨.inr (fresh9 k h), own_lt own9 k h⟩)))
  clear own9 fresh9 below9
  go_wp2_with fail
  refine (one_remove_yes one9.out 0 (by decide)).mono ?_
  rintro e w10 ⟨rfl, h10, a10⟩
  have s10 := Lib.hid (s9.out.away (h10.more (fun k hk => .inl (.inl hk)) (fun k hk => Nat.lt_of_lt_of_le hk.1 (Nat.le_trans s9.out.size a10.size))) (a10.mono (fun k hk => .inl hk)))
  have OWN10 := Lib.hid (own_kept OWN9.out a10 (fun k hk hn => hn (.inr hk)))
  clear h10 a10
  go_wp2_with fail
  have st := Lib.hid (hold_start s10.out)
  have heq := eqCap
  have hs1 : sameB [⟨2, 0, 0⟩, ⟨1, 0, 0⟩] [⟨2, 0, 0⟩, ⟨1, 0, 0⟩] = true := by decide
  have hs2 : sameB [⟨2, 0, 0⟩] [⟨2, 0, 0⟩] = true := by decide
  have hs3 : capEq ⟨1, 0, 0⟩ ⟨1, 0, 0⟩ = true := by decide
  clear s5 s6 s7 s8 s8a s9 one9 OWN9 FR9
  go_region_held3 (fun w' => w'.cell? ⟨w.heap.size + 1, 0, none⟩ = some (.int .i64 1) ∧ w'.cell? ⟨w.heap.size + 1, 1, none⟩ = some (.int .u64 0) ∧ w'.cell? ⟨w.heap.size + 1, 2, none⟩ = some (.int .u64 0) ∧ w'.cell? ⟨w.heap.size + 1 + 1, 0, none⟩ = some (.int .i64 2) ∧ w'.cell? ⟨w.heap.size + 1 + 1, 1, none⟩ = some (.int .u64 0) ∧ w'.cell? ⟨w.heap.size + 1 + 1, 2, none⟩ = some (.int .u64 0) ∧
      w'.cell? ⟨w10.heap.size, 0, none⟩ = some (.int .i64 1) ∧ w'.cell? ⟨w10.heap.size, 1, none⟩ = some (.int .u64 0) ∧ w'.cell? ⟨w10.heap.size, 2, none⟩ = some (.int .u64 0) ∧ Below (w10.heap.size + 1) (w10.alloc (boxC ⟨1, 0, 0⟩)) w')
    (first | exact st.out | (refine hold_alloc_drew ?_ _; go_split_ands; exact ⟨by assumption, by assumption, by assumption, by assumption, by assumption, by assumption, by assumption, by assumption, by assumption, by assumption⟩) | (refine hold_alloc ?_ _; go_split_ands; exact ⟨by assumption, by assumption, by assumption, by assumption, by assumption, by assumption, by assumption, by assumption, by assumption, by assumption⟩) | (refine hold_later (by assumption) ?_; go_split_ands; exact ⟨by assumption, by assumption, by assumption, by assumption, by assumption, by assumption, by assumption, by assumption, by assumption, by assumption⟩) | go_keep)
    (first | (go_at_call 13; refine (one_len (p := w.heap.size) (most := 2) (l := [⟨2, 0, 0⟩]) (X := fun k => k < w.heap.size + 3 ∧ k ≠ w.heap.size) ?_).mono ?_; (go_split_ands; (first | exact s10.out.one.below (below10 (n := w.heap.size) (w := w10) (o := boxC ⟨1, 0, 0⟩) ⟨by assumption, by assumption, by assumption, by assumption, by assumption, by assumption, by assumption, by assumption, by assumption, by assumption⟩) | exact s10.out.one.below (below10 (n := w.heap.size) (w := w10) (o := boxC ⟨1, 0, 0⟩) (hold_alloc_drew ⟨by assumption, by assumption, by assumption, by assumption, by assumption, by assumption, by assumption, by assumption, by assumption, by assumption⟩ _)))); rintro e w1 ⟨rfl, rfl⟩) | (go_at_call 15; refine (one_all (p := w.heap.size) (most := 2) (l := [⟨2, 0, 0⟩]) (X := fun k => k < w.heap.size + 3 ∧ k ≠ w.heap.size) ?_ (by decide)).mono ?_; (go_split_ands; (first | exact s10.out.one.below (below10 (n := w.heap.size) (w := w10) (o := boxC ⟨1, 0, 0⟩) ⟨by assumption, by assumption, by assumption, by assumption, by assumption, by assumption, by assumption, by assumption, by assumption, by assumption⟩) | exact s10.out.one.below (below10 (n := w.heap.size) (w := w10) (o := boxC ⟨1, 0, 0⟩) (hold_alloc_drew ⟨by assumption, by assumption, by assumption, by assumption, by assumption, by assumption, by assumption, by assumption, by assumption, by assumption⟩ _)))); rintro e w1 ⟨v2, rfl, own2, hb1, _⟩) | (go_at_call 14; (with_reducible refine (same_below _ v2 _ [⟨2, 0, 0⟩] [⟨2, 0, 0⟩] ?_ ?_).mono ?_); (first | with_reducible exact reads_of_own own2 | exact reads_of_own (own_keeps own2 ((Kept.refl _ _).alloc _)) | exact reads_of_own (own_keeps own2 (((Kept.refl _ _).alloc _).drew)) ); (first | exact caps_new_drew _ _ _ rfl (by decide) _ (by simp) _ rfl | exact caps_new _ _ _ rfl (by decide) _ (by simp) _ rfl | (refine caps_below ?_ hb1 rfl; exact caps_new_drew _ _ _ rfl (by decide) _ (by simp) _ rfl) | (refine caps_below ?_ hb1 rfl; exact caps_new _ _ _ rfl (by decide) _ (by simp) _ rfl)); rintro e w1 ⟨rfl, hb1⟩) | (go_at_call 14; (with_reducible refine (same_below _ v _ [⟨2, 0, 0⟩, ⟨1, 0, 0⟩] [⟨2, 0, 0⟩, ⟨1, 0, 0⟩] ?_ ?_).mono ?_); (go_split_ands; (first | exact reads_hold (n := w.heap.size) (o := boxC ⟨1, 0, 0⟩) OWN10.out ⟨by assumption, by assumption, by assumption, by assumption, by assumption, by assumption, by assumption, by assumption, by assumption, by assumption⟩ | exact reads_hold (n := w.heap.size) (o := boxC ⟨1, 0, 0⟩) OWN10.out (hold_alloc_drew ⟨by assumption, by assumption, by assumption, by assumption, by assumption, by assumption, by assumption, by assumption, by assumption, by assumption⟩ _) | exact reads_hold (n := w.heap.size) (o := boxC ⟨1, 0, 0⟩) OWN10.out (hold_alloc ⟨by assumption, by assumption, by assumption, by assumption, by assumption, by assumption, by assumption, by assumption, by assumption, by assumption⟩ _))); (first | exact caps_new_drew _ _ _ rfl (by decide) _ (by simp) _ rfl | exact caps_new _ _ _ rfl (by decide) _ (by simp) _ rfl); rintro e w1 ⟨rfl, hb1⟩) | fail)
  all_goals (go_wp2; go_split_ands; go_ret; exact ⟨rfl, s10.out.elder.trans ((below10 (n := w.heap.size) (w := w10) (o := boxC ⟨1, 0, 0⟩) ⟨by assumption, by assumption, by assumption, by assumption, by assumption, by assumption, by assumption, by assumption, by assumption, by assumption⟩).mono (Nat.le_trans (by omega) s10.out.size))⟩)

end Go.Proofs.Ytepjhdppmegloaa.Caps

/- DomainAll: what holds behind each round. -/
import Derived.Test.YtepjhdppmegloaaOpened
namespace Go.Proofs.Ytepjhdppmegloaa.Caps
open Go.RowKit Go.Proofs.Ytepjhdppmegloaa.Mem
@[reducible] def rowL (T : Nat) (a : Int) : Obj := .cells #[.int .i64 a, .slice none 0 0] T
theorem new_on (a : Int) (w : World) (h : mostOk a = true) : Calls Try.prog 6 #[.int .i64 a] w fun e w' => e = .returned (.tuple #[.pointer (some ⟨w.heap.size, 0, none⟩), .int .i64 0]) ∧ w.alloc (rowL 58 a) = w' :=
  (new_any a w).mono (fun e w' k => by unfold Made at k; rw [if_pos h] at k; exact ⟨k.1, k.2.symm⟩)
theorem new_off (a : Int) (w : World) (h : mostOk a = false) : Calls Try.prog 6 #[.int .i64 a] w fun e w' => e = .returned (.tuple #[.pointer none, .int .i64 16]) ∧ w = w' :=
  (new_any a w).mono (fun e w' k => by unfold Made at k; rw [if_neg (by rw [h]; decide)] at k; exact ⟨k.1, k.2.symm⟩)
theorem refNew_on (a : Int) (w : World) (h : mostOk a = true) : Calls Try.prog 7 #[.int .i64 a] w fun e w' => e = .returned (.tuple #[.pointer (some ⟨w.heap.size, 0, none⟩), .int .i64 0]) ∧ w.alloc (rowL 60 a) = w' :=
  (refNew_any a w).mono (fun e w' k => by unfold Made at k; rw [if_pos h] at k; exact ⟨k.1, k.2.symm⟩)
theorem refNew_off (a : Int) (w : World) (h : mostOk a = false) : Calls Try.prog 7 #[.int .i64 a] w fun e w' => e = .returned (.tuple #[.pointer none, .int .i64 16]) ∧ w = w' :=
  (refNew_any a w).mono (fun e w' k => by unfold Made at k; rw [if_neg (by rw [h]; decide)] at k; exact ⟨k.1, k.2.symm⟩)
theorem listAt_new {T : Nat} {w : World} {p : Nat} {most : Int} (h : w.heap[p]? = some (rowL T most)) : ListAt T w p most [] (fun k => k = p) :=
  ⟨.slice none 0 0, h, World.ownsRow_nil _ _ _ _, rfl, fun k hk => by simp [Value.ownBlock] at hk⟩
theorem feet_new {w : World} {p r : Nat} {most : Int} (h1 : w.heap[p]? = some (rowL 58 most)) (h2 : w.heap[r]? = some (rowL 60 most)) (hn : p ≠ r) : Feet (fun k => k = p ∨ k = r) w p r most [] [] :=
  ⟨_, _, listAt_new h1, listAt_new h2, fun k e1 e2 => hn (e1.symm.trans e2), fun k => Iff.rfl, fun k hk => hk.elim (fun e => by rw [e]; exact lt_of_row h1) (fun e => by rw [e]; exact lt_of_row h2)⟩
/-- What holds behind each round: both pairs, the two boxes, and nothing elder has changed. -/
def Mid (w : World) (n : Nat) (on : Bool) (p r : Nat) (a : Int) (on' : Bool) (q s : Nat) (b : Int) (wr : World) : Prop :=
  ∃ l m, Quad (fun k => k < w.heap.size ∨ k = n ∨ k = n + 1) wr on p r a l on' q s b m ∧ wr.heap[n]? = some (.cells #[ptrO on p, ptrO on r] 32) ∧ wr.heap[n + 1]? = some (.cells #[ptrO on' q, ptrO on' s] 32) ∧ Below w.heap.size w wr
theorem mid_start {w W4 w5 : World} {on on' : Bool} {p r q s : Nat} {a b : Int} {A B : Nat → Prop} (hA : FeetO on A W4 p r a []) (hB : FeetO on' B W4 q s b []) (hAB : ∀ k, A k → ¬ B k) (hA' : ∀ k, A k → w.heap.size ≤ k) (hB' : ∀ k, B k → w.heap.size ≤ k)
    (b4 : Below w.heap.size w W4) (b5 : Below W4.heap.size W4 w5) : Mid w w5.heap.size on p r a on' q s b ((w5.alloc (.cells #[ptrO on p, ptrO on r] 32)).alloc (.cells #[ptrO on' q, ptrO on' s] 32)) := by
  have h4 : Quad (fun k => k < w.heap.size) W4 on p r a [] on' q s b [] := ⟨A, B, hA, hB, hAB, fun k h1 h2 => by have := hA' k h1; omega, fun k h1 h2 => by have := hB' k h1; omega, fun k hk => Nat.lt_of_lt_of_le hk b4.size⟩
  have h5 := h4.below b5
  have h6 := h5.more (Y := fun k => k < w.heap.size ∨ k = w5.heap.size ∨ k = w5.heap.size + 1) (fun k hk => by omega) (((Below.refl _ w5).alloc (Nat.le_refl _) (.cells #[ptrO on p, ptrO on r] 32)).alloc (by simp) (.cells #[ptrO on' q, ptrO on' s] 32)) (fun k hk => by
    have := b4.size; have := b5.size
    simp
    omega)
  refine ⟨[], [], h6, no_keeps (heap_alloc_new w5 _) ((Kept.refl _ _).alloc _), by simpa using heap_alloc_new (w5.alloc (.cells #[ptrO on p, ptrO on r] 32)) (.cells #[ptrO on' q, ptrO on' s] 32), ?_⟩
  exact b4.trans ((b5.mono b4.size).trans (((Below.refl _ w5).alloc (Nat.le_refl _) _).alloc (by simp) _ |>.mono (Nat.le_trans b4.size b5.size)))
theorem mostOk_le {a : Int} (h : mostOk a = true) : 1 ≤ a ∧ a ≤ 32 := by simpa [mostOk] using h
theorem feetO_on {w : World} {p r : Nat} {a : Int} (ha : mostOk a = true) (h1 : w.heap[p]? = some (rowL 58 a)) (h2 : w.heap[r]? = some (rowL 60 a)) (hn : p ≠ r) : FeetO true (fun k => k = p ∨ k = r) w p r a [] :=
  ⟨feet_new h1 h2 hn, by have := (mostOk_le ha).1; simp; omega, (mostOk_le ha).2⟩
theorem Mid.bel {w wr : World} {n : Nat} {on on' : Bool} {p r q s : Nat} {a b : Int} (h : Mid w n on p r a on' q s b wr) : Below w.heap.size w wr := by
  obtain ⟨l, m, h1, h2, h3, h4⟩ := h
  exact h4
@[reducible] def endB : Obj := .cells #[.bool false, .int .i64 3, .int .i64 0, .int .u64 0, .int .u64 0, .int .i64 0, .slice none 0 0] 40
theorem Quad.less {X Y : Nat → Prop} {w : World} {on on' : Bool} {p r q s : Nat} {a b : Int} {l m : List Cap} (h : Quad X w on p r a l on' q s b m) (hY : ∀ k, Y k → X k) : Quad Y w on p r a l on' q s b m := by
  obtain ⟨A, B, h1, h2, h3, h4, h5, h6⟩ := h
  exact ⟨A, B, h1, h2, h3, fun k ha hy => h4 k ha (hY k hy), fun k hb hy => h5 k hb (hY k hy), fun k hy => h6 k (hY k hy)⟩
theorem Mid.below {w wr w' : World} {n : Nat} {on on' : Bool} {p r q s : Nat} {a b : Int} (h : Mid w n on p r a on' q s b wr) (hb : Below wr.heap.size wr w') : Mid w n on p r a on' q s b w' := by
  obtain ⟨l, m, h1, h2, h3, h4⟩ := h
  exact ⟨l, m, h1.below hb, (hb.block _ (lt_of_row h2)).trans h2, (hb.block _ (lt_of_row h3)).trans h3, h4.trans (hb.mono h4.size)⟩
theorem mid_away {w wr w' : World} {n : Nat} {on on' : Bool} {p r q s : Nat} {a b : Int} {l m : List Cap} {X : Nat → Prop} (hX : ∀ k, (k < w.heap.size ∨ k = n ∨ k = n + 1) → X k) (h2 : wr.heap[n]? = some (.cells #[ptrO on p, ptrO on r] 32)) (h3 : wr.heap[n + 1]? = some (.cells #[ptrO on' q, ptrO on' s] 32)) (h4 : Below w.heap.size w wr)
    (hq : Quad (fun k => k < w.heap.size ∨ k = n ∨ k = n + 1) w' on p r a l on' q s b m) (ha : Away X wr w') : Mid w n on p r a on' q s b w' :=
  ⟨l, m, hq, Kept.row ha h2 (fun hn => hn (hX _ (.inr (.inl rfl)))), Kept.row ha h3 (fun hn => hn (hX _ (.inr (.inr rfl)))), h4.trans (Away.below ha (fun k hk => hX k (.inl hk)) h4.size)⟩
section
variable {w wr : World} {n : Nat} {p r q s : Nat} {a b : Int}
theorem mid_x {on' : Bool} (h : Mid w n true p r a on' q s b wr) (sb : Bool) (k : Int) (x : Cap) (z : Int) (u : Value) (ps : List Int) (hu : ReadsInts w u ps) (hps : ps.length ≤ 2000000) :
    Calls Try.prog 9 #[pairV p r, stepV sb k x z u] wr fun e w' => e = .returned (.bool true) ∧ Mid w n true p r a on' q s b w' := by
  obtain ⟨l, m, h1, h2, h3, h4⟩ := h
  refine (quad_step h1 sb k x z u ps (ints_below hu h4) hps).mono ?_
  rintro e w' ⟨rfl, l', hq, ha⟩
  exact ⟨rfl, mid_away (fun _ hk => hk) h2 h3 h4 hq ha⟩
theorem mid_y {on : Bool} (h : Mid w n on p r a true q s b wr) (sb : Bool) (k : Int) (x : Cap) (z : Int) (u : Value) (ps : List Int) (hu : ReadsInts w u ps) (hps : ps.length ≤ 2000000) :
    Calls Try.prog 9 #[pairV q s, stepV sb k x z u] wr fun e w' => e = .returned (.bool true) ∧ Mid w n on p r a true q s b w' := by
  obtain ⟨l, m, h1, h2, h3, h4⟩ := h
  refine (quad_step h1.swap sb k x z u ps (ints_below hu h4) hps).mono ?_
  rintro e w' ⟨rfl, l', hq, ha⟩
  exact ⟨rfl, mid_away (fun _ hk => hk) h2 h3 h4 hq.swap ha⟩
theorem end_x {on' : Bool} (h : Mid w n true p r a on' q s b wr) (hu : ReadsInts w (.slice none 0 0) []) :
    Calls Try.prog 9 #[pairV p r, stepV false 3 ⟨0, 0, 0⟩ 0 (.slice none 0 0)] (wr.alloc endB) fun e w' => e = .returned (.bool true) ∧ Mid w n true p r a on' q s b w' ∧ w'.heap[wr.heap.size]? = some endB := by
  obtain ⟨l, m, h1, h2, h3, h4⟩ := h
  have hb : Below wr.heap.size wr (wr.alloc endB) := (Below.refl _ _).alloc (Nat.le_refl _) endB
  have h5 := h1.more (Y := fun k => (k < w.heap.size ∨ k = n ∨ k = n + 1) ∨ k = wr.heap.size) (fun k hk => hk.imp id (fun e => Nat.le_of_eq e.symm)) hb (by
    obtain ⟨A, B, _, _, _, _, _, h6⟩ := h1
    rintro k (hk | hk)
    · exact Nat.lt_of_lt_of_le (h6 k hk) hb.size
    · simp; omega)
  refine (quad_step h5 false 3 ⟨0, 0, 0⟩ 0 (.slice none 0 0) [] (ints_below hu (h4.trans (hb.mono h4.size))) (by simp)).mono ?_
  rintro e w' ⟨rfl, l', hq, ha⟩
  exact ⟨rfl, mid_away (fun _ hk => .inl hk) ((hb.block _ (lt_of_row h2)).trans h2) ((hb.block _ (lt_of_row h3)).trans h3) (h4.trans (hb.mono h4.size)) (hq.less (fun k hk => .inl hk)) ha, Kept.row ha (heap_alloc_new wr endB) (fun hn => hn (.inr rfl))⟩
end
theorem ints_nil (w : World) : ReadsInts w (.slice none 0 0) [] := ⟨none, 0, rfl, by simp, fun h => by simp at h⟩
end Go.Proofs.Ytepjhdppmegloaa.Caps

/- A state of boxes and owned lists, and a forest beside it that touches none of them: what the ranges of the laws go over. Own text; Ytkmmpagflbnenaa and the numbers between @..@ are the seat's. -/
import Derived.Test.YtkmmpagflbnenaaWaH
import Derived.Test.YtkmmpagflbnenaaWbB
namespace Go.Proofs.Ytkmmpagflbnenaa.Kin
open Go.RowKit Go.Proofs.Ytkmmpagflbnenaa.Mem Go.Shelf
set_option linter.unusedVariables false
/-- The blocks of a forest, and no more. -/
def Fm (p g m : Nat) (V : Nat → Value) (b : Nat) : Prop := b = p ∨ b = g ∨ ∃ k, k < m ∧ (V k).ownBlock = some b
section
variable {w w' : World} {p g m : Nat} {L : List (Int × Int)} {V : Nat → Value} {F : Nat → Prop}
theorem Kt.least (h : Kt w p g m L V F) : Kt w p g m L V (Fm p g m V) :=
  ⟨⟨h.kg.box, h.kg.row, h.kg.own, h.kg.pg, .inl rfl, .inr (.inl rfl), fun k b hk hb => ⟨.inr (.inr ⟨k, hk, hb⟩), (h.kg.fv k b hk hb).2⟩, h.kg.hm⟩, h.inv⟩
theorem Kt.least_sub (h : Kt w p g m L V F) {b : Nat} (hb : Fm p g m V b) : F b := by
  rcases hb with rfl | rfl | ⟨k, hk, hb⟩
  · exact h.kg.fp
  · exact h.kg.fg
  · exact (h.kg.fv k b hk hb).1
theorem own_cells {v : Value} {n b : Nat} {e : TypeId} {xs : List Value} (h : w.ownsRow 0 e 1 v n xs) (hb : v.ownBlock = some b) : ∃ o, w.heap[b]? = some o ∧ o.isCells = true := by
  rcases h.2 with ⟨rfl, _⟩ | ⟨g, cap, cur, rfl, _, hgb, _⟩
  · simp [Value.ownBlock] at hb
  · obtain rfl : g = b := Option.some.inj hb
    exact ⟨_, hgb, rfl⟩
theorem Kt.least_cells (h : Kt w p g m L V F) {b : Nat} (hb : Fm p g m V b) : ∃ o, w.heap[b]? = some o ∧ o.isCells = true := by
  rcases hb with rfl | rfl | ⟨k, hk, hb⟩
  · exact ⟨_, h.kg.box, rfl⟩
  · obtain ⟨cur, h1, _⟩ := h.kg.row
    exact ⟨_, h1, rfl⟩
  · exact own_cells (h.kg.own.own k hk) hb
end
/-- A forest at W, new since w, that does not touch X. -/
def Sol (w W : World) (p g m : Nat) (L : List (Int × Int)) (X : Nat → Prop) : Prop :=
  ∃ V, Kt W p g m L V (Fm p g m V) ∧ ∀ b, Fm p g m V b → w.heap.size ≤ b ∧ ¬ X b
section
variable {w W W' : World} {p g m : Nat} {L : List (Int × Int)} {X Y : Nat → Prop}
theorem Solo.sol (h : Solo w W p g m L X) : Sol w W p g m L X := by
  obtain ⟨⟨V, F, h1, h2⟩, _⟩ := h
  exact ⟨V, h1.least, fun b hb => ⟨(h2 b (h1.least_sub hb)).1, (h2 b (h1.least_sub hb)).2.2⟩⟩
theorem Sol.kept {S : Nat → Prop} (h : Sol w W p g m L X) (hk : Kept S W W') (hS : ∀ b, S b → X b) : Sol w W' p g m L X := by
  obtain ⟨V, h1, h2⟩ := h
  exact ⟨V, h1.kept hk (fun b hb hs => (h2 b hb).2 (hS b hs)), h2⟩
theorem Sol.below (h : Sol w W p g m L X) (hb : Below W.heap.size W W') : Sol w W' p g m L X := h.kept (Kept.of_below hb) (S := fun _ => False) (fun _ e => e.elim)
theorem Sol.grown {row : Option Nat} (h : Sol w W p g m L X) (hg : W.grownBy W' row) (hr : ∀ r, row = some r → ∃ o : Obj, W.heap[r]? = some o ∧ o.isCells = false) : Sol w W' p g m L X := by
  obtain ⟨V, h1, h2⟩ := h
  refine ⟨V, h1.kept (S := fun b => row = some b) ⟨hg.os, hg.tape, hg.output, hg.size, fun k hk hne => hg.block k hk (fun e => hne e.symm)⟩ (fun b hb e => ?_), h2⟩
  obtain ⟨o, ho, hc⟩ := hr b e
  obtain ⟨o2, ho2, hc2⟩ := h1.least_cells hb
  rw [ho] at ho2; cases ho2; rw [hc] at hc2; cases hc2
theorem Sol.lt (h : Sol w W p g m L X) : ∃ V, Kt W p g m L V (Fm p g m V) ∧ ∀ b, Fm p g m V b → w.heap.size ≤ b ∧ b < W.heap.size ∧ ¬ X b := by
  obtain ⟨V, h1, h2⟩ := h
  refine ⟨V, h1, fun b hb => ⟨(h2 b hb).1, ?_, (h2 b hb).2⟩⟩
  obtain ⟨o, ho, _⟩ := h1.least_cells hb
  exact lt_of_row ho
theorem Sol.free (h : Sol w W p g m L X) (hY : ∀ b, Y b → X b ∨ W.heap.size ≤ b ∨ b < w.heap.size) : Sol w W p g m L Y := by
  obtain ⟨V, h1, h2⟩ := h.lt
  exact ⟨V, h1, fun b hb => ⟨(h2 b hb).1, fun e => by
    have h4 := h2 b hb
    rcases hY b e with e2 | e2 | e2
    · exact h4.2.2 e2
    · omega
    · omega⟩⟩
theorem Sol.cut (h : Sol w W p g m L X) (hX : ∀ b, X b → b < W.heap.size) (hw : w.heap.size ≤ W.heap.size) (n : Int) : Calls Try.prog 22 #[.pointer (some ⟨p, 0, none⟩), .int .i64 n] W fun e w' => e = .returned (.int .i64 (cutE L n)) ∧ Sol w w' p g m (cutL L n) X ∧ Kept (fun b => w.heap.size ≤ b ∧ ¬ X b) W w' ∧ KeepsOthers W w' := by
  obtain ⟨V, h1, h2⟩ := h.lt
  refine (cut_any W p g m L V _ h1 n).mono ?_
  rintro e w' ⟨rfl, hk, V', h5⟩
  refine ⟨rfl, ⟨V', h5.least, fun b hb => ?_⟩, hk.mono (fun b hb => ⟨(h2 b hb).1, (h2 b hb).2.2⟩), ⟨hk.size, fun k o hko hc => ?_⟩⟩
  · rcases h5.least_sub hb with h6 | h6
    · exact ⟨(h2 b h6).1, (h2 b h6).2.2⟩
    · exact ⟨Nat.le_trans hw h6, fun hx => by have := hX b hx; omega⟩
  · refine hk.row hko (fun e => ?_)
    obtain ⟨o2, ho2, hc2⟩ := h1.least_cells e
    rw [hko] at ho2; cases ho2; rw [hc] at hc2; cases hc2
end
/-- Boxes and owned lists, all of them new since w. -/
structure Wk (w W : World) (l : List (Nat × TypeId × Value)) (rs : List (Value × List Int)) : Prop where
  box : ∀ x ∈ l, Boxed W x.1 x.2.1 x.2.2
  low : ∀ x ∈ l, w.heap.size ≤ x.1
  row : ∀ x ∈ rs, W.ownsRow 0 3 1 x.1 x.2.length (x.2.map i64)
  far : ∀ x ∈ rs, ∀ b, x.1.ownBlock = some b → w.heap.size ≤ b ∧ ∀ y ∈ l, y.1 ≠ b
  bel : Below w.heap.size w W
/-- What they lie in. -/
def Xl (l : List (Nat × TypeId × Value)) (rs : List (Value × List Int)) (b : Nat) : Prop := (∃ x ∈ l, x.1 = b) ∨ ∃ x ∈ rs, x.1.ownBlock = some b
section
variable {w W W' : World} {l l' : List (Nat × TypeId × Value)} {rs rs' : List (Value × List Int)}
theorem Wk.lt (h : Wk w W l rs) {b : Nat} (hb : Xl l rs b) : w.heap.size ≤ b ∧ b < W.heap.size := by
  rcases hb with ⟨x, hx, rfl⟩ | ⟨x, hx, hb⟩
  · exact ⟨h.low x hx, (h.box x hx).lt⟩
  · exact ⟨(h.far x hx b hb).1, own_lt (h.row x hx) b hb⟩
theorem Wk.kept {S : Nat → Prop} (h : Wk w W l rs) (hk : Kept S W W') (hS : ∀ b, S b → w.heap.size ≤ b ∧ ¬ Xl l rs b) : Wk w W' l rs :=
  ⟨fun x hx => hk.row (h.box x hx) (fun e => (hS _ e).2 (.inl ⟨x, hx, rfl⟩)), h.low, fun x hx => own_kept (h.row x hx) hk (fun b hb e => (hS b e).2 (.inr ⟨x, hx, hb⟩)), h.far, h.bel.trans (hk.below (fun b hb => (hS b hb).1) h.bel.size)⟩
theorem Wk.below (h : Wk w W l rs) (hb : Below W.heap.size W W') : Wk w W' l rs := h.kept (S := fun _ => False) (Kept.of_below hb) (fun _ e => e.elim)
theorem Wk.grown {row : Option Nat} (h : Wk w W l rs) (hg : W.grownBy W' row) (hw : ∀ r, row = some r → w.heap.size ≤ r) (hr : ∀ r, row = some r → ∃ o : Obj, W.heap[r]? = some o ∧ o.isCells = false) : Wk w W' l rs := by
  refine h.kept (S := fun b => row = some b) ⟨hg.os, hg.tape, hg.output, hg.size, fun k hk hne => hg.block k hk (fun e => hne e.symm)⟩ (fun b e => ⟨hw b e, fun hx => ?_⟩)
  obtain ⟨o, ho, hc⟩ := hr b e
  rcases hx with ⟨x, hx, rfl⟩ | ⟨x, hx, hb⟩
  · have := h.box x hx
    rw [show W.heap[x.1]? = _ from this] at ho; cases ho; cases hc
  · obtain ⟨o2, ho2, hc2⟩ := own_cells (h.row x hx) hb
    rw [ho] at ho2; cases ho2; rw [hc] at hc2; cases hc2
/-- Another value in a box. -/
theorem Wk.set {K : Nat} {t : TypeId} {v : Value} (v' : Value) (h : Wk w W ((K, t, v) :: l) rs) (hne : ∀ x ∈ l, x.1 ≠ K) : Wk w (W.setCell ⟨K, 0, none⟩ v') ((K, t, v') :: l) rs := by
  have hK := h.low _ (List.mem_cons_self)
  refine ⟨fun x hx => ?_, fun x hx => ?_, fun x hx => ?_, fun x hx b hb => ?_, h.bel.setCell (p := ⟨K, 0, none⟩) hK v'⟩
  · rcases List.mem_cons.1 hx with rfl | hx
    · exact (h.box _ (List.mem_cons_self)).set v'
    · exact (h.box x (List.mem_cons_of_mem _ hx)).other (hne x hx) v'
  · rcases List.mem_cons.1 hx with rfl | hx
    · exact hK
    · exact h.low x (List.mem_cons_of_mem _ hx)
  · exact own_kept (h.row x hx) ((Kept.refl (fun b => b = K) W).setCell (p := ⟨K, 0, none⟩) (.inl rfl) v') (fun b hb e => (h.far x hx b hb).2 _ (List.mem_cons_self) e.symm)
  · refine ⟨(h.far x hx b hb).1, fun y hy => ?_⟩
    rcases List.mem_cons.1 hy with rfl | hy
    · exact (h.far x hx b hb).2 (K, t, v) (List.mem_cons_self)
    · exact (h.far x hx b hb).2 y (List.mem_cons_of_mem _ hy)
theorem Wk.sub (h : Wk w W l rs) (hl : ∀ x ∈ l', x ∈ l) : Wk w W l' rs := ⟨fun x hx => h.box x (hl x hx), fun x hx => h.low x (hl x hx), h.row, fun x hx b hb => ⟨(h.far x hx b hb).1, fun y hy => (h.far x hx b hb).2 y (hl y hy)⟩, h.bel⟩
theorem Wk.new (h : Wk w W l rs) (t : TypeId) (v : Value) : Wk w (W.alloc (.cells #[v] t)) ((W.heap.size, t, v) :: l) rs := by
  have h2 := h.below ((Below.refl _ W).alloc (Nat.le_refl _) (.cells #[v] t))
  refine ⟨fun x hx => ?_, fun x hx => ?_, h2.row, fun x hx b hb => ⟨(h2.far x hx b hb).1, fun y hy => ?_⟩, h2.bel⟩
  · rcases List.mem_cons.1 hx with rfl | hx
    · exact Boxed.new W t v
    · exact h2.box x hx
  · rcases List.mem_cons.1 hx with rfl | hx
    · exact h.bel.size
    · exact h2.low x hx
  · rcases List.mem_cons.1 hy with rfl | hy
    · have := own_lt (h.row x hx) b hb
      simp; omega
    · exact (h2.far x hx b hb).2 y hy
theorem Wk.add (h : Wk w W l rs) (hb : Below W.heap.size W W') {v : Value} {zs : List Int} (ho : W'.ownsRow 0 3 1 v zs.length (zs.map i64)) (hf : Fresh W v) : Wk w W' l ((v, zs) :: rs) := by
  have h2 := h.below hb
  refine ⟨h2.box, h2.low, fun x hx => ?_, fun x hx b e => ?_, h2.bel⟩
  · rcases List.mem_cons.1 hx with rfl | hx
    · exact ho
    · exact h2.row x hx
  · rcases List.mem_cons.1 hx with rfl | hx
    · have := hf b e
      exact ⟨Nat.le_trans h.bel.size this, fun y hy => by have := (h.box y hy).lt; omega⟩
    · exact h2.far x hx b e
theorem Wk.at (h : Wk w W l rs) (i : Nat) {K : Nat} {t : TypeId} {v : Value} (hx : l[i]? = some (K, t, v)) : Boxed W K t v := h.box (K, t, v) (List.mem_of_getElem? hx)
theorem Wk.start (w : World) : Wk w w [] [] := ⟨(fun _ h => nomatch h), (fun _ h => nomatch h), (fun _ h => nomatch h), (fun _ h => nomatch h), Below.refl _ _⟩
end
theorem pre_next {pre U : List Int} {x : Int} (hp : pre <+: U) (hy : U[pre.length]? = some x) : (pre ++ [x]) <+: U := by
  obtain ⟨t, rfl⟩ := hp
  cases t with
  | nil => simp at hy
  | cons z t =>
    have h3 : z = x := by simpa using hy
    exact ⟨t, by rw [h3]; simp⟩
theorem pre_at {pre U : List Int} {x y : Int} (hp : (pre ++ [x]) <+: U) (hy : U[pre.length]? = some y) : x = y := by
  obtain ⟨t, rfl⟩ := hp
  simpa using hy
/-- All of it. -/
structure Al (w W : World) (p g m : Nat) (L : List (Int × Int)) (l : List (Nat × TypeId × Value)) (rs : List (Value × List Int)) (Y : Nat → Prop) : Prop where
  wk : Wk w W l rs
  sol : Sol w W p g m L (fun b => Xl l rs b ∨ Y b)
section
variable {w W W' : World} {p g m : Nat} {L : List (Int × Int)} {l l' : List (Nat × TypeId × Value)} {rs : List (Value × List Int)} {Y Z : Nat → Prop}
theorem Al.below (h : Al w W p g m L l rs Y) (hb : Below W.heap.size W W') : Al w W' p g m L l rs Y := ⟨h.wk.below hb, h.sol.below hb⟩
theorem Al.grown {row : Option Nat} (h : Al w W p g m L l rs Y) (hg : W.grownBy W' row) (hw : ∀ r, row = some r → w.heap.size ≤ r) (hr : ∀ r, row = some r → ∃ o : Obj, W.heap[r]? = some o ∧ o.isCells = false) : Al w W' p g m L l rs Y := ⟨h.wk.grown hg hw hr, h.sol.grown hg hr⟩
theorem Al.new (h : Al w W p g m L l rs Y) (t : TypeId) (v : Value) : Al w (W.alloc (.cells #[v] t)) p g m L ((W.heap.size, t, v) :: l) rs Y := by
  refine ⟨h.wk.new t v, Sol.below (h.sol.free (fun b hb => ?_)) ((Below.refl _ W).alloc (Nat.le_refl _) _)⟩
  rcases hb with (⟨x, hx, rfl⟩ | hb) | hb
  · rcases List.mem_cons.1 hx with rfl | hx
    · exact .inr (.inl (Nat.le_refl _))
    · exact .inl (.inl (.inl ⟨x, hx, rfl⟩))
  · exact .inl (.inl (.inr hb))
  · exact .inl (.inr hb)
theorem Al.ne (h : Al w W p g m L l rs Y) : ∀ x ∈ l, x.1 ≠ W.heap.size := fun x hx => Nat.ne_of_lt (h.wk.box x hx).lt
theorem Al.add (h : Al w W p g m L l rs Y) (hb : Below W.heap.size W W') {v : Value} {zs : List Int} (ho : W'.ownsRow 0 3 1 v zs.length (zs.map i64)) (hf : Fresh W v) : Al w W' p g m L l ((v, zs) :: rs) Y := by
  refine ⟨h.wk.add hb ho hf, Sol.below (h.sol.free (fun b e => ?_)) hb⟩
  rcases e with (e | ⟨x, hx, e⟩) | e
  · exact .inl (.inl (.inl e))
  · rcases List.mem_cons.1 hx with rfl | hx
    · exact .inr (.inl (hf b e))
    · exact .inl (.inl (.inr ⟨x, hx, e⟩))
  · exact .inl (.inr e)
theorem Al.set {K : Nat} {t : TypeId} {v : Value} (v' : Value) (h : Al w W p g m L ((K, t, v) :: l) rs Y) (hne : ∀ x ∈ l, x.1 ≠ K) : Al w (W.setCell ⟨K, 0, none⟩ v') p g m L ((K, t, v') :: l) rs Y := by
  refine ⟨h.wk.set v' hne, (h.sol.kept ((Kept.refl (fun b => b = K) W).setCell (p := ⟨K, 0, none⟩) (.inl rfl) v') (fun b e => .inl (.inl ⟨_, List.mem_cons_self, e.symm⟩))).free (fun b e => .inl ?_)⟩
  rcases e with (⟨x, hx, e⟩ | e) | e
  · rcases List.mem_cons.1 hx with rfl | hx
    · exact .inl (.inl ⟨_, List.mem_cons_self, e⟩)
    · exact .inl (.inl ⟨x, List.mem_cons_of_mem _ hx, e⟩)
  · exact .inl (.inr e)
  · exact .inr e
theorem Al.sub (h : Al w W p g m L l rs Y) (hl : ∀ x ∈ l', x ∈ l) : Al w W p g m L l' rs Y := by
  refine ⟨h.wk.sub hl, h.sol.free (fun b e => .inl ?_)⟩
  rcases e with (⟨x, hx, e⟩ | e) | e
  · exact .inl (.inl ⟨x, hl x hx, e⟩)
  · exact .inl (.inr e)
  · exact .inr e
theorem Al.free (h : Al w W p g m L l rs Y) (hZ : ∀ b, Z b → Y b ∨ W.heap.size ≤ b) : Al w W p g m L l rs Z := by
  refine ⟨h.wk, h.sol.free (fun b e => ?_)⟩
  rcases e with e | e
  · exact .inl (.inl e)
  · rcases hZ b e with e | e
    · exact .inl (.inr e)
    · exact .inr (.inl e)
theorem Al.subr {rs' : List (Value × List Int)} (h : Al w W p g m L l rs Y) (hl : ∀ x ∈ rs', x ∈ rs) : Al w W p g m L l rs' Y := by
  refine ⟨⟨h.wk.box, h.wk.low, fun x hx => h.wk.row x (hl x hx), fun x hx => h.wk.far x (hl x hx), h.wk.bel⟩, h.sol.free (fun b e => .inl ?_)⟩
  rcases e with (e | ⟨x, hx, e⟩) | e
  · exact .inl (.inl e)
  · exact .inl (.inr ⟨x, hl x hx, e⟩)
  · exact .inr e
theorem Al.at (h : Al w W p g m L l rs Y) (i : Nat) {K : Nat} {t : TypeId} {v : Value} (hx : l[i]? = some (K, t, v)) : Boxed W K t v := h.wk.at i hx
theorem Al.own (h : Al w W p g m L l rs Y) (i : Nat) {v : Value} {zs : List Int} (hx : rs[i]? = some (v, zs)) : W.ownsRow 0 3 1 v zs.length (zs.map i64) := h.wk.row (v, zs) (List.mem_of_getElem? hx)
theorem Al.kt (h : Al w W p g m L l rs Y) : ∃ V F, Kt W p g m L V F := by obtain ⟨V, h1, _⟩ := h.sol; exact ⟨V, _, h1⟩
/-- A node is cut; what is in Y, of the blocks that are there, stays. -/
theorem Al.cut (h : Al w W p g m L l rs Y) (hY : ∀ b, Y b → b < W.heap.size) (n : Int) : Calls Try.prog 22 #[.pointer (some ⟨p, 0, none⟩), .int .i64 n] W fun e w' => e = .returned (.int .i64 (cutE L n)) ∧ Al w w' p g m (cutL L n) l rs Y ∧ Kept (fun b => ¬ Y b) W w' ∧ KeepsOthers W w' := by
  refine (h.sol.cut (fun b e => by rcases e with e | e; exact (h.wk.lt e).2; exact hY b e) h.wk.bel.size n).mono ?_
  rintro e w' ⟨rfl, h1, h2, h3⟩
  exact ⟨rfl, ⟨h.wk.kept h2 (fun b hb => ⟨hb.1, fun e => hb.2 (.inl e)⟩), h1⟩, h2.mono (fun b hb e => hb.2 (.inr e)), h3⟩
end
theorem al_start {w w1 W : World} {p g m r : Nat} {L : List (Int × Int)} {l : List (Nat × TypeId × Value)} (h : Wk w w1 l []) (hb : Below w1.heap.size w1 W) (hd : Duo w1 W p g m r L L (fun _ => False)) : Al w W p g m L l [] (fun _ => False) := by
  obtain ⟨V, F, G, h1, h2, h3, h4⟩ := hd
  refine ⟨h.below hb, V, h1.least, fun b e => ⟨Nat.le_trans h.bel.size (h3 b (h1.least_sub e)).1, fun e2 => ?_⟩⟩
  have h5 := (h3 b (h1.least_sub e)).1
  rcases e2 with e2 | e2
  · have := (h.lt e2).2; omega
  · exact e2
theorem shut_box {W : World} {E B : Nat} {t : TypeId} {v : Value} (hE : W.heap[E]? = some (.deferred (some []))) (h : Boxed W B t v) : Boxed (W.putObj E (.deferred none)) B t v :=
  h.kept (grownBy_putObj' W E (.deferred none)) (fun e => by have e2 := Option.some.inj e; subst e2; rw [show W.heap[B]? = _ from h] at hE; cases hE)
theorem shut_mark {W : World} {E E' : Nat} (hne : E' ≠ E) (h : W.heap[E']? = some (.deferred (some []))) : (W.putObj E (.deferred none)).heap[E']? = some (.deferred (some [])) := (World.putObj_heap_other hne).trans h
theorem shut_below {w W : World} {E : Nat} (hE : W.heap[E]? = some (.deferred (some []))) (hw : w.heap.size ≤ E) (h : Below w.heap.size w W) : Below w.heap.size w (W.putObj E (.deferred none)) :=
  h.trans (belowK_b (w := w) (Nat.le_refl _) _ E _ _ hw hE rfl rfl)
theorem keep_mark {W W' : World} {E : Nat} {row : Option Nat} (hg : W.grownBy W' row) (h : W.heap[E]? = some (.deferred (some []))) (hr : ∀ r, row = some r → r ≠ E) : W'.heap[E]? = some (.deferred (some [])) := (hg.block E (lt_of_row h) (fun e => hr E e.symm rfl)).trans h
theorem inBlock_exit {id : Nat} {Q : Exit → Act → World → Prop} {a : Act} {w : World} (h : Q .normal a w) : Exit.inBlock id Q (.exit id) a w := by
  show (if id = id then Q .normal a w else Q (.exit id) a w)
  rw [if_pos rfl]
  exact h
/-- Something that is said of the frame is shown first. -/
theorem wpIn_cutframe {F : Fence} {n : Nat} {P : Program} {c : Code} {Q : Exit → Act → World → Prop} {a : Act} {w : World} (R : Act → Prop) (h1 : R a) (h2 : R a → c.wpIn F n P Q a w) : c.wpIn F n P Q a w := h2 h1
/-- What a range's body may write: whatever lay there ahead of the range. -/
def Mc (B : Nat) (_ : World) (g : Nat) : Prop := g < B
theorem mc_b {B : Nat} (W : World) (l g : Nat) (o' : Obj) (_ : B ≤ l) (h : Mc B (W.putObj l o') g) : Mc B W g := h
theorem kpM_kept {B : Nat} {S : Nat → Prop} {A C : World} (h : Kept S A C) (hS : ∀ b, S b → b < B) : KpM (Mc B) A C := ⟨h.size, fun g o h1 h2 h3 => ⟨h.row h1 (fun e => h3 (hS g e)), h3⟩⟩
end Go.Proofs.Ytkmmpagflbnenaa.Kin

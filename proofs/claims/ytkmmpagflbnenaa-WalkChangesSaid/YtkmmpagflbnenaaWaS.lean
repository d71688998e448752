/- One forest alone, and all that is asked of it. Own text; Ytkmmpagflbnenaa and the numbers between @..@ are the seat's. -/
import Derived.Test.YtkmmpagflbnenaaWaL
import Derived.Test.YtkmmpagflbnenaaWaE
namespace Go.Proofs.Ytkmmpagflbnenaa.Kin
open Go.RowKit Go.Proofs.Ytkmmpagflbnenaa.Mem
set_option linter.unusedVariables false
/-- A forest, new since w; it does not touch X. -/
def Solo (w wr : World) (p g m : Nat) (L : List (Int × Int)) (X : Nat → Prop) : Prop :=
  (∃ V F, Kt wr p g m L V F ∧ (∀ b, F b → w.heap.size ≤ b ∧ b < wr.heap.size ∧ ¬ X b)) ∧ Below w.heap.size w wr
section
variable {w wr w' : World} {p g m : Nat} {L L' : List (Int × Int)} {X Y : Nat → Prop}
theorem Solo.below (h : Solo w wr p g m L X) (hb : Below wr.heap.size wr w') : Solo w w' p g m L X := by
  obtain ⟨⟨V, F, h1, h2⟩, h3⟩ := h
  have := hb.size
  exact ⟨⟨V, F, h1.below hb, fun b hb' => ⟨(h2 b hb').1, Nat.lt_of_lt_of_le (h2 b hb').2.1 this, (h2 b hb').2.2⟩⟩, h3.trans (hb.mono h3.size)⟩
theorem Solo.kept {S : Nat → Prop} (h : Solo w wr p g m L X) (hk : Kept S wr w') (hX : ∀ b, S b → X b ∨ wr.heap.size ≤ b) (hS : ∀ b, S b → w.heap.size ≤ b) : Solo w w' p g m L X := by
  obtain ⟨⟨V, F, h1, h2⟩, h3⟩ := h
  have := hk.size
  exact ⟨⟨V, F, h1.kept hk (fun b hb hs => by rcases hX b hs with e | e; exact (h2 b hb).2.2 e; have := (h2 b hb).2.1; omega), fun b hb' => ⟨(h2 b hb').1, Nat.lt_of_lt_of_le (h2 b hb').2.1 this, (h2 b hb').2.2⟩⟩, h3.trans (hk.below hS h3.size)⟩
theorem Solo.free (h : Solo w wr p g m L X) (hY : ∀ b, Y b → X b ∨ wr.heap.size ≤ b ∨ b < w.heap.size) : Solo w wr p g m L Y := by
  obtain ⟨⟨V, F, h1, h2⟩, h3⟩ := h
  exact ⟨⟨V, F, h1, fun b hb' => ⟨(h2 b hb').1, (h2 b hb').2.1, fun e => by
    have h4 := h2 b hb'
    rcases hY b e with e2 | e2 | e2
    · exact h4.2.2 e2
    · omega
    · omega⟩⟩, h3⟩
theorem Solo.hm (h : Solo w wr p g m L X) : m ≤ 1024 := by
  obtain ⟨⟨V, F, h1, _⟩, _⟩ := h
  exact h1.hm
theorem Solo.inv (h : Solo w wr p g m L X) : Inv m L := by
  obtain ⟨⟨V, F, h1, _⟩, _⟩ := h
  exact h1.inv
theorem Solo.has (h : Solo w wr p g m L X) (n : Int) : Calls Try.prog 17 #[.pointer (some ⟨p, 0, none⟩), .int .i64 n] wr fun e w' => e = .returned (.bool (has L n)) ∧ wr = w' := by
  obtain ⟨⟨V, F, h1, _⟩, _⟩ := h
  exact has_any wr p g m L V F h1 n
theorem Solo.parent (h : Solo w wr p g m L X) (n : Int) : Calls Try.prog 10 #[.pointer (some ⟨p, 0, none⟩), .int .i64 n] wr fun e w' => e = .returned (.tuple #[.int .i64 (par L n), .bool (Kin.has L n)]) ∧ wr = w' := by
  obtain ⟨⟨V, F, h1, _⟩, _⟩ := h
  exact parent_any wr p g m L V F h1 n
theorem Solo.step (h : Solo w wr p g m L X) (hX : ∀ b, X b → b < wr.heap.size) {V : Nat → Value} {F : Nat → Prop} (h2 : ∀ b, F b → w.heap.size ≤ b ∧ b < wr.heap.size ∧ ¬ X b) (hk : Kept F wr w') (h5 : ∃ V', Kt w' p g m L' V' (fun b => F b ∨ wr.heap.size ≤ b)) : Solo w w' p g m L' X ∧ Kept (fun b => w.heap.size ≤ b ∧ ¬ X b) wr w' := by
  obtain ⟨V', h5⟩ := h5
  have h3 := h.2
  refine ⟨⟨⟨V', _, h5.tight, fun b hb => ?_⟩, h3.trans (hk.below (fun b hb => (h2 b hb).1) h3.size)⟩, hk.mono (fun b hb => ⟨(h2 b hb).1, (h2 b hb).2.2⟩)⟩
  obtain ⟨h6, h7⟩ := hb
  rcases h6 with h6 | h6
  · exact ⟨(h2 b h6).1, h7, (h2 b h6).2.2⟩
  · exact ⟨Nat.le_trans h3.size h6, h7, fun hx => by have := hX b hx; omega⟩
theorem Solo.root (h : Solo w wr p g m L X) (hX : ∀ b, X b → b < wr.heap.size) (n : Int) : Calls Try.prog 27 #[.pointer (some ⟨p, 0, none⟩), .int .i64 n] wr fun e w' => e = .returned (.int .i64 (rootE m L n)) ∧ Solo w w' p g m (rootL m L n) X ∧ Kept (fun b => w.heap.size ≤ b ∧ ¬ X b) wr w' := by
  obtain ⟨⟨V, F, h1, h2⟩, h3⟩ := h
  refine (root_any wr p g m L V F h1 n).mono ?_
  rintro e w' ⟨rfl, hk, h5⟩
  exact ⟨rfl, Solo.step (V := V) ⟨⟨V, F, h1, h2⟩, h3⟩ hX h2 hk h5⟩
theorem Solo.child (h : Solo w wr p g m L X) (hX : ∀ b, X b → b < wr.heap.size) (q n : Int) : Calls Try.prog 28 #[.pointer (some ⟨p, 0, none⟩), .int .i64 q, .int .i64 n] wr fun e w' => e = .returned (.int .i64 (childE m L q n)) ∧ Solo w w' p g m (childL m L q n) X ∧ Kept (fun b => w.heap.size ≤ b ∧ ¬ X b) wr w' := by
  obtain ⟨⟨V, F, h1, h2⟩, h3⟩ := h
  refine (child_any wr p g m L V F h1 q n).mono ?_
  rintro e w' ⟨rfl, hk, h5⟩
  exact ⟨rfl, Solo.step (V := V) ⟨⟨V, F, h1, h2⟩, h3⟩ hX h2 hk h5⟩
theorem Solo.cut (h : Solo w wr p g m L X) (hX : ∀ b, X b → b < wr.heap.size) (n : Int) : Calls Try.prog 22 #[.pointer (some ⟨p, 0, none⟩), .int .i64 n] wr fun e w' => e = .returned (.int .i64 (cutE L n)) ∧ Solo w w' p g m (cutL L n) X ∧ Kept (fun b => w.heap.size ≤ b ∧ ¬ X b) wr w' := by
  obtain ⟨⟨V, F, h1, h2⟩, h3⟩ := h
  refine (cut_any wr p g m L V F h1 n).mono ?_
  rintro e w' ⟨rfl, hk, h5⟩
  exact ⟨rfl, Solo.step (V := V) ⟨⟨V, F, h1, h2⟩, h3⟩ hX h2 hk h5⟩
theorem Solo.under (h : Solo w wr p g m L X) (a n : Int) : Calls Try.prog 20 #[.pointer (some ⟨p, 0, none⟩), .int .i64 a, .int .i64 n] wr fun e w' => e = .returned (.bool (decide (a ∈ upl L n))) ∧ Below wr.heap.size wr w' := by
  obtain ⟨⟨V, F, h1, _⟩, _⟩ := h
  exact under_any wr p g m L V F h1 a n
theorem Solo.fall (h : Solo w wr p g m L X) (n : Int) : Calls Try.prog 16 #[.pointer (some ⟨p, 0, none⟩), .int .i64 n] wr fun e w' => ∃ A c, e = .returned (.slice A (Kin.fall L n).length c) ∧ w'.ownsRow 0 3 1 (.slice A (Kin.fall L n).length c) (Kin.fall L n).length ((Kin.fall L n).map i64) ∧ Below wr.heap.size wr w' ∧ Fresh wr (.slice A (Kin.fall L n).length c) := by
  obtain ⟨⟨V, F, h1, _⟩, _⟩ := h
  exact fall_any wr p g m L V F h1 n
theorem Solo.downs (h : Solo w wr p g m L X) (n : Int) : Calls Try.prog 15 #[.pointer (some ⟨p, 0, none⟩), .int .i64 n] wr fun e w' => ∃ A c, e = .returned (.tuple #[.slice A (dnl L false n).length c, .bool true]) ∧ w'.ownsRow 0 3 1 (.slice A (dnl L false n).length c) (dnl L false n).length ((dnl L false n).map i64) ∧ Below wr.heap.size wr w' ∧ Fresh wr (.slice A (dnl L false n).length c) := by
  obtain ⟨⟨V, F, h1, _⟩, _⟩ := h
  exact downs_any wr p g m L V F h1 n
theorem Solo.ups (h : Solo w wr p g m L X) (n : Int) : Calls Try.prog 19 #[.pointer (some ⟨p, 0, none⟩), .int .i64 n] wr fun e w' => ∃ A c, e = .returned (.tuple #[.slice A (upl L n).length c, .bool true]) ∧ w'.ownsRow 0 3 1 (.slice A (upl L n).length c) (upl L n).length ((upl L n).map i64) ∧ Below wr.heap.size wr w' ∧ Fresh wr (.slice A (upl L n).length c) := by
  obtain ⟨⟨V, F, h1, _⟩, _⟩ := h
  exact ups_any wr p g m L V F h1 n
theorem Duo.solo {r : Nat} (h : Duo w wr p g m r L L X) (hb : Below w.heap.size w wr) : Solo w wr p g m L X := by
  obtain ⟨V, F, G, h1, h2, h3, h4⟩ := h
  exact ⟨⟨V, F, h1, fun b e => ⟨(h3 b e).1, (h3 b e).2.1, (h3 b e).2.2.2⟩⟩, hb⟩
end
theorem solo_new {w w' : World} {p g m : Nat} (hk : Kt w' p g m [] (fun _ => .slice none 0 0) (fun b => w.heap.size ≤ b)) (hb : Below w.heap.size w w') : Solo w w' p g m [] (fun _ => False) :=
  ⟨⟨_, _, hk.tight, fun b hb => ⟨hb.1, hb.2, fun e => e⟩⟩, hb⟩
end Go.Proofs.Ytkmmpagflbnenaa.Kin

/- The program's list and the document's beside one another. -/
import Derived.Test.YtepjhdppmegloaaCaps6
namespace Go.Proofs.Ytepjhdppmegloaa.Caps
open Go.RowKit Go.Proofs.Ytepjhdppmegloaa.Mem

/-- The two lists stand, each in memory of its own, none of it in X; A is all of theirs. -/
def Feet (A : Nat → Prop) (w : World) (p r : Nat) (most : Int) (l m : List Cap) : Prop :=
  ∃ F G, ListAt 58 w p most l F ∧ ListAt 60 w r most m G ∧ (∀ k, F k → ¬ G k) ∧ (∀ k, A k ↔ F k ∨ G k) ∧ ∀ k, A k → k < w.heap.size
def Duo (X : Nat → Prop) (w : World) (p r : Nat) (most : Int) (l m : List Cap) : Prop :=
  ∃ A, Feet A w p r most l m ∧ (∀ k, A k → ¬ X k) ∧ ∀ k, X k → k < w.heap.size

theorem Feet.kept {A Y : Nat → Prop} {w w' : World} {p r : Nat} {most : Int} {l m : List Cap} (h : Feet A w p r most l m) (hk : Away Y w w') (hY : ∀ k, A k → Y k) : Feet A w' p r most l m := by
  obtain ⟨F, G, h1, h2, h3, h4, h5⟩ := h
  exact ⟨F, G, h1.kept hk (fun k hf hn => hn (hY k ((h4 k).2 (.inl hf)))), h2.kept hk (fun k hf hn => hn (hY k ((h4 k).2 (.inr hf)))), h3, h4, fun k ha => Nat.lt_of_lt_of_le (h5 k ha) hk.size⟩
theorem Duo.kept {X Y : Nat → Prop} {w w' : World} {p r : Nat} {most : Int} {l m : List Cap} (h : Duo X w p r most l m) (hk : Away Y w w') (hY : ∀ k, ¬ X k → k < w.heap.size → Y k) : Duo X w' p r most l m := by
  obtain ⟨A, h1, h2, h3⟩ := h
  exact ⟨A, h1.kept hk (fun k ha => hY k (h2 k ha) (by obtain ⟨_, _, _, _, _, _, h5⟩ := h1; exact h5 k ha)), h2, fun k hx => Nat.lt_of_lt_of_le (h3 k hx) hk.size⟩
theorem Duo.below {X : Nat → Prop} {w w' : World} {p r : Nat} {most : Int} {l m : List Cap} (h : Duo X w p r most l m) (hb : Below w.heap.size w w') : Duo X w' p r most l m :=
  h.kept (Y := fun _ => True) (Away.of_below hb) (fun _ _ _ => trivial)
theorem Duo.left {X : Nat → Prop} {w : World} {p r : Nat} {most : Int} {l m : List Cap} (h : Duo X w p r most l m) :
    ∃ Y, One 58 Y w p most l ∧ ∀ w' l', One 58 Y w' p most l' → Away Y w w' → Duo X w' p r most l' m ∧ Away X w w' := by
  obtain ⟨A, ⟨F, G, h1, h2, h3, h4, h5⟩, h6, h7⟩ := h
  refine ⟨fun k => X k ∨ G k, ⟨F, h1, fun k hf => ⟨fun hx => hx.elim (h6 k ((h4 k).2 (.inl hf))) (h3 k hf), h5 k ((h4 k).2 (.inl hf))⟩, fun k hx => hx.elim (h7 k) (fun hg => h5 k ((h4 k).2 (.inr hg)))⟩, ?_⟩
  rintro w' l' ⟨F', k1, k2, k3⟩ ha
  have hG := h2.kept ha (fun k hg hn => hn (.inr hg))
  refine ⟨⟨fun k => F' k ∨ G k, ⟨F', G, k1, hG, fun k hf hg => (k2 k hf).1 (.inr hg), fun k => Iff.rfl, fun k hk => hk.elim (fun hf => (k2 k hf).2) (fun hg => k3 k (.inr hg))⟩, fun k hk hx => hk.elim (fun hf => (k2 k hf).1 (.inl hx)) (fun hg => h6 k ((h4 k).2 (.inr hg)) hx), fun k hx => k3 k (.inl hx)⟩, ha.mono (fun k hx => .inl hx)⟩
theorem Duo.right {X : Nat → Prop} {w : World} {p r : Nat} {most : Int} {l m : List Cap} (h : Duo X w p r most l m) :
    ∃ Y, One 60 Y w r most m ∧ ∀ w' m', One 60 Y w' r most m' → Away Y w w' → Duo X w' p r most l m' ∧ Away X w w' := by
  obtain ⟨A, ⟨F, G, h1, h2, h3, h4, h5⟩, h6, h7⟩ := h
  refine ⟨fun k => X k ∨ F k, ⟨G, h2, fun k hg => ⟨fun hx => hx.elim (h6 k ((h4 k).2 (.inr hg))) (fun hf => h3 k hf hg), h5 k ((h4 k).2 (.inr hg))⟩, fun k hx => hx.elim (h7 k) (fun hf => h5 k ((h4 k).2 (.inl hf)))⟩, ?_⟩
  rintro w' m' ⟨G', k1, k2, k3⟩ ha
  have hF := h1.kept ha (fun k hf hn => hn (.inr hf))
  refine ⟨⟨fun k => F k ∨ G' k, ⟨F, G', hF, k1, fun k hf hg => (k2 k hg).1 (.inr hf), fun k => Iff.rfl, fun k hk => hk.elim (fun hf => k3 k (.inr hf)) (fun hg => (k2 k hg).2)⟩, fun k hk hx => hk.elim (fun hf => h6 k ((h4 k).2 (.inl hf)) hx) (fun hg => (k2 k hg).1 (.inl hx)), fun k hx => k3 k (.inl hx)⟩, ha.mono (fun k hx => .inl hx)⟩

variable {X : Nat → Prop} {w : World} {p r : Nat} {most : Int} {l m : List Cap}
theorem duo_add (h : Duo X w p r most l m) (x : Cap) (hb : l.length ≤ 1000000) : Calls Try.prog 11 #[.pointer (some ⟨p, 0, none⟩), capV x] w fun e w' => e = .returned (.int .i64 (addE most l)) ∧ Duo X w' p r most (addL most l x) m ∧ Away X w w' := by
  obtain ⟨Y, h1, h2⟩ := h.left
  refine (one_add h1 x hb).mono ?_
  rintro e w' ⟨rfl, a, b⟩
  exact ⟨rfl, h2 _ _ a b⟩
theorem duo_refAdd (h : Duo X w p r most l m) (x : Cap) (hb : m.length ≤ 1000000) (hm : (m.length : Int) ≤ most) : Calls Try.prog 19 #[.pointer (some ⟨r, 0, none⟩), capV x] w fun e w' => e = .returned (.int .i64 (addE most m)) ∧ Duo X w' p r most l (addL most m x) ∧ Away X w w' := by
  obtain ⟨Y, h1, h2⟩ := h.right
  refine (one_refAdd h1 x hb hm).mono ?_
  rintro e w' ⟨rfl, a, b⟩
  exact ⟨rfl, h2 _ _ a b⟩
theorem duo_remove (h : Duo X w p r most l m) (i : Int) : Calls Try.prog 12 #[.pointer (some ⟨p, 0, none⟩), .int .i64 i] w fun e w' => e = .returned (remV l i) ∧ Duo X w' p r most (remL l i) m ∧ Away X w w' := by
  obtain ⟨Y, h1, h2⟩ := h.left
  refine (one_remove h1 i).mono ?_
  rintro e w' ⟨rfl, a, b⟩
  exact ⟨rfl, h2 _ _ a b⟩
theorem duo_refRemove (h : Duo X w p r most l m) (i : Int) (hb : m.length ≤ 1000000) : Calls Try.prog 20 #[.pointer (some ⟨r, 0, none⟩), .int .i64 i] w fun e w' => e = .returned (remV m i) ∧ Duo X w' p r most l (remL m i) ∧ Away X w w' := by
  obtain ⟨Y, h1, h2⟩ := h.right
  refine (one_refRemove h1 i hb).mono ?_
  rintro e w' ⟨rfl, a, b⟩
  exact ⟨rfl, h2 _ _ a b⟩
theorem duo_at (h : Duo X w p r most l m) (i : Int) : Calls Try.prog 16 #[.pointer (some ⟨p, 0, none⟩), .int .i64 i] w fun e w' => e = .returned (atV l i) ∧ Below w.heap.size w w' := by
  obtain ⟨Y, h1, _⟩ := h.left
  exact one_at h1 i
theorem duo_refAt (h : Duo X w p r most l m) (i : Int) : Calls Try.prog 21 #[.pointer (some ⟨r, 0, none⟩), .int .i64 i] w fun e w' => e = .returned (atV m i) ∧ Below w.heap.size w w' := by
  obtain ⟨Y, h1, _⟩ := h.right
  exact one_refAt h1 i
theorem duo_len (h : Duo X w p r most l m) : Calls Try.prog 13 #[.pointer (some ⟨p, 0, none⟩)] w fun e w' => e = .returned (.int .i64 l.length) ∧ w = w' := by
  obtain ⟨Y, h1, _⟩ := h.left
  exact one_len h1
theorem duo_all (h : Duo X w p r most l m) (hb : l.length ≤ 1000000) : Calls Try.prog 15 #[.pointer (some ⟨p, 0, none⟩)] w (GivesCaps l w) := by
  obtain ⟨Y, h1, _⟩ := h.left
  exact one_all h1 hb
theorem duo_pick (h : Duo X w p r most l m) (u : Value) (ps : List Int) (hu : ReadsInts w u ps) (hm : most ≤ 32) : Calls Try.prog 17 #[.pointer (some ⟨p, 0, none⟩), u] w (Picks most l ps w) := by
  obtain ⟨Y, h1, _⟩ := h.left
  exact one_pick h1 u ps hu hm
theorem duo_refPick (h : Duo X w p r most l m) (u : Value) (ps : List Int) (hu : ReadsInts w u ps) (hb : ps.length ≤ 2000000) : Calls Try.prog 22 #[.pointer (some ⟨r, 0, none⟩), u] w (Picks most m ps w) := by
  obtain ⟨Y, h1, _⟩ := h.right
  exact one_refPick h1 u ps hu hb
end Go.Proofs.Ytepjhdppmegloaa.Caps

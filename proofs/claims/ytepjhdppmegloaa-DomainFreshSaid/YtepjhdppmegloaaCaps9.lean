/- Two pairs of lists beside one another, each of which may be missing. -/
import Derived.Test.YtepjhdppmegloaaCaps8
import Derived.Test.YtepjhdppmegloaaOpen
namespace Go.Proofs.Ytepjhdppmegloaa.Caps
open Go.RowKit Go.Proofs.Ytepjhdppmegloaa.Mem

def FeetO (on : Bool) (A : Nat → Prop) (w : World) (p r : Nat) (most : Int) (l : List Cap) : Prop :=
  match on with
  | true => Feet A w p r most l l ∧ (l.length : Int) ≤ most ∧ most ≤ 32
  | false => ∀ k, ¬ A k
theorem FeetO.kept {on : Bool} {A Y : Nat → Prop} {w w' : World} {p r : Nat} {most : Int} {l : List Cap} (h : FeetO on A w p r most l) (hk : Away Y w w') (hY : ∀ k, A k → Y k) : FeetO on A w' p r most l := by
  cases on
  · exact h
  · exact ⟨h.1.kept hk hY, h.2⟩
theorem FeetO.lt {on : Bool} {A : Nat → Prop} {w : World} {p r : Nat} {most : Int} {l : List Cap} (h : FeetO on A w p r most l) (k : Nat) (hk : A k) : k < w.heap.size := by
  cases on
  · exact absurd hk (h k)
  · obtain ⟨⟨_, _, _, _, _, _, h5⟩, _⟩ := h
    exact h5 k hk
/-- Both pairs, each in memory of its own, none of it in X. -/
def Quad (X : Nat → Prop) (w : World) (on : Bool) (p r : Nat) (a : Int) (l : List Cap) (on' : Bool) (q s : Nat) (b : Int) (m : List Cap) : Prop :=
  ∃ A B, FeetO on A w p r a l ∧ FeetO on' B w q s b m ∧ (∀ k, A k → ¬ B k) ∧ (∀ k, A k → ¬ X k) ∧ (∀ k, B k → ¬ X k) ∧ ∀ k, X k → k < w.heap.size
section
variable {X Y : Nat → Prop} {w w' : World} {on on' : Bool} {p r q s : Nat} {a b : Int} {l m : List Cap}
theorem Quad.swap (h : Quad X w on p r a l on' q s b m) : Quad X w on' q s b m on p r a l := by
  obtain ⟨A, B, h1, h2, h3, h4, h5, h6⟩ := h
  exact ⟨B, A, h2, h1, fun k hb ha => h3 k ha hb, h5, h4, h6⟩
theorem Quad.kept (h : Quad X w on p r a l on' q s b m) (hk : Away Y w w') (hY : ∀ k, ¬ X k → k < w.heap.size → Y k) : Quad X w' on p r a l on' q s b m := by
  obtain ⟨A, B, h1, h2, h3, h4, h5, h6⟩ := h
  exact ⟨A, B, h1.kept hk (fun k hx => hY k (h4 k hx) (h1.lt k hx)), h2.kept hk (fun k hx => hY k (h5 k hx) (h2.lt k hx)), h3, h4, h5, fun k hx => Nat.lt_of_lt_of_le (h6 k hx) hk.size⟩
theorem Quad.below (h : Quad X w on p r a l on' q s b m) (hb : Below w.heap.size w w') : Quad X w' on p r a l on' q s b m :=
  h.kept (Y := fun _ => True) (Away.of_below hb) (fun _ _ _ => trivial)
theorem Quad.more (h : Quad X w on p r a l on' q s b m) (hY : ∀ k, Y k → X k ∨ w.heap.size ≤ k) (hk : Below w.heap.size w w') (hB : ∀ k, Y k → k < w'.heap.size) : Quad Y w' on p r a l on' q s b m := by
  obtain ⟨A, B, h1, h2, h3, h4, h5, h6⟩ := h.below hk
  obtain ⟨A0, B0, g1, g2, g3, g4, g5, g6⟩ := h
  exact ⟨A0, B0, g1.kept (Y := fun _ => True) (Away.of_below hk) (fun _ _ => trivial), g2.kept (Y := fun _ => True) (Away.of_below hk) (fun _ _ => trivial), g3, fun k ha hy => (hY k hy).elim (g4 k ha) (fun hl => by have := g1.lt k ha; omega), fun k ha hy => (hY k hy).elim (g5 k ha) (fun hl => by have := g2.lt k ha; omega), hB⟩
theorem quad_step (h : Quad X w true p r a l on' q s b m) (sb : Bool) (k : Int) (x : Cap) (n : Int) (u : Value) (ps : List Int) (hu : ReadsInts w u ps) (hps : ps.length ≤ 2000000) :
    Calls Try.prog 9 #[pairV p r, stepV sb k x n u] w fun e w' => e = .returned (.bool true) ∧ ∃ l', Quad X w' true p r a l' on' q s b m ∧ Away X w w' := by
  obtain ⟨A, B, ⟨h1, h7, h8⟩, h2, h3, h4, h5, h6⟩ := h
  have hd : Duo (fun k => X k ∨ B k) w p r a l l := ⟨A, h1, fun k ha hx => hx.elim (h4 k ha) (h3 k ha), fun k hx => hx.elim (h6 k) (h2.lt k)⟩
  refine (step_any _ w p r a l sb x n u hd h7 h8 k ps hu hps).mono ?_
  rintro e w' ⟨rfl, l', g1, ⟨A', g2, g3, g4⟩, g5⟩
  exact ⟨rfl, l', ⟨A', B, ⟨g2, g1, h8⟩, h2.kept g5 (fun k hb => .inr hb), fun k ha hb => g3 k ha (.inr hb), fun k ha hx => g3 k ha (.inl hx), h5, fun k hx => g4 k (.inl hx)⟩, g5.mono (fun k hx => .inl hx)⟩
end
@[reducible] def ptrO : Bool → Nat → Value
  | true, p => .pointer (some ⟨p, 0, none⟩)
  | false, _ => .pointer none
/-- What the script holds: each step's cells, and its places. -/
structure Step where
  second : Bool
  kind : Int
  c : Cap
  n : Int
  u : Value
  ps : List Int
def Step.cells (s : Step) : List Value := [.bool s.second, .int .i64 s.kind, .int .i64 s.c.obj, .int .u64 s.c.hi, .int .u64 s.c.lo, .int .i64 s.n, s.u]
def ReadsSteps (w : World) (v : Value) (l : List Step) : Prop :=
  Open.Lies w 7 v (l.map Step.cells) ∧ ∀ s ∈ l, ReadsInts w s.u s.ps ∧ s.ps.length ≤ 2000000
end Go.Proofs.Ytepjhdppmegloaa.Caps

/- forest: the two forests behind a script. Own text; Ytkmmpagflbnenaa and the numbers between @..@ are the seat's. -/
import Derived.Test.YtkmmpagflbnenaaWaI
namespace Go.Proofs.Ytkmmpagflbnenaa.Kin
open Go.RowKit Go.Proofs.Ytkmmpagflbnenaa.Mem
set_option linter.unusedVariables false
def doE (m : Nat) (L : List (Int × Int)) (k q n : Int) : Int := if k = 1 then rootE m L n else if k = 2 then childE m L q n else if k = 3 then cutE L n else 0
def doL (m : Nat) (L : List (Int × Int)) (k q n : Int) : List (Int × Int) := if k = 1 then rootL m L n else if k = 2 then childL m L q n else if k = 3 then cutL L n else L
theorem doE_rng (m : Nat) (L : List (Int × Int)) (k q n : Int) : 0 ≤ doE m L k q n ∧ doE m L k q n ≤ 20 := by
  unfold doE rootE childE cutE
  repeat' split
  all_goals omega
/-- Calls in memory. -/
def opL (x : Int × Int × Int) : List Value := [.int .i64 x.1, .int .i64 x.2.1, .int .i64 x.2.2]
def ReadsOps (w : World) (v : Value) (os : List (Int × Int × Int)) : Prop :=
  ∃ A c, v = .slice A os.length c ∧ os.length ≤ c ∧ c ≤ maxLen ∧ (0 < os.length → ∃ g o, A = some ⟨g, o, none⟩ ∧ ∀ i x, os[i]? = some x → ∀ j u, (opL x)[j]? = some u → w.cell? ⟨g, o + i * 3 + j, none⟩ = some u)
/-- Two forests beside one another, both of them new; the program's may be a call ahead; neither touches X. -/
def Duo (w wr : World) (p g m r : Nat) (L L' : List (Int × Int)) (X : Nat → Prop) : Prop :=
  ∃ V F G, Kt wr p g m L' V F ∧ Rg wr r m L G ∧ (∀ b, F b → w.heap.size ≤ b ∧ b < wr.heap.size ∧ ¬ G b ∧ ¬ X b) ∧ (∀ b, G b → w.heap.size ≤ b ∧ b < wr.heap.size ∧ ¬ X b)
section
variable {w wr w' : World} {p g m r : Nat} {L L' : List (Int × Int)} {X Y : Nat → Prop}
theorem Duo.below (h : Duo w wr p g m r L L' X) (hb : Below wr.heap.size wr w') : Duo w w' p g m r L L' X := by
  obtain ⟨V, F, G, h1, h2, h3, h4⟩ := h
  have := hb.size
  exact ⟨V, F, G, h1.below hb, h2.below hb, fun b hb' => ⟨(h3 b hb').1, Nat.lt_of_lt_of_le (h3 b hb').2.1 this, (h3 b hb').2.2⟩, fun b hb' => ⟨(h4 b hb').1, Nat.lt_of_lt_of_le (h4 b hb').2.1 this, (h4 b hb').2.2⟩⟩
theorem Duo.free (h : Duo w wr p g m r L L' X) (hY : ∀ b, Y b → wr.heap.size ≤ b) : Duo w wr p g m r L L' Y := by
  obtain ⟨V, F, G, h1, h2, h3, h4⟩ := h
  exact ⟨V, F, G, h1, h2, fun b hb' => ⟨(h3 b hb').1, (h3 b hb').2.1, (h3 b hb').2.2.1, fun e => by have := hY b e; have := (h3 b hb').2.1; omega⟩, fun b hb' => ⟨(h4 b hb').1, (h4 b hb').2.1, fun e => by have := hY b e; have := (h4 b hb').2.1; omega⟩⟩
theorem Duo.hm (h : Duo w wr p g m r L L' X) : m ≤ 1024 := by
  obtain ⟨V, F, G, h1, _⟩ := h
  exact h1.hm
theorem Duo.left {f : Nat} {ar : Array Value} {E : Ending} {L1 : List (Int × Int)} (h : Duo w wr p g m r L L' X) (hX : ∀ b, X b → b < wr.heap.size)
    (hc : ∀ V F, Kt wr p g m L' V F → Calls Try.prog f ar wr fun e w' => e = E ∧ Kept F wr w' ∧ ∃ V', Kt w' p g m L1 V' (fun b => F b ∨ wr.heap.size ≤ b)) :
    Calls Try.prog f ar wr fun e w' => e = E ∧ Duo w w' p g m r L L1 X ∧ Kept (fun b => w.heap.size ≤ b ∧ ¬ X b) wr w' := by
  obtain ⟨V, F, G, h1, h2, h3, h4⟩ := h
  refine (hc V F h1).mono ?_
  rintro e w' ⟨rfl, hk, V', h5⟩
  refine ⟨rfl, ⟨V', _, G, h5.tight, h2.kept hk (fun b hb hf => (h3 b hf).2.2.1 hb), fun b hb => ?_, fun b hb => ⟨(h4 b hb).1, Nat.lt_of_lt_of_le (h4 b hb).2.1 hk.size, (h4 b hb).2.2⟩⟩, hk.mono (fun b hb => ⟨(h3 b hb).1, (h3 b hb).2.2.2⟩)⟩
  obtain ⟨h6, h7⟩ := hb
  rcases h6 with h6 | h6
  · exact ⟨(h3 b h6).1, h7, (h3 b h6).2.2⟩
  · have hw : w.heap.size ≤ wr.heap.size := Nat.le_of_lt (Nat.lt_of_le_of_lt (h3 p h1.kg.fp).1 (h3 p h1.kg.fp).2.1)
    exact ⟨Nat.le_trans hw h6, h7, fun hg => by have := (h4 b hg).2.1; omega, fun hx => by have := hX b hx; omega⟩
theorem Duo.right {f : Nat} {ar : Array Value} {E : Ending} {L1 : List (Int × Int)} (h : Duo w wr p g m r L L' X) (hX : ∀ b, X b → b < wr.heap.size)
    (hc : ∀ G, Rg wr r m L G → Calls Try.prog f ar wr fun e w' => e = E ∧ Kept G wr w' ∧ Rg w' r m L1 (fun b => G b ∨ wr.heap.size ≤ b)) :
    Calls Try.prog f ar wr fun e w' => e = E ∧ Duo w w' p g m r L1 L' X ∧ Kept (fun b => w.heap.size ≤ b ∧ ¬ X b) wr w' := by
  obtain ⟨V, F, G, h1, h2, h3, h4⟩ := h
  refine (hc G h2).mono ?_
  rintro e w' ⟨rfl, hk, h5⟩
  refine ⟨rfl, ⟨V, F, _, h1.kept hk (fun b hb hf => (h3 b hb).2.2.1 hf), h5.tight, fun b hb => ⟨(h3 b hb).1, Nat.lt_of_lt_of_le (h3 b hb).2.1 hk.size, ?_, (h3 b hb).2.2.2⟩, fun b hb => ?_⟩, hk.mono (fun b hb => ⟨(h4 b hb).1, (h4 b hb).2.2⟩)⟩
  · rintro ⟨h6 | h6, _⟩
    · exact (h3 b hb).2.2.1 h6
    · have := (h3 b hb).2.1; omega
  · obtain ⟨h6, h7⟩ := hb
    rcases h6 with h6 | h6
    · exact ⟨(h4 b h6).1, h7, (h4 b h6).2.2⟩
    · have hw : w.heap.size ≤ wr.heap.size := Nat.le_of_lt (Nat.lt_of_le_of_lt (h3 p h1.kg.fp).1 (h3 p h1.kg.fp).2.1)
      exact ⟨Nat.le_trans hw h6, h7, fun hx => by have := hX b hx; omega⟩
theorem Duo.asks (h : Duo w wr p g m r L L X) (a n : Int) : Calls Try.prog 9 #[.pointer (some ⟨p, 0, none⟩), .pointer (some ⟨r, 0, none⟩), .int .i64 a, .int .i64 n] wr fun e w' => e = .returned (.bool true) ∧ Below wr.heap.size wr w' := by
  obtain ⟨V, F, G, h1, h2, _, _⟩ := h
  exact asks_any wr p g m r L V F G h1 h2 a n
end
/-- The forest behind a script. -/
def runL (m : Nat) (os : List (Int × Int × Int)) : List (Int × Int) := os.foldl (fun L x => doL m L x.1 x.2.1 x.2.2) []
end Go.Proofs.Ytkmmpagflbnenaa.Kin

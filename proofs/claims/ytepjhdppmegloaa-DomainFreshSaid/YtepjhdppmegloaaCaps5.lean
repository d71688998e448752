/- The two lists beside one another, and what must not be touched: each method of each list, in one form. -/
import Derived.Test.YtepjhdppmegloaaCaps4
namespace Go.Proofs.Ytepjhdppmegloaa.Caps
open Go.RowKit Go.Proofs.Ytepjhdppmegloaa.Mem

/-- All but X may have changed. -/
def Away (X : Nat → Prop) (w w' : World) : Prop := Kept (fun k => ¬ X k) w w'
theorem Away.refl (X : Nat → Prop) (w : World) : Away X w w := Kept.refl _ _
theorem Away.of_below {X : Nat → Prop} {w w' : World} (h : Below w.heap.size w w') : Away X w w' := Kept.of_below h
theorem Away.row {X : Nat → Prop} {w w' : World} (h : Away X w w') {k : Nat} {o : Obj} (hk : w.heap[k]? = some o) (hx : X k) : w'.heap[k]? = some o := Kept.row h hk (fun hn => hn hx)
theorem Away.trans {X : Nat → Prop} {a b c : World} (h : Away X a b) (k : Away X b c) : Away X a c := Kept.trans h k (fun _ hx => .inl hx)
theorem Away.mono {X Y : Nat → Prop} {a b : World} (h : Away X a b) (hY : ∀ k, Y k → X k) : Away Y a b := Kept.mono h (fun k hn hy => hn (hY k hy))
theorem Away.below {B : Nat} {X : Nat → Prop} {a b : World} (h : Away X a b) (hX : ∀ k, k < B → X k) (hB : B ≤ a.heap.size) : Below B a b :=
  Kept.below h (fun k hn => Nat.le_of_not_lt (fun hlt => hn (hX k hlt))) hB

/-- One list (T: the type of its struct), none of whose memory is in X. -/
def One (T : Nat) (X : Nat → Prop) (w : World) (p : Nat) (most : Int) (l : List Cap) : Prop :=
  ∃ F, ListAt T w p most l F ∧ (∀ k, F k → ¬ X k ∧ k < w.heap.size) ∧ ∀ k, X k → k < w.heap.size
theorem ListAt.bound {T : Nat} {w : World} {p : Nat} {most : Int} {l : List Cap} {F : Nat → Prop} (h : ListAt T w p most l F) : ListAt T w p most l (fun k => F k ∧ k < w.heap.size) := by
  obtain ⟨v, h1, h2, h3, h4⟩ := h
  exact ⟨v, h1, h2, ⟨h3, lt_of_row h1⟩, fun k hk => ⟨⟨(h4 k hk).1, own_lt h2 k hk⟩, (h4 k hk).2⟩⟩
theorem One.kept {T : Nat} {X Y : Nat → Prop} {w w' : World} {p : Nat} {most : Int} {l : List Cap} (h : One T X w p most l) (hk : Away Y w w') (hY : ∀ k, ¬ X k → k < w.heap.size → Y k) : One T X w' p most l := by
  obtain ⟨F, h1, h2, h3⟩ := h
  exact ⟨F, h1.kept hk (fun k hf hn => hn (hY k (h2 k hf).1 (h2 k hf).2)), fun k hf => ⟨(h2 k hf).1, Nat.lt_of_lt_of_le (h2 k hf).2 hk.size⟩, fun k hx => Nat.lt_of_lt_of_le (h3 k hx) hk.size⟩
theorem One.below {T : Nat} {X : Nat → Prop} {w w' : World} {p : Nat} {most : Int} {l : List Cap} (h : One T X w p most l) (hb : Below w.heap.size w w') : One T X w' p most l :=
  h.kept (Y := fun _ => True) (Away.of_below hb) (fun _ _ _ => trivial)
theorem One.now {T : Nat} {X : Nat → Prop} {w w' : World} {p : Nat} {most : Int} {l' : List Cap} {F : Nat → Prop} (h2 : ∀ k, F k → ¬ X k ∧ k < w.heap.size) (h3 : ∀ k, X k → k < w.heap.size) (hn : Now T w p most F l' w') :
    One T X w' p most l' ∧ Away X w w' := by
  obtain ⟨F', h4, h5, h6⟩ := hn
  refine ⟨⟨_, h4.bound, fun k hk => ⟨fun hx => ?_, hk.2⟩, fun k hx => Nat.lt_of_lt_of_le (h3 k hx) h6.size⟩, h6.mono (fun k hk => (h2 k hk).1)⟩
  rcases h5 k hk.1 with h | h
  · exact (h2 k h).1 hx
  · have := h3 k hx; omega
theorem One.more {T : Nat} {X Y : Nat → Prop} {w : World} {p : Nat} {most : Int} {l : List Cap} (h : One T X w p most l) (hY : ∀ k, Y k → X k ∨ w.heap.size ≤ k) (hB : ∀ k, Y k → k < w.heap.size) : One T Y w p most l := by
  obtain ⟨F, h1, h2, h3⟩ := h
  exact ⟨F, h1, fun k hf => ⟨fun hy => (hY k hy).elim (h2 k hf).1 (fun hl => by have := hB k hy; omega), (h2 k hf).2⟩, hB⟩

def addE (most : Int) (l : List Cap) : Int := if most ≤ (l.length : Int) then 14 else 0
def addL (most : Int) (l : List Cap) (x : Cap) : List Cap := if most ≤ (l.length : Int) then l else l ++ [x]
def remV (l : List Cap) (i : Int) : Value := if hasB l i then .tuple #[capV (l.getD i.toNat z0), .int .i64 0] else .tuple #[capV z0, .int .i64 15]
def remL (l : List Cap) (i : Int) : List Cap := if hasB l i then l.take i.toNat ++ l.drop (i.toNat + 1) else l

section
variable {X : Nat → Prop} {w : World} {p : Nat} {most : Int} {l : List Cap}
theorem one_add (h : One 58 X w p most l) (x : Cap) (hb : l.length ≤ 1000000) : Calls Try.prog 11 #[.pointer (some ⟨p, 0, none⟩), capV x] w fun e w' => e = .returned (.int .i64 (addE most l)) ∧ One 58 X w' p most (addL most l x) ∧ Away X w w' := by
  obtain ⟨F, h1, h2, h3⟩ := h
  unfold addE addL
  by_cases hf : most ≤ (l.length : Int)
  · rw [if_pos hf, if_pos hf]
    exact (add_full w p most l F x h1 hf).mono fun _ _ ⟨he, hn⟩ => ⟨he, One.now h2 h3 hn⟩
  · rw [if_neg hf, if_neg hf]
    exact (add_room w p most l F x h1 (by omega) hb).mono fun _ _ ⟨he, hn⟩ => ⟨he, One.now h2 h3 hn⟩
theorem one_refAdd (h : One 60 X w p most l) (x : Cap) (hb : l.length ≤ 1000000) (hm : (l.length : Int) ≤ most) : Calls Try.prog 19 #[.pointer (some ⟨p, 0, none⟩), capV x] w fun e w' => e = .returned (.int .i64 (addE most l)) ∧ One 60 X w' p most (addL most l x) ∧ Away X w w' := by
  obtain ⟨F, h1, h2, h3⟩ := h
  unfold addE addL
  by_cases hf : most ≤ (l.length : Int)
  · rw [if_pos hf, if_pos hf]
    exact (refAdd_full w p most l F x h1 (by omega)).mono fun _ _ ⟨he, hn⟩ => ⟨he, One.now h2 h3 hn⟩
  · rw [if_neg hf, if_neg hf]
    exact (refAdd_room w p most l F x h1 (by omega) hb).mono fun _ _ ⟨he, hn⟩ => ⟨he, One.now h2 h3 hn⟩
theorem one_remove (h : One 58 X w p most l) (i : Int) : Calls Try.prog 12 #[.pointer (some ⟨p, 0, none⟩), .int .i64 i] w fun e w' => e = .returned (remV l i) ∧ One 58 X w' p most (remL l i) ∧ Away X w w' := by
  obtain ⟨F, h1, h2, h3⟩ := h
  unfold remV remL
  cases hi : hasB l i with
  | true => exact (remove_in w p most l F i h1 hi).mono fun _ _ ⟨he, hn⟩ => ⟨he, One.now h2 h3 hn⟩
  | false => exact (remove_out w p most l F i h1 hi).mono fun _ _ ⟨he, hn⟩ => ⟨he, One.now h2 h3 hn⟩
theorem one_refRemove (h : One 60 X w p most l) (i : Int) (hb : l.length ≤ 1000000) : Calls Try.prog 20 #[.pointer (some ⟨p, 0, none⟩), .int .i64 i] w fun e w' => e = .returned (remV l i) ∧ One 60 X w' p most (remL l i) ∧ Away X w w' := by
  obtain ⟨F, h1, h2, h3⟩ := h
  unfold remV remL
  cases hi : hasB l i with
  | true => exact (refRemove_in w p most l F i h1 hi hb).mono fun _ _ ⟨he, hn⟩ => ⟨he, One.now h2 h3 hn⟩
  | false => exact (refRemove_out w p most l F i h1 hi).mono fun _ _ ⟨he, hn⟩ => ⟨he, One.now h2 h3 hn⟩
theorem one_at (h : One 58 X w p most l) (i : Int) : Calls Try.prog 16 #[.pointer (some ⟨p, 0, none⟩), .int .i64 i] w fun e w' => e = .returned (atV l i) ∧ Below w.heap.size w w' := by
  obtain ⟨F, h1, h2, h3⟩ := h
  unfold atV
  cases hi : hasB l i with
  | true => exact at_in (T := 58) w p most l F i h1 hi
  | false => exact at_out (T := 58) w p most l F i h1 hi
theorem one_refAt (h : One 60 X w p most l) (i : Int) : Calls Try.prog 21 #[.pointer (some ⟨p, 0, none⟩), .int .i64 i] w fun e w' => e = .returned (atV l i) ∧ Below w.heap.size w w' := by
  obtain ⟨F, h1, h2, h3⟩ := h
  unfold atV
  cases hi : hasB l i with
  | true => exact refAt_in (T := 60) w p most l F i h1 hi
  | false => exact refAt_out (T := 60) w p most l F i h1 hi
theorem one_len (h : One 58 X w p most l) : Calls Try.prog 13 #[.pointer (some ⟨p, 0, none⟩)] w fun e w' => e = .returned (.int .i64 l.length) ∧ w = w' := by
  obtain ⟨F, h1, _, _⟩ := h
  exact len_any (T := 58) w p most l F h1
theorem one_all (h : One 58 X w p most l) (hb : l.length ≤ 1000000) : Calls Try.prog 15 #[.pointer (some ⟨p, 0, none⟩)] w (GivesCaps l w) := by
  obtain ⟨F, h1, _, _⟩ := h
  exact all_any (T := 58) w p most l F h1 hb
theorem one_pick (h : One 58 X w p most l) (u : Value) (ps : List Int) (hu : ReadsInts w u ps) (hm : most ≤ 32) : Calls Try.prog 17 #[.pointer (some ⟨p, 0, none⟩), u] w (Picks most l ps w) := by
  obtain ⟨F, h1, _, _⟩ := h
  exact pick_any w p most l F u ps h1 hu hm
theorem one_refPick (h : One 60 X w p most l) (u : Value) (ps : List Int) (hu : ReadsInts w u ps) (hb : ps.length ≤ 2000000) : Calls Try.prog 22 #[.pointer (some ⟨p, 0, none⟩), u] w (Picks most l ps w) := by
  obtain ⟨F, h1, _, _⟩ := h
  exact refPick_any w p most l F u ps h1 hu hb
/-- A list that was just made. -/
theorem one_made {T : Nat} (hX : ∀ k, X k → k < w.heap.size) : One T X (w.alloc (.cells #[.int .i64 most, .slice none 0 0] T)) w.heap.size most [] := by
  refine ⟨fun k => k = w.heap.size, ⟨.slice none 0 0, heap_alloc_new w _, World.ownsRow_nil _ _ _ _, rfl, fun k hk => by simp [Value.ownBlock] at hk⟩, fun k hk => ⟨fun hx => ?_, by simp [hk]⟩, fun k hx => Nat.lt_of_lt_of_le (hX k hx) (by simp)⟩
  have := hX k hx; omega
end

end Go.Proofs.Ytepjhdppmegloaa.Caps

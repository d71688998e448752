/- One forest alone, and what stays beside it; copied; last. Own text; Ythemibhajlgcdaa and the numbers between @..@ are the seat's. -/
import Derived.Test.YthemibhajlgcdaaKinV
namespace Go.Proofs.Ythemibhajlgcdaa.Kin
open Go.RowKit Go.Proofs.Ythemibhajlgcdaa.Mem
set_option linter.unusedVariables false
/-- A forest, new since w; it does not touch X. -/
def Solo (w wr : World) (p g m : Nat) (L : List (Int × Int)) (X : Nat → Prop) : Prop :=
  (∃ V F, Kt wr p g m L V F ∧ (∀ b, F b → w.heap.size ≤ b ∧ b < wr.heap.size ∧ ¬ X b)) ∧ Below w.heap.size w wr
section
variable {w wr w' : World} {p g m : Nat} {L L' : List (Int × Int)} {X Y : Nat → Prop}
theorem Solo.below (h : Solo w wr p g m L X) (hb : Below wr.heap.size wr w') : Solo w w' p g m L X := by
  obtain ⟨⟨V, F, h1, h2⟩, h3⟩ := h
  have := hb.size
  exact ⟨⟨V, F, h1.below hb, fun b hb' => ⟨(h2 b hb').1, Nat.lt_of_lt_of_le (h2 b hb').2.1 this, (h2 b hb').2.2⟩⟩, h3.trans (hb.mono h3.size)⟩
theorem Solo.kept {S : Nat → Prop} (h : Solo w wr p g m L X) (hk : Kept S wr w') (hX : ∀ b, S b → X b ∨ wr.heap.size ≤ b) (hS : ∀ b, S b → w.heap.size ≤ b) : Solo w w' p g m L X := by
  obtain ⟨⟨V, F, h1, h2⟩, h3⟩ := h
  have := hk.size
  exact ⟨⟨V, F, h1.kept hk (fun b hb hs => by rcases hX b hs with e | e; exact (h2 b hb).2.2 e; have := (h2 b hb).2.1; omega), fun b hb' => ⟨(h2 b hb').1, Nat.lt_of_lt_of_le (h2 b hb').2.1 this, (h2 b hb').2.2⟩⟩, h3.trans (hk.below hS h3.size)⟩
theorem Solo.free (h : Solo w wr p g m L X) (hY : ∀ b, Y b → X b ∨ wr.heap.size ≤ b ∨ b < w.heap.size) : Solo w wr p g m L Y := by
  obtain ⟨⟨V, F, h1, h2⟩, h3⟩ := h
  exact ⟨⟨V, F, h1, fun b hb' => ⟨(h2 b hb').1, (h2 b hb').2.1, fun e => by
    have h4 := h2 b hb'
    rcases hY b e with e2 | e2 | e2
    · exact h4.2.2 e2
    · omega
    · omega⟩⟩, h3⟩
theorem Solo.hm (h : Solo w wr p g m L X) : m ≤ 1024 := by
  obtain ⟨⟨V, F, h1, _⟩, _⟩ := h
  exact h1.hm
theorem Solo.inv (h : Solo w wr p g m L X) : Inv m L := by
  obtain ⟨⟨V, F, h1, _⟩, _⟩ := h
  exact h1.inv
theorem Solo.has (h : Solo w wr p g m L X) (n : Int) : Calls Try.prog 14 #[.pointer (some ⟨p, 0, none⟩), .int .i64 n] wr fun e w' => e = .returned (.bool (has L n)) ∧ wr = w' := by
  obtain ⟨⟨V, F, h1, _⟩, _⟩ := h
  exact has_any wr p g m L V F h1 n
theorem Solo.parent (h : Solo w wr p g m L X) (n : Int) : Calls Try.prog 13 #[.pointer (some ⟨p, 0, none⟩), .int .i64 n] wr fun e w' => e = .returned (.tuple #[.int .i64 (par L n), .bool (Kin.has L n)]) ∧ wr = w' := by
  obtain ⟨⟨V, F, h1, _⟩, _⟩ := h
  exact parent_any wr p g m L V F h1 n
theorem Solo.children (h : Solo w wr p g m L X) (n : Int) : Calls Try.prog 15 #[.pointer (some ⟨p, 0, none⟩), .int .i64 n] wr fun e w' => ∃ A c, e = .returned (.slice A (kids L n).length c) ∧ w'.ownsRow 0 3 1 (.slice A (kids L n).length c) (kids L n).length ((kids L n).map i64) ∧ Below wr.heap.size wr w' ∧ Fresh wr (.slice A (kids L n).length c) := by
  obtain ⟨⟨V, F, h1, _⟩, _⟩ := h
  exact children_any wr p g m L V F h1 n
theorem Solo.step (h : Solo w wr p g m L X) (hX : ∀ b, X b → b < wr.heap.size) {V : Nat → Value} {F : Nat → Prop} (h2 : ∀ b, F b → w.heap.size ≤ b ∧ b < wr.heap.size ∧ ¬ X b) (hk : Kept F wr w') (h5 : ∃ V', Kt w' p g m L' V' (fun b => F b ∨ wr.heap.size ≤ b)) : Solo w w' p g m L' X ∧ Kept (fun b => w.heap.size ≤ b ∧ ¬ X b) wr w' := by
  obtain ⟨V', h5⟩ := h5
  have h3 := h.2
  refine ⟨⟨⟨V', _, h5.tight, fun b hb => ?_⟩, h3.trans (hk.below (fun b hb => (h2 b hb).1) h3.size)⟩, hk.mono (fun b hb => ⟨(h2 b hb).1, (h2 b hb).2.2⟩)⟩
  obtain ⟨h6, h7⟩ := hb
  rcases h6 with h6 | h6
  · exact ⟨(h2 b h6).1, h7, (h2 b h6).2.2⟩
  · exact ⟨Nat.le_trans h3.size h6, h7, fun hx => by have := hX b hx; omega⟩
theorem Solo.does (h : Solo w wr p g m L X) (hX : ∀ b, X b → b < wr.heap.size) (k q n : Int) : Calls Try.prog 10 #[.pointer (some ⟨p, 0, none⟩), .agg #[.int .i64 k, .int .i64 q, .int .i64 n]] wr fun e w' => e = .returned (.int .i64 (doE m L k q n)) ∧ Solo w w' p g m (doL m L k q n) X ∧ Kept (fun b => w.heap.size ≤ b ∧ ¬ X b) wr w' := by
  obtain ⟨⟨V, F, h1, h2⟩, h3⟩ := h
  refine (does_any wr p g m L V F h1 k q n).mono ?_
  rintro e w' ⟨rfl, hk, h5⟩
  exact ⟨rfl, Solo.step (V := V) ⟨⟨V, F, h1, h2⟩, h3⟩ hX h2 hk h5⟩
theorem Solo.root (h : Solo w wr p g m L X) (hX : ∀ b, X b → b < wr.heap.size) (n : Int) : Calls Try.prog 20 #[.pointer (some ⟨p, 0, none⟩), .int .i64 n] wr fun e w' => e = .returned (.int .i64 (rootE m L n)) ∧ Solo w w' p g m (rootL m L n) X ∧ Kept (fun b => w.heap.size ≤ b ∧ ¬ X b) wr w' := by
  obtain ⟨⟨V, F, h1, h2⟩, h3⟩ := h
  refine (root_any wr p g m L V F h1 n).mono ?_
  rintro e w' ⟨rfl, hk, h5⟩
  exact ⟨rfl, Solo.step (V := V) ⟨⟨V, F, h1, h2⟩, h3⟩ hX h2 hk h5⟩
theorem Solo.child (h : Solo w wr p g m L X) (hX : ∀ b, X b → b < wr.heap.size) (q n : Int) : Calls Try.prog 21 #[.pointer (some ⟨p, 0, none⟩), .int .i64 q, .int .i64 n] wr fun e w' => e = .returned (.int .i64 (childE m L q n)) ∧ Solo w w' p g m (childL m L q n) X ∧ Kept (fun b => w.heap.size ≤ b ∧ ¬ X b) wr w' := by
  obtain ⟨⟨V, F, h1, h2⟩, h3⟩ := h
  refine (child_any wr p g m L V F h1 q n).mono ?_
  rintro e w' ⟨rfl, hk, h5⟩
  exact ⟨rfl, Solo.step (V := V) ⟨⟨V, F, h1, h2⟩, h3⟩ hX h2 hk h5⟩
theorem Solo.cut (h : Solo w wr p g m L X) (hX : ∀ b, X b → b < wr.heap.size) (n : Int) : Calls Try.prog 22 #[.pointer (some ⟨p, 0, none⟩), .int .i64 n] wr fun e w' => e = .returned (.int .i64 (cutE L n)) ∧ Solo w w' p g m (cutL L n) X ∧ Kept (fun b => w.heap.size ≤ b ∧ ¬ X b) wr w' := by
  obtain ⟨⟨V, F, h1, h2⟩, h3⟩ := h
  refine (cut_any wr p g m L V F h1 n).mono ?_
  rintro e w' ⟨rfl, hk, h5⟩
  exact ⟨rfl, Solo.step (V := V) ⟨⟨V, F, h1, h2⟩, h3⟩ hX h2 hk h5⟩
end
theorem solo_new {w w' : World} {p g m : Nat} (hk : Kt w' p g m [] (fun _ => .slice none 0 0) (fun b => w.heap.size ≤ b)) (hb : Below w.heap.size w w') : Solo w w' p g m [] (fun _ => False) :=
  ⟨⟨_, _, hk.tight, fun b hb => ⟨hb.1, hb.2, fun e => e⟩⟩, hb⟩
set_option maxHeartbeats 1000000 in
theorem copied_any (w : World) (v : Value) (n : Nat) (zs : List Int) (hown : w.ownsRow 0 3 1 v n (zs.map i64)) (hb : n ≤ 1000000) :
    Calls Try.prog 17 #[v] w fun e w' => ∃ A c, e = .returned (.slice A n c) ∧ w'.ownsRow 0 3 1 (.slice A n c) n (zs.map i64) ∧ Below w.heap.size w w' ∧ Fresh w (.slice A n c) := by
  obtain ⟨A, c, rfl, hnc⟩ := own_slice hown
  have HL : Hid ((zs.map i64).length = n * 1) := hown.1
  have HS := Lib.hid (holds_own hown)
  clear hown
  go_enter Try.func17, Try.ntmps17
  go_wp2_with (at_builtin; refine list_app2 rfl (.tmp 4) (.tmp 5) 41 rfl 3 0 _ 1 8 Try.underlying41 info_int rfl (by decide) (by decide) (.slice none 0 0) 0 [] rfl (World.ownsRow_nil _ _ _ _) A n c (zs.map i64) rfl HL.out HS.out one64 (by omega) (Nat.zero_le _) ?_)
  intro v9 w9 hown9 hwent9
  obtain ⟨A9, c9, rfl, _⟩ := own_slice hown9
  go_wp2
  go_ret
  refine ⟨A9, c9, by simp, by simpa using hown9, hwent9.kept.below (fun k hk => by simp [Value.ownBlock] at hk) (Nat.le_refl _), fun k hk => ?_⟩
  rcases hwent9.block with h | h
  · have := h.symm.trans (by simpa using hk)
    simp [Value.ownBlock] at this
  · have := Option.some.inj (h.symm.trans (by simpa using hk))
    omega
section
variable {m : Nat} {L : List (Int × Int)} {k q : Int}
theorem child_no (hk : has L k = false) : childE m L k q = 20 ∧ childL m L k q = L := by
  unfold childE childL
  rw [if_neg (fun e => by rw [hk] at e; cases e.2), if_neg (fun e => by rw [hk] at e; cases e.2)]
  exact ⟨rfl, rfl⟩
theorem child_yes (hr : inR m q = true) (hk : has L k = true) (hq : has L q = false) : childE m L k q = 0 ∧ childL m L k q = L ++ [(q, k)] := by
  simp [childE, childL, hr, hk, hq]
theorem child_there (hr : inR m q = true) (hk : has L k = true) (hq : has L q = true) : childE m L k q = 19 ∧ childL m L k q = L := by
  simp [childE, childL, hr, hk, hq]
theorem root_there (hr : inR m q = true) (hq : has L q = true) : rootE m L q = 19 ∧ rootL m L q = L := by
  unfold rootE rootL
  rw [if_pos hr, if_pos hr, if_pos hq, if_pos hq]
  exact ⟨rfl, rfl⟩
theorem root_no (hr : inR m q = false) : rootE m L q = 20 ∧ rootL m L q = L := by
  unfold rootE rootL
  rw [if_neg (by rw [hr]; simp), if_neg (by rw [hr]; simp)]
  exact ⟨rfl, rfl⟩
theorem cut_full (hk : has L k = true) (hc : chl L k ≠ []) : cutE L k = 19 ∧ cutL L k = L := by
  unfold cutE cutL
  rw [if_pos hk, if_neg hc, if_neg (fun e => hc e.2)]
  exact ⟨rfl, rfl⟩
theorem cut_leaf (hk : has L k = true) (hc : chl L k = []) : cutE L k = 0 ∧ cutL L k = cut L k := by
  unfold cutE cutL
  rw [if_pos hk, if_pos hc, if_pos ⟨hk, hc⟩]
  exact ⟨rfl, rfl⟩
theorem cut_no (hk : has L k = false) : cutE L k = 20 ∧ cutL L k = L := by
  unfold cutE cutL
  rw [if_neg (by rw [hk]; simp), if_neg (fun e => by rw [hk] at e; cases e.1)]
  exact ⟨rfl, rfl⟩
theorem cut_app (hq : has L q = false) : cut (L ++ [(q, k)]) q = L := by
  unfold cut
  rw [List.filter_append]
  have : L.filter (fun x => x.1 != q) = L := List.filter_eq_self.2 (fun x hx => by
    unfold has at hq
    rw [List.any_eq_false] at hq
    have := hq x hx
    simpa using this)
  rw [this]
  simp
end
end Go.Proofs.Ythemibhajlgcdaa.Kin

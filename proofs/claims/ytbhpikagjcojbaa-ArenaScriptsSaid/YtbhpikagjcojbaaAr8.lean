/- apart: rows held against what they must be, written over with marks, lengthened, and looked at. -/
import Derived.Test.YtbhpikagjcojbaaAr7
namespace Go.Proofs.Ytbhpikagjcojbaa.Ar
open Go.RowKit Go.Proofs.Ytbhpikagjcojbaa.Mem
def Touch (K : Nat) (V : Nat → Value) (b : Nat) : Prop := ∃ k, k < K ∧ (V k).ownBlock = some b
def mk100 (k : Nat) : Value := .int .i64 (-100 - (k : Int))
theorem info29 : (Try.prog.info? 29).map (fun i => (i.zero, i.size, i.bytes)) = some (some (.slice none 0 0), 1, 24) := by kernel_rfl
def First (w : World) (K : Nat) (V : Nat → Value) (N : Nat → Nat) (k i : Nat) (wr : World) : Prop :=
  ∃ xs, Mem.Rows 3 1 wr K V N xs ∧ Kept (Touch K V) w wr ∧ (∀ j, j < k → j < K → xs j = List.replicate (N j) (mk100 j)) ∧ (k < K → (xs k).take i = List.replicate i (mk100 k))
section
variable {w wr : World} {K : Nat} {V : Nat → Value} {N : Nat → Nat}
theorem First.next {k : Nat} (h : First w K V N k (N k) wr) (hk : k < K) : First w K V N (k + 1) 0 wr := by
  obtain ⟨xs, h1, h2, h3, h4⟩ := h
  refine ⟨xs, h1, h2, fun j hj hjK => ?_, fun _ => by simp⟩
  by_cases hjk : j = k
  · subst hjk
    have h5 := h4 hk
    have h6 := (h1.own j hk).1
    rwa [List.take_of_length_le (by omega)] at h5
  · exact h3 j (by omega) hjK
theorem First.form {k i : Nat} (h : First w K V N k i wr) (hk : k < K) (hi : i < N k) : ∃ g c cur, V k = .slice (some ⟨g, 0, none⟩) (N k) c ∧ wr.heap[g]? = some (.cells cur 3 (0, 0)) ∧ N k ≤ c ∧ c ≤ maxLen ∧ i < cur.size := by
  obtain ⟨xs, h1, _⟩ := h
  obtain ⟨g, c, cur, e1, hg, hc, hcm, hs, _⟩ := own_form (h1.own k hk) (by omega)
  exact ⟨g, c, cur, e1, hg, hc, hcm, by rw [hs]; omega⟩
theorem First.store {k i g c : Nat} {cur : Array Value} (h : First w K V N k i wr) (hk : k < K) (hi : i < N k) (hV : V k = .slice (some ⟨g, 0, none⟩) (N k) c) (hg : wr.heap[g]? = some (.cells cur 3 (0, 0))) :
    First w K V N k (i + 1) (wr.setCell ⟨g, i, none⟩ (.int .i64 (-100 - (k : Int)))) := by
  obtain ⟨xs, h1, h2, h3, h4⟩ := h
  have e1 := heap_setCell_same wr g i _ _ (.int .i64 (-100 - (k : Int))) hg
  have hkept : Kept (fun b => b = g) wr (wr.setCell ⟨g, i, none⟩ (.int .i64 (-100 - (k : Int)))) := (Kept.refl (fun b => b = g) wr).setCell (.inl rfl) _
  have hT : Touch K V g := ⟨k, hk, by rw [hV]; rfl⟩
  have hcur : xs k = cur.toList.take (N k * 1) ∧ N k * 1 ≤ cur.size := by
    obtain ⟨_, ho⟩ := h1.own k hk
    rw [hV] at ho
    rcases ho with ⟨ho, _⟩ | ⟨g', c', cu, e5, _, hg', hnc, _, hcs, ht⟩
    · simp at ho
    · obtain ⟨rfl, rfl⟩ : g = g' ∧ c = c' := by simpa using e5
      rw [hg] at hg'
      obtain rfl : cur = cu := by simpa using hg'
      exact ⟨ht.symm, by rw [hcs]; exact Nat.mul_le_mul_right _ hnc⟩
  refine ⟨_, h1.wrote hk hV hg e1 (by simp) hkept, h2.trans hkept (fun x hx => .inl (hx ▸ hT)), fun j hj hjK => ?_, fun _ => ?_⟩
  · rw [if_neg (by omega)]
    exact h3 j hj hjK
  · rw [if_pos rfl]
    have h5 := h4 hk
    rw [hcur.1, Nat.mul_one, List.take_take, Nat.min_eq_left (by omega)] at h5
    rw [Nat.mul_one, List.take_take, Nat.min_eq_left (by omega), Array.toList_setIfInBounds, List.take_add_one, List.take_set_of_le (by omega), h5, List.getElem?_set_self (by have := hcur.2; simp; omega), List.replicate_succ']
    rfl
end
/-- What holds behind k rows that have grown. -/
structure Aps (w : World) (K : Nat) (V : Nat → Value) (N : Nat → Nat) (xs : Nat → List Value) (k : Nat) (v5 : Value) (L : Nat → Value) (M : Nat → Nat) (ys : Nat → List Value) (wr : World) : Prop where
  pair : Pair 3 1 wr K V N xs L M ys
  long : wr.ownsRow 0 29 1 v5 k ((List.range k).map L)
  far : ∀ b, v5.ownBlock = some b → w.heap.size ≤ b ∧ ∀ j, j < K → (V j).ownBlock ≠ some b ∧ (L j).ownBlock ≠ some b
  kept : Kept (Touch K V) w wr
  new : ∀ j b, j < K → (L j).ownBlock = some b → Touch K V b ∨ w.heap.size ≤ b
  mark : ∀ j, j < K → xs j = List.replicate (N j) (mk100 j)
  done : ∀ j, j < k → M j = N j + 80 ∧ ys j = List.replicate (N j + 80) (mk100 j)
  start : ∀ j, j < K → k ≤ j → L j = V j ∧ M j = N j ∧ ys j = xs j
section
variable {w wr w' : World} {K : Nat} {V : Nat → Value} {N : Nat → Nat} {xs : Nat → List Value} {k : Nat} {v5 : Value} {L : Nat → Value} {M : Nat → Nat} {ys : Nat → List Value}
theorem aps_start (h : Mem.Rows 3 1 wr K V N xs) (hk : Kept (Touch K V) w wr) (hm : ∀ j, j < K → xs j = List.replicate (N j) (mk100 j)) : Aps w K V N xs 0 (.slice none 0 0) V N xs wr :=
  ⟨Pair.start h, World.ownsRow_nil _ _ _ _, fun b hb => by simp [Value.ownBlock] at hb, hk, fun j b hj e => .inl ⟨j, hj, e⟩, hm, fun j hj => by omega, fun j _ _ => ⟨rfl, rfl, rfl⟩⟩
/-- The next row grows (a call), its result is laid into a box, and the list of lists grows by it. -/
theorem Aps.next (h : Aps w K V N xs k v5 L M ys wr) (hk : k < K) {v' v9 : Value} {w8 w9 : World} (hp : Pair 3 1 w8 1 (fun _ => V k) (fun _ => N k) (fun _ => xs k) (fun _ => v') (fun _ => N k + 80) (fun _ => xs k ++ List.replicate 80 (mk100 k)))
    (hk8 : Kept (fun b => (V k).ownBlock = some b) wr w8) (hn8 : ∀ b, v'.ownBlock = some b → (V k).ownBlock = some b ∨ wr.heap.size ≤ b)
    (hown : w9.ownsRow 0 29 1 v9 (k + 1) ((List.range k).map L ++ [v'])) (hw : Went (w8.alloc (.cells #[v'] 29)) w9 v5 v9 k 1) : ∃ L' M' ys', Aps w K V N xs (k + 1) v9 L' M' ys' w9 := by
  obtain ⟨s1, s2, s3⟩ := h.start k hk (Nat.le_refl _)
  have hpk := h.pair.grow2 (k := k) (v' := v') (M' := N k + 80) (ys' := xs k ++ List.replicate 80 (mk100 k)) hk (hp.l.own 0 (by omega)) (hp.v.own 0 (by omega)) (by rw [s1]; exact hk8) (by rw [s1]; exact hn8) ⟨by omega, by
    have hl := (hp.v.own 0 (by omega)).1
    rw [List.take_append_of_le_length (by omega)]
    exact List.take_of_length_le (by omega)⟩
  have hbox : Below w8.heap.size w8 (w8.alloc (.cells #[v'] 29)) := (Below.refl _ _).alloc (Nat.le_refl _) _
  have hfarL : ∀ b, v5.ownBlock = some b → ∀ j, j < K → (if j = k then v' else L j).ownBlock ≠ some b := by
    intro b hb j hj e
    by_cases hjk : j = k
    · rw [if_pos hjk] at e
      rcases hn8 b e with e1 | e1
      · exact ((h.far b hb).2 k hk).1 e1
      · have := own_lt h.long b hb; omega
    · rw [if_neg hjk] at e
      exact ((h.far b hb).2 j hj).2 e
  have hpair9 : Pair 3 1 w9 K V N xs (fun j => if j = k then v' else L j) (fun j => if j = k then N k + 80 else M j) (fun j => if j = k then xs k ++ List.replicate 80 (mk100 k) else ys j) :=
    (hpk.kept (S := fun _ => False) (Kept.of_below hbox) (fun _ _ _ _ hf => hf) (fun _ _ _ _ hf => hf)).kept hw.kept (fun j b hj e1 e2 => ((h.far b e2).2 j hj).1 e1) (fun j b hj e1 e2 => hfarL b e2 j hj e1)
  have hsize : wr.heap.size ≤ w8.heap.size := hk8.size
  refine ⟨_, _, _, hpair9, ?_, ?_, ?_, ?_, h.mark, ?_, ?_⟩
  · rw [List.range_succ, List.map_append]
    have e : (List.range k).map (fun j => if j = k then v' else L j) = (List.range k).map L := by
      apply List.map_congr_left
      intro j hj
      rw [List.mem_range] at hj
      rw [if_neg (by omega)]
    rw [e]
    simpa using hown
  · intro b hb
    rcases hw.block with e1 | e1
    · exact ⟨(h.far b (e1 ▸ hb)).1, fun j hj => ⟨((h.far b (e1 ▸ hb)).2 j hj).1, hfarL b (e1 ▸ hb) j hj⟩⟩
    · have e2 := Option.some.inj (e1.symm.trans hb)
      have h0 := h.kept.size
      simp at e2
      refine ⟨by omega, fun j hj => ⟨fun e3 => ?_, fun e3 => ?_⟩⟩
      · have := own_lt (hpk.v.own j hj) b e3; omega
      · have := own_lt (hpk.l.own j hj) b e3; omega
  · exact (((h.kept.trans hk8 (fun b hb => .inl ⟨k, hk, hb⟩)).alloc _).trans hw.kept (fun b hb => .inr (h.far b hb).1))
  · intro j b hj e
    by_cases hjk : j = k
    · simp only [if_pos hjk] at e
      rcases hn8 b e with e1 | e1
      · exact .inl ⟨k, hk, e1⟩
      · exact .inr (Nat.le_trans h.kept.size e1)
    · simp only [if_neg hjk] at e
      exact h.new j b hj e
  · intro j hj
    by_cases hjk : j = k
    · subst hjk
      simp only [if_true]
      refine ⟨trivial, ?_⟩
      rw [h.mark j hk, List.replicate_append_replicate]
    · simp only [if_neg hjk]
      exact h.done j (by omega)
  · intro j hj hkj
    have hne : j ≠ k := by omega
    simp only [if_neg hne]
    exact h.start j hj (by omega)
theorem allAre_own {v : Value} {n : Nat} {m : Int} (h : wr.ownsRow 0 3 1 v n (List.replicate n (.int .i64 m))) : AllAre wr v n m := by
  obtain ⟨A, c, rfl, _⟩ := own_slice h
  refine ⟨A, c, rfl, own_max h, fun hp => ?_⟩
  obtain ⟨g, c', cur, e, _, _, _, _, _, hcell⟩ := own_form h hp
  obtain ⟨rfl, rfl⟩ : A = some ⟨g, 0, none⟩ ∧ c = c' := by simpa using e
  exact ⟨g, rfl, fun j hj => hcell j _ (by rw [List.getElem?_replicate, if_pos hj])⟩
end
end Go.Proofs.Ytbhpikagjcojbaa.Ar

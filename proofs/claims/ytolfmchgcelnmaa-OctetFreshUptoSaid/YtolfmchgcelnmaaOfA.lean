/- OctetFresh: lists of the law's own, each apart; written over with marks, lengthened. -/
import Derived.Test.YtolfmchgcelnmaaOc10
import Derived.Test.YtolfmchgcelnmaaRows2
import Derived.IntWalk
namespace Go.Proofs.Ytolfmchgcelnmaa.O
open Go.RowKit Go.Proofs.Ytolfmchgcelnmaa.Mem
set_option linter.unusedVariables false
/-- Lists of bytes, new since w0, each in a block of its own. -/
structure Bag (w0 W : World) (vs : List (Value × List Int)) : Prop where
  own : ∀ x ∈ vs, OB W x.1 x.2
  new : ∀ x ∈ vs, ∀ b, x.1.ownBlock = some b → w0.heap.size ≤ b
  far : vs.Pairwise (fun x y => ∀ b, x.1.ownBlock = some b → y.1.ownBlock ≠ some b)
theorem Bag.kept {w0 W W' : World} {vs : List (Value × List Int)} {S : Nat → Prop} (h : Bag w0 W vs) (hk : Kept S W W') (hS : ∀ b, S b → ∀ x ∈ vs, x.1.ownBlock ≠ some b) : Bag w0 W' vs :=
  ⟨fun x hx => own_kept (h.own x hx) hk (fun b hb e => hS b e x hx hb), h.new, h.far⟩
theorem Bag.below {w0 W W' : World} {vs : List (Value × List Int)} (h : Bag w0 W vs) (hb : Below W.heap.size W W') : Bag w0 W' vs := h.kept (S := fun _ => False) (Kept.of_below hb) (fun _ e => e.elim)
theorem Bag.add {w0 W W' : World} {vs : List (Value × List Int)} {v : Value} {zs : List Int} (h : Bag w0 W vs) (hw : w0.heap.size ≤ W.heap.size) (ho : OB W' v zs) (hb : Below W.heap.size W W') (hf : Fresh W v) : Bag w0 W' (vs ++ [(v, zs)]) := by
  have h2 := h.below hb
  refine ⟨fun x hx => ?_, fun x hx b e => ?_, List.pairwise_append.2 ⟨h.far, List.pairwise_singleton _ _, fun x hx y hy b e1 e2 => ?_⟩⟩
  · rcases List.mem_append.1 hx with hx | hx
    · exact h2.own x hx
    · obtain rfl := List.mem_singleton.1 hx
      exact ho
  · rcases List.mem_append.1 hx with hx | hx
    · exact h2.new x hx b e
    · obtain rfl := List.mem_singleton.1 hx
      exact Nat.le_trans hw (hf b e)
  · obtain rfl := List.mem_singleton.1 hy
    have h3 := own_lt (h.own x hx) b e1
    have h4 := hf b e2
    omega
/-- The same, as rows. -/
theorem Bag.rows {w0 W : World} {vs : List (Value × List Int)} (h : Bag w0 W vs) (d : Value × List Int) : Mem.Rows 5 1 W vs.length (fun k => (vs.getD k d).1) (fun k => (vs.getD k d).2.length) (fun k => (vs.getD k d).2.map byteC) := by
  refine ⟨fun k hk => ?_, fun i j b hi hj e1 e2 => ?_⟩
  · have e : vs.getD k d = vs[k] := by simp [List.getD, hk]
    rw [e]
    exact h.own _ (List.getElem_mem hk)
  · have ei : vs.getD i d = vs[i] := by simp [List.getD, hi]
    have ej : vs.getD j d = vs[j] := by simp [List.getD, hj]
    rw [ei] at e1
    rw [ej] at e2
    have hp := List.pairwise_iff_getElem.1 h.far
    rcases Nat.lt_trichotomy i j with hlt | rfl | hlt
    · exact absurd e2 (hp i j hi hj hlt b e1)
    · rfl
    · exact absurd e1 (hp j i hj hi hlt b e2)
def Mark (n : Nat) (ys : List Value) (k : Nat) : Prop := ∀ i, i < n → ys[i]? = some (.int .u8 ((k : Int) + 1))
def Touch (K : Nat) (V : Nat → Value) (b : Nat) : Prop := ∃ k, k < K ∧ (V k).ownBlock = some b
theorem mark_set {cur : Array Value} {n i k : Nat} (hm : Mark i (cur.toList.take (n * 1)) k) (hi : i < n) (hs : n * 1 ≤ cur.size) :
    Mark (i + 1) ((cur.setIfInBounds i (.int .u8 ((k : Int) + 1))).toList.take (n * 1)) k := by
  intro j hj
  rw [List.getElem?_take, if_pos (by omega)]
  simp only [Array.getElem?_toList, Array.getElem?_setIfInBounds]
  by_cases h : i = j
  · subst h
    rw [if_pos rfl, if_pos (by omega)]
  · rw [if_neg h]
    have := hm j (by omega)
    rw [List.getElem?_take, if_pos (by omega)] at this
    simpa using this
/-- What holds behind k rows and t appends upon the next. -/
structure Big (w : World) (K : Nat) (V : Nat → Value) (N : Nat → Nat) (xs : Nat → List Value) (k t : Nat) (v5 : Value) (L : Nat → Value) (M : Nat → Nat) (ys : Nat → List Value) (wr : World) : Prop where
  pair : Pair 5 1 wr K V N xs L M ys
  long : wr.ownsRow 0 22 1 v5 k ((List.range k).map L)
  far : ∀ b, v5.ownBlock = some b → w.heap.size ≤ b ∧ ∀ j, j < K → (V j).ownBlock ≠ some b ∧ (L j).ownBlock ≠ some b
  kept : Kept (Touch K V) w wr
  new : ∀ j b, j < K → (L j).ownBlock = some b → Touch K V b ∨ w.heap.size ≤ b
  mark : ∀ j, j < K → Mark (M j) (ys j) j
  done : ∀ j, j < k → M j = N j + 1
  now : k < K → M k = N k + t
  start : ∀ j, j < K → k ≤ j → (j = k → t = 0) → L j = V j ∧ M j = N j
section
variable {w wr : World} {K : Nat} {V : Nat → Value} {N : Nat → Nat} {xs : Nat → List Value} {k t : Nat} {v5 : Value} {L : Nat → Value} {M : Nat → Nat} {ys : Nat → List Value}
theorem Big.below (h : Big w K V N xs k t v5 L M ys wr) {w' : World} (hb : Below wr.heap.size wr w') : Big w K V N xs k t v5 L M ys w' :=
  ⟨h.pair.kept (S := fun _ => False) (Kept.of_below hb) (fun _ _ _ _ hf => hf) (fun _ _ _ _ hf => hf), own_keeps h.long (Kept.of_below hb), h.far, h.kept.then_below hb, h.new, h.mark, h.done, h.now, h.start⟩
theorem Big.grow (h : Big w K V N xs k t v5 L M ys wr) (hk : k < K) {w' : World} {v' : Value} (hown : w'.ownsRow 0 5 1 v' (M k + 1) (ys k ++ [.int .u8 ((k : Int) + 1)])) (hw : Went wr w' (L k) v' (M k) 1) :
    ∃ L' M' ys', L' k = v' ∧ Big w K V N xs k (t + 1) v5 L' M' ys' w' := by
  refine ⟨_, _, _, ?_, h.pair.grow (by omega) hk hown hw, ?_, ?_, ?_, ?_, ?_, ?_, ?_, ?_⟩
  · simp
  · have e : (List.range k).map (fun j => if j = k then v' else L j) = (List.range k).map L := by
      apply List.map_congr_left
      intro j hj
      rw [List.mem_range] at hj
      rw [if_neg (by omega)]
    rw [e]
    exact own_kept h.long hw.kept (fun b hb e1 => ((h.far b hb).2 k hk).2 e1)
  · intro b hb
    refine ⟨(h.far b hb).1, fun j hj => ⟨((h.far b hb).2 j hj).1, fun e1 => ?_⟩⟩
    by_cases hjk : j = k
    · simp only [if_pos hjk] at e1
      rcases hw.block with e2 | e2
      · exact ((h.far b hb).2 k hk).2 (e2 ▸ e1)
      · have h1 := own_lt h.long b hb
        have h2 := Option.some.inj (e2.symm.trans e1)
        omega
    · simp only [if_neg hjk] at e1
      exact ((h.far b hb).2 j hj).2 e1
  · exact h.kept.trans hw.kept (fun b hb => h.new k b hk hb)
  · intro j b hj e1
    by_cases hjk : j = k
    · simp only [if_pos hjk] at e1
      rcases hw.block with e2 | e2
      · exact h.new k b hk (e2 ▸ e1)
      · exact .inr (by have := Option.some.inj (e2.symm.trans e1); have := h.kept.size; omega)
    · simp only [if_neg hjk] at e1
      exact h.new j b hj e1
  · intro j hj
    by_cases hjk : j = k
    · subst hjk
      simp only [if_true]
      have hl := (h.pair.l.own j hk).1
      intro i hi
      by_cases hlt : i < M j
      · rw [List.getElem?_append_left (by omega)]
        exact h.mark j hj i hlt
      · obtain rfl : i = M j := by omega
        rw [List.getElem?_append_right (by omega), hl]
        simp
    · simp only [if_neg hjk]
      exact h.mark j hj
  · intro j hj
    rw [if_neg (by omega)]
    exact h.done j hj
  · intro _
    simp only [if_true]
    have := h.now hk
    omega
  · intro j hj hkj hjt
    have hne : j ≠ k := fun e => by have := hjt e; omega
    simp only [if_neg hne]
    exact h.start j hj hkj (fun e => absurd e hne)
theorem Big.next (h : Big w K V N xs k 1 v5 L M ys wr) (hk : k < K) {w' : World} {v' : Value} (hown : w'.ownsRow 0 22 1 v' (k + 1) ((List.range k).map L ++ [L k])) (hw : Went wr w' v5 v' k 1) : Big w K V N xs (k + 1) 0 v' L M ys w' := by
  refine ⟨h.pair.kept hw.kept (fun j b hj e1 e2 => ((h.far b e2).2 j hj).1 e1) (fun j b hj e1 e2 => ((h.far b e2).2 j hj).2 e1), ?_, ?_, h.kept.trans hw.kept (fun b hb => .inr (h.far b hb).1), h.new, h.mark, ?_, ?_, ?_⟩
  · rw [List.range_succ, List.map_append]
    simpa using hown
  · intro b hb
    rcases hw.block with e1 | e1
    · exact h.far b (e1 ▸ hb)
    · have e2 := Option.some.inj (e1.symm.trans hb)
      refine ⟨by have := h.kept.size; omega, fun j hj => ⟨fun e3 => ?_, fun e3 => ?_⟩⟩
      · have := own_lt (h.pair.v.own j hj) b e3; omega
      · have := own_lt (h.pair.l.own j hj) b e3; omega
  · intro j hj
    by_cases hjk : j = k
    · rw [hjk]; exact h.now hk
    · exact h.done j (by omega)
  · intro hk1
    rw [(h.start (k + 1) hk1 (by omega) (fun e => by omega)).2]
    omega
  · intro j hj hkj _
    exact h.start j hj (by omega) (fun e => by omega)
theorem big_start (h : Mem.Rows 5 1 wr K V N xs) (hk : Kept (Touch K V) w wr) (hm : ∀ j, j < K → Mark (N j) (xs j) j) : Big w K V N xs 0 0 (.slice none 0 0) V N xs wr :=
  ⟨Pair.start h, World.ownsRow_nil _ _ _ _, fun b hb => by simp [Value.ownBlock] at hb, hk, fun j b hj e => .inl ⟨j, hj, e⟩, hm, fun j hj => by omega, fun _ => rfl, fun j _ _ _ => ⟨rfl, rfl⟩⟩
end

/-- The first loop's state. -/
def First (w : World) (K : Nat) (V : Nat → Value) (N : Nat → Nat) (k i : Nat) (wr : World) : Prop :=
  ∃ xs, Mem.Rows 5 1 wr K V N xs ∧ Kept (Touch K V) w wr ∧ (∀ j, j < k → j < K → Mark (N j) (xs j) j) ∧ (k < K → Mark i (xs k) k)
section
variable {w wr : World} {K : Nat} {V : Nat → Value} {N : Nat → Nat}
theorem First.next {k : Nat} (h : First w K V N k (N k) wr) (hk : k < K) : First w K V N (k + 1) 0 wr := by
  obtain ⟨xs, h1, h2, h3, h4⟩ := h
  refine ⟨xs, h1, h2, fun j hj hjK => ?_, fun _ i hi => by omega⟩
  by_cases hjk : j = k
  · rw [hjk]; exact h4 hk
  · exact h3 j (by omega) hjK
theorem First.form {k i : Nat} (h : First w K V N k i wr) (hk : k < K) (hi : i < N k) : ∃ g c cur, V k = .slice (some ⟨g, 0, none⟩) (N k) c ∧ wr.heap[g]? = some (.cells cur 5 (0, 0)) ∧ N k ≤ c ∧ c ≤ maxLen ∧ i < cur.size := by
  obtain ⟨xs, h1, _⟩ := h
  obtain ⟨g, c, cur, e1, hg, hc, hcm, hs, _⟩ := own_form (h1.own k hk) (by omega)
  exact ⟨g, c, cur, e1, hg, hc, hcm, by rw [hs]; omega⟩
theorem First.store {k i g c : Nat} {cur : Array Value} (h : First w K V N k i wr) (hk : k < K) (hi : i < N k) (hV : V k = .slice (some ⟨g, 0, none⟩) (N k) c) (hg : wr.heap[g]? = some (.cells cur 5 (0, 0))) :
    First w K V N k (i + 1) (wr.setCell ⟨g, i, none⟩ (.int .u8 ((k : Int) + 1))) := by
  obtain ⟨xs, h1, h2, h3, h4⟩ := h
  have e1 := heap_setCell_same wr g i _ _ (.int .u8 ((k : Int) + 1)) hg
  have hkept : Kept (fun b => b = g) wr (wr.setCell ⟨g, i, none⟩ (.int .u8 ((k : Int) + 1))) := (Kept.refl (fun b => b = g) wr).setCell (.inl rfl) _
  have hT : Touch K V g := ⟨k, hk, by rw [hV]; rfl⟩
  have hcur : xs k = cur.toList.take (N k * 1) ∧ N k * 1 ≤ cur.size := by
    obtain ⟨_, ho⟩ := h1.own k hk
    rw [hV] at ho
    rcases ho with ⟨ho, _⟩ | ⟨g', c', cu, e5, _, hg', hnc, _, hcs, ht⟩
    · simp at ho
    · obtain ⟨rfl, rfl⟩ : g = g' ∧ c = c' := by simpa using e5
      rw [hg] at hg'
      obtain rfl : cur = cu := by simpa using hg'
      exact ⟨ht.symm, by rw [hcs]; exact Nat.mul_le_mul_right _ hnc⟩
  refine ⟨_, h1.wrote hk hV hg e1 (by simp) hkept, h2.trans hkept (fun x hx => .inl (hx ▸ hT)), fun j hj hjK => ?_, fun _ => ?_⟩
  · rw [if_neg (by omega)]
    exact h3 j hj hjK
  · rw [if_pos rfl]
    have := h4 hk
    rw [hcur.1] at this
    exact mark_set this hi hcur.2
end
end Go.Proofs.Ytolfmchgcelnmaa.O

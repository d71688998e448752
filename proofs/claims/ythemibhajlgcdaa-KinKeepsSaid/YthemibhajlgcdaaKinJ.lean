/- Owned rows beside one another, of what element types ever; KinKeeps' lists. Own text; Ythemibhajlgcdaa and the numbers between @..@ are the seat's. -/
import Derived.Test.YthemibhajlgcdaaKinY
import Derived.Test.YthemibhajlgcdaaKinM
namespace Go.Proofs.Ythemibhajlgcdaa.Kin
open Go.RowKit Go.Proofs.Ythemibhajlgcdaa.Mem
set_option linter.unusedVariables false
/-- K rows in blocks of their own, all of them at B or behind it. -/
structure Fam (w : World) (B K : Nat) (T : Nat → TypeId) (V : Nat → Value) (N : Nat → Nat) (xs : Nat → List Value) : Prop where
  own : ∀ k, k < K → w.ownsRow 0 (T k) 1 (V k) (N k) (xs k)
  low : ∀ k b, k < K → (V k).ownBlock = some b → B ≤ b
  far : ∀ j k b, j < K → k < K → (V j).ownBlock = some b → (V k).ownBlock = some b → j = k
section
variable {w w' : World} {B K : Nat} {T T' : Nat → TypeId} {V V' : Nat → Value} {N N' : Nat → Nat} {xs xs' : Nat → List Value}
theorem Fam.below (h : Fam w B K T V N xs) (hb : Below w.heap.size w w') : Fam w' B K T V N xs :=
  ⟨fun k hk => own_keeps (h.own k hk) (Kept.of_below hb), h.low, h.far⟩
theorem Fam.congr (h : Fam w B K T V N xs) (e : ∀ k, k < K → T' k = T k ∧ V' k = V k ∧ N' k = N k ∧ xs' k = xs k) : Fam w B K T' V' N' xs' :=
  ⟨fun k hk => by obtain ⟨a, b, c, d⟩ := e k hk; rw [a, b, c, d]; exact h.own k hk, fun k b hk hb => h.low k b hk (by rw [← (e k hk).2.1]; exact hb), fun j k b hj hk h1 h2 => h.far j k b hj hk (by rw [← (e j hj).2.1]; exact h1) (by rw [← (e k hk).2.1]; exact h2)⟩
/-- A new row. -/
theorem Fam.push (h : Fam w B K T V N xs) (hb : Below w.heap.size w w') (hB : B ≤ w.heap.size) {v : Value} {n : Nat} {ys : List Value} {e : TypeId} (hown : w'.ownsRow 0 e 1 v n ys) (hf : ∀ b, v.ownBlock = some b → w.heap.size ≤ b) : Fam w' B (K + 1) (up T K e) (up V K v) (up N K n) (up xs K ys) := by
  refine ⟨fun k hk => ?_, fun k b hk hb' => ?_, fun j k b hj hk h1 h2 => ?_⟩
  · by_cases e1 : k = K
    · subst e1; simp only [up_same]; exact hown
    · simp only [up_other _ _ e1]; exact own_keeps (h.own k (by omega)) (Kept.of_below hb)
  · by_cases e1 : k = K
    · subst e1; rw [up_same] at hb'; exact Nat.le_trans hB (hf b hb')
    · rw [up_other _ _ e1] at hb'; exact h.low k b (by omega) hb'
  · by_cases e1 : j = K
    · by_cases e2 : k = K
      · rw [e1, e2]
      · rw [e1, up_same] at h1
        rw [up_other _ _ e2] at h2
        have := hf b h1
        have := own_lt (h.own k (by omega)) b h2
        omega
    · by_cases e2 : k = K
      · rw [e2, up_same] at h2
        rw [up_other _ _ e1] at h1
        have := hf b h2
        have := own_lt (h.own j (by omega)) b h1
        omega
      · rw [up_other _ _ e1] at h1
        rw [up_other _ _ e2] at h2
        exact h.far j k b (by omega) (by omega) h1 h2
/-- One row has grown by what was appended. -/
theorem Fam.grow (h : Fam w B K T V N xs) (hB : B ≤ w.heap.size) {k m : Nat} (hk : k < K) {v' : Value} {ys : List Value} (hown : w'.ownsRow 0 (T k) 1 v' (N k + m) ys) (hw : Went w w' (V k) v' (N k) m) : Fam w' B K T (up V k v') (up N k (N k + m)) (up xs k ys) := by
  have hnew : ∀ b, v'.ownBlock = some b → (V k).ownBlock = some b ∨ w.heap.size ≤ b := fun b hb => by
    rcases hw.block with e1 | e1
    · exact .inl (e1 ▸ hb)
    · exact .inr (by have := Option.some.inj (e1.symm.trans hb); omega)
  refine ⟨fun j hj => ?_, fun j b hj hb => ?_, fun i j b hi hj h1 h2 => ?_⟩
  · by_cases e : j = k
    · subst e; simp only [up_same]; exact hown
    · simp only [up_other _ _ e]
      exact own_kept (h.own j hj) hw.kept (fun b hb e2 => e (h.far j k b hj hk hb e2))
  · by_cases e : j = k
    · subst e
      rw [up_same] at hb
      rcases hnew b hb with e1 | e1
      · exact h.low j b hk e1
      · omega
    · rw [up_other _ _ e] at hb
      exact h.low j b hj hb
  · by_cases e1 : i = k
    · by_cases e2 : j = k
      · rw [e1, e2]
      · rw [e1, up_same] at h1
        rw [up_other _ _ e2] at h2
        rcases hnew b h1 with e3 | e3
        · exact absurd (h.far k j b hk hj e3 h2).symm e2
        · have := own_lt (h.own j hj) b h2; omega
    · by_cases e2 : j = k
      · rw [e2, up_same] at h2
        rw [up_other _ _ e1] at h1
        rcases hnew b h2 with e3 | e3
        · exact absurd (h.far i k b hi hk h1 e3) e1
        · have := own_lt (h.own i hi) b h1; omega
      · rw [up_other _ _ e1] at h1
        rw [up_other _ _ e2] at h2
        exact h.far i j b hi hj h1 h2
end
/-- The answered lists, and their copies, by number. -/
def ai (j : Nat) : Nat := 2 + 4 * (j / 2) + j % 2
def wi (j : Nat) : Nat := 4 + 4 * (j / 2) + j % 2
/-- k times two lists, their copies, and the two lists of lists. -/
structure Ks (wr : World) (B k : Nat) (L : List (Int × Int)) (l want : Value) (V : Nat → Value) : Prop where
  fam : Fam wr B (2 + 4 * k) (fun i => if i < 2 then 41 else 3) V (fun i => if i < 2 then 2 * k else (kids L ((i - 2) / 4 : Nat)).length) (fun i => if i = 0 then (List.range (2 * k)).map (fun j => V (ai j)) else if i = 1 then (List.range (2 * k)).map (fun j => V (wi j)) else (kids L ((i - 2) / 4 : Nat)).map i64)
  l : V 0 = l
  want : V 1 = want
  hB : B ≤ wr.heap.size
theorem ks_start (wr : World) (L : List (Int × Int)) : Ks wr wr.heap.size 0 L (.slice none 0 0) (.slice none 0 0) (fun _ => .slice none 0 0) :=
  ⟨⟨fun k hk => by
    have : k = 0 ∨ k = 1 := by omega
    rcases this with rfl | rfl <;> exact World.ownsRow_nil _ _ _ _, fun k b hk hb => by simp [Value.ownBlock] at hb, fun j k b hj hk h1 => by simp [Value.ownBlock] at h1⟩, rfl, rfl, Nat.le_refl _⟩
section
variable {wr w1 w2 w3 w4 w5 w6 w7 w8 : World} {B k : Nat} {L : List (Int × Int)} {l want : Value} {V : Nat → Value}
/-- One round. -/
theorem Ks.next (h : Ks wr B k L l want V) {a b ca cb l' want' : Value} {zs : List Int} (hz : kids L (k : Int) = zs)
    (oa : w1.ownsRow 0 3 1 a zs.length (zs.map i64)) (ba : Below wr.heap.size wr w1) (fa : ∀ x, a.ownBlock = some x → wr.heap.size ≤ x)
    (ob : w2.ownsRow 0 3 1 b zs.length (zs.map i64)) (bb : Below w1.heap.size w1 w2) (fb : ∀ x, b.ownBlock = some x → w1.heap.size ≤ x)
    (ol : w3.ownsRow 0 41 1 l' (2 * k + 2) ((List.range (2 * k)).map (fun j => V (ai j)) ++ [a, b])) (wl : Went (w2.alloc (.cells #[a, b] 41)) w3 l l' (2 * k) 2)
    (oc : w4.ownsRow 0 3 1 ca zs.length (zs.map i64)) (bc : Below w3.heap.size w3 w4) (fc : ∀ x, ca.ownBlock = some x → w3.heap.size ≤ x)
    (od : w5.ownsRow 0 3 1 cb zs.length (zs.map i64)) (bd : Below w4.heap.size w4 w5) (fd : ∀ x, cb.ownBlock = some x → w4.heap.size ≤ x)
    (ow : w6.ownsRow 0 41 1 want' (2 * k + 2) ((List.range (2 * k)).map (fun j => V (wi j)) ++ [ca, cb])) (ww : Went (w5.alloc (.cells #[ca, cb] 41)) w6 want want' (2 * k) 2) :
    ∃ V', Ks w6 B (k + 1) L l' want' V' ∧ Kept (fun b => B ≤ b) wr w6 := by
  have hB1 := Nat.le_trans h.hB ba.size
  have hB2 := Nat.le_trans hB1 bb.size
  have bx : Below w2.heap.size w2 (w2.alloc (.cells #[a, b] 41)) := (Below.refl _ _).alloc (Nat.le_refl _) _
  have by' : Below w5.heap.size w5 (w5.alloc (.cells #[ca, cb] 41)) := (Below.refl _ _).alloc (Nat.le_refl _) _
  have f2 := ((h.fam.push ba h.hB oa fa).push bb hB1 ob fb).below bx
  have hB2x : B ≤ (w2.alloc (.cells #[a, b] 41)).heap.size := Nat.le_trans hB2 bx.size
  have f3 := f2.grow hB2x (k := 0) (m := 2) (by omega) (v' := l') (ys := (List.range (2 * k)).map (fun j => V (ai j)) ++ [a, b]) (by
    rw [up_other _ _ (by omega), up_other _ _ (by omega), up_other _ _ (by omega), up_other _ _ (by omega)]
    exact ol) (by
    rw [up_other _ _ (by omega), up_other _ _ (by omega), up_other _ _ (by omega), up_other _ _ (by omega), h.l]
    exact wl)
  have hB3 : B ≤ w3.heap.size := Nat.le_trans hB2x wl.kept.size
  have hB4 := Nat.le_trans hB3 bc.size
  have hB5 := Nat.le_trans hB4 bd.size
  have f5 := ((f3.push bc hB3 oc fc).push bd hB4 od fd).below by'
  have hB5x : B ≤ (w5.alloc (.cells #[ca, cb] 41)).heap.size := Nat.le_trans hB5 by'.size
  have f6 := f5.grow hB5x (k := 1) (m := 2) (by omega) (v' := want') (ys := (List.range (2 * k)).map (fun j => V (wi j)) ++ [ca, cb]) (by
    rw [up_other _ _ (by omega), up_other _ _ (by omega), up_other _ _ (by omega), up_other _ _ (by omega), up_other _ _ (by omega), up_other _ _ (by omega), up_other _ _ (by omega), up_other _ _ (by omega), up_other _ _ (by omega)]
    exact ow) (by
    rw [up_other _ _ (by omega), up_other _ _ (by omega), up_other _ _ (by omega), up_other _ _ (by omega), up_other _ _ (by omega), up_other _ _ (by omega), up_other _ _ (by omega), up_other _ _ (by omega), up_other _ _ (by omega), up_other _ _ (by omega), h.want]
    exact ww)
  obtain ⟨V', hV'⟩ : ∃ V', up (up (up (up (up (up V (2 + 4 * k) a) (2 + 4 * k + 1) b) 0 l') (2 + 4 * k + 1 + 1) ca) (2 + 4 * k + 1 + 1 + 1) cb) 1 want' = V' := ⟨_, rfl⟩
  rw [hV'] at f6
  have v0 : V' 0 = l' := by rw [← hV']; simp [up]
  have v1 : V' 1 = want' := by rw [← hV']; simp [up]
  have va : V' (2 + 4 * k) = a := by rw [← hV']; simp only [up]; rw [if_neg (by omega), if_neg (by omega), if_neg (by omega), if_neg (by omega), if_neg (by omega), if_pos trivial]
  have vb : V' (2 + 4 * k + 1) = b := by rw [← hV']; simp only [up]; rw [if_neg (by omega), if_neg (by omega), if_neg (by omega), if_neg (by omega), if_pos trivial]
  have vc : V' (2 + 4 * k + 2) = ca := by rw [← hV']; simp only [up]; rw [if_neg (by omega), if_neg (by omega), if_pos trivial]
  have vd : V' (2 + 4 * k + 3) = cb := by rw [← hV']; simp only [up]; rw [if_neg (by omega), if_pos trivial]
  have vo : ∀ i, 2 ≤ i → i < 2 + 4 * k → V' i = V i := fun i h1 h2 => by rw [← hV']; simp only [up]; rw [if_neg (by omega), if_neg (by omega), if_neg (by omega), if_neg (by omega), if_neg (by omega), if_neg (by omega)]
  have ra : (List.range (2 * (k + 1))).map (fun j => V' (ai j)) = (List.range (2 * k)).map (fun j => V (ai j)) ++ [a, b] := by
    rw [show 2 * (k + 1) = 2 * k + 1 + 1 by omega, List.range_succ, List.range_succ, List.map_append, List.map_append, List.append_assoc]
    congr 1
    · apply List.map_congr_left
      intro j hj
      rw [List.mem_range] at hj
      exact vo _ (by unfold ai; omega) (by unfold ai; omega)
    · simp only [List.map_cons, List.map_nil, List.cons_append, List.nil_append]
      rw [show ai (2 * k) = 2 + 4 * k by unfold ai; omega, show ai (2 * k + 1) = 2 + 4 * k + 1 by unfold ai; omega, va, vb]
  have rw' : (List.range (2 * (k + 1))).map (fun j => V' (wi j)) = (List.range (2 * k)).map (fun j => V (wi j)) ++ [ca, cb] := by
    rw [show 2 * (k + 1) = 2 * k + 1 + 1 by omega, List.range_succ, List.range_succ, List.map_append, List.map_append, List.append_assoc]
    congr 1
    · apply List.map_congr_left
      intro j hj
      rw [List.mem_range] at hj
      exact vo _ (by unfold wi; omega) (by unfold wi; omega)
    · simp only [List.map_cons, List.map_nil, List.cons_append, List.nil_append]
      rw [show wi (2 * k) = 2 + 4 * k + 2 by unfold wi; omega, show wi (2 * k + 1) = 2 + 4 * k + 3 by unfold wi; omega, vc, vd]
  refine ⟨V', ⟨?_, v0, v1, Nat.le_trans hB5x ww.kept.size⟩, ?_⟩
  · rw [show 2 + 4 * (k + 1) = 2 + 4 * k + 1 + 1 + 1 + 1 by omega]
    refine f6.congr (fun i hi => ?_)
    rw [ra, rw']
    simp only [up]
    rcases (by omega : i = 0 ∨ i = 1 ∨ (2 ≤ i ∧ i < 2 + 4 * k) ∨ i = 2 + 4 * k ∨ i = 2 + 4 * k + 1 ∨ i = 2 + 4 * k + 2 ∨ i = 2 + 4 * k + 3) with rfl | rfl | ⟨h1, h2⟩ | rfl | rfl | rfl | rfl
    · simp
      rw [if_neg (by omega)]
      omega
    · simp
      rw [if_neg (by omega)]
      omega
    · have n0 : ¬ i < 2 := by omega
      have n1 : ¬ i = 0 := by omega
      have n2 : ¬ i = 1 := by omega
      have n3 : ¬ i = 2 + 4 * k := by omega
      have n4 : ¬ i = 2 + 4 * k + 1 := by omega
      have n5 : ¬ i = 2 + 4 * k + 1 + 1 := by omega
      have n6 : ¬ i = 2 + 4 * k + 1 + 1 + 1 := by omega
      simp only [n0, n1, n2, n3, n4, n5, n6, if_false, and_self]
    all_goals
      have q0 : (2 + 4 * k - 2) / 4 = k := by omega
      have q1 : (2 + 4 * k + 1 - 2) / 4 = k := by omega
      have q2 : (2 + 4 * k + 2 - 2) / 4 = k := by omega
      have q3 : (2 + 4 * k + 3 - 2) / 4 = k := by omega
      refine ⟨?_, trivial, ?_, ?_⟩
      all_goals
        repeat (first | rw [if_neg (by omega)] | rw [if_pos (by omega)])
        try simp only [q0, q1, q2, q3, hz]
  · have s1 := ba.size
    have s2 := bb.size
    have s3 := wl.kept.size
    have hlow : ∀ i x, i < 2 → (V i).ownBlock = some x → B ≤ x := fun i x hi hx => h.fam.low i x (by omega) hx
    have k1 : Kept (fun b => B ≤ b) wr (w2.alloc (.cells #[a, b] 41)) := Kept.of_below (ba.trans ((bb.trans (bx.mono bb.size)).mono ba.size))
    have k2 := k1.trans wl.kept (fun x hx => .inl (hlow 0 x (by omega) (by rw [h.l]; exact hx)))
    have k3 : Kept (fun b => B ≤ b) w3 (w5.alloc (.cells #[ca, cb] 41)) := Kept.of_below (bc.trans ((bd.trans (by'.mono bd.size)).mono bc.size))
    have k4 := k2.trans k3 (fun x hx => .inl hx)
    exact k4.trans ww.kept (fun x hx => .inl (hlow 1 x (by omega) (by rw [h.want]; exact hx)))
end
end Go.Proofs.Ythemibhajlgcdaa.Kin

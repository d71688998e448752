/- Rows beside one another, each in a block of its own; a row that grows beside the one it came from: what the tests for new memory want. Own text; Ytfpkdbogapmhmaa stands for the seat's name. -/
import Derived.Test.YtfpkdbogapmhmaaMem
import Derived.Laws.OwnMore
namespace Go.Proofs.Ytfpkdbogapmhmaa.Mem
open Go.RowKit

/-- An append upon an owned row: in place (same place, same capacity), or all is new and nothing elder has changed. -/
def Went (w w' : World) (v v' : Value) (n m : Nat) : Prop :=
  (∃ g c, v = .slice (some ⟨g, 0, none⟩) n c ∧ v' = .slice (some ⟨g, 0, none⟩) (n + m) c ∧ w.grownBy w' (some g)) ∨ (v'.ownBlock = some w.heap.size ∧ Below w.heap.size w w') ∨ (v' = v ∧ w' = w ∧ m = 0)
theorem run_app2 {P : Program} {w : World} (t ty e : TypeId) (base : Nat) (i : TypeInfo) (z : Value) (size bytes : Nat) (ht : P.underlying t = some (.slice e)) (hi : P.info? e = some i) (hz : i.zero = some z)
    (hsize : i.size = size) (hby : i.bytes = bytes) (hzs : z.cells.size = size) (hsz : 0 < size) {v : Value} {n : Nat} {xs : List Value} (hown : w.ownsRow base e size v n xs)
    {sp : Option Addr} {m c : Nat} {news : List Value} (hl : news.length = m * size) (hsrc : Holds w sp news) (h1 : ∀ u ∈ news, u.oneCell' = true) (hbytes : (n + m) * bytes ≤ 140737488355328) (hbp : 0 < bytes) (hbase : base ≤ w.heap.size) :
    ∃ v' w', (Builtin.append_ #[t, t] ty #[v, .slice sp m c]).run P w = .ok v' w' ∧ w'.ownsRow base e size v' (n + m) (xs ++ news) ∧ Went w w' v v' n m := by
  have h63 : n + m ≤ maxLen := by
    have : n + m ≤ (n + m) * bytes := Nat.le_mul_of_pos_right _ hbp
    unfold maxLen; omega
  by_cases hm : m = 0
  · obtain ⟨v', w', hr, h2, _, _, h5⟩ := run_app (P := P) t ty e base i z size bytes ht hi hz hsize hby hzs hsz hown hl hsrc h1 hbytes hbp hbase (c := c)
    obtain ⟨rfl, rfl⟩ := h5 hm
    exact ⟨_, _, hr, h2, .inr (.inr ⟨rfl, rfl, hm⟩)⟩
  · obtain ⟨ad, rfl, hnews⟩ := hsrc (by rw [hl]; exact Nat.mul_pos (by omega) hsz)
    obtain ⟨A, cap, rfl, hnc⟩ := own_slice hown
    by_cases hfit : n + m ≤ cap
    · obtain ⟨g, rfl⟩ : ∃ g, A = some ⟨g, 0, none⟩ := by
        rcases hown.2 with ⟨h, _⟩ | ⟨g, c', cur, h, _⟩
        · obtain ⟨_, _, rfl⟩ := by simpa using h
          omega
        · obtain ⟨rfl, _⟩ := by simpa using h
          exact ⟨g, rfl⟩
      obtain ⟨w', hr, h2, h3⟩ := run_append_fits (P := P) w base t ty e i size ht hi hsize g n cap xs hown ad m c news hl hnews h1 hfit
      exact ⟨_, w', hr, h2, .inl ⟨g, cap, rfl, rfl, h3⟩⟩
    · subst hsize
      subst hby
      have hs : Src P i.size t (.slice (some ad) m c) m news w := Src.ofSlice w ht ad m c news hl hnews h1
      have hold : (Builtin.firstCells i.size n (.slice A n cap)).run P w.drew = .ok xs.toArray w.drew := by
        rcases Nat.eq_zero_or_pos n with h0 | hp
        · subst h0
          obtain rfl : xs = [] := List.eq_nil_of_length_eq_zero (by simpa using hown.1)
          cases A with
          | none => exact run_firstCells_none w.drew i.size 0 0 cap
          | some a => exact run_firstCells_some w.drew i.size 0 a 0 cap [] (by simp) (by intro j u h; simp at h)
        · obtain ⟨g, c', cur, e1, hg, _, _, _, _, hx⟩ := own_form hown hp
          obtain ⟨rfl, rfl⟩ := by simpa using e1
          refine run_firstCells_some w.drew i.size n _ n cap xs hown.1 (fun j u hu => ?_)
          have e2 : (⟨g, 0, none⟩ : Addr).add j = ⟨g, j, none⟩ := by unfold Addr.add; split <;> simp_all
          rw [e2]
          exact hx j u hu
      have hg' : cap < n + m := by omega
      have hfit' : Builtin.nextslicecap (n + m) cap * i.bytes ≤ 281474976710656 := growslice_fits hg' hbytes
      have hrun := run_append_grow_src (P := P) w t t ty e i z ht hi hz A n cap xs hold _ m news hs hg' (by unfold maxLen at h63; omega) hfit'
      have hge := grownCap_ge w (n + m) cap e
      have hcm := grownCap_le_maxLen w (n + m) cap e h63
      have hL : (xs ++ news).length = (n + m) * i.size := by rw [List.length_append, hown.1, hl, Nat.add_mul]
      have hsz' : ((xs ++ news).toArray ++ Builtin.zeroCells z.cells (grownCap w (n + m) cap e - (n + m))).size = grownCap w (n + m) cap e * i.size := by
        rw [Array.size_append, List.size_toArray, hL, size_zeroCells, hzs, ← Nat.add_mul]
        congr 1
        omega
      refine ⟨_, _, hrun, ⟨hL, .inr ⟨w.heap.size, _, _, rfl, hbase, heap_alloc_new w.drew _, hge, hcm, hsz', ?_⟩⟩, .inr (.inl ⟨rfl, (Below.refl _ _).drew.alloc (Nat.le_refl _) _⟩)⟩
      rw [Array.toList_append, List.take_append_of_le_length (by simp [hL])]
      exact List.take_of_length_le (by simp [hL])
section
variable {P : Program} {ops : Array Oper} {rest : List Oper} {o : Oper} {a : Act} {K : Act → World → Prop} {Q : Exit → Act → World → Prop} {w : World}
/-- .. at the list of a plain region's operations. -/
theorem list_app2 (hgd : o.guard = none) (s x : Operand) (t : TypeId) (ho : o.op = .call { callee := .builtin .append, args := #[s, x], argTypes := #[t, t] })
    (e : TypeId) (base : Nat) (z : Value) (size bytes : Nat) (ht : P.underlying t = some (.slice e)) (hinfo : (P.info? e).map (fun i => (i.zero, i.size, i.bytes)) = some (some z, size, bytes))
    (hzs : z.cells.size = size) (hsz : 0 < size) (hbp : 0 < bytes) (v : Value) (n : Nat) (xs : List Value) (hs : a.eval s = v) (hown : w.ownsRow base e size v n xs)
    (sp : Option Addr) (m c : Nat) (news : List Value) (hx : a.eval x = .slice sp m c) (hl : news.length = m * size) (hsrc : Holds w sp news) (h1 : ∀ u ∈ news, u.oneCell' = true)
    (hbytes : (n + m) * bytes ≤ 140737488355328) (hbase : base ≤ w.heap.size)
    (h : ∀ v' w', w'.ownsRow base e size v' (n + m) (xs ++ news) → Went w w' v v' n m → wpList P ops Q rest (a.put o.dst v') w') :
    wpList P ops Q (o :: rest) a w := by
  refine wpList_plain hgd fun K hK => ?_
  obtain ⟨i, hi, hz, hsize, hby⟩ := info_parts hinfo
  obtain ⟨v', w', hr, h2, h3⟩ := run_app2 (P := P) t o.type e base i z size bytes ht hi hz hsize hby hzs hsz hown hl hsrc h1 hbytes hbp hbase (c := c)
  unfold Oper.wp execOp
  simp only [ho, resolve, invoke, builtin, Sem.run_bind, Sem.run_pure, Result.andThen_ok, List.map_toArray, List.map_cons, List.map_nil, hs, hx]
  rw [hr]
  exact hK _ _ (h v' w' h2 h3)
end

theorem Went.block {w w' : World} {v v' : Value} {n m : Nat} (h : Went w w' v v' n m) : v'.ownBlock = v.ownBlock ∨ v'.ownBlock = some w.heap.size := by
  rcases h with ⟨g, c, rfl, rfl, _⟩ | ⟨h, _⟩ | ⟨rfl, _, _⟩
  · exact .inl rfl
  · exact .inr h
  · exact .inl rfl
theorem Went.kept {w w' : World} {v v' : Value} {n m : Nat} (h : Went w w' v v' n m) : Kept (fun k => v.ownBlock = some k) w w' := by
  rcases h with ⟨g, c, rfl, rfl, hg⟩ | ⟨_, hb⟩ | ⟨_, rfl, _⟩
  · exact (Kept.refl _ _).grown hg (fun k hk => .inl hk)
  · exact Kept.of_below hb
  · exact Kept.refl _ _

/-- K rows, each in a block of its own. -/
structure Rows (e : TypeId) (sz : Nat) (w : World) (K : Nat) (V : Nat → Value) (N : Nat → Nat) (xs : Nat → List Value) : Prop where
  own : ∀ k, k < K → w.ownsRow 0 e sz (V k) (N k) (xs k)
  far : ∀ j k b, j < K → k < K → (V j).ownBlock = some b → (V k).ownBlock = some b → j = k
section
variable {e : TypeId} {sz : Nat} {w w' : World} {K : Nat} {V L : Nat → Value} {N M : Nat → Nat} {xs ys : Nat → List Value}
theorem Rows.kept {S : Nat → Prop} (h : Rows e sz w K V N xs) (hk : Kept S w w') (hS : ∀ k b, k < K → (V k).ownBlock = some b → ¬ S b) : Rows e sz w' K V N xs :=
  ⟨fun k hlt => own_kept (h.own k hlt) hk (fun b hb => hS k b hlt hb), h.far⟩
/-- One row is written over. -/
theorem Rows.wrote (h : Rows e sz w K V N xs) {k g n c : Nat} {cur cur' : Array Value} (hlt : k < K) (hV : V k = .slice (some ⟨g, 0, none⟩) n c) (hc : w.heap[g]? = some (.cells cur e (0, 0))) (hc' : w'.heap[g]? = some (.cells cur' e (0, 0)))
    (hs : cur'.size = cur.size) (hk : Kept (fun b => b = g) w w') : Rows e sz w' K V N (fun j => if j = k then cur'.toList.take (N k * sz) else xs j) := by
  refine ⟨fun j hj => ?_, h.far⟩
  by_cases hjk : j = k
  · subst hjk
    rw [show (if j = j then cur'.toList.take (N j * sz) else xs j) = cur'.toList.take (N j * sz) from if_pos rfl]
    obtain ⟨h1, h2⟩ := h.own j hj
    rw [hV] at h2 ⊢
    rcases h2 with ⟨h2, _⟩ | ⟨g', c', cu, e1, hb, hg, hnc, hcm, hcs, ht⟩
    · simp at h2
    · obtain ⟨rfl, rfl, rfl⟩ : g = g' ∧ n = N j ∧ c = c' := by simpa using e1
      rw [hc] at hg
      obtain rfl : cur = cu := by simpa using hg
      have : N j * sz ≤ cur.size := by rw [hcs]; exact Nat.mul_le_mul_right _ hnc
      refine ⟨?_, .inr ⟨g, c, cur', rfl, hb, hc', hnc, hcm, hs.trans hcs, rfl⟩⟩
      rw [List.length_take, Array.length_toList, hs]
      omega
  · simp only [if_neg hjk]
    exact own_kept (h.own j hj) hk (fun b hb e1 => hjk (h.far j k b hj hlt hb (by rw [hV, e1]; rfl)))
/-- A row of the same block, told by fewer elements. -/
theorem own_prefix {v l l' : Value} {n m m' : Nat} {xs ys ys' : List Value} {g : Nat} (hsz : 0 < sz) (hv : w.ownsRow 0 e sz v n xs) (hl : w.ownsRow 0 e sz l m ys) (hvb : v.ownBlock = some g) (hlb : l.ownBlock = some g)
    {c : Nat} (e1 : l = .slice (some ⟨g, 0, none⟩) m c) (e2 : l' = .slice (some ⟨g, 0, none⟩) m' c) (hl' : w'.ownsRow 0 e sz l' m' ys') (hnm : n ≤ m') (hpre : ys'.take (n * sz) = xs) : w'.ownsRow 0 e sz v n xs := by
  refine ⟨hv.1, ?_⟩
  rcases hv.2 with ⟨rfl, _⟩ | ⟨g1, c1, cu1, rfl, hb1, hg1, hn1, hm1, hs1, ht1⟩
  · simp [Value.ownBlock] at hvb
  · obtain rfl : g1 = g := by simpa [Value.ownBlock] using hvb
    rcases hl.2 with ⟨h, _⟩ | ⟨g2, c2, cu2, h, _, hg2, _, _, hs2, _⟩
    · rw [h] at e1; simp at e1
    · rw [h] at e1
      obtain ⟨rfl, rfl⟩ : g2 = g1 ∧ c2 = c := by simpa using e1
      rw [hg1] at hg2
      obtain rfl : cu1 = cu2 := by simpa using hg2
      have hcc : c1 = c2 := Nat.eq_of_mul_eq_mul_right hsz (hs1.symm.trans hs2)
      subst hcc
      rcases hl'.2 with ⟨h', _⟩ | ⟨g3, c3, cu3, h', _, hg3, hn3, _, hs3, ht3⟩
      · rw [h'] at e2; simp at e2
      · rw [h'] at e2
        obtain ⟨rfl, rfl⟩ : g3 = g2 ∧ c3 = c1 := by simpa using e2
        refine .inr ⟨g3, c3, cu3, rfl, hb1, hg3, hn1, hm1, hs3, ?_⟩
        rw [← hpre, ← ht3, List.take_take, Nat.min_eq_left (Nat.mul_le_mul_right _ hnm)]
/-- Each row, and what grew of it. -/
structure Pair (e : TypeId) (sz : Nat) (w : World) (K : Nat) (V : Nat → Value) (N : Nat → Nat) (xs : Nat → List Value) (L : Nat → Value) (M : Nat → Nat) (ys : Nat → List Value) : Prop where
  v : Rows e sz w K V N xs
  l : Rows e sz w K L M ys
  far : ∀ j k b, j < K → k < K → (L j).ownBlock = some b → (V k).ownBlock = some b → j = k
  pre : ∀ k, k < K → N k ≤ M k ∧ (ys k).take (N k * sz) = xs k
theorem Pair.start (h : Rows e sz w K V N xs) : Pair e sz w K V N xs V N xs :=
  ⟨h, h, fun j k b hj hk h1 h2 => h.far j k b hj hk h1 h2, fun k hk => ⟨Nat.le_refl _, List.take_of_length_le (Nat.le_of_eq (h.own k hk).1)⟩⟩
theorem Pair.kept {S : Nat → Prop} (h : Pair e sz w K V N xs L M ys) (hk : Kept S w w') (h1 : ∀ k b, k < K → (V k).ownBlock = some b → ¬ S b) (h2 : ∀ k b, k < K → (L k).ownBlock = some b → ¬ S b) : Pair e sz w' K V N xs L M ys :=
  ⟨h.v.kept hk h1, h.l.kept hk h2, h.far, h.pre⟩
/-- One of them grows. -/
theorem Pair.grow (hsz : 0 < sz) (h : Pair e sz w K V N xs L M ys) {k m : Nat} {v' : Value} {news : List Value} (hlt : k < K) (hown : w'.ownsRow 0 e sz v' (M k + m) (ys k ++ news)) (hw : Went w w' (L k) v' (M k) m) :
    Pair e sz w' K V N xs (fun j => if j = k then v' else L j) (fun j => if j = k then M k + m else M j) (fun j => if j = k then ys k ++ news else ys j) := by
  have hpre := h.pre k hlt
  have hlen := (h.l.own k hlt).1
  have hk := hw.kept
  have hnew : ∀ b, v'.ownBlock = some b → (L k).ownBlock = some b ∨ w.heap.size ≤ b := fun b hb => by
    rcases hw.block with e1 | e1
    · exact .inl (e1 ▸ hb)
    · exact .inr (by have := Option.some.inj (e1.symm.trans hb); omega)
  refine ⟨⟨fun j hj => ?_, h.v.far⟩, ⟨fun j hj => ?_, ?_⟩, ?_, fun j hj => ?_⟩
  · by_cases hjk : j = k
    · subst hjk
      rcases hw with ⟨g, c, e1, e2, hg⟩ | ⟨_, hb⟩ | ⟨_, rfl, _⟩
      · by_cases hvb : (V j).ownBlock = some g
        · refine own_prefix hsz (h.v.own j hj) (h.l.own j hj) hvb (by rw [e1]; rfl) e1 e2 hown (by omega) ?_
          rw [List.take_append_of_le_length (by rw [hlen]; exact Nat.mul_le_mul_right _ hpre.1)]
          exact hpre.2
        · exact own_kept (h.v.own j hj) ((Kept.refl (fun b => b = g) _).grown hg (fun b hb => .inl (Option.some.inj hb).symm)) (fun b hb e3 => hvb (e3 ▸ hb))
      · exact own_kept (S := fun _ => False) (h.v.own j hj) (Kept.of_below hb) (fun _ _ hf => hf)
      · exact h.v.own j hj
    · exact own_kept (h.v.own j hj) hk (fun b hb e1 => hjk (h.far k j b hlt hj e1 hb).symm)
  · by_cases hjk : j = k
    · subst hjk
      simpa using hown
    · simp only [if_neg hjk]
      exact own_kept (h.l.own j hj) hk (fun b hb e1 => hjk (h.l.far j k b hj hlt hb e1))
  · intro i j b hi hj h1 h2
    have old : ∀ i, i < K → ∀ b, (L i).ownBlock = some b → b < w.heap.size := fun i hi b hb => own_lt (h.l.own i hi) b hb
    by_cases hik : i = k <;> by_cases hjk : j = k
    · rw [hik, hjk]
    · simp only [if_pos hik, if_neg hjk] at h1 h2
      rcases hnew b h1 with h3 | h3
      · exact absurd (h.l.far k j b hlt hj h3 h2).symm hjk
      · have := old j hj b h2; omega
    · simp only [if_neg hik, if_pos hjk] at h1 h2
      rcases hnew b h2 with h3 | h3
      · exact absurd (h.l.far i k b hi hlt h1 h3) hik
      · have := old i hi b h1; omega
    · simp only [if_neg hik, if_neg hjk] at h1 h2
      exact h.l.far i j b hi hj h1 h2
  · intro i j b hi hj h1 h2
    by_cases hik : i = k
    · simp only [if_pos hik] at h1
      rcases hnew b h1 with h3 | h3
      · rw [hik]; exact h.far k j b hlt hj h3 h2
      · have := own_lt (h.v.own j hj) b h2; omega
    · simp only [if_neg hik] at h1
      exact h.far i j b hi hj h1 h2
  · by_cases hjk : j = k
    · subst hjk
      simp only [if_true]
      refine ⟨by omega, ?_⟩
      rw [List.take_append_of_le_length (by rw [hlen]; exact Nat.mul_le_mul_right _ hpre.1)]
      exact hpre.2
    · simp only [if_neg hjk]
      exact h.pre j hj
/-- What grew is told in other words. -/
theorem Pair.congr {L' : Nat → Value} {M' : Nat → Nat} {ys' : Nat → List Value} (h : Pair e sz w K V N xs L M ys) (hL : ∀ k, k < K → L' k = L k) (hM : ∀ k, k < K → M' k = M k) (hy : ∀ k, k < K → ys' k = ys k) : Pair e sz w K V N xs L' M' ys' :=
  ⟨h.v, ⟨fun k hk => by rw [hL k hk, hM k hk, hy k hk]; exact h.l.own k hk, fun i j b hi hj h1 h2 => h.l.far i j b hi hj (by rw [← hL i hi]; exact h1) (by rw [← hL j hj]; exact h2)⟩, fun i j b hi hj h1 h2 => h.far i j b hi hj (by rw [← hL i hi]; exact h1) h2, fun k hk => by rw [hM k hk, hy k hk]; exact h.pre k hk⟩
/-- One of them has grown, by a call of its own. -/
theorem Pair.grow2 (h : Pair e sz w K V N xs L M ys) {k M' : Nat} {v' : Value} {ys' : List Value} (hlt : k < K) (hown : w'.ownsRow 0 e sz v' M' ys') (hV : w'.ownsRow 0 e sz (V k) (N k) (xs k)) (hk : Kept (fun b => (L k).ownBlock = some b) w w') (hnew : ∀ b, v'.ownBlock = some b → (L k).ownBlock = some b ∨ w.heap.size ≤ b)
    (hpre : N k ≤ M' ∧ ys'.take (N k * sz) = xs k) : Pair e sz w' K V N xs (fun j => if j = k then v' else L j) (fun j => if j = k then M' else M j) (fun j => if j = k then ys' else ys j) := by
  refine ⟨⟨fun j hj => ?_, h.v.far⟩, ⟨fun j hj => ?_, ?_⟩, ?_, fun j hj => ?_⟩
  · by_cases hjk : j = k
    · subst hjk
      exact hV
    · exact own_kept (h.v.own j hj) hk (fun b hb e1 => hjk (h.far k j b hlt hj e1 hb).symm)
  · by_cases hjk : j = k
    · subst hjk
      simpa using hown
    · simp only [if_neg hjk]
      exact own_kept (h.l.own j hj) hk (fun b hb e1 => hjk (h.l.far j k b hj hlt hb e1))
  · intro i j b hi hj h1 h2
    have old : ∀ i, i < K → ∀ b, (L i).ownBlock = some b → b < w.heap.size := fun i hi b hb => own_lt (h.l.own i hi) b hb
    by_cases hik : i = k <;> by_cases hjk : j = k
    · rw [hik, hjk]
    · simp only [if_pos hik, if_neg hjk] at h1 h2
      rcases hnew b h1 with h3 | h3
      · exact absurd (h.l.far k j b hlt hj h3 h2).symm hjk
      · have := old j hj b h2; omega
    · simp only [if_neg hik, if_pos hjk] at h1 h2
      rcases hnew b h2 with h3 | h3
      · exact absurd (h.l.far i k b hi hlt h1 h3) hik
      · have := old i hi b h1; omega
    · simp only [if_neg hik, if_neg hjk] at h1 h2
      exact h.l.far i j b hi hj h1 h2
  · intro i j b hi hj h1 h2
    by_cases hik : i = k
    · simp only [if_pos hik] at h1
      rcases hnew b h1 with h3 | h3
      · rw [hik]; exact h.far k j b hlt hj h3 h2
      · have := own_lt (h.v.own j hj) b h2; omega
    · simp only [if_neg hik] at h1
      exact h.far i j b hi hj h1 h2
  · by_cases hjk : j = k
    · subst hjk
      simpa using hpre
    · simp only [if_neg hjk]
      exact h.pre j hj
end
end Go.Proofs.Ytfpkdbogapmhmaa.Mem

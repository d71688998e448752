/- DomainKeeps: into, and the law's own list. -/
import Derived.Test.YtepjhdppmegloaaOpened
import Derived.IntWalk
namespace Go.Proofs.Ytepjhdppmegloaa.Caps
open Go.RowKit Go.Proofs.Ytepjhdppmegloaa.Mem
def intoI (n top : Int) : Int := if n.tmod top < 0 then n.tmod top + top else n.tmod top
theorem intoI_lo (n : Int) {top : Int} (h : 0 < top) : 0 ≤ intoI n top := by
  unfold intoI
  have h1 := Int.tmod_lt_of_pos n h
  have h2 := Int.lt_tmod_of_pos n h
  split <;> omega
theorem intoI_hi (n : Int) {top : Int} (h : 0 < top) : intoI n top < top := by
  unfold intoI
  have h1 := Int.tmod_lt_of_pos n h
  split <;> omega
theorem into_any (w : World) (n top : Int) (h : 0 < top) (h2 : top ≤ 1000000) : Calls Try.prog 10 #[.int .i64 n, .int .i64 top] w fun e w' => e = .returned (.int .i64 (intoI n top)) ∧ w = w' := by
  have e1 := Int.tmod_lt_of_pos n h
  have e2 := Int.lt_tmod_of_pos n h
  unfold intoI
  obtain ⟨m, hm⟩ : ∃ m, n.tmod top = m := ⟨_, rfl⟩
  have hw : IntKind.i64.wrap (n.tmod top) = m := by rw [hm]; exact IntWalk.i64_in _ (by omega)
  rw [hm] at e1 e2 ⊢
  by_cases hneg : m < 0
  · rw [if_pos hneg]
    go_enter Try.func10, Try.ntmps10
    go_wp2
    go_ret
    exact ⟨rfl, rfl⟩
  · rw [if_neg hneg]
    go_enter Try.func10, Try.ntmps10
    go_wp2
    go_ret
    exact ⟨rfl, rfl⟩

/-- The law's own list: its cells lie from the start of a block on. -/
def OwnR (w : World) (v : Value) (l : List Cap) : Prop :=
  ∃ A c, v = .slice A l.length c ∧ l.length ≤ c ∧ c ≤ maxLen ∧ (0 < l.length → ∃ g, A = some ⟨g, 0, none⟩ ∧ ∀ j u, (capsC l)[j]? = some u → w.cell? ⟨g, j, none⟩ = some u)
theorem OwnR.reads {w : World} {v : Value} {l : List Cap} (h : OwnR w v l) : ReadsCaps w v l := by
  obtain ⟨A, c, rfl, h1, h2, h3⟩ := h
  refine ⟨A, c, rfl, Nat.le_trans h1 h2, fun hp => ?_⟩
  obtain ⟨g, rfl, h4⟩ := h3 hp
  exact ⟨g, 0, rfl, fun j u hu => by rw [Nat.zero_add]; exact h4 j u hu⟩
theorem ownR_nil (w : World) : OwnR w (.slice none 0 0) [] := ⟨none, 0, rfl, Nat.le_refl _, Nat.zero_le _, fun h => by simp at h⟩
theorem OwnR.of_own {w : World} {base : Nat} {v : Value} {l : List Cap} (h : w.ownsRow base 37 3 v l.length (capsC l)) : OwnR w v l := by
  rcases Nat.eq_zero_or_pos l.length with h0 | hp
  · obtain ⟨A, c, rfl, hc⟩ := own_slice h
    have hl := List.eq_nil_of_length_eq_zero h0
    rcases h.2 with ⟨h1, _⟩ | ⟨g, cap, cur, h1, _, _, _, hm, _⟩
    · obtain ⟨rfl, _, rfl⟩ := by simpa using h1
      exact ⟨none, 0, rfl, hc, Nat.zero_le _, fun h => by omega⟩
    · obtain ⟨rfl, rfl⟩ := by simpa using h1
      exact ⟨_, c, rfl, hc, hm, fun h => by omega⟩
  · obtain ⟨g, c, cur, rfl, hg, hc, hm, _, _, h1⟩ := own_form h hp
    exact ⟨_, c, rfl, hc, hm, fun _ => ⟨g, rfl, h1⟩⟩
theorem OwnR.away {w w' : World} {v : Value} {l : List Cap} {X : Nat → Prop} (h : OwnR w v l) (ha : Away X w w') (hX : ∀ k, v.ownBlock = some k → X k) : OwnR w' v l := by
  obtain ⟨A, c, rfl, h1, h2, h3⟩ := h
  refine ⟨A, c, rfl, h1, h2, fun hp => ?_⟩
  obtain ⟨g, rfl, h4⟩ := h3 hp
  exact ⟨g, rfl, fun j u hu => (Kept.cell ha (World.block_lt_of_cell? w _ (h4 j u hu)) (fun hn => hn (hX g rfl))).trans (h4 j u hu)⟩
/-- The list holds m, the law's own list l; nothing elder has changed. -/
def Half (w : World) (p : Nat) (most : Int) (m : List Cap) (v : Value) (l : List Cap) (wr : World) : Prop :=
  One 58 (fun k => k < w.heap.size ∨ v.ownBlock = some k) wr p most m ∧ OwnR wr v l ∧ Below w.heap.size w wr
section
variable {w wr : World} {p : Nat} {most : Int} {m l : List Cap} {v : Value}
theorem Half.below (h : Half w p most m v l wr) {w' : World} (hb : Below wr.heap.size wr w') : Half w p most m v l w' :=
  ⟨h.1.below hb, h.2.1.away (X := fun _ => True) (Away.of_below hb) (fun _ _ => trivial), h.2.2.trans (hb.mono h.2.2.size)⟩
theorem Half.away {m' : List Cap} (h : Half w p most m v l wr) {w' : World} (ho : One 58 (fun k => k < w.heap.size ∨ v.ownBlock = some k) w' p most m') (ha : Away (fun k => k < w.heap.size ∨ v.ownBlock = some k) wr w') : Half w p most m' v l w' :=
  ⟨ho, h.2.1.away ha (fun _ hk => .inr hk), h.2.2.trans (ha.below (fun _ hk => .inl hk) h.2.2.size)⟩
theorem half_add (h : Half w p most m v l wr) (x : Cap) (hb : m.length ≤ 1000000) : Calls Try.prog 11 #[.pointer (some ⟨p, 0, none⟩), capV x] wr fun e w' => e = .returned (.int .i64 (addE most m)) ∧ Half w p most (addL most m x) v l w' :=
  (one_add h.1 x hb).mono fun _ _ ⟨he, ho, ha⟩ => ⟨he, h.away ho ha⟩
theorem half_remove (h : Half w p most m v l wr) (i : Int) : Calls Try.prog 12 #[.pointer (some ⟨p, 0, none⟩), .int .i64 i] wr fun e w' => e = .returned (.tuple #[capV (remC m i), .int .i64 (remE m i)]) ∧ Half w p most (remL m i) v l w' := by
  rw [← remV_eq]
  exact (one_remove h.1 i).mono fun _ _ ⟨he, ho, ha⟩ => ⟨he, h.away ho ha⟩
theorem half_at (h : Half w p most m v l wr) (i : Int) : Calls Try.prog 16 #[.pointer (some ⟨p, 0, none⟩), .int .i64 i] wr fun e w' => e = .returned (.tuple #[capV (remC m i), .int .i64 (remE m i)]) ∧ Half w p most m v l w' := by
  rw [← atV_eq]
  exact (one_at h.1 i).mono fun _ _ ⟨he, hb⟩ => ⟨he, h.below hb⟩
/-- What the law's own list is behind an append. -/
theorem Half.grown {l' : List Cap} {v' : Value} {w' : World} (h : Half w p most m v l wr) (hown : w'.ownsRow w.heap.size 37 3 v' l'.length (capsC l')) (hg : wr.grownBy w' v.ownBlock) (hat : v'.ownBlock = v.ownBlock ∨ v'.ownBlock = some wr.heap.size) (hv : ∀ k, v.ownBlock = some k → w.heap.size ≤ k) : Half w p most m v' l' w' := by
  have ha : Away (fun k => v.ownBlock ≠ some k) wr w' := (Kept.refl (fun k => ¬ v.ownBlock ≠ some k) wr).grown hg (fun _ hk => .inl (fun hn => hn hk))
  obtain ⟨⟨F, h1, h2, h3⟩, h4, h5⟩ := h
  refine ⟨⟨F, h1.kept ha (fun k hf hn => hn (fun e => (h2 k hf).1 (.inr e))), fun k hf => ⟨?_, Nat.lt_of_lt_of_le (h2 k hf).2 ha.size⟩, ?_⟩, OwnR.of_own hown, h5.trans (ha.below (fun k hk e => by have := hv k e; omega) h5.size)⟩
  · rintro (hk | hk)
    · exact (h2 k hf).1 (.inl hk)
    · rcases hat with e | e
      · exact (h2 k hf).1 (.inr (e ▸ hk))
      · have := Option.some.inj (hk.symm.trans e)
        have := (h2 k hf).2
        omega
  · rintro k (hk | hk)
    · exact Nat.lt_of_lt_of_le hk (Nat.le_trans h5.size ha.size)
    · exact own_lt hown k hk

/-- The law's own list as a row that can be appended to. -/
def Full (w : World) (p : Nat) (most : Int) (m : List Cap) (v : Value) (l : List Cap) (wr : World) : Prop :=
  Half w p most m v l wr ∧ wr.ownsRow w.heap.size 37 3 v l.length (capsC l)
theorem Full.below (h : Full w p most m v l wr) {w' : World} (hb : Below wr.heap.size wr w') : Full w p most m v l w' :=
  ⟨h.1.below hb, own_keeps h.2 (Kept.of_below hb)⟩
theorem full_add (h : Full w p most m v l wr) (x : Cap) (hb : m.length ≤ 1000000) : Calls Try.prog 11 #[.pointer (some ⟨p, 0, none⟩), capV x] wr fun e w' => e = .returned (.int .i64 (addE most m)) ∧ Full w p most (addL most m x) v l w' :=
  (one_add h.1.1 x hb).mono fun _ _ ⟨he, ho, ha⟩ => ⟨he, h.1.away ho ha, own_kept h.2 ha (fun _ hk hn => hn (.inr hk))⟩
theorem Full.grown {l' : List Cap} {v' : Value} {w' : World} (h : Full w p most m v l wr) (hown : w'.ownsRow w.heap.size 37 3 v' l'.length (capsC l')) (hg : wr.grownBy w' v.ownBlock) (hat : v'.ownBlock = v.ownBlock ∨ v'.ownBlock = some wr.heap.size) : Full w p most m v' l' w' :=
  ⟨h.1.grown hown hg hat (fun k hk => (h.2.lt k hk).1), hown⟩
theorem full_start {W : World} (h : One 58 (fun k => k < w.heap.size) W p most []) (hb : Below w.heap.size w W) : Full w p most [] (.slice none 0 0) [] W :=
  ⟨⟨h.more (fun k hk => .inl (by simpa [Value.ownBlock] using hk)) (fun k hk => Nat.lt_of_lt_of_le (by simpa [Value.ownBlock] using hk) hb.size), ownR_nil _, hb⟩, World.ownsRow_nil _ _ _ _⟩
/-- What the append of the law's second loop gives: behind the cut nothing is left, or all is new. -/
theorem run_cut {w : World} {A : Option Addr} {n : Nat} {xs : List Value} (hxs : xs.length = n * 3) (hsrc0 : Holds w A xs) {sp : Option Addr} {m c : Nat} {news : List Value} (hl : news.length = m * 3) (hsrc : Holds w sp news) (h1 : ∀ u ∈ news, u.oneCell' = true) (hn : n + m ≤ 1000000) (ty : TypeId) :
    ∃ v' w', (Builtin.append_ #[43, 43] ty #[.slice A n n, .slice sp m c]).run Try.prog w = .ok v' w' ∧ Below w.heap.size w w' ∧ ((m = 0 ∧ v' = .slice A n n ∧ w' = w) ∨ (0 < m ∧ v'.ownBlock = some w.heap.size ∧ w.heap.size < w'.heap.size ∧ ∀ l' : List Cap, l'.length = n + m → capsC l' = xs ++ news → OwnR w' v' l')) := by
  obtain ⟨i, hi, hz, hsize, hby⟩ := info_parts info37
  by_cases hm : m = 0
  · subst hm
    obtain rfl : news = [] := List.eq_nil_of_length_eq_zero (by simpa using hl)
    refine ⟨.slice A n n, w, ?_, Below.refl _ _, .inl ⟨rfl, rfl, rfl⟩⟩
    refine run_append_nothing w 43 43 ty 37 i Try.underlying43 hi A n n (Nat.le_refl _) _ ?_
    cases sp with
    | none => exact Src.ofNil w Try.underlying43 c
    | some ad => exact Src.ofSlice w Try.underlying43 ad 0 c [] (by simp) (by intro j u h; simp at h) (by simp)
  · obtain ⟨ad, rfl, hnews⟩ := hsrc (by omega)
    have hs : Src Try.prog i.size 43 (.slice (some ad) m c) m news w := Src.ofSlice w Try.underlying43 ad m c news (by rw [hsize]; exact hl) hnews h1
    have hold : (Builtin.firstCells i.size n (.slice A n n)).run Try.prog w.drew = .ok xs.toArray w.drew := by
      rcases Nat.eq_zero_or_pos n with h0 | hp
      · subst h0
        obtain rfl : xs = [] := List.eq_nil_of_length_eq_zero (by simpa using hxs)
        cases A with
        | none => exact run_firstCells_none w.drew i.size 0 0 0
        | some a => exact run_firstCells_some w.drew i.size 0 a 0 0 [] (by simp) (by intro j u h; simp at h)
      · obtain ⟨a, rfl, hx⟩ := hsrc0 (by omega)
        exact run_firstCells_some w.drew i.size n a n n xs (by rw [hsize]; exact hxs) hx
    have hfit : Builtin.nextslicecap (n + m) n * i.bytes ≤ 281474976710656 := growslice_fits (by omega) (by rw [hby]; omega)
    have hrun := run_append_grow_src (P := Try.prog) w 43 43 ty 37 i _ Try.underlying43 hi hz A n n xs hold _ m news hs (by omega) (by omega) hfit
    have hge := grownCap_ge w (n + m) n 37
    have hcm := grownCap_le_maxLen w (n + m) n 37 (by unfold maxLen; omega)
    refine ⟨_, _, hrun, (Below.refl _ _).drew.alloc (Nat.le_refl _) _, .inr ⟨by omega, rfl, by simp, fun l' hl' hc' => ?_⟩⟩
    refine ⟨_, _, by rw [hl'], by omega, hcm, fun _ => ⟨_, rfl, fun j u hu => ?_⟩⟩
    rw [hc'] at hu
    refine cell_row (heap_alloc_new w.drew _) ?_
    rw [Array.getElem?_append_left (by simpa using (List.getElem?_eq_some_iff.1 hu).1), List.getElem?_toArray]
    exact hu

theorem getElem_capsC_drop {l : List Cap} {k q : Nat} {u : Value} (hu : (capsC (l.drop k))[q]? = some u) : (capsC l)[k * 3 + q]? = some u := by
  rwa [capsC_drop, List.getElem?_drop] at hu
theorem getElem_capsC_take {l : List Cap} {k q : Nat} {u : Value} (hu : (capsC (l.take k))[q]? = some u) : (capsC l)[q]? = some u := by
  rw [capsC_take, List.getElem?_take] at hu
  split at hu
  · exact hu
  · cases hu
section
variable {ops : Array Oper} {rest : List Oper} {o : Oper} {a : Act} {K : Act → World → Prop} {Q : Exit → Act → World → Prop}
theorem list_cut (hgd : o.guard = none) (s x : Operand) (ho : o.op = .call { callee := .builtin .append, args := #[s, x], argTypes := #[43, 43] })
    {g c j c2 : Nat} {sp : Option Addr} (h : Half w p most m (.slice (some ⟨g, 0, none⟩) l.length c) l wr) (hj : j < l.length) (hb : l.length ≤ 1000000) (hs : a.eval s = .slice (some ⟨g, 0, none⟩) j j) (hx : a.eval x = .slice sp (l.length - (j + 1)) c2)
    (hsp : j + 1 < l.length → sp = some ⟨g, (j + 1) * 3, none⟩) (hnew : ∀ v' w', Half w p most m v' (l.take j ++ l.drop (j + 1)) w' → wpList Try.prog ops Q rest (a.put o.dst v') w') : wpList Try.prog ops Q (o :: rest) a wr := by
  refine wpList_plain hgd fun K hK => ?_
  obtain ⟨⟨F, f1, f2, f3⟩, ⟨A, c', e, hl1, hl2, hcell⟩, hbel⟩ := id h
  obtain ⟨rfl, rfl⟩ : A = some ⟨g, 0, none⟩ ∧ c = c' := by simpa [eq_comm] using e
  obtain ⟨g', eg, hcell⟩ := hcell (by omega)
  obtain rfl : g = g' := by simpa using eg
  have hA : ∀ q, (⟨g, 0, none⟩ : Addr).add q = ⟨g, q, none⟩ := fun q => by unfold Addr.add; split <;> simp_all
  obtain ⟨v', w', hr, hbw, hcase⟩ := run_cut (w := wr) (A := some ⟨g, 0, none⟩) (n := j) (xs := capsC (l.take j)) (by rw [capsC_length, List.length_take, Nat.min_eq_left (by omega)]) (fun _ => ⟨_, rfl, fun q u hu => by rw [hA]; exact hcell q u (getElem_capsC_take hu)⟩)
    (sp := sp) (m := l.length - (j + 1)) (c := c2) (news := capsC (l.drop (j + 1))) (by rw [capsC_length, List.length_drop]) (fun hp => by
      rw [capsC_length, List.length_drop] at hp
      refine ⟨_, hsp (by omega), fun q u hu => ?_⟩
      have e2 : (⟨g, (j + 1) * 3, none⟩ : Addr).add q = ⟨g, (j + 1) * 3 + q, none⟩ := by unfold Addr.add; split <;> simp_all
      rw [e2]
      exact hcell _ u (getElem_capsC_drop hu)) (capsC_one _) (by omega) o.type
  have hlen : (l.take j ++ l.drop (j + 1)).length = j + (l.length - (j + 1)) := by simp; omega
  have hH : Half w p most m v' (l.take j ++ l.drop (j + 1)) w' := by
    rcases hcase with ⟨hm, rfl, rfl⟩ | ⟨hm, hob, hlt, hown⟩
    · refine ⟨⟨F, f1, f2, f3⟩, ⟨_, j, by rw [hlen, hm]; rfl, by omega, by omega, fun _ => ⟨g, rfl, fun q u hu => ?_⟩⟩, hbel⟩
      have e3 : l.drop (j + 1) = [] := List.drop_eq_nil_of_le (by omega)
      rw [e3, List.append_nil] at hu
      exact hcell q u (getElem_capsC_take hu)
    · refine ⟨h.1.widen hbw ?_, hown _ hlen (by rw [capsC_append]), hbel.trans (hbw.mono hbel.size)⟩
      rintro k (hk | hk)
      · exact ⟨.inl (.inl hk), Nat.lt_of_lt_of_le hk (Nat.le_trans hbel.size hbw.size)⟩
      · have := Option.some.inj (hob.symm.trans hk)
        exact ⟨.inr (by omega), by omega⟩
  unfold Oper.wp execOp
  simp only [ho, resolve, invoke, builtin, Sem.run_bind, Sem.run_pure, Result.andThen_ok, List.map_toArray, List.map_cons, List.map_nil, hs, hx]
  rw [hr]
  exact hK _ _ (hnew v' w' hH)
end
end
end Go.Proofs.Ytepjhdppmegloaa.Caps

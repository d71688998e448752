/- The document's cache: new, asked, turned; its set. -/
import Derived.Test.YtnebdabfandngaaCa4
namespace Go.Proofs.Ytnebdabfandngaa.C
open Go.RowKit Go.Proofs.Ytnebdabfandngaa.Mem
def enC (e : En) : List Value := [.int .i64 e.c.obj, .int .u64 e.c.hi, .int .u64 e.c.lo, .int .i64 e.r]
def ensC (l : List En) : List Value := l.flatMap enC
theorem ensC_length (l : List En) : (ensC l).length = l.length * 4 := by
  induction l with
  | nil => rfl
  | cons c l ih => rw [ensC, List.flatMap_cons, List.length_append, ← ensC, ih]; simp [enC]; omega
theorem ensC_at : ∀ (l : List En) (i : Nat) (j : Nat), i < l.length → j < 4 → (ensC l)[i * 4 + j]? = (enC (l.getD i e0))[j]?
  | [], i, j, h, _ => by simp at h
  | c :: l, 0, j, _, hj => by
    simp only [ensC, List.flatMap_cons, Nat.zero_mul, Nat.zero_add, List.getD_cons_zero]
    rw [List.getElem?_append_left (by simp [enC]; omega)]
  | c :: l, i + 1, j, h, hj => by
    simp only [ensC, List.flatMap_cons, List.getD_cons_succ]
    rw [List.getElem?_append_right (by simp [enC]; omega)]
    have := ensC_at l i j (by simpa using h) hj
    rw [← this]
    simp only [ensC]
    congr 1
    simp [enC]; omega
theorem info66 : (Try.prog.info? 66).map (fun i => (i.zero, i.size, i.bytes)) = some (some (.agg #[.int .i64 0, .int .u64 0, .int .u64 0, .int .i64 0]), 4, 32) := by kernel_rfl
/-- The document's cache at block r. -/
structure RV (w : World) (r : Nat) (s a k e y n : Int) (v : Value) (L : List En) (F : Nat → Prop) : Prop where
  row : w.heap[r]? = some (.cells #[.int .i64 s, .int .i64 a, .int .i64 k, .int .i64 e, .int .i64 y, .int .i64 n, v] 46 (0, 0))
  own : w.ownsRow 0 66 4 v L.length (ensC L)
  hr : F r
  hv : ∀ b, v.ownBlock = some b → F b ∧ b ≠ r
def RAt (w : World) (r : Nat) (s a k e y n : Int) (L : List En) (F : Nat → Prop) : Prop := ∃ v, RV w r s a k e y n v L F
section
variable {w w' : World} {r : Nat} {s a k e y n : Int} {v : Value} {L : List En} {F : Nat → Prop}
theorem RV.kept {S : Nat → Prop} (h : RV w r s a k e y n v L F) (hk : Kept S w w') (hS : ∀ b, F b → ¬ S b) : RV w' r s a k e y n v L F :=
  ⟨hk.row h.row (hS r h.hr), own_kept h.own hk (fun b hb => hS b (h.hv b hb).1), h.hr, h.hv⟩
theorem RV.kept2 {S : Nat → Prop} (h : RV w r s a k e y n v L F) (hk : Kept S w w') (h1 : ¬ S r) (h2 : ∀ b, v.ownBlock = some b → ¬ S b) : RV w' r s a k e y n v L F :=
  ⟨hk.row h.row h1, own_kept h.own hk h2, h.hr, h.hv⟩
theorem RV.below (h : RV w r s a k e y n v L F) (hb : Below w.heap.size w w') : RV w' r s a k e y n v L F := h.kept (S := fun _ => False) (Kept.of_below hb) (fun _ _ h => h)
theorem RAt.kept {S : Nat → Prop} (h : RAt w r s a k e y n L F) (hk : Kept S w w') (hS : ∀ b, F b → ¬ S b) : RAt w' r s a k e y n L F := by
  obtain ⟨v, h⟩ := h
  exact ⟨v, h.kept hk hS⟩
theorem RAt.below (h : RAt w r s a k e y n L F) (hb : Below w.heap.size w w') : RAt w' r s a k e y n L F := h.kept (S := fun _ => False) (Kept.of_below hb) (fun _ _ h => h)
theorem RV.cells (h : RV w r s a k e y n v L F) : w.cell? ⟨r, 0, none⟩ = some (.int .i64 s) ∧ w.cell? ⟨r, 1, none⟩ = some (.int .i64 a) ∧ w.cell? ⟨r, 2, none⟩ = some (.int .i64 k) ∧ w.cell? ⟨r, 3, none⟩ = some (.int .i64 e) ∧ w.cell? ⟨r, 4, none⟩ = some (.int .i64 y) ∧ w.cell? ⟨r, 5, none⟩ = some (.int .i64 n) ∧ w.cell? ⟨r, 6, none⟩ = some v ∧ (∀ j, w.frozen? ⟨r, j, none⟩ = false) ∧ r < w.heap.size :=
  ⟨cell_row h.row rfl, cell_row h.row rfl, cell_row h.row rfl, cell_row h.row rfl, cell_row h.row rfl, cell_row h.row rfl, cell_row h.row rfl, fun _ => free_row h.row, lt_of_row h.row⟩
theorem RV.item (h : RV w r s a k e y n v L F) {i : Nat} (hi : i < L.length) : ∃ g c, v = .slice (some ⟨g, 0, none⟩) L.length c ∧ L.length ≤ c ∧ c ≤ maxLen ∧ w.cell? ⟨g, i * 4, none⟩ = some (.int .i64 (L.getD i e0).c.obj) ∧ w.cell? ⟨g, i * 4 + 1, none⟩ = some (.int .u64 (L.getD i e0).c.hi) ∧ w.cell? ⟨g, i * 4 + 2, none⟩ = some (.int .u64 (L.getD i e0).c.lo) ∧ w.cell? ⟨g, i * 4 + 3, none⟩ = some (.int .i64 (L.getD i e0).r) := by
  obtain ⟨g, c, cur, rfl, _, hc, hm, _, _, hcell⟩ := own_form h.own (by omega)
  exact ⟨g, c, rfl, hc, hm, hcell _ _ (ensC_at L i 0 hi (by decide)), hcell _ _ (ensC_at L i 1 hi (by decide)), hcell _ _ (ensC_at L i 2 hi (by decide)), hcell _ _ (ensC_at L i 3 hi (by decide))⟩
theorem RV.slice (h : RV w r s a k e y n v L F) : ∃ A c, v = .slice A L.length c ∧ L.length ≤ c ∧ c ≤ maxLen := by
  obtain ⟨A, c, rfl, hc⟩ := own_slice h.own
  rcases Nat.eq_zero_or_pos L.length with h0 | h0
  · rcases h.own.2 with ⟨h1, _⟩ | ⟨g, c', cur, h1, _, _, hc', hm, _⟩
    · obtain ⟨rfl, _, rfl⟩ : A = none ∧ L.length = 0 ∧ c = 0 := by simpa using h1
      exact ⟨none, 0, rfl, by omega, Nat.zero_le _⟩
    · cases h1; exact ⟨_, _, rfl, hc', hm⟩
  · obtain ⟨g, c', cur, h1, _, hc', hm, _⟩ := own_form h.own h0
    cases h1
    exact ⟨_, _, rfl, hc', hm⟩
/-- One of the numbers is written anew. -/
theorem RV.set (h : RV w r s a k e y n v L F) (j : Nat) (hj : j = 3 ∨ j = 4 ∨ j = 5) (m : Int) : RV (w.setCell ⟨r, j, none⟩ (.int .i64 m)) r s a k (if j = 3 then m else e) (if j = 4 then m else y) (if j = 5 then m else n) v L F := by
  have hk : Kept (fun b => b = r) w (w.setCell ⟨r, j, none⟩ (.int .i64 m)) := (Kept.refl (fun b => b = r) w).setCell (p := ⟨r, j, none⟩) (.inl rfl) _
  refine ⟨?_, own_kept h.own hk (fun b hb => (h.hv b hb).2), h.hr, h.hv⟩
  rw [heap_setCell_same w r j _ _ (.int .i64 m) h.row]
  rcases hj with rfl | rfl | rfl <;> simp
/-- The list is exchanged. -/
theorem RV.list (h : RV w r s a k e y n v L F) {v' : Value} {L' : List En} (ho : w.ownsRow 0 66 4 v' L'.length (ensC L')) (hv' : ∀ b, v'.ownBlock = some b → F b ∧ b ≠ r) : RV (w.setCell ⟨r, 6, none⟩ v') r s a k e y n v' L' F := by
  have hk : Kept (fun b => b = r) w (w.setCell ⟨r, 6, none⟩ v') := (Kept.refl (fun b => b = r) w).setCell (p := ⟨r, 6, none⟩) (.inl rfl) _
  refine ⟨?_, own_kept ho hk (fun b hb => (hv' b hb).2), h.hr, hv'⟩
  have e1 := heap_setCell_same w r 6 _ _ v' h.row
  rw [e1]
  simp
end
theorem look_at : ∀ {L : List En} {i : Nat} {c : Cap}, i < L.length → (∀ j, j < i → (L.getD j e0).c ≠ c) → (L.getD i e0).c = c → look L c = some (L.getD i e0).r
  | x :: L, 0, c, _, _, h => by
    have h' : x.c = c := h
    simp [look, h']
  | x :: L, i + 1, c, hi, hn, h => by
    have h0 : ¬ x.c = c := hn 0 (by omega)
    have ih := look_at (L := L) (i := i) (c := c) (by simpa using hi) (fun j hj => hn (j + 1) (by omega)) h
    rw [look] at ih ⊢
    rw [List.find?_cons_of_neg (by simpa using h0), ih]
    rfl
theorem look_out {L : List En} {c : Cap} (hn : ∀ j, j < L.length → (L.getD j e0).c ≠ c) : look L c = none := by
  refine look_none fun x hx => ?_
  obtain ⟨i, hi, rfl⟩ := List.getElem_of_mem hx
  have := hn i hi
  rwa [List.getD_eq_getElem?_getD, List.getElem?_eq_getElem hi] at this
@[reducible] def lookV (o : Option Int) : Value := match o with | some m => .tuple #[.int .i64 m, .bool true] | none => .tuple #[.int .i64 0, .bool false]
def yesN (o : Option Int) (y : Int) : Int := match o with | some _ => wrap64 (y + 1) | none => y
def noN (o : Option Int) (n : Int) : Int := match o with | some _ => n | none => wrap64 (n + 1)
set_option maxHeartbeats 4000000 in
theorem rget_any (w : World) (r : Nat) (s a k e y n : Int) (L : List En) (F : Nat → Prop) (h : RAt w r s a k e y n L F) (c : Cap) :
    Calls Try.prog 11 #[.pointer (some ⟨r, 0, none⟩), capV c] w fun x w' => x = .returned (lookV (look L c)) ∧ RAt w' r s a k e (yesN (look L c) y) (noN (look L c) n) L F ∧ Kept (fun b => b = r) w w' := by
  obtain ⟨v, h⟩ := h
  have hb := (Below.refl w.heap.size w).alloc (Nat.le_refl _) (.cells #[.int .i64 c.obj, .int .u64 c.hi, .int .u64 c.lo] 36)
  obtain ⟨A, cp, rfl, hcp, hcm⟩ := h.slice
  have H0 := Lib.hid (h.below hb)
  have HB0 := Lib.hid hb
  have HC0 : Hid ((w.alloc (.cells #[.int .i64 c.obj, .int .u64 c.hi, .int .u64 c.lo] 36)).cell? ⟨w.heap.size, 0, none⟩ = some (.int .i64 c.obj) ∧ (w.alloc (.cells #[.int .i64 c.obj, .int .u64 c.hi, .int .u64 c.lo] 36)).cell? ⟨w.heap.size, 1, none⟩ = some (.int .u64 c.hi) ∧ (w.alloc (.cells #[.int .i64 c.obj, .int .u64 c.hi, .int .u64 c.lo] 36)).cell? ⟨w.heap.size, 2, none⟩ = some (.int .u64 c.lo)) := ⟨by simp, by simp, by simp⟩
  obtain ⟨N, hN⟩ : ∃ N, L.length = N := ⟨_, rfl⟩
  rw [hN] at hcp H0
  have HN := Lib.hid hN
  unfold maxLen at hcm
  have hq := eqCap
  obtain ⟨R, hR⟩ : ∃ R, look L c = R := ⟨_, rfl⟩
  rw [hR]
  have HR := Lib.hid hR
  clear h hb hN hR
  go_enter Try.func11, Try.ntmps11
  go_wp2_with fail
  go_loopw [6] (fun v6 wr => ∃ i : Nat, i ≤ N ∧ v6 = .int .i64 i ∧ Hid (∀ j, j < i → (L.getD j e0).c ≠ c) ∧ Hid (RV wr r s a k e y n (.slice A N cp) L F) ∧ Hid (Below w.heap.size w wr) ∧ Hid (wr.cell? ⟨w.heap.size, 0, none⟩ = some (.int .i64 c.obj) ∧ wr.cell? ⟨w.heap.size, 1, none⟩ = some (.int .u64 c.hi) ∧ wr.cell? ⟨w.heap.size, 2, none⟩ = some (.int .u64 c.lo))) (fun v6 _ => N - (intOf v6).toNat)
  case atStart => exact ⟨0, Nat.zero_le _, rfl, (fun j hj => by omega), H0, HB0, HC0⟩
  case round =>
    clear H0 HB0 HC0
    obtain ⟨i, hi, rfl, HI, HW, HB, HC⟩ := hrel
    obtain ⟨c0, c1, c2, c3, c4, c5, c6, cf, hrl⟩ := HW.out.cells
    have f4 := cf 4
    have f5 := cf 5
    clear cf c0 c1 c2 c3
    by_cases hlt : i < N
    · obtain ⟨g, c', e1, _, _, k0, k1, k2, k3⟩ := HW.out.item (i := i) (by rw [HN.out]; exact hlt)
      rw [HN.out] at e1
      obtain ⟨rfl, rfl⟩ : A = some ⟨g, 0, none⟩ ∧ cp = c' := by simpa using e1
      obtain ⟨m0, m1, m2⟩ := HC.out
      obtain ⟨b, hbq⟩ : ∃ b, capEq ⟨(L.getD i e0).c.obj, (L.getD i e0).c.hi, (L.getD i e0).c.lo⟩ ⟨c.obj, c.hi, c.lo⟩ = b := ⟨_, rfl⟩
      have hbi : ((L.getD i e0).c = c) ↔ b = true := by rw [← hbq]; exact (capEq_iff (L.getD i e0).c c).symm
      obtain ⟨x, hx⟩ : ∃ x, L.getD i e0 = x := ⟨_, rfl⟩
      have HX := Lib.hid hx
      rw [hx] at k0 k1 k2 k3 hbq hbi
      have HBI := Lib.hid hbi
      clear hx hbi e1
      cases b
      · go_wp2_with fail
        go_quiet (fail)
        go_wp2_with fail
        exact ⟨⟨i + 1, by omega, by simp, (fun j hj => by
          by_cases hji : j = i
          · subst hji
            rw [HX.out]
            intro e
            cases HBI.out.1 e
          · exact HI.out j (by omega)), HW.out.below (below_drewN _ _), below_q HB.out _, ⟨m0, m1, m2⟩⟩, by simp [intOf]; omega⟩
      · have hl : look L c = some x.r := by
          rw [← HX.out]
          exact look_at (by rw [HN.out]; exact hlt) HI.out (by rw [HX.out]; exact HBI.out.2 rfl)
        have HRX : Hid (R = some x.r) := by rw [← HR.out]; exact hl
        clear hl
        go_wp2_with fail
        go_quiet (fail)
        go_wp2_with fail
        rw [HRX.out]
        go_ret2
        exact ⟨rfl, ⟨_, (HW.out.below (below_drewN _ nq)).set 4 (by decide) _⟩, (Kept.of_below (S := fun b => b = r) (below_q HB.out nq)).setCell (p := ⟨r, 4, none⟩) (.inl rfl) _⟩
    · have : i = N := by omega
      subst this
      have HRX : Hid (R = none) := by
        rw [← HR.out]
        exact look_out (fun j hj => HI.out j (by rw [HN.out] at hj; exact hj))
      go_wp2_with fail
      rw [HRX.out]
      go_ret2
      exact ⟨rfl, ⟨_, HW.out.set 5 (by decide) _⟩, (Kept.of_below (S := fun b => b = r) HB.out).setCell (p := ⟨r, 5, none⟩) (.inl rfl) _⟩
set_option maxHeartbeats 4000000 in
theorem rnew_any (w : World) (s a k : Int) (h1 : 0 ≤ s) (h2 : s ≤ 16) (h3 : 1 ≤ a) (h4 : a ≤ 4) (h5 : 0 ≤ k) (h6 : k ≤ 64) :
    Calls Try.prog 7 #[.int .i64 s, .int .i64 a, .int .i64 k] w fun x w' => ∃ r, x = .returned (.tuple #[.pointer (some ⟨r, 0, none⟩), .int .i64 0]) ∧ (∀ F : Nat → Prop, F r → RAt w' r s a k 0 0 0 [] F) ∧ Below w.heap.size w w' ∧ w.heap.size ≤ r := by
  have d1 : decide (s < 0) = false := decide_eq_false (by omega)
  have d2 : decide (16 < s) = false := decide_eq_false (by omega)
  have d3 : decide (a < 1) = false := decide_eq_false (by omega)
  have d4 : decide (4 < a) = false := decide_eq_false (by omega)
  have d5 : decide (k < 0) = false := decide_eq_false (by omega)
  have d6 : decide (64 < k) = false := decide_eq_false (by omega)
  go_enter Try.func7, Try.ntmps7
  go_wp2_with fail
  go_ret2
  exact ⟨_, rfl, fun F hF => ⟨.slice none 0 0, heap_alloc_new w _, World.ownsRow_nil _ _ _ _, hF, fun b hb => by simp [Value.ownBlock] at hb⟩, (Below.refl _ w).alloc (Nat.le_refl _) _, Nat.le_refl _⟩
set_option maxHeartbeats 4000000 in
set_option maxRecDepth 100000 in
theorem rnew_no (w : World) (s a k : Int) (h : s < 0 ∨ 16 < s ∨ a < 1 ∨ 4 < a ∨ k < 0 ∨ 64 < k) :
    Calls Try.prog 7 #[.int .i64 s, .int .i64 a, .int .i64 k] w fun x w' => x = .returned (.tuple #[.pointer none, .int .i64 16]) ∧ w = w' := by
  have H := Lib.hid h
  clear h
  go_enter Try.func7, Try.ntmps7
  go_wp2
  all_goals first | (go_ret2; exact ⟨rfl, rfl⟩) | (exfalso; have := H.out; omega)
set_option maxHeartbeats 4000000 in
theorem rturn_any (w : World) (r : Nat) (s a k e y n : Int) (L : List En) (F : Nat → Prop) (h : RAt w r s a k e y n L F) (h0 : 0 ≤ e) (h1 : e ≤ 255) :
    Calls Try.prog 15 #[.pointer (some ⟨r, 0, none⟩)] w fun x w' => x = .returned (.tuple #[]) ∧ RAt w' r s a k (if e < 255 then e + 1 else 0) y n [] F ∧ Kept (fun b => b = r) w w' := by
  obtain ⟨v, h⟩ := h
  obtain ⟨c0, c1, c2, c3, c4, c5, c6, cf, hrl⟩ := h.cells
  have f3 := cf 3
  have f6 := cf 6
  have H := Lib.hid h
  clear cf c0 c1 c2 c4 c5 h
  by_cases hlt : e < 255
  · rw [if_pos hlt]
    go_enter Try.func15, Try.ntmps15
    go_wp2_with fail
    go_end0
    exact ⟨rfl, ⟨_, (H.out.list (v' := .slice none 0 0) (L' := []) (World.ownsRow_nil _ _ _ _) (fun b hb => by simp [Value.ownBlock] at hb)).set 3 (by decide) _⟩, ((Kept.refl (fun b => b = r) w).setCell (p := ⟨r, 6, none⟩) (.inl rfl) _).setCell (p := ⟨r, 3, none⟩) (.inl rfl) _⟩
  · rw [if_neg hlt]
    obtain rfl : e = 255 := by omega
    go_enter Try.func15, Try.ntmps15
    go_wp2_with fail
    go_end0
    exact ⟨rfl, ⟨_, ((H.out.list (v' := .slice none 0 0) (L' := []) (World.ownsRow_nil _ _ _ _) (fun b hb => by simp [Value.ownBlock] at hb)).set 3 (by decide) _).set 3 (by decide) _⟩, (((Kept.refl (fun b => b = r) w).setCell (p := ⟨r, 6, none⟩) (.inl rfl) _).setCell (p := ⟨r, 3, none⟩) (.inl rfl) _).setCell (p := ⟨r, 3, none⟩) (.inl rfl) _⟩
set_option maxHeartbeats 4000000 in
theorem rset_any (w : World) (r : Nat) (s : Nat) (a k e y n : Int) (L : List En) (F : Nat → Prop) (h : RAt w r s a k e y n L F) (hs : 0 < s) (hs16 : s ≤ 16) (c : Cap) :
    Calls Try.prog 23 #[.pointer (some ⟨r, 0, none⟩), capV c] w fun x w' => x = .returned (.int .u64 (homeN s k c)) ∧ Below w.heap.size w w' := by
  obtain ⟨v, h⟩ := h
  have hlt := lt_of_row h.row
  have hb := (Below.refl w.heap.size w).alloc (Nat.le_refl _) (.cells #[.int .i64 c.obj, .int .u64 c.hi, .int .u64 c.lo] 36)
  have ST : Hid (OfS w r s k c (w.alloc (.cells #[.int .i64 c.obj, .int .u64 c.hi, .int .u64 c.lo] 36)).drew) :=
    OfS.drew ⟨by simp, by simp, by simp, (hb.cell hlt).trans h.cells.1, (hb.cell hlt).trans h.cells.2.2.1, hb, by simp⟩
  have KEEP : Hid (∀ a b, Below a.heap.size a b → OfS w r s k c a → OfS w r s k c b) := fun a b hb h => OfS.later hlt hb h
  have HR := Mixed.hashK_range c.obj c.hi c.lo k
  have hhome : Hid (homeN s k c = (Mixed.hashK c.obj c.hi c.lo k).tmod (s : Int)) := rfl
  have HH : Hid (∀ w, Calls Try.prog 27 #[.int .i64 c.obj, .agg #[.int .u64 c.hi, .int .u64 c.lo], .int .i64 k] w fun e w' => e = .returned (.int .u64 (Mixed.hashK c.obj c.hi c.lo k)) ∧ Below w.heap.size w w') := fun w => by
    rw [Mixed.hash_same]
    exact Hash.ref_any c.obj c.hi c.lo k w
  obtain ⟨H, hH⟩ : ∃ H, Mixed.hashK c.obj c.hi c.lo k = H := ⟨_, rfl⟩
  rw [hH] at HR HH hhome
  have hs0 : ¬ s = 0 := by omega
  have e0 : IntKind.u64.wrap (s : Int) = (s : Int) := by rw [IntKind.wrap_u64]; omega
  have HM := Int.tmod_eq_emod_of_nonneg (b := (s : Int)) HR.1
  clear h hH hb
  go_enter Try.func23, Try.ntmps23
  go_wp2_with fail
  go_region_held3 (fun w' => w'.cell? ⟨w.heap.size, 0, none⟩ = some (.int .i64 c.obj) ∧ w'.cell? ⟨w.heap.size, 1, none⟩ = some (.int .u64 c.hi) ∧ w'.cell? ⟨w.heap.size, 2, none⟩ = some (.int .u64 c.lo) ∧ w'.cell? ⟨r, 0, none⟩ = some (.int .i64 s) ∧ w'.cell? ⟨r, 2, none⟩ = some (.int .i64 k) ∧ Below w.heap.size w w' ∧ w.heap.size < w'.heap.size)
    (first | exact ST.out | (refine KEEP.out _ _ (by with_reducible assumption) ?_; go_split_ands; exact ⟨by with_reducible assumption, by with_reducible assumption, by with_reducible assumption, by with_reducible assumption, by with_reducible assumption, by with_reducible assumption, by with_reducible assumption⟩) | go_keep)
    (first | (go_at_call 27; (with_reducible refine (HH.out _).mono ?_); rintro e w1 ⟨rfl, hb1⟩) | fail)
  all_goals (go_wp2; go_split_ands; go_ret; exact ⟨ret_num rfl (by rw [hhome.out, HM]), by with_reducible assumption⟩)
end Go.Proofs.Ytnebdabfandngaa.C

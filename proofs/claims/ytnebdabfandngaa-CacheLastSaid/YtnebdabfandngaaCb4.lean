/- CacheLast: the walk. -/
import Derived.Test.YtnebdabfandngaaCb3
namespace Go.Proofs.Ytnebdabfandngaa.C
open Go.RowKit Go.Proofs.Ytnebdabfandngaa.Mem
theorem info36 : (Try.prog.info? 36).map (fun i => (i.zero, i.size, i.bytes)) = some (some (.agg #[.int .i64 0, .int .u64 0, .int .u64 0]), 3, 24) := by kernel_rfl
def capsC (l : List Cap) : List Value := l.flatMap capL
theorem capsC_length (l : List Cap) : (capsC l).length = l.length * 3 := by
  induction l with
  | nil => rfl
  | cons c l ih => rw [capsC, List.flatMap_cons, List.length_append, ← capsC, ih]; simp [capL]; omega
theorem capsC_at : ∀ (l : List Cap) (i : Nat) (j : Nat), i < l.length → j < 3 → (capsC l)[i * 3 + j]? = (capL (l.getD i z0))[j]?
  | [], i, j, h, _ => by simp at h
  | c :: l, 0, j, _, hj => by
    simp only [capsC, List.flatMap_cons, Nat.zero_mul, Nat.zero_add, List.getD_cons_zero]
    rw [List.getElem?_append_left (by simp [capL]; omega)]
  | c :: l, i + 1, j, h, hj => by
    simp only [capsC, List.flatMap_cons, List.getD_cons_succ]
    rw [List.getElem?_append_right (by simp [capL]; omega)]
    have := capsC_at l i j (by simpa using h) hj
    rw [← this]
    simp only [capsC]
    congr 1
    simp [capL]; omega
/-- The right that is put for place i. -/
def rightZ (rs : List Int) (i : Nat) : Int := if i < rs.length then rs.getD i 0 else 7
def ReadsI (w : World) (v : Value) (l : List Int) : Prop :=
  ∃ A c, v = .slice A l.length c ∧ l.length ≤ c ∧ c ≤ maxLen ∧ (0 < l.length → ∃ g o, A = some ⟨g, o, none⟩ ∧ ∀ j z, l[j]? = some z → w.cell? ⟨g, o + j, none⟩ = some (.int .i64 z))
theorem ReadsI.below {w w' : World} {v : Value} {l : List Int} (h : ReadsI w v l) (hb : Below w.heap.size w w') : ReadsI w' v l := by
  obtain ⟨A, c, h1, h2, h3, h4⟩ := h
  refine ⟨A, c, h1, h2, h3, fun hp => ?_⟩
  obtain ⟨g, o, h5, h6⟩ := h4 hp
  exact ⟨g, o, h5, fun j z hz => (hb.cell (World.block_lt_of_cell? w _ (h6 j z hz))).trans (h6 j z hz)⟩
set_option maxHeartbeats 1000000 in
theorem right_any (w : World) (v : Value) (l : List Int) (h : ReadsI w v l) (i : Nat) : Calls Try.prog 18 #[v, .int .i64 i] w fun e w' => e = .returned (.int .i64 (rightZ l i)) ∧ w = w' := by
  obtain ⟨A, c, rfl, h1, h2, h3⟩ := h
  unfold maxLen at h2
  unfold rightZ
  obtain ⟨n, hn⟩ : ∃ n, l.length = n := ⟨_, rfl⟩
  rw [hn] at h1 h3 ⊢
  by_cases hlt : i < n
  · rw [if_pos hlt]
    obtain ⟨g, o, rfl, hc⟩ := h3 (by omega)
    obtain ⟨z, hz⟩ : ∃ z, l[i]? = some z := ⟨_, List.getElem?_eq_getElem (by rw [hn]; exact hlt)⟩
    have y0 := hc i z hz
    have e1 : l.getD i 0 = z := by rw [List.getD_eq_getElem?_getD, hz]; rfl
    rw [e1]
    clear hc h3 hn e1 hz
    go_enter Try.func18, Try.ntmps18
    go_wp2
    go_ret
    exact ⟨rfl, rfl⟩
  · rw [if_neg hlt]
    clear h3 hn
    go_enter Try.func18, Try.ntmps18
    go_wp2
    go_ret
    exact ⟨rfl, rfl⟩
theorem right_quiet (w : World) (n : Nat) (v : Value) (l : List Int) (h : ReadsI w v l) (i : Nat) : Calls Try.prog 18 #[v, .int .i64 i] (w.drewN n) fun e w' => e = .returned (.int .i64 (rightZ l i)) ∧ ∃ m, w' = w.drewN m :=
  (right_any _ v l (h.below (below_drewN w n)) i).mono (by rintro x w' ⟨rfl, rfl⟩; exact ⟨rfl, n, rfl⟩)
def amongB (S : List Cap) (c : Cap) : Bool := decide (c ∈ S)
structure Am (W : World) (A : Option Addr) (n cp : Nat) (S : List Cap) (c : Cap) (w : World) : Prop where
  own : w.ownsRow 0 36 3 (.slice A n cp) n (capsC S)
  below : Below W.heap.size W w
  o : w.cell? ⟨W.heap.size, 0, none⟩ = some (.int .i64 c.obj)
  h : w.cell? ⟨W.heap.size, 1, none⟩ = some (.int .u64 c.hi)
  l : w.cell? ⟨W.heap.size, 2, none⟩ = some (.int .u64 c.lo)
  big : W.heap.size < w.heap.size
theorem Am.box {W : World} {A : Option Addr} {n cp : Nat} {S : List Cap} {c : Cap} {w w' : World} (h : Am W A n cp S c w) (hb : Below w.heap.size w w') : Am W A n cp S c w' :=
  ⟨own_keeps h.own (Kept.of_below hb), h.below.trans (hb.mono h.below.size), (hb.cell h.big).trans h.o, (hb.cell h.big).trans h.h, (hb.cell h.big).trans h.l, Nat.lt_of_lt_of_le h.big hb.size⟩
set_option maxHeartbeats 4000000 in
theorem among_any (w : World) (A : Option Addr) (n cp : Nat) (S : List Cap) (hn : S.length = n) (hown : w.ownsRow 0 36 3 (.slice A n cp) n (capsC S)) (hcm : cp ≤ 9223372036854775807) (hncp : n ≤ cp) (c : Cap) :
    Calls Try.prog 19 #[.slice A n cp, capV c] w fun e w' => e = .returned (.bool (amongB S c)) ∧ Below w.heap.size w w' := by
  have H0 : Hid (Am w A n cp S c (w.alloc (.cells #[.int .i64 c.obj, .int .u64 c.hi, .int .u64 c.lo] 36))) := by
    have hb := (Below.refl w.heap.size w).alloc (Nat.le_refl _) (.cells #[.int .i64 c.obj, .int .u64 c.hi, .int .u64 c.lo] 36)
    exact ⟨own_keeps hown (Kept.of_below hb), hb, by simp, by simp, by simp, by simp⟩
  have HN := Lib.hid hn
  have hq := eqCap
  obtain ⟨B, hB⟩ : ∃ B, amongB S c = B := ⟨_, rfl⟩
  rw [hB]
  have HB := Lib.hid hB
  clear hn hown hB
  go_enter Try.func19, Try.ntmps19
  go_wp2_with fail
  go_loopw [5] (fun v5 wr => ∃ i : Nat, i ≤ n ∧ v5 = .int .i64 i ∧ Hid (∀ j, j < i → S.getD j z0 ≠ c) ∧ Hid (Am w A n cp S c wr)) (fun v5 _ => n - (intOf v5).toNat)
  case atStart => exact ⟨0, Nat.zero_le _, rfl, (fun j hj => by omega), H0⟩
  case round =>
    clear H0
    obtain ⟨i, hi, rfl, HI, HW⟩ := hrel
    by_cases hlt : i < n
    · obtain ⟨g, c', cur, e1, _, _, _, _, _, hcell⟩ := own_form HW.out.own (by omega)
      obtain ⟨rfl, rfl⟩ : A = some ⟨g, 0, none⟩ ∧ cp = c' := by simpa using e1
      have k0 := hcell _ _ (capsC_at S i 0 (by rw [HN.out]; exact hlt) (by decide))
      have k1 := hcell _ _ (capsC_at S i 1 (by rw [HN.out]; exact hlt) (by decide))
      have k2 := hcell _ _ (capsC_at S i 2 (by rw [HN.out]; exact hlt) (by decide))
      rw [Nat.add_zero] at k0
      have m0 := HW.out.o
      have m1 := HW.out.h
      have m2 := HW.out.l
      obtain ⟨x, hx⟩ : ∃ x, S.getD i z0 = x := ⟨_, rfl⟩
      rw [hx] at k0 k1 k2
      have HX := Lib.hid hx
      obtain ⟨b, hbq⟩ : ∃ b, capEq ⟨x.obj, x.hi, x.lo⟩ ⟨c.obj, c.hi, c.lo⟩ = b := ⟨_, rfl⟩
      have hbi : (x = c) ↔ b = true := by rw [← hbq]; exact (capEq_iff x c).symm
      have HBI := Lib.hid hbi
      clear hx hbi e1 hcell
      cases b
      · go_wp2_with fail
        go_quiet (fail)
        go_wp2_with fail
        exact ⟨⟨i + 1, by omega, by simp, (fun j hj => by
          by_cases hji : j = i
          · subst hji
            rw [HX.out]
            intro e
            cases HBI.out.1 e
          · exact HI.out j (by omega)), HW.out.box (below_drewN _ _)⟩, by simp [intOf]; omega⟩
      · have HT : Hid (B = true) := by
          rw [← HB.out]
          unfold amongB
          have e2 : x = c := HBI.out.2 rfl
          have hil : i < S.length := by rw [HN.out]; exact hlt
          rw [← e2, ← HX.out, List.getD_eq_getElem?_getD, List.getElem?_eq_getElem hil]
          exact decide_eq_true (List.getElem_mem hil)
        go_wp2_with fail
        go_quiet (fail)
        go_wp2_with fail
        rw [HT.out]
        go_ret
        exact ⟨rfl, below_q HW.out.below _⟩
    · have : i = n := by omega
      subst this
      have HT : Hid (B = false) := by
        rw [← HB.out]
        unfold amongB
        refine decide_eq_false (fun hm => ?_)
        obtain ⟨j, hj, hje⟩ := List.getElem_of_mem hm
        refine HI.out j (by rw [HN.out] at hj; exact hj) ?_
        rw [List.getD_eq_getElem?_getD, List.getElem?_eq_getElem hj]
        exact hje
      go_wp2_with fail
      rw [HT.out]
      go_ret
      exact ⟨rfl, HW.out.below⟩
end Go.Proofs.Ytnebdabfandngaa.C

/- markedCaps: rows written over with marks, lengthened, and looked at. -/
import Derived.Test.YtepjhdppmegloaaKeep0
import Derived.Test.YtepjhdppmegloaaRows2
import Derived.IntWalk
namespace Go.Proofs.Ytepjhdppmegloaa.Caps
open Go.RowKit Go.Proofs.Ytepjhdppmegloaa.Mem
def Mark (n : Nat) (ys : List Value) (k : Nat) : Prop := ∀ i, i < n → ys[i * 3]? = some (.int .i64 (-1 - (k : Int)))
def Touch (K : Nat) (V : Nat → Value) (b : Nat) : Prop := ∃ k, k < K ∧ (V k).ownBlock = some b
theorem info43 : (Try.prog.info? 43).map (fun i => (i.zero, i.size, i.bytes)) = some (some (.slice none 0 0), 1, 24) := by kernel_rfl
theorem mark_set {cur : Array Value} {n i k : Nat} {a b : Value} (hm : Mark i (cur.toList.take (n * 3)) k) (hi : i < n) (hs : n * 3 ≤ cur.size) :
    Mark (i + 1) ((((cur.setIfInBounds (i * 3) (.int .i64 (-1 - (k : Int)))).setIfInBounds (i * 3 + 1) a).setIfInBounds (i * 3 + 2) b).toList.take (n * 3)) k := by
  intro j hj
  rw [List.getElem?_take, if_pos (by omega)]
  simp only [Array.getElem?_toList, Array.getElem?_setIfInBounds]
  rw [if_neg (by omega), if_neg (by omega)]
  by_cases h : j = i
  · subst h
    rw [if_pos rfl, if_pos (by omega)]
  · rw [if_neg (by omega)]
    have := hm j (by omega)
    rw [List.getElem?_take, if_pos (by omega)] at this
    simpa using this
/-- What holds behind k rows and t appends upon the next. -/
structure Big (w : World) (K : Nat) (V : Nat → Value) (N : Nat → Nat) (xs : Nat → List Value) (k t : Nat) (v5 : Value) (L : Nat → Value) (M : Nat → Nat) (ys : Nat → List Value) (wr : World) : Prop where
  pair : Pair 37 3 wr K V N xs L M ys
  long : wr.ownsRow 0 43 1 v5 k ((List.range k).map L)
  far : ∀ b, v5.ownBlock = some b → w.heap.size ≤ b ∧ ∀ j, j < K → (V j).ownBlock ≠ some b ∧ (L j).ownBlock ≠ some b
  kept : Kept (Touch K V) w wr
  new : ∀ j b, j < K → (L j).ownBlock = some b → Touch K V b ∨ w.heap.size ≤ b
  mark : ∀ j, j < K → Mark (M j) (ys j) j
  done : ∀ j, j < k → M j = N j + 40
  now : k < K → M k = N k + t
  start : ∀ j, j < K → k ≤ j → (j = k → t = 0) → L j = V j ∧ M j = N j
section
variable {w wr : World} {K : Nat} {V : Nat → Value} {N : Nat → Nat} {xs : Nat → List Value} {k t : Nat} {v5 : Value} {L : Nat → Value} {M : Nat → Nat} {ys : Nat → List Value}
theorem Big.below (h : Big w K V N xs k t v5 L M ys wr) {w' : World} (hb : Below wr.heap.size wr w') : Big w K V N xs k t v5 L M ys w' :=
  ⟨h.pair.kept (S := fun _ => False) (Kept.of_below hb) (fun _ _ _ _ hf => hf) (fun _ _ _ _ hf => hf), own_keeps h.long (Kept.of_below hb), h.far, h.kept.then_below hb, h.new, h.mark, h.done, h.now, h.start⟩
theorem Big.grow (h : Big w K V N xs k t v5 L M ys wr) (hk : k < K) {w' : World} {v' : Value} {a b : Value} (hown : w'.ownsRow 0 37 3 v' (M k + 1) (ys k ++ [.int .i64 (-1 - (k : Int)), a, b])) (hw : Went wr w' (L k) v' (M k) 1) :
    ∃ L' M' ys', L' k = v' ∧ Big w K V N xs k (t + 1) v5 L' M' ys' w' := by
  refine ⟨_, _, _, ?_, h.pair.grow (by omega) hk hown hw, ?_, ?_, ?_, ?_, ?_, ?_, ?_, ?_⟩
  · simp
  · have e : (List.range k).map (fun j => if j = k then v' else L j) = (List.range k).map L := by
      apply List.map_congr_left
      intro j hj
      rw [List.mem_range] at hj
      rw [if_neg (by omega)]
    rw [e]
    exact own_kept h.long hw.kept (fun b hb e1 => ((h.far b hb).2 k hk).2 e1)
  · intro b hb
    refine ⟨(h.far b hb).1, fun j hj => ⟨((h.far b hb).2 j hj).1, fun e1 => ?_⟩⟩
    by_cases hjk : j = k
    · simp only [if_pos hjk] at e1
      rcases hw.block with e2 | e2
      · exact ((h.far b hb).2 k hk).2 (e2 ▸ e1)
      · have h1 := own_lt h.long b hb
        have h2 := Option.some.inj (e2.symm.trans e1)
        omega
    · simp only [if_neg hjk] at e1
      exact ((h.far b hb).2 j hj).2 e1
  · exact h.kept.trans hw.kept (fun b hb => h.new k b hk hb)
  · intro j b hj e1
    by_cases hjk : j = k
    · simp only [if_pos hjk] at e1
      rcases hw.block with e2 | e2
      · exact h.new k b hk (e2 ▸ e1)
      · exact .inr (by have := Option.some.inj (e2.symm.trans e1); have := h.kept.size; omega)
    · simp only [if_neg hjk] at e1
      exact h.new j b hj e1
  · intro j hj
    by_cases hjk : j = k
    · subst hjk
      simp only [if_true]
      have hl := (h.pair.l.own j hk).1
      intro i hi
      by_cases hlt : i < M j
      · rw [List.getElem?_append_left (by omega)]
        exact h.mark j hj i hlt
      · obtain rfl : i = M j := by omega
        rw [List.getElem?_append_right (by omega), hl]
        simp
    · simp only [if_neg hjk]
      exact h.mark j hj
  · intro j hj
    rw [if_neg (by omega)]
    exact h.done j hj
  · intro _
    simp only [if_true]
    have := h.now hk
    omega
  · intro j hj hkj hjt
    have hne : j ≠ k := fun e => by have := hjt e; omega
    simp only [if_neg hne]
    exact h.start j hj hkj (fun e => absurd e hne)
theorem Big.next (h : Big w K V N xs k 40 v5 L M ys wr) (hk : k < K) {w' : World} {v' : Value} (hown : w'.ownsRow 0 43 1 v' (k + 1) ((List.range k).map L ++ [L k])) (hw : Went wr w' v5 v' k 1) : Big w K V N xs (k + 1) 0 v' L M ys w' := by
  refine ⟨h.pair.kept hw.kept (fun j b hj e1 e2 => ((h.far b e2).2 j hj).1 e1) (fun j b hj e1 e2 => ((h.far b e2).2 j hj).2 e1), ?_, ?_, h.kept.trans hw.kept (fun b hb => .inr (h.far b hb).1), h.new, h.mark, ?_, ?_, ?_⟩
  · rw [List.range_succ, List.map_append]
    simpa using hown
  · intro b hb
    rcases hw.block with e1 | e1
    · exact h.far b (e1 ▸ hb)
    · have e2 := Option.some.inj (e1.symm.trans hb)
      refine ⟨by have := h.kept.size; omega, fun j hj => ⟨fun e3 => ?_, fun e3 => ?_⟩⟩
      · have := own_lt (h.pair.v.own j hj) b e3; omega
      · have := own_lt (h.pair.l.own j hj) b e3; omega
  · intro j hj
    by_cases hjk : j = k
    · rw [hjk]; exact h.now hk
    · exact h.done j (by omega)
  · intro hk1
    rw [(h.start (k + 1) hk1 (by omega) (fun e => by omega)).2]
    omega
  · intro j hj hkj _
    exact h.start j hj (by omega) (fun e => by omega)
theorem big_start (h : Mem.Rows 37 3 wr K V N xs) (hk : Kept (Touch K V) w wr) (hm : ∀ j, j < K → Mark (N j) (xs j) j) : Big w K V N xs 0 0 (.slice none 0 0) V N xs wr :=
  ⟨Pair.start h, World.ownsRow_nil _ _ _ _, fun b hb => by simp [Value.ownBlock] at hb, hk, fun j b hj e => .inl ⟨j, hj, e⟩, hm, fun j hj => by omega, fun _ => rfl, fun j _ _ _ => ⟨rfl, rfl⟩⟩
end

/-- The first loop's state. -/
def First (w : World) (K : Nat) (V : Nat → Value) (N : Nat → Nat) (k i : Nat) (wr : World) : Prop :=
  ∃ xs, Mem.Rows 37 3 wr K V N xs ∧ Kept (Touch K V) w wr ∧ (∀ j, j < k → j < K → Mark (N j) (xs j) j) ∧ (k < K → Mark i (xs k) k)
section
variable {w wr : World} {K : Nat} {V : Nat → Value} {N : Nat → Nat}
theorem First.next {k : Nat} (h : First w K V N k (N k) wr) (hk : k < K) : First w K V N (k + 1) 0 wr := by
  obtain ⟨xs, h1, h2, h3, h4⟩ := h
  refine ⟨xs, h1, h2, fun j hj hjK => ?_, fun _ i hi => by omega⟩
  by_cases hjk : j = k
  · rw [hjk]; exact h4 hk
  · exact h3 j (by omega) hjK
theorem First.form {k i : Nat} (h : First w K V N k i wr) (hk : k < K) (hi : i < N k) : ∃ g c cur, V k = .slice (some ⟨g, 0, none⟩) (N k) c ∧ wr.heap[g]? = some (.cells cur 37 (0, 0)) ∧ N k ≤ c ∧ c ≤ maxLen ∧ i * 3 + 3 ≤ cur.size := by
  obtain ⟨xs, h1, _⟩ := h
  obtain ⟨g, c, cur, e1, hg, hc, hcm, hs, _⟩ := own_form (h1.own k hk) (by omega)
  exact ⟨g, c, cur, e1, hg, hc, hcm, by rw [hs]; omega⟩
theorem First.store {k i g c : Nat} {cur : Array Value} (h : First w K V N k i wr) (hk : k < K) (hi : i < N k) (hV : V k = .slice (some ⟨g, 0, none⟩) (N k) c) (hg : wr.heap[g]? = some (.cells cur 37 (0, 0))) (a b : Value) :
    First w K V N k (i + 1) (((wr.setCell ⟨g, i * 3, none⟩ (.int .i64 (-1 - (k : Int)))).setCell ⟨g, i * 3 + 1, none⟩ a).setCell ⟨g, i * 3 + 2, none⟩ b) := by
  obtain ⟨xs, h1, h2, h3, h4⟩ := h
  have e1 := heap_setCell_same wr g (i * 3) _ _ (.int .i64 (-1 - (k : Int))) hg
  have e2 := heap_setCell_same _ g (i * 3 + 1) _ _ a e1
  have e3 := heap_setCell_same _ g (i * 3 + 2) _ _ b e2
  have hkept : Kept (fun b => b = g) wr (((wr.setCell ⟨g, i * 3, none⟩ (.int .i64 (-1 - (k : Int)))).setCell ⟨g, i * 3 + 1, none⟩ a).setCell ⟨g, i * 3 + 2, none⟩ b) := (((Kept.refl (fun b => b = g) wr).setCell (.inl rfl) _).setCell (.inl rfl) _).setCell (.inl rfl) _
  have hT : Touch K V g := ⟨k, hk, by rw [hV]; rfl⟩
  have hcur : xs k = cur.toList.take (N k * 3) ∧ N k * 3 ≤ cur.size := by
    obtain ⟨_, ho⟩ := h1.own k hk
    rw [hV] at ho
    rcases ho with ⟨ho, _⟩ | ⟨g', c', cu, e5, _, hg', hnc, _, hcs, ht⟩
    · simp at ho
    · obtain ⟨rfl, rfl⟩ : g = g' ∧ c = c' := by simpa using e5
      rw [hg] at hg'
      obtain rfl : cur = cu := by simpa using hg'
      exact ⟨ht.symm, by rw [hcs]; exact Nat.mul_le_mul_right _ hnc⟩
  refine ⟨_, h1.wrote hk hV hg e3 (by simp) hkept, h2.trans hkept (fun x hx => .inl (hx ▸ hT)), fun j hj hjK => ?_, fun _ => ?_⟩
  · rw [if_neg (by omega)]
    exact h3 j hj hjK
  · rw [if_pos rfl]
    have := h4 hk
    rw [hcur.1] at this
    exact mark_set this hi hcur.2
end
set_option maxHeartbeats 4000000 in
set_option maxRecDepth 100000 in
theorem marked_any (w : World) (K : Nat) (hK : K ≤ 1000) (V : Nat → Value) (N : Nat → Nat) (xs : Nat → List Value) (h : Mem.Rows 37 3 w K V N xs) (hN : ∀ k, k < K → N k ≤ 1000000) (G o cap : Nat) (hall : ∀ k, k < K → w.cell? ⟨G, o + k, none⟩ = some (V k)) (hG : ∀ k, k < K → (V k).ownBlock ≠ some G) (hlt : G < w.heap.size) :
    Calls Try.prog 18 #[.slice (some ⟨G, o, none⟩) K cap] w fun e w' => e = .returned (.bool true) ∧ Kept (Touch K V) w w' := by
  have HF : Hid (First w K V N 0 0 w) := ⟨xs, h, Kept.refl _ _, fun j hj => by omega, fun _ i hi => by omega⟩
  have HC : Hid (∀ wr, Kept (Touch K V) w wr → ∀ k, k < K → wr.cell? ⟨G, o + k, none⟩ = some (V k)) := fun wr hk k hlt' => (hk.cell hlt (by rintro ⟨j, hj, e⟩; exact hG j hj e)).trans (hall k hlt')
  have HN := Lib.hid hN
  have HV : Hid (∀ k, k < K → ∃ A c, V k = .slice A (N k) c) := fun k hk => by
    obtain ⟨A, c, e, _⟩ := own_slice (h.own k hk)
    exact ⟨A, c, e⟩
  clear h hall hG hN
  go_enter Try.func18, Try.ntmps18
  go_wp2_with fail
  go_loopw [3] (fun v3 wr => ∃ k : Nat, k ≤ K ∧ v3 = .int .i64 k ∧ Hid (First w K V N k 0 wr)) (fun v3 _ => K - (intOf v3).toNat)
  case atStart => exact ⟨0, Nat.zero_le _, rfl, HF⟩
  case round =>
    clear HF
    obtain ⟨k, hk, rfl, HF⟩ := hrel
    by_cases hlt1 : k < K
    · obtain ⟨A, c, hV⟩ := HV.out k hlt1
      have hn := HN.out k hlt1
      obtain ⟨n, en⟩ : ∃ n, N k = n := ⟨_, rfl⟩
      rw [en] at hV hn
      have EN := Lib.hid en
      have HVk := Lib.hid hV
      clear en hV
      go_wp2_with fail
      go_loopw [4] (fun v4 wr => ∃ i : Nat, i ≤ n ∧ v4 = .int .i64 i ∧ Hid (First w K V N k i wr)) (fun v4 _ => n - (intOf v4).toNat)
      case atStart => exact ⟨0, Nat.zero_le _, rfl, HF⟩
      case round =>
        clear HF
        obtain ⟨i, hi, rfl, HF⟩ := hrel
        have c0 := HC.out _ HF.out.choose_spec.2.1 k hlt1
        rw [HVk.out] at c0
        by_cases hlt2 : i < n
        · obtain ⟨g, c', cur, e1, hg, hc', hcm, hcs⟩ := HF.out.form hlt1 (by rw [EN.out]; exact hlt2)
          rw [HVk.out, EN.out] at e1
          obtain ⟨rfl, rfl⟩ : A = some ⟨g, 0, none⟩ ∧ c = c' := by simpa using e1
          rw [EN.out] at hc'
          unfold maxLen at hcm
          have q0 : wr.cell? ⟨g, i * 3, none⟩ = some cur[i * 3] := cell_row hg (by simp)
          have q1 : wr.cell? ⟨g, i * 3 + 1, none⟩ = some cur[i * 3 + 1] := cell_row hg (by simp)
          have q2 : wr.cell? ⟨g, i * 3 + 2, none⟩ = some cur[i * 3 + 2] := cell_row hg (by simp)
          have f0 : wr.frozen? ⟨g, i * 3, none⟩ = false := free_row hg
          have f1 : wr.frozen? ⟨g, i * 3 + 1, none⟩ = false := free_row hg
          have f2 : wr.frozen? ⟨g, i * 3 + 2, none⟩ = false := free_row hg
          have HG := Lib.hid hg
          clear hg e1
          go_wp2_with fail
          exact ⟨⟨i + 1, by omega, by simp, HF.out.store hlt1 (by rw [EN.out]; exact hlt2) (by rw [EN.out]; exact HVk.out) HG.out _ _⟩, by simp [intOf]; omega⟩
        · have : i = n := by omega
          subst this
          have HF1 : Hid (First w K V N (k + 1) 0 wr) := First.next (by rw [EN.out]; exact HF.out) hlt1
          go_wp2_with fail
          exact ⟨⟨k + 1, by omega, by simp, HF1⟩, by simp [intOf]; omega⟩
    · have : k = K := by omega
      subst this
      obtain ⟨ys0, HB⟩ : ∃ ys, Hid (Big w k V N ys 0 0 (.slice none 0 0) V N ys wr) := by
        obtain ⟨ys, h1, h2, h3, _⟩ := HF.out
        exact ⟨ys, big_start h1 h2 (fun j hj => h3 j hj hj)⟩
      clear HF
      go_wp2_with fail
      go_loopw [5, 6] (fun v5 v6 wr => ∃ (j : Nat) (A5 : Option Addr) (c5 : Nat) (L : Nat → Value) (M : Nat → Nat) (ys : Nat → List Value), j ≤ k ∧ v6 = .int .i64 j ∧ v5 = .slice A5 j c5 ∧ Hid (Big w k V N ys0 j 0 (.slice A5 j c5) L M ys wr)) (fun _ v6 _ => k - (intOf v6).toNat)
      case atStart => exact ⟨0, none, 0, V, N, ys0, Nat.zero_le _, rfl, rfl, HB⟩
      case round =>
        clear HB
        obtain ⟨j, A5, c5, L, M, ys, hj, rfl, rfl, HB⟩ := hrel
        by_cases hlt1 : j < k
        · obtain ⟨A, c, hV⟩ := HV.out j hlt1
          have hn := HN.out j hlt1
          obtain ⟨n, en⟩ : ∃ n, N j = n := ⟨_, rfl⟩
          rw [en] at hV hn
          have EN := Lib.hid en
          have HVj := Lib.hid hV
          have c0 := HC.out _ HB.out.kept j hlt1
          rw [hV] at c0
          have HL0 : Hid (L j = .slice A n c) := (HB.out.start j hlt1 (Nat.le_refl _) (fun _ => rfl)).1.trans hV
          clear en hV
          go_wp2_with fail
          go_loopw [7, 8] (fun v7 v8 wr => ∃ (i : Nat) (A7 : Option Addr) (c7 : Nat) (L : Nat → Value) (M : Nat → Nat) (ys : Nat → List Value), i ≤ 40 ∧ v8 = .int .i64 i ∧ v7 = .slice A7 (n + i) c7 ∧ Hid (L j = .slice A7 (n + i) c7) ∧ Hid (Big w k V N ys0 j i (.slice A5 j c5) L M ys wr)) (fun _ v8 _ => 40 - (intOf v8).toNat)
          case atStart => exact ⟨0, A, c, L, M, ys, Nat.zero_le _, rfl, rfl, HL0, HB⟩
          case round =>
            clear HB HL0
            obtain ⟨i, A7, c7, L, M, ys, hi, rfl, rfl, HLj, HB⟩ := hrel
            by_cases hlt2 : i < 40
            · have HO : Hid (wr.ownsRow 0 37 3 (.slice A7 (n + i) c7) (n + i) (ys j)) := by
                have h1 := HB.out.pair.l.own j hlt1
                rw [HLj.out, HB.out.now hlt1, EN.out] at h1
                exact h1
              go_wp2_with (at_builtin; refine list_app2 rfl (.tmp 49) (.tmp 53) 43 rfl 37 0 _ 3 24 Try.underlying43 info37 rfl (by decide) (by decide) (.slice A7 (n + i) c7) (n + i) _ rfl (own_keeps HO.out ((Kept.refl _ _).alloc _)) (some ⟨wr.heap.size, 0, none⟩) 1 1 (capC ⟨-1 - (j : Int), 0, 0⟩) rfl rfl (holds_new _ _ _ _ _ rfl) (by simp [capC, Value.oneCell']) (by omega) (Nat.zero_le _) ?_; intro v9 w9 hown9 hwent9)
              obtain ⟨L', M', ys', hL', hB'⟩ := (HB.out.below ((Below.refl _ wr).alloc (Nat.le_refl _) (.cells #[.int .i64 (-1 - (j : Int)), .int .u64 0, .int .u64 0] 37))).grow hlt1 (v' := v9) (a := .int .u64 0) (b := .int .u64 0) (by rw [HB.out.now hlt1, EN.out]; exact hown9) (by rw [HLj.out, HB.out.now hlt1, EN.out]; exact hwent9)
              obtain ⟨A9, c9, rfl, _⟩ := own_slice hown9
              exact ⟨⟨i + 1, A9, c9, L', M', ys', by omega, by simp, rfl, hL', hB'⟩, by simp [intOf]; omega⟩
            · have : i = 40 := by omega
              subst this
              have HO := Lib.hid HB.out.long
              go_wp2_with (at_builtin; refine list_app2 rfl (.tmp 55) (.tmp 57) 55 rfl 43 0 _ 1 24 Try.underlying55 info43 rfl (by decide) (by decide) (.slice A5 j c5) j _ rfl (own_keeps HO.out ((Kept.refl _ _).alloc _)) (some ⟨wr.heap.size, 0, none⟩) 1 1 [.slice A7 (n + 40) c7] rfl rfl (holds_new _ _ _ _ _ rfl) (by simp [Value.oneCell']) (by omega) (Nat.zero_le _) ?_; intro v9 w9 hown9 hwent9)
              have HB9 := Lib.hid ((HB.out.below ((Below.refl _ wr).alloc (Nat.le_refl _) (.cells #[.slice A7 (n + 40) c7] 43))).next hlt1 (v' := v9) (by rw [HLj.out]; exact hown9) hwent9)
              obtain ⟨A9, c9, rfl, _⟩ := own_slice hown9
              exact ⟨⟨j + 1, A9, c9, L, M, ys, by omega, by simp, rfl, HB9⟩, by simp [intOf]; omega⟩
        · have : j = k := by omega
          subst this
          have HLN : Hid (∀ q, q < j → ∃ A c, L q = .slice A (N q + 40) c) := fun q hq => by
            obtain ⟨A, c, e, _⟩ := own_slice (HB.out.pair.l.own q hq)
            rw [HB.out.done q hq] at e
            exact ⟨A, c, e⟩
          go_wp2_with fail
          go_loopw [9] (fun v9 w9 => ∃ q : Nat, q ≤ j ∧ v9 = .int .i64 q ∧ w9 = wr) (fun v9 _ => j - (intOf v9).toNat)
          case atStart => exact ⟨0, Nat.zero_le _, rfl, rfl⟩
          case round =>
            obtain ⟨q, hq, rfl, rfl⟩ := hrel
            by_cases hlt3 : q < j
            · obtain ⟨A, c, hV⟩ := HV.out q hlt3
              obtain ⟨AL, cL, hL⟩ := HLN.out q hlt3
              have hn := HN.out q hlt3
              have HP := Lib.hid HB.out.pair
              have hMq := HB.out.done q hlt3
              have hmark := HB.out.mark q hlt3
              have hown := HB.out.pair.l.own q hlt3
              have hownV := HB.out.pair.v.own q hlt3
              have hpre := (HB.out.pair.pre q hlt3).2
              obtain ⟨n, en⟩ : ∃ n, N q = n := ⟨_, rfl⟩
              rw [en] at hV hn hL hMq hownV hpre
              have c0 := HC.out _ HB.out.kept q hlt3
              rw [hV] at c0 hownV
              rw [hMq] at hmark hown
              rw [hL] at hown
              obtain ⟨g5, cc5, cur5, e5, hg5, hc5, hcm5, _, _, hcell5⟩ := own_form HB.out.long (by omega)
              obtain ⟨rfl, rfl⟩ : A5 = some ⟨g5, 0, none⟩ ∧ c5 = cc5 := by simpa using e5
              have c1 : wr.cell? ⟨g5, q, none⟩ = some (.slice AL (n + 40) cL) := hcell5 q _ (by rw [List.getElem?_map, List.getElem?_range hlt3, ← hL]; rfl)
              obtain ⟨gL, ccL, curL, eL, hgL, hcL, hcmL, _, _, hcellL⟩ := own_form hown (by omega)
              obtain ⟨rfl, rfl⟩ : AL = some ⟨gL, 0, none⟩ ∧ cL = ccL := by simpa using eL
              have HM := Lib.hid hmark
              have HCL := Lib.hid hcellL
              have HOV := Lib.hid hownV
              have HPRE := Lib.hid hpre
              unfold maxLen at hcm5 hcmL
              clear hcell5 hcellL hmark hpre hown hownV hg5 hgL e5 eL hL hMq HLN HB HP hV en
              go_wp2_with fail
              go_loopw [10] (fun v10 w9 => ∃ i : Nat, i ≤ n + 40 ∧ v10 = .int .i64 i ∧ w9 = wr) (fun v10 _ => n + 40 - (intOf v10).toNat)
              case atStart => exact ⟨0, Nat.zero_le _, rfl, rfl⟩
              case round =>
                obtain ⟨i, hi, rfl, rfl⟩ := hrel
                by_cases hlt4 : i < n + 40
                · have y0 := HCL.out (i * 3) _ (HM.out i hlt4)
                  by_cases hlt5 : i < n
                  · obtain ⟨gV, ccV, curV, eV, _, hcV, hcmV, _, _, hcellV⟩ := own_form HOV.out (by omega)
                    obtain ⟨rfl, rfl⟩ : A = some ⟨gV, 0, none⟩ ∧ c = ccV := by simpa using eV
                    have y1 := hcellV (i * 3) (.int .i64 (-1 - (q : Int))) (by rw [← HPRE.out, List.getElem?_take, if_pos (by omega)]; exact HM.out i hlt4)
                    unfold maxLen at hcmV
                    clear hcellV eV
                    go_wp2_with fail
                    exact ⟨⟨i + 1, by omega, by simp, trivial⟩, by simp [intOf]; omega⟩
                  · go_wp2_with fail
                    exact ⟨⟨i + 1, by omega, by simp, trivial⟩, by simp [intOf]; omega⟩
                · have : i = n + 40 := by omega
                  subst this
                  go_wp2_with fail
                  exact ⟨⟨q + 1, by omega, by simp, trivial⟩, by simp [intOf]; omega⟩
            · have : q = j := by omega
              subst this
              go_wp2_with fail
              go_ret
              exact ⟨rfl, HB.out.kept⟩
end Go.Proofs.Ytepjhdppmegloaa.Caps

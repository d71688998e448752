/- apart: the walk. -/
import Derived.Test.YtbhpikagjcojbaaAr8
namespace Go.Proofs.Ytbhpikagjcojbaa.Ar
open Go.RowKit Go.Proofs.Ytbhpikagjcojbaa.Mem
set_option maxHeartbeats 4000000 in
set_option maxRecDepth 100000 in
theorem apart_any (w : World) (K : Nat) (hK : K ≤ 1000) (V U : Nat → Value) (N : Nat → Nat) (zs : Nat → List Int) (h : Mem.Rows 3 1 w K V N (fun k => (zs k).map (Value.int .i64))) (hz : ∀ k, k < K → (zs k).length = N k) (hU : ∀ k, k < K → ReadsInts w (U k) (zs k)) (hN : ∀ k, k < K → N k ≤ 1000000) (G o cap H o2 cap2 : Nat) (hall : ∀ k, k < K → w.cell? ⟨G, o + k, none⟩ = some (V k)) (hwant : ∀ k, k < K → w.cell? ⟨H, o2 + k, none⟩ = some (U k)) (hG : ∀ k, k < K → (V k).ownBlock ≠ some G) (hlt : G < w.heap.size) :
    Calls Try.prog 12 #[.slice (some ⟨G, o, none⟩) K cap, .slice (some ⟨H, o2, none⟩) K cap2] w fun e w' => e = .returned (.bool true) ∧ Kept (Touch K V) w w' := by
  have HF0 : Hid (∀ wr, Below w.heap.size w wr → First w K V N 0 0 wr) := fun wr hb => ⟨_, h.kept (S := fun _ => False) (Kept.of_below hb) (fun _ _ _ _ hf => hf), Kept.of_below hb, fun j hj => by omega, fun _ => by simp⟩
  have HC : Hid (∀ wr, Kept (Touch K V) w wr → ∀ k, k < K → wr.cell? ⟨G, o + k, none⟩ = some (V k)) := fun wr hk k hlt' => (hk.cell hlt (by rintro ⟨j, hj, e⟩; exact hG j hj e)).trans (hall k hlt')
  have HN := Lib.hid hN
  have HW := Lib.hid hwant
  have HV : Hid (∀ k, k < K → ∃ A c, V k = .slice A (N k) c) := fun k hk => by
    obtain ⟨A, c, e, _⟩ := own_slice (h.own k hk)
    exact ⟨A, c, e⟩
  have HR : Hid (∀ wr, Below w.heap.size w wr → ∀ k, k < K → Calls Try.prog 13 #[V k, U k] wr fun e w' => e = .returned (.bool true) ∧ Below wr.heap.size wr w') := fun wr hb k hk => numbers_same wr (V k) (U k) (zs k) ((reads_own (hz k hk) (h.own k hk)).below hb) ((hU k hk).below hb)
  have keep : ∀ (q q2 : Addr) (v v2 : Value) (x y : World), Below x.heap.size x y → (x.cell? q = some v ∧ x.cell? q2 = some v2 ∧ Below w.heap.size w x) → (y.cell? q = some v ∧ y.cell? q2 = some v2 ∧ Below w.heap.size w y) := fun q q2 v v2 x y hb ⟨h1, h2, h3⟩ => ⟨(hb.cell (World.block_lt_of_cell? x _ h1)).trans h1, (hb.cell (World.block_lt_of_cell? x _ h2)).trans h2, h3.trans (hb.mono h3.size)⟩
  have KEEP := Lib.hid keep
  clear h hz hU hall hG hN hwant keep
  go_enter Try.func12, Try.ntmps12
  go_wp2_with fail
  go_loopw [6] (fun v6 wr => ∃ k : Nat, k ≤ K ∧ v6 = .int .i64 k ∧ Hid (Below w.heap.size w wr)) (fun v6 _ => K - (intOf v6).toNat)
  case atStart => exact ⟨0, Nat.zero_le _, rfl, Below.refl _ _⟩
  case round =>
    obtain ⟨k, hk, rfl, HB⟩ := hrel
    by_cases hlt1 : k < K
    · have y0 := HC.out wr (Kept.of_below HB.out) k hlt1
      have y1 := (HB.out.cell (World.block_lt_of_cell? w _ (HW.out k hlt1))).trans (HW.out k hlt1)
      obtain ⟨x, hx⟩ : ∃ x, V k = x := ⟨_, rfl⟩
      obtain ⟨u, hu⟩ : ∃ u, U k = u := ⟨_, rfl⟩
      rw [hx] at y0
      rw [hu] at y1
      have HRk : Hid (∀ wr, Below w.heap.size w wr → Calls Try.prog 13 #[x, u] wr fun e w' => e = .returned (.bool true) ∧ Below wr.heap.size wr w') := fun wr hb => by
        have := HR.out wr hb k hlt1
        rwa [hx, hu] at this
      have ST : Hid (wr.drew.cell? ⟨G, o + k, none⟩ = some x ∧ wr.drew.cell? ⟨H, o2 + k, none⟩ = some u ∧ Below w.heap.size w wr.drew) := ⟨y0, y1, HB.out.drew⟩
      clear hx hu
      go_wp2_with fail
      go_region_held3 (fun w' => w'.cell? ⟨G, o + k, none⟩ = some x ∧ w'.cell? ⟨H, o2 + k, none⟩ = some u ∧ Below w.heap.size w w')
        (first | exact ST.out | (refine KEEP.out _ _ _ _ _ _ (by with_reducible assumption) ?_; go_split_ands; exact ⟨by with_reducible assumption, by with_reducible assumption, by with_reducible assumption⟩) | go_keep)
        (first | (go_at_call 13; (refine (HRk.out _ ?_).mono ?_); (go_split_ands; with_reducible assumption); rintro e w1 ⟨rfl, hb1⟩) | fail)
      all_goals (go_wp2; go_split_ands)
      all_goals exact ⟨⟨k + 1, by omega, by simp, Lib.hid (by with_reducible assumption)⟩, by simp [intOf]; omega⟩
    · have : k = K := by omega
      subst this
      have HF := Lib.hid (HF0.out wr HB.out)
      clear HF0 HB HR HW KEEP
      go_wp2_with fail
      go_loopw [7] (fun v7 wr => ∃ j : Nat, j ≤ k ∧ v7 = .int .i64 j ∧ Hid (First w k V N j 0 wr)) (fun v7 _ => k - (intOf v7).toNat)
      case atStart => exact ⟨0, Nat.zero_le _, rfl, HF⟩
      case round =>
        clear HF
        obtain ⟨j, hj, rfl, HF⟩ := hrel
        by_cases hlt1 : j < k
        · obtain ⟨A, c, hV⟩ := HV.out j hlt1
          have hn := HN.out j hlt1
          obtain ⟨n, en⟩ : ∃ n, N j = n := ⟨_, rfl⟩
          rw [en] at hV hn
          have EN := Lib.hid en
          have HVk := Lib.hid hV
          clear en hV
          go_wp2_with fail
          go_loopw [8] (fun v8 wr => ∃ i : Nat, i ≤ n ∧ v8 = .int .i64 i ∧ Hid (First w k V N j i wr)) (fun v8 _ => n - (intOf v8).toNat)
          case atStart => exact ⟨0, Nat.zero_le _, rfl, HF⟩
          case round =>
            clear HF
            obtain ⟨i, hi, rfl, HF⟩ := hrel
            have c0 := HC.out _ HF.out.choose_spec.2.1 j hlt1
            rw [HVk.out] at c0
            by_cases hlt2 : i < n
            · obtain ⟨g, c', cur, e1, hg, hc', hcm, hcs⟩ := HF.out.form hlt1 (by rw [EN.out]; exact hlt2)
              rw [HVk.out, EN.out] at e1
              obtain ⟨rfl, rfl⟩ : A = some ⟨g, 0, none⟩ ∧ c = c' := by simpa using e1
              rw [EN.out] at hc'
              unfold maxLen at hcm
              have q0 : wr.cell? ⟨g, i, none⟩ = some cur[i] := cell_row hg (by simp)
              have f0 : wr.frozen? ⟨g, i, none⟩ = false := free_row hg
              have HG := Lib.hid hg
              clear hg e1
              go_wp2_with fail
              exact ⟨⟨i + 1, by omega, by simp, HF.out.store hlt1 (by rw [EN.out]; exact hlt2) (by rw [EN.out]; exact HVk.out) HG.out⟩, by simp [intOf]; omega⟩
            · have : i = n := by omega
              subst this
              have HF1 : Hid (First w k V N (j + 1) 0 wr) := First.next (by rw [EN.out]; exact HF.out) hlt1
              go_wp2_with fail
              exact ⟨⟨j + 1, by omega, by simp, HF1⟩, by simp [intOf]; omega⟩
        · have : j = k := by omega
          subst this
          obtain ⟨xs, HB⟩ : ∃ xs, Hid (Aps w j V N xs 0 (.slice none 0 0) V N xs wr) := by
            obtain ⟨xs, h1, h2, h3, _⟩ := HF.out
            exact ⟨xs, aps_start h1 h2 (fun q hq => h3 q hq hq)⟩
          clear HF
          go_wp2_with fail
          go_loopw [5, 9] (fun v5 v9 wr => ∃ (k : Nat) (A5 : Option Addr) (c5 : Nat) (L : Nat → Value) (M : Nat → Nat) (ys : Nat → List Value), k ≤ j ∧ v9 = .int .i64 k ∧ v5 = .slice A5 k c5 ∧ Hid (Aps w j V N xs k (.slice A5 k c5) L M ys wr)) (fun _ v9 _ => j - (intOf v9).toNat)
          case atStart => exact ⟨0, none, 0, V, N, xs, Nat.zero_le _, rfl, rfl, HB⟩
          case round =>
            clear HB
            obtain ⟨k, A5, c5, L, M, ys, hk, rfl, rfl, HB⟩ := hrel
            by_cases hlt1 : k < j
            · obtain ⟨A, c, hV⟩ := HV.out k hlt1
              have hn := HN.out k hlt1
              have c0 := HC.out _ HB.out.kept k hlt1
              have hown := HB.out.pair.v.own k hlt1
              obtain ⟨n, en⟩ : ∃ n, N k = n := ⟨_, rfl⟩
              rw [en] at hV hn hown
              rw [hV] at c0 hown
              have HGR := Lib.hid (grown_any wr (.slice A n c) n (xs k) (-100 - (k : Int)) hown hn)
              have EN := Lib.hid en
              have HVk := Lib.hid hV
              have HLO := Lib.hid HB.out.long
              have HFA := Lib.hid HB.out.far
              clear hown en hV
              go_wp2_with (first | (go_at_call 22; (with_reducible refine HGR.out.mono ?_); rintro e w8 ⟨A8, c8, rfl, hp8, hk8, hn8⟩; have HP8 := Lib.hid hp8; have HK8 := Lib.hid hk8; have HN8 := Lib.hid hn8; have HL8 := Lib.hid (own_kept HLO.out hk8 (fun b hb e => by have := ((HFA.out b hb).2 k hlt1).1; rw [HVk.out] at this; exact this e)); clear hp8 hk8 hn8) | (at_builtin; refine list_app2 rfl (.tmp 56) (.tmp 64) 34 rfl 29 0 _ 1 24 Try.underlying34 info29 rfl (by decide) (by decide) (.slice A5 k c5) k _ rfl (own_keeps HL8.out ((Kept.refl _ _).alloc _)) (some ⟨w8.heap.size, 0, none⟩) 1 1 [.slice A8 (n + 80) c8] rfl rfl (holds_new _ _ _ _ _ rfl) (by simp [Value.oneCell']) (by omega) (Nat.zero_le _) ?_; intro v9 w9 hown9 hwent9))
              obtain ⟨L', M', ys', HB9⟩ := HB.out.next hlt1 (v' := .slice A8 (n + 80) c8) (v9 := v9) (w8 := w8) (w9 := w9) (by rw [HVk.out, EN.out]; exact HP8.out) (by rw [HVk.out]; exact HK8.out) (by rw [HVk.out]; exact HN8.out) hown9 hwent9
              obtain ⟨A9, c9, rfl, _⟩ := own_slice hown9
              exact ⟨⟨k + 1, A9, c9, L', M', ys', by omega, by simp, rfl, HB9⟩, by simp [intOf]; omega⟩
            · have : k = j := by omega
              subst this
              go_wp2_with fail
              go_loopw [10] (fun v10 w9 => ∃ q : Nat, q ≤ k ∧ v10 = .int .i64 q ∧ w9 = wr) (fun v10 _ => k - (intOf v10).toNat)
              case atStart => exact ⟨0, Nat.zero_le _, rfl, rfl⟩
              case round =>
                obtain ⟨q, hq, rfl, rfl⟩ := hrel
                by_cases hlt3 : q < k
                · have c0 := HC.out _ HB.out.kept q hlt3
                  obtain ⟨g5, cc5, cur5, e5, _, hc5, hcm5, _, _, hcell5⟩ := own_form HB.out.long (by omega)
                  obtain ⟨rfl, rfl⟩ : A5 = some ⟨g5, 0, none⟩ ∧ c5 = cc5 := by simpa using e5
                  have c1 : wr.cell? ⟨g5, q, none⟩ = some (L q) := hcell5 q _ (by rw [List.getElem?_map, List.getElem?_range hlt3]; rfl)
                  have F1 := Lib.hid (full_any wr (V q) (N q) (-100 - (q : Int)) (allAre_own (by have := HB.out.pair.v.own q hlt3; rw [HB.out.mark q hlt3] at this; exact this)))
                  have F2 := Lib.hid (full_any wr (L q) (N q + 80) (-100 - (q : Int)) (allAre_own (by have := HB.out.pair.l.own q hlt3; rw [(HB.out.done q hlt3).1, (HB.out.done q hlt3).2] at this; exact this)))
                  obtain ⟨x, hx⟩ : ∃ x, V q = x := ⟨_, rfl⟩
                  obtain ⟨y, hy⟩ : ∃ y, L q = y := ⟨_, rfl⟩
                  rw [hx] at c0 F1
                  rw [hy] at c1 F2
                  unfold maxLen at hcm5
                  clear hcell5 e5 hx hy
                  go_wp2_with (first | (go_at_call 23; (with_reducible refine F1.out.mono ?_); rintro e w8 ⟨rfl, rfl⟩) | (go_at_call 23; (with_reducible refine F2.out.mono ?_); rintro e w8 ⟨rfl, rfl⟩))
                  exact ⟨⟨q + 1, by omega, by simp, trivial⟩, by simp [intOf]; omega⟩
                · have : q = k := by omega
                  subst this
                  go_wp2_with fail
                  go_ret
                  exact ⟨rfl, HB.out.kept⟩
end Go.Proofs.Ytbhpikagjcojbaa.Ar

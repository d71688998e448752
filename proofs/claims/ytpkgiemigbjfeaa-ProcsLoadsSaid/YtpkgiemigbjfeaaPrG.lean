/- The document's Spawn and Exit. Own text; Ytpkgiemigbjfeaa and the numbers between @..@ are the seat's. -/
import Derived.Test.YtpkgiemigbjfeaaPrF
namespace Go.Proofs.Ytpkgiemigbjfeaa.Kin
open Go.RowKit Go.Proofs.Ytpkgiemigbjfeaa.Mem
set_option linter.unusedVariables false
theorem del_take (l : List Int) (n : Int) (i : Nat) (x : Int) (hx : l[i]? = some x) : del (l.take (i + 1)) n = del (l.take i) n ++ if x = n then [] else [x] := by
  obtain ⟨hlt, rfl⟩ := List.getElem?_eq_some_iff.1 hx
  rw [List.take_succ_eq_append_getElem hlt]
  unfold del
  rw [List.filter_append]
  congr 1
  by_cases h : l[i] = n
  · rw [if_pos h]; simp [h]
  · rw [if_neg h]; simp [h]
section
variable (w : World) (p most : Nat) (next : Int) (l : List Int) (F : Nat → Prop) (h : Pt 57 w p most next l F)
include h
set_option maxHeartbeats 2000000 in
theorem rspawn_any : Calls Try.prog 11 #[.pointer (some ⟨p, 0, none⟩)] w fun e w' => e = .returned (.tuple #[.int .i64 (spN most next l), .int .i64 (spE most next l)]) ∧ Kept F w w' ∧ Pt 57 w' p most (spX most next l) (spL most next l) (fun b => F b ∨ w.heap.size ≤ b) := by
  obtain ⟨A, c, h1, h2, h3⟩ := h.g.box
  have y0 : w.cell? ⟨p, 0, none⟩ = some (.int .i64 most) := cell_row h1 rfl
  have y1 : w.cell? ⟨p, 1, none⟩ = some (.int .i64 next) := cell_row h1 rfl
  have y2 : w.cell? ⟨p, 2, none⟩ = some (.slice A l.length c) := cell_row h1 rfl
  have HI := Lib.hid (h.inv.spawn)
  have hm := h.inv.m2
  have hl := h.inv.len
  have hn0 := h.inv.n0
  have hn1 := h.inv.n1
  have S3 : Hid (∀ k, Kept F w (w.drewN k) ∧ Pg 57 (w.drewN k) p most next l F) := fun k => ⟨Kept.of_below (below_drewN w k), h.g.below (below_drewN w k)⟩
  unfold spN spE spX spL at *
  by_cases hf : fullB most next l = true
  · simp only [if_pos hf] at HI ⊢
    have hf' : most ≤ l.length ∨ 65535 < next := by simpa [fullB] using hf
    obtain ⟨N, hN⟩ : ∃ N, l.length = N := ⟨_, rfl⟩
    rw [hN] at y2 hl hf'
    clear h h1 h2 h3 hf hN
    by_cases hml : most ≤ N
    · have hml' : (most : Int) ≤ (N : Int) := by omega
      have hmlb : decide ((N : Int) ≥ (most : Int)) = true := by simpa using hml
      go_enter Try.func11, Try.ntmps11
      go_wp2_with fail
      go_quiet (fail)
      go_wp2
      go_ret2
      exact ⟨rfl, (S3.out _).1, (S3.out _).2.mono (fun b hb => .inl hb), HI.out⟩
    · have hml' : ¬ (most : Int) ≤ (N : Int) := by omega
      have hmlb : decide ((N : Int) ≥ (most : Int)) = false := by simpa using hml
      have hnx : 65535 < next := by omega
      have hnxb : decide (next > 65535) = true := by simpa using hnx
      go_enter Try.func11, Try.ntmps11
      go_wp2_with fail
      go_quiet (fail)
      go_wp2
      go_ret2
      exact ⟨rfl, (S3.out _).1, (S3.out _).2.mono (fun b hb => .inl hb), HI.out⟩
  · simp only [if_neg hf] at HI ⊢
    have hf' : ¬ (most ≤ l.length ∨ 65535 < next) := by simpa [fullB] using hf
    have HX : Hid (∀ k, Pg 57 ((w.drewN k).setCell ⟨p, 1, none⟩ (.int .i64 (next + 1))) p most (next + 1) l F ∧ Kept F w ((w.drewN k).setCell ⟨p, 1, none⟩ (.int .i64 (next + 1)))) := fun k => by
      have := (S3.out k).2.nexted (next + 1)
      exact ⟨this.1, (S3.out k).1.trans this.2 (fun b hb => .inl hb)⟩
    have HO : Hid (∀ k, ((w.drewN k).setCell ⟨p, 1, none⟩ (.int .i64 (next + 1))).ownsRow 0 3 1 (.slice A l.length c) l.length (l.map i64)) := fun k => own_kept h2 ((Kept.of_below (S := fun b => b = p) (below_drewN w k)).setCell (p := ⟨p, 1, none⟩) (.inl rfl) _) (fun b e e2 => (h3 b e).2 e2)
    have H1 : Hid (∀ k, ((w.drewN k).setCell ⟨p, 1, none⟩ (.int .i64 (next + 1))).heap[p]? = some (.cells #[.int .i64 most, .int .i64 (next + 1), .slice A l.length c] 57)) := fun k => by
      have := heap_setCell_same (w.drewN k) p 1 _ _ (.int .i64 (next + 1)) h1
      exact this
    have H3 := Lib.hid h3
    obtain ⟨N, hN⟩ : ∃ N, l.length = N := ⟨_, rfl⟩
    have HN := Lib.hid hN
    rw [hN] at HO H1 H3
    have f1 : ∀ k, (w.drewN k).frozen? ⟨p, 1, none⟩ = false := fun k => free_row (w := w) h1
    rw [hN] at y2 hl hf'
    have hml : ¬ most ≤ N := fun e => hf' (.inl e)
    have hml' : ¬ (most : Int) ≤ (N : Int) := by omega
    have hmlb : decide ((N : Int) ≥ (most : Int)) = false := by simpa using hml
    have hnx : ¬ 65535 < next := fun e => hf' (.inr e)
    have hnxb : decide (next > 65535) = false := by simpa using hnx
    clear h h1 h2 h3 hf hN hf'
    go_enter Try.func11, Try.ntmps11
    go_wp2_with fail
    go_quiet (fail)
    have f1q := f1 nq
    clear f1
    have O1 := Lib.hid (HO.out nq)
    have H1q := Lib.hid (H1.out nq)
    have HXq := Lib.hid (HX.out nq)
    have HH : Hid (Holds (((w.drewN nq).setCell ⟨p, 1, none⟩ (.int .i64 (next + 1))).alloc (.cells #[.int .i64 next] 3)) (some ⟨w.heap.size, 0, none⟩) [i64 next]) := by
      have := holds_new ((w.drewN nq).setCell ⟨p, 1, none⟩ (.int .i64 (next + 1))) #[.int .i64 next] 3 (0, 0) _ rfl
      show Holds _ _ _
      simpa [i64] using this
    clear HO H1 HX
    go_wp2_with (at_builtin; refine list_app2 rfl (.tmp 35) (.tmp 37) 42 rfl 3 0 _ 1 8 Try.underlying42 info_int rfl (by decide) (by decide) (.slice A N c) N _ rfl (own_keeps O1.out ((Kept.refl _ _).alloc _)) (some ⟨w.heap.size, 0, none⟩) 1 1 [i64 next] rfl rfl HH.out (by simp [Value.oneCell', i64]) (by omega) (Nat.zero_le _) ?_; intro v9 w9 hown9 hwent9; (obtain ⟨A9, c9, rfl, _⟩ := own_slice hown9); have O9 := Lib.hid hown9; have W9 := Lib.hid hwent9; clear hown9 hwent9; have K9 : Hid (Kept (fun b => (Value.slice A N c).ownBlock = some b) ((w.drewN nq).setCell ⟨p, 1, none⟩ (.int .i64 (next + 1))) w9) := ((Kept.refl _ _).alloc _).trans W9.out.kept (fun b hb => .inl hb); have hr9 := K9.out.row H1q.out (fun e => (H3.out p e).2 rfl); have y3 : w9.cell? ⟨p, 2, none⟩ = some (.slice A N c) := cell_row hr9 rfl; have f3 : w9.frozen? ⟨p, 2, none⟩ = false := free_row hr9; clear hr9)
    go_ret2
    have hlen : (l ++ [next]).length = N + 1 := by rw [List.length_append, HN.out]; rfl
    have fin := HXq.out.1.put (v := .slice A N c) ⟨A, c, by rw [HN.out], H1q.out, H3.out⟩ K9.out (l' := l ++ [next]) (A' := A9) (c' := c9) (by rw [hlen, List.map_append]; exact O9.out) (fun b hb => by
      rw [hlen] at hb
      rcases W9.out.block with e | e
      · exact .inl (e ▸ hb)
      · have h1 := Option.some.inj (e.symm.trans hb)
        simp at h1
        exact .inr (by simp; omega))
    rw [hlen] at fin
    exact ⟨rfl, HXq.out.2.trans fin.2 (fun b hb => .inl hb), fin.1.mono (fun b hb => by simpa using hb), HI.out⟩
set_option maxHeartbeats 2000000 in
theorem rexit_any (n : Int) : Calls Try.prog 13 #[.pointer (some ⟨p, 0, none⟩), .int .i64 n] w fun e w' => e = .returned (.int .i64 (exE l n)) ∧ Kept F w w' ∧ Pt 57 w' p most next (del l n) (fun b => F b ∨ w.heap.size ≤ b) := by
  have HH := Lib.hid (ris_any w p most next l F h n)
  unfold exE
  by_cases hn : isB l n = true
  case neg =>
    have hn' : isB l n = false := by simpa using hn
    rw [if_neg hn, del_not hn']
    rw [hn'] at HH
    have same : Hid (Kept F w w ∧ Pt 57 w p most next l (fun b => F b ∨ w.heap.size ≤ b)) := ⟨Kept.refl _ _, h.mono (fun b hb => .inl hb)⟩
    clear h hn hn'
    go_enter Try.func13, Try.ntmps13
    go_wp2_with fail
    (with_reducible refine HH.out.mono ?_)
    rintro e w1 ⟨rfl, rfl⟩
    go_wp2
    go_ret
    exact ⟨rfl, same.out⟩
  rw [if_pos hn]
  rw [hn] at HH
  obtain ⟨A, c, h1, h2, h3⟩ := h.g.box
  have HI := Lib.hid (h.inv.exit n)
  have hll : l.length ≤ 32 := Nat.le_trans h.inv.len h.inv.m2
  have HO := Lib.hid h2
  have H1 := Lib.hid h1
  have H3 := Lib.hid h3
  have HG := Lib.hid h.g
  have HC : Hid (0 < l.length → ∃ g, A = some ⟨g, 0, none⟩ ∧ ∀ (j : Nat) z, l[j]? = some z → w.cell? ⟨g, j, none⟩ = some (.int .i64 z)) := fun hp => by
    obtain ⟨g, c', cur, e, _, _, _, _, _, hcell⟩ := own_form h2 hp
    obtain ⟨rfl, _⟩ : A = some ⟨g, 0, none⟩ ∧ c = c' := by simpa using e
    exact ⟨g, rfl, fun j z hz => hcell j (i64 z) (by rw [List.getElem?_map, hz]; rfl)⟩
  obtain ⟨N, hN⟩ : ∃ N, l.length = N := ⟨_, rfl⟩
  have HN := Lib.hid hN
  rw [hN] at hll HO H1 H3 HC
  have HLT : Hid (p < w.heap.size) := lt_of_row h1
  have HK : Hid (∀ i, i ≤ N → (del (l.take i) n).length ≤ 32) := fun i hi => by
    unfold del
    have := List.length_filter_le (fun x : Int => x != n) (l.take i)
    rw [List.length_take] at this
    omega
  have H0 : Hid (w.ownsRow 0 3 1 (.slice none (del (l.take 0) n).length 0) (del (l.take 0) n).length ((del (l.take 0) n).map i64)) := World.ownsRow_nil _ _ _ _
  have HNB : Hid (∀ b, (Value.slice none (del (l.take 0) n).length 0).ownBlock = some b → w.heap.size ≤ b) := fun b hb => by simp [Value.ownBlock] at hb
  clear h h1 h2 h3 hn hN
  go_enter Try.func13, Try.ntmps13
  go_wp2_with fail
  (with_reducible refine HH.out.mono ?_)
  rintro e w1 ⟨rfl, rfl⟩
  go_wp2
  go_loopw [5, 6] (fun v5 v6 wr => ∃ (i : Nat) (B : Option Addr) (d : Nat), i ≤ N ∧ v6 = .int .i64 i ∧ v5 = .slice B (del (l.take i) n).length d ∧ Hid (wr.ownsRow 0 3 1 (.slice B (del (l.take i) n).length d) (del (l.take i) n).length ((del (l.take i) n).map i64)) ∧ Hid (∀ b, (Value.slice B (del (l.take i) n).length d).ownBlock = some b → w.heap.size ≤ b) ∧ Hid (Below w.heap.size w wr)) (fun _ v6 _ => N - (intOf v6).toNat)
  case atStart => exact ⟨0, none, 0, Nat.zero_le _, rfl, rfl, H0, HNB, Below.refl _ _⟩
  case round =>
    clear H0 HNB
    obtain ⟨i, B, d, hi, rfl, rfl, HL, HB, HW⟩ := hrel
    have y1 : wr.cell? ⟨p, 2, none⟩ = some (.slice A N c) := (HW.out.cell HLT.out).trans (cell_row H1.out rfl)
    have f1 : wr.frozen? ⟨p, 2, none⟩ = false := (HW.out.frozen HLT.out).trans (free_row H1.out)
    have hk := HK.out i hi
    by_cases hlt : i < N
    · obtain ⟨x, hx⟩ : ∃ x, l[i]? = some x := ⟨_, List.getElem?_eq_getElem (by rw [HN.out]; exact hlt)⟩
      obtain ⟨g, rfl, hcell⟩ := HC.out (by omega)
      have z0 := hcell i x hx
      have hg : g < w.heap.size := World.block_lt_of_cell? w _ z0
      replace z0 := (HW.out.cell hg).trans z0
      have HE := Lib.hid (del_take l n i x hx)
      obtain ⟨K, hK⟩ : ∃ K, (del (l.take i) n).length = K := ⟨_, rfl⟩
      have HKK := Lib.hid hK
      rw [hK] at hk HL HB ⊢
      clear hcell hx hK
      by_cases hxn : x = n
      · rw [if_pos hxn, List.append_nil] at HE
        have O10 : Hid (wr.ownsRow 0 3 1 (.slice B (del (l.take (i + 1)) n).length d) (del (l.take (i + 1)) n).length ((del (l.take (i + 1)) n).map i64)) := by
          show World.ownsRow _ _ _ _ _ _ _
          rw [HE.out, HKK.out]; exact HL.out
        have HB2 : Hid (∀ b', (Value.slice B (del (l.take (i + 1)) n).length d).ownBlock = some b' → w.heap.size ≤ b') := fun b' hb' => HB.out b' (by rw [HE.out, HKK.out] at hb'; exact hb')
        have HE2 : Hid ((del (l.take (i + 1)) n).length = K) := by rw [HE.out]; exact HKK.out
        go_wp2_with fail
        exact ⟨⟨i + 1, B, d, by omega, by simp, by rw [HE2.out], O10, HB2, HW⟩, by simp [intOf]; omega⟩
      · rw [if_neg hxn] at HE
        go_wp2_with (at_builtin; refine list_app2 rfl (.tmp 29) (.tmp 37) 42 rfl 3 0 _ 1 8 Try.underlying42 info_int rfl (by decide) (by decide) (.slice B K d) K _ rfl (own_keeps HL.out ((Kept.refl _ _).alloc _)) (some ⟨wr.heap.size, 0, none⟩) 1 1 [i64 x] rfl rfl (holds_new _ _ _ _ _ rfl) (by simp [Value.oneCell', i64]) (by omega) (Nat.zero_le _) ?_; intro v9 w9 hown9 hwent9; (obtain ⟨A9, c9, rfl, _⟩ := own_slice hown9); have O9 := Lib.hid hown9; have W9 := Lib.hid hwent9; clear hown9 hwent9)
        have hlen : (del (l.take (i + 1)) n).length = K + 1 := by rw [HE.out, List.length_append, HKK.out]; rfl
        have O10 : Hid (w9.ownsRow 0 3 1 (.slice A9 (del (l.take (i + 1)) n).length c9) (del (l.take (i + 1)) n).length ((del (l.take (i + 1)) n).map i64)) := by
          show World.ownsRow _ _ _ _ _ _ _
          rw [hlen, HE.out, List.map_append]
          exact O9.out
        refine ⟨⟨i + 1, A9, c9, by omega, by simp, by rw [hlen], O10, fun b' hb' => ?_, ?_⟩, by simp [intOf]; omega⟩
        · rw [hlen] at hb'
          rcases W9.out.block with e | e
          · exact HB.out b' (e ▸ hb')
          · have h1 := Option.some.inj (e.symm.trans hb')
            have h2 := HW.out.size
            simp at h1
            omega
        · exact (HW.out.alloc HW.out.size _).trans (W9.out.kept.below (fun b' hb' => HB.out b' hb') (Nat.le_trans HW.out.size (by simp)))
    · have : i = N := by omega
      subst this
      have e : l.take i = l := List.take_of_length_le (by rw [HN.out]; exact Nat.le_refl _)
      rw [e] at HL HB ⊢
      have r2 := HW.out.block p HLT.out
      have fin := Lib.hid (HG.out.put (v := .slice A i c) ⟨A, c, by rw [HN.out], H1.out, H3.out⟩ (Kept.of_below (S := fun b => (Value.slice A i c).ownBlock = some b) HW.out) (l' := del l n) (A' := B) (c' := d) HL.out (fun b hb => .inr (HB.out b hb)))
      obtain ⟨K, hK⟩ : ∃ K, (del l n).length = K := ⟨_, rfl⟩
      rw [hK] at fin ⊢
      clear hK hk e r2
      go_wp2
      go_ret
      exact ⟨rfl, fin.out.2, fin.out.1, HI.out⟩
end
end Go.Proofs.Ytpkgiemigbjfeaa.Kin

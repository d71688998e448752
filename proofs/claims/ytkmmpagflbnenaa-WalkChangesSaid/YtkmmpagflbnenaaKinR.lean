/- The document's forest in memory: what it tells. Own text; Ytkmmpagflbnenaa and the numbers between @..@ are the seat's. -/
import Derived.Test.YtkmmpagflbnenaaKinE
namespace Go.Proofs.Ytkmmpagflbnenaa.Kin
open Go.RowKit Go.Proofs.Ytkmmpagflbnenaa.Mem
set_option linter.unusedVariables false
theorem info_rnode : (Try.prog.info? 68).map (fun i => (i.zero, i.size, i.bytes)) = some (some (.agg #[.int .i64 0, .int .i64 0]), 2, 16) := by kernel_rfl
def ndC (L : List (Int × Int)) : List Value := L.flatMap (fun x => [i64 x.1, i64 x.2])
theorem ndC_len (L : List (Int × Int)) : (ndC L).length = L.length * 2 := by
  induction L with
  | nil => rfl
  | cons c l ih => rw [ndC, List.flatMap_cons, List.length_append, ← ndC, ih]; simp; omega
theorem ndC_app (L M : List (Int × Int)) : ndC (L ++ M) = ndC L ++ ndC M := by simp [ndC]
theorem ndC_at : ∀ (L : List (Int × Int)) (i : Nat) (x : Int × Int), L[i]? = some x → (ndC L)[i * 2]? = some (i64 x.1) ∧ (ndC L)[i * 2 + 1]? = some (i64 x.2)
  | [], i, x, h => by simp at h
  | c :: l, 0, x, h => by
    obtain rfl : c = x := by simpa using h
    exact ⟨rfl, rfl⟩
  | c :: l, i + 1, x, h => by
    have ih := ndC_at l i x (by simpa using h)
    simp only [ndC, List.flatMap_cons]
    rw [List.getElem?_append_right (by simp; omega), List.getElem?_append_right (by simp; omega)]
    rw [show (i + 1) * 2 - [i64 c.1, i64 c.2].length = i * 2 by simp; omega, show (i + 1) * 2 + 1 - [i64 c.1, i64 c.2].length = i * 2 + 1 by simp; omega]
    exact ih
theorem ndC_one (L : List (Int × Int)) : ∀ u ∈ ndC L, u.oneCell' = true := by
  intro u hu
  obtain ⟨c, _, hc⟩ := List.mem_flatMap.1 hu
  simp at hc
  rcases hc with rfl | rfl <;> rfl
/-- The document's forest at r. -/
structure Rg (w : World) (r : Nat) (m : Nat) (L : List (Int × Int)) (F : Nat → Prop) : Prop where
  box : ∃ A c, w.heap[r]? = some (.cells #[.int .i64 m, .slice A L.length c] 71) ∧ w.ownsRow 0 68 2 (.slice A L.length c) L.length (ndC L) ∧ ∀ b, (Value.slice A L.length c).ownBlock = some b → F b ∧ b ≠ r
  fr : F r
  hm : m ≤ 1024
  inv : Inv m L
section
variable {w w' : World} {r m : Nat} {L : List (Int × Int)} {F G : Nat → Prop}
theorem Rg.kept {S : Nat → Prop} (h : Rg w r m L F) (hk : Kept S w w') (hS : ∀ b, F b → ¬ S b) : Rg w' r m L F := by
  obtain ⟨A, c, h1, h2, h3⟩ := h.box
  exact ⟨⟨A, c, hk.row h1 (hS r h.fr), own_kept h2 hk (fun b hb => hS b (h3 b hb).1), h3⟩, h.fr, h.hm, h.inv⟩
theorem Rg.below (h : Rg w r m L F) (hb : Below w.heap.size w w') : Rg w' r m L F := h.kept (S := fun _ => False) (Kept.of_below hb) (fun _ _ hf => hf)
theorem Rg.mono (h : Rg w r m L F) (hFG : ∀ b, F b → G b) : Rg w r m L G := by
  obtain ⟨A, c, h1, h2, h3⟩ := h.box
  exact ⟨⟨A, c, h1, h2, fun b hb => ⟨hFG b (h3 b hb).1, (h3 b hb).2⟩⟩, hFG r h.fr, h.hm, h.inv⟩
theorem Rg.tight (h : Rg w r m L F) : Rg w r m L (fun b => F b ∧ b < w.heap.size) := by
  obtain ⟨A, c, h1, h2, h3⟩ := h.box
  exact ⟨⟨A, c, h1, h2, fun b hb => ⟨⟨(h3 b hb).1, own_lt h2 b hb⟩, (h3 b hb).2⟩⟩, ⟨h.fr, lt_of_row h1⟩, h.hm, h.inv⟩
theorem own_node {w : World} {A : Option Addr} {n c : Nat} {L : List (Int × Int)} (h : w.ownsRow 0 68 2 (.slice A n c) n (ndC L)) (hp : 0 < n) : ∃ g, A = some ⟨g, 0, none⟩ ∧ n ≤ c ∧ ∀ (i : Nat) (x : Int × Int), L[i]? = some x → w.cell? ⟨g, i * 2, none⟩ = some (.int .i64 x.1) ∧ w.cell? ⟨g, i * 2 + 1, none⟩ = some (.int .i64 x.2) := by
  obtain ⟨g, c', cur, e, _, hc, _, _, _, hcell⟩ := own_form h hp
  obtain ⟨rfl, rfl⟩ : A = some ⟨g, 0, none⟩ ∧ c = c' := by simpa using e
  exact ⟨g, rfl, hc, fun i x hx => ⟨hcell _ _ (ndC_at L i x hx).1, hcell _ _ (ndC_at L i x hx).2⟩⟩
end
section
variable (w : World) (r m : Nat) (L : List (Int × Int)) (F : Nat → Prop) (h : Rg w r m L F)
include h
set_option maxHeartbeats 1000000 in
theorem rat_any (n : Int) : Calls Try.prog 39 #[.pointer (some ⟨r, 0, none⟩), .int .i64 n] w fun e w' => ∃ z : Int, e = .returned (.int .i64 z) ∧ w = w' ∧ ((z = -1 ∧ has L n = false) ∨ ∃ k : Nat, z = k ∧ has L n = true ∧ L[k]? = some (n, par L n)) := by
  obtain ⟨A, c, h1, h2, _⟩ := h.box
  have y1 : w.cell? ⟨r, 1, none⟩ = some (.slice A L.length c) := cell_row h1 rfl
  have hll := h.inv.len
  have hm := h.hm
  have HO := Lib.hid h2
  have HI := Lib.hid h.inv
  obtain ⟨N, hN⟩ : ∃ N, L.length = N := ⟨_, rfl⟩
  have HN := Lib.hid hN
  rw [hN] at y1 hll HO
  clear h h1 h2 hN
  go_enter Try.func39, Try.ntmps39
  go_wp2
  go_loopw [5] (fun v5 wr => ∃ i : Nat, i ≤ N ∧ v5 = .int .i64 i ∧ wr = w ∧ Hid (∀ j, j < i → ∀ x, L[j]? = some x → x.1 ≠ n)) (fun v5 _ => N - (intOf v5).toNat)
  case atStart => exact ⟨0, Nat.zero_le _, rfl, rfl, fun j hj => by omega⟩
  case round =>
    obtain ⟨i, hi, rfl, rfl, HB⟩ := hrel
    by_cases hlt : i < N
    · obtain ⟨x, hx⟩ : ∃ x, L[i]? = some x := ⟨_, List.getElem?_eq_getElem (by rw [HN.out]; exact hlt)⟩
      obtain ⟨g, rfl, hc, hcell⟩ := own_node HO.out (by omega)
      obtain ⟨z0, _⟩ := hcell i x hx
      have HX := Lib.hid hx
      obtain ⟨a, b⟩ := x
      clear hcell hx
      by_cases hxn : a = n
      · subst hxn
        have hi2 : i < 1024 := by omega
        go_wp2
        go_ret
        have hm' : (a, b) ∈ L := List.mem_of_getElem? HX.out
        exact ⟨i, rfl, rfl, .inr ⟨i, rfl, has_iff.2 ⟨b, hm'⟩, by rw [HI.out.par_eq hm']; exact HX.out⟩⟩
      · go_wp2
        exact ⟨⟨i + 1, by omega, by simp, trivial, fun j hj y hy => by
          rcases Nat.lt_or_eq_of_le (Nat.lt_succ_iff.1 hj) with e | e
          · exact HB.out j e y hy
          · subst e
            rw [HX.out] at hy
            obtain rfl := Option.some.inj hy
            exact hxn⟩, by simp [intOf]; omega⟩
    · have : i = N := by omega
      subst this
      go_wp2
      go_ret
      refine ⟨-1, rfl, rfl, .inl ⟨rfl, ?_⟩⟩
      cases e : has L n with
      | false => rfl
      | true =>
        obtain ⟨p, hp⟩ := has_iff.1 e
        obtain ⟨j, hj⟩ := List.getElem?_of_mem hp
        exact absurd rfl (HB.out j (by have := (List.getElem?_eq_some_iff.1 hj).1; rw [HN.out] at this; exact this) _ hj)
theorem rat_no (n : Int) (hn : has L n = false) : Calls Try.prog 39 #[.pointer (some ⟨r, 0, none⟩), .int .i64 n] w fun e w' => e = .returned (.int .i64 (-1)) ∧ w = w' := by
  refine (rat_any w r m L F h n).mono ?_
  rintro e w' ⟨z, rfl, rfl, ⟨rfl, _⟩ | ⟨k, _, h2, _⟩⟩
  · exact ⟨rfl, rfl⟩
  · rw [hn] at h2; cases h2
theorem rat_yes (n : Int) (hn : has L n = true) : Calls Try.prog 39 #[.pointer (some ⟨r, 0, none⟩), .int .i64 n] w fun e w' => ∃ k : Nat, e = .returned (.int .i64 k) ∧ w = w' ∧ L[k]? = some (n, par L n) := by
  refine (rat_any w r m L F h n).mono ?_
  rintro e w' ⟨z, rfl, rfl, ⟨_, h2⟩ | ⟨k, rfl, _, h3⟩⟩
  · rw [hn] at h2; cases h2
  · exact ⟨k, rfl, rfl, h3⟩
theorem rhas_any (n : Int) : Calls Try.prog 53 #[.pointer (some ⟨r, 0, none⟩), .int .i64 n] w fun e w' => e = .returned (.bool (has L n)) ∧ w = w' := by
  cases e3 : has L n with
  | false =>
    have HA := Lib.hid (rat_no w r m L F h n e3)
    clear h e3
    go_enter Try.func53, Try.ntmps53
    go_wp2_with fail
    (with_reducible refine HA.out.mono ?_)
    rintro e w1 ⟨rfl, rfl⟩
    go_wp2
    go_ret
    exact ⟨rfl, rfl⟩
  | true =>
    have HA := Lib.hid (rat_yes w r m L F h n e3)
    clear h e3
    go_enter Try.func53, Try.ntmps53
    go_wp2_with fail
    (with_reducible refine HA.out.mono ?_)
    rintro e w1 ⟨k, rfl, rfl, _⟩
    have hk : (0 : Int) ≤ (k : Int) := by omega
    go_wp2
    go_ret
    exact ⟨rfl, rfl⟩
theorem rparent_any (n : Int) : Calls Try.prog 11 #[.pointer (some ⟨r, 0, none⟩), .int .i64 n] w fun e w' => e = .returned (.tuple #[.int .i64 (par L n), .bool (has L n)]) ∧ w = w' := by
  cases e3 : has L n with
  | false =>
    have HA := Lib.hid (rat_no w r m L F h n e3)
    rw [par_no e3]
    clear h e3
    go_enter Try.func11, Try.ntmps11
    go_wp2_with fail
    (with_reducible refine HA.out.mono ?_)
    rintro e w1 ⟨rfl, rfl⟩
    go_wp2
    go_ret2
    exact ⟨rfl, rfl⟩
  | true =>
    have HA := Lib.hid (rat_yes w r m L F h n e3)
    obtain ⟨A, c, h1, h2, _⟩ := h.box
    have y1 : w.cell? ⟨r, 1, none⟩ = some (.slice A L.length c) := cell_row h1 rfl
    have hll := h.inv.len
    have hm := h.hm
    have HO := Lib.hid h2
    obtain ⟨N, hN⟩ : ∃ N, L.length = N := ⟨_, rfl⟩
    have HN := Lib.hid hN
    rw [hN] at y1 hll HO
    obtain ⟨X, hX⟩ : ∃ X, par L n = X := ⟨_, rfl⟩
    rw [hX] at HA ⊢
    clear h h1 h2 hN e3 hX
    go_enter Try.func11, Try.ntmps11
    go_wp2_with fail
    (with_reducible refine HA.out.mono ?_)
    rintro e w1 ⟨k, rfl, rfl, h3⟩
    have hkN : k < N := by have := (List.getElem?_eq_some_iff.1 h3).1; rw [HN.out] at this; exact this
    have hk : (0 : Int) ≤ (k : Int) := by omega
    obtain ⟨g, rfl, hc, hcell⟩ := own_node HO.out (by omega)
    obtain ⟨_, z1⟩ := hcell k _ h3
    clear hcell h3
    go_wp2
    go_ret2
    exact ⟨rfl, rfl⟩
end
def rkids (L : List (Int × Int)) (n : Int) : List Int := if 0 ≤ n then chl L n else []
theorem chl_take (L : List (Int × Int)) (n : Int) (i : Nat) (x : Int × Int) (hx : L[i]? = some x) : chl (L.take (i + 1)) n = chl (L.take i) n ++ if x.2 = n then [x.1] else [] := by
  obtain ⟨hlt, rfl⟩ := List.getElem?_eq_some_iff.1 hx
  rw [List.take_succ_eq_append_getElem hlt]
  have := chl_app (L.take i) L[i].1 L[i].2 n
  exact this
section
variable (w : World) (r m : Nat) (L : List (Int × Int)) (F : Nat → Prop) (h : Rg w r m L F)
include h
set_option maxHeartbeats 2000000 in
theorem rchildren_any (n : Int) : Calls Try.prog 14 #[.pointer (some ⟨r, 0, none⟩), .int .i64 n] w fun e w' => ∃ A c, e = .returned (.slice A (rkids L n).length c) ∧ w'.ownsRow 0 3 1 (.slice A (rkids L n).length c) (rkids L n).length ((rkids L n).map i64) ∧ Below w.heap.size w w' := by
  obtain ⟨A, c, h1, h2, _⟩ := h.box
  have hll := h.inv.len
  have hm := h.hm
  have HO := Lib.hid h2
  have HR := Lib.hid h1
  obtain ⟨N, hN⟩ : ∃ N, L.length = N := ⟨_, rfl⟩
  have HN := Lib.hid hN
  rw [hN] at hll HO HR
  have HLT : Hid (r < w.heap.size) := lt_of_row h1
  clear h h1 h2 hN
  have HK : Hid (∀ i, i ≤ N → (rkids (L.take i) n).length ≤ 1024) := fun i hi => by
    unfold rkids
    split
    · unfold chl
      rw [List.length_map]
      have := List.length_filter_le (fun x : Int × Int => x.2 == n) (L.take i)
      rw [List.length_take] at this
      omega
    · simp
  have H0 : Hid (w.ownsRow 0 3 1 (.slice none (rkids (L.take 0) n).length 0) (rkids (L.take 0) n).length ((rkids (L.take 0) n).map i64)) := by
    have : rkids (L.take 0) n = [] := by unfold rkids; split <;> rfl
    rw [this]; exact World.ownsRow_nil _ _ _ _
  have HNB : Hid (∀ b, (Value.slice none (rkids (L.take 0) n).length 0).ownBlock = some b → w.heap.size ≤ b) := fun b hb => by simp [Value.ownBlock] at hb
  have E0 : Hid ((rkids (L.take 0) n).length = 0) := by
    have : rkids (L.take 0) n = [] := by unfold rkids; split <;> rfl
    rw [this]; rfl
  go_enter Try.func14, Try.ntmps14
  go_wp2
  go_loopw [5, 6] (fun v4 v5 wr => ∃ (i : Nat) (B : Option Addr) (d : Nat), i ≤ N ∧ v5 = .int .i64 i ∧ v4 = .slice B (rkids (L.take i) n).length d ∧ Hid (wr.ownsRow 0 3 1 (.slice B (rkids (L.take i) n).length d) (rkids (L.take i) n).length ((rkids (L.take i) n).map i64)) ∧ Hid (∀ b, (Value.slice B (rkids (L.take i) n).length d).ownBlock = some b → w.heap.size ≤ b) ∧ Hid (Below w.heap.size w wr)) (fun _ v5 _ => N - (intOf v5).toNat)
  case atStart => exact ⟨0, none, 0, Nat.zero_le _, rfl, by rw [E0.out], H0, HNB, Below.refl _ _⟩
  case round =>
    clear H0 HNB E0
    obtain ⟨i, B, d, hi, rfl, rfl, HL, HB, HW⟩ := hrel
    have y1 : wr.cell? ⟨r, 1, none⟩ = some (.slice A N c) := (HW.out.cell HLT.out).trans (cell_row HR.out rfl)
    have hk := HK.out i hi
    by_cases hlt : i < N
    · obtain ⟨x, hx⟩ : ∃ x, L[i]? = some x := ⟨_, List.getElem?_eq_getElem (by rw [HN.out]; exact hlt)⟩
      obtain ⟨g, rfl, hc, hcell⟩ := own_node HO.out (by omega)
      obtain ⟨z0, z1⟩ := hcell i x hx
      have hg : g < w.heap.size := World.block_lt_of_cell? w _ z0
      replace z0 := (HW.out.cell hg).trans z0
      replace z1 := (HW.out.cell hg).trans z1
      have HE : Hid (rkids (L.take (i + 1)) n = rkids (L.take i) n ++ if x.2 = n ∧ 0 ≤ n then [x.1] else []) := by
        show _ = _
        unfold rkids
        by_cases h0 : 0 ≤ n
        · rw [if_pos h0, if_pos h0, chl_take L n i x hx]
          by_cases hxn : x.2 = n
          · rw [if_pos hxn, if_pos ⟨hxn, h0⟩]
          · rw [if_neg hxn, if_neg (fun e => hxn e.1)]
        · rw [if_neg h0, if_neg h0, if_neg (fun e => h0 e.2)]; rfl
      obtain ⟨a, b⟩ := x
      obtain ⟨K, hK⟩ : ∃ K, (rkids (L.take i) n).length = K := ⟨_, rfl⟩
      have HKK := Lib.hid hK
      rw [hK] at hk HL HB ⊢
      clear hcell hx hK
      by_cases hc2 : b = n ∧ 0 ≤ n
      · obtain ⟨rfl, h0⟩ := hc2
        go_wp2_with (at_builtin; refine list_app2 rfl (.tmp 30) (.tmp 39) 34 rfl 3 0 _ 1 8 Try.underlying34 info_int rfl (by decide) (by decide) (.slice B K d) K _ rfl (own_keeps HL.out ((Kept.refl _ _).alloc _)) (some ⟨wr.heap.size, 0, none⟩) 1 1 [.int .i64 a] rfl rfl (holds_new _ _ _ _ _ rfl) (by simp [Value.oneCell']) (by omega) (Nat.zero_le _) ?_; intro v9 w9 hown9 hwent9; (obtain ⟨A9, c9, rfl, _⟩ := own_slice hown9); have O9 := Lib.hid hown9; have W9 := Lib.hid hwent9; clear hown9 hwent9)
        rw [if_pos ⟨rfl, h0⟩] at HE
        have hlen : (rkids (L.take (i + 1)) b).length = K + 1 := by rw [HE.out, List.length_append, HKK.out]; rfl
        have O10 : Hid (w9.ownsRow 0 3 1 (.slice A9 (rkids (L.take (i + 1)) b).length c9) (rkids (L.take (i + 1)) b).length ((rkids (L.take (i + 1)) b).map i64)) := by
          show World.ownsRow _ _ _ _ _ _ _
          rw [hlen, HE.out, List.map_append]
          exact O9.out
        refine ⟨⟨i + 1, A9, c9, by omega, by simp, by rw [hlen], O10, fun b' hb' => ?_, ?_⟩, by simp [intOf]; omega⟩
        · rw [hlen] at hb'
          rcases W9.out.block with e | e
          · exact HB.out b' (e ▸ hb')
          · have h1 := Option.some.inj (e.symm.trans hb')
            have h2 := HW.out.size
            simp at h1
            omega
        · exact (HW.out.alloc HW.out.size _).trans (W9.out.kept.below (fun b' hb' => HB.out b' hb') (Nat.le_trans HW.out.size (by simp)))
      · rw [if_neg hc2, List.append_nil] at HE
        have O10 : Hid (wr.ownsRow 0 3 1 (.slice B (rkids (L.take (i + 1)) n).length d) (rkids (L.take (i + 1)) n).length ((rkids (L.take (i + 1)) n).map i64)) := by
          show World.ownsRow _ _ _ _ _ _ _
          rw [HE.out, HKK.out]; exact HL.out
        have HB2 : Hid (∀ b', (Value.slice B (rkids (L.take (i + 1)) n).length d).ownBlock = some b' → w.heap.size ≤ b') := fun b' hb' => HB.out b' (by rw [HE.out, HKK.out] at hb'; exact hb')
        have HE2 : Hid ((rkids (L.take (i + 1)) n).length = K) := by rw [HE.out]; exact HKK.out
        by_cases hbn : b = n
        · have h0 : n < 0 := by
            rcases Int.lt_or_le n 0 with h | h
            · exact h
            · exact absurd ⟨hbn, h⟩ hc2
          clear hc2
          go_wp2_with fail
          exact ⟨⟨i + 1, B, d, by omega, by simp, by rw [HE2.out], O10, HB2, HW⟩, by simp [intOf]; omega⟩
        · clear hc2
          go_wp2_with fail
          exact ⟨⟨i + 1, B, d, by omega, by simp, by rw [HE2.out], O10, HB2, HW⟩, by simp [intOf]; omega⟩
    · have : i = N := by omega
      subst this
      have e : L.take i = L := List.take_of_length_le (by rw [HN.out]; exact Nat.le_refl _)
      rw [e] at HL ⊢
      go_wp2
      go_ret
      exact ⟨B, d, rfl, HL.out, HW.out⟩
end
end Go.Proofs.Ytkmmpagflbnenaa.Kin

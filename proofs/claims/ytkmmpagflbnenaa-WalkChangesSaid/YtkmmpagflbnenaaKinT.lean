/- The document's forest: Cut. Own text; Ytkmmpagflbnenaa and the numbers between @..@ are the seat's. -/
import Derived.Test.YtkmmpagflbnenaaKinS
namespace Go.Proofs.Ytkmmpagflbnenaa.Kin
open Go.RowKit Go.Proofs.Ytkmmpagflbnenaa.Mem
set_option linter.unusedVariables false
theorem cut_take (L : List (Int × Int)) (n : Int) (i : Nat) (x : Int × Int) (hx : L[i]? = some x) : cut (L.take (i + 1)) n = cut (L.take i) n ++ if x.1 = n then [] else [x] := by
  obtain ⟨hlt, rfl⟩ := List.getElem?_eq_some_iff.1 hx
  rw [List.take_succ_eq_append_getElem hlt]
  unfold cut
  rw [List.filter_append]
  congr 1
  by_cases h : L[i].1 = n
  · rw [if_pos h]; simp [h]
  · rw [if_neg h]; simp [h]
section
variable (w : World) (r m : Nat) (L : List (Int × Int)) (F : Nat → Prop) (h : Rg w r m L F)
include h
set_option maxHeartbeats 2000000 in
theorem rcut_yes (n : Int) (hn : has L n = true) (hc : chl L n = []) : Calls Try.prog 33 #[.pointer (some ⟨r, 0, none⟩), .int .i64 n] w fun e w' => e = .returned (.int .i64 0) ∧ Kept F w w' ∧ Rg w' r m (cut L n) (fun b => F b ∨ w.heap.size ≤ b) := by
  have HH := Lib.hid (rhas_any w r m L F h n)
  rw [hn] at HH
  have HC := Lib.hid (rchildren_any w r m L F h n)
  have hk : rkids L n = [] := by unfold rkids; rw [hc]; split <;> rfl
  rw [hk] at HC
  obtain ⟨A, c, h1, h2, h3⟩ := h.box
  have hll := h.inv.len
  have hm := h.hm
  have HO := Lib.hid h2
  have H1 := Lib.hid h1
  have H3 := Lib.hid h3
  have HG := Lib.hid h
  have HI : Hid (Inv m (cut L n)) := h.inv.cut hc
  obtain ⟨N, hN⟩ : ∃ N, L.length = N := ⟨_, rfl⟩
  have HN := Lib.hid hN
  rw [hN] at hll HO H1 H3
  have HLT : Hid (r < w.heap.size) := lt_of_row h1
  have HK : Hid (∀ i, i ≤ N → (cut (L.take i) n).length ≤ 1024) := fun i hi => by
    unfold cut
    have := List.length_filter_le (fun x : Int × Int => x.1 != n) (L.take i)
    rw [List.length_take] at this
    omega
  clear h h1 h2 h3 hn hc hk hN
  go_enter Try.func33, Try.ntmps33
  go_wp2_with fail
  (with_reducible refine HH.out.mono ?_)
  rintro e w1 ⟨rfl, rfl⟩
  go_wp2_with fail
  (with_reducible refine HC.out.mono ?_)
  rintro e w1 ⟨A1, c1, rfl, _, hb1⟩
  have HB1 := Lib.hid hb1
  have H0 : Hid (w1.ownsRow 0 68 2 (.slice none (cut (L.take 0) n).length 0) (cut (L.take 0) n).length (ndC (cut (L.take 0) n))) := World.ownsRow_nil _ _ _ _
  have HNB : Hid (∀ b, (Value.slice none (cut (L.take 0) n).length 0).ownBlock = some b → w.heap.size ≤ b) := fun b hb => by simp [Value.ownBlock] at hb
  clear hb1 HC HH
  go_wp2
  go_loopw [5, 6] (fun v5 v6 wr => ∃ (i : Nat) (B : Option Addr) (d : Nat), i ≤ N ∧ v6 = .int .i64 i ∧ v5 = .slice B (cut (L.take i) n).length d ∧ Hid (wr.ownsRow 0 68 2 (.slice B (cut (L.take i) n).length d) (cut (L.take i) n).length (ndC (cut (L.take i) n))) ∧ Hid (∀ b, (Value.slice B (cut (L.take i) n).length d).ownBlock = some b → w.heap.size ≤ b) ∧ Hid (Below w.heap.size w wr)) (fun _ v6 _ => N - (intOf v6).toNat)
  case atStart => exact ⟨0, none, 0, Nat.zero_le _, rfl, rfl, H0, HNB, HB1⟩
  case round =>
    clear H0 HNB HB1
    obtain ⟨i, B, d, hi, rfl, rfl, HL, HB, HW⟩ := hrel
    have y1 : wr.cell? ⟨r, 1, none⟩ = some (.slice A N c) := (HW.out.cell HLT.out).trans (cell_row H1.out rfl)
    have f1 : wr.frozen? ⟨r, 1, none⟩ = false := (HW.out.frozen HLT.out).trans (free_row H1.out)
    have hk := HK.out i hi
    by_cases hlt : i < N
    · obtain ⟨x, hx⟩ : ∃ x, L[i]? = some x := ⟨_, List.getElem?_eq_getElem (by rw [HN.out]; exact hlt)⟩
      obtain ⟨g, rfl, hc, hcell⟩ := own_node HO.out (by omega)
      obtain ⟨z0, z1⟩ := hcell i x hx
      have hg : g < w.heap.size := World.block_lt_of_cell? w _ z0
      replace z0 := (HW.out.cell hg).trans z0
      replace z1 := (HW.out.cell hg).trans z1
      have HE := Lib.hid (cut_take L n i x hx)
      obtain ⟨a, b⟩ := x
      obtain ⟨K, hK⟩ : ∃ K, (cut (L.take i) n).length = K := ⟨_, rfl⟩
      have HKK := Lib.hid hK
      rw [hK] at hk HL HB ⊢
      clear hcell hx hK
      by_cases hxn : a = n
      · rw [if_pos hxn, List.append_nil] at HE
        have O10 : Hid (wr.ownsRow 0 68 2 (.slice B (cut (L.take (i + 1)) n).length d) (cut (L.take (i + 1)) n).length (ndC (cut (L.take (i + 1)) n))) := by
          show World.ownsRow _ _ _ _ _ _ _
          rw [HE.out, HKK.out]; exact HL.out
        have HB2 : Hid (∀ b', (Value.slice B (cut (L.take (i + 1)) n).length d).ownBlock = some b' → w.heap.size ≤ b') := fun b' hb' => HB.out b' (by rw [HE.out, HKK.out] at hb'; exact hb')
        have HE2 : Hid ((cut (L.take (i + 1)) n).length = K) := by rw [HE.out]; exact HKK.out
        go_wp2_with fail
        exact ⟨⟨i + 1, B, d, by omega, by simp, by rw [HE2.out], O10, HB2, HW⟩, by simp [intOf]; omega⟩
      · rw [if_neg hxn] at HE
        go_wp2_with (at_builtin; refine list_app2 rfl (.tmp 35) (.tmp 43) 69 rfl 68 0 _ 2 16 Try.underlying69 info_rnode rfl (by decide) (by decide) (.slice B K d) K _ rfl (own_keeps HL.out ((Kept.refl _ _).alloc _)) (some ⟨wr.heap.size, 0, none⟩) 1 1 [.int .i64 a, .int .i64 b] rfl rfl (holds_new _ _ _ _ _ rfl) (by simp [Value.oneCell']) (by omega) (Nat.zero_le _) ?_; intro v9 w9 hown9 hwent9; (obtain ⟨A9, c9, rfl, _⟩ := own_slice hown9); have O9 := Lib.hid hown9; have W9 := Lib.hid hwent9; clear hown9 hwent9)
        have hlen : (cut (L.take (i + 1)) n).length = K + 1 := by rw [HE.out, List.length_append, HKK.out]; rfl
        have O10 : Hid (w9.ownsRow 0 68 2 (.slice A9 (cut (L.take (i + 1)) n).length c9) (cut (L.take (i + 1)) n).length (ndC (cut (L.take (i + 1)) n))) := by
          show World.ownsRow _ _ _ _ _ _ _
          rw [hlen, HE.out, ndC_app]
          exact O9.out
        refine ⟨⟨i + 1, A9, c9, by omega, by simp, by rw [hlen], O10, fun b' hb' => ?_, ?_⟩, by simp [intOf]; omega⟩
        · rw [hlen] at hb'
          rcases W9.out.block with e | e
          · exact HB.out b' (e ▸ hb')
          · have h1 := Option.some.inj (e.symm.trans hb')
            have h2 := HW.out.size
            simp at h1
            omega
        · exact (HW.out.alloc HW.out.size _).trans (W9.out.kept.below (fun b' hb' => HB.out b' hb') (Nat.le_trans HW.out.size (by simp)))
    · have : i = N := by omega
      subst this
      have e : L.take i = L := List.take_of_length_le (by rw [HN.out]; exact Nat.le_refl _)
      rw [e] at HL HB ⊢
      have fin := Lib.hid (HG.out.put (L' := cut L n) (B := B) (d := d) (Kept.of_below HW.out) (HW.out.block r HLT.out) HL.out (fun b hb => .inr (HB.out b hb)) HI.out)
      obtain ⟨K, hK⟩ : ∃ K, (cut L n).length = K := ⟨_, rfl⟩
      rw [hK] at fin ⊢
      clear hK hk e
      go_wp2
      go_ret
      exact ⟨rfl, fin.out⟩
theorem rcut_any (n : Int) : Calls Try.prog 33 #[.pointer (some ⟨r, 0, none⟩), .int .i64 n] w fun e w' => e = .returned (.int .i64 (cutE L n)) ∧ Kept F w w' ∧ Rg w' r m (cutL L n) (fun b => F b ∨ w.heap.size ≤ b) := by
  have same : Hid (∀ w', Below w.heap.size w w' → Kept F w w' ∧ Rg w' r m L (fun b => F b ∨ w.heap.size ≤ b)) := fun w' hb => ⟨Kept.of_below hb, (h.below hb).mono (fun b hb => .inl hb)⟩
  have HH := Lib.hid (rhas_any w r m L F h n)
  unfold cutE cutL
  by_cases hn : has L n = true
  · rw [if_pos hn]
    by_cases hc : chl L n = []
    · rw [if_pos hc, if_pos ⟨hn, hc⟩]
      exact rcut_yes w r m L F h n hn hc
    · rw [if_neg hc, if_neg (fun e => hc e.2)]
      have HC := Lib.hid (rchildren_any w r m L F h n)
      have hk : rkids L n = chl L n := if_pos (h.inv.has_rng hn).1
      rw [hk] at HC
      rw [hn] at HH
      have hl : 0 < (chl L n).length := List.length_pos_iff.2 hc
      have hl2 : (chl L n).length ≤ 1024 := by
        have h1 := h.inv.len
        have h2 := h.hm
        unfold chl
        rw [List.length_map]
        have := List.length_filter_le (fun x : Int × Int => x.2 == n) L
        omega
      obtain ⟨K, hK⟩ : ∃ K, (chl L n).length = K := ⟨_, rfl⟩
      rw [hK] at HC hl hl2
      clear h hn hc hk hK
      go_enter Try.func33, Try.ntmps33
      go_wp2_with fail
      (with_reducible refine HH.out.mono ?_)
      rintro e w1 ⟨rfl, rfl⟩
      go_wp2_with fail
      (with_reducible refine HC.out.mono ?_)
      rintro e w1 ⟨A1, c1, rfl, _, hb1⟩
      have HB1 := Lib.hid hb1
      clear hb1
      go_wp2
      go_ret
      exact ⟨rfl, same.out _ HB1.out⟩
  · rw [if_neg hn, if_neg (fun e => hn e.1)]
    rw [show has L n = false by simpa using hn] at HH
    clear h hn
    go_enter Try.func33, Try.ntmps33
    go_wp2_with fail
    (with_reducible refine HH.out.mono ?_)
    rintro e w1 ⟨rfl, rfl⟩
    go_wp2
    go_ret
    exact ⟨rfl, same.out _ (Below.refl _ _)⟩
end
end Go.Proofs.Ytkmmpagflbnenaa.Kin

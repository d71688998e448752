/- The document's Children, once more: what it tells is new. Own text; Ytkmmpagflbnenaa and the numbers between @..@ are the seat's. -/
import Derived.Test.YtkmmpagflbnenaaWaC
namespace Go.Proofs.Ytkmmpagflbnenaa.Kin
open Go.RowKit Go.Proofs.Ytkmmpagflbnenaa.Mem
set_option linter.unusedVariables false
section
variable (w : World) (r m : Nat) (L : List (Int × Int)) (F : Nat → Prop) (h : Rg w r m L F)
include h
set_option maxHeartbeats 2000000 in
theorem rchildren_new (n : Int) : Calls Try.prog 14 #[.pointer (some ⟨r, 0, none⟩), .int .i64 n] w fun e w' => ∃ A c, e = .returned (.slice A (rkids L n).length c) ∧ w'.ownsRow 0 3 1 (.slice A (rkids L n).length c) (rkids L n).length ((rkids L n).map i64) ∧ Below w.heap.size w w' ∧ Fresh w (.slice A (rkids L n).length c) := by
  obtain ⟨A, c, h1, h2, _⟩ := h.box
  have hll := h.inv.len
  have hm := h.hm
  have HO := Lib.hid h2
  have HR := Lib.hid h1
  obtain ⟨N, hN⟩ : ∃ N, L.length = N := ⟨_, rfl⟩
  have HN := Lib.hid hN
  rw [hN] at hll HO HR
  have HLT : Hid (r < w.heap.size) := lt_of_row h1
  clear h h1 h2 hN
  have HK : Hid (∀ i, i ≤ N → (rkids (L.take i) n).length ≤ 1024) := fun i hi => by
    unfold rkids
    split
    · unfold chl
      rw [List.length_map]
      have := List.length_filter_le (fun x : Int × Int => x.2 == n) (L.take i)
      rw [List.length_take] at this
      omega
    · simp
  have H0 : Hid (w.ownsRow 0 3 1 (.slice none (rkids (L.take 0) n).length 0) (rkids (L.take 0) n).length ((rkids (L.take 0) n).map i64)) := by
    have : rkids (L.take 0) n = [] := by unfold rkids; split <;> rfl
    rw [this]; exact World.ownsRow_nil _ _ _ _
  have HNB : Hid (∀ b, (Value.slice none (rkids (L.take 0) n).length 0).ownBlock = some b → w.heap.size ≤ b) := fun b hb => by simp [Value.ownBlock] at hb
  have E0 : Hid ((rkids (L.take 0) n).length = 0) := by
    have : rkids (L.take 0) n = [] := by unfold rkids; split <;> rfl
    rw [this]; rfl
  go_enter Try.func14, Try.ntmps14
  go_wp2
  go_loopw [5, 6] (fun v4 v5 wr => ∃ (i : Nat) (B : Option Addr) (d : Nat), i ≤ N ∧ v5 = .int .i64 i ∧ v4 = .slice B (rkids (L.take i) n).length d ∧ Hid (wr.ownsRow 0 3 1 (.slice B (rkids (L.take i) n).length d) (rkids (L.take i) n).length ((rkids (L.take i) n).map i64)) ∧ Hid (∀ b, (Value.slice B (rkids (L.take i) n).length d).ownBlock = some b → w.heap.size ≤ b) ∧ Hid (Below w.heap.size w wr)) (fun _ v5 _ => N - (intOf v5).toNat)
  case atStart => exact ⟨0, none, 0, Nat.zero_le _, rfl, by rw [E0.out], H0, HNB, Below.refl _ _⟩
  case round =>
    clear H0 HNB E0
    obtain ⟨i, B, d, hi, rfl, rfl, HL, HB, HW⟩ := hrel
    have y1 : wr.cell? ⟨r, 1, none⟩ = some (.slice A N c) := (HW.out.cell HLT.out).trans (cell_row HR.out rfl)
    have hk := HK.out i hi
    by_cases hlt : i < N
    · obtain ⟨x, hx⟩ : ∃ x, L[i]? = some x := ⟨_, List.getElem?_eq_getElem (by rw [HN.out]; exact hlt)⟩
      obtain ⟨g, rfl, hc, hcell⟩ := own_node HO.out (by omega)
      obtain ⟨z0, z1⟩ := hcell i x hx
      have hg : g < w.heap.size := World.block_lt_of_cell? w _ z0
      replace z0 := (HW.out.cell hg).trans z0
      replace z1 := (HW.out.cell hg).trans z1
      have HE : Hid (rkids (L.take (i + 1)) n = rkids (L.take i) n ++ if x.2 = n ∧ 0 ≤ n then [x.1] else []) := by
        show _ = _
        unfold rkids
        by_cases h0 : 0 ≤ n
        · rw [if_pos h0, if_pos h0, chl_take L n i x hx]
          by_cases hxn : x.2 = n
          · rw [if_pos hxn, if_pos ⟨hxn, h0⟩]
          · rw [if_neg hxn, if_neg (fun e => hxn e.1)]
        · rw [if_neg h0, if_neg h0, if_neg (fun e => h0 e.2)]; rfl
      obtain ⟨a, b⟩ := x
      obtain ⟨K, hK⟩ : ∃ K, (rkids (L.take i) n).length = K := ⟨_, rfl⟩
      have HKK := Lib.hid hK
      rw [hK] at hk HL HB ⊢
      clear hcell hx hK
      by_cases hc2 : b = n ∧ 0 ≤ n
      · obtain ⟨rfl, h0⟩ := hc2
        go_wp2_with (at_builtin; refine list_app2 rfl (.tmp 30) (.tmp 39) 34 rfl 3 0 _ 1 8 Try.underlying34 info_int rfl (by decide) (by decide) (.slice B K d) K _ rfl (own_keeps HL.out ((Kept.refl _ _).alloc _)) (some ⟨wr.heap.size, 0, none⟩) 1 1 [.int .i64 a] rfl rfl (holds_new _ _ _ _ _ rfl) (by simp [Value.oneCell']) (by omega) (Nat.zero_le _) ?_; intro v9 w9 hown9 hwent9; (obtain ⟨A9, c9, rfl, _⟩ := own_slice hown9); have O9 := Lib.hid hown9; have W9 := Lib.hid hwent9; clear hown9 hwent9)
        rw [if_pos ⟨rfl, h0⟩] at HE
        have hlen : (rkids (L.take (i + 1)) b).length = K + 1 := by rw [HE.out, List.length_append, HKK.out]; rfl
        have O10 : Hid (w9.ownsRow 0 3 1 (.slice A9 (rkids (L.take (i + 1)) b).length c9) (rkids (L.take (i + 1)) b).length ((rkids (L.take (i + 1)) b).map i64)) := by
          show World.ownsRow _ _ _ _ _ _ _
          rw [hlen, HE.out, List.map_append]
          exact O9.out
        refine ⟨⟨i + 1, A9, c9, by omega, by simp, by rw [hlen], O10, fun b' hb' => ?_, ?_⟩, by simp [intOf]; omega⟩
        · rw [hlen] at hb'
          rcases W9.out.block with e | e
          · exact HB.out b' (e ▸ hb')
          · have h1 := Option.some.inj (e.symm.trans hb')
            have h2 := HW.out.size
            simp at h1
            omega
        · exact (HW.out.alloc HW.out.size _).trans (W9.out.kept.below (fun b' hb' => HB.out b' hb') (Nat.le_trans HW.out.size (by simp)))
      · rw [if_neg hc2, List.append_nil] at HE
        have O10 : Hid (wr.ownsRow 0 3 1 (.slice B (rkids (L.take (i + 1)) n).length d) (rkids (L.take (i + 1)) n).length ((rkids (L.take (i + 1)) n).map i64)) := by
          show World.ownsRow _ _ _ _ _ _ _
          rw [HE.out, HKK.out]; exact HL.out
        have HB2 : Hid (∀ b', (Value.slice B (rkids (L.take (i + 1)) n).length d).ownBlock = some b' → w.heap.size ≤ b') := fun b' hb' => HB.out b' (by rw [HE.out, HKK.out] at hb'; exact hb')
        have HE2 : Hid ((rkids (L.take (i + 1)) n).length = K) := by rw [HE.out]; exact HKK.out
        by_cases hbn : b = n
        · have h0 : n < 0 := by
            rcases Int.lt_or_le n 0 with h | h
            · exact h
            · exact absurd ⟨hbn, h⟩ hc2
          clear hc2
          go_wp2_with fail
          exact ⟨⟨i + 1, B, d, by omega, by simp, by rw [HE2.out], O10, HB2, HW⟩, by simp [intOf]; omega⟩
        · clear hc2
          go_wp2_with fail
          exact ⟨⟨i + 1, B, d, by omega, by simp, by rw [HE2.out], O10, HB2, HW⟩, by simp [intOf]; omega⟩
    · have : i = N := by omega
      subst this
      have e : L.take i = L := List.take_of_length_le (by rw [HN.out]; exact Nat.le_refl _)
      rw [e] at HL HB ⊢
      go_wp2
      go_ret
      exact ⟨B, d, rfl, HL.out, HW.out, HB.out⟩
end
end Go.Proofs.Ytkmmpagflbnenaa.Kin

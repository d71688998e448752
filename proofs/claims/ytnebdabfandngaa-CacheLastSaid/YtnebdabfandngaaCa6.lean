/- The document's cache: a list without one of its places; what is put. -/
import Derived.Test.YtnebdabfandngaaCa5
namespace Go.Proofs.Ytnebdabfandngaa.C
open Go.RowKit Go.Proofs.Ytnebdabfandngaa.Mem
theorem wo_step {α : Type} (L : List α) {i k : Nat} (hi : i < L.length) : (L.take (i + 1)).eraseIdx k = (L.take i).eraseIdx k ++ (if i = k then [] else [L[i]]) := by
  rw [List.take_add_one, List.getElem?_eq_getElem hi]
  show (L.take i ++ [L[i]]).eraseIdx k = _
  have hl : (L.take i).length = i := by rw [List.length_take]; omega
  by_cases h : i = k
  · subst h
    rw [if_pos rfl, List.append_nil, List.eraseIdx_append_of_length_le (by omega), hl, Nat.sub_self, List.eraseIdx_of_length_le (l := L.take i) (by omega)]
    simp
  · rw [if_neg h]
    by_cases h2 : k < i
    · rw [List.eraseIdx_append_of_lt_length (by omega)]
    · rw [List.eraseIdx_append_of_length_le (by omega), hl, List.eraseIdx_of_length_le (l := L.take i) (by omega), List.eraseIdx_of_length_le (by simp; omega)]
structure Wo (W : World) (r : Nat) (s a k e y n : Int) (v : Value) (L : List En) (F : Nat → Prop) (at' : Nat) (i : Nat) (v4 : Value) (w : World) : Prop where
  at'' : RV w r s a k e y n v L F
  own : w.ownsRow 0 66 4 v4 ((L.take i).eraseIdx at').length (ensC ((L.take i).eraseIdx at'))
  fresh : ∀ b, v4.ownBlock = some b → W.heap.size ≤ b
  below : Below W.heap.size W w
  old : r < W.heap.size ∧ ∀ b, v.ownBlock = some b → b < W.heap.size
theorem Wo.box {W : World} {r : Nat} {s a k e y n : Int} {v : Value} {L : List En} {F : Nat → Prop} {at' i : Nat} {v4 : Value} {w w' : World} (h : Wo W r s a k e y n v L F at' i v4 w) (hb : Below w.heap.size w w') : Wo W r s a k e y n v L F at' i v4 w' :=
  ⟨h.at''.below hb, own_keeps h.own (Kept.of_below hb), h.fresh, h.below.trans (hb.mono h.below.size), h.old⟩
theorem Wo.skip {W : World} {r : Nat} {s a k e y n : Int} {v : Value} {L : List En} {F : Nat → Prop} {i : Nat} {v4 : Value} {w : World} (h : Wo W r s a k e y n v L F i i v4 w) (hi : i < L.length) : Wo W r s a k e y n v L F i (i + 1) v4 w :=
  ⟨h.at'', by rw [wo_step L hi, if_pos rfl, List.append_nil]; exact h.own, h.fresh, h.below, h.old⟩
theorem Wo.grew {W : World} {r : Nat} {s a k e y n : Int} {v : Value} {L : List En} {F : Nat → Prop} {at' i : Nat} {v4 v9 : Value} {w w9 : World} (h : Wo W r s a k e y n v L F at' i v4 w) (hi : i < L.length) (hne : i ≠ at') {m : Nat} (hm : ((L.take i).eraseIdx at').length = m) {x : En} (hx : L.getD i e0 = x) (o : Obj)
    (hown : w9.ownsRow 0 66 4 v9 (m + 1) (ensC ((L.take i).eraseIdx at') ++ enC x)) (hw : Went (w.alloc o) w9 v4 v9 m 1) : Wo W r s a k e y n v L F at' (i + 1) v9 w9 := by
  have hb := (Below.refl _ w).alloc (Nat.le_refl _) o
  have hs := h.below.size
  have e1 : L[i] = x := by rw [← hx, List.getD_eq_getElem?_getD, List.getElem?_eq_getElem hi]; rfl
  refine ⟨(h.at''.below hb).kept2 hw.kept (fun e => by have := h.fresh r e; have := h.old.1; omega) (fun b hb e => by have := h.fresh b e; have := h.old.2 b hb; omega), ?_, fun b hbb => ?_, ?_, h.old⟩
  · rw [wo_step L hi, if_neg hne, e1, List.length_append, hm]
    have : ensC ((L.take i).eraseIdx at' ++ [x]) = ensC ((L.take i).eraseIdx at') ++ enC x := by simp [ensC, List.flatMap_append]
    rw [this]
    exact hown
  · rcases hw.block with e | e
    · exact h.fresh b (e ▸ hbb)
    · have := Option.some.inj (e.symm.trans hbb)
      simp at this
      omega
  · exact (h.below.trans (hb.mono hs)).trans (hw.kept.below (fun b hb => h.fresh b hb) (by simp; omega))
set_option maxHeartbeats 4000000 in
theorem without_any (w : World) (r : Nat) (s a k e y n : Int) (L : List En) (F : Nat → Prop) (hF : ∀ b, w.heap.size ≤ b → F b) (h : RAt w r s a k e y n L F) (at' : Nat) (hat : at' < L.length) (hL : L.length ≤ 1000000) :
    Calls Try.prog 24 #[.pointer (some ⟨r, 0, none⟩), .int .i64 at'] w fun x w' => x = .returned (.tuple #[]) ∧ RAt w' r s a k e y n (L.eraseIdx at') F ∧ Kept (fun b => b = r) w w' := by
  obtain ⟨v, h⟩ := h
  obtain ⟨A, cp, rfl, hcp, hcm⟩ := h.slice
  obtain ⟨N, hN⟩ : ∃ N, L.length = N := ⟨_, rfl⟩
  have H0 : Hid (Wo w r s a k e y n (.slice A N cp) L F at' 0 (.slice none 0 0) w) := by
    rw [hN] at h
    exact ⟨h, by simpa [ensC] using World.ownsRow_nil _ _ _ _, fun b hb => by simp [Value.ownBlock] at hb, Below.refl _ _, lt_of_row h.row, fun b hb => own_lt h.own b hb⟩
  rw [hN] at hcp hat hL
  have HN := Lib.hid hN
  have HF := Lib.hid hF
  unfold maxLen at hcm
  clear h hN hF
  go_enter Try.func24, Try.ntmps24
  go_wp2_with fail
  go_loopw [4, 5] (fun v4 v5 wr => ∃ (i m c : Nat) (A4 : Option Addr), i ≤ N ∧ v5 = .int .i64 i ∧ v4 = .slice A4 m c ∧ Hid (((L.take i).eraseIdx at').length = m) ∧ Hid (Wo w r s a k e y n (.slice A N cp) L F at' i (.slice A4 m c) wr)) (fun _ v5 _ => N - (intOf v5).toNat)
  case atStart => exact ⟨0, 0, 0, none, Nat.zero_le _, rfl, rfl, (show ((L.take 0).eraseIdx at').length = 0 by simp), H0⟩
  case round =>
    clear H0
    obtain ⟨i, m, c4, A4, hi, rfl, rfl, HM, HW⟩ := hrel
    obtain ⟨c0, c1, c2, c3, c4', c5, c6, cf, hrl⟩ := HW.out.at''.cells
    have f6 := cf 6
    clear c0 c1 c2 c3 c4' c5 cf
    by_cases hlt : i < N
    · by_cases hia : i = at'
      · subst hia
        go_wp2_with fail
        exact ⟨⟨i + 1, m, c4, A4, by omega, by simp, rfl, (by
          rw [wo_step L (by rw [HN.out]; exact hlt), if_pos rfl, List.append_nil]; exact HM.out), HW.out.skip (by rw [HN.out]; exact hlt)⟩, by simp [intOf]; omega⟩
      · obtain ⟨g, c', e1, _, _, k0, k1, k2, k3⟩ := HW.out.at''.item (i := i) (by rw [HN.out]; exact hlt)
        rw [HN.out] at e1
        obtain ⟨rfl, rfl⟩ : A = some ⟨g, 0, none⟩ ∧ cp = c' := by simpa using e1
        obtain ⟨x, hx⟩ : ∃ x, L.getD i e0 = x := ⟨_, rfl⟩
        have HX := Lib.hid hx
        rw [hx] at k0 k1 k2 k3
        have hm6 : m ≤ 1000000 := by
          have h1 := HM.out
          have h2 := List.length_eraseIdx_le (L.take i) at'
          rw [List.length_take] at h2
          omega
        have hiab : ((i : Int) != (at' : Int)) = true := bne_iff_ne.2 (by omega)
        have HIA := Lib.hid hia
        clear hx e1 hia
        go_wp2_with (at_builtin; refine list_app2 rfl (.tmp 18) (.tmp 26) 44 rfl 66 0 _ 4 32 Try.underlying44 info66 rfl (by decide) (by decide) (.slice A4 m c4) m _ rfl (own_keeps (HM.out ▸ HW.out.own) ((Kept.refl _ _).alloc _)) (some ⟨wr.heap.size, 0, none⟩) 1 1 (enC x) rfl rfl (holds_new _ _ _ _ _ rfl) (by simp [enC, Value.oneCell']) (by omega) (Nat.zero_le _) ?_; intro v9 w9 hown9 hwent9)
        obtain ⟨A9, c9, rfl, _⟩ := own_slice hown9
        exact ⟨⟨i + 1, m + 1, c9, A9, by omega, by simp, rfl, (by rw [wo_step L (by rw [HN.out]; exact hlt), if_neg HIA.out, List.length_append, HM.out]; rfl), HW.out.grew (by rw [HN.out]; exact hlt) HIA.out HM.out HX.out _ hown9 hwent9⟩, by simp [intOf]; omega⟩
    · have : i = N := by omega
      subst this
      go_wp2_with fail
      go_end0
      have hown := HW.out.own
      have hbl := HW.out.below
      have hR := HW.out.at''.list (v' := .slice A4 m c4) (L' := L.eraseIdx at') (by rw [List.take_of_length_le (by rw [HN.out]; exact Nat.le_refl _)] at hown; exact hown) (fun b hb => ⟨HF.out b (HW.out.fresh b hb), fun e => by have h1 := HW.out.fresh b hb; have h2 := HW.out.old.1; omega⟩)
      exact ⟨rfl, ⟨_, hR⟩, (Kept.of_below (S := fun b => b = r) hbl).setCell (p := ⟨r, 6, none⟩) (.inl rfl) _⟩
end Go.Proofs.Ytnebdabfandngaa.C

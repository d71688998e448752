/- The document's forest: New, Root, Child, Cut. Own text; Ytkmmpagflbnenaa and the numbers between @..@ are the seat's. -/
import Derived.Test.YtkmmpagflbnenaaKinR
namespace Go.Proofs.Ytkmmpagflbnenaa.Kin
open Go.RowKit Go.Proofs.Ytkmmpagflbnenaa.Mem
set_option linter.unusedVariables false
theorem rnew_in (w : World) (n : Nat) (hn : n ≤ 1024) : Calls Try.prog 30 #[.int .i64 n] w fun e w' => ∃ r, e = .returned (.tuple #[.pointer (some ⟨r, 0, none⟩), .int .i64 0]) ∧ Below w.heap.size w w' ∧ Rg w' r n [] (fun b => w.heap.size ≤ b) := by
  go_enter Try.func30, Try.ntmps30
  go_wp2
  go_ret2
  exact ⟨w.heap.size, rfl, (Below.refl _ w).alloc (Nat.le_refl _) _, ⟨⟨none, 0, heap_alloc_new w _, World.ownsRow_nil _ _ _ _, fun b hb => by simp [Value.ownBlock] at hb⟩, Nat.le_refl _, hn, inv_nil n⟩⟩
theorem rnew_out (w : World) (n : Int) (hn : n < 0 ∨ 1024 < n) : Calls Try.prog 30 #[.int .i64 n] w fun e w' => e = .returned (.tuple #[.pointer none, .int .i64 16]) ∧ w = w' := by
  by_cases h0 : n < 0
  · go_enter Try.func30, Try.ntmps30
    go_wp2
    go_ret2
    exact ⟨rfl, rfl⟩
  · have h1 : 1024 < n := by omega
    have h2 : ¬ n < 0 := h0
    clear hn h0
    go_enter Try.func30, Try.ntmps30
    go_wp2
    go_ret2
    exact ⟨rfl, rfl⟩
/-- The list of nodes is laid anew into the forest. -/
theorem Rg.put {w w1 : World} {r m : Nat} {L L' : List (Int × Int)} {F : Nat → Prop} (h : Rg w r m L F) {B : Option Addr} {d : Nat} (hk : Kept F w w1) (hr : w1.heap[r]? = w.heap[r]?) (hown : w1.ownsRow 0 68 2 (.slice B L'.length d) L'.length (ndC L')) (hb : ∀ b, (Value.slice B L'.length d).ownBlock = some b → (F b ∧ b ≠ r) ∨ w.heap.size ≤ b) (hi : Inv m L') :
    Kept F w (w1.setCell ⟨r, 1, none⟩ (.slice B L'.length d)) ∧ Rg (w1.setCell ⟨r, 1, none⟩ (.slice B L'.length d)) r m L' (fun b => F b ∨ w.heap.size ≤ b) := by
  obtain ⟨A, c, h1, h2, h3⟩ := h.box
  have hlt := lt_of_row h1
  have g1 := heap_setCell_same w1 r 1 _ _ (.slice B L'.length d) (hr.trans h1)
  have hbr : ∀ b, (Value.slice B L'.length d).ownBlock = some b → b ≠ r := fun b e => by
    rcases hb b e with e2 | e2
    · exact e2.2
    · omega
  refine ⟨hk.setCell (p := ⟨r, 1, none⟩) (.inl h.fr) _, ⟨⟨B, d, g1, own_kept hown ((Kept.refl (fun b => b = r) w1).setCell (p := ⟨r, 1, none⟩) (.inl rfl) _) (fun b hb' e => hbr b hb' e), fun b hb' => ⟨?_, hbr b hb'⟩⟩, .inl h.fr, h.hm, hi⟩⟩
  rcases hb b hb' with e | e
  · exact .inl e.1
  · exact .inr e
section
variable (w : World) (r m : Nat) (L : List (Int × Int)) (F : Nat → Prop) (h : Rg w r m L F)
include h
set_option maxHeartbeats 1000000 in
theorem rroot_any (n : Int) : Calls Try.prog 31 #[.pointer (some ⟨r, 0, none⟩), .int .i64 n] w fun e w' => e = .returned (.int .i64 (rootE m L n)) ∧ Kept F w w' ∧ Rg w' r m (rootL m L n) (fun b => F b ∨ w.heap.size ≤ b) := by
  have HH := Lib.hid (rhas_any w r m L F h n)
  have same : Hid (Kept F w w ∧ Rg w r m L (fun b => F b ∨ w.heap.size ≤ b)) := ⟨Kept.refl _ _, h.mono (fun b hb => .inl hb)⟩
  obtain ⟨A, c, h1, h2, h3⟩ := h.box
  have y0 : w.cell? ⟨r, 0, none⟩ = some (.int .i64 m) := cell_row h1 rfl
  have hm := h.hm
  unfold rootE rootL
  by_cases hr : inR m n = true
  · rw [if_pos hr, if_pos hr]
    obtain ⟨k, rfl, hk⟩ := inR_nat hr
    by_cases hn : has L (k : Int) = true
    · rw [if_pos hn, if_pos hn]
      rw [hn] at HH
      clear h h1 h2 h3 hr hn
      go_enter Try.func31, Try.ntmps31
      go_wp2_with fail
      (with_reducible refine HH.out.mono ?_)
      rintro e w1 ⟨rfl, rfl⟩
      go_wp2
      go_ret
      exact ⟨rfl, same.out⟩
    · rw [if_neg hn, if_neg hn]
      rw [show has L (k : Int) = false by simpa using hn] at HH
      have y1 : w.cell? ⟨r, 1, none⟩ = some (.slice A L.length c) := cell_row h1 rfl
      have f1 : w.frozen? ⟨r, 1, none⟩ = false := free_row h1
      have hll := h.inv.len
      have HO := Lib.hid h2
      have H1 := Lib.hid h1
      have H3 := Lib.hid h3
      have HG := Lib.hid h
      have HI : Hid (Inv m (L ++ [((k : Int), -1)])) := h.inv.add (by omega) (by omega) (by simpa using hn) (.inl rfl)
      obtain ⟨N, hN⟩ : ∃ N, L.length = N := ⟨_, rfl⟩
      have HN := Lib.hid hN
      rw [hN] at y1 hll HO H1 H3
      clear h h1 h2 h3 hr hn hN same
      go_enter Try.func31, Try.ntmps31
      go_wp2_with fail
      (with_reducible refine HH.out.mono ?_)
      rintro e w1 ⟨rfl, rfl⟩
      go_wp2_with (at_builtin; refine list_app2 rfl (.tmp 22) (.tmp 25) 69 rfl 68 0 _ 2 16 Try.underlying69 info_rnode rfl (by decide) (by decide) (.slice A N c) N _ rfl (own_keeps HO.out ((Kept.refl _ _).alloc _)) (some ⟨w.heap.size, 0, none⟩) 1 1 [.int .i64 k, .int .i64 (-1)] rfl rfl (holds_new _ _ _ _ _ rfl) (by simp [Value.oneCell']) (by omega) (Nat.zero_le _) ?_; intro v9 w9 hown9 hwent9; (obtain ⟨A9, c9, rfl, _⟩ := own_slice hown9); have hK9 : Kept (fun b => (Value.slice A N c).ownBlock = some b) w w9 := ((Kept.refl _ w).alloc _).trans hwent9.kept (fun b hb => .inl hb); have hr9 : w9.heap[r]? = w.heap[r]? := hK9.block r (lt_of_row H1.out) (fun e => (H3.out r e).2 rfl); have f9 : w9.frozen? ⟨r, 1, none⟩ = false := free_row (hr9.trans H1.out); have y9 : w9.cell? ⟨r, 1, none⟩ = some (.slice A N c) := cell_row (hr9.trans H1.out) rfl; have K9 := Lib.hid hK9; have R9 := Lib.hid hr9; have O9 := Lib.hid hown9; have W9 := Lib.hid hwent9; clear hown9 hwent9 hK9 hr9)
      go_ret
      have hlen : (L ++ [((k : Int), (-1 : Int))]).length = N + 1 := by rw [List.length_append, HN.out]; rfl
      have fin := HG.out.put (L' := L ++ [((k : Int), -1)]) (B := A9) (d := c9) (K9.out.mono (fun b hb => (H3.out b hb).1)) R9.out (by rw [hlen, ndC_app]; exact O9.out) (fun b hb => by
        rw [hlen] at hb
        rcases W9.out.block with e | e
        · exact .inl (H3.out b (e ▸ hb))
        · have h1 := Option.some.inj (e.symm.trans hb)
          simp at h1
          exact .inr (by omega)) HI.out
      rw [hlen] at fin
      exact ⟨rfl, fin⟩
  · rw [if_neg hr, if_neg hr]
    clear h h1 h2 h3
    by_cases h0 : n < 0
    · go_enter Try.func31, Try.ntmps31
      go_wp2
      go_ret
      exact ⟨rfl, same.out⟩
    · have h1 : ¬ n < (m : Int) := fun e => hr (by simp [inR]; omega)
      clear hr
      go_enter Try.func31, Try.ntmps31
      go_wp2
      go_ret
      exact ⟨rfl, same.out⟩
set_option maxHeartbeats 1000000 in
theorem rchild_any (q n : Int) : Calls Try.prog 32 #[.pointer (some ⟨r, 0, none⟩), .int .i64 q, .int .i64 n] w fun e w' => e = .returned (.int .i64 (childE m L q n)) ∧ Kept F w w' ∧ Rg w' r m (childL m L q n) (fun b => F b ∨ w.heap.size ≤ b) := by
  have HH := Lib.hid (rhas_any w r m L F h n)
  have HQ := Lib.hid (rhas_any w r m L F h q)
  have same : Hid (Kept F w w ∧ Rg w r m L (fun b => F b ∨ w.heap.size ≤ b)) := ⟨Kept.refl _ _, h.mono (fun b hb => .inl hb)⟩
  obtain ⟨A, c, h1, h2, h3⟩ := h.box
  have y0 : w.cell? ⟨r, 0, none⟩ = some (.int .i64 m) := cell_row h1 rfl
  have hm := h.hm
  unfold childE childL
  by_cases hr : inR m n = true
  · by_cases hp : has L q = true
    · have hc : inR m n = true ∧ has L q = true := ⟨hr, hp⟩
      rw [if_pos hc, if_pos hc]
      rw [hp] at HQ
      obtain ⟨k, rfl, hk⟩ := inR_nat hr
      by_cases hn : has L (k : Int) = true
      · rw [if_pos hn, if_pos hn]
        rw [hn] at HH
        clear h h1 h2 h3 hr hn hc hp
        go_enter Try.func32, Try.ntmps32
        go_wp2_with fail
        (with_reducible refine HQ.out.mono ?_)
        rintro e w1 ⟨rfl, rfl⟩
        go_wp2_with fail
        (with_reducible refine HH.out.mono ?_)
        rintro e w1 ⟨rfl, rfl⟩
        go_wp2
        go_ret
        exact ⟨rfl, same.out⟩
      · rw [if_neg hn, if_neg hn]
        rw [show has L (k : Int) = false by simpa using hn] at HH
        have y1 : w.cell? ⟨r, 1, none⟩ = some (.slice A L.length c) := cell_row h1 rfl
        have f1 : w.frozen? ⟨r, 1, none⟩ = false := free_row h1
        have hll := h.inv.len
        have HO := Lib.hid h2
        have H1 := Lib.hid h1
        have H3 := Lib.hid h3
        have HG := Lib.hid h
        have HI : Hid (Inv m (L ++ [((k : Int), q)])) := h.inv.add (by omega) (by omega) (by simpa using hn) (.inr hp)
        obtain ⟨N, hN⟩ : ∃ N, L.length = N := ⟨_, rfl⟩
        have HN := Lib.hid hN
        rw [hN] at y1 hll HO H1 H3
        clear h h1 h2 h3 hr hn hN same hc hp
        go_enter Try.func32, Try.ntmps32
        go_wp2_with fail
        (with_reducible refine HQ.out.mono ?_)
        rintro e w1 ⟨rfl, rfl⟩
        go_wp2_with fail
        (with_reducible refine HH.out.mono ?_)
        rintro e w1 ⟨rfl, rfl⟩
        go_wp2_with (at_builtin; refine list_app2 rfl (.tmp 30) (.tmp 34) 69 rfl 68 0 _ 2 16 Try.underlying69 info_rnode rfl (by decide) (by decide) (.slice A N c) N _ rfl (own_keeps HO.out ((Kept.refl _ _).alloc _)) (some ⟨w.heap.size, 0, none⟩) 1 1 [.int .i64 k, .int .i64 q] rfl rfl (holds_new _ _ _ _ _ rfl) (by simp [Value.oneCell']) (by omega) (Nat.zero_le _) ?_; intro v9 w9 hown9 hwent9; (obtain ⟨A9, c9, rfl, _⟩ := own_slice hown9); have hK9 : Kept (fun b => (Value.slice A N c).ownBlock = some b) w w9 := ((Kept.refl _ w).alloc _).trans hwent9.kept (fun b hb => .inl hb); have hr9 : w9.heap[r]? = w.heap[r]? := hK9.block r (lt_of_row H1.out) (fun e => (H3.out r e).2 rfl); have f9 : w9.frozen? ⟨r, 1, none⟩ = false := free_row (hr9.trans H1.out); have y9 : w9.cell? ⟨r, 1, none⟩ = some (.slice A N c) := cell_row (hr9.trans H1.out) rfl; have K9 := Lib.hid hK9; have R9 := Lib.hid hr9; have O9 := Lib.hid hown9; have W9 := Lib.hid hwent9; clear hown9 hwent9 hK9 hr9)
        go_ret
        have hlen : (L ++ [((k : Int), q)]).length = N + 1 := by rw [List.length_append, HN.out]; rfl
        have fin := HG.out.put (L' := L ++ [((k : Int), q)]) (B := A9) (d := c9) (K9.out.mono (fun b hb => (H3.out b hb).1)) R9.out (by rw [hlen, ndC_app]; exact O9.out) (fun b hb => by
          rw [hlen] at hb
          rcases W9.out.block with e | e
          · exact .inl (H3.out b (e ▸ hb))
          · have h1 := Option.some.inj (e.symm.trans hb)
            simp at h1
            exact .inr (by omega)) HI.out
        rw [hlen] at fin
        exact ⟨rfl, fin⟩
    · rw [if_neg (fun e => hp e.2), if_neg (fun e => hp e.2)]
      rw [show has L q = false by simpa using hp] at HQ
      obtain ⟨k, rfl, hk⟩ := inR_nat hr
      clear h h1 h2 h3 hr hp
      go_enter Try.func32, Try.ntmps32
      go_wp2_with fail
      (with_reducible refine HQ.out.mono ?_)
      rintro e w1 ⟨rfl, rfl⟩
      go_wp2
      go_ret
      exact ⟨rfl, same.out⟩
  · rw [if_neg (fun e => hr e.1), if_neg (fun e => hr e.1)]
    clear h h1 h2 h3
    by_cases h0 : n < 0
    · go_enter Try.func32, Try.ntmps32
      go_wp2
      go_ret
      exact ⟨rfl, same.out⟩
    · have h1 : ¬ n < (m : Int) := fun e => hr (by simp [inR]; omega)
      clear hr
      go_enter Try.func32, Try.ntmps32
      go_wp2
      go_ret
      exact ⟨rfl, same.out⟩
end
end Go.Proofs.Ytkmmpagflbnenaa.Kin

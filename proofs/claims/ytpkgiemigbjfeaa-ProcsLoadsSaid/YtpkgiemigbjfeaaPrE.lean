/- The program's further calls. Own text; Ytpkgiemigbjfeaa and the numbers between @..@ are the seat's. -/
import Derived.Test.YtpkgiemigbjfeaaPrD
namespace Go.Proofs.Ytpkgiemigbjfeaa.Kin
open Go.RowKit Go.Proofs.Ytpkgiemigbjfeaa.Mem
set_option linter.unusedVariables false
section
variable (w : World) (p most : Nat) (next : Int) (l : List Int) (F : Nat → Prop) (h : Pt 54 w p most next l F)
include h
theorem exit_any (n : Int) : Calls Try.prog 12 #[.pointer (some ⟨p, 0, none⟩), .int .i64 n] w fun e w' => e = .returned (.int .i64 (exE l n)) ∧ Kept F w w' ∧ Pt 54 w' p most next (del l n) (fun b => F b ∨ w.heap.size ≤ b) := by
  have HD := Lib.hid (drop_any 54 w p most next l F h.g n h.inv.srt (by have := h.inv.m2; have := h.inv.len; omega))
  have HI := Lib.hid (h.inv.exit n)
  unfold exE
  by_cases hb : isB l n = true
  · rw [if_pos hb]
    rw [hb] at HD
    clear h hb
    go_enter Try.func12, Try.ntmps12
    go_wp2_with fail
    (with_reducible refine HD.out.mono ?_)
    rintro e w1 ⟨rfl, k1, g1⟩
    have K1 := Lib.hid k1
    have G1 := Lib.hid g1
    clear k1 g1 HD
    go_wp2_with fail
    go_ret
    exact ⟨rfl, K1.out, G1.out, HI.out⟩
  · rw [if_neg hb]
    rw [show isB l n = false by simpa using hb] at HD
    clear h hb
    go_enter Try.func12, Try.ntmps12
    go_wp2_with fail
    (with_reducible refine HD.out.mono ?_)
    rintro e w1 ⟨rfl, k1, g1⟩
    have K1 := Lib.hid k1
    have G1 := Lib.hid g1
    clear k1 g1 HD
    go_wp2_with fail
    go_ret
    exact ⟨rfl, K1.out, G1.out, HI.out⟩
theorem live_any (n : Int) : Calls Try.prog 17 #[.pointer (some ⟨p, 0, none⟩), .int .i64 n] w fun e w' => e = .returned (.bool (isB l n)) ∧ w = w' := by
  obtain ⟨A, c, h1, h2, h3⟩ := h.g.box
  have y2 : w.cell? ⟨p, 2, none⟩ = some (.slice A l.length c) := cell_row h1 rfl
  have HF := Lib.hid (find_any w p 2 _ c A l n y2 h2 h.inv.srt (by have := h.inv.m2; have := h.inv.len; omega))
  obtain ⟨P, hP⟩ : ∃ P, pos l n = P := ⟨_, rfl⟩
  obtain ⟨B, hB⟩ : ∃ B, isB l n = B := ⟨_, rfl⟩
  rw [hP, hB] at HF
  rw [hB]
  clear h h1 h2 h3 y2 hP hB
  go_enter Try.func17, Try.ntmps17
  go_wp2_with fail
  (with_reducible refine HF.out.mono ?_)
  rintro e w1 ⟨rfl, rfl⟩
  go_wp2_with fail
  go_ret
  exact ⟨rfl, rfl⟩
theorem numbers_any : Calls Try.prog 18 #[.pointer (some ⟨p, 0, none⟩)] w fun e w' => ∃ A c, e = .returned (.slice A l.length c) ∧ w'.ownsRow 0 3 1 (.slice A l.length c) l.length (l.map i64) ∧ Below w.heap.size w w' ∧ Fresh w (.slice A l.length c) := by
  obtain ⟨A, c, h1, h2, h3⟩ := h.g.box
  have y2 : w.cell? ⟨p, 2, none⟩ = some (.slice A l.length c) := cell_row h1 rfl
  have HC := Lib.hid (clone_any w _ _ l h2 (by have := h.inv.m2; have := h.inv.len; omega))
  obtain ⟨N, hN⟩ : ∃ N, l.length = N := ⟨_, rfl⟩
  rw [hN] at HC y2 ⊢
  clear h h1 h2 h3 hN
  go_enter Try.func18, Try.ntmps18
  go_wp2_with fail
  (with_reducible refine HC.out.mono ?_)
  rintro e w1 ⟨A1, c1, rfl, o1, b1, f1⟩
  have O1 := Lib.hid o1
  have B1 := Lib.hid b1
  have F1 := Lib.hid f1
  clear o1 b1 f1 HC
  go_wp2_with fail
  go_ret
  exact ⟨A1, c1, rfl, O1.out, B1.out, F1.out⟩
theorem next_any : Calls Try.prog 19 #[.pointer (some ⟨p, 0, none⟩)] w fun e w' => e = .returned (.int .i64 next) ∧ w = w' := by
  obtain ⟨A, c, h1, h2, h3⟩ := h.g.box
  have y1 : w.cell? ⟨p, 1, none⟩ = some (.int .i64 next) := cell_row h1 rfl
  clear h h1 h2 h3
  go_enter Try.func19, Try.ntmps19
  go_wp2_with fail
  go_ret
  exact ⟨rfl, rfl⟩
set_option maxHeartbeats 1000000 in
theorem setnext_any (n : Int) : Calls Try.prog 14 #[.pointer (some ⟨p, 0, none⟩), .int .i64 n] w fun e w' => e = .returned (.int .i64 (seE l n)) ∧ Kept F w w' ∧ Pt 54 w' p most (seX next l n) l F := by
  obtain ⟨A, c, h1, h2, h3⟩ := h.g.box
  have y2 : w.cell? ⟨p, 2, none⟩ = some (.slice A l.length c) := cell_row h1 rfl
  have f1 : w.frozen? ⟨p, 1, none⟩ = false := free_row h1
  have y1 : w.cell? ⟨p, 1, none⟩ = some (.int .i64 next) := cell_row h1 rfl
  have HI := Lib.hid (h.inv.set n)
  have same : Hid (Kept F w w ∧ Pt 54 w p most next l F) := ⟨Kept.refl _ _, h⟩
  have fin : Hid (PInv most n l → Kept F w (w.setCell ⟨p, 1, none⟩ (.int .i64 n)) ∧ Pt 54 (w.setCell ⟨p, 1, none⟩ (.int .i64 n)) p most n l F) := fun hi => ⟨(h.g.nexted n).2, (h.g.nexted n).1, hi⟩
  have hl32 : l.length ≤ 32 := Nat.le_trans h.inv.len h.inv.m2
  have HSL : Hid (∀ (k : Nat) (x : Int), l.length = k + 1 → l[k]? = some x → ∀ y ∈ l, y ≤ x) := fun k x a b => Srt.last h.inv.srt a b
  have HC : Hid (0 < l.length → ∃ g, A = some ⟨g, 0, none⟩ ∧ ∀ (j : Nat) z, l[j]? = some z → w.cell? ⟨g, j, none⟩ = some (.int .i64 z)) := fun hp => by
    obtain ⟨g, c', cur, e, _, _, _, _, _, hcell⟩ := own_form h2 hp
    obtain ⟨rfl, _⟩ : A = some ⟨g, 0, none⟩ ∧ c = c' := by simpa using e
    exact ⟨g, rfl, fun j z hz => hcell j (i64 z) (by rw [List.getElem?_map, hz]; rfl)⟩
  unfold seE seX at *
  by_cases h0 : n < 0
  · have hb : badB l n = true := by simp [badB, h0]
    simp only [if_pos hb]
    clear h h1 h2 h3 hb HI fin HC HSL
    go_enter Try.func14, Try.ntmps14
    go_wp2
    go_ret
    exact ⟨rfl, same.out⟩
  by_cases hm : 65536 < n
  · have hb : badB l n = true := by simp [badB, hm]
    simp only [if_pos hb]
    clear h h1 h2 h3 hb HI fin HC HSL
    go_enter Try.func14, Try.ntmps14
    go_wp2
    go_ret
    exact ⟨rfl, same.out⟩
  obtain ⟨N, hN⟩ : ∃ N, l.length = N := ⟨_, rfl⟩
  have HN := Lib.hid hN
  rw [hN] at y2 HC hl32
  cases N with
  | zero =>
    have hl : l = [] := List.length_eq_zero_iff.1 hN
    have hb : ¬ badB l n = true := by simp [badB, hl]; omega
    simp only [if_neg hb] at HI ⊢
    have fin2 := Lib.hid (fin.out HI.out)
    clear h h1 h2 h3 hb HI fin HC HSL same hN hl
    go_enter Try.func14, Try.ntmps14
    go_wp2
    go_ret
    exact ⟨rfl, fin2.out⟩
  | succ k =>
    obtain ⟨x, hx⟩ : ∃ x, l[k]? = some x := ⟨_, List.getElem?_eq_getElem (by omega)⟩
    have hsl := HSL.out k x hN hx
    obtain ⟨g, rfl, hcell⟩ := HC.out (by omega)
    have y0 := hcell k x hx
    by_cases hnx : n ≤ x
    · have hb : badB l n = true := by simp [badB]; exact .inr (.inr ⟨x, List.mem_of_getElem? hx, hnx⟩)
      simp only [if_pos hb]
      clear h h1 h2 h3 hb HI fin HC HSL hcell hx hsl hN
      go_enter Try.func14, Try.ntmps14
      go_wp2
      go_ret
      exact ⟨rfl, same.out⟩
    · have hb : ¬ badB l n = true := by
        simp [badB]
        exact ⟨by omega, by omega, fun y hy => by have := hsl y hy; omega⟩
      simp only [if_neg hb] at HI ⊢
      have fin2 := Lib.hid (fin.out HI.out)
      clear h h1 h2 h3 hb HI fin HC HSL hcell hx hsl hN same
      go_enter Try.func14, Try.ntmps14
      go_wp2
      go_ret
      exact ⟨rfl, fin2.out⟩
end
end Go.Proofs.Ytpkgiemigbjfeaa.Kin

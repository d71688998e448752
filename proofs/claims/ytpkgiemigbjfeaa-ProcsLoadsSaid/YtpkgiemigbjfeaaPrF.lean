/- The document's calls. Own text; Ytpkgiemigbjfeaa and the numbers between @..@ are the seat's. -/
import Derived.Test.YtpkgiemigbjfeaaPrE
namespace Go.Proofs.Ytpkgiemigbjfeaa.Kin
open Go.RowKit Go.Proofs.Ytpkgiemigbjfeaa.Mem
set_option linter.unusedVariables false
set_option maxHeartbeats 1000000 in
theorem rnew_in (w : World) (m : Nat) (h1 : 1 ≤ m) (h2 : m ≤ 32) : Calls Try.prog 7 #[.int .i64 m] w fun e w' => ∃ p, e = .returned (.tuple #[.pointer (some ⟨p, 0, none⟩), .int .i64 0]) ∧ Below w.heap.size w w' ∧ Pt 57 w' p m 1 [0] (fun b => w.heap.size ≤ b) := by
  have HB : Hid (∀ v, Below w.heap.size w ((w.alloc (.cells #[.int .i64 0] 3)).alloc v)) := fun v => ((Below.refl _ w).alloc (Nat.le_refl _) _).alloc (by simp) _
  have HG : Hid (Pt 57 ((w.alloc (.cells #[.int .i64 0] 3)).alloc (.cells #[.int .i64 m, .int .i64 1, .slice (some ⟨w.heap.size, 0, none⟩) 1 1] 57)) (w.heap.size + 1) m 1 [0] (fun b => w.heap.size ≤ b)) := by
    refine ⟨⟨⟨some ⟨w.heap.size, 0, none⟩, 1, ?_, ?_, fun b hb => ?_⟩, by simp⟩, pinv_new h1 h2⟩
    · have := heap_alloc_new (w.alloc (.cells #[.int .i64 0] 3)) (.cells #[.int .i64 m, .int .i64 1, .slice (some ⟨w.heap.size, 0, none⟩) 1 1] 57)
      simpa using this
    · refine own_keeps (w := w.alloc (.cells #[.int .i64 0] 3)) ⟨rfl, .inr ⟨w.heap.size, 1, #[.int .i64 0], rfl, Nat.zero_le _, heap_alloc_new w _, Nat.le_refl _, by decide, rfl, ?_⟩⟩ ((Kept.refl _ _).alloc _)
      simp [i64]
    · have := Option.some.inj hb
      simp at this; omega
  have h3 : (1 : Int) ≤ (m : Int) := by omega
  go_enter Try.func7, Try.ntmps7
  go_wp2_with fail
  go_ret2
  exact ⟨_, rfl, HB.out _, HG.out⟩
theorem rnew_out (w : World) (n : Int) (hn : n < 1 ∨ 32 < n) : Calls Try.prog 7 #[.int .i64 n] w fun e w' => e = .returned (.tuple #[.pointer none, .int .i64 16]) ∧ w = w' := by
  by_cases h0 : n < 1
  · go_enter Try.func7, Try.ntmps7
    go_wp2
    go_ret2
    exact ⟨rfl, rfl⟩
  · have h1 : 32 < n := by omega
    have h2 : ¬ n < 1 := h0
    clear hn h0
    go_enter Try.func7, Try.ntmps7
    go_wp2
    go_ret2
    exact ⟨rfl, rfl⟩
section
variable (w : World) (p most : Nat) (next : Int) (l : List Int) (F : Nat → Prop) (h : Pt 57 w p most next l F)
include h
set_option maxHeartbeats 1000000 in
theorem ris_any (n : Int) : Calls Try.prog 24 #[.pointer (some ⟨p, 0, none⟩), .int .i64 n] w fun e w' => e = .returned (.bool (isB l n)) ∧ w = w' := by
  obtain ⟨A, c, h1, h2, h3⟩ := h.g.box
  have y2 : w.cell? ⟨p, 2, none⟩ = some (.slice A l.length c) := cell_row h1 rfl
  have hl32 : l.length ≤ 32 := Nat.le_trans h.inv.len h.inv.m2
  have HC : Hid (0 < l.length → ∃ g, A = some ⟨g, 0, none⟩ ∧ ∀ (j : Nat) z, l[j]? = some z → w.cell? ⟨g, j, none⟩ = some (.int .i64 z)) := fun hp => by
    obtain ⟨g, c', cur, e, _, _, _, _, _, hcell⟩ := own_form h2 hp
    obtain ⟨rfl, _⟩ : A = some ⟨g, 0, none⟩ ∧ c = c' := by simpa using e
    exact ⟨g, rfl, fun j z hz => hcell j (i64 z) (by rw [List.getElem?_map, hz]; rfl)⟩
  obtain ⟨N, hN⟩ : ∃ N, l.length = N := ⟨_, rfl⟩
  have HN := Lib.hid hN
  rw [hN] at y2 HC hl32
  clear h h1 h2 h3 hN
  go_enter Try.func24, Try.ntmps24
  go_wp2_with fail
  go_loopw [5] (fun v5 wr => ∃ i : Nat, i ≤ N ∧ v5 = .int .i64 i ∧ Hid (∀ j z, j < i → l[j]? = some z → z ≠ n) ∧ w = wr) (fun v5 _ => N - (intOf v5).toNat)
  case atStart => exact ⟨0, Nat.zero_le _, rfl, fun j z hj => absurd hj (by omega), rfl⟩
  case round =>
    obtain ⟨i, hi, rfl, HA, rfl⟩ := hrel
    by_cases hlt : i < N
    · obtain ⟨z, hz⟩ : ∃ z, l[i]? = some z := ⟨_, List.getElem?_eq_getElem (by rw [HN.out]; exact hlt)⟩
      obtain ⟨g, rfl, hcell⟩ := HC.out (by omega)
      have y0 := hcell i z hz
      have HZ := Lib.hid hz
      clear hcell hz
      by_cases hzn : z = n
      · have HB : Hid (isB l n = true) := by
          have : z ∈ l := List.mem_of_getElem? HZ.out
          rw [hzn] at this
          show isB l n = true
          simpa [isB] using this
        go_wp2_with fail
        go_ret
        exact ⟨by rw [HB.out]; rfl, rfl⟩
      · have HA2 : Hid (∀ j y, j < i + 1 → l[j]? = some y → y ≠ n) := fun j y hj hy => by
          by_cases e : j = i
          · rw [e, HZ.out] at hy
            rw [← Option.some.inj hy]; exact hzn
          · exact HA.out j y (by omega) hy
        go_wp2_with fail
        exact ⟨⟨i + 1, by omega, by simp, HA2, trivial⟩, by simp [intOf]; omega⟩
    · have : i = N := by omega
      subst this
      have HB : Hid (isB l n = false) := by
        have : ¬ n ∈ l := fun e => by
          obtain ⟨j, hj⟩ := List.getElem?_of_mem e
          have := (List.getElem?_eq_some_iff.1 hj).1
          rw [HN.out] at this
          exact HA.out j n this hj rfl
        show isB l n = false
        simpa [isB] using this
      go_wp2_with fail
      go_ret
      exact ⟨by rw [HB.out]; rfl, rfl⟩
set_option maxHeartbeats 1000000 in
theorem rsetnext_any (n : Int) : Calls Try.prog 15 #[.pointer (some ⟨p, 0, none⟩), .int .i64 n] w fun e w' => e = .returned (.int .i64 (seE l n)) ∧ Kept F w w' ∧ Pt 57 w' p most (seX next l n) l F := by
  obtain ⟨A, c, h1, h2, h3⟩ := h.g.box
  have y2 : w.cell? ⟨p, 2, none⟩ = some (.slice A l.length c) := cell_row h1 rfl
  have f1 : w.frozen? ⟨p, 1, none⟩ = false := free_row h1
  have y1 : w.cell? ⟨p, 1, none⟩ = some (.int .i64 next) := cell_row h1 rfl
  have HI := Lib.hid (h.inv.set n)
  have same : Hid (Kept F w w ∧ Pt 57 w p most next l F) := ⟨Kept.refl _ _, h⟩
  have fin : Hid (PInv most n l → Kept F w (w.setCell ⟨p, 1, none⟩ (.int .i64 n)) ∧ Pt 57 (w.setCell ⟨p, 1, none⟩ (.int .i64 n)) p most n l F) := fun hi => ⟨(h.g.nexted n).2, (h.g.nexted n).1, hi⟩
  have hl32 : l.length ≤ 32 := Nat.le_trans h.inv.len h.inv.m2
  have HC : Hid (0 < l.length → ∃ g, A = some ⟨g, 0, none⟩ ∧ ∀ (j : Nat) z, l[j]? = some z → w.cell? ⟨g, j, none⟩ = some (.int .i64 z)) := fun hp => by
    obtain ⟨g, c', cur, e, _, _, _, _, _, hcell⟩ := own_form h2 hp
    obtain ⟨rfl, _⟩ : A = some ⟨g, 0, none⟩ ∧ c = c' := by simpa using e
    exact ⟨g, rfl, fun j z hz => hcell j (i64 z) (by rw [List.getElem?_map, hz]; rfl)⟩
  unfold seE seX at *
  by_cases h0 : n < 0
  · have hb : badB l n = true := by simp [badB, h0]
    simp only [if_pos hb]
    clear h h1 h2 h3 hb HI fin HC
    go_enter Try.func15, Try.ntmps15
    go_wp2
    go_ret
    exact ⟨rfl, same.out⟩
  by_cases hm : 65536 < n
  · have hb : badB l n = true := by simp [badB, hm]
    simp only [if_pos hb]
    clear h h1 h2 h3 hb HI fin HC
    go_enter Try.func15, Try.ntmps15
    go_wp2
    go_ret
    exact ⟨rfl, same.out⟩
  obtain ⟨N, hN⟩ : ∃ N, l.length = N := ⟨_, rfl⟩
  have HN := Lib.hid hN
  rw [hN] at y2 HC hl32
  have HYes : Hid ((∃ x ∈ l, n ≤ x) → badB l n = true) := fun e => by simp only [badB, decide_eq_true_eq]; exact .inr (.inr e)
  have HNo : Hid ((∀ x ∈ l, x < n) → badB l n = false) := fun e => by
    simp only [badB, decide_eq_false_iff_not]
    rintro (e1 | e1 | ⟨x, hx, e1⟩)
    · exact h0 e1
    · exact hm e1
    · have := e x hx; omega
  obtain ⟨B, hB⟩ : ∃ B, badB l n = B := ⟨_, rfl⟩
  rw [hB] at HI HYes HNo ⊢
  clear h h1 h2 h3 hN hB
  go_enter Try.func15, Try.ntmps15
  go_wp2_with fail
  go_loopw [5] (fun v5 wr => ∃ i : Nat, i ≤ N ∧ v5 = .int .i64 i ∧ Hid (∀ j z, j < i → l[j]? = some z → z < n) ∧ w = wr) (fun v5 _ => N - (intOf v5).toNat)
  case atStart => exact ⟨0, Nat.zero_le _, rfl, fun j z hj => absurd hj (by omega), rfl⟩
  case round =>
    obtain ⟨i, hi, rfl, HA, rfl⟩ := hrel
    by_cases hlt : i < N
    · obtain ⟨z, hz⟩ : ∃ z, l[i]? = some z := ⟨_, List.getElem?_eq_getElem (by rw [HN.out]; exact hlt)⟩
      obtain ⟨g, rfl, hcell⟩ := HC.out (by omega)
      have y0 := hcell i z hz
      have HZ := Lib.hid hz
      clear hcell hz
      by_cases hzn : n ≤ z
      · obtain rfl : B = true := HYes.out ⟨z, List.mem_of_getElem? HZ.out, hzn⟩
        go_wp2_with fail
        go_ret
        exact ⟨rfl, same.out⟩
      · have HA2 : Hid (∀ j y, j < i + 1 → l[j]? = some y → y < n) := fun j y hj hy => by
          by_cases e : j = i
          · rw [e, HZ.out] at hy
            rw [← Option.some.inj hy]; omega
          · exact HA.out j y (by omega) hy
        go_wp2_with fail
        exact ⟨⟨i + 1, by omega, by simp, HA2, trivial⟩, by simp [intOf]; omega⟩
    · have : i = N := by omega
      subst this
      obtain rfl : B = false := HNo.out (fun x hx => by
        obtain ⟨j, hj⟩ := List.getElem?_of_mem hx
        have := (List.getElem?_eq_some_iff.1 hj).1
        rw [HN.out] at this
        exact HA.out j x this hj)
      have fin2 := Lib.hid (fin.out HI.out)
      clear HI
      go_wp2_with fail
      go_ret
      exact ⟨rfl, fin2.out⟩
end
end Go.Proofs.Ytpkgiemigbjfeaa.Kin

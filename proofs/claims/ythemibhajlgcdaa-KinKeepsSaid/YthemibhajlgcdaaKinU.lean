/- The law's own helpers: alive, told, does, should. Own text; Ythemibhajlgcdaa and the numbers between @..@ are the seat's. -/
import Derived.Test.YthemibhajlgcdaaKinG
import Derived.Test.YthemibhajlgcdaaKinT
namespace Go.Proofs.Ythemibhajlgcdaa.Kin
open Go.RowKit Go.Proofs.Ythemibhajlgcdaa.Mem
set_option linter.unusedVariables false
theorem kids_rkids {m : Nat} {L : List (Int × Int)} (h : Inv m L) (n : Int) : rkids L n = kids L n := by
  unfold kids rkids
  by_cases hn : has L n = true
  · rw [if_pos hn, if_pos (h.has_rng hn).1]
  · rw [if_neg hn]
    by_cases h0 : 0 ≤ n
    · rw [if_pos h0, h.chl_no (by simpa using hn) (by omega)]
    · rw [if_neg h0]
theorem kids_len {m : Nat} {L : List (Int × Int)} (h : Inv m L) (hm : m ≤ 1024) (n : Int) : (kids L n).length ≤ 1024 := by
  unfold kids
  split
  · unfold chl
    rw [List.length_map]
    have := List.length_filter_le (fun x : Int × Int => x.2 == n) L
    have := h.len
    omega
  · simp
/-- A row of numbers that may be written over. -/
def RowI (w : World) (v : Value) (n : Nat) : Prop := ∃ A c, v = .slice A n c ∧ n ≤ c ∧ c ≤ maxLen ∧ (0 < n → ∃ g cur, A = some ⟨g, 0, none⟩ ∧ w.heap[g]? = some (.cells cur 3 (0, 0)) ∧ ∀ j, j < n → ∃ z, cur[j]? = some (.int .i64 z))
theorem rowI_own {w : World} {A : Option Addr} {n c : Nat} {zs : List Int} (h : w.ownsRow 0 3 1 (.slice A n c) n (zs.map i64)) : RowI w (.slice A n c) n := by
  obtain ⟨A', c', e, hnc⟩ := own_slice h
  obtain ⟨rfl, rfl⟩ : A = A' ∧ c = c' := by simpa using e
  refine ⟨A, c, rfl, hnc, ?_, fun hp => ?_⟩
  · rcases h.2 with ⟨h1, _⟩ | ⟨g, c', cur, h1, _, _, _, h2, _⟩
    · obtain ⟨_, _, rfl⟩ : A = none ∧ n = 0 ∧ c = 0 := by simpa using h1
      exact Nat.zero_le _
    · obtain ⟨_, rfl⟩ : A = some ⟨g, 0, none⟩ ∧ c = c' := by simpa using h1
      exact h2
  · obtain ⟨g, c', cur, e, hg, _, _, _, _, hcell⟩ := own_form h hp
    obtain ⟨rfl, _⟩ : A = some ⟨g, 0, none⟩ ∧ c = c' := by simpa using e
    refine ⟨g, cur, rfl, hg, fun j hj => ?_⟩
    have hl : zs.length = n := by have := h.1; simpa using this
    have := hcell j (i64 zs[j]) (by rw [List.getElem?_map, List.getElem?_eq_getElem (by omega)]; rfl)
    rw [cell_of_row w g j cur 3 (0, 0) hg] at this
    exact ⟨_, this⟩
theorem RowI.set {w : World} {g n c i : Nat} (h : RowI w (.slice (some ⟨g, 0, none⟩) n c) n) (z : Int) : RowI (w.setCell ⟨g, i, none⟩ (.int .i64 z)) (.slice (some ⟨g, 0, none⟩) n c) n := by
  obtain ⟨A, c', e, h1, h2, h3⟩ := h
  obtain ⟨rfl, rfl⟩ : some ⟨g, 0, none⟩ = A ∧ c = c' := by simpa using e
  refine ⟨_, _, rfl, h1, h2, fun hp => ?_⟩
  obtain ⟨g', cur, e2, hg, hz⟩ := h3 hp
  obtain rfl : g = g' := by simpa using e2
  refine ⟨g, _, rfl, heap_setCell_same w g i _ _ _ hg, fun j hj => ?_⟩
  obtain ⟨y, hy⟩ := hz j hj
  by_cases e : i = j
  · subst e
    have := (Array.getElem?_eq_some_iff.1 hy).1
    exact ⟨z, by simp [this]⟩
  · exact ⟨y, by simp [e, hy]⟩
set_option maxHeartbeats 4000000 in
theorem told_any (w : World) (p g m r : Nat) (L : List (Int × Int)) (V : Nat → Value) (F G : Nat → Prop) (h : Kt w p g m L V F) (hR : Rg w r m L G) (n : Int) : Calls Try.prog 12 #[.pointer (some ⟨p, 0, none⟩), .pointer (some ⟨r, 0, none⟩), .int .i64 n] w fun e w' => e = .returned (.bool true) ∧ Below w.heap.size w w' := by
  have HP := Lib.hid (parent_any w p g m L V F h n)
  have HQ := Lib.hid (rparent_any w r m L G hR n)
  have HC := Lib.hid (children_any w p g m L V F h n)
  have HH : Hid (∀ w', Below w.heap.size w w' → Calls Try.prog 14 #[.pointer (some ⟨p, 0, none⟩), .int .i64 n] w' fun e w'' => e = .returned (.bool (has L n)) ∧ w' = w'') := fun w' hb => has_any w' p g m L V F (h.below hb) n
  have HI : Hid (∀ w', Below w.heap.size w w' → Calls Try.prog 27 #[.pointer (some ⟨r, 0, none⟩), .int .i64 n] w' fun e w'' => e = .returned (.bool (has L n)) ∧ w' = w'') := fun w' hb => rhas_any w' r m L G (hR.below hb) n
  have HD : Hid (∀ w', Below w.heap.size w w' → Calls Try.prog 28 #[.pointer (some ⟨r, 0, none⟩), .int .i64 n] w' fun e w'' => ∃ A c, e = .returned (.slice A (kids L n).length c) ∧ w''.ownsRow 0 3 1 (.slice A (kids L n).length c) (kids L n).length ((kids L n).map i64) ∧ Below w'.heap.size w' w'') := fun w' hb => by
    have := rchildren_any w' r m L G (hR.below hb) n
    rwa [kids_rkids h.inv n] at this
  have hl := kids_len h.inv h.hm n
  obtain ⟨b, hb⟩ : ∃ b, has L n = b := ⟨_, rfl⟩
  obtain ⟨X, hX⟩ : ∃ X, par L n = X := ⟨_, rfl⟩
  obtain ⟨zs, hz⟩ : ∃ zs, kids L n = zs := ⟨_, rfl⟩
  rw [hb] at HP HQ HH HI
  rw [hX] at HP HQ
  rw [hz] at HC HD hl
  obtain ⟨N, hN⟩ : ∃ N, zs.length = N := ⟨_, rfl⟩
  have HN := Lib.hid hN
  rw [hN] at HC HD hl
  clear h hR hb hX hz hN
  go_enter Try.func12, Try.ntmps12
  go_wp2_with fail
  (with_reducible refine HP.out.mono ?_)
  rintro e w1 ⟨rfl, rfl⟩
  go_wp2_with fail
  (with_reducible refine HQ.out.mono ?_)
  rintro e w1 ⟨rfl, rfl⟩
  go_wp2_with fail
  (with_reducible refine HC.out.mono ?_)
  rintro e w1 ⟨A1, c1, rfl, o1, b1, f1⟩
  have O1 := Lib.hid o1
  have B1 := Lib.hid b1
  have F1 := Lib.hid f1
  clear o1 b1 f1 HP HQ HC
  have e1 : (b == b) = true := by simp
  go_wp2_with fail
  (with_reducible refine (HH.out _ B1.out).mono ?_)
  rintro e w2 ⟨rfl, rfl⟩
  go_wp2_with fail
  (with_reducible refine (HI.out _ B1.out).mono ?_)
  rintro e w2 ⟨rfl, rfl⟩
  go_wp2_with fail
  (with_reducible refine (HD.out _ B1.out).mono ?_)
  rintro e w2 ⟨A2, c2, rfl, o2, b2⟩
  have O2 := Lib.hid o2
  have B2 := Lib.hid b2
  have NS := Lib.hid (numbers_same w2 _ _ zs (reads_own HN.out (own_keeps O1.out (Kept.of_below b2))) (reads_own HN.out o2))
  clear o2 b2
  go_wp2_with fail
  (with_reducible refine NS.out.mono ?_)
  rintro e w3 ⟨rfl, b3⟩
  have B3 : Hid (Below w.heap.size w w3) := (B1.out.trans (B2.out.mono B1.out.size)).trans (b3.mono (Nat.le_trans B1.out.size B2.out.size))
  have R3 : Hid (RowI w3 (.slice A1 N c1) N) := rowI_own (own_keeps (own_keeps O1.out (Kept.of_below B2.out)) (Kept.of_below b3))
  clear b3 NS HH HI HD O1 O2 B1 B2
  go_wp2_with fail
  go_loopw [13] (fun v13 wr => ∃ i : Nat, i ≤ N ∧ v13 = .int .i64 i ∧ Hid (RowI wr (.slice A1 N c1) N) ∧ Hid (Below w.heap.size w wr)) (fun v13 _ => N - (intOf v13).toNat)
  case atStart => exact ⟨0, Nat.zero_le _, rfl, R3, B3⟩
  case round =>
    clear R3 B3
    obtain ⟨i, hi, rfl, HR, HB⟩ := hrel
    by_cases hlt : i < N
    · obtain ⟨A, c, e, q1, q2, q3⟩ := HR.out
      obtain ⟨rfl, rfl⟩ : A1 = A ∧ c1 = c := by simpa using e
      obtain ⟨gg, cur, rfl, hg, hz⟩ := q3 (by omega)
      obtain ⟨z, hz⟩ := hz i hlt
      have y0 : wr.cell? ⟨gg, i, none⟩ = some (.int .i64 z) := cell_row hg hz
      have f0 : wr.frozen? ⟨gg, i, none⟩ = false := free_row hg
      have HGG := Lib.hid (F1.out gg rfl)
      unfold maxLen at q2
      clear q3 hg hz e
      go_wp2_with fail
      exact ⟨⟨i + 1, by omega, by simp, HR.out.set _, HB.out.trans ((Kept.refl (fun b => b = gg) wr).setCell (p := ⟨gg, i, none⟩) (.inl rfl) _ |>.below (fun b hb => by have := HGG.out; have e : b = gg := hb; omega) HB.out.size)⟩, by simp [intOf]; omega⟩
    · have : i = N := by omega
      subst this
      go_wp2_with fail
      go_ret
      exact ⟨rfl, HB.out⟩
end Go.Proofs.Ythemibhajlgcdaa.Kin

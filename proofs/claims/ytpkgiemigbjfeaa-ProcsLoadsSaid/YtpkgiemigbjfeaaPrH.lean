/- The law's own helpers: told, alive. Own text; Ytpkgiemigbjfeaa and the numbers between @..@ are the seat's. -/
import Derived.Test.YtpkgiemigbjfeaaPrG
namespace Go.Proofs.Ytpkgiemigbjfeaa.Kin
open Go.RowKit Go.Proofs.Ytpkgiemigbjfeaa.Mem
set_option linter.unusedVariables false
/-- A row that may be written over; from i on it holds the list. -/
def RowJ (w : World) (v : Value) (l : List Int) (n i : Nat) : Prop := ∃ A c, v = .slice A n c ∧ n ≤ c ∧ c ≤ maxLen ∧ (0 < n → ∃ g cur, A = some ⟨g, 0, none⟩ ∧ w.heap[g]? = some (.cells cur 3 (0, 0)) ∧ ∀ j z, i ≤ j → l[j]? = some z → cur[j]? = some (.int .i64 z))
theorem rowJ_own {w : World} {A : Option Addr} {n c : Nat} {zs : List Int} (h : w.ownsRow 0 3 1 (.slice A n c) n (zs.map i64)) : RowJ w (.slice A n c) zs n 0 := by
  obtain ⟨A', c', e, hnc⟩ := own_slice h
  obtain ⟨rfl, rfl⟩ : A = A' ∧ c = c' := by simpa using e
  refine ⟨A, c, rfl, hnc, ?_, fun hp => ?_⟩
  · rcases h.2 with ⟨h1, _⟩ | ⟨g, c', cur, h1, _, _, _, h2, _⟩
    · obtain ⟨_, _, rfl⟩ : A = none ∧ n = 0 ∧ c = 0 := by simpa using h1
      exact Nat.zero_le _
    · obtain ⟨_, rfl⟩ : A = some ⟨g, 0, none⟩ ∧ c = c' := by simpa using h1
      exact h2
  · obtain ⟨g, c', cur, e, hg, _, _, _, _, hcell⟩ := own_form h hp
    obtain ⟨rfl, _⟩ : A = some ⟨g, 0, none⟩ ∧ c = c' := by simpa using e
    refine ⟨g, cur, rfl, hg, fun j z _ hz => ?_⟩
    have := hcell j (i64 z) (by rw [List.getElem?_map, hz]; rfl)
    rw [cell_of_row w g j cur 3 (0, 0) hg] at this
    exact this
theorem RowJ.set {w : World} {g n c i : Nat} {l : List Int} (h : RowJ w (.slice (some ⟨g, 0, none⟩) n c) l n i) (z : Int) : RowJ (w.setCell ⟨g, i, none⟩ (.int .i64 z)) (.slice (some ⟨g, 0, none⟩) n c) l n (i + 1) := by
  obtain ⟨A, c', e, h1, h2, h3⟩ := h
  obtain ⟨rfl, rfl⟩ : some ⟨g, 0, none⟩ = A ∧ c = c' := by simpa using e
  refine ⟨_, _, rfl, h1, h2, fun hp => ?_⟩
  obtain ⟨g', cur, e2, hg, hz⟩ := h3 hp
  obtain rfl : g = g' := by simpa using e2
  refine ⟨g, _, rfl, heap_setCell_same w g i _ _ _ hg, fun j y hj hy => ?_⟩
  have := hz j y (by omega) hy
  simp [show i ≠ j by omega, this]
set_option maxHeartbeats 4000000 in
theorem told_any (w : World) (p r most : Nat) (next : Int) (l : List Int) (F G : Nat → Prop) (h : Pt 54 w p most next l F) (hR : Pt 57 w r most next l G) (n : Int) : Calls Try.prog 16 #[.pointer (some ⟨p, 0, none⟩), .pointer (some ⟨r, 0, none⟩), .int .i64 n] w fun e w' => e = .returned (.bool true) ∧ Below w.heap.size w w' := by
  have HC := Lib.hid (numbers_any w p most next l F h)
  have HV : Hid (∀ w' x, Below w.heap.size w w' → Calls Try.prog 17 #[.pointer (some ⟨p, 0, none⟩), .int .i64 x] w' fun e w'' => e = .returned (.bool (isB l x)) ∧ w' = w'') := fun w' x hb => live_any w' p most next l F (h.below hb) x
  have HI : Hid (∀ w' x, Below w.heap.size w w' → Calls Try.prog 24 #[.pointer (some ⟨r, 0, none⟩), .int .i64 x] w' fun e w'' => e = .returned (.bool (isB l x)) ∧ w' = w'') := fun w' x hb => ris_any w' r most next l G (hR.below hb) x
  have HN : Hid (∀ w', Below w.heap.size w w' → Calls Try.prog 19 #[.pointer (some ⟨p, 0, none⟩)] w' fun e w'' => e = .returned (.int .i64 next) ∧ w' = w'') := fun w' hb => next_any w' p most next l F (h.below hb)
  obtain ⟨A, c, h1, h2, h3⟩ := hR.g.box
  have hl : l.length ≤ 32 := Nat.le_trans h.inv.len h.inv.m2
  have HLT : Hid (r < w.heap.size) := lt_of_row h1
  have H1 := Lib.hid h1
  have H2 := Lib.hid h2
  obtain ⟨N, hN⟩ : ∃ N, l.length = N := ⟨_, rfl⟩
  have HNN := Lib.hid hN
  rw [hN] at HC hl H1 H2
  obtain ⟨b1, hb1⟩ : ∃ b, isB l n = b := ⟨_, rfl⟩
  obtain ⟨b2, hb2⟩ : ∃ b, isB l next = b := ⟨_, rfl⟩
  have e1 : (b1 == b1) = true := by simp
  have e2 : (b2 == b2) = true := by simp
  have HV1 : Hid (∀ w', Below w.heap.size w w' → Calls Try.prog 17 #[.pointer (some ⟨p, 0, none⟩), .int .i64 n] w' fun e w'' => e = .returned (.bool b1) ∧ w' = w'') := by rw [← hb1]; exact fun w' hb => HV.out w' n hb
  have HI1 : Hid (∀ w', Below w.heap.size w w' → Calls Try.prog 24 #[.pointer (some ⟨r, 0, none⟩), .int .i64 n] w' fun e w'' => e = .returned (.bool b1) ∧ w' = w'') := by rw [← hb1]; exact fun w' hb => HI.out w' n hb
  have HV2 : Hid (∀ w', Below w.heap.size w w' → Calls Try.prog 17 #[.pointer (some ⟨p, 0, none⟩), .int .i64 next] w' fun e w'' => e = .returned (.bool b2) ∧ w' = w'') := by rw [← hb2]; exact fun w' hb => HV.out w' next hb
  have HI2 : Hid (∀ w', Below w.heap.size w w' → Calls Try.prog 24 #[.pointer (some ⟨r, 0, none⟩), .int .i64 next] w' fun e w'' => e = .returned (.bool b2) ∧ w' = w'') := by rw [← hb2]; exact fun w' hb => HI.out w' next hb
  have HVL : Hid (∀ w' x, x ∈ l → Below w.heap.size w w' → Calls Try.prog 17 #[.pointer (some ⟨p, 0, none⟩), .int .i64 x] w' fun e w'' => e = .returned (.bool true) ∧ w' = w'') := fun w' x hx hb => by
    have := HV.out w' x hb
    rwa [show isB l x = true by simpa [isB] using hx] at this
  clear h hR h1 h2 h3 hN hb1 hb2 HV HI
  go_enter Try.func16, Try.ntmps16
  go_wp2_with fail
  (with_reducible refine HC.out.mono ?_)
  rintro e w1 ⟨A1, c1, rfl, o1, b1', f1⟩
  have O1 := Lib.hid o1
  have B1 := Lib.hid b1'
  have F1 := Lib.hid f1
  clear o1 b1' f1 HC
  go_wp2_with fail
  have B1d : Hid (Below w.heap.size w w1.drew) := B1.out.drew
  have ST : Hid (w1.drew.cell? ⟨r, 1, none⟩ = some (.int .i64 next) ∧ w1.drew.cell? ⟨r, 2, none⟩ = some (.slice A N c)) := ⟨(B1d.out.cell HLT.out).trans (cell_row H1.out rfl), (B1d.out.cell HLT.out).trans (cell_row H1.out rfl)⟩
  have KB : Hid (∀ (a b : World), Below a.heap.size a b → (a.cell? ⟨r, 1, none⟩ = some (.int .i64 next) ∧ a.cell? ⟨r, 2, none⟩ = some (.slice A N c)) → (b.cell? ⟨r, 1, none⟩ = some (.int .i64 next) ∧ b.cell? ⟨r, 2, none⟩ = some (.slice A N c))) := fun a b hb h => ⟨(hb.cell (World.block_lt_of_cell? a _ h.1)).trans h.1, (hb.cell (World.block_lt_of_cell? a _ h.2)).trans h.2⟩
  have NS := Lib.hid (numbers_same w1.drew _ _ l (reads_own HNN.out (own_keeps O1.out (Kept.of_below ((Below.refl w1.heap.size w1).drew)))) (reads_own HNN.out (own_keeps H2.out (Kept.of_below B1d.out))))
  have O1d : Hid (w1.drew.ownsRow 0 3 1 (.slice A1 N c1) N (l.map i64)) := own_keeps O1.out (Kept.of_below ((Below.refl w1.heap.size w1).drew))
  clear H1 H2 O1 B1
  go_region_held3 (fun w' => w'.cell? ⟨r, 1, none⟩ = some (.int .i64 next) ∧ w'.cell? ⟨r, 2, none⟩ = some (.slice A N c))
    (first | exact ST.out | exact KB.out _ _ b3 ST.out | fail)
    (first | (go_at_call 21; (with_reducible refine NS.out.mono ?_); rintro e w3 ⟨rfl, b3⟩; have B3 : Hid (Below w.heap.size w w3) := B1d.out.trans (b3.mono B1d.out.size)) | (go_at_call 19; (with_reducible refine (HN.out _ B3.out).mono ?_); rintro e w9 ⟨rfl, rfl⟩) | (go_at_call 17; (with_reducible refine (HV1.out _ B3.out).mono ?_); rintro e w9 ⟨rfl, rfl⟩) | (go_at_call 24; (with_reducible refine (HI1.out _ B3.out).mono ?_); rintro e w9 ⟨rfl, rfl⟩) | (go_at_call 17; (with_reducible refine (HV2.out _ B3.out).mono ?_); rintro e w9 ⟨rfl, rfl⟩) | (go_at_call 24; (with_reducible refine (HI2.out _ B3.out).mono ?_); rintro e w9 ⟨rfl, rfl⟩) | fail)
  have R3 : Hid (RowJ w3 (.slice A1 N c1) l N 0) := rowJ_own (own_keeps O1d.out (Kept.of_below b3))
  clear b3 NS HV1 HV2 HI1 HI2 HN O1d B1d ST KB
  go_wp2_with fail
  go_loopw [8, 9] (fun v8 v9 wr => ∃ i : Nat, i ≤ N ∧ v8 = .bool true ∧ v9 = .int .i64 i ∧ Hid (RowJ wr (.slice A1 N c1) l N i) ∧ Hid (Below w.heap.size w wr)) (fun _ v9 _ => N - (intOf v9).toNat)
  case atStart => exact ⟨0, Nat.zero_le _, rfl, rfl, R3, B3⟩
  case round =>
    clear R3 B3
    obtain ⟨i, hi, rfl, rfl, HR, HB⟩ := hrel
    by_cases hlt : i < N
    · obtain ⟨A, c, e, q1, q2, q3⟩ := HR.out
      obtain ⟨rfl, rfl⟩ : A1 = A ∧ c1 = c := by simpa using e
      obtain ⟨gg, cur, rfl, hg, hz⟩ := q3 (by omega)
      obtain ⟨z, hz2⟩ : ∃ z, l[i]? = some z := ⟨_, List.getElem?_eq_getElem (by rw [HNN.out]; exact hlt)⟩
      have y0 : wr.cell? ⟨gg, i, none⟩ = some (.int .i64 z) := cell_row hg (hz i z (Nat.le_refl _) hz2)
      have f0 : wr.frozen? ⟨gg, i, none⟩ = false := free_row hg
      have HX := Lib.hid (HVL.out wr z (List.mem_of_getElem? hz2) HB.out)
      have HGG := Lib.hid (F1.out gg rfl)
      unfold maxLen at q2
      clear q3 hg hz e hz2
      go_wp2_with fail
      (with_reducible refine HX.out.mono ?_)
      rintro e w9 ⟨rfl, rfl⟩
      go_wp2_with fail
      exact ⟨⟨i + 1, by omega, rfl, by simp, HR.out.set _, HB.out.trans ((Kept.refl (fun b => b = gg) wr).setCell (p := ⟨gg, i, none⟩) (.inl rfl) _ |>.below (fun b hb => by have := HGG.out; have e : b = gg := hb; omega) HB.out.size)⟩, by simp [intOf]; omega⟩
    · have : i = N := by omega
      subst this
      go_wp2_with fail
      go_ret
      exact ⟨rfl, HB.out⟩
end Go.Proofs.Ytpkgiemigbjfeaa.Kin

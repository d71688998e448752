/- BinarySearch, Insert at the end; a record of two numbers and a list. Own text; Ytpkgiemigbjfeaa and the numbers between @..@ are the seat's. -/
import Derived.Test.YtpkgiemigbjfeaaPrS
import Derived.Test.YtpkgiemigbjfeaaKinC
import Derived.Test.YtpkgiemigbjfeaaKinL
namespace Go.Proofs.Ytpkgiemigbjfeaa.Kin
open Go.RowKit Go.Proofs.Ytpkgiemigbjfeaa.Mem
set_option linter.unusedVariables false
theorem less_any (w : World) (x y : Int) : Calls Try.prog 34 #[.int .i64 x, .int .i64 y] w fun e w' => e = .returned (.bool (decide (x < y))) ∧ w = w' := by
  have HN : Hid (∀ z w, Calls Try.prog 37 #[.int .i64 z] w fun e w' => e = .returned (.bool false) ∧ w = w') := fun z w => by
    go_enter Try.func37, Try.ntmps37
    go_wp2
    go_ret
    exact ⟨rfl, rfl⟩
  go_enter Try.func34, Try.ntmps34
  go_wp2_with (first | (go_at_call 37; (refine (HN.out _ _).mono ?_); rintro e w9 ⟨rfl, rfl⟩) | fail)
  go_ret
  exact ⟨rfl, rfl⟩
theorem nan_any (w : World) (z : Int) : Calls Try.prog 35 #[.int .i64 z] w fun e w' => e = .returned (.bool false) ∧ w = w' := by
  go_enter Try.func35, Try.ntmps35
  go_wp2
  go_ret
  exact ⟨rfl, rfl⟩
set_option maxHeartbeats 2000000 in
theorem bsearch_any (w : World) (v : Value) (n : Nat) (l : List Int) (t : Int) (hown : w.ownsRow 0 3 1 v n (l.map i64)) (hs : Srt l) (hb : n ≤ 100000) :
    Calls Try.prog 31 #[v, .int .i64 t] w fun e w' => e = .returned (.tuple #[.int .i64 (pos l t), .bool (isB l t)]) ∧ w = w' := by
  obtain ⟨A, c, rfl, hnc⟩ := own_slice hown
  have hl : l.length = n := by have := hown.1; simpa using this
  have hcm : c ≤ maxLen := by
    rcases hown.2 with ⟨h1, _⟩ | ⟨g, c', cur, h1, _, _, _, h2, _⟩
    · obtain ⟨_, _, rfl⟩ : A = none ∧ n = 0 ∧ c = 0 := by simpa using h1
      exact Nat.zero_le _
    · obtain ⟨_, rfl⟩ : A = some ⟨g, 0, none⟩ ∧ c = c' := by simpa using h1
      exact h2
  have hpl := pos_le l t
  have HC : Hid (0 < n → ∃ g, A = some ⟨g, 0, none⟩ ∧ ∀ (j : Nat) z, l[j]? = some z → w.cell? ⟨g, j, none⟩ = some (.int .i64 z)) := fun hp => by
    obtain ⟨g, c', cur, e, _, _, _, _, _, hcell⟩ := own_form hown hp
    obtain ⟨rfl, _⟩ : A = some ⟨g, 0, none⟩ ∧ c = c' := by simpa using e
    exact ⟨g, rfl, fun j z hz => hcell j (i64 z) (by rw [List.getElem?_map, hz]; rfl)⟩
  have HS := Lib.hid hs
  have HL := Lib.hid hl
  obtain ⟨P, hP⟩ : ∃ P, pos l t = P := ⟨_, rfl⟩
  have HAT : Hid (∀ (j : Nat) x, l[j]? = some x → (x < t ↔ j < P)) := fun j x hx => by rw [← hP]; exact hs.at t j x hx
  have HM : Hid (t ∈ l ↔ l[P]? = some t) := by rw [← hP]; exact hs.mem_at
  rw [hP] at hpl ⊢
  rw [hl] at hpl
  unfold maxLen at hcm
  clear hown hs hl hP
  go_enter Try.func31, Try.ntmps31
  go_wp2_with fail
  go_loopw [7, 8] (fun v7 v8 wr => ∃ i j : Nat, i ≤ P ∧ P ≤ j ∧ j ≤ n ∧ v7 = .int .i64 i ∧ v8 = .int .i64 j ∧ w = wr) (fun v7 v8 _ => (intOf v8).toNat - (intOf v7).toNat)
  case atStart => exact ⟨0, n, Nat.zero_le _, hpl, Nat.le_refl _, rfl, rfl, rfl⟩
  case round =>
    obtain ⟨i, j, hi, hj, hjn, rfl, rfl, rfl⟩ := hrel
    by_cases hlt : i < j
    · obtain ⟨h, hh⟩ : ∃ h : Nat, ((i : Int) + (j : Int)) / 2 = h := ⟨(((i : Int) + (j : Int)) / 2).toNat, by omega⟩
      have hi1 : i ≤ h := by omega
      have hj1 : h < j := by omega
      have hn1 : h < n := by omega
      obtain ⟨z, hz⟩ : ∃ z, l[h]? = some z := ⟨_, List.getElem?_eq_getElem (by rw [HL.out]; exact hn1)⟩
      obtain ⟨g, rfl, hcell⟩ := HC.out (by omega)
      have y0 := hcell h z hz
      have hat := HAT.out h z hz
      have HX := Lib.hid (less_any w z t)
      clear hcell hz
      by_cases hzt : z < t
      · have hP1 := hat.1 hzt
        rw [decide_eq_true hzt] at HX
        clear hat hzt
        go_wp2_with fail
        (with_reducible refine HX.out.mono ?_)
        rintro e w1 ⟨rfl, rfl⟩
        clear hh
        go_wp2_with fail
        exact ⟨⟨h + 1, j, by omega, hj, hjn, by simp, rfl, trivial⟩, by simp [intOf]; omega⟩
      · have hP1 : P ≤ h := by
          rcases Nat.lt_or_ge h P with e | e
          · exact absurd (hat.2 e) hzt
          · exact e
        rw [decide_eq_false hzt] at HX
        clear hat hzt
        go_wp2_with fail
        (with_reducible refine HX.out.mono ?_)
        rintro e w1 ⟨rfl, rfl⟩
        clear hh
        go_wp2_with fail
        exact ⟨⟨i, h, hi, hP1, by omega, rfl, rfl, trivial⟩, by simp [intOf]; omega⟩
    · have e1 : P = i := by omega
      subst e1
      have e2 : P = j := by omega
      subst e2
      clear hlt hi hj
      by_cases hin : P < n
      · obtain ⟨z, hz⟩ : ∃ z, l[P]? = some z := ⟨_, List.getElem?_eq_getElem (by rw [HL.out]; exact hin)⟩
        obtain ⟨g, rfl, hcell⟩ := HC.out (by omega)
        have y0 := hcell P z hz
        have HX := Lib.hid (nan_any w z)
        by_cases hzt : z = t
        · have hB : isB l t = true := by
            have := HM.out.2 (by rw [hz, hzt])
            simpa [isB] using this
          have HB := Lib.hid hB
          clear hcell hz hB
          go_wp2_with (first | (go_at_call 35; (with_reducible refine (nan_any _ _).mono ?_); rintro e w9 ⟨rfl, rfl⟩) | fail)
          go_ret2
          exact ⟨by rw [HB.out]; rfl, rfl⟩
        · have hB : isB l t = false := by
            have : ¬ t ∈ l := fun e => hzt (Option.some.inj (hz.symm.trans (HM.out.1 e)))
            simpa [isB] using this
          have hzb : (z == t) = false := by simpa using hzt
          have HB := Lib.hid hB
          clear hcell hz hB
          go_wp2_with (first | (go_at_call 35; (with_reducible refine (nan_any _ _).mono ?_); rintro e w9 ⟨rfl, rfl⟩) | fail)
          go_ret2
          exact ⟨by rw [HB.out]; rfl, rfl⟩
      · have hB : isB l t = false := by
          have : ¬ t ∈ l := fun e => by
            have := (List.getElem?_eq_some_iff.1 (HM.out.1 e)).1
            rw [HL.out] at this
            exact hin this
          simpa [isB] using this
        have HB := Lib.hid hB
        clear hB
        go_wp2_with fail
        go_ret2
        exact ⟨by rw [HB.out]; rfl, rfl⟩
/-- Insert at the end. -/
theorem insert_any (w : World) (v : Value) (n : Nat) (l : List Int) (x : Int) (h c1 : Nat) (hown : w.ownsRow 0 3 1 v n (l.map i64)) (hb : n ≤ 100000) (hx : Holds w (some ⟨h, 0, none⟩) [i64 x]) :
    Calls Try.prog 29 #[v, .int .i64 n, .slice (some ⟨h, 0, none⟩) 1 c1] w fun e w' => ∃ A c, e = .returned (.slice A (n + 1) c) ∧ w'.ownsRow 0 3 1 (.slice A (n + 1) c) (n + 1) ((l ++ [x]).map i64) ∧ Kept (fun b => v.ownBlock = some b) w w' ∧ (∀ b, (Value.slice A (n + 1) c).ownBlock = some b → v.ownBlock = some b ∨ w.heap.size ≤ b) := by
  obtain ⟨A, c, rfl, hnc⟩ := own_slice hown
  have hcm : c ≤ maxLen := by
    rcases hown.2 with ⟨h1, _⟩ | ⟨g, c', cur, h1, _, _, _, h2, _⟩
    · obtain ⟨_, _, rfl⟩ : A = none ∧ n = 0 ∧ c = 0 := by simpa using h1
      exact Nat.zero_le _
    · obtain ⟨_, rfl⟩ : A = some ⟨g, 0, none⟩ ∧ c = c' := by simpa using h1
      exact h2
  have HO := Lib.hid hown
  have HX := Lib.hid hx
  unfold maxLen at hcm
  clear hown hx
  by_cases hnc2 : c = n
  · subst hnc2
    go_enter Try.func29, Try.ntmps29
    go_wp2_with (at_builtin; refine list_app2 rfl (.tmp 23) (.tmp 24) 42 rfl 3 0 _ 1 8 Try.underlying42 info_int rfl (by decide) (by decide) (.slice A c c) c _ rfl HO.out (some ⟨h, 0, none⟩) 1 c1 [i64 x] rfl rfl HX.out (by simp [Value.oneCell', i64]) (by omega) (Nat.zero_le _) ?_; intro v9 w9 hown9 hwent9; (obtain ⟨A9, c9, rfl, _⟩ := own_slice hown9); have O9 := Lib.hid hown9; have W9 := Lib.hid hwent9; clear hown9 hwent9)
    go_ret
    refine ⟨A9, c9, rfl, by rw [List.map_append]; exact O9.out, W9.out.kept, fun b hb => ?_⟩
    rcases W9.out.block with e | e
    · exact .inl (e ▸ hb)
    · exact .inr (by have := Option.some.inj (e.symm.trans hb); omega)
  · have h1 : n < c := by omega
    go_enter Try.func29, Try.ntmps29
    go_wp2_with (at_builtin; refine list_app2 rfl (.tmp 23) (.tmp 24) 42 rfl 3 0 _ 1 8 Try.underlying42 info_int rfl (by decide) (by decide) (.slice A n c) n _ rfl HO.out (some ⟨h, 0, none⟩) 1 c1 [i64 x] rfl rfl HX.out (by simp [Value.oneCell', i64]) (by omega) (Nat.zero_le _) ?_; intro v9 w9 hown9 hwent9; (obtain ⟨A9, c9, rfl, _⟩ := own_slice hown9); have O9 := Lib.hid hown9; have W9 := Lib.hid hwent9; clear hown9 hwent9)
    go_ret
    refine ⟨A9, c9, rfl, by rw [List.map_append]; exact O9.out, W9.out.kept, fun b hb => ?_⟩
    rcases W9.out.block with e | e
    · exact .inl (e ▸ hb)
    · exact .inr (by have := Option.some.inj (e.symm.trans hb); omega)
end Go.Proofs.Ytpkgiemigbjfeaa.Kin

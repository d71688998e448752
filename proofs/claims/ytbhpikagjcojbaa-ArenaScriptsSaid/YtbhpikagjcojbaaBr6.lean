/- Give, of whatever list: the document's and the program's. -/
import Derived.Test.YtbhpikagjcojbaaBr5
import Derived.Test.YtbhpikagjcojbaaAr14
namespace Go.Proofs.Ytbhpikagjcojbaa.Ar
open Go.RowKit Go.Proofs.Ytbhpikagjcojbaa.Mem
set_option linter.unusedVariables false
set_option maxHeartbeats 1000000 in
theorem index_gen (w : World) (A : Option Addr) (c : Nat) (zs : List Int) (x : Int) (h : ReadsInts w (.slice A zs.length c) zs) : Calls Try.prog 37 #[.slice A zs.length c, .int .i64 x] w fun e w' => ∃ z : Int, e = .returned (.int .i64 z) ∧ (0 ≤ z ↔ x ∈ zs) ∧ w = w' := by
  obtain ⟨A', c', e, hl, hc⟩ := h
  obtain ⟨rfl, rfl⟩ : A = A' ∧ c = c' := by simpa using e
  unfold maxLen at hl
  have HC := Lib.hid hc
  clear hc e
  go_enter Try.func37, Try.ntmps37
  go_wp2
  go_loopw [8] (fun v8 wr => ∃ i : Nat, i ≤ zs.length ∧ v8 = .int .i64 i ∧ w = wr ∧ Hid (x ∉ zs.take i)) (fun v8 _ => zs.length - (intOf v8).toNat)
  case atStart => exact ⟨0, Nat.zero_le _, rfl, rfl, Lib.hid (by simp)⟩
  case round =>
    obtain ⟨i, hi, rfl, rfl, HX⟩ := hrel
    by_cases hlt : i < zs.length
    · obtain ⟨g, o, rfl, hcell⟩ := HC.out (by omega)
      obtain ⟨y, hy⟩ : ∃ y, zs[i]? = some y := ⟨_, List.getElem?_eq_getElem hlt⟩
      have c1 := hcell i y hy
      have HY := Lib.hid hy
      have hlt' : (i : Int) < zs.length := by omega
      clear hcell hy
      by_cases hxy : x = y
      · have hm : Hid (x ∈ zs) := hxy ▸ List.mem_of_getElem? HY.out
        go_wp2
        go_ret
        exact ⟨_, rfl, ⟨fun _ => hm.out, fun _ => by omega⟩, rfl⟩
      · go_wp2
        refine ⟨⟨i + 1, by omega, by simp, trivial, ?_⟩, by simp [intOf]; omega⟩
        show x ∉ zs.take (i + 1)
        rw [List.take_add_one, HY.out, List.mem_append]
        rintro (e | e)
        · exact HX.out e
        · exact hxy (by simpa using (show x ∈ [y] from e))
    · have : zs.length = i := by omega
      have hm : Hid (x ∉ zs) := by have := HX.out; rwa [List.take_of_length_le (by omega)] at this
      go_wp2
      go_ret
      exact ⟨-1, rfl, ⟨fun h => by omega, fun h => absurd h hm.out⟩, rfl⟩
theorem contains_gen (w : World) (A : Option Addr) (c : Nat) (zs : List Int) (x : Int) (h : ReadsInts w (.slice A zs.length c) zs) : Calls Try.prog 34 #[.slice A zs.length c, .int .i64 x] w fun e w' => e = .returned (.bool (decide (x ∈ zs))) ∧ w = w' := by
  have HI := Lib.hid (index_gen w A c zs x h)
  clear h
  go_enter Try.func34, Try.ntmps34
  go_wp2_with (go_at_call 37; (with_reducible refine HI.out.mono ?_); rintro e w1 ⟨z, rfl, hz, rfl⟩)
  go_ret
  exact ⟨ret_bool rfl (by simp), rfl⟩
/-- Up to i all is right: each page is taken, and named once. -/
def OkTo (on : List Bool) (L : List Int) (i : Nat) : Prop := ∀ k x, k < i → L[k]? = some x → isB on x = true ∧ x ∉ L.take k
theorem OkTo.next {on : List Bool} {L : List Int} {i : Nat} {x : Int} (h : OkTo on L i) (hx : L[i]? = some x) (h1 : isB on x = true) (h2 : x ∉ L.take i) : OkTo on L (i + 1) := fun k y hk hy => by
  rcases Nat.lt_succ_iff_lt_or_eq.1 hk with hk | rfl
  · exact h k y hk hy
  · rw [hx] at hy; cases hy; exact ⟨h1, h2⟩
open Classical in
noncomputable def giveE (on : List Bool) (L : List Int) : Int := if OkTo on L L.length then 0 else 20
def gave (on : List Bool) (L : List Int) : List Bool := L.foldl (fun o x => o.set x.toNat false) on
open Classical in
noncomputable def giveOn (on : List Bool) (L : List Int) : List Bool := if OkTo on L L.length then gave on L else on
theorem gave_next {on : List Bool} {L : List Int} {j : Nat} {x : Int} (hx : L[j]? = some x) : gave on (L.take (j + 1)) = (gave on (L.take j)).set x.toNat false := by
  unfold gave
  rw [List.take_add_one, hx, List.foldl_append]
  rfl
theorem take_reads {w : World} {g o n c : Nat} {zs : List Int} (h : ReadsInts w (.slice (some ⟨g, o, none⟩) zs.length c) zs) {i : Nat} (hi : i ≤ zs.length) : ReadsInts w (.slice (some ⟨g, o, none⟩) (zs.take i).length c) (zs.take i) := by
  obtain ⟨A', c', e, h1, h2⟩ := h
  have hl : (zs.take i).length = i := by rw [List.length_take]; omega
  refine ⟨_, c, rfl, by omega, fun hp => ?_⟩
  obtain ⟨g', o', e2, h3⟩ := h2 (by omega)
  subst e2
  obtain ⟨⟨rfl, rfl⟩, -⟩ : (g = g' ∧ o = o') ∧ True := by simp at e; exact ⟨e.1, trivial⟩
  exact ⟨g, o, rfl, fun j u hu => h3 j u (by rw [List.getElem?_take] at hu; split at hu; exact hu; cases hu)⟩
theorem reads_at {w : World} {g o c : Nat} {zs : List Int} (h : ReadsInts w (.slice (some ⟨g, o, none⟩) zs.length c) zs) {i : Nat} {x : Int} (hx : zs[i]? = some x) : w.cell? ⟨g, o + i, none⟩ = some (.int .i64 x) := by
  obtain ⟨A', c', e, h1, h2⟩ := h
  have hi := (List.getElem?_eq_some_iff.1 hx).1
  obtain ⟨g', o', e2, h3⟩ := h2 (by omega)
  subst e2
  obtain ⟨⟨rfl, rfl⟩, -⟩ : (g = g' ∧ o = o') ∧ True := by simp at e; exact ⟨e.1, trivial⟩
  exact h3 i x hx
theorem reads_some {w : World} {A : Option Addr} {c : Nat} {zs : List Int} (h : ReadsInts w (.slice A zs.length c) zs) (hp : 0 < zs.length) : ∃ g o, A = some ⟨g, o, none⟩ := by
  obtain ⟨A', c', e, h1, h2⟩ := h
  obtain ⟨g, o, e2, _⟩ := h2 hp
  obtain ⟨rfl, -⟩ : A = A' ∧ True := by simp at e; exact ⟨e.1, trivial⟩
  exact ⟨g, o, e2⟩
set_option maxHeartbeats 2000000 in
theorem give_any (w : World) (p a t n : Nat) (on : List Bool) (bs : List Int) (A : Option Addr) (c : Nat) (L : List Int) (h : At w p a t n on bs) (hL : ReadsInts w (.slice A L.length c) L) (hc : L.length ≤ c) (hD : 0 < L.length → ∀ g o, A = some ⟨g, o, none⟩ → g ≠ t) :
    Calls Try.prog 21 #[.pointer (some ⟨p, 0, none⟩), .slice A L.length c] w fun e w' => e = .returned (.int .i64 (giveE on L)) ∧ At w' p a t n (giveOn on L) bs ∧ Kept (fun b => b = t) w w' := by
  have hl : L.length ≤ maxLen := by obtain ⟨_, _, e, h1, _⟩ := hL; exact h1
  unfold maxLen at hl
  have HH := Lib.hid h
  have HL := Lib.hid hL
  have HD := Lib.hid hD
  obtain ⟨N, hN⟩ : ∃ N, L.length = N := ⟨_, rfl⟩
  have HN := Lib.hid hN
  obtain ⟨E, hE⟩ : ∃ E, giveE on L = E := ⟨_, rfl⟩
  obtain ⟨O, hO⟩ : ∃ O, giveOn on L = O := ⟨_, rfl⟩
  have HY : Hid (OkTo on L N → E = 0 ∧ O = gave on L) := fun h => by
    rw [← hN] at h
    exact ⟨by rw [← hE]; unfold giveE; rw [if_pos h], by rw [← hO]; unfold giveOn; rw [if_pos h]⟩
  have HNO : Hid (¬ OkTo on L N → E = 20 ∧ O = on) := fun h => by
    rw [← hN] at h
    exact ⟨by rw [← hE]; unfold giveE; rw [if_neg h], by rw [← hO]; unfold giveOn; rw [if_neg h]⟩
  rw [hE, hO]
  rw [hN] at hl hc ⊢
  clear h hL hD hN hE hO
  go_enter Try.func21, Try.ntmps21
  go_wp2
  go_loopw [11] (fun v11 wr => ∃ i : Nat, i ≤ N ∧ v11 = .int .i64 i ∧ w = wr ∧ Hid (OkTo on L i)) (fun v11 _ => N - (intOf v11).toNat)
  case atStart => exact ⟨0, Nat.zero_le _, rfl, rfl, fun k x hk => by omega⟩
  case round =>
    obtain ⟨i, hi, rfl, rfl, HO⟩ := hrel
    by_cases hlt : i < N
    · obtain ⟨x, hx⟩ : ∃ x, L[i]? = some x := ⟨_, List.getElem?_eq_getElem (by rw [HN.out]; exact hlt)⟩
      obtain ⟨g, o, rfl⟩ := reads_some HL.out (by rw [HN.out]; omega)
      have c1 := reads_at HL.out hx
      have HX := Lib.hid hx
      have HI := Lib.hid (is_any w p a t n on bs x HH.out)
      have HC := Lib.hid (contains_gen w _ c (L.take i) x (take_reads (n := 0) HL.out (by rw [HN.out]; exact hi)))
      have hlen : (L.take i).length = i := by rw [List.length_take, HN.out]; omega
      rw [hlen] at HC
      obtain ⟨b, hb⟩ : ∃ b, isB on x = b := ⟨_, rfl⟩
      rw [hb] at HI
      have HB := Lib.hid hb
      have hic : (i : Int) ≤ c := by omega
      have hlt' : (i : Int) < N := by omega
      clear hx hb hlen
      cases b
      · have hno : Hid (¬ OkTo on L N) := fun h => by have := (h i x hlt HX.out).1; rw [HB.out] at this; cases this
        go_wp2_with (first | (go_at_call 33; (with_reducible refine HI.out.mono ?_); rintro e w1 ⟨rfl, rfl⟩) | fail)
        go_ret
        obtain ⟨rfl, rfl⟩ := HNO.out hno.out
        exact ⟨rfl, HH.out, Kept.refl _ _⟩
      · by_cases hm : x ∈ L.take i
        · have hno : Hid (¬ OkTo on L N) := fun h => (h i x hlt HX.out).2 hm
          rw [decide_eq_true hm] at HC
          clear hm
          go_wp2_with (first | (go_at_call 33; (with_reducible refine HI.out.mono ?_); rintro e w1 ⟨rfl, rfl⟩) | (go_at_call 34; (with_reducible refine HC.out.mono ?_); rintro e w1 ⟨rfl, rfl⟩) | fail)
          go_ret
          obtain ⟨rfl, rfl⟩ := HNO.out hno.out
          exact ⟨rfl, HH.out, Kept.refl _ _⟩
        · have HM := Lib.hid hm
          rw [decide_eq_false hm] at HC
          clear hm
          go_wp2_with (first | (go_at_call 33; (with_reducible refine HI.out.mono ?_); rintro e w1 ⟨rfl, rfl⟩) | (go_at_call 34; (with_reducible refine HC.out.mono ?_); rintro e w1 ⟨rfl, rfl⟩) | fail)
          exact ⟨⟨i + 1, by omega, by simp, trivial, HO.out.next HX.out HB.out HM.out⟩, by simp [intOf]; omega⟩
    · have hNi : N = i := by omega
      have HOK : Hid (OkTo on L N) := by rw [hNi]; exact HO.out
      clear hNi
      go_wp2_with fail
      go_loopw [30] (fun v30 wr => ∃ j : Nat, j ≤ N ∧ v30 = .int .i64 j ∧ Hid (At wr p a t n (gave on (L.take j)) bs) ∧ Hid (Kept (fun b => b = t) w wr)) (fun v30 _ => N - (intOf v30).toNat)
      case atStart => exact ⟨0, Nat.zero_le _, rfl, HH, Kept.refl _ _⟩
      case round =>
        obtain ⟨j, hj, rfl, HA, HK⟩ := hrel
        by_cases hlt2 : j < N
        · obtain ⟨x, hx⟩ : ∃ x, L[j]? = some x := ⟨_, List.getElem?_eq_getElem (by rw [HN.out]; exact hlt2)⟩
          obtain ⟨g, o, rfl⟩ := reads_some HL.out (by rw [HN.out]; omega)
          have y0 := reads_at HL.out hx
          have y1 : wr.cell? ⟨g, o + j, none⟩ = some (.int .i64 x) := (HK.out.cell (p := ⟨g, o + j, none⟩) (World.block_lt_of_cell? w _ y0) (HD.out (by rw [HN.out]; omega) g o rfl)).trans y0
          obtain ⟨q1, q2, q3⟩ := isB_ok (HOK.out j x hlt2 hx).1
          have hnx : on.length = n := HH.out.len
          obtain ⟨k, rfl⟩ : ∃ k : Nat, x = k := ⟨x.toNat, by omega⟩
          have hkn : k < n := by omega
          have c1 := HA.out.cells.2.1
          obtain ⟨b, hb⟩ : ∃ b, (gave on (L.take j))[k]? = some b := ⟨_, List.getElem?_eq_getElem (by rw [HA.out.len]; exact hkn)⟩
          have k0 := HA.out.cells.2.2.1 k b hb
          have f0 := HA.out.free k
          have HA2 := Lib.hid (HA.out.gave k)
          have hgn := gave_next (on := on) hx
          rw [Int.toNat_natCast] at hgn
          rw [← hgn] at HA2
          have HK2 : Hid (Kept (fun b => b = t) w (wr.setCell ⟨t, k, none⟩ (.bool false))) := HK.out.setCell (p := ⟨t, k, none⟩) (.inl rfl) _
          clear y0 q1 q2 q3 hb hgn HK HA hx
          go_wp2
          exact ⟨⟨j + 1, by omega, by simp, HA2, HK2⟩, by simp [intOf]; omega⟩
        · have hNj : N = j := by omega
          go_wp2
          go_ret
          obtain ⟨rfl, rfl⟩ := HY.out HOK.out
          refine ⟨rfl, ?_, HK.out⟩
          have := HA.out
          rwa [List.take_of_length_le (by rw [HN.out]; omega)] at this
theorem reads_len {w : World} {A : Option Addr} {c : Nat} {zs : List Int} (h : ReadsInts w (.slice A zs.length c) zs) : zs.length ≤ maxLen := by
  obtain ⟨_, _, e, h1, _⟩ := h
  exact h1
set_option maxHeartbeats 2000000 in
theorem rgive_any (w : World) (r P n : Nat) (on : List Bool) (bs : List Int) (A : Option Addr) (c : Nat) (L : List Int) (h : Ra w r P n on bs) (hL : ReadsInts w (.slice A L.length c) L) (hD : 0 < L.length → ∀ g o, A = some ⟨g, o, none⟩ → g ≠ P) :
    Calls Try.prog 28 #[.pointer (some ⟨r, 0, none⟩), .slice A L.length c] w fun e w' => e = .returned (.int .i64 (giveE on L)) ∧ Ra w' r P n (giveOn on L) bs ∧ Kept (fun b => b = P) w w' := by
  have hl := reads_len hL
  unfold maxLen at hl
  have HH := Lib.hid h
  have HL := Lib.hid hL
  have HD := Lib.hid hD
  obtain ⟨N, hN⟩ : ∃ N, L.length = N := ⟨_, rfl⟩
  have HN := Lib.hid hN
  obtain ⟨E, hE⟩ : ∃ E, giveE on L = E := ⟨_, rfl⟩
  obtain ⟨O, hO⟩ : ∃ O, giveOn on L = O := ⟨_, rfl⟩
  have HY : Hid (OkTo on L N → E = 0 ∧ O = gave on L) := fun h => by
    rw [← hN] at h
    exact ⟨by rw [← hE]; unfold giveE; rw [if_pos h], by rw [← hO]; unfold giveOn; rw [if_pos h]⟩
  have HNO : Hid (¬ OkTo on L N → E = 20 ∧ O = on) := fun h => by
    rw [← hN] at h
    exact ⟨by rw [← hE]; unfold giveE; rw [if_neg h], by rw [← hO]; unfold giveOn; rw [if_neg h]⟩
  rw [hE, hO]
  rw [hN] at hl ⊢
  clear h hL hD hN hE hO
  go_enter Try.func28, Try.ntmps28
  go_wp2
  go_loopw [5] (fun v5 wr => ∃ i : Nat, i ≤ N ∧ v5 = .int .i64 i ∧ Hid (Below w.heap.size w wr) ∧ Hid (OkTo on L i)) (fun v5 _ => N - (intOf v5).toNat)
  case atStart => exact ⟨0, Nat.zero_le _, rfl, Below.refl _ _, fun k x hk => by omega⟩
  case round =>
    obtain ⟨i, hi, rfl, HB, HO⟩ := hrel
    by_cases hlt : i < N
    · obtain ⟨x, hx⟩ : ∃ x, L[i]? = some x := ⟨_, List.getElem?_eq_getElem (by rw [HN.out]; exact hlt)⟩
      obtain ⟨g, o, rfl⟩ := reads_some HL.out (by rw [HN.out]; omega)
      have c1 := reads_at (HL.out.below HB.out) hx
      have HX := Lib.hid hx
      have HI := Lib.hid (ris_any wr r P n on bs x (HH.out.below HB.out))
      obtain ⟨b, hb⟩ : ∃ b, isB on x = b := ⟨_, rfl⟩
      rw [hb] at HI
      have HBB := Lib.hid hb
      have hlt' : (i : Int) < N := by omega
      clear hx hb
      cases b
      · have hno : Hid (¬ OkTo on L N) := fun h => by have := (h i x hlt HX.out).1; rw [HBB.out] at this; cases this
        go_wp2_with (first | (go_at_call 35; (with_reducible refine HI.out.mono ?_); rintro e w1 ⟨rfl, rfl⟩) | fail)
        go_ret
        obtain ⟨rfl, rfl⟩ := HNO.out hno.out
        exact ⟨rfl, HH.out.below HB.out, Kept.of_below HB.out⟩
      · go_wp2_with (first | (go_at_call 35; (with_reducible refine HI.out.mono ?_); rintro e w1 ⟨rfl, rfl⟩) | fail)
        go_loopw [6] (fun v6 wr => ∃ j : Nat, j ≤ i ∧ v6 = .int .i64 j ∧ Hid (Below w.heap.size w wr) ∧ Hid (x ∉ L.take j)) (fun v6 _ => i - (intOf v6).toNat)
        case atStart => exact ⟨0, Nat.zero_le _, rfl, HB, Lib.hid (by simp)⟩
        case round =>
          clear HB c1 HI
          obtain ⟨j, hj, rfl, HB, HX2⟩ := hrel
          by_cases hlt2 : j < i
          · obtain ⟨y, hy⟩ : ∃ y, L[j]? = some y := ⟨_, List.getElem?_eq_getElem (by rw [HN.out]; omega)⟩
            have c1 := reads_at (HL.out.below HB.out) HX.out
            have c2 := reads_at (HL.out.below HB.out) hy
            have HYY := Lib.hid hy
            have hlt3 : (j : Int) < i := by omega
            have hlt4 : (j : Int) < N := by omega
            clear hy
            by_cases hxy : y = x
            · have hxy' : (y == x) = true := by simp [hxy]
              have hno : Hid (¬ OkTo on L N) := fun h => by
                refine (h i x hlt HX.out).2 ?_
                rw [← hxy]
                exact List.mem_of_getElem? (i := j) (by rw [List.getElem?_take, if_pos hlt2]; exact HYY.out)
              clear hxy
              go_wp2_with fail
              go_quiet (fail)
              have HB2 := Lib.hid (HB.out.trans ((⟨rfl, rfl, rfl, Nat.le_refl _, fun _ _ => rfl⟩ : Below wr.heap.size wr (wr.drewN nq)).mono HB.out.size))
              go_wp2
              go_ret
              obtain ⟨rfl, rfl⟩ := HNO.out hno.out
              exact ⟨rfl, HH.out.below HB2.out, Kept.of_below HB2.out⟩
            · have hxy' : (y == x) = false := by simp [hxy]
              have HXY := Lib.hid hxy
              clear hxy
              go_wp2_with fail
              go_quiet (fail)
              have HB2 := Lib.hid (HB.out.trans ((⟨rfl, rfl, rfl, Nat.le_refl _, fun _ _ => rfl⟩ : Below wr.heap.size wr (wr.drewN nq)).mono HB.out.size))
              go_wp2
              refine ⟨⟨j + 1, by omega, by simp, HB2, ?_⟩, by simp [intOf]; omega⟩
              show x ∉ L.take (j + 1)
              rw [List.take_add_one, HYY.out, List.mem_append]
              rintro (e | e)
              · exact HX2.out e
              · exact HXY.out (by simpa using (show x ∈ [y] from e) : x = y).symm
          · have hij : i = j := by omega
            have hlt3 : ¬ (j : Int) < i := by omega
            have HO2 := Lib.hid (HO.out.next HX.out HBB.out (by rw [hij]; exact HX2.out))
            clear hij
            go_wp2
            exact ⟨⟨i + 1, by omega, by simp, HB, HO2⟩, by simp [intOf]; omega⟩
    · have hNi : N = i := by omega
      have HOK : Hid (OkTo on L N) := by rw [hNi]; exact HO.out
      clear hNi
      go_wp2_with fail
      go_loopw [7] (fun v7 wr => ∃ j : Nat, j ≤ N ∧ v7 = .int .i64 j ∧ Hid (Ra wr r P n (gave on (L.take j)) bs) ∧ Hid (Kept (fun b => b = P) w wr)) (fun v7 _ => N - (intOf v7).toNat)
      case atStart => exact ⟨0, Nat.zero_le _, rfl, HH.out.below HB.out, Kept.of_below HB.out⟩
      case round =>
        clear HB
        obtain ⟨j, hj, rfl, HA, HK⟩ := hrel
        by_cases hlt2 : j < N
        · obtain ⟨x, hx⟩ : ∃ x, L[j]? = some x := ⟨_, List.getElem?_eq_getElem (by rw [HN.out]; exact hlt2)⟩
          obtain ⟨g, o, rfl⟩ := reads_some HL.out (by rw [HN.out]; omega)
          have y0 := reads_at HL.out hx
          have y1 : wr.cell? ⟨g, o + j, none⟩ = some (.int .i64 x) := (HK.out.cell (p := ⟨g, o + j, none⟩) (World.block_lt_of_cell? w _ y0) (HD.out (by rw [HN.out]; omega) g o rfl)).trans y0
          obtain ⟨q1, q2, q3⟩ := isB_ok (HOK.out j x hlt2 hx).1
          have hnx : on.length = n := HH.out.len
          obtain ⟨k, rfl⟩ : ∃ k : Nat, x = k := ⟨x.toNat, by omega⟩
          have hkn : k < n := by omega
          have c1 := HA.out.cells.1
          obtain ⟨b, hb⟩ : ∃ b, (gave on (L.take j))[k]? = some b := ⟨_, List.getElem?_eq_getElem (by rw [HA.out.len]; exact hkn)⟩
          have k0 := HA.out.cells.2.1 k b hb
          have f0 := HA.out.fz (k * 65)
          have HA2 := Lib.hid (HA.out.gave hkn)
          have hgn := gave_next (on := on) hx
          rw [Int.toNat_natCast] at hgn
          rw [← hgn] at HA2
          have HK2 : Hid (Kept (fun b => b = P) w (wr.setCell ⟨P, k * 65, none⟩ (.bool false))) := HK.out.setCell (p := ⟨P, k * 65, none⟩) (.inl rfl) _
          clear y0 q1 q2 q3 hb hgn HK HA hx
          go_wp2_with fail
          go_region
          have HA3 := Lib.hid (HA2.out.below (Below.refl _ _).drew)
          have HK3 := Lib.hid HK2.out.drew
          clear HA2 HK2
          go_wp2
          exact ⟨⟨j + 1, by omega, by simp, HA3, HK3⟩, by simp [intOf]; omega⟩
        · have hNj : N = j := by omega
          go_wp2
          go_ret
          obtain ⟨rfl, rfl⟩ := HY.out HOK.out
          refine ⟨rfl, ?_, HK.out⟩
          have := HA.out
          rwa [List.take_of_length_le (by rw [HN.out]; omega)] at this
end Go.Proofs.Ytbhpikagjcojbaa.Ar

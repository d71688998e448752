/- KinOrder: the walk. Own text; Ythemibhajlgcdaa and the numbers between @..@ are the seat's. -/
import Derived.Test.YthemibhajlgcdaaKinX
import Derived.Test.YthemibhajlgcdaaKinZ
import Derived.Deep.CutBlock
import Derived.Deep.DeepCutAuto
namespace Go.Proofs.Ythemibhajlgcdaa.Kin
open Go.RowKit Go.Proofs.Ythemibhajlgcdaa.Mem
set_option linter.unusedVariables false
theorem Inv.earlier {m : Nat} {L : List (Int × Int)} (h : Inv m L) {j : Nat} {z x : Int} (hx : L[j]? = some (z, x)) : x = -1 ∨ ∃ j' x', j' < j ∧ L[j']? = some (x, x') := by
  rcases h.up _ (List.mem_of_getElem? hx) with e | e
  · exact .inl e
  · obtain ⟨x', hx'⟩ := has_iff.1 e
    obtain ⟨j', hj'⟩ := List.getElem?_of_mem hx'
    refine .inr ⟨j', x', ?_, hj'⟩
    rcases Nat.lt_or_ge j' j with h1 | h1
    · exact h1
    · exact absurd rfl (h.ord j j' _ _ hx hj' h1)
/-- How often k stood among the children of those below q. -/
def cn (L : List (Int × Int)) (k : Int) (q : Nat) : Nat := if par L k ≠ -1 ∧ par L k < q then 1 else 0
theorem Inv.count_kids {m : Nat} {L : List (Int × Int)} (h : Inv m L) {k : Int} (hk : has L k = true) (q : Nat) : (kids L q).count k = if par L k = q then 1 else 0 := by
  unfold kids
  by_cases hq : has L (q : Int) = true
  · rw [if_pos hq, (h.chl_nodup q).count]
    by_cases e : par L k = q
    · rw [if_pos e, if_pos (mem_chl.2 (by rw [← e]; exact h.mem_par hk))]
    · rw [if_neg e, if_neg (fun e2 => e (h.chl_par e2).2)]
  · rw [if_neg hq]
    by_cases e : par L k = q
    · rcases h.par_rng hk with e2 | ⟨e2, _⟩
      · omega
      · rw [e] at e2; exact absurd e2 hq
    · rw [if_neg e]; rfl
theorem Inv.cn_succ {m : Nat} {L : List (Int × Int)} (h : Inv m L) {k : Int} (hk : has L k = true) (q : Nat) : cn L k (q + 1) = cn L k q + (kids L q).count k := by
  rw [h.count_kids hk]
  unfold cn
  rcases h.par_rng hk with e | ⟨e, _⟩
  · rw [if_neg (by omega), if_neg (by omega), if_neg (by omega)]
  · have := (h.has_rng e).1
    by_cases e2 : par L k = q
    · rw [if_pos (by omega), if_neg (by omega), if_pos e2]
    · rw [if_neg e2, Nat.add_zero]
      by_cases e3 : par L k < q
      · rw [if_pos (by omega), if_pos (by omega)]
      · rw [if_neg (by omega), if_neg (by omega)]
theorem Inv.cn_all {m : Nat} {L : List (Int × Int)} (h : Inv m L) {k : Int} (hk : has L k = true) : cn L k m = if par L k = -1 then 0 else 1 := by
  unfold cn
  rcases h.par_rng hk with e | ⟨e, _⟩
  · rw [if_neg (by omega), if_pos e]
  · have := h.has_rng e
    rw [if_pos (by omega), if_neg (by omega)]
theorem count_take (zs : List Int) (k : Int) (i : Nat) (z : Int) (hz : zs[i]? = some z) : (zs.take (i + 1)).count k = (zs.take i).count k + if z = k then 1 else 0 := by
  obtain ⟨hlt, rfl⟩ := List.getElem?_eq_some_iff.1 hz
  rw [List.take_succ_eq_append_getElem hlt, List.count_append, List.count_singleton]
  congr 1
  by_cases e : zs[i] = k
  · simp [e]
  · simp [e]
theorem own_ints {w : World} {A : Option Addr} {n c : Nat} {zs : List Int} (h : w.ownsRow 0 3 1 (.slice A n c) n (zs.map i64)) (hp : 0 < n) : ∃ g, A = some ⟨g, 0, none⟩ ∧ n ≤ c ∧ ∀ (j : Nat) z, zs[j]? = some z → w.cell? ⟨g, j, none⟩ = some (.int .i64 z) := by
  obtain ⟨g, c', cur, e, _, hc, _, _, _, hcell⟩ := own_form h hp
  obtain ⟨rfl, rfl⟩ : A = some ⟨g, 0, none⟩ ∧ c = c' := by simpa using e
  exact ⟨g, rfl, hc, fun j z hz => hcell j (i64 z) (by rw [List.getElem?_map, hz]; rfl)⟩
set_option maxHeartbeats 8000000 in
set_option maxRecDepth 100000 in
theorem law_order (w : World) (n0 : Int) (vs : Value) (os : List (Int × Int × Int)) (n : Int) (hs : ReadsOps w vs os) :
    Calls Try.prog 4 #[.int .i64 n0, vs, .int .i64 n] w fun e w' => e = .returned (.bool true) ∧ Below w.heap.size w w' := by
  obtain ⟨As, cs, rfl, hs1, hs2, hs3⟩ := hs
  unfold maxLen at hs2
  have HS3 := Lib.hid hs3
  clear hs3
  have e1 : n0.tmod 40 < 40 := Int.tmod_lt_of_pos n0 (by decide)
  have e2 : -40 < n0.tmod 40 := Int.lt_tmod_of_pos n0 (by decide)
  obtain ⟨R, hR⟩ : ∃ R, n0.tmod 40 = R := ⟨_, rfl⟩
  have hw : IntKind.i64.wrap (n0.tmod 40) = R := by rw [hR]; exact IntWalk.i64_in _ (by omega)
  rw [hR] at e1 e2
  go_enter Try.func4, Try.ntmps4
  go_upto_if 23 with fail
  go_cut [7] (fun v7 wr => ∃ m : Nat, m < 40 ∧ v7 = .int .i64 m ∧ w = wr)
  case first =>
    by_cases hneg : R < 0
    · obtain ⟨m, hm⟩ : ∃ m : Nat, R + 40 = m := ⟨(R + 40).toNat, by omega⟩
      have hw2 : IntKind.i64.wrap (R + 40) = R + 40 := IntWalk.i64_in _ (by omega)
      have HM := Lib.hid hm
      clear hm
      go_wp2_with fail
      go_meet
      exact ⟨m, by have := HM.out; omega, by rw [HM.out], rfl⟩
    · obtain ⟨m, hm⟩ : ∃ m : Nat, R = m := ⟨R.toNat, by omega⟩
      have HM := Lib.hid hm
      clear hm
      go_wp2_with fail
      go_meet
      exact ⟨m, by have := HM.out; omega, by rw [HM.out], rfl⟩
  case rest =>
    obtain ⟨m, hm, rfl, rfl⟩ := hcut
    clear hw hR e1 e2
    have HX := Lib.hid (new_in w m (by omega))
    go_wp2_with fail
    (with_reducible refine HX.out.mono ?_)
    rintro e w1 ⟨p, g, rfl, b1, k1⟩
    have HS := Lib.hid (solo_new k1 b1)
    clear HX b1 k1
    have HX := Lib.hid (alive_any w1)
    go_wp2_with (first | (go_at_call 8; (refine (num_any _ _).mono ?_); rintro e w9 ⟨rfl, rfl⟩) | fail)
    (with_reducible refine HX.out.mono ?_)
    rintro e w2 ⟨rfl, b2⟩
    have H2 := Lib.hid (HS.out.below b2)
    clear HX b2 HS
    go_wp2_with fail
    go_loopw [10] (fun v10 wr => ∃ (i : Nat) (L : List (Int × Int)), i ≤ os.length ∧ v10 = .int .i64 i ∧ Hid (Solo w wr p g m L (fun _ => False))) (fun v10 _ => os.length - (intOf v10).toNat)
    case atStart => exact ⟨0, [], Nat.zero_le _, rfl, H2⟩
    case round =>
      clear H2
      obtain ⟨i, L, hi, rfl, HS⟩ := hrel
      by_cases hlt : i < os.length
      · obtain ⟨x, hx⟩ : ∃ x, os[i]? = some x := ⟨_, List.getElem?_eq_getElem hlt⟩
        obtain ⟨gs, ss, rfl, hcell⟩ := HS3.out (by omega)
        obtain ⟨k, q, n⟩ := x
        have hgs : Hid (gs < w.heap.size) := World.block_lt_of_cell? w _ (hcell i (k, q, n) hx 0 _ rfl)
        have y0 := (HS.out.2.cell (show (⟨gs, ss + i * 3, none⟩ : Addr).block < w.heap.size from hgs.out)).trans (hcell i (k, q, n) hx 0 _ rfl)
        have y1 := (HS.out.2.cell (show (⟨gs, ss + i * 3 + 1, none⟩ : Addr).block < w.heap.size from hgs.out)).trans (hcell i (k, q, n) hx 1 _ rfl)
        have y2 := (HS.out.2.cell (show (⟨gs, ss + i * 3 + 2, none⟩ : Addr).block < w.heap.size from hgs.out)).trans (hcell i (k, q, n) hx 2 _ rfl)
        have HX := Lib.hid (HS.out.does (fun _ h => h.elim) k q n)
        clear hcell hx
        go_wp2_with fail
        (with_reducible refine HX.out.mono ?_)
        rintro e w3 ⟨rfl, s3, _⟩
        have S3 := Lib.hid s3
        clear s3 HX HS
        go_wp2_with fail
        exact ⟨⟨i + 1, _, by omega, by simp, S3⟩, by simp [intOf]; omega⟩
      · have : i = os.length := by omega
        subst this
        have HI := Lib.hid HS.out.inv
        have H3 := HS
        clear hlt hi HS HS3
        go_wp2_with fail
        go_loopw [11] (fun v11 wr => ∃ k : Nat, k ≤ m ∧ v11 = .int .i64 k ∧ Hid (Solo w wr p g m L (fun _ => False))) (fun v11 _ => m - (intOf v11).toNat)
        case atStart => exact ⟨0, Nat.zero_le _, rfl, H3⟩
        case round =>
          clear H3
          obtain ⟨k, hk, rfl, HS⟩ := hrel
          by_cases hlt : k < m
          · have HX := Lib.hid (HS.out.parent k)
            have HY := Lib.hid (HS.out.has k)
            cases e : has L (k : Int) with
            | false =>
              have HC := Lib.hid (HS.out.children k)
              rw [show kids L (k : Int) = [] by unfold kids; rw [if_neg (by rw [e]; simp)], show ([] : List Int).length = 0 from rfl] at HC
              rw [e, par_no e] at HX
              rw [e] at HY
              clear e
              go_wp2_with fail
              (with_reducible refine HX.out.mono ?_)
              rintro e w3 ⟨rfl, rfl⟩
              go_wp2_with fail
              (with_reducible refine HY.out.mono ?_)
              rintro e w3 ⟨rfl, rfl⟩
              go_wp2_with fail
              (with_reducible refine HC.out.mono ?_)
              rintro e w4 ⟨A, c, rfl, _, b4, _⟩
              have S4 := Lib.hid (HS.out.below b4)
              clear b4 HX HY HC HS
              go_wp2_with fail
              exact ⟨⟨k + 1, by omega, by simp, S4⟩, by simp [intOf]; omega⟩
            | true =>
              rw [e] at HX HY
              have HE := Lib.hid e
              obtain ⟨P, hP⟩ : ∃ P, par L (k : Int) = P := ⟨_, rfl⟩
              rw [hP] at HX
              have HP := Lib.hid hP
              have H5 := HS
              have C0 : Hid (cn L k 0 = 0) := by
                unfold cn
                rcases HI.out.par_rng e with e2 | ⟨e2, _⟩
                · exact if_neg (by omega)
                · have := (HI.out.has_rng e2).1; exact if_neg (by omega)
              clear e hP HS
              go_wp2_with fail
              (with_reducible refine HX.out.mono ?_)
              rintro e w3 ⟨rfl, rfl⟩
              go_wp2_with fail
              (with_reducible refine HY.out.mono ?_)
              rintro e w3 ⟨rfl, rfl⟩
              clear HX HY
              go_wp2_with fail
              go_loopw [14, 15] (fun v14 v15 wr => ∃ q c : Nat, q ≤ m ∧ c ≤ 1 ∧ v15 = .int .i64 q ∧ v14 = .int .i64 c ∧ Hid (c = cn L k q) ∧ Hid (Solo w wr p g m L (fun _ => False))) (fun _ v15 _ => m - (intOf v15).toNat)
              case atStart => exact ⟨0, 0, Nat.zero_le _, Nat.zero_le _, rfl, rfl, C0.out.symm, H5⟩
              case round =>
                clear H5 C0
                obtain ⟨q, c0, hq, hc0, rfl, rfl, HC0, HS⟩ := hrel
                by_cases hlt2 : q < m
                · have hl := kids_len HS.out.inv HS.out.hm q
                  have HC := Lib.hid (HS.out.children q)
                  have HCS := Lib.hid (HI.out.cn_succ HE.out q)
                  have HKQ : Hid (∀ z ∈ kids L q, z = (k : Int) → P = q) := fun z hz e => by
                    subst e
                    have hc := HI.out.count_kids HE.out q
                    have h1 : 0 < (kids L q).count (k : Int) := List.count_pos_iff.2 hz
                    rw [← HP.out]
                    by_cases e2 : par L (k : Int) = q
                    · exact e2
                    · rw [if_neg e2] at hc; omega
                  obtain ⟨zs, hz⟩ : ∃ zs, kids L (q : Int) = zs := ⟨_, rfl⟩
                  rw [hz] at HC hl HCS HKQ
                  obtain ⟨N, hN⟩ : ∃ N, zs.length = N := ⟨_, rfl⟩
                  have HN := Lib.hid hN
                  rw [hN] at HC hl
                  have HB : Hid (∀ i, (zs.take i).count (k : Int) ≤ zs.count (k : Int)) := fun i => (List.take_sublist i zs).count_le _
                  have HB2 : Hid (c0 + zs.count (k : Int) ≤ 1) := by
                    show _ ≤ _
                    rw [HC0.out, ← HCS.out]; unfold cn; split <;> omega
                  clear hz hN
                  go_wp2_with fail
                  (with_reducible refine HC.out.mono ?_)
                  rintro e w4 ⟨A, c, rfl, o4, b4, _⟩
                  have S4 := Lib.hid (HS.out.below b4)
                  have O4 := Lib.hid o4
                  clear o4 b4 HC HS
                  go_wp2_with fail
                  go_loopw [14, 17] (fun v14 v17 wx => ∃ i c1 : Nat, i ≤ N ∧ c1 ≤ 1 ∧ v17 = .int .i64 i ∧ v14 = .int .i64 c1 ∧ Hid (c1 = c0 + (zs.take i).count (k : Int)) ∧ wx = w4) (fun _ v17 _ => N - (intOf v17).toNat)
                  case atStart => exact ⟨0, c0, Nat.zero_le _, hc0, rfl, rfl, by show _ = _; simp, rfl⟩
                  case round =>
                    obtain ⟨i, c1, hi, hc1, rfl, rfl, HC1, rfl⟩ := hrel
                    by_cases hlt3 : i < N
                    · obtain ⟨z, hz⟩ : ∃ z, zs[i]? = some z := ⟨_, List.getElem?_eq_getElem (by rw [HN.out]; exact hlt3)⟩
                      obtain ⟨gg, rfl, hcc, hcell⟩ := own_ints O4.out (by omega)
                      have y0 := hcell i z hz
                      have HT := Lib.hid (count_take zs k i z hz)
                      have HZK := Lib.hid (HKQ.out z (List.mem_of_getElem? hz))
                      have HBn := Lib.hid (HB.out (i + 1))
                      clear hcell hz
                      by_cases hzk : z = (k : Int)
                      · have hPq := HZK.out hzk
                        subst hPq
                        rw [if_pos hzk] at HT
                        have HC2 : Hid (c1 + 1 = c0 + (zs.take (i + 1)).count (k : Int)) := by rw [HT.out, HC1.out]; show _ = _; omega
                        have hc2 : c1 + 1 ≤ 1 := by have h1 := HC2.out; have h2 := HBn.out; have h3 := HB2.out; omega
                        go_wp2_with fail
                        exact ⟨⟨i + 1, c1 + 1, by omega, hc2, by simp, by simp, HC2, trivial⟩, by simp [intOf]; omega⟩
                      · rw [if_neg hzk] at HT
                        have HC2 : Hid (c1 = c0 + (zs.take (i + 1)).count (k : Int)) := by rw [HT.out, HC1.out]; show _ = _; omega
                        go_wp2_with fail
                        exact ⟨⟨i + 1, c1, by omega, hc1, by simp, rfl, HC2, trivial⟩, by simp [intOf]; omega⟩
                    · have : i = N := by omega
                      subst this
                      have HC2 : Hid (c1 = cn L k (q + 1)) := by rw [HCS.out, HC1.out, ← HC0.out, List.take_of_length_le (by rw [HN.out]; exact Nat.le_refl _)]; rfl
                      go_wp2_with fail
                      exact ⟨⟨q + 1, c1, by omega, hc1, by simp, rfl, HC2, S4⟩, by simp [intOf]; omega⟩
                · have : m = q := by omega
                  subst this
                  have HCA := HI.out.cn_all HE.out
                  rw [← HC0.out, HP.out] at HCA
                  have WAY0 : Hid ((k : Int) = -1 ∨ ∃ j x, j + 0 + 1 ≤ m ∧ L[j]? = some ((k : Int), x)) := by
                    obtain ⟨x, hx⟩ := has_iff.1 HE.out
                    obtain ⟨j, hj⟩ := List.getElem?_of_mem hx
                    have h1 := (List.getElem?_eq_some_iff.1 hj).1
                    have h2 := HI.out.len
                    exact .inr ⟨j, x, by omega, hj⟩
                  by_cases hp : P = -1
                  · rw [if_pos hp] at HCA
                    subst hp HCA
                    rw [show ((0 : Nat) : Int) = 0 from rfl]
                    clear HC0
                    go_wp2_with fail
                    go_loopw [13, 18, 19] (fun v13 v18 v19 wx => ∃ (i : Nat) (z : Int) (b : Bool), i ≤ m ∧ v19 = .int .i64 i ∧ v18 = .int .i64 z ∧ v13 = .bool b ∧ wx = wr ∧ Hid (z = -1 ∨ ∃ j x, j + i + 1 ≤ m ∧ L[j]? = some (z, x))) (fun _ _ v19 _ => m + 1 - (intOf v19).toNat)
                    case atStart => exact ⟨0, k, true, Nat.zero_le _, rfl, rfl, rfl, rfl, WAY0.out⟩
                    case round =>
                      obtain ⟨i, z, b, hi, rfl, rfl, rfl, rfl, WY⟩ := hrel
                      rcases WY.out with rfl | ⟨j, x, hj, hx⟩
                      · go_wp2_with fail
                        exact ⟨⟨k + 1, by omega, by simp, HS⟩, by simp [intOf]; omega⟩
                      · have hzh : has L z = true := has_iff.2 ⟨x, List.mem_of_getElem? hx⟩
                        have hz0 := (HI.out.has_rng hzh).1
                        have hpz : par L z = x := HI.out.par_eq (List.mem_of_getElem? hx)
                        have HX := Lib.hid (HS.out.parent z)
                        rw [hzh, hpz] at HX
                        have WY2 : Hid (x = -1 ∨ ∃ j' x', j' + (i + 1) + 1 ≤ m ∧ L[j']? = some (x, x')) := by
                          rcases HI.out.earlier hx with e | ⟨j', x', hj', hx'⟩
                          · exact .inl e
                          · exact .inr ⟨j', x', by omega, hx'⟩
                        clear hx hzh hpz
                        go_wp2_with fail
                        (with_reducible refine HX.out.mono ?_)
                        rintro e w5 ⟨rfl, rfl⟩
                        go_wp2_with fail
                        exact ⟨⟨i + 1, x, true, by omega, by simp, rfl, rfl, trivial, WY2⟩, by simp [intOf]; omega⟩
                  · rw [if_neg hp] at HCA
                    subst HCA
                    clear HC0
                    go_wp2_with fail
                    go_loopw [13, 18, 19] (fun v13 v18 v19 wx => ∃ (i : Nat) (z : Int) (b : Bool), i ≤ m ∧ v19 = .int .i64 i ∧ v18 = .int .i64 z ∧ v13 = .bool b ∧ wx = wr ∧ Hid (z = -1 ∨ ∃ j x, j + i + 1 ≤ m ∧ L[j]? = some (z, x))) (fun _ _ v19 _ => m + 1 - (intOf v19).toNat)
                    case atStart => exact ⟨0, k, true, Nat.zero_le _, rfl, rfl, rfl, rfl, WAY0.out⟩
                    case round =>
                      obtain ⟨i, z, b, hi, rfl, rfl, rfl, rfl, WY⟩ := hrel
                      rcases WY.out with rfl | ⟨j, x, hj, hx⟩
                      · go_wp2_with fail
                        exact ⟨⟨k + 1, by omega, by simp, HS⟩, by simp [intOf]; omega⟩
                      · have hzh : has L z = true := has_iff.2 ⟨x, List.mem_of_getElem? hx⟩
                        have hz0 := (HI.out.has_rng hzh).1
                        have hpz : par L z = x := HI.out.par_eq (List.mem_of_getElem? hx)
                        have HX := Lib.hid (HS.out.parent z)
                        rw [hzh, hpz] at HX
                        have WY2 : Hid (x = -1 ∨ ∃ j' x', j' + (i + 1) + 1 ≤ m ∧ L[j']? = some (x, x')) := by
                          rcases HI.out.earlier hx with e | ⟨j', x', hj', hx'⟩
                          · exact .inl e
                          · exact .inr ⟨j', x', by omega, hx'⟩
                        clear hx hzh hpz
                        go_wp2_with fail
                        (with_reducible refine HX.out.mono ?_)
                        rintro e w5 ⟨rfl, rfl⟩
                        go_wp2_with fail
                        exact ⟨⟨i + 1, x, true, by omega, by simp, rfl, rfl, trivial, WY2⟩, by simp [intOf]; omega⟩
          · have : k = m := by omega
            subst this
            have HL := Lib.hid (last_any w wr p g k L n HS.out)
            go_wp2_with fail
            (with_reducible refine HL.out.mono ?_)
            rintro e w3 ⟨rfl, b3⟩
            have B3 := Lib.hid b3
            clear b3
            go_wp2_with fail
            go_ret
            exact ⟨rfl, B3.out⟩
end Go.Proofs.Ythemibhajlgcdaa.Kin

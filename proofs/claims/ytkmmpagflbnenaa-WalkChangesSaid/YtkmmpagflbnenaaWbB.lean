/- WalkRelates: the walk. Own text (gen_wbb.py); Ytkmmpagflbnenaa and the numbers between @..@ are the seat's. -/
import Derived.Test.YtkmmpagflbnenaaWbA
namespace Go.Proofs.Ytkmmpagflbnenaa.Kin
open Go.RowKit Go.Proofs.Ytkmmpagflbnenaa.Mem
set_option linter.unusedVariables false
theorem reads_take {w : World} {g c n : Nat} {zs : List Int} (h : w.ownsRow 0 3 1 (.slice (some ⟨g, 0, none⟩) n c) n (zs.map i64)) (hn : zs.length = n) (i : Nat) (hi : i ≤ n) : ReadsInts w (.slice (some ⟨g, 0, none⟩) i c) (zs.take i) := by
  obtain ⟨A', c', e, h1, h2⟩ := reads_own hn h
  have hl : (zs.take i).length = i := by simp; omega
  refine ⟨_, c, by rw [hl], by omega, fun hp => ?_⟩
  obtain ⟨g', o', e2, h3⟩ := h2 (by omega)
  subst e2
  obtain ⟨⟨rfl, rfl⟩, -⟩ : (g = g' ∧ 0 = o') ∧ True := by simp at e; exact ⟨e.1, trivial⟩
  exact ⟨g, 0, rfl, fun j u hu => h3 j u (by rw [List.getElem?_take] at hu; split at hu; exact hu; cases hu)⟩
theorem own_block {w : World} {A : Option Addr} {n c : Nat} {xs : List Value} (h : w.ownsRow 0 3 1 (.slice A n c) n xs) (hn : 0 < n) : ∃ g, A = some ⟨g, 0, none⟩ := by
  rcases h.2 with ⟨e, h0⟩ | ⟨g, cap, cur, e, _⟩
  · have := h.1; subst h0; simp at this; omega
  · exact ⟨g, by simp at e; exact e.1⟩
theorem own_cap {w : World} {A : Option Addr} {n c : Nat} {xs : List Value} (h : w.ownsRow 0 3 1 (.slice A n c) n xs) : n ≤ c := by
  obtain ⟨A', c', e, h1⟩ := own_slice h
  simp at e
  omega
theorem own_cell {w : World} {g n c i : Nat} {x : Int} {zs : List Int} (h : w.ownsRow 0 3 1 (.slice (some ⟨g, 0, none⟩) n c) n (zs.map i64)) (hx : zs[i]? = some x) : w.cell? ⟨g, i, none⟩ = some (.int .i64 x) := by
  have hl : zs.length = n := by have := h.1; simpa using this
  obtain ⟨A', c', e, h1, h2⟩ := reads_own hl h
  have hi := (List.getElem?_eq_some_iff.1 hx).1
  obtain ⟨g', o', e2, h3⟩ := h2 (by omega)
  subst e2
  obtain ⟨⟨rfl, rfl⟩, -⟩ : (g = g' ∧ 0 = o') ∧ True := by simp at e; exact ⟨e.1, trivial⟩
  have := h3 i x hx
  rwa [Nat.zero_add] at this
theorem below_dr (w : World) (k : Nat) : Below w.heap.size w (w.drewN k) := ⟨rfl, rfl, rfl, Nat.le_refl _, fun _ _ => rfl⟩
theorem among_quiet (w : World) (k : Nat) (v : Value) (zs : List Int) (x : Int) (b : Bool) (h : ReadsInts w v zs) (hb : decide (x ∈ zs) = b) : Calls Try.prog 18 #[v, .int .i64 x] (w.drewN k) fun e w' => e = .returned (.bool b) ∧ ∃ m, w' = w.drewN m := by
  subst hb
  exact (among_any _ v zs x (h.below (below_dr _ k))).mono (by rintro e w' ⟨rfl, rfl⟩; exact ⟨rfl, k, rfl⟩)
set_option maxHeartbeats 8000000 in
set_option maxRecDepth 100000 in
theorem law_rel (w : World) (n0 : Int) (vs : Value) (os : List (Int × Int × Int)) (n : Int) (hs : ReadsOps w vs os) :
    Calls Try.prog 4 #[.int .i64 n0, vs, .int .i64 n] w fun e w' => e = .returned (.bool true) ∧ Below w.heap.size w w' := by
  have e1 : n0.tmod 100 < 100 := Int.tmod_lt_of_pos n0 (by decide)
  have e2 : -100 < n0.tmod 100 := Int.lt_tmod_of_pos n0 (by decide)
  obtain ⟨R, hR⟩ : ∃ R, n0.tmod 100 = R := ⟨_, rfl⟩
  have hw : IntKind.i64.wrap (n0.tmod 100) = R := by rw [hR]; exact IntWalk.i64_in _ (by omega)
  rw [hR] at e1 e2
  obtain ⟨m, hm⟩ : ∃ m : Nat, (R + 100).tmod 100 = m := ⟨((R + 100).tmod 100).toNat, by have := Int.tmod_nonneg 100 (show 0 ≤ R + 100 by omega); omega⟩
  have hm2 : m < 100 := by have := Int.tmod_lt_of_pos (R + 100) (show (0:Int) < 100 by decide); omega
  have HX := Lib.hid (forest_any w m (by omega) _ os hs)
  have hs' := Lib.hid hs
  clear hs
  go_enter Try.func4, Try.ntmps4
  go_wp2_with fail
  (with_reducible refine HX.out.mono ?_)
  rintro e w1 ⟨p, g, r, rfl, d1, b1⟩
  have S1 := Lib.hid (d1.solo b1)
  clear HX d1 b1 hw hR hm e1 e2 hs'
  obtain ⟨L, hL⟩ : ∃ L, runL m os = L := ⟨_, rfl⟩
  rw [hL] at S1
  clear hL
  have HX := Lib.hid (alive_any w1)
  go_wp2_with fail
  (with_reducible refine HX.out.mono ?_)
  rintro e w2 ⟨rfl, b2⟩
  replace S1 := Lib.hid (S1.out.below b2)
  clear b2 HX
  have HX := Lib.hid (S1.out.downs n)
  have I := Lib.hid S1.out.inv
  obtain ⟨l, hl⟩ : ∃ l, dnl L false n = l := ⟨_, rfl⟩
  obtain ⟨N, hN⟩ : ∃ N, l.length = N := ⟨_, rfl⟩
  obtain ⟨f, hf⟩ : ∃ f, fall L n = f := ⟨_, rfl⟩
  have hNf : f.length = N := by rw [← hf, I.out.fall_len, hl, hN]
  have hNm : N ≤ m := by rw [← hN, ← hl]; exact I.out.dnl_len false n
  have HN := Lib.hid hN
  have HNf := Lib.hid hNf
  have HL := Lib.hid hl
  have HF := Lib.hid hf
  rw [hl, hN] at HX
  clear hN hNf hl hf
  go_wp2_with fail
  (with_reducible refine HX.out.mono ?_)
  rintro e w3 ⟨A3, c3, rfl, o3, b3, f3⟩
  replace S1 := Lib.hid (S1.out.below b3)
  have O3 := Lib.hid o3
  clear o3 b3 f3 HX
  have HX := Lib.hid (S1.out.fall n)
  rw [HF.out, HNf.out] at HX
  go_wp2_with fail
  (with_reducible refine HX.out.mono ?_)
  rintro e w4 ⟨A4, c4, rfl, o4, b4, f4⟩
  have hX4 : Hid (∀ b, (Value.slice A4 N c4).ownBlock = some b → w3.heap.size ≤ b ∧ b < w4.heap.size) := fun b e => ⟨f4 b e, own_lt o4 b e⟩
  have S4 : Hid (Solo w w4 p g m L (fun b => (Value.slice A4 N c4).ownBlock = some b)) := Solo.below (S1.out.free (fun b e => .inr (.inl (f4 b e)))) b4
  have O4 := Lib.hid o4
  replace O3 := Lib.hid (own_keeps O3.out (Kept.of_below b4))
  clear o4 b4 f4 HX S1
  have HH := Lib.hid (S4.out.has n)
  rw [I.out.has_len, HL.out, HN.out] at HH
  have hbb : (decide ((0 : Int) < N) != decide ((0 : Int) < N)) = false := by simp
  go_wp2_with fail
  (with_reducible refine HH.out.mono ?_)
  rintro e w5 ⟨rfl, rfl⟩
  clear HH
  go_wp2_with fail
  go_loopw [13] (fun v13 wr => ∃ i : Nat, i ≤ N ∧ v13 = .int .i64 i ∧ Hid (Solo w wr p g m L (fun b => (Value.slice A4 N c4).ownBlock = some b)) ∧ Hid (wr.ownsRow 0 3 1 (.slice A3 N c3) N (l.map i64)) ∧ Hid (wr.ownsRow 0 3 1 (.slice A4 N c4) N (f.map i64))) (fun v13 _ => N - (intOf v13).toNat)
  case atStart => exact ⟨0, Nat.zero_le _, rfl, S4, O3, O4⟩
  case round =>
    clear S4 O3 O4
    obtain ⟨i, hi, rfl, S, O3, O4⟩ := hrel
    by_cases hlt : i < N
    · obtain ⟨x, hx⟩ : ∃ x, l[i]? = some x := ⟨_, List.getElem?_eq_getElem (by rw [HN.out]; exact hlt)⟩
      obtain ⟨g3, rfl⟩ := own_block O3.out (by omega)
      have HX3 := Lib.hid hx
      have hxm : x ∈ dnl L false n := by rw [HL.out]; exact List.mem_of_getElem? hx
      have hup : Hid (n ∈ upl L x) := (I.out.dnl_mem false).1 hxm
      have hxf : Hid (decide (x ∈ f) = true) := decide_eq_true (by rw [← HF.out]; exact I.out.fall_mem.2 hup.out)
      have hcut : l = l.take i ++ x :: l.drop (i + 1) := by
        have h1 := (List.getElem?_eq_some_iff.1 hx)
        obtain ⟨h1, h2⟩ := h1
        rw [← h2, List.getElem_cons_drop, List.take_append_drop]
      have hxl : Hid (decide (x ∈ l.take i) = false) := decide_eq_false (fun e => by
        have := I.out.dnl_nodup false n
        rw [HL.out, hcut] at this
        exact (List.nodup_append.1 this).2.2 x e x (by simp) rfl)
      have hbe : Hid (0 < i → decide (par L x ∈ l.take i) = true) := fun h0 => decide_eq_true (I.out.behind false (n := n) (A := l.take i) (B := l.drop (i + 1)) (by rw [HL.out]; exact hcut) (fun e => by
        have h1 := I.out.dnl_nodup false n
        have h0' : 0 < N := by omega
        obtain ⟨y, hy⟩ : ∃ y, l[0]? = some y := ⟨_, List.getElem?_eq_getElem (by rw [HN.out]; exact h0')⟩
        have h2 := I.out.dnl_first (t := false) (n := n) (x := y) (by rw [HL.out]; exact hy)
        rw [HL.out, hcut] at h1
        refine (List.nodup_append.1 h1).2.2 x ?_ x (by simp) rfl
        rw [e, ← h2]
        exact List.mem_of_getElem? (i := 0) (by rw [List.getElem?_take, if_pos h0]; exact hy)))
      have hxh : Hid (has L x = true) := I.out.dnl_has false hxm
      have c1 := own_cell O3.out hx
      have P1 := Lib.hid (fun k => among_quiet wr k (.slice A4 N c4) f x true (reads_own HNf.out O4.out) hxf.out)
      have P2 := Lib.hid (fun k => among_quiet wr k (.slice (some ⟨g3, 0, none⟩) i c3) (l.take i) x false (reads_take O3.out HN.out i hi) hxl.out)
      have hlt' : (i : Int) < N := by omega
      have hc3 : (i : Int) ≤ c3 := by have := own_cap O3.out; omega
      clear hx hxm hcut
      go_wp2_with fail
      go_quiet (first | (go_at_call 18; (with_reducible exact P1.out _)) | (go_at_call 18; (with_reducible exact P2.out _)))
      replace S := Lib.hid (S.out.below (below_dr _ nq))
      replace O3 := Lib.hid (own_keeps O3.out (Kept.of_below (below_dr _ nq)))
      replace O4 := Lib.hid (own_keeps O4.out (Kept.of_below (below_dr _ nq)))
      obtain ⟨w5, hw5⟩ : ∃ w5, wr.drewN nq = w5 := ⟨_, rfl⟩
      rw [hw5] at S O3 O4 ⊢
      clear hw5 P1 P2 c1
      have c1 := own_cell O3.out HX3.out
      have PX := Lib.hid (S.out.parent x)
      rw [hxh.out] at PX
      go_wp2_with fail
      (with_reducible refine PX.out.mono ?_)
      rintro e w6 ⟨rfl, rfl⟩
      rcases Nat.eq_zero_or_pos i with h0 | h0
      · have hx0 : l[0]? = some x := h0 ▸ HX3.out
        have H0 := Lib.hid h0
        have c0 := own_cell O3.out hx0
        have h0' : ((i : Int) == 0) = true := by simp [h0]
        have h0'' : ¬ (0 : Int) < i := by omega
        have h0N : (0 : Int) < N := by omega
        have hxn : (x != n) = false := by rw [I.out.dnl_first (t := false) (n := n) (x := x) (by rw [HL.out]; exact hx0)]; simp
        clear h0 hx0
        have P3 : Hid True := trivial
        go_wp2_with fail
        clear PX P3 h0' h0'' c0 h0N hxn
        have HX := Lib.hid (S.out.ups x)
        obtain ⟨U, hU⟩ : ∃ U, upl L x = U := ⟨_, rfl⟩
        have hnU : Hid (n ∈ U) := by rw [← hU]; exact hup.out
        have HU := Lib.hid hU
        obtain ⟨q, hq⟩ : ∃ q, U.length = q := ⟨_, rfl⟩
        have HQ := Lib.hid hq
        rw [hU, hq] at HX
        clear hU hq
        go_wp2_with fail
        (with_reducible refine HX.out.mono ?_)
        rintro e w6 ⟨A6, c6, rfl, o6, b6, f6⟩
        replace S := Lib.hid (S.out.below b6)
        replace O3 := Lib.hid (own_keeps O3.out (Kept.of_below b6))
        replace O4 := Lib.hid (own_keeps O4.out (Kept.of_below b6))
        have O6 := Lib.hid o6
        have PU := Lib.hid (among_any w6 _ U n (reads_own HQ.out o6))
        rw [decide_eq_true hnU.out] at PU
        clear o6 b6 f6 HX
        go_wp2_with fail
        (with_reducible refine PU.out.mono ?_)
        rintro e w7 ⟨rfl, rfl⟩
        clear PU
        go_wp2_with fail
        go_loopw [18] (fun v18 wr => ∃ k : Nat, k ≤ m ∧ v18 = .int .i64 k ∧ Hid (Solo w wr p g m L (fun b => (Value.slice A4 N c4).ownBlock = some b)) ∧ Hid (wr.ownsRow 0 3 1 (.slice (some ⟨g3, 0, none⟩) N c3) N (l.map i64)) ∧ Hid (wr.ownsRow 0 3 1 (.slice A4 N c4) N (f.map i64)) ∧ Hid (wr.ownsRow 0 3 1 (.slice A6 q c6) q (U.map i64))) (fun v18 _ => m - (intOf v18).toNat)
        case atStart => exact ⟨0, Nat.zero_le _, rfl, S, O3, O4, O6⟩
        case round =>
          clear S O3 O4 O6
          obtain ⟨k, hk, rfl, S, O3, O4, O6⟩ := hrel
          by_cases hk2 : k < m
          · have HX := Lib.hid (S.out.under k x)
            rw [HU.out] at HX
            have PA := Lib.hid (fun w' (hb : Below _ _ w') => among_any w' _ U k (reads_own HQ.out (own_keeps O6.out (Kept.of_below hb))))
            obtain ⟨b, hb⟩ : ∃ b, decide ((k : Int) ∈ U) = b := ⟨_, rfl⟩
            rw [hb] at HX PA
            clear hb
            have hbb2 : (b != b) = false := by simp
            have c1 := own_cell O3.out HX3.out
            go_wp2_with fail
            (with_reducible refine HX.out.mono ?_)
            rintro e w7 ⟨rfl, b7⟩
            replace PA := Lib.hid (PA.out w7 b7)
            replace S := Lib.hid (S.out.below b7)
            replace O3 := Lib.hid (own_keeps O3.out (Kept.of_below b7))
            replace O4 := Lib.hid (own_keeps O4.out (Kept.of_below b7))
            replace O6 := Lib.hid (own_keeps O6.out (Kept.of_below b7))
            clear b7 HX c1
            go_wp2_with fail
            (with_reducible refine PA.out.mono ?_)
            rintro e w8 ⟨rfl, rfl⟩
            clear PA
            go_wp2_with fail
            exact ⟨⟨k + 1, by omega, by simp, S, O3, O4, O6⟩, by simp [intOf]; omega⟩
          · have : m = k := by omega
            subst this
            clear O6
            go_wp2_with fail
            exact ⟨⟨i + 1, by omega, by simp, S, O3, O4⟩, by simp [intOf] <;> omega⟩
      · have P3 := Lib.hid (among_any w5 (.slice (some ⟨g3, 0, none⟩) i c3) (l.take i) (par L x) (reads_take O3.out HN.out i hi))
        rw [hbe.out h0] at P3
        have h0' : ((i : Int) == 0) = false := by simp; omega
        have h0'' : (0 : Int) < i := by omega
        go_wp2_with fail
        (with_reducible refine P3.out.mono ?_)
        rintro e w6 ⟨rfl, rfl⟩
        clear PX P3 h0' h0''
        have HX := Lib.hid (S.out.ups x)
        obtain ⟨U, hU⟩ : ∃ U, upl L x = U := ⟨_, rfl⟩
        have hnU : Hid (n ∈ U) := by rw [← hU]; exact hup.out
        have HU := Lib.hid hU
        obtain ⟨q, hq⟩ : ∃ q, U.length = q := ⟨_, rfl⟩
        have HQ := Lib.hid hq
        rw [hU, hq] at HX
        clear hU hq
        go_wp2_with fail
        (with_reducible refine HX.out.mono ?_)
        rintro e w6 ⟨A6, c6, rfl, o6, b6, f6⟩
        replace S := Lib.hid (S.out.below b6)
        replace O3 := Lib.hid (own_keeps O3.out (Kept.of_below b6))
        replace O4 := Lib.hid (own_keeps O4.out (Kept.of_below b6))
        have O6 := Lib.hid o6
        have PU := Lib.hid (among_any w6 _ U n (reads_own HQ.out o6))
        rw [decide_eq_true hnU.out] at PU
        clear o6 b6 f6 HX
        go_wp2_with fail
        (with_reducible refine PU.out.mono ?_)
        rintro e w7 ⟨rfl, rfl⟩
        clear PU
        go_wp2_with fail
        go_loopw [18] (fun v18 wr => ∃ k : Nat, k ≤ m ∧ v18 = .int .i64 k ∧ Hid (Solo w wr p g m L (fun b => (Value.slice A4 N c4).ownBlock = some b)) ∧ Hid (wr.ownsRow 0 3 1 (.slice (some ⟨g3, 0, none⟩) N c3) N (l.map i64)) ∧ Hid (wr.ownsRow 0 3 1 (.slice A4 N c4) N (f.map i64)) ∧ Hid (wr.ownsRow 0 3 1 (.slice A6 q c6) q (U.map i64))) (fun v18 _ => m - (intOf v18).toNat)
        case atStart => exact ⟨0, Nat.zero_le _, rfl, S, O3, O4, O6⟩
        case round =>
          clear S O3 O4 O6
          obtain ⟨k, hk, rfl, S, O3, O4, O6⟩ := hrel
          by_cases hk2 : k < m
          · have HX := Lib.hid (S.out.under k x)
            rw [HU.out] at HX
            have PA := Lib.hid (fun w' (hb : Below _ _ w') => among_any w' _ U k (reads_own HQ.out (own_keeps O6.out (Kept.of_below hb))))
            obtain ⟨b, hb⟩ : ∃ b, decide ((k : Int) ∈ U) = b := ⟨_, rfl⟩
            rw [hb] at HX PA
            clear hb
            have hbb2 : (b != b) = false := by simp
            have c1 := own_cell O3.out HX3.out
            go_wp2_with fail
            (with_reducible refine HX.out.mono ?_)
            rintro e w7 ⟨rfl, b7⟩
            replace PA := Lib.hid (PA.out w7 b7)
            replace S := Lib.hid (S.out.below b7)
            replace O3 := Lib.hid (own_keeps O3.out (Kept.of_below b7))
            replace O4 := Lib.hid (own_keeps O4.out (Kept.of_below b7))
            replace O6 := Lib.hid (own_keeps O6.out (Kept.of_below b7))
            clear b7 HX c1
            go_wp2_with fail
            (with_reducible refine PA.out.mono ?_)
            rintro e w8 ⟨rfl, rfl⟩
            clear PA
            go_wp2_with fail
            exact ⟨⟨k + 1, by omega, by simp, S, O3, O4, O6⟩, by simp [intOf]; omega⟩
          · have : m = k := by omega
            subst this
            clear O6
            go_wp2_with fail
            exact ⟨⟨i + 1, by omega, by simp, S, O3, O4⟩, by simp [intOf] <;> omega⟩
    · have : N = i := by omega
      subst this
      -- ALL OF IT IS CUT
      have I2 := I
      clear O3
      go_wp2_with fail
      go_loopw [19] (fun v19 wr => ∃ i : Nat, i ≤ N ∧ v19 = .int .i64 i ∧ Hid (Solo w wr p g m (cuts L (f.take i)) (fun b => (Value.slice A4 N c4).ownBlock = some b)) ∧ Hid (wr.ownsRow 0 3 1 (.slice A4 N c4) N (f.map i64))) (fun v19 _ => N - (intOf v19).toNat)
      case atStart => exact ⟨0, Nat.zero_le _, rfl, S, O4⟩
      case round =>
        clear S O4
        obtain ⟨i, hi, rfl, S, O4⟩ := hrel
        by_cases hlt : i < N
        · obtain ⟨x, hx⟩ : ∃ x, f[i]? = some x := ⟨_, List.getElem?_eq_getElem (by rw [HNf.out]; exact hlt)⟩
          obtain ⟨g4, rfl⟩ := own_block O4.out (by omega)
          have NX := I.out.cuts_next (n := n) (i := i) (x := x) (by rw [HF.out]; exact hx)
          rw [HF.out] at NX
          have c1 := own_cell O4.out hx
          have HX4 := Lib.hid hx
          have HC := Lib.hid (S.out.cut (fun b e => own_lt O4.out b e) x)
          rw [NX.1, NX.2.1] at HC
          have HNX := Lib.hid NX.2.2
          have HNum := Lib.hid (fun w => num_any w 0)
          clear hx NX
          go_wp2_with fail
          (with_reducible refine HC.out.mono ?_)
          rintro e w7 ⟨rfl, s7, k7⟩
          have HS7 := Lib.hid s7
          replace O4 := Lib.hid (own_kept O4.out k7 (fun b e h => h.2 e))
          clear s7 k7 HC S c1
          have c1 := own_cell O4.out HX4.out
          go_wp2_with fail
          (with_reducible refine (HNum.out w7).mono ?_)
          rintro e w8 ⟨rfl, rfl⟩
          have HH := Lib.hid (HS7.out.has x)
          rw [HNX.out] at HH
          go_wp2_with fail
          (with_reducible refine HH.out.mono ?_)
          rintro e w8 ⟨rfl, rfl⟩
          clear HH HNum c1
          go_wp2_with fail
          exact ⟨⟨i + 1, by omega, by simp, HS7, O4⟩, by simp [intOf]; omega⟩
        · have : N = i := by omega
          subst this
          have hg := I.out.gone n
          rw [HF.out] at hg
          rw [show f.take N = f by rw [← HNf.out]; exact List.take_length] at S
          obtain ⟨M, hM⟩ : ∃ M, cuts L f = M := ⟨_, rfl⟩
          rw [hM] at S hg
          have z1 : dnl M false n = [] := by unfold dnl; rw [if_neg (by rw [hg]; decide)]
          have z2 : fall M n = [] := by unfold fall dnl; rw [if_neg (by rw [hg]; decide)]; rfl
          have z3 : decide (n ∈ upl M n) = false := decide_eq_false (by rw [up_no (by rw [hg]; decide)]; simp)
          have HD := Lib.hid (S.out.downs n)
          rw [z1] at HD
          have Z2 := Lib.hid z2
          have Z3 := Lib.hid z3
          clear z1 z2 z3 hg hM O4
          go_wp2_with fail
          (with_reducible refine HD.out.mono ?_)
          rintro e w7 ⟨A7, c7, rfl, o7, b7, f7⟩
          replace S := Lib.hid (S.out.below b7)
          have HFa := Lib.hid (S.out.fall n)
          rw [Z2.out] at HFa
          clear o7 b7 f7 HD
          go_wp2_with fail
          (with_reducible refine HFa.out.mono ?_)
          rintro e w8 ⟨A8, c8, rfl, o8, b8, f8⟩
          replace S := Lib.hid (S.out.below b8)
          have HUn := Lib.hid (S.out.under n n)
          rw [Z3.out] at HUn
          clear o8 b8 f8 HFa
          go_wp2_with fail
          (with_reducible refine HUn.out.mono ?_)
          rintro e w9 ⟨rfl, b9⟩
          replace S := Lib.hid (S.out.below b9)
          clear b9 HUn
          go_wp2_with fail
          go_ret
          exact ⟨rfl, S.out.2⟩
end Go.Proofs.Ytkmmpagflbnenaa.Kin

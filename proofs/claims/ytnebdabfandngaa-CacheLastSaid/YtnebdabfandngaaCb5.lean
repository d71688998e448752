/- CacheLast: the walk. -/
import Derived.Test.YtnebdabfandngaaCb4
import Derived.StillTailTactics
namespace Go.Proofs.Ytnebdabfandngaa.C
open Go.RowKit Go.Proofs.Ytnebdabfandngaa.Mem
def psL (l : List Cap) (rs : List Int) : List En := (List.range l.length).map fun i => ⟨l.getD i z0, rightZ rs i⟩
theorem psL_len (l : List Cap) (rs : List Int) : (psL l rs).length = l.length := by simp [psL]
theorem psL_at {l : List Cap} {rs : List Int} {i : Nat} {x : Cap} (h : l[i]? = some x) : (psL l rs)[i]? = some ⟨x, rightZ rs i⟩ := by
  have hi := (List.getElem?_eq_some_iff.1 h).1
  unfold psL
  rw [List.getElem?_map, List.getElem?_range hi]
  simp [List.getD_eq_getElem?_getD, h]
theorem homeN_one (knob : Int) (c : Cap) : homeN 1 knob c = 0 := by
  unfold homeN
  exact Int.tmod_one _
theorem back_next {l : List Cap} {rs : List Int} {i : Nat} {x : Cap} (h : l[i]? = some x) : ((psL l rs).take (i + 1)).reverse = ⟨x, rightZ rs i⟩ :: ((psL l rs).take i).reverse := by
  rw [List.take_add_one, psL_at h]
  simp
/-- What was told of the last j puts. -/
structure Seen (W : World) (p ways : Nat) (knob : Int) (L : List En) (ps : List En) (N : Int) (i : Nat) (v13 : Value) (m : Nat) (w : World) : Prop where
  k : Ks W p 1 ways knob L 0 N w
  own : ∃ S pre, w.ownsRow 0 36 3 v13 m (capsC S) ∧ S.length = m ∧ pre.map (·.c) = S ∧ dd [] ps.reverse = pre ++ dd S (ps.take i).reverse
  fresh : ∀ b, v13.ownBlock = some b → W.heap.size ≤ b ∧ b ≠ p
theorem right_still (w : World) (v : Value) (l : List Int) (h : ReadsI w v l) (i : Nat) : Calls Try.prog 18 #[v, .int .i64 i] w fun e w' => e = .returned (.int .i64 (rightZ l i)) ∧ w' = w :=
  (right_any w v l h i).mono (by rintro x w' ⟨rfl, rfl⟩; exact ⟨rfl, rfl⟩)
theorem own_cap {w : World} {base : Nat} {e : TypeId} {size n c : Nat} {A : Option Addr} {xs : List Value} (h : w.ownsRow base e size (.slice A n c) n xs) : n ≤ c ∧ c ≤ 9223372036854775807 := by
  rcases h.2 with ⟨h1, _⟩ | ⟨g, c', cur, h1, _, _, hc', hm, _⟩
  · obtain ⟨rfl, h2, rfl⟩ : A = none ∧ n = 0 ∧ c = 0 := by simpa using h1
    exact ⟨by omega, by omega⟩
  · obtain ⟨rfl, rfl⟩ : A = some ⟨g, 0, none⟩ ∧ c = c' := by simpa using h1
    unfold maxLen at hm
    exact ⟨hc', by omega⟩
theorem Seen.box {W w w' : World} {p ways : Nat} {knob N : Int} {L ps : List En} {i m : Nat} {v13 : Value} (h : Seen W p ways knob L ps N i v13 m w) (hb : Below w.heap.size w w') : Seen W p ways knob L ps N i v13 m w' := by
  obtain ⟨S, pre, h1, h2⟩ := h.own
  exact ⟨h.k.box hb, ⟨S, pre, own_keeps h1 (Kept.of_below hb), h2⟩, h.fresh⟩
theorem Ks.kept {S : Nat → Prop} {W w w' : World} {p sets ways : Nat} {knob ep N : Int} {L : List En} (h : Ks W p sets ways knob L ep N w) (hk : Kept S w w') (hp : ¬ S p) (hS : ∀ b, S b → W.heap.size ≤ b) : Ks W p sets ways knob L ep N w' := by
  obtain ⟨⟨y, n, k⟩, h2, h3⟩ := h
  exact ⟨⟨y, n, k.kept hk hp⟩, h2.trans (hk.below hS h2.size), h3⟩
theorem Ks.keep {W w : World} {p sets ways : Nat} {knob ep N : Int} {L : List En} (h : Ks W p sets ways knob L ep N w) (hw : ways ≤ 4) (hs : sets ≤ 16) (c : Cap) {o : Option Int} (ho : look L c = o) :
    Calls Try.prog 10 #[.pointer (some ⟨p, 0, none⟩), capV c] w fun e w' => e = .returned (lookV o) ∧ Ks W p sets ways knob L ep N w' ∧ Kept (fun b => b = p) w w' := by
  subst ho
  obtain ⟨⟨y, n, k⟩, h2, h3⟩ := h
  refine (k_get w p sets ways knob L ep N y n k hw hs c).mono ?_
  rintro e w' ⟨rfl, g, hk⟩
  exact ⟨rfl, ⟨⟨_, _, g⟩, h2.trans (hk.below (fun b hb => by rw [hb]; exact h3) h2.size), h3⟩, hk⟩
set_option maxHeartbeats 8000000 in
set_option maxRecDepth 100000 in
theorem law_last (w : World) (a0 k0 : Int) (v u : Value) (l : List Cap) (rs : List Int) (hv : ReadsCaps w v l) (hu : ReadsI w u rs) : Calls Try.prog 4 #[.int .i64 a0, .int .i64 k0, v, u] w fun e w' => e = .returned (.bool true) ∧ Below w.heap.size w w' := by
  obtain ⟨A, cl0, rfl, hlc, hcm, hl47, hA⟩ := hv
  unfold maxLen at hcm
  obtain ⟨n, hn⟩ : ∃ n, l.length = n := ⟨_, rfl⟩
  have HA := Lib.hid hA
  rw [hn] at HA hlc hl47 ⊢
  have HN := Lib.hid hn
  have hn47 : n ≤ 140737488355328 := by omega
  have HU := Lib.hid hu
  obtain ⟨q, hq, q1, q2⟩ := rest_of a0 4 (by decide)
  obtain ⟨t, ht, t1, t2⟩ := rest_of k0 65 (by decide)
  have hqs : Hid (a0.tmod 4 = q) := hq
  have hts : Hid (k0.tmod 65 = t) := ht
  obtain ⟨a, ha⟩ : ∃ a : Nat, q % 4 = (a : Int) := ⟨(q % 4).toNat, by omega⟩
  obtain ⟨knob, hknob⟩ : ∃ knob : Int, t % 65 = knob := ⟨_, rfl⟩
  have ha2 : (q + 4) % 4 = (a : Int) := by omega
  have hknob2 : (t + 65) % 65 = knob := by omega
  have ha4 : a < 4 := by omega
  have hkn0 : 0 ≤ knob := by omega
  have hkn1 : knob < 65 := by omega
  have H1 : Hid (Calls Try.prog 6 #[.int .i64 1, .int .i64 (1 + (a : Int)), .int .i64 knob] w fun e w' => ∃ p, e = .returned (.tuple #[.pointer (some ⟨p, 0, none⟩), .int .i64 0]) ∧ KAt w' p 1 (a + 1) knob [] 0 0 0 0 ∧ Below w.heap.size w w' ∧ w.heap.size ≤ p) := by
    have := k_new w 1 (a + 1) knob (by decide) (by omega) (by omega) hkn0 (by omega)
    rw [show ((a + 1 : Nat) : Int) = 1 + (a : Int) by omega] at this
    exact this
  clear hA hn hq ht hu
  have hq2 := hqs.out
  have ht2 := hts.out
  go_enter Try.func4, Try.ntmps4
  go_wp2_with fail
  refine H1.out.mono ?_
  rintro e w1 ⟨p, rfl, g1, b1, hp⟩
  have K1 : Hid (Ks w p 1 (a + 1) knob [] 0 0 w1) := ⟨⟨0, 0, g1⟩, b1, hp⟩
  have hpl := g1.lt
  clear g1 b1 H1
  go_wp2_with (first | (go_at_call 8; (with_reducible refine (num_any _ _).mono ?_); rintro e w3 ⟨rfl, rfl⟩) | (go_at_call 9; (with_reducible refine (alive_any _).mono ?_); rintro e w3 ⟨rfl, b3⟩; have K3 := Lib.hid (K1.out.box b3); clear b3) | fail)
  try rw [ha2]
  try rw [hknob2]
  have HY : Hid (∀ w' : World, Below w.heap.size w w' → ∀ (g o i : Nat) (x : Cap), A = some ⟨g, o, none⟩ → l[i]? = some x → (∀ i x, l[i]? = some x → ∀ j u, (capL x)[j]? = some u → w.cell? ⟨g, o + i * 3 + j, none⟩ = some u) → w'.cell? ⟨g, o + i * 3, none⟩ = some (.int .i64 x.obj) ∧ w'.cell? ⟨g, o + i * 3 + 1, none⟩ = some (.int .u64 x.hi) ∧ w'.cell? ⟨g, o + i * 3 + 2, none⟩ = some (.int .u64 x.lo)) := fun w' hb g o i x _ hx hc => by
    have yy : ∀ (j : Nat) (u : Value), (capL x)[j]? = some u → w'.cell? ⟨g, o + i * 3 + j, none⟩ = some u := fun j u hu => by
      have := hc i x hx j u hu
      exact (hb.cell (World.block_lt_of_cell? w _ this)).trans this
    exact ⟨yy 0 _ rfl, yy 1 _ rfl, yy 2 _ rfl⟩
  clear K1
  go_loopw [12] (fun v12 wr => ∃ (i : Nat) (L : List En), i ≤ n ∧ v12 = .int .i64 i ∧ Hid (Ks w p 1 (a + 1) knob L 0 i wr) ∧ Hid (L.reverse = (dd [] ((psL l rs).take i).reverse).take (a + 1))) (fun v12 _ => n - (intOf v12).toNat)
  case atStart => exact ⟨0, [], Nat.zero_le _, rfl, K3, (show ([] : List En).reverse = (dd [] ((psL l rs).take 0).reverse).take (a + 1) by simp [dd])⟩
  case round =>
    clear K3
    obtain ⟨i, L, hi, rfl, HK, HL⟩ := hrel
    by_cases hlt : i < n
    · obtain ⟨x, hx⟩ : ∃ x, l[i]? = some x := ⟨_, List.getElem?_eq_getElem (by rw [HN.out]; exact hlt)⟩
      obtain ⟨g, o, rfl, hcell⟩ := HA.out (by omega)
      obtain ⟨y0, y1, y2⟩ := HY.out wr HK.out.below g o i x rfl hx hcell
      have HKd : Hid (Ks w p 1 (a + 1) knob L 0 i wr.drew) := HK.out.box (Below.refl _ wr).drew
      have HP := Lib.hid (HKd.out.put (by omega) (by omega) (by decide) (by omega) x (rightZ rs i))
      have HRI := Lib.hid (right_still wr.drew u rs (HU.out.below (HKd.out.below)) i)
      have HL2 : Hid ((putL 1 (a + 1) knob L x (rightZ rs i)).reverse = (dd [] ((psL l rs).take (i + 1)).reverse).take (a + 1)) := by
        rw [putL, if_neg (by decide), back_next hx]
        exact put_back (by omega) (fun c => homeN_one knob c) HL.out x (rightZ rs i)
      clear hx hcell
      go_wp2_with fail
      go_still_tail 8, (by kernel_rfl)
      still_call HRI.out
      refine wpStill_nil ?_
      change wpList _ _ _ _ _ wr.drew
      go_wp2_with fail
      refine HP.out.mono ?_
      rintro e w5 ⟨rfl, g5⟩
      have K5 := Lib.hid g5
      clear g5 HP HRI HKd
      go_wp2_with fail
      exact ⟨⟨i + 1, _, by omega, by simp, K5, HL2⟩, by simp [intOf]; omega⟩
    · have : i = n := by omega
      subst this
      obtain ⟨ps, hps⟩ : ∃ ps, psL l rs = ps := ⟨_, rfl⟩
      have hfull : ps.take i = ps := List.take_of_length_le (by rw [← hps, psL_len, HN.out]; exact Nat.le_refl _)
      have HLF : Hid (L.reverse = (dd [] ps.reverse).take (a + 1)) := by
        have := HL.out
        rw [hps, hfull] at this
        exact this
      have HPS := Lib.hid hps
      have S0 : Hid (Seen w p (a + 1) knob L ps i i (.slice none 0 0) 0 wr) := ⟨HK.out, ⟨[], [], by simpa [capsC] using World.ownsRow_nil _ _ _ _, rfl, rfl, by rw [hfull]; rfl⟩, fun b hb => by simp [Value.ownBlock] at hb⟩
      clear HK HL hps hfull
      go_wp2_with fail
      go_loopw [13, 14] (fun v13 v14 w5 => ∃ (j m c : Nat) (A3 : Option Addr), j ≤ i ∧ v14 = .int .i64 ((j : Int) - 1) ∧ v13 = .slice A3 m c ∧ m ≤ i - j ∧ Hid (Seen w p (a + 1) knob L ps i j (.slice A3 m c) m w5)) (fun _ v14 _ => (intOf v14 + 1).toNat)
      case atStart => exact ⟨i, 0, 0, none, Nat.le_refl _, rfl, rfl, Nat.zero_le _, S0⟩
      case round =>
        clear S0
        obtain ⟨j, m, c3, A3, hj, rfl, rfl, hm, HS⟩ := hrel
        rcases Nat.eq_zero_or_pos j with rfl | hj0
        · have HBL := Lib.hid HS.out.k.below
          clear HS
          go_wp2_with fail
          go_ret
          exact ⟨rfl, HBL.out⟩
        · obtain ⟨jj, rfl⟩ : ∃ jj, j = jj + 1 := ⟨j - 1, by omega⟩
          have hjj : ((jj + 1 : Nat) : Int) - 1 = (jj : Int) := by omega
          rw [hjj]
          obtain ⟨x, hx⟩ : ∃ x, l[jj]? = some x := ⟨_, List.getElem?_eq_getElem (by rw [HN.out]; omega)⟩
          obtain ⟨g, o, rfl, hcell⟩ := HA.out (by omega)
          obtain ⟨y0, y1, y2⟩ := HY.out wr HS.out.k.below g o jj x rfl hx hcell
          have hjn : (jj : Int) < (i : Int) := by omega
          have hj9 : (0 : Int) ≤ (jj : Int) := by omega
          obtain ⟨S, pre, hown, hSl, hpre, hdd⟩ := HS.out.own
          have hbk := back_next (l := l) (rs := rs) hx
          rw [HPS.out] at hbk
          rw [hbk] at hdd
          have hcap := own_cap hown
          obtain ⟨hcap1, hcap2⟩ := hcap
          have HAM := Lib.hid (among_any wr A3 m c3 S hSl hown hcap2 hcap1 x)
          have HDD := Lib.hid hdd
          have HPRE := Lib.hid hpre
          have HSL := Lib.hid hSl
          have HOW := Lib.hid hown
          have HXX := Lib.hid hx
          have HCL := Lib.hid hcell
          obtain ⟨B, hB⟩ : ∃ B, amongB S x = B := ⟨_, rfl⟩
          rw [hB] at HAM
          have HBB := Lib.hid hB
          clear hown hSl hpre hdd hbk hx hcell hB
          cases B
          · have hnx : Hid (x ∉ S) := by
              have := HBB.out
              unfold amongB at this
              exact of_decide_eq_false this
            go_wp2_with fail
            refine HAM.out.mono ?_
            rintro e w5 ⟨rfl, b5⟩
            have HK5 := Lib.hid (HS.out.k.box b5)
            have HO5 := Lib.hid (own_keeps HOW.out (Kept.of_below b5))
            obtain ⟨z0, z1, z2⟩ := HY.out w5 HK5.out.below g o jj x rfl HXX.out HCL.out
            clear b5 HAM y0 y1 y2
            go_wp2_with (at_builtin; refine list_app2 rfl (.tmp 70) (.tmp 75) 49 rfl 36 0 _ 3 24 Try.underlying49 info36 rfl (by decide) (by decide) (.slice A3 m c3) m _ rfl (own_keeps HO5.out ((Kept.refl _ _).alloc _)) (some ⟨w5.heap.size, 0, none⟩) 1 1 (capL x) rfl rfl (holds_new _ _ _ _ _ rfl) (by simp [capL, Value.oneCell']) (by omega) (Nat.zero_le _) ?_; intro v9 w9 hown9 hwent9; obtain ⟨A9, c9, rfl, _⟩ := own_slice hown9; have HOWN9 := Lib.hid hown9; have HWENT9 := Lib.hid hwent9; have HK9 := Lib.hid ((HK5.out.box ((Below.refl _ w5).alloc (Nat.le_refl _) _)).kept hwent9.kept (fun e => (HS.out.fresh p e).2 rfl) (fun b e => (HS.out.fresh b e).1)); obtain ⟨x0, x1, x2⟩ := HY.out w9 HK9.out.below g o jj x rfl HXX.out HCL.out; clear hown9 hwent9)
            have hlk : look L x = if S.length + 1 ≤ a + 1 then some (rightZ rs jj) else none := look_back (x := ⟨x, rightZ rs jj⟩) HLF.out HDD.out HPRE.out hnx.out
            rw [HSL.out] at hlk
            have hsz5 := HK5.out.below.size
            have HFR9 : Hid (∀ b, (Value.slice A9 (m + 1) c9).ownBlock = some b → w.heap.size ≤ b ∧ b ≠ p) := fun b hb => by
              rcases HWENT9.out.block with e | e
              · exact HS.out.fresh b (e ▸ hb)
              · have e2 := Option.some.inj (e.symm.trans hb)
                have hpl5 : p < w5.heap.size := by obtain ⟨⟨_, _, kk⟩, _, _⟩ := HK5.out; exact kk.lt
                simp at e2
                omega
            have HOWN10 : Hid (∃ S' pre', w9.ownsRow 0 36 3 (.slice A9 (m + 1) c9) (m + 1) (capsC S') ∧ S'.length = m + 1 ∧ pre'.map (·.c) = S' ∧ dd [] ps.reverse = pre' ++ dd S' (ps.take jj).reverse) := by
              refine ⟨S ++ [x], pre ++ [⟨x, rightZ rs jj⟩], ?_, by rw [List.length_append, HSL.out]; rfl, by rw [List.map_append, HPRE.out]; rfl, ?_⟩
              · have : capsC (S ++ [x]) = capsC S ++ capL x := by simp [capsC, List.flatMap_append]
                rw [this]
                exact HOWN9.out
              · rw [HDD.out, dd, if_neg hnx.out, List.append_assoc]
                rfl
            clear HOWN9 HWENT9 HO5
            by_cases hle : m + 1 ≤ a + 1
            · rw [if_pos hle] at hlk
              have HG := Lib.hid (HK9.out.keep (by omega) (by decide) x hlk)
              have d1 : decide ((m : Int) + 1 ≤ 1 + (a : Int)) = true := decide_eq_true (by omega)
              have d2 : decide (((m + 1 : Nat) : Int) ≤ 1 + (a : Int)) = true := decide_eq_true (by omega)
              clear hlk HK9
              go_wp2_with fail
              refine HG.out.mono ?_
              rintro e w6 ⟨rfl, g6, k6⟩
              have HR6 := Lib.hid (right_any w6 u rs (HU.out.below g6.below) jj)
              have S6 : Hid (Seen w p (a + 1) knob L ps i jj (.slice A9 (m + 1) c9) (m + 1) w6) := ⟨g6, by
                obtain ⟨S', pre', h1, h2⟩ := HOWN10.out
                exact ⟨S', pre', own_kept h1 k6 (fun b hb e => (HFR9.out b hb).2 e), h2⟩, HFR9.out⟩
              clear g6 k6 HG HOWN10 x0 x1 x2
              go_wp2_with (first | (go_at_call 18; (with_reducible refine HR6.out.mono ?_); rintro e w7 ⟨rfl, rfl⟩) | fail)
              exact ⟨⟨jj, m + 1, c9, A9, by omega, by simp, rfl, by omega, S6⟩, by simp [intOf]⟩
            · rw [if_neg hle] at hlk
              have HG := Lib.hid (HK9.out.keep (by omega) (by decide) x hlk)
              have d1 : decide ((m : Int) + 1 ≤ 1 + (a : Int)) = false := decide_eq_false (by omega)
              have d2 : decide (((m + 1 : Nat) : Int) ≤ 1 + (a : Int)) = false := decide_eq_false (by omega)
              clear hlk HK9
              go_wp2_with fail
              refine HG.out.mono ?_
              rintro e w6 ⟨rfl, g6, k6⟩
              have S6 : Hid (Seen w p (a + 1) knob L ps i jj (.slice A9 (m + 1) c9) (m + 1) w6) := ⟨g6, by
                obtain ⟨S', pre', h1, h2⟩ := HOWN10.out
                exact ⟨S', pre', own_kept h1 k6 (fun b hb e => (HFR9.out b hb).2 e), h2⟩, HFR9.out⟩
              clear g6 k6 HG HOWN10 x0 x1 x2
              go_wp2_with fail
              exact ⟨⟨jj, m + 1, c9, A9, by omega, by simp, rfl, by omega, S6⟩, by simp [intOf]⟩
          · have hnx := Lib.hid (show x ∈ S by
              have := HBB.out
              unfold amongB at this
              exact of_decide_eq_true this)
            go_wp2_with fail
            refine HAM.out.mono ?_
            rintro e w5 ⟨rfl, b5⟩
            have S6 : Hid (Seen w p (a + 1) knob L ps i jj (.slice A3 m c3) m w5) := ⟨HS.out.k.box b5, ⟨S, pre, own_keeps HOW.out (Kept.of_below b5), HSL.out, HPRE.out, by rw [HDD.out, dd, if_pos hnx.out]⟩, HS.out.fresh⟩
            clear b5 HAM y0 y1 y2
            go_wp2_with fail
            exact ⟨⟨jj, m, c3, A3, by omega, by simp, rfl, by omega, S6⟩, by simp [intOf]⟩
end Go.Proofs.Ytnebdabfandngaa.C

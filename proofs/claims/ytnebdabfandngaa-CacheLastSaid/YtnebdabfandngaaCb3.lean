/- CacheForgets: the walk. -/
import Derived.Test.YtnebdabfandngaaCb2
import Derived.Test.YtnebdabfandngaaPlain2
namespace Go.Proofs.Ytnebdabfandngaa.C
open Go.RowKit Go.Proofs.Ytnebdabfandngaa.Mem
theorem KAt.uniq {w : World} {p sets ways : Nat} {knob epoch N hits misses : Int} {L : List En} (h : KAt w p sets ways knob L epoch N hits misses) : Uniq L := by
  obtain ⟨pl, puts, Q, h⟩ := h
  rw [← h.lst']
  exact h.inv.uniqL
def ReadsCaps (w : World) (v : Value) (l : List Cap) : Prop :=
  ∃ A c, v = .slice A l.length c ∧ l.length ≤ c ∧ c ≤ maxLen ∧ l.length * 24 ≤ 140737488351232 ∧ (0 < l.length → ∃ g o, A = some ⟨g, o, none⟩ ∧ ∀ i x, l[i]? = some x → ∀ j u, (capL x)[j]? = some u → w.cell? ⟨g, o + i * 3 + j, none⟩ = some u)
/-- The rest of a number. -/
theorem rest_of (n : Int) (b : Int) (hb : 0 < b) : ∃ q : Int, n.tmod b = q ∧ -b < q ∧ q < b := ⟨_, rfl, Int.lt_tmod_of_pos n hb, Int.tmod_lt_of_pos n hb⟩
structure Ks (W : World) (p sets ways : Nat) (knob : Int) (L : List En) (ep N : Int) (w : World) : Prop where
  k : ∃ y n, KAt w p sets ways knob L ep N y n
  below : Below W.heap.size W w
  hp : W.heap.size ≤ p
theorem Ks.box {W w w' : World} {p sets ways : Nat} {knob ep N : Int} {L : List En} (h : Ks W p sets ways knob L ep N w) (hb : Below w.heap.size w w') : Ks W p sets ways knob L ep N w' := by
  obtain ⟨⟨y, n, k⟩, h2, h3⟩ := h
  exact ⟨⟨y, n, k.below hb⟩, h2.trans (hb.mono h2.size), h3⟩
theorem Ks.put {W w : World} {p sets ways : Nat} {knob ep N : Int} {L : List En} (h : Ks W p sets ways knob L ep N w) (hw : ways ≤ 4) (hw0 : 0 < ways) (hs : sets ≤ 16) (hN : N < 4000000000000000000) (c : Cap) (r : Int) :
    Calls Try.prog 12 #[.pointer (some ⟨p, 0, none⟩), capV c, .int .i64 r] w fun e w' => e = .returned (.tuple #[]) ∧ Ks W p sets ways knob (putL sets ways knob L c r) ep (N + 1) w' := by
  obtain ⟨⟨y, n, k⟩, h2, h3⟩ := h
  refine (k_put w p sets ways knob L ep N y n k hw hw0 hs hN c r).mono ?_
  rintro e w' ⟨rfl, g, hk⟩
  exact ⟨rfl, ⟨y, n, g⟩, h2.trans (hk.below (fun b hb => by rw [hb]; exact h3) h2.size), h3⟩
theorem Ks.get {W w : World} {p sets ways : Nat} {knob ep N : Int} {L : List En} (h : Ks W p sets ways knob L ep N w) (hw : ways ≤ 4) (hs : sets ≤ 16) (c : Cap) {o : Option Int} (ho : look L c = o) :
    Calls Try.prog 10 #[.pointer (some ⟨p, 0, none⟩), capV c] w fun e w' => e = .returned (lookV o) ∧ Ks W p sets ways knob L ep N w' := by
  subst ho
  obtain ⟨⟨y, n, k⟩, h2, h3⟩ := h
  refine (k_get w p sets ways knob L ep N y n k hw hs c).mono ?_
  rintro e w' ⟨rfl, g, hk⟩
  exact ⟨rfl, ⟨_, _, g⟩, h2.trans (hk.below (fun b hb => by rw [hb]; exact h3) h2.size), h3⟩
theorem Ks.turn {W w : World} {p sets ways : Nat} {knob ep N : Int} {L : List En} (h : Ks W p sets ways knob L ep N w) :
    Calls Try.prog 14 #[.pointer (some ⟨p, 0, none⟩)] w fun e w' => e = .returned (.tuple #[]) ∧ Ks W p sets ways knob [] (if ep < 255 then ep + 1 else 0) N w' := by
  obtain ⟨⟨y, n, k⟩, h2, h3⟩ := h
  refine (k_turn w p sets ways knob L ep N y n k).mono ?_
  rintro e w' ⟨rfl, g, hk⟩
  exact ⟨rfl, ⟨_, _, g⟩, h2.trans (hk.below (fun b hb => by rw [hb]; exact h3) h2.size), h3⟩
theorem Ks.empty {W w : World} {p ways : Nat} {knob ep N : Int} {L : List En} (h : Ks W p 0 ways knob L ep N w) : L = [] := by
  obtain ⟨⟨y, n, k⟩, h2, h3⟩ := h
  exact k.none
theorem Ks.uniq {W w : World} {p sets ways : Nat} {knob ep N : Int} {L : List En} (h : Ks W p sets ways knob L ep N w) : Uniq L := by
  obtain ⟨⟨y, n, k⟩, h2, h3⟩ := h
  exact k.uniq
theorem Ks.epoch {W w : World} {p sets ways : Nat} {knob ep N : Int} {L : List En} (h : Ks W p sets ways knob L ep N w) : Calls Try.prog 17 #[.pointer (some ⟨p, 0, none⟩)] w fun e w' => e = .returned (.int .i64 ep) ∧ w = w' := by
  obtain ⟨⟨y, n, k⟩, h2, h3⟩ := h
  exact k_epoch w p sets ways knob L ep N y n k
theorem ep_next {j : Nat} : (if ((j % 256 : Nat) : Int) < 255 then ((j % 256 : Nat) : Int) + 1 else 0) = (((j + 1) % 256 : Nat) : Int) := by split <;> omega
set_option maxHeartbeats 8000000 in
set_option maxRecDepth 100000 in
theorem law_forgets (w : World) (s0 tn nn : Int) (v : Value) (l : List Cap) (hv : ReadsCaps w v l) : Calls Try.prog 5 #[.int .i64 s0, v, .int .i64 tn, .int .i64 nn] w fun e w' => e = .returned (.bool true) ∧ Below w.heap.size w w' := by
  obtain ⟨A, cl0, rfl, hlc, hcm, hl47, hA⟩ := hv
  unfold maxLen at hcm
  obtain ⟨n, hn⟩ : ∃ n, l.length = n := ⟨_, rfl⟩
  have HA := Lib.hid hA
  rw [hn] at HA hlc hl47 ⊢
  have HN := Lib.hid hn
  have hn47 : n ≤ 140737488355328 := by omega
  obtain ⟨q, hq, q1, q2⟩ := rest_of s0 17 (by decide)
  obtain ⟨u, hu, u1, u2⟩ := rest_of tn 700 (by decide)
  have hqs : Hid (s0.tmod 17 = q) := hq
  have hus : Hid (tn.tmod 700 = u) := hu
  obtain ⟨sets, hsets⟩ : ∃ sets : Nat, q % 17 = (sets : Int) := ⟨(q % 17).toNat, by omega⟩
  obtain ⟨turns, hturns⟩ : ∃ turns : Nat, u % 700 = (turns : Int) := ⟨(u % 700).toNat, by omega⟩
  have hsets2 : (q + 17) % 17 = (sets : Int) := by omega
  have hturns2 : (u + 700) % 700 = (turns : Int) := by omega
  have hs16 : sets ≤ 16 := by omega
  have ht7 : turns < 700 := by omega
  have H1 := Lib.hid (k_new w sets 4 64 hs16 (by decide) (by decide) (by decide) (by decide))
  clear hA hn hq hu
  have hq2 := hqs.out
  have hu2 := hus.out
  go_enter Try.func5, Try.ntmps5
  go_wp2_with fail
  refine H1.out.mono ?_
  rintro e w1 ⟨p, rfl, g1, b1, hp⟩
  have K1 : Hid (Ks w p sets 4 64 [] 0 0 w1) := ⟨⟨0, 0, g1⟩, b1, hp⟩
  have hpl := g1.lt
  clear g1 b1 H1
  go_wp2_with (first | (go_at_call 8; (with_reducible refine (num_any _ _).mono ?_); rintro e w3 ⟨rfl, rfl⟩) | (go_at_call 9; (with_reducible refine (alive_any _).mono ?_); rintro e w3 ⟨rfl, b3⟩; have K3 := Lib.hid (K1.out.box b3); clear b3) | fail)
  have HY : Hid (∀ w' : World, Below w.heap.size w w' → ∀ (g o i : Nat) (x : Cap), A = some ⟨g, o, none⟩ → l[i]? = some x → (∀ i x, l[i]? = some x → ∀ j u, (capL x)[j]? = some u → w.cell? ⟨g, o + i * 3 + j, none⟩ = some u) → w'.cell? ⟨g, o + i * 3, none⟩ = some (.int .i64 x.obj) ∧ w'.cell? ⟨g, o + i * 3 + 1, none⟩ = some (.int .u64 x.hi) ∧ w'.cell? ⟨g, o + i * 3 + 2, none⟩ = some (.int .u64 x.lo)) := fun w' hb g o i x _ hx hc => by
    have yy : ∀ (j : Nat) (u : Value), (capL x)[j]? = some u → w'.cell? ⟨g, o + i * 3 + j, none⟩ = some u := fun j u hu => by
      have := hc i x hx j u hu
      exact (hb.cell (World.block_lt_of_cell? w _ this)).trans this
    exact ⟨yy 0 _ rfl, yy 1 _ rfl, yy 2 _ rfl⟩
  clear K1
  go_loopw [11] (fun v11 wr => ∃ (i : Nat) (L : List En), i ≤ n ∧ v11 = .int .i64 i ∧ Hid (Ks w p sets 4 64 L 0 i wr)) (fun v11 _ => n - (intOf v11).toNat)
  case atStart => exact ⟨0, [], Nat.zero_le _, rfl, K3⟩
  case round =>
    clear K3
    obtain ⟨i, L, hi, rfl, HK⟩ := hrel
    by_cases hlt : i < n
    · obtain ⟨x, hx⟩ : ∃ x, l[i]? = some x := ⟨_, List.getElem?_eq_getElem (by rw [HN.out]; exact hlt)⟩
      obtain ⟨g, o, rfl, hcell⟩ := HA.out (by omega)
      obtain ⟨y0, y1, y2⟩ := HY.out wr HK.out.below g o i x rfl hx hcell
      have HP := Lib.hid (HK.out.put (by decide) (by decide) hs16 (by omega) x 3)
      clear hx hcell
      go_wp2_with fail
      refine HP.out.mono ?_
      rintro e w5 ⟨rfl, g5⟩
      have K5 := Lib.hid g5
      clear g5 HP
      go_wp2_with fail
      exact ⟨⟨i + 1, _, by omega, by simp, K5⟩, by simp [intOf]; omega⟩
    · have : i = n := by omega
      subst this
      have K0 : Hid (∃ L2, Ks w p sets 4 64 L2 ((0 % 256 : Nat) : Int) i wr ∧ (0 < 0 → L2 = [])) := ⟨L, HK.out, fun h => absurd h (by decide)⟩
      clear HK
      go_wp2_with fail
      rw [hturns2]
      go_loopw [13] (fun v13 w5 => ∃ j : Nat, j ≤ turns + 1 ∧ v13 = .int .i64 j ∧ Hid (∃ L2, Ks w p sets 4 64 L2 ((j % 256 : Nat) : Int) i w5 ∧ (0 < j → L2 = []))) (fun v13 _ => turns + 1 - (intOf v13).toNat)
      case atStart => exact ⟨0, Nat.zero_le _, rfl, K0⟩
      case round =>
        clear K0
        obtain ⟨j, hj, rfl, HK⟩ := hrel
        obtain ⟨L2, HK2, hL2⟩ := HK.out
        by_cases hlt2 : j < turns + 1
        · have hlt3 : (j : Int) < 1 + (turns : Int) := by omega
          have HT := HK2.turn
          rw [ep_next] at HT
          have HT2 := Lib.hid HT
          clear HT HK HK2 hL2
          go_wp2_with fail
          refine HT2.out.mono ?_
          rintro e w5 ⟨rfl, g5⟩
          have K5 : Hid (∃ L2, Ks w p sets 4 64 L2 (((j + 1) % 256 : Nat) : Int) i w5 ∧ (0 < j + 1 → L2 = [])) := ⟨_, g5, fun _ => rfl⟩
          clear g5 HT2
          go_wp2_with fail
          exact ⟨⟨j + 1, by omega, by simp, K5⟩, by simp [intOf]; omega⟩
        · have hjt : j = turns + 1 := by omega
          subst hjt
          have hL := hL2 (by omega)
          subst hL
          have hmod : (1 + (turns : Int)) % 256 = (((turns + 1) % 256 : Nat) : Int) := by omega
          obtain ⟨ep, hep⟩ : ∃ ep : Int, (((turns + 1) % 256 : Nat) : Int) = ep := ⟨_, rfl⟩
          rw [hep] at HK2 hmod
          have K6 := Lib.hid HK2
          have HE := Lib.hid HK2.epoch
          have hnlt : ¬ ((turns : Int) + 1 < 1 + (turns : Int)) := by omega
          clear HK HK2 hL2 hep hlt2
          go_wp2_with (first | (go_at_call 17; (with_reducible refine HE.out.mono ?_); rintro e w6 ⟨rfl, rfl⟩) | fail)
          have K7 : Hid (∃ M, Ks w p sets 4 64 [] ep M wr ∧ M = (i : Int)) := ⟨_, K6.out, rfl⟩
          clear K6 HE
          try rw [hmod]
          go_loopw [14] (fun v14 w5 => ∃ j : Nat, j ≤ i ∧ v14 = .int .i64 j ∧ Hid (∃ M, Ks w p sets 4 64 [] ep M w5 ∧ M = (i : Int))) (fun v14 _ => i - (intOf v14).toNat)
          case atStart => exact ⟨0, Nat.zero_le _, rfl, K7⟩
          case round =>
            clear K7
            obtain ⟨j, hj, rfl, HK⟩ := hrel
            obtain ⟨M, HK2, hM⟩ := HK.out
            subst hM
            by_cases hlt3 : j < i
            · obtain ⟨x, hx⟩ : ∃ x, l[j]? = some x := ⟨_, List.getElem?_eq_getElem (by rw [HN.out]; exact hlt3)⟩
              obtain ⟨g, o, rfl, hcell⟩ := HA.out (by omega)
              obtain ⟨y0, y1, y2⟩ := HY.out wr HK2.below g o j x rfl hx hcell
              have HP := Lib.hid (HK2.get (by decide) hs16 x (o := none) rfl)
              clear hx hcell HK HK2
              go_wp2_with fail
              refine HP.out.mono ?_
              rintro e w5 ⟨rfl, g5⟩
              have K5 : Hid (∃ M, Ks w p sets 4 64 [] ep M w5 ∧ M = (i : Int)) := ⟨_, g5, rfl⟩
              clear g5 HP
              go_wp2_with fail
              exact ⟨⟨j + 1, by omega, by simp, K5⟩, by simp [intOf]; omega⟩
            · have hji : j = i := by omega
              subst hji
              have K8 : Hid (∃ L3 M, Ks w p sets 4 64 L3 ep M wr ∧ M = (j : Int) + ((0 : Nat) : Int)) := ⟨_, _, HK2, by simp⟩
              clear HK HK2
              go_wp2_with fail
              go_loopw [17] (fun v17 w5 => ∃ m : Nat, m ≤ j ∧ v17 = .int .i64 m ∧ Hid (∃ L3 M, Ks w p sets 4 64 L3 ep M w5 ∧ M = (j : Int) + (m : Int))) (fun v17 _ => j - (intOf v17).toNat)
              case atStart => exact ⟨0, Nat.zero_le _, rfl, K8⟩
              case round =>
                clear K8
                obtain ⟨m, hm, rfl, HK⟩ := hrel
                obtain ⟨L3, M, HK2, hM⟩ := HK.out
                subst hM
                by_cases hlt4 : m < j
                · obtain ⟨x, hx⟩ : ∃ x, l[m]? = some x := ⟨_, List.getElem?_eq_getElem (by rw [HN.out]; exact hlt4)⟩
                  obtain ⟨g, o, rfl, hcell⟩ := HA.out (by omega)
                  obtain ⟨y0, y1, y2⟩ := HY.out wr HK2.below g o m x rfl hx hcell
                  have HP := Lib.hid (HK2.put (by decide) (by decide) hs16 (by omega) x nn)
                  have HUQ := Lib.hid HK2.uniq
                  have HCL := Lib.hid hcell
                  have HXX := Lib.hid hx
                  have HEM : Hid (sets = 0 → L3 = []) := fun h0 => by subst h0; exact HK2.empty
                  clear hx hcell HK HK2
                  go_wp2_with fail
                  refine HP.out.mono ?_
                  rintro e w5 ⟨rfl, g5⟩
                  obtain ⟨z0, z1, z2⟩ := HY.out w5 g5.below g o m x rfl HXX.out HCL.out
                  rcases Nat.eq_zero_or_pos sets with hs0 | hs0
                  · have hlk : look (putL sets 4 64 L3 x nn) x = none := by
                      rw [putL, if_pos hs0, HEM.out hs0]
                      rfl
                    have HG := Lib.hid (g5.get (by decide) hs16 x hlk)
                    have hd1 : decide (0 < sets) = false := decide_eq_false (by omega)
                    have hd2 : decide ((0 : Int) < (sets : Int)) = false := decide_eq_false (by omega)
                    have HS0 := Lib.hid hs0
                    clear hs0
                    clear g5 HP hlk y0 y1 y2
                    go_wp2_with fail
                    refine HG.out.mono ?_
                    rintro e w6 ⟨rfl, g6⟩
                    have K9 : Hid (∃ L3 M, Ks w p sets 4 64 L3 ep M w6 ∧ M = (j : Int) + ((m + 1 : Nat) : Int)) := ⟨_, _, g6, by omega⟩
                    clear g6 HG
                    go_wp2_with fail
                    exact ⟨⟨m + 1, by omega, by simp, K9⟩, by simp [intOf]; omega⟩
                  · have hlk : look (putL sets 4 64 L3 x nn) x = some nn := by
                      rw [putL, if_neg (by omega)]
                      exact look_put HUQ.out x nn
                    have HG := Lib.hid (g5.get (by decide) hs16 x hlk)
                    clear g5 HP hlk y0 y1 y2
                    go_wp2_with fail
                    refine HG.out.mono ?_
                    rintro e w6 ⟨rfl, g6⟩
                    have K9 : Hid (∃ L3 M, Ks w p sets 4 64 L3 ep M w6 ∧ M = (j : Int) + ((m + 1 : Nat) : Int)) := ⟨_, _, g6, by omega⟩
                    clear g6 HG
                    go_wp2_with fail
                    exact ⟨⟨m + 1, by omega, by simp, K9⟩, by simp [intOf]; omega⟩
                · have hmj : m = j := by omega
                  subst hmj
                  have HBL := Lib.hid HK2.below
                  clear HK HK2
                  go_wp2_with fail
                  go_ret
                  exact ⟨rfl, HBL.out⟩
end Go.Proofs.Ytnebdabfandngaa.C

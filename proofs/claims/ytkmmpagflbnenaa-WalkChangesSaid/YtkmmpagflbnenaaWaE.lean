/- The document's Up, Fall, Under. Own text; Ytkmmpagflbnenaa and the numbers between @..@ are the seat's. -/
import Derived.Test.YtkmmpagflbnenaaWaD
namespace Go.Proofs.Ytkmmpagflbnenaa.Kin
open Go.RowKit Go.Proofs.Ytkmmpagflbnenaa.Mem
set_option linter.unusedVariables false
theorem app_fin {w w3 w6 : World} {A3 B C6 : Option Addr} {e d3 k l q e6 : Nat} {xs : List Value} (O3 : w3.ownsRow 0 3 1 (.slice A3 k d3) k xs) (hg : ∀ b, (Value.slice B l e).ownBlock = some b → w.heap.size ≤ b) (dis : ∀ b, (Value.slice A3 k d3).ownBlock = some b → w.heap.size ≤ b ∧ ¬ (Value.slice B l e).ownBlock = some b) (BW3 : Below w.heap.size w w3)
    (W6 : Went w3 w6 (.slice B l e) (.slice C6 (l + q) e6) l q) :
    w6.ownsRow 0 3 1 (.slice A3 k d3) k xs ∧ (∀ b, (Value.slice A3 k d3).ownBlock = some b → w.heap.size ≤ b ∧ ¬ (Value.slice C6 (l + q) e6).ownBlock = some b) ∧ (∀ b, (Value.slice C6 (l + q) e6).ownBlock = some b → w.heap.size ≤ b) ∧ Below w.heap.size w w6 := by
  have s3 := BW3.size
  refine ⟨own_kept O3 W6.kept (fun b hb e => (dis b hb).2 e), fun b hb => ⟨(dis b hb).1, fun e => ?_⟩, fun b e => ?_, BW3.trans (W6.kept.below (fun b hb => hg b hb) s3)⟩
  · rcases W6.block with h | h
    · exact (dis b hb).2 (h ▸ e)
    · have h1 := Option.some.inj (h.symm.trans e)
      have := own_lt O3 b hb
      omega
  · rcases W6.block with h | h
    · exact hg b (h ▸ e)
    · have h1 := Option.some.inj (h.symm.trans e)
      omega
section
variable (r m : Nat) (L : List (Int × Int)) (G : Nat → Prop)
set_option maxHeartbeats 4000000 in
theorem rup_any : ∀ (f : Nat) (n : Int) (w : World), Rg w r m L G → (has L n = true → rk L n < f) → Calls Try.prog 35 #[.pointer (some ⟨r, 0, none⟩), .int .i64 n] w fun e w' => ∃ A c, e = .returned (.slice A (upl L n).length c) ∧ w'.ownsRow 0 3 1 (.slice A (upl L n).length c) (upl L n).length ((upl L n).map i64) ∧ Below w.heap.size w w' ∧ Fresh w (.slice A (upl L n).length c) := by
  intro f
  induction f with
  | zero =>
    intro n w h hf
    have hn : has L n = false := by
      cases e : has L n with
      | false => rfl
      | true => exact absurd (hf e) (by omega)
    have HH := Lib.hid (rparent_any w r m L G h n)
    rw [hn] at HH
    rw [up_no (by rw [hn]; decide)]
    clear h hn hf
    go_enter Try.func35, Try.ntmps35
    go_wp2_with fail
    (with_reducible refine HH.out.mono ?_)
    rintro e w1 ⟨rfl, rfl⟩
    go_wp2_with fail
    go_ret
    exact ⟨none, 0, rfl, World.ownsRow_nil _ _ _ _, Below.refl _ _, fun b hb => by simp [Value.ownBlock] at hb⟩
  | succ f ih =>
    intro n w h hf
    have HH := Lib.hid (rparent_any w r m L G h n)
    by_cases hn : has L n = true
    case neg =>
      rw [show has L n = false by simpa using hn] at HH
      rw [up_no hn]
      clear h hn hf
      go_enter Try.func35, Try.ntmps35
      go_wp2_with fail
      (with_reducible refine HH.out.mono ?_)
      rintro e w1 ⟨rfl, rfl⟩
      go_wp2_with fail
      go_ret
      exact ⟨none, 0, rfl, World.ownsRow_nil _ _ _ _, Below.refl _ _, fun b hb => by simp [Value.ownBlock] at hb⟩
    rw [hn] at HH
    have hbW := (Below.refl _ w).alloc (Nat.le_refl _) (.cells #[.int .i64 n] 3)
    have HX := Lib.hid (ih (par L n) _ (h.below hbW) (fun hp => by have := h.inv.rk_par hn hp; have := hf hn; omega))
    have O0 : Hid ((w.alloc (.cells #[.int .i64 n] 3)).ownsRow 0 3 1 (.slice (some ⟨w.heap.size, 0, none⟩) 1 1) 1 ([n].map i64)) := ⟨rfl, .inr ⟨w.heap.size, 1, #[.int .i64 n], rfl, Nat.zero_le _, heap_alloc_new w _, Nat.le_refl _, by decide, rfl, by simp [i64]⟩⟩
    have HBW := Lib.hid hbW
    rw [h.inv.up_eq hn]
    have hul := h.inv.up_len (par L n)
    have hm := h.hm
    obtain ⟨QQ, hQQ⟩ : ∃ QQ, upl L (par L n) = QQ := ⟨_, rfl⟩
    rw [hQQ] at HX hul ⊢
    obtain ⟨s, hs⟩ : ∃ s, QQ.length = s := ⟨_, rfl⟩
    have HSS := Lib.hid hs
    rw [hs] at HX hul
    rw [List.length_cons, hs]
    obtain ⟨P, hP⟩ : ∃ P, par L n = P := ⟨_, rfl⟩
    rw [hP] at HX HH
    clear h hn hf hbW hQQ hs ih hP
    go_enter Try.func35, Try.ntmps35
    go_wp2_with fail
    (with_reducible refine HH.out.mono ?_)
    rintro e w1 ⟨rfl, rfl⟩
    clear HH
    go_wp2_with fail
    (with_reducible refine HX.out.mono ?_)
    rintro e3 w3 ⟨A3, c3, rfl, o3, b3, f3⟩
    have OO3 := Lib.hid (own_keeps O0.out (Kept.of_below b3))
    have BW3 : Hid (Below w.heap.size w w3) := HBW.out.trans (b3.mono HBW.out.size)
    have HH3 := Lib.hid (holds_own o3)
    clear o3 b3 f3 HX O0 HBW
    go_wp2_with (at_builtin; refine list_app2 rfl (.tmp 18) (.tmp 21) 34 rfl 3 0 _ 1 8 Try.underlying34 info_int rfl (by decide) (by decide) (.slice (some ⟨w.heap.size, 0, none⟩) 1 1) 1 _ rfl OO3.out A3 s c3 (QQ.map i64) rfl (by rw [List.length_map, Nat.mul_one]; exact HSS.out) HH3.out one64 (by omega) (Nat.zero_le _) ?_; intro v6 w6 hown6 hwent6; (obtain ⟨C6, e6, rfl, _⟩ := own_slice hown6); have O6 := Lib.hid hown6; have W6 := Lib.hid hwent6; clear hown6 hwent6)
    go_ret
    refine ⟨C6, e6, by rw [Nat.add_comm s 1]; rfl, ?_, BW3.out.trans (W6.out.kept.below (fun b hb => Nat.le_of_eq (Option.some.inj hb)) BW3.out.size), fun b hb => ?_⟩
    · have := O6.out
      rw [Nat.add_comm 1 s] at this
      exact this
    · rcases W6.out.block with e | e
      · rw [Nat.add_comm s 1] at hb
        exact Nat.le_of_eq (Option.some.inj (e.symm.trans hb))
      · rw [Nat.add_comm s 1] at hb
        have h1 := Option.some.inj (e.symm.trans hb)
        have := BW3.out.size
        omega
theorem fall_len (L : List (Int × Int)) (n : Int) : (fall L n).length = (dnl L true n).length := by unfold fall; exact List.length_reverse
theorem fall_le {m : Nat} {L : List (Int × Int)} (h : Inv m L) (n : Int) : (fall L n).length ≤ m := by
  rw [fall_len]
  unfold dnl
  split
  · rename_i hn; exact h.dn_len true hn
  · simp
theorem fall_part {m : Nat} {L : List (Int × Int)} (h : Inv m L) {n : Int} (hn : has L n = true) (i : Nat) : (((chl L n).take i).flatMap (fall L)).length + 1 ≤ m := by
  have h1 := fall_le h n
  rw [h.fall_eq hn, List.length_append] at h1
  have h2 := flat_le (chl L n) (fall L) i
  have h3 : [n].length = 1 := rfl
  omega
set_option maxHeartbeats 4000000 in
theorem rfall_any : ∀ (f : Nat) (n : Int) (w : World), Rg w r m L G → L.length - rk L n < f → Calls Try.prog 36 #[.pointer (some ⟨r, 0, none⟩), .int .i64 n] w fun e w' => ∃ A c, e = .returned (.slice A (fall L n).length c) ∧ w'.ownsRow 0 3 1 (.slice A (fall L n).length c) (fall L n).length ((fall L n).map i64) ∧ Below w.heap.size w w' ∧ Fresh w (.slice A (fall L n).length c) := by
  intro f
  induction f with
  | zero => intro n w h hf; omega
  | succ f ih =>
    intro n w h hf
    have IH := Lib.hid ih
    clear ih
    have HH := Lib.hid (rhas_any w r m L G h n)
    have hm := h.hm
    have HI := Lib.hid h.inv
    have HR := Lib.hid h
    by_cases hn : has L n = true
    case neg =>
      have e0 : fall L n = [] := by unfold fall dnl; rw [if_neg hn]; rfl
      rw [e0]
      rw [show has L n = false by simpa using hn] at HH
      clear h hn e0
      go_enter Try.func36, Try.ntmps36
      go_wp2_with fail
      (with_reducible refine HH.out.mono ?_)
      rintro e w1 ⟨rfl, rfl⟩
      go_wp2_with fail
      go_ret
      exact ⟨none, 0, rfl, World.ownsRow_nil _ _ _ _, Below.refl _ _, fun b hb => by simp [Value.ownBlock] at hb⟩
    rw [hn] at HH
    have HNH := Lib.hid hn
    have HCH := Lib.hid (rchildren_new _ r m L G h n)
    rw [rkids_has h.inv hn] at HCH
    have hq := chl_le h.inv n
    have HK : Hid (∀ i x, (chl L n)[i]? = some x → has L x = true ∧ L.length - rk L x < f) := fun i x hx => by
      have := h.inv.rk_odr (t := false) hn (mem_odr.2 (List.mem_of_getElem? hx))
      exact ⟨this.1, by omega⟩
    have HFE := Lib.hid (h.inv.fall_eq hn)
    obtain ⟨q, hq2⟩ : ∃ q, (chl L n).length = q := ⟨_, rfl⟩
    have HQ := Lib.hid hq2
    rw [hq2] at HCH hq
    clear h hn hq2
    go_enter Try.func36, Try.ntmps36
    go_wp2_with fail
    (with_reducible refine HH.out.mono ?_)
    rintro e w1 ⟨rfl, rfl⟩
    clear HH
    go_wp2_with fail
    (with_reducible refine HCH.out.mono ?_)
    rintro e w2 ⟨Ac, cc, rfl, oc, bc, fc⟩
    have OC := Lib.hid oc
    have HB2 := Lib.hid bc
    have DC : Hid (∀ b, (Value.slice Ac q cc).ownBlock = some b → w.heap.size ≤ b ∧ ¬ (Value.slice none 0 0).ownBlock = some b) := fun b hb => ⟨fc b hb, fun e => by simp [Value.ownBlock] at e⟩
    clear oc bc fc HCH
    go_wp2_with fail
    go_loopw [5, 7] (fun v5 v7 wr => ∃ (i k : Nat) (B : Option Addr) (d : Nat), i ≤ q ∧ k + 1 ≤ m ∧ v7 = .int .i64 i ∧ v5 = .slice B k d ∧ Hid ((((chl L n).take i).flatMap (fall L)).length = k) ∧ Hid (wr.ownsRow 0 3 1 (.slice B k d) k ((((chl L n).take i).flatMap (fall L)).map i64)) ∧ Hid (wr.ownsRow 0 3 1 (.slice Ac q cc) q ((chl L n).map i64)) ∧ Hid (∀ b, (Value.slice B k d).ownBlock = some b → w.heap.size ≤ b) ∧ Hid (∀ b, (Value.slice Ac q cc).ownBlock = some b → w.heap.size ≤ b ∧ ¬ (Value.slice B k d).ownBlock = some b) ∧ Hid (Below w.heap.size w wr)) (fun _ v7 _ => q - (intOf v7).toNat)
    case atStart => exact ⟨0, 0, none, 0, Nat.zero_le _, (by have := fall_part HI.out HNH.out 0; simpa using this), rfl, rfl, rfl, World.ownsRow_nil _ _ _ _, OC, (fun b hb => by simp [Value.ownBlock] at hb), DC, HB2⟩
    case round =>
      clear OC DC HB2
      obtain ⟨i, k, B, d, hi, hkm, rfl, rfl, HX, HO, OC, HG, DC, HW⟩ := hrel
      by_cases hlt : i < q
      · obtain ⟨x, hx⟩ : ∃ x, (chl L n)[i]? = some x := ⟨_, List.getElem?_eq_getElem (by rw [HQ.out]; exact hlt)⟩
        obtain ⟨gc, c', cur, hcg, _, _, hcm, _, _, hcell⟩ := own_form OC.out (by omega)
        obtain ⟨rfl, rfl⟩ : Ac = some ⟨gc, 0, none⟩ ∧ cc = c' := by simpa using hcg
        have y0 : wr.cell? ⟨gc, i, none⟩ = some (.int .i64 x) := hcell i (i64 x) (by rw [List.getElem?_map, hx]; rfl)
        have hcx := HK.out i x hx
        have CX := Lib.hid (IH.out x wr (HR.out.below HW.out) hcx.2)
        have FL := Lib.hid (take_flat (chl L n) (fall L) i x hx)
        have HP := Lib.hid (fall_part HI.out HNH.out (i + 1))
        have hdl := fall_le HI.out x
        obtain ⟨QQ, hQQ⟩ : ∃ QQ, fall L x = QQ := ⟨_, rfl⟩
        rw [hQQ] at CX FL hdl
        obtain ⟨s, hs⟩ : ∃ s, QQ.length = s := ⟨_, rfl⟩
        have HSS := Lib.hid hs
        rw [hs] at CX hdl
        clear hcg hcm hcell hcx hx hQQ hs
        go_wp2_with fail
        (with_reducible refine CX.out.mono ?_)
        rintro e3 w3 ⟨A3, c3, rfl, o3, b3, f3⟩
        have OO3 := Lib.hid (own_keeps HO.out (Kept.of_below b3))
        have OC3 := Lib.hid (own_keeps OC.out (Kept.of_below b3))
        have BW3 : Hid (Below w.heap.size w w3) := HW.out.trans (b3.mono HW.out.size)
        have HH3 := Lib.hid (holds_own o3)
        clear o3 b3 f3 CX
        go_wp2_with (at_builtin; refine list_app2 rfl (.tmp 21) (.tmp 27) 34 rfl 3 0 _ 1 8 Try.underlying34 info_int rfl (by decide) (by decide) (.slice B k d) k _ rfl OO3.out A3 s c3 (QQ.map i64) rfl (by rw [List.length_map, Nat.mul_one]; exact HSS.out) HH3.out one64 (by omega) (Nat.zero_le _) ?_; intro v6 w6 hown6 hwent6; (obtain ⟨C6, e6, rfl, _⟩ := own_slice hown6); have O6 := Lib.hid hown6; have W6 := Lib.hid hwent6; clear hown6 hwent6)
        obtain ⟨f1, f2, f3, f4⟩ := app_fin OC3.out HG.out DC.out BW3.out W6.out
        have hlen : (((chl L n).take (i + 1)).flatMap (fall L)).length = k + s := by
          rw [FL.out, List.length_append, HX.out, HSS.out]
        have hks : k + s + 1 ≤ m := by rw [← hlen]; exact HP.out
        refine ⟨⟨i + 1, k + s, C6, e6, by omega, hks, by simp, rfl, hlen, ?_, f1, f3, f2, f4⟩, by simp [intOf]; omega⟩
        show World.ownsRow _ _ _ _ _ _ _
        rw [FL.out, List.map_append]
        exact O6.out
      · have : i = q := by omega
        subst this
        rw [List.take_of_length_le (by rw [HQ.out]; exact Nat.le_refl _)] at HX HO
        have HF : Hid ((fall L n).length = k + 1) := by
          rw [HFE.out, List.length_append, HX.out]; rfl
        go_wp2_with (at_builtin; refine list_app2 rfl (.tmp 29) (.tmp 31) 34 rfl 3 0 _ 1 8 Try.underlying34 info_int rfl (by decide) (by decide) (.slice B k d) k _ rfl (own_keeps HO.out ((Kept.refl _ _).alloc _)) (some ⟨wr.heap.size, 0, none⟩) 1 1 [i64 n] rfl rfl (holds_new _ _ _ _ _ rfl) (by simp [Value.oneCell', i64]) (by omega) (Nat.zero_le _) ?_; intro v6 w6 hown6 hwent6; (obtain ⟨C6, e6, rfl, _⟩ := own_slice hown6); have O6 := Lib.hid hown6; have W6 := Lib.hid hwent6; clear hown6 hwent6)
        go_ret
        refine ⟨C6, e6, by rw [HF.out]; rfl, ?_, (HW.out.alloc HW.out.size _).trans (W6.out.kept.below (fun b hb => HG.out b hb) (Nat.le_trans HW.out.size (by simp))), fun b hb => ?_⟩
        · rw [HF.out, HFE.out, List.map_append]
          exact O6.out
        · rw [HF.out] at hb
          rcases W6.out.block with e | e
          · exact HG.out b (e.symm.trans hb)
          · have h1 := Option.some.inj (e.symm.trans hb)
            have := HW.out.size
            simp at h1
            omega
/-- Is n in a's subtree? -/
def undB (L : List (Int × Int)) (a n : Int) : Bool := decide (n ∈ dnl L false a)
set_option maxHeartbeats 1000000 in
theorem runder_any (a n : Int) (w : World) (h : Rg w r m L G) : Calls Try.prog 37 #[.pointer (some ⟨r, 0, none⟩), .int .i64 a, .int .i64 n] w fun e w' => e = .returned (.bool (undB L a n)) ∧ Below w.heap.size w w' := by
  have HX := Lib.hid (rdown_any r m L G (L.length - rk L a + 1) a w h (by omega))
  have hdl : (dnl L false a).length ≤ m := by
    unfold dnl
    split
    · rename_i hn; exact h.inv.dn_len false hn
    · simp
  have hm := h.hm
  have HD : Hid (∀ b, b = decide (n ∈ dnl L false a) → b = undB L a n) := fun b hb => hb
  obtain ⟨l, hl⟩ : ∃ l, dnl L false a = l := ⟨_, rfl⟩
  rw [hl] at HX hdl HD
  obtain ⟨N, hN⟩ : ∃ N, l.length = N := ⟨_, rfl⟩
  have HN := Lib.hid hN
  rw [hN] at HX hdl
  clear h hl hN
  go_enter Try.func37, Try.ntmps37
  go_wp2_with fail
  (with_reducible refine HX.out.mono ?_)
  rintro e w1 ⟨A, c, rfl, o1, b1, _⟩
  have O1 := Lib.hid o1
  have B1 := Lib.hid b1
  have HC : Hid (0 < N → ∃ g, A = some ⟨g, 0, none⟩ ∧ ∀ (j : Nat) z, l[j]? = some z → w1.cell? ⟨g, j, none⟩ = some (.int .i64 z)) := fun hp => by
    obtain ⟨g, c', cur, e, _, _, _, _, _, hcell⟩ := own_form o1 hp
    obtain ⟨rfl, _⟩ : A = some ⟨g, 0, none⟩ ∧ c = c' := by simpa using e
    exact ⟨g, rfl, fun j z hz => hcell j (i64 z) (by rw [List.getElem?_map, hz]; rfl)⟩
  clear o1 b1 HX
  go_wp2_with fail
  go_loopw [8] (fun v8 wr => ∃ i : Nat, i ≤ N ∧ v8 = .int .i64 i ∧ Hid (∀ j z, j < i → l[j]? = some z → z ≠ n) ∧ w1 = wr) (fun v8 _ => N - (intOf v8).toNat)
  case atStart => exact ⟨0, Nat.zero_le _, rfl, fun j z hj => absurd hj (by omega), rfl⟩
  case round =>
    obtain ⟨i, hi, rfl, HA, rfl⟩ := hrel
    by_cases hlt : i < N
    · obtain ⟨z, hz⟩ : ∃ z, l[i]? = some z := ⟨_, List.getElem?_eq_getElem (by rw [HN.out]; exact hlt)⟩
      obtain ⟨g, rfl, hcell⟩ := HC.out (by omega)
      have y0 := hcell i z hz
      have HZ := Lib.hid hz
      clear hcell hz
      by_cases hzn : z = n
      · have HB := Lib.hid (HD.out true (by
          have : z ∈ l := List.mem_of_getElem? HZ.out
          rw [hzn] at this
          simpa using this))
        go_wp2_with fail
        go_ret
        exact ⟨by rw [← HB.out]; rfl, B1.out⟩
      · have HA2 : Hid (∀ j y, j < i + 1 → l[j]? = some y → y ≠ n) := fun j y hj hy => by
          by_cases e : j = i
          · rw [e, HZ.out] at hy
            rw [← Option.some.inj hy]; exact hzn
          · exact HA.out j y (by omega) hy
        go_wp2_with fail
        exact ⟨⟨i + 1, by omega, by simp, HA2, trivial⟩, by simp [intOf]; omega⟩
    · have : i = N := by omega
      subst this
      have HB := Lib.hid (HD.out false (by
        have : ¬ n ∈ l := fun e => by
          obtain ⟨j, hj⟩ := List.getElem?_of_mem e
          have := (List.getElem?_eq_some_iff.1 hj).1
          rw [HN.out] at this
          exact HA.out j n this hj rfl
        simpa using this))
      go_wp2_with fail
      go_ret
      exact ⟨by rw [← HB.out]; rfl, B1.out⟩
end
end Go.Proofs.Ytkmmpagflbnenaa.Kin

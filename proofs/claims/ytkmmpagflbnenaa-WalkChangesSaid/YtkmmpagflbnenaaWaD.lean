/- The document's Down, Up, Fall, Under. Own text; Ytkmmpagflbnenaa and the numbers between @..@ are the seat's. -/
import Derived.Test.YtkmmpagflbnenaaWaR
namespace Go.Proofs.Ytkmmpagflbnenaa.Kin
open Go.RowKit Go.Proofs.Ytkmmpagflbnenaa.Mem
set_option linter.unusedVariables false
theorem rkids_has {m : Nat} {L : List (Int × Int)} (h : Inv m L) {n : Int} (hn : has L n = true) : rkids L n = chl L n := if_pos (h.has_rng hn).1
theorem dnl_has {L : List (Int × Int)} {t : Bool} {n : Int} (h : has L n = true) : dnl L t n = dn L t n := if_pos h
theorem take_flat {β : Type} (l : List Int) (f : Int → List β) (i : Nat) (x : Int) (h : l[i]? = some x) : (l.take (i + 1)).flatMap f = (l.take i).flatMap f ++ f x := by
  obtain ⟨hlt, rfl⟩ := List.getElem?_eq_some_iff.1 h
  rw [List.take_succ_eq_append_getElem hlt, List.flatMap_append]
  simp
theorem flat_le (l : List Int) (f : Int → List Int) (i : Nat) : ((l.take i).flatMap f).length ≤ (l.flatMap f).length := by
  conv => rhs; rw [← List.take_append_drop i l, List.flatMap_append, List.length_append]
  omega
theorem dn_part {m : Nat} {L : List (Int × Int)} (h : Inv m L) {n : Int} (hn : has L n = true) (i : Nat) : (n :: ((chl L n).take i).flatMap (dn L false)).length ≤ m := by
  have h1 := h.dn_len false hn
  rw [h.dn_eq false hn] at h1
  have h2 := flat_le (chl L n) (dn L false) i
  rw [List.length_cons] at h1 ⊢
  have : odr L false n = chl L n := rfl
  rw [this] at h1
  omega
section
variable (r m : Nat) (L : List (Int × Int)) (G : Nat → Prop)
set_option maxHeartbeats 4000000 in
theorem rdown_any : ∀ (f : Nat) (n : Int) (w : World), Rg w r m L G → L.length - rk L n < f → Calls Try.prog 34 #[.pointer (some ⟨r, 0, none⟩), .int .i64 n] w fun e w' => ∃ A c, e = .returned (.slice A (dnl L false n).length c) ∧ w'.ownsRow 0 3 1 (.slice A (dnl L false n).length c) (dnl L false n).length ((dnl L false n).map i64) ∧ Below w.heap.size w w' ∧ Fresh w (.slice A (dnl L false n).length c) := by
  intro f
  induction f with
  | zero => intro n w h hf; omega
  | succ f ih =>
    intro n w h hf
    have IH := Lib.hid ih
    clear ih
    have HH := Lib.hid (rhas_any w r m L G h n)
    have hm := h.hm
    have HI := Lib.hid h.inv
    have HR := Lib.hid h
    by_cases hn : has L n = true
    case neg =>
      unfold dnl
      rw [if_neg hn]
      rw [show has L n = false by simpa using hn] at HH
      clear h hn
      go_enter Try.func34, Try.ntmps34
      go_wp2_with fail
      (with_reducible refine HH.out.mono ?_)
      rintro e w1 ⟨rfl, rfl⟩
      go_wp2_with fail
      go_ret
      exact ⟨none, 0, rfl, World.ownsRow_nil _ _ _ _, Below.refl _ _, fun b hb => by simp [Value.ownBlock] at hb⟩
    rw [dnl_has hn]
    rw [hn] at HH
    have HNH := Lib.hid hn
    have hbW := (Below.refl _ w).alloc (Nat.le_refl _) (.cells #[.int .i64 n] 3)
    have HCH := Lib.hid (rchildren_new _ r m L G (h.below hbW) n)
    rw [rkids_has h.inv hn] at HCH
    have O0 : Hid ((w.alloc (.cells #[.int .i64 n] 3)).ownsRow 0 3 1 (.slice (some ⟨w.heap.size, 0, none⟩) 1 1) 1 ([n].map i64)) := ⟨rfl, .inr ⟨w.heap.size, 1, #[.int .i64 n], rfl, Nat.zero_le _, heap_alloc_new w _, Nat.le_refl _, by decide, rfl, by simp [i64]⟩⟩
    have HBW := Lib.hid hbW
    have hq := chl_le h.inv n
    have HK : Hid (∀ i x, (chl L n)[i]? = some x → has L x = true ∧ L.length - rk L x < f) := fun i x hx => by
      have := h.inv.rk_odr (t := false) hn (mem_odr.2 (List.mem_of_getElem? hx))
      exact ⟨this.1, by omega⟩
    obtain ⟨q, hq2⟩ : ∃ q, (chl L n).length = q := ⟨_, rfl⟩
    have HQ := Lib.hid hq2
    rw [hq2] at HCH hq
    clear h hn hbW hq2
    go_enter Try.func34, Try.ntmps34
    go_wp2_with fail
    (with_reducible refine HH.out.mono ?_)
    rintro e w1 ⟨rfl, rfl⟩
    clear HH
    go_wp2_with fail
    (with_reducible refine HCH.out.mono ?_)
    rintro e w2 ⟨Ac, cc, rfl, oc, bc, fc⟩
    have OC := Lib.hid oc
    have O2 := Lib.hid (own_keeps O0.out (Kept.of_below bc))
    have HB2 : Hid (Below w.heap.size w w2) := HBW.out.trans (bc.mono HBW.out.size)
    have DC : Hid (∀ b, (Value.slice Ac q cc).ownBlock = some b → w.heap.size ≤ b ∧ b ≠ w.heap.size) := fun b hb => by
      have := fc b hb
      simp at this
      exact ⟨by omega, by omega⟩
    clear oc bc fc HCH O0 HBW
    go_wp2_with fail
    go_loopw [5, 7] (fun v5 v7 wr => ∃ (i k gg d : Nat), i ≤ q ∧ 1 ≤ k ∧ k ≤ m ∧ v7 = .int .i64 i ∧ v5 = .slice (some ⟨gg, 0, none⟩) k d ∧ Hid ((n :: ((chl L n).take i).flatMap (dn L false)).length = k) ∧ Hid (wr.ownsRow 0 3 1 (.slice (some ⟨gg, 0, none⟩) k d) k ((n :: ((chl L n).take i).flatMap (dn L false)).map i64)) ∧ Hid (wr.ownsRow 0 3 1 (.slice Ac q cc) q ((chl L n).map i64)) ∧ Hid (w.heap.size ≤ gg) ∧ Hid (∀ b, (Value.slice Ac q cc).ownBlock = some b → w.heap.size ≤ b ∧ b ≠ gg) ∧ Hid (Below w.heap.size w wr)) (fun _ v7 _ => q - (intOf v7).toNat)
    case atStart => exact ⟨0, 1, w.heap.size, 1, Nat.zero_le _, Nat.le_refl _, (by have := dn_part HI.out HNH.out 0; simpa using this), rfl, rfl, rfl, O2, OC, Nat.le_refl _, DC, HB2⟩
    case round =>
      clear O2 OC DC HB2
      obtain ⟨i, k, gg, d, hi, hk1, hkm, rfl, rfl, HX, HO, OC, HG, DC, HW⟩ := hrel
      by_cases hlt : i < q
      · obtain ⟨x, hx⟩ : ∃ x, (chl L n)[i]? = some x := ⟨_, List.getElem?_eq_getElem (by rw [HQ.out]; exact hlt)⟩
        obtain ⟨gc, c', cur, hcg, _, _, hcm, _, _, hcell⟩ := own_form OC.out (by omega)
        obtain ⟨rfl, rfl⟩ : Ac = some ⟨gc, 0, none⟩ ∧ cc = c' := by simpa using hcg
        have y0 : wr.cell? ⟨gc, i, none⟩ = some (.int .i64 x) := hcell i (i64 x) (by rw [List.getElem?_map, hx]; rfl)
        have hcx := HK.out i x hx
        have CX := Lib.hid (IH.out x wr (HR.out.below HW.out) hcx.2)
        rw [dnl_has hcx.1] at CX
        have FL := Lib.hid (take_flat (chl L n) (dn L false) i x hx)
        have HP := Lib.hid (dn_part HI.out HNH.out (i + 1))
        have hdl := HI.out.dn_len false hcx.1
        obtain ⟨QQ, hQQ⟩ : ∃ QQ, dn L false x = QQ := ⟨_, rfl⟩
        rw [hQQ] at CX FL hdl
        obtain ⟨s, hs⟩ : ∃ s, QQ.length = s := ⟨_, rfl⟩
        have HSS := Lib.hid hs
        rw [hs] at CX hdl
        clear hcg hcm hcell hcx hx hQQ hs
        go_wp2_with fail
        (with_reducible refine CX.out.mono ?_)
        rintro e3 w3 ⟨A3, c3, rfl, o3, b3, f3⟩
        have OO3 := Lib.hid (own_keeps HO.out (Kept.of_below b3))
        have OC3 := Lib.hid (own_keeps OC.out (Kept.of_below b3))
        have BW3 : Hid (Below w.heap.size w w3) := HW.out.trans (b3.mono HW.out.size)
        have HH3 := Lib.hid (holds_own o3)
        have HGL : Hid (gg < w3.heap.size) := own_lt OO3.out gg rfl
        clear o3 b3 f3 CX
        go_wp2_with (at_builtin; refine list_app2 rfl (.tmp 23) (.tmp 29) 34 rfl 3 0 _ 1 8 Try.underlying34 info_int rfl (by decide) (by decide) (.slice (some ⟨gg, 0, none⟩) k d) k _ rfl OO3.out A3 s c3 (QQ.map i64) rfl (by rw [List.length_map, Nat.mul_one]; exact HSS.out) HH3.out one64 (by omega) (Nat.zero_le _) ?_; intro v6 w6 hown6 hwent6; (obtain ⟨C6, e6, rfl, _⟩ := own_slice hown6); have O6 := Lib.hid hown6; have W6 := Lib.hid hwent6; clear hown6 hwent6)
        obtain ⟨f1, f2, f3, f4⟩ := stk_fin (Below.refl _ w3) OC3.out HGL.out HG.out DC.out BW3.out W6.out
        obtain ⟨g6, c', cur6, e6', hg6, _, _, _, _, _⟩ := own_form O6.out (by omega)
        obtain ⟨rfl, rfl⟩ : C6 = some ⟨g6, 0, none⟩ ∧ e6 = c' := by simpa using e6'
        have hlen : (n :: ((chl L n).take (i + 1)).flatMap (dn L false)).length = k + s := by
          rw [FL.out, ← List.cons_append, List.length_append, HX.out, HSS.out]
        have hks : k + s ≤ m := by rw [← hlen]; exact HP.out
        refine ⟨⟨i + 1, k + s, g6, e6, by omega, by omega, hks, by simp, rfl, hlen, ?_, f1, f3 g6 rfl, fun b hb => ⟨(f2 b hb).1, fun e => (f2 b hb).2 (by rw [e]; rfl)⟩, f4⟩, by simp [intOf]; omega⟩
        show World.ownsRow _ _ _ _ _ _ _
        rw [FL.out, ← List.cons_append, List.map_append]
        exact O6.out
      · have : i = q := by omega
        subst this
        have e : n :: ((chl L n).take i).flatMap (dn L false) = dn L false n := by
          rw [List.take_of_length_le (by rw [HQ.out]; exact Nat.le_refl _), HI.out.dn_eq false HNH.out]
          rfl
        rw [e] at HX HO
        clear e
        go_wp2_with fail
        go_ret
        refine ⟨some ⟨gg, 0, none⟩, d, by rw [HX.out]; rfl, ?_, HW.out, fun b hb => by rw [← Option.some.inj hb]; exact HG.out⟩
        rw [HX.out]
        exact HO.out
end
end Go.Proofs.Ytkmmpagflbnenaa.Kin

/- The reference's Pick. -/
import Derived.Test.YtepjhdppmegloaaCaps3
namespace Go.Proofs.Ytepjhdppmegloaa.Caps
open Go.RowKit Go.Proofs.Ytepjhdppmegloaa.Mem

set_option maxHeartbeats 4000000 in
theorem refPick_any (w : World) (p : Nat) (most : Int) (l : List Cap) (F : Nat → Prop) (u : Value) (ps : List Int) (h : ListAt 60 w p most l F) (hu : ReadsInts w u ps) (hb : ps.length ≤ 2000000) :
    Calls Try.prog 22 #[.pointer (some ⟨p, 0, none⟩), u] w (Picks most l ps w) := by
  have hL := Lib.hid h
  obtain ⟨A, c, rfl, hal, hA⟩ := hu
  obtain ⟨n, hn⟩ : ∃ n, ps.length = n := ⟨_, rfl⟩
  clear hal
  rw [hn] at hA hb ⊢
  have HN := Lib.hid hn
  have HA := Lib.hid hA
  clear hn hA h
  go_enter Try.func22, Try.ntmps22
  go_wp2
  go_loopw [6, 7] (fun v6 vi wr => ∃ (j : Nat) (A8 : Option Addr) (c8 : Nat), j ≤ n ∧ vi = .int .i64 j ∧ v6 = .slice A8 j c8 ∧ Hid (∀ k z, k < j → ps[k]? = some z → hasB l z = true) ∧ Hid (wr.ownsRow 0 37 3 (.slice A8 j c8) j (capsC ((picked l ps).take j))) ∧ Hid (Below w.heap.size w wr) ∧ Hid (Fresh w (.slice A8 j c8))) (fun _ vi _ => n - (intOf vi).toNat)
  case atStart => exact ⟨0, none, 0, Nat.zero_le _, rfl, rfl, Lib.hid (fun j z hj => absurd hj (Nat.not_lt_zero _)), Lib.hid (World.ownsRow_nil _ _ _ _), Lib.hid (Below.refl _ _), Lib.hid (fun k hk => by simp [Value.ownBlock] at hk)⟩
  case round =>
    obtain ⟨j, A8, c8, hj, rfl, rfl, HS, HO, HB, HF⟩ := hrel
    have hLr : Hid (ListAt 60 wr p most l F) := hL.out.kept (S := fun _ => False) (Kept.of_below HB.out) (fun _ _ h => h)
    by_cases hlt : j < n
    · obtain ⟨g, o, rfl, hcA⟩ := HA.out (by omega)
      obtain ⟨z, hz⟩ : ∃ z, ps[j]? = some z := ⟨_, List.getElem?_eq_getElem (by rw [HN.out]; exact hlt)⟩
      have k0 : w.cell? ⟨g, o + j, none⟩ = some (.int .i64 z) := hcA _ _ hz
      have hgl := World.block_lt_of_cell? w _ k0
      have k0' : wr.cell? ⟨g, o + j, none⟩ = some (.int .i64 z) := (HB.out.cell hgl).trans k0
      have HZ := Lib.hid hz
      have hsz := HB.out.size
      clear hcA hz k0
      by_cases hq : hasB l z = true
      · obtain ⟨x, hx⟩ : ∃ x, l.getD z.toNat z0 = x := ⟨_, rfl⟩
        have hat := Lib.hid (refAt_in (T := 60) wr p most l F z hLr.out hq)
        have HQ := Lib.hid hq
        rw [hx] at hat
        have HX : Hid ((picked l ps)[j]? = some x) := by show _ = _; unfold picked; rw [List.getElem?_map, HZ.out]; exact congrArg some hx
        clear hx hq
        go_wp2_with (first | (go_at_call 21; refine hat.out.mono ?_; rintro e w1 ⟨rfl, hb1⟩; have HO1 := Lib.hid (own_keeps HO.out (Kept.of_below hb1)); have HB1 := Lib.hid hb1; have hs1 := hb1.size; clear hb1) | (at_builtin; refine list_app rfl (.tmp 28) (.tmp 30) 43 rfl 37 0 _ 3 24 Try.underlying43 info37 rfl (by decide) (by decide) (.slice A8 j c8) j _ rfl (own_keeps HO1.out (((Kept.refl (fun _ => False) w1).alloc _).alloc _)) (some ⟨w1.heap.size + 1, 0, none⟩) 1 1 (capC x) rfl rfl (holds_new _ _ _ _ _ (by simp)) (by simp [capC, Value.oneCell']) (by omega) (Nat.zero_le _) ?_; intro v1 w2 hown1 hgrow1 hat1 _))
        obtain ⟨A1, c1', rfl, _⟩ := own_slice hown1
        go_roundw
        case rel =>
          have hBB : Below w.heap.size w w2 := ((((HB.out.trans (HB1.out.mono hsz)).alloc (Nat.le_trans hsz hs1) _).alloc (Nat.le_trans (Nat.le_trans hsz hs1) (by simp)) _)).grown hgrow1 (Nat.le_trans (Nat.le_trans hsz hs1) (by simp; omega)) HF.out
          refine ⟨j + 1, A1, c1', by omega, by go_num, rfl, Lib.hid ?_, Lib.hid ?_, Lib.hid hBB, Lib.hid ?_⟩
          · intro k y hk hy
            rcases Nat.lt_or_ge k j with h1 | h1
            · exact HS.out k y h1 hy
            · obtain rfl : k = j := by omega
              rw [HZ.out] at hy
              obtain rfl := Option.some.inj hy
              exact HQ.out
          · rw [List.take_add_one, HX.out]
            simpa [capsC_append, capsC] using hown1
          · intro k hk
            rcases hat1 with h | h
            · exact HF.out k (h ▸ hk)
            · have := Option.some.inj (hk.symm.trans h)
              rw [this]; simp; omega
        case measure => simp [intOf]; omega
      · have hqf : hasB l z = false := by simpa using hq
        have hat := Lib.hid (refAt_out (T := 60) wr p most l F z hLr.out hqf)
        have HQ := Lib.hid hqf
        clear hq hqf
        go_wp2_with (go_at_call 21; refine hat.out.mono ?_; rintro e w1 ⟨rfl, hb1⟩)
        go_ret2
        exact Picks.no (by unfold pickE; rw [all_not HZ.out HQ.out]; rfl) (by decide) ((HB.out.trans (hb1.mono hsz)).alloc (Nat.le_trans hsz hb1.size) _)
    · have : j = n := by omega
      subst this
      have hall : Hid (ps.all (hasB l) = true) := all_upto (fun k z hz => HS.out k z (by have := (List.getElem?_eq_some_iff.1 hz).1; rw [HN.out] at this; exact this) hz)
      obtain ⟨v, h1, h2, h3, h4⟩ := hLr.out
      have c0 : wr.cell? ⟨p, 0, none⟩ = some (.int .i64 most) := cell_row h1 rfl
      have HB2 := HB
      clear h1 h2 h4
      by_cases hgt : most < (j : Int)
      · go_wp2
        go_ret2
        exact Picks.no (by unfold pickE; rw [hall.out, if_pos rfl, if_pos (by rw [HN.out]; exact hgt)]) (by decide) HB.out
      · go_wp2
        go_ret2
        have e : pickE most l ps = 0 := by unfold pickE; rw [hall.out, if_pos rfl, if_neg (by rw [HN.out]; omega)]
        have e3 : (picked l ps).length = j := by unfold picked; rw [List.length_map, HN.out]
        refine Picks.yes e ?_ HB.out HF.out
        rw [e3]
        have := HO.out
        rwa [List.take_of_length_le (by omega)] at this

end Go.Proofs.Ytepjhdppmegloaa.Caps

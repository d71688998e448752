/- Read and Write, of whatever place, and New: the document's and the program's. -/
import Derived.Test.YtbhpikagjcojbaaBr3
import Derived.Test.YtbhpikagjcojbaaAr10
namespace Go.Proofs.Ytbhpikagjcojbaa.Ar
open Go.RowKit Go.Proofs.Ytbhpikagjcojbaa.Mem
set_option linter.unusedVariables false
theorem placeE_ok {on : List Bool} {i off k : Int} (h : placeE on i off k = 0) : isB on i = true ∧ 0 ≤ off ∧ 0 ≤ k ∧ k ≤ 64 ∧ off ≤ 64 - k := by
  unfold placeE at h
  split at h
  · next hb =>
    split at h
    · cases h
    · next hn => exact ⟨hb, by omega, by omega, by omega, by omega⟩
  · cases h
theorem isB_ok {on : List Bool} {i : Int} (h : isB on i = true) : 0 ≤ i ∧ i < on.length ∧ on[i.toNat]? = some true := by
  unfold isB at h
  simp only [Bool.and_eq_true, decide_eq_true_eq] at h
  refine ⟨h.1.1, h.1.2, ?_⟩
  have := h.2
  rw [List.getD_eq_getElem?_getD] at this
  cases e : on[i.toNat]? with
  | none => rw [e] at this; cases this
  | some b => rw [e] at this; exact congrArg some this
/-- What is read. -/
def readZ (on : List Bool) (bs : List Int) (i off k : Int) : List Int := if placeE on i off k = 0 then (bs.drop (i.toNat * 64 + off.toNat)).take k.toNat else []
/-- What all pages hold behind a write. -/
def writeZ (on : List Bool) (bs : List Int) (i off : Int) (zs : List Int) : List Int := if placeE on i off zs.length = 0 then laid bs (i.toNat * 64 + off.toNat) zs else bs
theorem nilB (w : World) : w.ownsRow 0 5 1 (.slice none 0 0) 0 [] ∧ Fresh w (.slice none 0 0) := ⟨World.ownsRow_nil _ _ _ _, fun k hk => by simp [Value.ownBlock] at hk⟩
set_option maxHeartbeats 1000000 in
theorem read_any (w : World) (p a t n : Nat) (on : List Bool) (bs : List Int) (i off k : Int) (h : At w p a t n on bs) :
    Calls Try.prog 16 #[.pointer (some ⟨p, 0, none⟩), .int .i64 i, .int .i64 off, .int .i64 k] w fun e w' => ∃ A c', e = .returned (.tuple #[.slice A (readZ on bs i off k).length c', .int .i64 (placeE on i off k)]) ∧ w'.ownsRow 0 5 1 (.slice A (readZ on bs i off k).length c') (readZ on bs i off k).length ((readZ on bs i off k).map byteC) ∧ Below w.heap.size w w' ∧ Fresh w (.slice A (readZ on bs i off k).length c') := by
  unfold readZ
  by_cases hp : placeE on i off k = 0
  · rw [if_pos hp, hp]
    obtain ⟨h1, h2, h3, h4, h5⟩ := placeE_ok hp
    obtain ⟨h6, h7, h8⟩ := isB_ok h1
    obtain ⟨i, rfl⟩ : ∃ j : Nat, i = j := ⟨i.toNat, by omega⟩
    obtain ⟨off, rfl⟩ : ∃ j : Nat, off = j := ⟨off.toNat, by omega⟩
    obtain ⟨k, rfl⟩ : ∃ j : Nat, k = j := ⟨k.toNat, by omega⟩
    have hin : i < n := by have := h.len; omega
    have hl : ((bs.drop ((i : Int).toNat * 64 + (off : Int).toNat)).take (k : Int).toNat).length = k := by
      rw [List.length_take, List.length_drop, h.size]; simp; omega
    have := read_in w p a t n on bs i off k h hin hp (by omega)
    rw [hl]
    exact this
  · rw [if_neg hp]
    have HP := Lib.hid (place_any w p a t n on bs i off k h)
    obtain ⟨z, hz⟩ : ∃ z, placeE on i off k = z := ⟨_, rfl⟩
    rw [hz] at HP hp ⊢
    clear h hz
    go_enter Try.func16, Try.ntmps16
    go_wp2_with (go_at_call 24; (with_reducible refine HP.out.mono ?_); rintro e w1 ⟨rfl, rfl⟩)
    go_ret2
    exact ⟨none, 0, rfl, (nilB w).1, Below.refl _ _, (nilB w).2⟩
set_option maxHeartbeats 1000000 in
theorem write_any (w : World) (p a t n : Nat) (on : List Bool) (bs : List Int) (i off : Int) (A : Option Addr) (c : Nat) (zs : List Int) (h : At w p a t n on bs) (hs : Holds w A (zs.map byteC)) :
    Calls Try.prog 15 #[.pointer (some ⟨p, 0, none⟩), .int .i64 i, .int .i64 off, .slice A zs.length c] w fun e w' => e = .returned (.int .i64 (placeE on i off zs.length)) ∧ At w' p a t n on (writeZ on bs i off zs) ∧ Kept (fun b => b = a) w w' := by
  unfold writeZ
  by_cases hp : placeE on i off zs.length = 0
  · rw [if_pos hp, hp]
    obtain ⟨h1, h2, h3, h4, h5⟩ := placeE_ok hp
    obtain ⟨h6, h7, h8⟩ := isB_ok h1
    obtain ⟨i, rfl⟩ : ∃ j : Nat, i = j := ⟨i.toNat, by omega⟩
    obtain ⟨off, rfl⟩ : ∃ j : Nat, off = j := ⟨off.toNat, by omega⟩
    exact write_in w p a t n on bs i off zs.length A c zs h (by have := h.len; omega) hp (by omega) rfl hs
  · rw [if_neg hp]
    have HP := Lib.hid (place_any w p a t n on bs i off zs.length h)
    obtain ⟨z, hz⟩ : ∃ z, placeE on i off zs.length = z := ⟨_, rfl⟩
    rw [hz] at HP hp ⊢
    have HH := Lib.hid h
    clear h hz
    go_enter Try.func15, Try.ntmps15
    go_wp2_with (go_at_call 24; (with_reducible refine HP.out.mono ?_); rintro e w1 ⟨rfl, rfl⟩)
    go_ret
    exact ⟨rfl, HH.out, Kept.refl _ _⟩
set_option maxHeartbeats 2000000 in
theorem rread_any (w : World) (r P n : Nat) (on : List Bool) (bs : List Int) (i off k : Int) (h : Ra w r P n on bs) :
    Calls Try.prog 29 #[.pointer (some ⟨r, 0, none⟩), .int .i64 i, .int .i64 off, .int .i64 k] w fun e w' => ∃ A c', e = .returned (.tuple #[.slice A (readZ on bs i off k).length c', .int .i64 (placeE on i off k)]) ∧ w'.ownsRow 0 5 1 (.slice A (readZ on bs i off k).length c') (readZ on bs i off k).length ((readZ on bs i off k).map byteC) ∧ Below w.heap.size w w' ∧ Fresh w (.slice A (readZ on bs i off k).length c') := by
  have HP := Lib.hid (rplace_any w r P n on bs i off k h)
  unfold readZ
  by_cases hp : placeE on i off k = 0
  · rw [if_pos hp]
    rw [hp] at HP ⊢
    obtain ⟨h1, h2, h3, h4, h5⟩ := placeE_ok hp
    obtain ⟨h6, h7, h8⟩ := isB_ok h1
    obtain ⟨i, rfl⟩ : ∃ j : Nat, i = j := ⟨i.toNat, by omega⟩
    obtain ⟨off, rfl⟩ : ∃ j : Nat, off = j := ⟨off.toNat, by omega⟩
    obtain ⟨k, rfl⟩ : ∃ j : Nat, k = j := ⟨k.toNat, by omega⟩
    have hin : i < n := by have := h.len; omega
    have hoff : off + k ≤ 64 := by omega
    obtain ⟨Z, hZ⟩ : ∃ Z, (bs.drop ((i : Int).toNat * 64 + (off : Int).toNat)).take (k : Int).toNat = Z := ⟨_, rfl⟩
    have hl : Z.length = k := by
      rw [← hZ, List.length_take, List.length_drop, h.size]; simp; omega
    have hcell : Hid (∀ w', Below w.heap.size w w' → w'.cell? ⟨r, 0, none⟩ = some (.slice (some ⟨P, 0, none⟩) n n) ∧ ∀ (q : Nat) b, Z[q]? = some b → w'.cell? ⟨P, i * 65 + 1 + (off + q), none⟩ = some (.int .u8 b)) := fun w' hb => by
      have h' := (h.below hb).cells
      refine ⟨h'.1, fun q b hq => ?_⟩
      have hqk : q < k := by have := (List.getElem?_eq_some_iff.1 hq).1; omega
      refine h'.2.2.1 i (off + q) b (by omega) ?_
      rw [← hZ, List.getElem?_take, if_pos (by simpa using hqk), List.getElem?_drop] at hq
      simpa [Nat.add_assoc] using hq
    rw [hZ, hl]
    have HZ := Lib.hid hl
    clear h hZ hl h1 h2 h3 h4 h5 h6 h7 h8 hp
    go_enter Try.func29, Try.ntmps29
    go_wp2_with (go_at_call 36; (with_reducible refine HP.out.mono ?_); rintro e w1 ⟨rfl, rfl⟩)
    go_loopw [11, 12] (fun v11 v12 wr => ∃ (j : Nat) (A : Option Addr) (c : Nat), j ≤ k ∧ v12 = .int .i64 j ∧ v11 = .slice A j c ∧ Hid (wr.ownsRow 0 5 1 (.slice A j c) j ((Z.take j).map byteC)) ∧ Hid (Below w.heap.size w wr) ∧ Hid (Fresh w (.slice A j c))) (fun _ v12 _ => k - (intOf v12).toNat)
    case atStart => exact ⟨0, none, 0, Nat.zero_le _, rfl, rfl, World.ownsRow_nil _ _ _ _, Below.refl _ _, fun k hk => by simp [Value.ownBlock] at hk⟩
    case round =>
      obtain ⟨j, A, c, hj, rfl, rfl, HO, HB, HF⟩ := hrel
      by_cases hlt : j < k
      · obtain ⟨b, hb⟩ : ∃ b, Z[j]? = some b := ⟨_, List.getElem?_eq_getElem (by rw [HZ.out]; exact hlt)⟩
        obtain ⟨c0, hc⟩ := hcell.out wr HB.out
        have k0 := hc j b hb
        have HBJ := Lib.hid hb
        clear hc hb
        have hoj : (off : Int) + j < 64 := by omega
        go_wp2_with (at_builtin; refine list_app2 rfl (.tmp 26) (.tmp 39) 36 rfl 5 0 _ 1 1 Try.underlying36 info5 rfl (by decide) (by decide) (.slice A j c) j _ rfl (own_keeps HO.out ((Kept.refl _ _).alloc _)) (some ⟨wr.heap.size, 0, none⟩) 1 1 [byteC b] rfl rfl (holds_new _ _ _ _ _ rfl) (by simp [Value.oneCell', byteC]) (by omega) (Nat.zero_le _) ?_; intro v9 w9 hown9 hwent9)
        obtain ⟨A9, c9, rfl, _⟩ := own_slice hown9
        refine ⟨⟨j + 1, A9, c9, by omega, by simp, rfl, ?_, ?_, ?_⟩, by simp [intOf]; omega⟩
        · show World.ownsRow _ _ _ _ _ _ _
          rw [List.take_add_one, HBJ.out, List.map_append]
          exact hown9
        · exact (HB.out.trans (((Below.refl _ wr).alloc (Nat.le_refl _) _).mono HB.out.size)).trans (hwent9.kept.below (fun k hk => HF.out k hk) (Nat.le_trans HB.out.size (by simp)))
        · intro q hq
          rcases hwent9.block with h | h
          · exact HF.out q (h ▸ hq)
          · have h1 := Option.some.inj (h.symm.trans hq)
            have h2 := HB.out.size
            simp at h1
            omega
      · have : k = j := by omega
        subst this
        have hnl : ¬ (k : Int) < k := by omega
        go_wp2
        go_ret2
        refine ⟨A, c, rfl, ?_, HB.out, HF.out⟩
        have := HO.out
        rwa [List.take_of_length_le (by rw [HZ.out]; exact Nat.le_refl _)] at this
  · rw [if_neg hp]
    obtain ⟨z, hz⟩ : ∃ z, placeE on i off k = z := ⟨_, rfl⟩
    rw [hz] at HP hp ⊢
    clear h hz
    go_enter Try.func29, Try.ntmps29
    go_wp2_with (go_at_call 36; (with_reducible refine HP.out.mono ?_); rintro e w1 ⟨rfl, rfl⟩)
    go_ret2
    exact ⟨none, 0, rfl, (nilB w).1, Below.refl _ _, (nilB w).2⟩
theorem laid_take {bs zs : List Int} {q j : Nat} {z : Int} (hz : zs[j]? = some z) (hb : q + zs.length ≤ bs.length) : (laid bs q (zs.take j)).set (q + j) z = laid bs q (zs.take (j + 1)) := by
  have hj := (List.getElem?_eq_some_iff.1 hz).1
  have h1 : (zs.take j).length = j := by rw [List.length_take]; omega
  have h2 : (zs.take (j + 1)).length = j + 1 := by rw [List.length_take]; omega
  unfold laid
  rw [h1, h2, List.take_add_one, hz]
  rw [List.set_append_right _ _ (by simp; omega)]
  rw [show q + j - (bs.take q ++ zs.take j).length = 0 by simp; omega]
  rw [List.drop_eq_getElem_cons (by omega : q + j < bs.length), List.set_cons_zero]
  simp [List.append_assoc, Nat.add_assoc]
set_option maxHeartbeats 2000000 in
theorem rwrite_any (w : World) (r P n : Nat) (on : List Bool) (bs : List Int) (i off : Int) (A : Option Addr) (c : Nat) (zs : List Int) (h : Ra w r P n on bs) (hs : ReadsB w A zs) (hD : 0 < zs.length → ∀ g o, A = some ⟨g, o, none⟩ → g ≠ P) (hln : zs.length ≤ 140737488351232) :
    Calls Try.prog 30 #[.pointer (some ⟨r, 0, none⟩), .int .i64 i, .int .i64 off, .slice A zs.length c] w fun e w' => e = .returned (.int .i64 (placeE on i off zs.length)) ∧ Ra w' r P n on (writeZ on bs i off zs) ∧ Kept (fun b => b = P) w w' := by
  have HP := Lib.hid (rplace_any w r P n on bs i off zs.length h)
  unfold writeZ
  obtain ⟨k, hk⟩ : ∃ k, zs.length = k := ⟨_, rfl⟩
  by_cases hp : placeE on i off zs.length = 0
  · rw [if_pos hp]
    rw [hp] at HP ⊢
    obtain ⟨h1, h2, h3, h4, h5⟩ := placeE_ok hp
    obtain ⟨h6, h7, h8⟩ := isB_ok h1
    obtain ⟨i, rfl⟩ : ∃ j : Nat, i = j := ⟨i.toNat, by omega⟩
    obtain ⟨off, rfl⟩ : ∃ j : Nat, off = j := ⟨off.toNat, by omega⟩
    have hin : i < n := by have := h.len; omega
    have hoff : off + k ≤ 64 := by omega
    have hq : i * 64 + off + zs.length ≤ bs.length := by rw [h.size]; omega
    have HQ := Lib.hid hq
    have HH := Lib.hid h
    have HS := Lib.hid hs
    have HDD := Lib.hid hD
    have HK := Lib.hid hk
    rw [show (i : Int).toNat * 64 + (off : Int).toNat = i * 64 + off by simp]
    rw [hk] at HP ⊢
    clear h h1 h2 h3 h4 h5 h6 h7 h8 hp hq hs hD hk hln
    go_enter Try.func30, Try.ntmps30
    go_wp2_with (go_at_call 36; (with_reducible refine HP.out.mono ?_); rintro e w1 ⟨rfl, rfl⟩)
    go_loopw [10] (fun v10 wr => ∃ j : Nat, j ≤ k ∧ v10 = .int .i64 j ∧ Hid (Ra wr r P n on (laid bs (i * 64 + off) (zs.take j))) ∧ Hid (Kept (fun b => b = P) w wr)) (fun v10 _ => k - (intOf v10).toNat)
    case atStart => exact ⟨0, Nat.zero_le _, rfl, by rw [show laid bs (i * 64 + off) (zs.take 0) = bs by simp [laid]]; exact HH.out, Kept.refl _ _⟩
    case round =>
      obtain ⟨j, hj, rfl, HR, HB⟩ := hrel
      by_cases hlt : j < k
      · obtain ⟨b, hb⟩ : ∃ b, zs[j]? = some b := ⟨_, List.getElem?_eq_getElem (by rw [HK.out]; exact hlt)⟩
        obtain ⟨g, o, rfl, hcell⟩ := HS.out (by rw [HK.out]; omega)
        have hgP := HDD.out (by rw [HK.out]; omega) g o rfl
        have y0 := hcell j b hb
        have y1 : wr.cell? ⟨g, o + j, none⟩ = some (.int .u8 b) := (HB.out.cell (p := ⟨g, o + j, none⟩) (World.block_lt_of_cell? w _ y0) hgP).trans y0
        have c0 := HR.out.cells.1
        obtain ⟨b2, hb2⟩ : ∃ b2, (laid bs (i * 64 + off) (zs.take j))[i * 64 + (off + j)]? = some b2 := ⟨_, List.getElem?_eq_getElem (by rw [HR.out.size]; omega)⟩
        have y2 := HR.out.cells.2.2.1 i (off + j) b2 (by omega) hb2
        have f2 := HR.out.fz (i * 65 + 1 + (off + j))
        have HP2 := Lib.hid (HR.out.put hin (show off + j < 64 by omega) b)
        rw [← Nat.add_assoc (i * 64), laid_take hb HQ.out] at HP2
        have hoj : (off : Int) + j < 64 := by omega
        clear hcell y0 hb hb2
        go_wp2_with fail
        go_region
        have HR2 := Lib.hid (HP2.out.below (Below.refl _ _).drew)
        have HB2 : Hid (Kept (fun b => b = P) w (wr.setCell ⟨P, i * 65 + 1 + (off + j), none⟩ (.int .u8 b)).drew) := (HB.out.setCell (p := ⟨P, i * 65 + 1 + (off + j), none⟩) (.inl rfl) _).drew
        clear HP2 HB HR y1 y2 f2 c0
        go_wp2
        exact ⟨⟨j + 1, by omega, by simp, HR2, HB2⟩, by simp [intOf]; omega⟩
      · have : k = j := by omega
        subst this
        have hnl : ¬ (k : Int) < k := by omega
        go_wp2
        go_ret
        refine ⟨rfl, ?_, HB.out⟩
        have := HR.out
        rwa [List.take_of_length_le (by rw [HK.out]; exact Nat.le_refl _)] at this
  · rw [if_neg hp]
    have HH := Lib.hid h
    obtain ⟨z, hz⟩ : ∃ z, placeE on i off zs.length = z := ⟨_, rfl⟩
    rw [hz] at HP hp ⊢
    rw [hk] at HP ⊢
    clear h hz hk
    go_enter Try.func30, Try.ntmps30
    go_wp2_with (go_at_call 36; (with_reducible refine HP.out.mono ?_); rintro e w1 ⟨rfl, rfl⟩)
    go_ret
    exact ⟨rfl, HH.out, Kept.refl _ _⟩
end Go.Proofs.Ytbhpikagjcojbaa.Ar

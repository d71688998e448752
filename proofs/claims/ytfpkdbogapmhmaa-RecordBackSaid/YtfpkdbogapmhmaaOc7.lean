/- Words of the octet chapter (by port20.py). -/
import Derived.Test.YtfpkdbogapmhmaaOc6
namespace Go.Proofs.Ytfpkdbogapmhmaa.O
open Go.RowKit Go.Proofs.Ytfpkdbogapmhmaa.Mem
theorem RdV.back {T : TypeId} {w w' : World} {r : Nat} {A : Option Addr} {c : Nat} {zs ys : List Int} {F : Nat → Prop} (h : RdV T w r A c zs F) (h2 : Rd T w' r ys F) (hk : Kept (fun b => b = r) w w') :
    Rd T (w'.setCell ⟨r, 0, none⟩ (.slice A zs.length c)) r zs F ∧ Kept (fun b => b = r) w (w'.setCell ⟨r, 0, none⟩ (.slice A zs.length c)) := by
  have hkp : Kept (fun b => b = r) w (w'.setCell ⟨r, 0, none⟩ (.slice A zs.length c)) := hk.setCell (p := ⟨r, 0, none⟩) (.inl rfl) _
  obtain ⟨A2, c2, h2⟩ := h2
  obtain ⟨A', c', e, h3, h4, h5⟩ := h.read
  obtain ⟨rfl, rfl⟩ : A = A' ∧ c = c' := by simpa using e
  refine ⟨⟨A, c, ?_, ⟨A, c, rfl, h3, h4, fun hp => ?_⟩, h.hr, h.hd, h.fm⟩, hkp⟩
  · rw [heap_setCell_same w' r 0 _ _ _ h2.row]
    simp
  · obtain ⟨g, o, rfl, h6⟩ := h5 hp
    exact ⟨g, o, rfl, fun j u hu => (hkp.cell (World.block_lt_of_cell? w _ (h6 j u hu)) (h.hd hp g o rfl).2).trans (h6 j u hu)⟩
/-- What a number that is most at most is. -/
def intE (zs : List Int) (k m : Int) : Int := if m < 0 then 5 else if numE zs k ≠ 0 then numE zs k else if numV zs k > m then 5 else 0
def intV (zs : List Int) (k m : Int) : Int := if m < 0 then 0 else if numE zs k ≠ 0 then 0 else if numV zs k > m then 0 else numV zs k
def intL (zs : List Int) (k m : Int) : List Int := if m < 0 then zs else if numE zs k ≠ 0 then zs else if numV zs k > m then zs else numL zs k
theorem numL_bad {zs : List Int} {k : Int} (h : numE zs k ≠ 0) : numL zs k = zs := by
  unfold numE at h
  unfold numL
  split
  · rfl
  · rename_i hk
    rw [if_neg hk] at h
    split
    · rfl
    · rename_i hl
      rw [if_neg hl] at h
      exact absurd rfl h
set_option maxHeartbeats 4000000 in
theorem int_any (w : World) (r : Nat) (zs : List Int) (F : Nat → Prop) (h : Rd 95 w r zs F) (hB : Bytes zs) (k m : Int) (hm1 : m ≤ 9223372036854775807) : Calls Try.prog 74 #[.pointer (some ⟨r, 0, none⟩), .int .i64 k, .int .i64 m] w fun e w' => e = .returned (.tuple #[.int .i64 (intV zs k m), .int .i64 (intE zs k m)]) ∧ Rd 95 w' r (intL zs k m) F ∧ Kept (fun b => b = r) w w' := by
  unfold intV intE intL
  by_cases hm : m < 0
  · rw [if_pos hm, if_pos hm, if_pos hm]
    go_enter Try.func74, Try.ntmps74
    go_wp2
    go_ret2
    exact ⟨rfl, h, Kept.refl _ _⟩
  · rw [if_neg hm, if_neg hm, if_neg hm]
    have HN := Lib.hid (number_any w r zs F h hB k)
    obtain ⟨v0, v1⟩ := numV_range hB k
    have HL : Hid (numE zs k ≠ 0 → numL zs k = zs) := numL_bad
    obtain ⟨V, hV⟩ : ∃ V, numV zs k = V := ⟨_, rfl⟩
    obtain ⟨E, hE⟩ : ∃ E, numE zs k = E := ⟨_, rfl⟩
    obtain ⟨L, hL⟩ : ∃ L, numL zs k = L := ⟨_, rfl⟩
    rw [hV, hE, hL] at HN
    rw [hE, hL] at HL
    rw [hV] at v0 v1
    rw [hV, hE, hL]
    clear hV hE hL
    obtain ⟨A, c, h⟩ := h
    have c0 : w.cell? ⟨r, 0, none⟩ = some (.slice A zs.length c) := cell_row h.row rfl
    have HH := Lib.hid h
    clear h
    by_cases hE0 : E ≠ 0
    · rw [if_pos hE0, if_pos hE0, if_pos hE0]
      have hE1 : (E != 0) = true := bne_iff_ne.2 hE0
      obtain ⟨n, hn⟩ : ∃ n, zs.length = n := ⟨_, rfl⟩
      rw [hn] at c0
      clear hn
      go_enter Try.func74, Try.ntmps74
      go_wp2_with (first | (go_at_call 68; (with_reducible refine HN.out.mono ?_); rintro e w1 ⟨rfl, g1, g2⟩) | fail)
      go_ret2
      exact ⟨rfl, HL.out hE0 ▸ g1, g2⟩
    · obtain rfl : E = 0 := by omega
      rw [if_neg hE0, if_neg hE0, if_neg hE0]
      clear hE0
      by_cases hb : V > m
      · rw [if_pos hb, if_pos hb, if_pos hb]
        obtain ⟨n, hn⟩ : ∃ n, zs.length = n := ⟨_, rfl⟩
        have HBK : Hid (∀ w' ys, Rd 95 w' r ys F → Kept (fun b => b = r) w w' → Rd 95 (w'.setCell ⟨r, 0, none⟩ (.slice A n c)) r zs F ∧ Kept (fun b => b = r) w (w'.setCell ⟨r, 0, none⟩ (.slice A n c))) := fun w' ys h1 h2 => hn ▸ HH.out.back h1 h2
        rw [hn] at c0
        clear hn
        go_enter Try.func74, Try.ntmps74
        go_wp2_with (first | (go_at_call 68; (with_reducible refine HN.out.mono ?_); rintro e w1 ⟨rfl, g1, g2⟩; have G := Lib.hid (HBK.out _ _ g1 g2); (obtain ⟨A2, c2, g1⟩ := g1); have d0 := cell_row (j := 0) g1.row rfl; have f0 := free_row (j := 0) g1.row; clear g1 g2) | fail)
        go_ret2
        exact ⟨rfl, G.out⟩
      · rw [if_neg hb, if_neg hb, if_neg hb]
        obtain ⟨n, hn⟩ : ∃ n, zs.length = n := ⟨_, rfl⟩
        rw [hn] at c0
        clear hn
        go_enter Try.func74, Try.ntmps74
        go_wp2_with (first | (go_at_call 68; (with_reducible refine HN.out.mono ?_); rintro e w1 ⟨rfl, g1, g2⟩; have G := Lib.hid (And.intro g1 g2); clear g1 g2) | fail)
        go_ret2
        exact ⟨rfl, G.out⟩
end Go.Proofs.Ytfpkdbogapmhmaa.O

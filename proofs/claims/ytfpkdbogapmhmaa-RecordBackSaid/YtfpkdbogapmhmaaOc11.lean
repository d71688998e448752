/- The program's reader: a word, a capability. -/
import Derived.Test.YtfpkdbogapmhmaaOc10
namespace Go.Proofs.Ytfpkdbogapmhmaa.O
open Go.RowKit Go.Proofs.Ytfpkdbogapmhmaa.Mem
theorem Rd.mono {T : TypeId} {w : World} {r : Nat} {zs : List Int} {F G : Nat → Prop} (h : Rd T w r zs F) (hFG : ∀ b, F b → G b) : Rd T w r zs G := by
  obtain ⟨A, c, h⟩ := h
  exact ⟨A, c, h.row, h.read, hFG _ h.hr, fun hp g o e => ⟨hFG _ (h.hd hp g o e).1, (h.hd hp g o e).2⟩, h.fm⟩
theorem Rd.tight {T : TypeId} {w : World} {r : Nat} {zs : List Int} {F : Nat → Prop} (h : Rd T w r zs F) : Rd T w r zs (fun b => F b ∧ b < w.heap.size) := by
  obtain ⟨A, c, h⟩ := h
  exact ⟨A, c, h.row, h.read, ⟨h.hr, lt_of_row h.row⟩, fun hp g o e => ⟨⟨(h.hd hp g o e).1, h.low hp g o e⟩, (h.hd hp g o e).2⟩, h.fm⟩
def wordE (zs : List Int) : Int := if zs.length < 16 then 17 else 0
def wordH (zs : List Int) : Int := if zs.length < 16 then 0 else val ((zs.drop 8).take 8)
def wordL (zs : List Int) : Int := if zs.length < 16 then 0 else val (zs.take 8)
def wordR (zs : List Int) : List Int := if zs.length < 16 then zs else zs.drop 16
theorem word_all (w : World) (r : Nat) (zs : List Int) (F : Nat → Prop) (h : Rd 95 w r zs F) (hB : Bytes zs) : Calls Try.prog 75 #[.pointer (some ⟨r, 0, none⟩)] w fun e w' => e = .returned (.tuple #[.agg #[.int .u64 (wordH zs), .int .u64 (wordL zs)], .int .i64 (wordE zs)]) ∧ Rd 95 w' r (wordR zs) F ∧ Kept (fun b => b = r) w w' := by
  unfold wordH wordL wordE wordR
  by_cases hl : zs.length < 16
  · rw [if_pos hl, if_pos hl, if_pos hl, if_pos hl]
    refine (word_bad w r zs F h hl).mono ?_
    rintro e w' ⟨rfl, hb⟩
    exact ⟨rfl, h.below hb, Kept.of_below hb⟩
  · rw [if_neg hl, if_neg hl, if_neg hl, if_neg hl]
    exact word_ok w r zs F h (by omega) hB
def kaE (zs : List Int) : Int := if zs.length < 24 then 17 else if val (zs.take 8) > 4611686018427387904 then 5 else 0
def kaO (zs : List Int) : Int := if zs.length < 24 then 0 else if val (zs.take 8) > 4611686018427387904 then 0 else val (zs.take 8)
def kaH (zs : List Int) : Int := if zs.length < 24 then 0 else if val (zs.take 8) > 4611686018427387904 then 0 else val ((zs.drop 16).take 8)
def kaL (zs : List Int) : Int := if zs.length < 24 then 0 else if val (zs.take 8) > 4611686018427387904 then 0 else val ((zs.drop 8).take 8)
def kaR (zs : List Int) : List Int := if zs.length < 24 then zs else if val (zs.take 8) > 4611686018427387904 then zs else zs.drop 24
theorem box_three {W : World} {p : Nat} {V0 U0 T0 V U T : Value} {t : TypeId} (prow : W.heap[p]? = some (.cells #[V0, U0, T0] t)) : (((W.setCell ⟨p, 0, none⟩ V).setCell ⟨p, 1, none⟩ U).setCell ⟨p, 2, none⟩ T).heap[p]? = some (.cells #[V, U, T] t) := by
  have h1 := heap_setCell_same _ p 0 _ _ V prow
  have h2 := heap_setCell_same _ p 1 _ _ U h1
  have h3 := heap_setCell_same _ p 2 _ _ T h2
  simpa using h3
theorem kept3 (W : World) (p : Nat) (a b c : Value) : Kept (fun x => p ≤ x) W (((W.setCell ⟨p, 0, none⟩ a).setCell ⟨p, 1, none⟩ b).setCell ⟨p, 2, none⟩ c) :=
  (((Kept.refl (fun x => p ≤ x) W).setCell (p := ⟨p, 0, none⟩) (.inl (Nat.le_refl _)) _).setCell (p := ⟨p, 1, none⟩) (.inl (Nat.le_refl _)) _).setCell (p := ⟨p, 2, none⟩) (.inl (Nat.le_refl _)) _
set_option maxHeartbeats 4000000 in
theorem ka_bad (w : World) (r : Nat) (zs : List Int) (F : Nat → Prop) (h : Rd 95 w r zs F) (hl : zs.length < 24) : Calls Try.prog 69 #[.pointer (some ⟨r, 0, none⟩)] w fun e w' => e = .returned (.tuple #[.agg #[.int .i64 0, .int .u64 0, .int .u64 0], .int .i64 17]) ∧ Below w.heap.size w w' := by
  obtain ⟨A, c, h⟩ := h
  have c0 : w.cell? ⟨r, 0, none⟩ = some (.slice A zs.length c) := cell_row h.row rfl
  have hr := lt_of_row h.row
  obtain ⟨m, hm⟩ : ∃ m, zs.length = m := ⟨_, rfl⟩
  rw [hm] at c0 hl
  clear h hm
  have hbx := (Below.refl w.heap.size w).alloc (Nat.le_refl _) (.cells #[.int .i64 0, .int .u64 0, .int .u64 0] 26)
  go_enter Try.func69, Try.ntmps69
  go_wp2
  go_returns
  exact ⟨rfl, hbx⟩
set_option maxHeartbeats 4000000 in
theorem ka_great (w : World) (r : Nat) (zs : List Int) (F : Nat → Prop) (h : Rd 95 w r zs F) (hl : ¬ zs.length < 24) (hB : Bytes zs) (hg : val (zs.take 8) > 4611686018427387904) : Calls Try.prog 69 #[.pointer (some ⟨r, 0, none⟩)] w fun e w' => e = .returned (.tuple #[.agg #[.int .i64 0, .int .u64 0, .int .u64 0], .int .i64 5]) ∧ Rd 95 w' r zs F ∧ Kept (fun b => b = r) w w' := by
  have hbx := (Below.refl w.heap.size w).alloc (Nat.le_refl _) (.cells #[.int .i64 0, .int .u64 0, .int .u64 0] 26)
  have HT := Lib.hid (h.tight.below hbx)
  have hr := h.lt
  have hne : numE zs 8 = 0 := by unfold numE; rw [if_neg (by simp), if_neg (by omega)]
  have hnv : numV zs 8 = val (zs.take 8) := by unfold numV; rw [if_neg (by simp), if_neg (by omega)]; rfl
  have HI := Lib.hid (int_any _ r zs _ HT.out hB 8 4611686018427387904 (by decide))
  have e1 : intE zs 8 4611686018427387904 = 5 := by unfold intE; rw [hne, hnv, if_neg (by decide), if_neg (by decide), if_pos hg]
  have e2 : intL zs 8 4611686018427387904 = zs := by unfold intL; rw [hne, hnv, if_neg (by decide), if_neg (by decide), if_pos hg]
  rw [e1, e2] at HI
  obtain ⟨A, c, c0⟩ : ∃ A c, w.cell? ⟨r, 0, none⟩ = some (.slice A zs.length c) := by
    obtain ⟨A, c, h⟩ := h
    exact ⟨A, c, cell_row h.row rfl⟩
  obtain ⟨m, hm⟩ : ∃ m, zs.length = m := ⟨_, rfl⟩
  rw [hm] at c0 hl
  have hl' : ¬ ((m : Int) < 24) := by omega
  have prow := Lib.hid (heap_alloc_new w (.cells #[.int .i64 0, .int .u64 0, .int .u64 0] 26))
  have HBX := Lib.hid hbx
  have HR := Lib.hid hr
  clear h hm e1 e2 hne hnv hg hbx
  go_enter Try.func69, Try.ntmps69
  go_wp2_with fail
  (with_reducible refine HI.out.mono ?_)
  rintro e w1 ⟨rfl, g1, g2⟩
  have G1 := Lib.hid g1
  have G2 := Lib.hid g2
  have prow1 := g2.row prow.out (by have := HR.out; omega : ¬ w.heap.size = r)
  have z0 : w1.cell? ⟨w.heap.size, 0, none⟩ = some (.int .i64 0) := cell_row prow1 rfl
  have z1 : w1.cell? ⟨w.heap.size, 1, none⟩ = some (.int .u64 0) := cell_row prow1 rfl
  have z2 : w1.cell? ⟨w.heap.size, 2, none⟩ = some (.int .u64 0) := cell_row prow1 rfl
  have zf0 := free_row (j := 0) prow1
  have zf1 := free_row (j := 1) prow1
  have zf2 := free_row (j := 2) prow1
  have PROW := Lib.hid prow1
  clear g1 g2 prow1 c0 HI HT prow
  generalize w.alloc (.cells #[.int .i64 0, .int .u64 0, .int .u64 0] 26) = w0 at *
  obtain ⟨p, hp⟩ : ∃ p, w.heap.size = p := ⟨_, rfl⟩
  have HP := Lib.hid hp
  rw [hp] at z0 z1 z2 zf0 zf1 zf2 PROW G1 HR
  rw [hp]
  clear hp
  go_wp2_with fail
  (try simp only [Exit.inBlock, Exit.then])
  refine bodyPost_ret (box_ret rfl _ _ p (.agg #[.int .i64 0, .int .u64 0, .int .u64 0]) rfl (run_loadVar_row _ p 26 26 _ (0, 0) _ (box_three PROW.out) Try.underlying26 rfl info27)) rfl ?_
  have FIN : Hid (∀ W3, Kept (fun b => p ≤ b) w1 W3 → Rd 95 W3 r zs F ∧ Kept (fun b => b = r) w W3) := fun W3 hk => ⟨(G1.out.kept hk (fun b hb => by have := hb.2; omega)).mono (fun b hb => hb.1), ((Kept.of_below (S := fun b => b = r) HBX.out).trans G2.out (fun x hx => .inl hx)).trans hk (fun x hx => .inr (by rw [HP.out]; exact hx))⟩
  exact ⟨rfl, FIN.out _ (kept3 _ _ _ _ _)⟩
set_option maxHeartbeats 4000000 in
theorem ka_ok (w : World) (r : Nat) (zs : List Int) (F : Nat → Prop) (h : Rd 95 w r zs F) (hl : ¬ zs.length < 24) (hB : Bytes zs) (hg : ¬ val (zs.take 8) > 4611686018427387904) : Calls Try.prog 69 #[.pointer (some ⟨r, 0, none⟩)] w fun e w' => e = .returned (.tuple #[.agg #[.int .i64 (val (zs.take 8)), .int .u64 (val ((zs.drop 16).take 8)), .int .u64 (val ((zs.drop 8).take 8))], .int .i64 0]) ∧ Rd 95 w' r (zs.drop 24) F ∧ Kept (fun b => b = r) w w' := by
  have hbx := (Below.refl w.heap.size w).alloc (Nat.le_refl _) (.cells #[.int .i64 0, .int .u64 0, .int .u64 0] 26)
  have HT := Lib.hid (h.tight.below hbx)
  have hr := h.lt
  have hne : numE zs 8 = 0 := by unfold numE; rw [if_neg (by simp), if_neg (by omega)]
  have hnv : numV zs 8 = val (zs.take 8) := by unfold numV; rw [if_neg (by simp), if_neg (by omega)]; rfl
  have hnl : numL zs 8 = zs.drop 8 := by unfold numL; rw [if_neg (by simp), if_neg (by omega)]; rfl
  have HI := Lib.hid (int_any _ r zs _ HT.out hB 8 4611686018427387904 (by decide))
  have e1 : intE zs 8 4611686018427387904 = 0 := by unfold intE; rw [hne, hnv, if_neg (by decide), if_neg (by decide), if_neg hg]
  have e2 : intL zs 8 4611686018427387904 = zs.drop 8 := by unfold intL; rw [hne, hnv, hnl, if_neg (by decide), if_neg (by decide), if_neg hg]
  have e3 : intV zs 8 4611686018427387904 = val (zs.take 8) := by unfold intV; rw [hne, hnv, if_neg (by decide), if_neg (by decide), if_neg hg]
  rw [e1, e2, e3] at HI
  have HW : Hid (∀ w1, Rd 95 w1 r (zs.drop 8) (fun b => F b ∧ b < w.heap.size) → Calls Try.prog 75 #[.pointer (some ⟨r, 0, none⟩)] w1 fun e w' => e = .returned (.tuple #[.agg #[.int .u64 (val ((zs.drop 16).take 8)), .int .u64 (val ((zs.drop 8).take 8))], .int .i64 0]) ∧ Rd 95 w' r (zs.drop 24) (fun b => F b ∧ b < w.heap.size) ∧ Kept (fun b => b = r) w1 w') := fun w1 hw1 => by
    have := word_ok w1 r (zs.drop 8) _ hw1 (by rw [List.length_drop]; omega) (fun z hz => hB z (List.mem_of_mem_drop hz))
    rwa [List.drop_drop, List.drop_drop] at this
  obtain ⟨A, c, c0⟩ : ∃ A c, w.cell? ⟨r, 0, none⟩ = some (.slice A zs.length c) := by
    obtain ⟨A, c, h⟩ := h
    exact ⟨A, c, cell_row h.row rfl⟩
  obtain ⟨m, hm⟩ : ∃ m, zs.length = m := ⟨_, rfl⟩
  rw [hm] at c0 hl
  have hl' : ¬ ((m : Int) < 24) := by omega
  have prow := Lib.hid (heap_alloc_new w (.cells #[.int .i64 0, .int .u64 0, .int .u64 0] 26))
  have HBX := Lib.hid hbx
  have HR := Lib.hid hr
  obtain ⟨O, hO⟩ : ∃ O, val (zs.take 8) = O := ⟨_, rfl⟩
  obtain ⟨V, hV⟩ : ∃ V, val ((zs.drop 16).take 8) = V := ⟨_, rfl⟩
  obtain ⟨U, hU⟩ : ∃ U, val ((zs.drop 8).take 8) = U := ⟨_, rfl⟩
  rw [hO] at HI
  rw [hV, hU] at HW
  rw [hO, hV, hU]
  clear h hm e1 e2 e3 hne hnv hnl hg hbx hO hV hU
  go_enter Try.func69, Try.ntmps69
  go_wp2_with fail
  (with_reducible refine HI.out.mono ?_)
  rintro e w1 ⟨rfl, g1, g2⟩
  have G2 := Lib.hid g2
  have prow1 := Lib.hid (g2.row prow.out (by have := HR.out; omega : ¬ w.heap.size = r))
  have HX := Lib.hid (HW.out w1 g1)
  clear g1 g2 c0 HI HT prow HW
  go_wp2_with fail
  (with_reducible refine HX.out.mono ?_)
  rintro e w2 ⟨rfl, g3, g4⟩
  have G3 := Lib.hid g3
  have G4 := Lib.hid (G2.out.trans g4 (fun x hx => .inl hx))
  have prow2 := g4.row prow1.out (by have := HR.out; omega : ¬ w.heap.size = r)
  have z0 : w2.cell? ⟨w.heap.size, 0, none⟩ = some (.int .i64 0) := cell_row prow2 rfl
  have z1 : w2.cell? ⟨w.heap.size, 1, none⟩ = some (.int .u64 0) := cell_row prow2 rfl
  have z2 : w2.cell? ⟨w.heap.size, 2, none⟩ = some (.int .u64 0) := cell_row prow2 rfl
  have zf0 := free_row (j := 0) prow2
  have zf1 := free_row (j := 1) prow2
  have zf2 := free_row (j := 2) prow2
  have PROW := Lib.hid prow2
  clear g3 g4 prow2 prow1 G2 HX
  generalize w.alloc (.cells #[.int .i64 0, .int .u64 0, .int .u64 0] 26) = w0 at *
  obtain ⟨p, hp⟩ : ∃ p, w.heap.size = p := ⟨_, rfl⟩
  have HP := Lib.hid hp
  have hpw := lt_of_row PROW.out
  rw [hp] at z0 z1 z2 zf0 zf1 zf2 PROW G3 HR hpw
  rw [hp]
  clear hp
  go_wp2_with fail
  (try simp only [Exit.inBlock, Exit.then])
  refine bodyPost_ret (box_ret rfl _ _ p (.agg #[.int .i64 O, .int .u64 V, .int .u64 U]) rfl (run_loadVar_row _ p 26 26 _ (0, 0) _ (((Kept.refl (fun _ => False) _).alloc _).row (box_three PROW.out) (fun h => h)) Try.underlying26 rfl info27)) rfl ?_
  have FIN : Hid (∀ W3, Kept (fun b => p ≤ b) w2 W3 → Rd 95 W3 r (zs.drop 24) F ∧ Kept (fun b => b = r) w W3) := fun W3 hk => ⟨(G3.out.kept hk (fun b hb => by have := hb.2; omega)).mono (fun b hb => hb.1), ((Kept.of_below (S := fun b => b = r) HBX.out).trans G4.out (fun x hx => .inl hx)).trans hk (fun x hx => .inr (by rw [HP.out]; exact hx))⟩
  exact ⟨rfl, FIN.out _ ((kept3 _ _ _ _ _).alloc _)⟩
theorem ka_all (w : World) (r : Nat) (zs : List Int) (F : Nat → Prop) (h : Rd 95 w r zs F) (hB : Bytes zs) : Calls Try.prog 69 #[.pointer (some ⟨r, 0, none⟩)] w fun e w' => e = .returned (.tuple #[.agg #[.int .i64 (kaO zs), .int .u64 (kaH zs), .int .u64 (kaL zs)], .int .i64 (kaE zs)]) ∧ Rd 95 w' r (kaR zs) F ∧ Kept (fun b => b = r) w w' := by
  unfold kaO kaH kaL kaE kaR
  by_cases hl : zs.length < 24
  · rw [if_pos hl, if_pos hl, if_pos hl, if_pos hl, if_pos hl]
    refine (ka_bad w r zs F h hl).mono ?_
    rintro e w' ⟨rfl, hb⟩
    exact ⟨rfl, h.below hb, Kept.of_below hb⟩
  · rw [if_neg hl, if_neg hl, if_neg hl, if_neg hl, if_neg hl]
    by_cases hg : val (zs.take 8) > 4611686018427387904
    · rw [if_pos hg, if_pos hg, if_pos hg, if_pos hg, if_pos hg]
      exact ka_great w r zs F h hl hB hg
    · rw [if_neg hg, if_neg hg, if_neg hg, if_neg hg, if_neg hg]
      exact ka_ok w r zs F h hl hB hg
end Go.Proofs.Ytfpkdbogapmhmaa.O

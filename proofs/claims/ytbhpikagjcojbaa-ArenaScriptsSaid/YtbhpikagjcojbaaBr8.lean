/- step: Take, Give. -/
import Derived.Test.YtbhpikagjcojbaaBr7
namespace Go.Proofs.Ytbhpikagjcojbaa.Ar
open Go.RowKit Go.Proofs.Ytbhpikagjcojbaa.Mem
set_option linter.unusedVariables false
/-- A list of the law's own, away from both arenas. -/
structure Mine (w wr : World) (v : Value) (e : TypeId) (len : Nat) (p a t r P : Nat) : Prop where
  own : ∃ xs, wr.ownsRow 0 e 1 v len xs
  far : ∀ b, v.ownBlock = some b → w.heap.size ≤ b ∧ b ≠ p ∧ b ≠ a ∧ b ≠ t ∧ b ≠ r ∧ b ≠ P
section
variable {w wr w' : World} {p a t r P n len : Nat} {e : TypeId} {v : Value} {on on' : List Bool} {bs bs' : List Int}
theorem Mine.store (h : Mine w wr v e len p a t r P) (T : Two w wr p a t r P n on bs on' bs') {i : Nat} (hi : i < len) : ∃ g c u, v = .slice (some ⟨g, 0, none⟩) len c ∧ wr.cell? ⟨g, i, none⟩ = some u ∧ wr.frozen? ⟨g, i, none⟩ = false ∧ ∀ x, Mine w (wr.setCell ⟨g, i, none⟩ x) v e len p a t r P ∧ Two w (wr.setCell ⟨g, i, none⟩ x) p a t r P n on bs on' bs' := by
  obtain ⟨xs, ho⟩ := h.own
  obtain ⟨g, c, cur, rfl, hg, hc, hcm, hs, _⟩ := own_form ho (by omega)
  have hic : i < cur.size := by rw [hs]; omega
  refine ⟨g, c, cur[i], rfl, cell_row hg (Array.getElem?_eq_getElem hic), free_row hg, fun x => ⟨⟨?_, h.far⟩, ?_⟩⟩
  · exact own_wrote ho hg (heap_setCell_same wr g i _ _ x hg) (by simp)
  · refine T.kept (S := fun b => b = g) ((Kept.refl (fun b => b = g) wr).setCell (p := ⟨g, i, none⟩) (.inl rfl) x) (fun b hb => ?_)
    subst hb
    exact h.far _ rfl
theorem mine_new {W : World} {xs : List Value} (T : Two w W p a t r P n on bs on' bs') (hf : Fresh W v) (ho : wr.ownsRow 0 e 1 v len xs) : Mine w wr v e len p a t r P :=
  ⟨⟨xs, ho⟩, fun b hb => by
    have h1 := hf b hb
    have h2 := T.lt
    have h3 := T.bel.size
    exact ⟨by omega, by omega, by omega, by omega, by omega, by omega⟩⟩
theorem own_arena {W : World} {xs : List Value} {S : Nat → Prop} (T : Two w W p a t r P n on bs on' bs') (hf : Fresh W v) (ho : wr.ownsRow 0 e 1 v len xs) (hk : Kept S wr w') (hS : ∀ b, S b → b = a ∨ b = t ∨ b = P) : w'.ownsRow 0 e 1 v len xs :=
  own_kept ho hk (fun b hb hs => by
    have h1 := hf b hb
    have h2 := T.lt
    have h3 := hS b hs
    omega)
end
/-- Both arenas are alike again. -/
def Done (w : World) (p a t r P n : Nat) (w' : World) : Prop := ∃ on bs, Two w w' p a t r P n on bs on bs
/-- A call as a value. -/
def opV (k pg off nn : Int) (vl vd : Value) : Value := .agg #[.int .i64 k, .int .i64 pg, .int .i64 off, .int .i64 nn, vl, vd]
set_option maxHeartbeats 4000000 in
set_option maxRecDepth 100000 in
theorem step_take (w wz : World) (p a t r P n : Nat) (on : List Bool) (bs : List Int) (h : Two w wz p a t r P n on bs on bs) (pg off nn : Int) (vl vd : Value) :
    Calls Try.prog 18 #[.pointer (some ⟨p, 0, none⟩), .pointer (some ⟨r, 0, none⟩), opV 1 pg off nn vl vd] wz fun e w' => e = .returned (.bool true) ∧ Done w p a t r P n w' := by
  have T0 := Lib.hid (h.below ((Below.refl _ wz).alloc (Nat.le_refl _) (.cells #[.int .i64 1, .int .i64 pg, .int .i64 off, .int .i64 nn, vl, vd] 48)))
  have HTK := Lib.hid (take_any _ p a t n on bs nn T0.out.l)
  obtain ⟨R, hR⟩ : ∃ R, takeR on bs n nn = R := ⟨_, rfl⟩
  have HR := Lib.hid hR
  rw [hR] at HTK
  have HNUM := Lib.hid num_any
  obtain ⟨W0, hW0⟩ : ∃ W0, wz.alloc (.cells #[.int .i64 1, .int .i64 pg, .int .i64 off, .int .i64 nn, vl, vd] 48) = W0 := ⟨_, rfl⟩
  have box : W0.heap[wz.heap.size]? = some (.cells #[.int .i64 1, .int .i64 pg, .int .i64 off, .int .i64 nn, vl, vd] 48 (0, 0)) := by rw [← hW0]; exact heap_alloc_new wz _
  have hbz := Lib.hid (show wz.heap.size < W0.heap.size by rw [← hW0]; simp)
  have HBX := Lib.hid box
  obtain ⟨Z, hZ⟩ : ∃ Z, R.2.out.length = Z := ⟨_, rfl⟩
  have HZ := Lib.hid hZ
  rw [hW0] at T0 HTK
  rw [hZ] at HTK
  have HW0 := Lib.hid hW0
  have hbl : wz.heap.size ≠ a ∧ wz.heap.size ≠ t := by have := h.lt; omega
  clear h hR hW0 box hZ
  unfold opV
  go_enter Try.func18, Try.ntmps18
  go_wp2_with fail
  rw [HW0.out]
  (with_reducible refine HTK.out.mono ?_)
  rintro e w1 ⟨A1, c1, rfl, o1, h1, k1, f1⟩
  have T1 := Lib.hid (T0.out.ahead h1 k1)
  have O1 := Lib.hid o1
  have F1 := Lib.hid f1
  have y0 : w1.cell? ⟨wz.heap.size, 3, none⟩ = some (.int .i64 nn) := cell_row (k1.row HBX.out (by simp only [not_or]; exact hbl)) rfl
  have HTK2 := Lib.hid (rtake_any w1 r P n on bs nn T1.out.d)
  rw [HR.out, HZ.out] at HTK2
  clear o1 f1 h1 k1 HTK
  go_wp2_with fail
  (with_reducible refine HTK2.out.mono ?_)
  rintro e w2 ⟨A2, c2, rfl, o2, h2, k2, f2⟩
  have T2 := Lib.hid (T1.out.behind h2 k2)
  have O2 := Lib.hid (own_arena T0.out F1.out O1.out k2 (fun b hb => .inr (.inr hb)))
  have NS := Lib.hid (numbers_same w2 _ _ R.2.out (reads_own HZ.out O2.out) (reads_own HZ.out o2))
  clear o2 f2 h2 k2 HTK2 y0 T1 O1
  have hee : (R.1 == R.1) = true := by simp
  go_wp2_with fail
  (with_reducible refine NS.out.mono ?_)
  rintro e w3 ⟨rfl, b3⟩
  have T3 := Lib.hid (T2.out.below b3)
  have M3 := Lib.hid (mine_new T0.out F1.out (own_keeps O2.out (Kept.of_below b3)))
  have hZm : Z ≤ 9223372036854775807 := by have := own_max O2.out; unfold maxLen at this; omega
  clear b3 NS T2 O2
  go_wp2_with (go_at_call 8; (with_reducible refine (HNUM.out _ _).mono ?_); rintro e w8 ⟨rfl, rfl⟩)
  go_loopw [12] (fun v12 wr => ∃ i : Nat, i ≤ Z ∧ v12 = .int .i64 i ∧ Hid (Two w wr p a t r P n R.2.on R.2.bs R.2.on R.2.bs) ∧ Hid (Mine w wr (.slice A1 Z c1) 3 Z p a t r P)) (fun v12 _ => Z - (intOf v12).toNat)
  case atStart => exact ⟨0, Nat.zero_le _, rfl, T3, M3⟩
  case round =>
    clear T3 M3
    obtain ⟨i, hi, rfl, T3, M3⟩ := hrel
    by_cases hlt : i < Z
    · obtain ⟨g, c, u, e1, y1, y2, y3⟩ := M3.out.store T3.out hlt
      obtain ⟨rfl, rfl⟩ : A1 = some ⟨g, 0, none⟩ ∧ c1 = c := by simpa using e1
      have Y3 := Lib.hid (y3 (.int .i64 (-9)))
      clear e1 y3 T3 M3
      go_wp2
      exact ⟨⟨i + 1, by omega, by simp, Y3.out.2, Y3.out.1⟩, by simp [intOf]; omega⟩
    · have hZi : Z = i := by omega
      go_wp2
      go_ret
      exact ⟨rfl, _, _, T3.out⟩
theorem own_block0 {w : World} {g o n c : Nat} {e : TypeId} {xs : List Value} (h : w.ownsRow 0 e 1 (.slice (some ⟨g, o, none⟩) n c) n xs) : (Value.slice (some ⟨g, o, none⟩) n c).ownBlock = some g := rfl
/-- The first of what grew of a list. -/
theorem reads_first {w : World} {A : Option Addr} {c m : Nat} {L M : List Int} (h : ReadsInts w (.slice A m c) (L ++ M)) (hM : 0 < M.length) : ReadsInts w (.slice A L.length c) L := by
  obtain ⟨A', c', e, h1, h2⟩ := h
  obtain ⟨g, o, e2, h3⟩ := h2 (by simp; omega)
  subst e2
  simp at h1
  obtain ⟨⟨rfl, rfl⟩, -⟩ : (A = some ⟨g, o, none⟩ ∧ c = c') ∧ True := by simp at e; exact ⟨⟨e.1, e.2.2⟩, trivial⟩
  exact ⟨_, c, rfl, by omega, fun _ => ⟨g, o, rfl, fun j u hu => h3 j u (by rw [List.getElem?_append_left (List.getElem?_eq_some_iff.1 hu).1]; exact hu)⟩⟩
set_option maxHeartbeats 4000000 in
set_option maxRecDepth 100000 in
theorem step_give (w wz : World) (p a t r P n : Nat) (on : List Bool) (bs : List Int) (h : Two w wz p a t r P n on bs on bs) (pg off nn : Int) (AL : Option Addr) (cL : Nat) (L : List Int) (vd : Value)
    (hL : ReadsInts w (.slice AL L.length cL) L) (hb8 : L.length * 8 ≤ 140737488351232) :
    Calls Try.prog 18 #[.pointer (some ⟨p, 0, none⟩), .pointer (some ⟨r, 0, none⟩), opV 2 pg off nn (.slice AL L.length cL) vd] wz fun e w' => e = .returned (.bool true) ∧ Done w p a t r P n w' := by
  have HRD : Hid (∀ w', Below w.heap.size w w' → ReadsInts w' (.slice AL L.length cL) L) := fun w' hb => hL.below hb
  have HFar : Hid (0 < L.length → ∀ g o, AL = some ⟨g, o, none⟩ → g < w.heap.size) := fun hp g o e => by
    subst e
    obtain ⟨x, hx⟩ : ∃ x, L[0]? = some x := ⟨_, List.getElem?_eq_getElem hp⟩
    exact World.block_lt_of_cell? w _ (reads_at hL hx)
  obtain ⟨N, hN⟩ : ∃ N, L.length = N := ⟨_, rfl⟩
  have HN := Lib.hid hN
  have T0 := Lib.hid (h.below ((Below.refl _ wz).alloc (Nat.le_refl _) (.cells #[.int .i64 2, .int .i64 pg, .int .i64 off, .int .i64 nn, .slice AL L.length cL, vd] 48)))
  obtain ⟨W0, hW0⟩ : ∃ W0, wz.alloc (.cells #[.int .i64 2, .int .i64 pg, .int .i64 off, .int .i64 nn, .slice AL L.length cL, vd] 48) = W0 := ⟨_, rfl⟩
  have box : W0.heap[wz.heap.size]? = some (.cells #[.int .i64 2, .int .i64 pg, .int .i64 off, .int .i64 nn, .slice AL L.length cL, vd] 48 (0, 0)) := by rw [← hW0]; exact heap_alloc_new wz _
  have HBZ := Lib.hid (show wz.heap.size < W0.heap.size by rw [← hW0]; simp)
  rw [hW0] at T0
  have HC1 := Lib.hid (copied_any W0 AL cL L (HRD.out _ T0.out.bel) hb8)
  have HNEW := Lib.hid T0.out.new
  have HLT := Lib.hid T0.out.lt
  have HLT0 := Lib.hid h.lt
  obtain ⟨E, hE⟩ : ∃ E, giveE on L = E := ⟨_, rfl⟩
  obtain ⟨O, hO⟩ : ∃ O, giveOn on L = O := ⟨_, rfl⟩
  have HE := Lib.hid hE
  have HO := Lib.hid hO
  have HNUM := Lib.hid num_any
  have HB8 := Lib.hid hb8
  rw [hN] at HC1 box hW0
  have HBX := Lib.hid box
  have HW0 := Lib.hid hW0
  rw [hN]
  have hNm : N ≤ 17592186044416 := by omega
  clear h hL hb8 hN hW0 box hE hO
  unfold opV
  go_enter Try.func18, Try.ntmps18
  go_wp2_with fail
  rw [HW0.out]
  (with_reducible refine HC1.out.mono ?_)
  rintro e w1 ⟨A1, c1, rfl, o1, b1, f1⟩
  have HG1 := Lib.hid (grown_big w1 _ N _ 77 o1 (by have := HB8.out; rw [HN.out] at this; exact this))
  have T1 := Lib.hid (T0.out.below b1)
  have F1 := Lib.hid f1
  have WSZ := Lib.hid b1.size
  have X1 := Lib.hid ((Kept.of_below (S := fun _ => False) b1).row HBX.out (fun e => e))
  clear o1 b1 f1 HC1
  go_wp2_with fail
  (with_reducible refine HG1.out.mono ?_)
  rintro e w2 ⟨A2, c2, rfl, pr, k2, fb⟩
  have T2 := Lib.hid (T1.out.kept k2 (fun b hb => by have h1 := F1.out b hb; have h2 := HLT.out; have h3 := T0.out.bel.size; omega))
  have O2 := Lib.hid (pr.l.own 0 (by omega))
  have FA2 : Hid (∀ b, (Value.slice A2 (N + 80) c2).ownBlock = some b → W0.heap.size ≤ b) := fun b hb => by
    rcases fb b hb with h | h
    · exact F1.out b h
    · exact Nat.le_trans WSZ.out h
  have X2 := Lib.hid (k2.row X1.out (fun e => by have h1 := F1.out _ e; have h2 := HBZ.out; omega))
  have hsplit : (L.map (Value.int .i64) ++ List.replicate 80 (.int .i64 77)) = (L ++ List.replicate 80 77).map (Value.int .i64) := by rw [List.map_append, List.map_replicate]
  rw [hsplit] at O2
  have hlen2 : (L ++ List.replicate 80 (77 : Int)).length = N + 80 := by rw [List.length_append, HN.out, List.length_replicate]
  have HL2 := Lib.hid hlen2
  have RD2 := Lib.hid (reads_first (reads_own hlen2 O2.out) (by simp))
  have hc2 := own_slice O2.out
  have hcap : N + 80 ≤ c2 := by obtain ⟨_, _, e, hc⟩ := hc2; simp at e; omega
  have HGV := Lib.hid (give_any w2 p a t n on bs A2 c2 L T2.out.l RD2.out (by rw [HN.out]; omega) (fun _ g o e => by subst e; have h1 := own_block0 O2.out; have h2 := FA2.out g (by rw [h1]); have h3 := HLT.out; omega))
  rw [HE.out, HO.out, HN.out] at HGV
  have y2 : w2.cell? ⟨wz.heap.size, 4, none⟩ = some (.slice AL N cL) := cell_row X2.out rfl
  have hNc : (N : Int) ≤ c2 := by omega
  clear pr k2 fb hsplit hlen2 hc2 hcap HG1 T1 X1 RD2
  go_wp2_with fail
  (with_reducible refine HGV.out.mono ?_)
  rintro e w3 ⟨rfl, h3, k3⟩
  have T3 := Lib.hid (T2.out.ahead h3 (k3.mono (fun b hb => .inr hb)))
  have O3 := Lib.hid (own_kept O2.out k3 (fun b hb e => by have h1 := FA2.out b hb; have h2 := HLT.out; omega))
  have X3 := Lib.hid (k3.row X2.out (fun e => by have := HLT0.out; omega))
  have y3 : w3.cell? ⟨wz.heap.size, 4, none⟩ = some (.slice AL N cL) := cell_row X3.out rfl
  have HGR := Lib.hid (rgive_any w3 r P n on bs AL cL L T3.out.d (HRD.out _ T3.out.bel) (fun hp g o e => by have h1 := HFar.out hp g o e; have h2 := HNEW.out; omega))
  rw [HE.out, HO.out, HN.out] at HGR
  clear h3 k3 HGV T2 O2 X2 y2
  go_wp2_with fail
  (with_reducible refine HGR.out.mono ?_)
  rintro e w4 ⟨rfl, h4, k4⟩
  have T4 := Lib.hid (T3.out.behind h4 k4)
  have O4 := Lib.hid (own_kept O3.out k4 (fun b hb e => by have h1 := FA2.out b hb; have h2 := HLT.out; omega))
  have X4 := Lib.hid (k4.row X3.out (fun e => by have := HLT0.out; omega))
  have y4 : w4.cell? ⟨wz.heap.size, 4, none⟩ = some (.slice AL N cL) := cell_row X4.out rfl
  have HC5 := Lib.hid (copied_any w4 AL cL L (HRD.out _ T4.out.bel) HB8.out)
  rw [HN.out] at HC5
  clear h4 k4 HGR T3 O3 X3 y3
  have hee : (E == E) = true := by simp
  go_wp2_with (go_at_call 8; (with_reducible refine (HNUM.out _ _).mono ?_); rintro e w8 ⟨rfl, rfl⟩)
  (with_reducible refine HC5.out.mono ?_)
  rintro e w5 ⟨A5, c5, rfl, o5, b5, f5⟩
  have HG5 := Lib.hid (grown_big w5 _ N _ 77 o5 (by have := HB8.out; rw [HN.out] at this; exact this))
  have T5 := Lib.hid (T4.out.below b5)
  have O5 := Lib.hid (own_keeps O4.out (Kept.of_below b5))
  have F5 := Lib.hid f5
  have Q4 := Lib.hid (fun b hb => own_lt O4.out b hb)
  have L4 := Lib.hid T4.out.lt
  have S4 := Lib.hid T4.out.bel.size
  clear o5 b5 f5 HC5 T4 O4 X4 y4
  go_wp2_with fail
  (with_reducible refine HG5.out.mono ?_)
  rintro e w6 ⟨A6, c6, rfl, pr6, k6, fb6⟩
  have T6 := Lib.hid (T5.out.kept k6 (fun b hb => by have h1 := F5.out b hb; have h2 := L4.out; have h3 := S4.out; omega))
  have O6 := Lib.hid (own_kept O5.out k6 (fun b hb e => by have h1 := F5.out b e; have h2 := Q4.out b hb; omega))
  have P6 := pr6.l.own 0 (by omega)
  have hsplit : (L.map (Value.int .i64) ++ List.replicate 80 (.int .i64 77)) = (L ++ List.replicate 80 77).map (Value.int .i64) := by rw [List.map_append, List.map_replicate]
  rw [hsplit] at P6
  have NS := Lib.hid (numbers_same w6 _ _ _ (reads_own HL2.out O6.out) (reads_own HL2.out P6))
  clear pr6 k6 fb6 P6 hsplit HG5 T5 O5
  go_wp2_with fail
  (with_reducible refine NS.out.mono ?_)
  rintro e w7 ⟨rfl, b7⟩
  have T7 := Lib.hid (T6.out.below b7)
  have M7 : Hid (Mine w w7 (.slice A2 (N + 80) c2) 3 (N + 80) p a t r P) := mine_new T0.out FA2.out (own_keeps O6.out (Kept.of_below b7))
  obtain ⟨Z, hZ⟩ : ∃ Z, N + 80 = Z := ⟨_, rfl⟩
  have hZ2 : (N : Int) + 80 = Z := by omega
  have hZm : Z ≤ 9223372036854775807 := by omega
  rw [hZ] at M7
  clear b7 NS T6 O6 hNc
  go_wp2_with fail
  clear hZ hZ2
  go_loopw [17] (fun v17 wr => ∃ i : Nat, i ≤ Z ∧ v17 = .int .i64 i ∧ Hid (Two w wr p a t r P n O bs O bs) ∧ Hid (Mine w wr (.slice A2 Z c2) 3 Z p a t r P)) (fun v17 _ => Z - (intOf v17).toNat)
  case atStart => exact ⟨0, Nat.zero_le _, rfl, T7, M7⟩
  case round =>
    clear T7 M7
    obtain ⟨i, hi, rfl, T3, M3⟩ := hrel
    by_cases hlt : i < Z
    · obtain ⟨g, c, u, e1, y1, y2, y3⟩ := M3.out.store T3.out hlt
      obtain ⟨rfl, rfl⟩ : A2 = some ⟨g, 0, none⟩ ∧ c2 = c := by simpa using e1
      have Y3 := Lib.hid (y3 (.int .i64 0))
      clear e1 y3 T3 M3
      go_wp2
      exact ⟨⟨i + 1, by omega, by simp, Y3.out.2, Y3.out.1⟩, by simp [intOf]; omega⟩
    · have hZi : Z = i := by omega
      go_wp2
      go_ret
      exact ⟨rfl, _, _, T3.out⟩
end Go.Proofs.Ytbhpikagjcojbaa.Ar

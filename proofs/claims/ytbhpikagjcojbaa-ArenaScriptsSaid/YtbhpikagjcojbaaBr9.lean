/- step: Read, Write; whatever call. -/
import Derived.Test.YtbhpikagjcojbaaBr8
import Derived.StillTailTactics
namespace Go.Proofs.Ytbhpikagjcojbaa.Ar
open Go.RowKit Go.Proofs.Ytbhpikagjcojbaa.Mem
set_option linter.unusedVariables false
theorem conv_all {w : World} {A : Option Addr} {n c : Nat} {zs : List Int} (h : w.ownsRow 0 5 1 (.slice A n c) n (zs.map byteC)) : (convert 36 9 (.slice A n c)).run Try.prog w = .ok (.string (strOfNums zs)) w := by
  have hl : zs.length = n := by have := h.1; simpa using this
  rcases Nat.eq_zero_or_pos n with h0 | h0
  · subst h0
    have : zs = [] := List.length_eq_zero_iff.1 hl
    subst this
    cases A with
    | none => exact run_convert_bytes_nil w 36 5 Try.underlying36 Try.underlying5 _ c 9 Try.underlying9
    | some ad =>
      rw [run_convert_bytes_string w 36 9 5 _ _ c Try.underlying36 Try.underlying5 Try.underlying9]
      exact run_bytesToString w ad 0 c [] (run_loadCells_list (P := Try.prog) w ad [] (fun j v hj => by simp at hj))
  · exact conv_own h h0
set_option maxHeartbeats 4000000 in
set_option maxRecDepth 100000 in
theorem step_read (w wz : World) (p a t r P n : Nat) (on : List Bool) (bs : List Int) (h : Two w wz p a t r P n on bs on bs) (pg off nn : Int) (vl vd : Value) :
    Calls Try.prog 18 #[.pointer (some ⟨p, 0, none⟩), .pointer (some ⟨r, 0, none⟩), opV 3 pg off nn vl vd] wz fun e w' => e = .returned (.bool true) ∧ Done w p a t r P n w' := by
  have T0 := Lib.hid (h.below ((Below.refl _ wz).alloc (Nat.le_refl _) (.cells #[.int .i64 3, .int .i64 pg, .int .i64 off, .int .i64 nn, vl, vd] 48)))
  have HRD := Lib.hid (read_any _ p a t n on bs pg off nn T0.out.l)
  obtain ⟨R, hR⟩ : ∃ R, readZ on bs pg off nn = R := ⟨_, rfl⟩
  have HR := Lib.hid hR
  obtain ⟨Z, hZ⟩ : ∃ Z, R.length = Z := ⟨_, rfl⟩
  have HZ := Lib.hid hZ
  obtain ⟨E, hE⟩ : ∃ E, placeE on pg off nn = E := ⟨_, rfl⟩
  have HE := Lib.hid hE
  rw [hR, hE, hZ] at HRD
  have HNUM := Lib.hid num_any
  obtain ⟨W0, hW0⟩ : ∃ W0, wz.alloc (.cells #[.int .i64 3, .int .i64 pg, .int .i64 off, .int .i64 nn, vl, vd] 48) = W0 := ⟨_, rfl⟩
  have box : W0.heap[wz.heap.size]? = some (.cells #[.int .i64 3, .int .i64 pg, .int .i64 off, .int .i64 nn, vl, vd] 48 (0, 0)) := by rw [← hW0]; exact heap_alloc_new wz _
  have HBX := Lib.hid box
  rw [hW0] at T0 HRD
  have HW0 := Lib.hid hW0
  clear h hR hW0 box hZ hE
  unfold opV
  go_enter Try.func18, Try.ntmps18
  go_wp2_with fail
  rw [HW0.out]
  (with_reducible refine HRD.out.mono ?_)
  rintro e w1 ⟨A1, c1, rfl, o1, b1, f1⟩
  have T1 := Lib.hid (T0.out.below b1)
  have O1 := Lib.hid o1
  have F1 := Lib.hid f1
  have X1 := (Kept.of_below (S := fun _ => False) b1).row HBX.out (fun e => e)
  have y1 : w1.cell? ⟨wz.heap.size, 1, none⟩ = some (.int .i64 pg) := cell_row X1 rfl
  have y2 : w1.cell? ⟨wz.heap.size, 2, none⟩ = some (.int .i64 off) := cell_row X1 rfl
  have y3 : w1.cell? ⟨wz.heap.size, 3, none⟩ = some (.int .i64 nn) := cell_row X1 rfl
  have HRD2 := Lib.hid (rread_any w1 r P n on bs pg off nn T1.out.d)
  rw [HR.out, HE.out, HZ.out] at HRD2
  clear o1 f1 b1 HRD X1
  go_wp2_with fail
  (with_reducible refine HRD2.out.mono ?_)
  rintro e w2 ⟨A2, c2, rfl, o2, b2, f2⟩
  have T2 := Lib.hid (T1.out.below b2)
  have O2 := Lib.hid (own_keeps O1.out (Kept.of_below b2))
  have cv1 := conv_all O2.out
  have cv2 := conv_all o2
  obtain ⟨S, hS⟩ : ∃ S, strOfNums R = S := ⟨_, rfl⟩
  rw [hS] at cv1 cv2
  have M2 := Lib.hid (mine_new T0.out F1.out O2.out)
  have hZm : Z ≤ 9223372036854775807 := by have := own_max O2.out; unfold maxLen at this; omega
  have hee : (E == E) = true := by simp
  clear o2 f2 b2 HRD2 y1 y2 y3 T1 O1 hS
  go_wp2_with (go_at_call 8; (with_reducible refine (HNUM.out _ _).mono ?_); rintro e w8 ⟨rfl, rfl⟩)
  clear cv1 cv2
  go_loopw [23] (fun v23 wr => ∃ i : Nat, i ≤ Z ∧ v23 = .int .i64 i ∧ Hid (Two w wr p a t r P n on bs on bs) ∧ Hid (Mine w wr (.slice A1 Z c1) 5 Z p a t r P)) (fun v23 _ => Z - (intOf v23).toNat)
  case atStart => exact ⟨0, Nat.zero_le _, rfl, T2, M2⟩
  case round =>
    clear T2 M2
    obtain ⟨i, hi, rfl, T3, M3⟩ := hrel
    by_cases hlt : i < Z
    · obtain ⟨g, c, u, e1, y1, y2, y3⟩ := M3.out.store T3.out hlt
      obtain ⟨rfl, rfl⟩ : A1 = some ⟨g, 0, none⟩ ∧ c1 = c := by simpa using e1
      have Y3 := Lib.hid (y3 (.int .u8 221))
      clear e1 y3 T3 M3
      go_wp2
      exact ⟨⟨i + 1, by omega, by simp, Y3.out.2, Y3.out.1⟩, by simp [intOf]; omega⟩
    · have hZi : Z = i := by omega
      go_wp2
      go_ret
      exact ⟨rfl, _, _, T3.out⟩
set_option maxHeartbeats 1000000 in
set_option maxRecDepth 100000 in
theorem step_none (w wz : World) (p a t r P n : Nat) (on : List Bool) (bs : List Int) (h : Two w wz p a t r P n on bs on bs) (k pg off nn : Int) (vl vd : Value) (hk : k ≠ 1 ∧ k ≠ 2 ∧ k ≠ 3 ∧ k ≠ 4) :
    Calls Try.prog 18 #[.pointer (some ⟨p, 0, none⟩), .pointer (some ⟨r, 0, none⟩), opV k pg off nn vl vd] wz fun e w' => e = .returned (.bool true) ∧ Done w p a t r P n w' := by
  have T0 := Lib.hid (h.below ((Below.refl _ wz).alloc (Nat.le_refl _) (.cells #[.int .i64 k, .int .i64 pg, .int .i64 off, .int .i64 nn, vl, vd] 48)))
  have k1 : (k == 1) = false := by simp; omega
  have k2 : (k == 2) = false := by simp; omega
  have k3 : (k == 3) = false := by simp; omega
  have k4 : (k == 4) = false := by simp; omega
  clear h hk
  unfold opV
  go_enter Try.func18, Try.ntmps18
  go_wp2
  go_ret
  exact ⟨rfl, _, _, T0.out⟩
theorem own_of_row {w : World} {g m : Nat} {zs : List Int} (hz : zs.length = m) (hm : m ≤ maxLen) (h : w.heap[g]? = some (.cells (zs.map byteC).toArray 5 (0, 0))) : w.ownsRow 0 5 1 (.slice (some ⟨g, 0, none⟩) m m) m (zs.map byteC) :=
  ⟨by simp [hz], .inr ⟨g, m, _, rfl, Nat.zero_le _, h, Nat.le_refl _, hm, by simp [hz], by rw [Nat.mul_one, ← hz, List.toList_toArray]; exact List.take_of_length_le (by simp)⟩⟩
set_option maxHeartbeats 4000000 in
set_option maxRecDepth 100000 in
theorem step_write (w wz : World) (p a t r P n : Nat) (on : List Bool) (bs : List Int) (h : Two w wz p a t r P n on bs on bs) (pg off nn : Int) (vl : Value) (AD : Option Addr) (cD : Nat) (D : List Int)
    (hD : ReadsB w AD D) (hb : D.length ≤ 140737488351232) :
    Calls Try.prog 18 #[.pointer (some ⟨p, 0, none⟩), .pointer (some ⟨r, 0, none⟩), opV 4 pg off nn vl (.slice AD D.length cD)] wz fun e w' => e = .returned (.bool true) ∧ Done w p a t r P n w' := by
  have HRD : Hid (∀ w', Below w.heap.size w w' → ReadsB w' AD D) := fun w' hb hp => by
    obtain ⟨g, o, e, h1⟩ := hD hp
    exact ⟨g, o, e, fun j u hu => (hb.cell (World.block_lt_of_cell? w _ (h1 j u hu))).trans (h1 j u hu)⟩
  have HFar : Hid (0 < D.length → ∀ g o, AD = some ⟨g, o, none⟩ → g < w.heap.size) := fun hp g o e => by
    obtain ⟨g', o', e', h1⟩ := hD hp
    rw [e'] at e
    cases e
    obtain ⟨x, hx⟩ : ∃ x, D[0]? = some x := ⟨_, List.getElem?_eq_getElem hp⟩
    exact World.block_lt_of_cell? w _ (h1 0 x hx)
  obtain ⟨N, hN⟩ : ∃ N, D.length = N := ⟨_, rfl⟩
  have HN := Lib.hid hN
  have T0 := Lib.hid (h.below ((Below.refl _ wz).alloc (Nat.le_refl _) (.cells #[.int .i64 4, .int .i64 pg, .int .i64 off, .int .i64 nn, vl, .slice AD D.length cD] 48)))
  obtain ⟨W0, hW0⟩ : ∃ W0, wz.alloc (.cells #[.int .i64 4, .int .i64 pg, .int .i64 off, .int .i64 nn, vl, .slice AD D.length cD] 48) = W0 := ⟨_, rfl⟩
  have box : W0.heap[wz.heap.size]? = some (.cells #[.int .i64 4, .int .i64 pg, .int .i64 off, .int .i64 nn, vl, .slice AD D.length cD] 48 (0, 0)) := by rw [← hW0]; exact heap_alloc_new wz _
  have HBZ := Lib.hid (show wz.heap.size < W0.heap.size by rw [← hW0]; simp)
  rw [hW0] at T0
  have HLE := Lib.hid (lent_any W0 AD N cD D hN (by omega) (HRD.out _ T0.out.bel))
  have HLT := Lib.hid T0.out.lt
  have HLT0 := Lib.hid h.lt
  obtain ⟨E, hE⟩ : ∃ E, placeE on pg off D.length = E := ⟨_, rfl⟩
  obtain ⟨O, hO⟩ : ∃ O, writeZ on bs pg off D = O := ⟨_, rfl⟩
  have HE := Lib.hid hE
  have HO := Lib.hid hO
  have HNUM := Lib.hid num_any
  have HB8 := Lib.hid hb
  have hNm : N ≤ 140737488351232 := by omega
  have HNEW := Lib.hid T0.out.new
  rw [hN] at box hW0
  have HBX := Lib.hid box
  have HW0 := Lib.hid hW0
  rw [hN]
  clear h hD hb hN hW0 box hE hO
  unfold opV
  go_enter Try.func18, Try.ntmps18
  go_wp2_with fail
  rw [HW0.out]
  (with_reducible refine HLE.out.mono ?_)
  rintro e w1 ⟨rfl, r1, b1⟩
  obtain ⟨g, hg⟩ : ∃ g, W0.heap.size = g := ⟨_, rfl⟩
  have hml : N + 120 ≤ maxLen := by unfold maxLen; omega
  have hll : (lentL D).length = N + 120 := by rw [lentL_len, HN.out]
  rw [hg] at r1 ⊢
  have O1 := Lib.hid (own_of_row hll hml r1)
  have HG : Hid (p ≠ g ∧ a ≠ g ∧ t ≠ g ∧ r ≠ g ∧ P ≠ g ∧ wz.heap.size ≠ g ∧ w.heap.size ≤ g) := by have h1 := HLT.out; have h2 := HBZ.out; have h3 := T0.out.bel.size; exact ⟨by omega, by omega, by omega, by omega, by omega, by omega, by omega⟩
  have T1 := Lib.hid (T0.out.below b1)
  have T1d := Lib.hid (T1.out.below (Below.refl _ w1).drew)
  have X1 := Lib.hid ((Kept.of_below (S := fun _ => False) b1).row HBX.out (fun e => e))
  have HWR := Lib.hid (write_any w1.drew p a t n on bs pg off (some ⟨g, 0, none⟩) (N + 120) D T1d.out.l (fun hp => ⟨_, rfl, fun j u hu => by
    rw [Addr.add_mid, Nat.zero_add]
    rw [List.getElem?_map, Option.map_eq_some_iff] at hu
    obtain ⟨z, hz, rfl⟩ := hu
    have : w1.cell? ⟨g, j, none⟩ = some (byteC z) := cell_row r1 (by rw [List.getElem?_toArray, List.getElem?_map, lentL_lo hz]; rfl)
    exact this⟩))
  rw [HE.out, HO.out, HN.out] at HWR
  have y1 : w1.cell? ⟨wz.heap.size, 1, none⟩ = some (.int .i64 pg) := cell_row X1.out rfl
  have y2 : w1.cell? ⟨wz.heap.size, 2, none⟩ = some (.int .i64 off) := cell_row X1.out rfl
  have y5 : w1.cell? ⟨wz.heap.size, 5, none⟩ = some (.slice AD N cD) := cell_row X1.out rfl
  have hN1 : (N : Int) ≤ (N : Int) + 120 := by omega
  have hN2 : N ≤ N + 120 := by omega
  have hN3 : (N : Int) ≤ ((N + 120 : Nat) : Int) := by omega
  have ST : Hid (w1.drew.cell? ⟨wz.heap.size, 1, none⟩ = some (.int .i64 pg) ∧ w1.drew.cell? ⟨wz.heap.size, 2, none⟩ = some (.int .i64 off) ∧ w1.drew.cell? ⟨wz.heap.size, 5, none⟩ = some (.slice AD N cD)) := ⟨y1, y2, y5⟩
  have YK : Hid (∀ w', Kept (fun b => b = a) w1.drew w' → w'.cell? ⟨wz.heap.size, 1, none⟩ = some (.int .i64 pg) ∧ w'.cell? ⟨wz.heap.size, 2, none⟩ = some (.int .i64 off) ∧ w'.cell? ⟨wz.heap.size, 5, none⟩ = some (.slice AD N cD)) := fun w' hk => by
    have hne : ¬ wz.heap.size = a := by have := HLT0.out; omega
    have := hk.row (show w1.drew.heap[wz.heap.size]? = _ from X1.out) hne
    exact ⟨cell_row this rfl, cell_row this rfl, cell_row this rfl⟩
  clear y1 y2 y5
  go_wp2_with fail
  go_region_held3 (fun w' => w'.cell? ⟨wz.heap.size, 1, none⟩ = some (.int .i64 pg) ∧ w'.cell? ⟨wz.heap.size, 2, none⟩ = some (.int .i64 off) ∧ w'.cell? ⟨wz.heap.size, 5, none⟩ = some (.slice AD N cD))
    (first | exact ST.out | exact YK.out _ k2 | fail)
    (first | (go_at_call 15; (with_reducible refine HWR.out.mono ?_); rintro e w2 ⟨rfl, h2, k2⟩) | fail)
  have T2 := Lib.hid (T1d.out.ahead h2 (k2.mono (fun b hb => .inl hb)))
  have O2 := Lib.hid (own_kept (own_keeps O1.out (Kept.of_below (Below.refl _ w1).drew)) k2 (fun b hb e => by have h1 := HG.out; obtain rfl : g = b := Option.some.inj hb; omega))
  have X2 := Lib.hid (k2.row (show w1.drew.heap[wz.heap.size]? = _ from X1.out) (by have := HLT0.out; omega))
  have y1 : w2.cell? ⟨wz.heap.size, 1, none⟩ = some (.int .i64 pg) := cell_row X2.out rfl
  have y2 : w2.cell? ⟨wz.heap.size, 2, none⟩ = some (.int .i64 off) := cell_row X2.out rfl
  have y5 : w2.cell? ⟨wz.heap.size, 5, none⟩ = some (.slice AD N cD) := cell_row X2.out rfl
  have HRW := Lib.hid (rwrite_any w2 r P n on bs pg off AD cD D T2.out.d (HRD.out _ T2.out.bel) (fun hp g o e => by have h1 := HFar.out hp g o e; have h2 := HNEW.out; omega) HB8.out)
  rw [HE.out, HO.out, HN.out] at HRW
  clear h2 k2 HWR ST YK T1 T1d O1 X1 hN1 hN2 hN3
  go_wp2_with fail
  (with_reducible refine HRW.out.mono ?_)
  rintro e w3 ⟨rfl, h3, k3⟩
  have T3 := Lib.hid (T2.out.behind h3 k3)
  have O3 := Lib.hid (own_kept O2.out k3 (fun b hb e => by have h1 := HG.out; obtain rfl : g = b := Option.some.inj hb; omega))
  have X3 := Lib.hid (k3.row X2.out (by have := HLT0.out; omega))
  have T3d := Lib.hid (T3.out.below (Below.refl _ w3).drew)
  have O3d := Lib.hid (own_keeps O3.out (Kept.of_below (Below.refl _ w3).drew))
  obtain ⟨S, hS⟩ : ∃ S, strOfNums (lentL D) = S := ⟨_, rfl⟩
  have HSS := Lib.hid hS
  have KS : Hid (∀ w', Below w3.drew.heap.size w3.drew w' → w'.cell? ⟨wz.heap.size, 5, none⟩ = some (.slice AD N cD) ∧ (convert 36 9 (.slice (some ⟨g, 0, none⟩) (N + 120) (N + 120))).run Try.prog w' = .ok (.string S) w') := fun w' hb => by
    refine ⟨cell_row ((Kept.of_below (S := fun _ => False) hb).row (show w3.drew.heap[wz.heap.size]? = _ from X3.out) (fun e => e)) rfl, ?_⟩
    rw [← HSS.out]
    exact conv_all (own_keeps O3d.out (Kept.of_below hb))
  have ST := Lib.hid (KS.out _ (Below.refl _ _))
  have HLE := Lib.hid (lent_any w3.drew AD N cD D HN.out (by omega) (HRD.out _ T3d.out.bel))
  have hee : (E == E) = true := by simp
  have HMl := Lib.hid (show N + 120 ≤ maxLen by unfold maxLen; omega)
  have HLl := Lib.hid (show (lentL D).length = N + 120 by rw [lentL_len, HN.out])
  clear h3 k3 HRW T2 O2 X2 y1 y2 y5 hS
  go_wp2_with fail
  obtain ⟨s5, scv⟩ := ST.out
  go_region_with (first | (go_at_call 8; (with_reducible refine (HNUM.out _ _).mono ?_); rintro e w5 ⟨rfl, rfl⟩) | (go_at_call 14; (with_reducible refine HLE.out.mono ?_); rintro e w6 ⟨rfl, r6, b6⟩; have cv6 : (convert 36 9 (.slice (some ⟨w3.heap.size, 0, none⟩) (N + 120) (N + 120))).run Try.prog w6 = .ok (.string S) w6 := (by rw [← HSS.out]; exact conv_all (own_of_row HLl.out HMl.out r6)); (obtain ⟨s6, scv6⟩ := KS.out _ b6)))
  all_goals
    have T6 := Lib.hid (T3d.out.below b6)
    have M6 : Hid (Mine w w6 (.slice (some ⟨g, 0, none⟩) (N + 120) (N + 120)) 5 (N + 120) p a t r P) := ⟨⟨_, own_keeps O3d.out (Kept.of_below b6)⟩, fun b hb => by
      obtain rfl : g = b := Option.some.inj hb
      have h1 := HG.out
      exact ⟨by omega, by omega, by omega, by omega, by omega, by omega⟩⟩
    clear s5 scv r6 b6 cv6 s6 scv6 HLE KS ST T3 O3 X3 T3d O3d
    have hZm : N + 120 ≤ 9223372036854775807 := by omega
    obtain ⟨Z, hZ⟩ : ∃ Z, N + 120 = Z := ⟨_, rfl⟩
    rw [hZ] at M6 hZm
    have hZ2 : (N : Int) + 120 = Z := by omega
    go_wp2_with fail
    clear hZ hZ2
    go_loopw [28] (fun v28 wr => ∃ i : Nat, i ≤ Z ∧ v28 = .int .i64 i ∧ Hid (Two w wr p a t r P n on O on O) ∧ Hid (Mine w wr (.slice (some ⟨g, 0, none⟩) Z Z) 5 Z p a t r P)) (fun v28 _ => Z - (intOf v28).toNat)
    case atStart => exact ⟨0, Nat.zero_le _, rfl, T6, M6⟩
    case round =>
      clear T6 M6
      obtain ⟨i, hi, rfl, T3, M3⟩ := hrel
      by_cases hlt : i < Z
      · obtain ⟨g', c, u, e1, y1, y2, y3⟩ := M3.out.store T3.out hlt
        obtain ⟨rfl, rfl⟩ : g = g' ∧ Z = c := by simpa using e1
        have Y3 := Lib.hid (y3 (.int .u8 238))
        clear e1 y3 T3 M3
        go_wp2
        exact ⟨⟨i + 1, by omega, by simp, Y3.out.2, Y3.out.1⟩, by simp [intOf]; omega⟩
      · have hZi : Z = i := by omega
        go_wp2
        go_ret
        exact ⟨rfl, _, _, T3.out⟩
/-- A call that is read. -/
structure ROp (w : World) (k pg off nn : Int) (vl vd : Value) : Prop where
  l : ∃ AL cL L, vl = .slice AL (L : List Int).length cL ∧ ReadsInts w (.slice AL L.length cL) L ∧ L.length * 8 ≤ 140737488351232
  d : ∃ AD cD D, vd = .slice AD (D : List Int).length cD ∧ ReadsB w AD D ∧ D.length ≤ 140737488351232
theorem step_any (w wz : World) (p a t r P n : Nat) (on : List Bool) (bs : List Int) (h : Two w wz p a t r P n on bs on bs) (k pg off nn : Int) (vl vd : Value) (ho : ROp w k pg off nn vl vd) :
    Calls Try.prog 18 #[.pointer (some ⟨p, 0, none⟩), .pointer (some ⟨r, 0, none⟩), opV k pg off nn vl vd] wz fun e w' => e = .returned (.bool true) ∧ Done w p a t r P n w' := by
  obtain ⟨⟨AL, cL, L, rfl, h1, h2⟩, ⟨AD, cD, D, rfl, h3, h4⟩⟩ := ho
  by_cases k1 : k = 1
  · subst k1; exact step_take w wz p a t r P n on bs h pg off nn _ _
  by_cases k2 : k = 2
  · subst k2; exact step_give w wz p a t r P n on bs h pg off nn AL cL L _ h1 h2
  by_cases k3 : k = 3
  · subst k3; exact step_read w wz p a t r P n on bs h pg off nn _ _
  by_cases k4 : k = 4
  · subst k4; exact step_write w wz p a t r P n on bs h pg off nn _ AD cD D h3 h4
  exact step_none w wz p a t r P n on bs h k pg off nn _ _ ⟨k1, k2, k3, k4⟩
end Go.Proofs.Ytbhpikagjcojbaa.Ar

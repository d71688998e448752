/- KinKeeps: the walk. Own text; Ythemibhajlgcdaa and the numbers between @..@ are the seat's. -/
import Derived.Test.YthemibhajlgcdaaKinX
import Derived.Test.YthemibhajlgcdaaKinJ
import Derived.Deep.CutBlock
import Derived.Deep.DeepCutAuto
namespace Go.Proofs.Ythemibhajlgcdaa.Kin
open Go.RowKit Go.Proofs.Ythemibhajlgcdaa.Mem
set_option linter.unusedVariables false
section
variable {wr w' : World} {B k : Nat} {L : List (Int × Int)} {l want : Value} {V : Nat → Value}
theorem Ks.row (h : Ks wr B k L l want V) (i : Nat) (h2 : 2 ≤ i) (hi : i < 2 + 4 * k) : wr.ownsRow 0 3 1 (V i) (kids L ((i - 2) / 4 : Nat)).length ((kids L ((i - 2) / 4 : Nat)).map i64) := by
  have := h.fam.own i hi
  simp only [show ¬ i < 2 by omega, show ¬ i = 0 by omega, show ¬ i = 1 by omega, if_false] at this
  exact this
theorem Ks.ll (h : Ks wr B k L l want V) : wr.ownsRow 0 41 1 l (2 * k) ((List.range (2 * k)).map (fun j => V (ai j))) := by
  have := h.fam.own 0 (by omega)
  simpa [h.l] using this
theorem Ks.lw (h : Ks wr B k L l want V) : wr.ownsRow 0 41 1 want (2 * k) ((List.range (2 * k)).map (fun j => V (wi j))) := by
  have := h.fam.own 1 (by omega)
  simpa [h.want] using this
theorem Ks.rows (h : Ks wr B k L l want V) : Mem.Rows 3 1 wr (2 * k) (fun j => V (ai j)) (fun j => (kids L (j / 2 : Nat)).length) (fun j => (kids L (j / 2 : Nat)).map (Value.int .i64)) := by
  refine ⟨fun j hj => ?_, fun i j b hi hj h1 h2 => ?_⟩
  · have := h.row (ai j) (by unfold ai; omega) (by unfold ai; omega)
    rw [show (ai j - 2) / 4 = j / 2 by unfold ai; omega] at this
    exact this
  · have := h.fam.far (ai i) (ai j) b (by unfold ai; omega) (by unfold ai; omega) h1 h2
    unfold ai at this
    omega
theorem Ks.wants (h : Ks wr B k L l want V) (j : Nat) (hj : j < 2 * k) : wr.ownsRow 0 3 1 (V (wi j)) (kids L (j / 2 : Nat)).length ((kids L (j / 2 : Nat)).map i64) := by
  have := h.row (wi j) (by unfold wi; omega) (by unfold wi; omega)
  rw [show (wi j - 2) / 4 = j / 2 by unfold wi; omega] at this
  exact this
/-- What stays when the answered lists are written over. -/
theorem Ks.kept (h : Ks wr B k L l want V) (hk : Kept (Touch (2 * k) (fun j => V (ai j))) wr w') : w'.ownsRow 0 41 1 want (2 * k) ((List.range (2 * k)).map (fun j => V (wi j))) ∧ ∀ j, j < 2 * k → w'.ownsRow 0 3 1 (V (wi j)) (kids L (j / 2 : Nat)).length ((kids L (j / 2 : Nat)).map i64) := by
  refine ⟨own_kept h.lw hk (fun b hb => ?_), fun j hj => own_kept (h.wants j hj) hk (fun b hb => ?_)⟩
  · rintro ⟨i, hi, e⟩
    have := h.fam.far 1 (ai i) b (by omega) (by unfold ai; omega) (by rw [h.want]; exact hb) e
    unfold ai at this
    omega
  · rintro ⟨i, hi, e⟩
    have := h.fam.far (wi j) (ai i) b (by unfold wi; omega) (by unfold ai; omega) hb e
    unfold ai wi at this
    omega
theorem Ks.touch (h : Ks wr B k L l want V) : ∀ b, Touch (2 * k) (fun j => V (ai j)) b → B ≤ b := by
  rintro b ⟨j, hj, e⟩
  exact h.fam.low (ai j) b (by unfold ai; omega) e
end
set_option maxHeartbeats 8000000 in
set_option maxRecDepth 100000 in
theorem law_keeps (w : World) (n0 : Int) (vs : Value) (os : List (Int × Int × Int)) (hs : ReadsOps w vs os) :
    Calls Try.prog 5 #[.int .i64 n0, vs] w fun e w' => e = .returned (.bool true) ∧ Below w.heap.size w w' := by
  obtain ⟨As, cs, rfl, hs1, hs2, hs3⟩ := hs
  unfold maxLen at hs2
  have HS3 := Lib.hid hs3
  clear hs3
  have e1 : n0.tmod 30 < 30 := Int.tmod_lt_of_pos n0 (by decide)
  have e2 : -30 < n0.tmod 30 := Int.lt_tmod_of_pos n0 (by decide)
  obtain ⟨R, hR⟩ : ∃ R, n0.tmod 30 = R := ⟨_, rfl⟩
  have hw : IntKind.i64.wrap (n0.tmod 30) = R := by rw [hR]; exact IntWalk.i64_in _ (by omega)
  rw [hR] at e1 e2
  obtain ⟨m, hm⟩ : ∃ m : Nat, 2 + R % 30 = m := ⟨(2 + R % 30).toNat, by omega⟩
  have hm1 : 2 ≤ m := by omega
  have hm2 : m ≤ 31 := by omega
  have HX := Lib.hid (new_in w m (by omega))
  go_enter Try.func5, Try.ntmps5
  go_wp2_with fail
  (with_reducible refine HX.out.mono ?_)
  rintro e w1 ⟨p, g, rfl, b1, k1⟩
  have HS := Lib.hid (solo_new k1 b1)
  clear HX b1 k1 hw hR
  have HM := Lib.hid hm
  clear hm e1 e2
  have HX := Lib.hid (alive_any w1)
  go_wp2_with (first | (go_at_call 8; (refine (num_any _ _).mono ?_); rintro e w9 ⟨rfl, rfl⟩) | fail)
  (with_reducible refine HX.out.mono ?_)
  rintro e w2 ⟨rfl, b2⟩
  have H2 := Lib.hid (HS.out.below b2)
  clear HX b2 HS
  go_wp2_with fail
  go_loopw [8] (fun v8 wr => ∃ (i : Nat) (L : List (Int × Int)), i ≤ os.length ∧ v8 = .int .i64 i ∧ Hid (Solo w wr p g m L (fun _ => False))) (fun v8 _ => os.length - (intOf v8).toNat)
  case atStart => exact ⟨0, [], Nat.zero_le _, rfl, H2⟩
  case round =>
    clear H2
    obtain ⟨i, L, hi, rfl, HS⟩ := hrel
    by_cases hlt : i < os.length
    · obtain ⟨x, hx⟩ : ∃ x, os[i]? = some x := ⟨_, List.getElem?_eq_getElem hlt⟩
      obtain ⟨gs, ss, rfl, hcell⟩ := HS3.out (by omega)
      obtain ⟨k, q, n⟩ := x
      have hgs : Hid (gs < w.heap.size) := World.block_lt_of_cell? w _ (hcell i (k, q, n) hx 0 _ rfl)
      have y0 := (HS.out.2.cell (show (⟨gs, ss + i * 3, none⟩ : Addr).block < w.heap.size from hgs.out)).trans (hcell i (k, q, n) hx 0 _ rfl)
      have y1 := (HS.out.2.cell (show (⟨gs, ss + i * 3 + 1, none⟩ : Addr).block < w.heap.size from hgs.out)).trans (hcell i (k, q, n) hx 1 _ rfl)
      have y2 := (HS.out.2.cell (show (⟨gs, ss + i * 3 + 2, none⟩ : Addr).block < w.heap.size from hgs.out)).trans (hcell i (k, q, n) hx 2 _ rfl)
      have HX := Lib.hid (HS.out.does (fun _ h => h.elim) k q n)
      clear hcell hx
      go_wp2_with fail
      (with_reducible refine HX.out.mono ?_)
      rintro e w3 ⟨rfl, s3, _⟩
      have S3 := Lib.hid s3
      clear s3 HX HS
      go_wp2_with fail
      exact ⟨⟨i + 1, _, by omega, by simp, S3⟩, by simp [intOf]; omega⟩
    · have : i = os.length := by omega
      subst this
      have HI := Lib.hid HS.out.inv
      obtain ⟨B, hB⟩ : ∃ B, wr.heap.size = B := ⟨_, rfl⟩
      have H3 : Hid (Solo w wr p g m L (fun b => B ≤ b)) := HS.out.free (fun b hb => .inr (.inl (by omega)))
      have K3 : Hid (Ks wr B 0 L (.slice none 0 0) (.slice none 0 0) (fun _ => .slice none 0 0)) := hB ▸ ks_start wr L
      have HBW : Hid (w.heap.size ≤ B) := hB ▸ HS.out.2.size
      clear hlt hi HS HS3 hB
      go_upto_block 2 with fail
      go_cut [9, 10] (fun v9 v10 wr => ∃ (k : Nat) (A9 A10 : Option Addr) (c9 c10 : Nat) (V : Nat → Value), 1 ≤ k ∧ k ≤ 10 ∧ k ≤ m ∧ v9 = .slice A9 (2 * k) c9 ∧ v10 = .slice A10 (2 * k) c10 ∧ Hid (Ks wr B k L (.slice A9 (2 * k) c9) (.slice A10 (2 * k) c10) V) ∧ Hid (Solo w wr p g m L (fun b => B ≤ b)))
      case first =>
        go_wp2_with fail
        go_loopw [9, 10, 11] (fun v9 v10 v11 wr => ∃ (k : Nat) (A9 A10 : Option Addr) (c9 c10 : Nat) (V : Nat → Value), k ≤ 10 ∧ k ≤ m ∧ v11 = .int .i64 k ∧ v9 = .slice A9 (2 * k) c9 ∧ v10 = .slice A10 (2 * k) c10 ∧ Hid (Ks wr B k L (.slice A9 (2 * k) c9) (.slice A10 (2 * k) c10) V) ∧ Hid (Solo w wr p g m L (fun b => B ≤ b))) (fun _ _ v11 _ => m - (intOf v11).toNat)
        case atStart => exact ⟨0, none, none, 0, 0, _, Nat.zero_le _, Nat.zero_le _, rfl, rfl, rfl, K3, H3⟩
        case round =>
          clear H3 K3
          obtain ⟨k, A9, A10, c9, c10, V, hk, hkm, rfl, rfl, rfl, HK, HS⟩ := hrel
          by_cases hlt : k < m
          · by_cases h10 : k < 10
            · have h20 : (2 * k : Nat) < 20 := by omega
              have HC := Lib.hid (HS.out.children k)
              have hl := kids_len HS.out.inv HS.out.hm k
              obtain ⟨zs, hz⟩ : ∃ zs, kids L (k : Int) = zs := ⟨_, rfl⟩
              rw [hz] at HC hl
              have HZ := Lib.hid hz
              obtain ⟨N, hN⟩ : ∃ N, zs.length = N := ⟨_, rfl⟩
              have HN := Lib.hid hN
              rw [hN] at HC hl
              clear hz hN
              go_wp2_with fail
              (with_reducible refine HC.out.mono ?_)
              rintro e w3 ⟨Aa, ca, rfl, oa, ba, fa⟩
              have HS1 := Lib.hid (HS.out.below ba)
              have OA := Lib.hid oa
              have BA := Lib.hid ba
              have FA := Lib.hid fa
              clear oa ba fa HC
              have HC := Lib.hid (HS1.out.children k)
              rw [HZ.out, HN.out] at HC
              go_wp2_with fail
              (with_reducible refine HC.out.mono ?_)
              rintro e w4 ⟨Ab, cb, rfl, ob, bb, fb⟩
              have HS2 := Lib.hid (HS1.out.below bb)
              have OB := Lib.hid ob
              have BB := Lib.hid bb
              have FB := Lib.hid fb
              clear ob bb fb HC HS1
              have LL : Hid (w4.ownsRow 0 41 1 (.slice A9 (2 * k) c9) (2 * k) ((List.range (2 * k)).map (fun j => V (ai j)))) := own_keeps (own_keeps HK.out.ll (Kept.of_below BA.out)) (Kept.of_below BB.out)
              go_wp2_with (at_builtin; refine list_app2 rfl (.tmp 64) (.tmp 67) 45 rfl 41 0 _ 1 24 Try.underlying45 info_ints rfl (by decide) (by decide) (.slice A9 (2 * k) c9) (2 * k) _ rfl (own_keeps LL.out ((Kept.refl _ _).alloc _)) (some ⟨w4.heap.size, 0, none⟩) 2 2 [.slice Aa N ca, .slice Ab N cb] rfl rfl (holds_new _ _ _ _ _ rfl) (by simp [Value.oneCell']) (by omega) (Nat.zero_le _) ?_; intro v5 w5 hown5 hwent5; (obtain ⟨A5, c5, rfl, _⟩ := own_slice hown5); have O5 := Lib.hid hown5; have W5 := Lib.hid hwent5; clear hown5 hwent5)
              have L9 : Hid (∀ b, (Value.slice A9 (2 * k) c9).ownBlock = some b → b < wr.heap.size) := fun b hb => own_lt HK.out.ll b hb
              have OA5 : Hid (w5.ownsRow 0 3 1 (.slice Aa N ca) N (zs.map i64)) := own_kept (own_keeps (own_keeps OA.out (Kept.of_below BB.out)) ((Kept.refl _ w4).alloc (.cells #[.slice Aa N ca, .slice Ab N cb] 41))) W5.out.kept (fun b hb e => by have h1 := FA.out b hb; have h2 := L9.out b e; omega)
              have OB5 : Hid (w5.ownsRow 0 3 1 (.slice Ab N cb) N (zs.map i64)) := own_kept (own_keeps OB.out ((Kept.refl _ w4).alloc (.cells #[.slice Aa N ca, .slice Ab N cb] 41))) W5.out.kept (fun b hb e => by have h1 := FB.out b hb; have h2 := L9.out b e; have h3 := BA.out.size; omega)
              have LW5 : Hid (w5.ownsRow 0 41 1 (.slice A10 (2 * k) c10) (2 * k) ((List.range (2 * k)).map (fun j => V (wi j)))) := own_kept (own_keeps (own_keeps (own_keeps HK.out.lw (Kept.of_below BA.out)) (Kept.of_below BB.out)) ((Kept.refl _ w4).alloc (.cells #[.slice Aa N ca, .slice Ab N cb] 41))) W5.out.kept (fun b hb e => by have := HK.out.fam.far 1 0 b (by omega) (by omega) (by rw [HK.out.want]; exact hb) (by rw [HK.out.l]; exact e); omega)
              have HX := Lib.hid (copied_any w5 _ N zs OA5.out (by omega))
              clear HS2 LL L9
              go_wp2_with fail
              (with_reducible refine HX.out.mono ?_)
              rintro e w6 ⟨Ac, cc, rfl, oc, bc, fc⟩
              have OC := Lib.hid oc
              have BC := Lib.hid bc
              have FC := Lib.hid fc
              clear oc bc fc HX
              have HX := Lib.hid (copied_any w6 _ N zs (own_keeps OB5.out (Kept.of_below BC.out)) (by omega))
              go_wp2_with fail
              (with_reducible refine HX.out.mono ?_)
              rintro e w7 ⟨Ad, cd, rfl, od, bd, fd⟩
              have OD := Lib.hid od
              have BD := Lib.hid bd
              have FD := Lib.hid fd
              clear od bd fd HX
              have LW7 : Hid (w7.ownsRow 0 41 1 (.slice A10 (2 * k) c10) (2 * k) ((List.range (2 * k)).map (fun j => V (wi j)))) := own_keeps (own_keeps LW5.out (Kept.of_below BC.out)) (Kept.of_below BD.out)
              go_wp2_with (at_builtin; refine list_app2 rfl (.tmp 69) (.tmp 74) 45 rfl 41 0 _ 1 24 Try.underlying45 info_ints rfl (by decide) (by decide) (.slice A10 (2 * k) c10) (2 * k) _ rfl (own_keeps LW7.out ((Kept.refl _ _).alloc _)) (some ⟨w7.heap.size, 0, none⟩) 2 2 [.slice Ac N cc, .slice Ad N cd] rfl rfl (holds_new _ _ _ _ _ rfl) (by simp [Value.oneCell']) (by omega) (Nat.zero_le _) ?_; intro v8 w8 hown8 hwent8; (obtain ⟨A8, c8, rfl, _⟩ := own_slice hown8); have O8 := Lib.hid hown8; have W8 := Lib.hid hwent8; clear hown8 hwent8)
              obtain ⟨V', K8, kk⟩ := HK.out.next (a := .slice Aa N ca) (b := .slice Ab N cb) (ca := .slice Ac N cc) (cb := .slice Ad N cd) HZ.out (by rw [HN.out]; exact OA.out) BA.out FA.out (by rw [HN.out]; exact OB.out) BB.out FB.out O5.out W5.out (by rw [HN.out]; exact OC.out) BC.out FC.out (by rw [HN.out]; exact OD.out) BD.out FD.out O8.out W8.out
              have S8 : Hid (Solo w w8 p g m L (fun b => B ≤ b)) := HS.out.kept kk (fun b hb => .inl hb) (fun b hb => Nat.le_trans HBW.out hb)
              exact ⟨⟨k + 1, A5, A8, c5, c8, V', by omega, by omega, by simp, rfl, rfl, K8, S8⟩, by simp [intOf]; omega⟩
            · have : k = 10 := by omega
              subst this
              go_wp2_with fail
              go_meet
              exact ⟨10, A9, A10, c9, c10, V, by omega, by omega, by omega, rfl, rfl, HK, HS⟩
          · have : m = k := by omega
            have hk1 : 1 ≤ k := by omega
            have hmk : ¬ (k : Int) < (m : Int) := by omega
            have HKM := Lib.hid hkm
            clear this
            go_wp2_with fail
            go_meet
            exact ⟨k, A9, A10, c9, c10, V, hk1, hk, HKM.out, rfl, rfl, HK, HS⟩
      case rest =>
        clear H3 K3
        obtain ⟨k, A9, A10, c9, c10, V, hk1, hk, hkm, rfl, rfl, HK, HS⟩ := hcut
        obtain ⟨G, c', cur, e, hgg, hc1, hc2, _, _, hcell⟩ := own_form HK.out.ll (by omega)
        obtain ⟨rfl, rfl⟩ : A9 = some ⟨G, 0, none⟩ ∧ c9 = c' := by simpa using e
        obtain ⟨H, c', cur2, e2, hhg, hd1, hd2, _, _, hcell2⟩ := own_form HK.out.lw (by omega)
        obtain ⟨rfl, rfl⟩ : A10 = some ⟨H, 0, none⟩ ∧ c10 = c' := by simpa using e2
        have HAP := Lib.hid (apart_any wc (2 * k) (by omega) (fun j => V (ai j)) (fun j => V (wi j)) (fun j => (kids L (j / 2 : Nat)).length) (fun j => kids L (j / 2 : Nat)) HK.out.rows (fun _ _ => rfl) (fun j hj => reads_own rfl (HK.out.wants j hj)) (fun j _ => Nat.le_trans (kids_len HS.out.inv HS.out.hm _) (by decide)) G 0 c9 H 0 c10
          (fun j hj => by rw [Nat.zero_add]; exact hcell j _ (by rw [List.getElem?_map, List.getElem?_range hj]; rfl))
          (fun j hj => by rw [Nat.zero_add]; exact hcell2 j _ (by rw [List.getElem?_map, List.getElem?_range hj]; rfl))
          (fun j hj hb => by have := HK.out.fam.far (ai j) 0 G (by unfold ai; omega) (by omega) hb (by rw [HK.out.l]; rfl); unfold ai at this; omega)
          (lt_of_row hgg))
        clear hgg hcell hcell2 hhg e e2
        go_wp2_with fail
        (with_reducible refine HAP.out.mono ?_)
        rintro e w3 ⟨rfl, ka⟩
        obtain ⟨q1, q2⟩ := HK.out.kept ka
        have Q1 := Lib.hid q1
        have Q2 := Lib.hid q2
        have S3 : Hid (Solo w w3 p g m L (fun b => B ≤ b)) := HS.out.kept ka (fun b hb => .inl (HK.out.touch b hb)) (fun b hb => Nat.le_trans HBW.out (HK.out.touch b hb))
        clear ka q1 q2 HAP HK HS
        unfold maxLen at hd2
        go_wp2_with fail
        go_loopw [14] (fun v14 wx => ∃ i : Nat, i ≤ k ∧ v14 = .int .i64 i ∧ Hid (Solo w wx p g m L (fun b => B ≤ b)) ∧ Hid (wx.ownsRow 0 41 1 (.slice (some ⟨H, 0, none⟩) (2 * k) c10) (2 * k) ((List.range (2 * k)).map (fun j => V (wi j)))) ∧ Hid (∀ j, j < 2 * k → wx.ownsRow 0 3 1 (V (wi j)) (kids L (j / 2 : Nat)).length ((kids L (j / 2 : Nat)).map i64))) (fun v14 _ => k - (intOf v14).toNat)
        case atStart => exact ⟨0, Nat.zero_le _, rfl, S3, Q1, Q2⟩
        case round =>
          clear S3 Q1 Q2
          obtain ⟨i, hi, rfl, HS, Q1, Q2⟩ := hrel
          by_cases hlt : i < k
          · have him : (i : Int) < (m : Int) := by omega
            have h2i : 2 * i < 2 * k := by omega
            have h2c : (2 : Int) * (i : Int) < 2 * (k : Int) := by omega
            have h2d : (0 : Int) ≤ 2 * (i : Int) := by omega
            have h2e : (2 : Int) * (i : Int) < ((2 * k : Nat) : Int) := by omega
            have h2f : IntKind.i64.wrap (2 * (i : Int)) = 2 * (i : Int) := by rw [IntKind.wrap_i64]; omega
            have h2g : (2 * (i : Int)).toNat = 2 * i := by omega
            obtain ⟨H', c', cur2, e2, hhg, hd1', hd2', _, _, hcell2⟩ := own_form Q1.out (by omega)
            obtain ⟨rfl, rfl⟩ : H = H' ∧ c10 = c' := by simpa using e2
            have y0 : wr.cell? ⟨H, 2 * i, none⟩ = some (V (wi (2 * i))) := hcell2 (2 * i) _ (by rw [List.getElem?_map, List.getElem?_range h2i]; rfl)
            have q2 := Q2.out (2 * i) h2i
            rw [show 2 * i / 2 = i by omega] at q2
            obtain ⟨U, hU⟩ : ∃ U, V (wi (2 * i)) = U := ⟨_, rfl⟩
            rw [hU] at y0 q2
            have C1 : Hid (Calls Try.prog 15 #[.pointer (some ⟨p, 0, none⟩), .int .i64 i] wr.drew fun e w' => ∃ A c, e = .returned (.slice A (kids L i).length c) ∧ w'.ownsRow 0 3 1 (.slice A (kids L i).length c) (kids L i).length ((kids L i).map i64) ∧ Below wr.drew.heap.size wr.drew w') := ((HS.out.below ((Below.refl _ wr).drew)).children i).mono (by rintro e w' ⟨A, c, h1, h2, h3, _⟩; exact ⟨A, c, h1, h2, h3⟩)
            have NS : Hid (∀ (A : Option Addr) (c : Nat) (w' : World), w'.ownsRow 0 3 1 (.slice A (kids L i).length c) (kids L i).length ((kids L i).map i64) → Below wr.drew.heap.size wr.drew w' → Calls Try.prog 19 #[.slice A (kids L i).length c, U] w' fun e w'' => e = .returned (.bool true) ∧ Below w'.heap.size w' w'') := fun A c w' h1 h2 => numbers_same w' _ _ (kids L i) (reads_own rfl h1) (reads_own rfl (own_keeps (own_keeps q2 ((Kept.refl (fun _ => False) wr).drew)) (Kept.of_below h2)))
            have ST : Hid (wr.drew.cell? ⟨H, 2 * i, none⟩ = some U) := y0
            have KP : Hid (∀ a b : World, Below a.heap.size a b → a.cell? ⟨H, 2 * i, none⟩ = some U → b.cell? ⟨H, 2 * i, none⟩ = some U) := fun a b hb h => (hb.cell (World.block_lt_of_cell? a _ h)).trans h
            clear hU hcell2 hhg e2 q2 y0
            go_wp2_with fail
            go_region_held3 (fun w' => w'.cell? ⟨H, 2 * i, none⟩ = some U)
              (first | exact ST.out | (refine KP.out _ _ (by with_reducible assumption) ?_; with_reducible assumption) | fail)
              (first | (go_at_call 15; (with_reducible refine C1.out.mono ?_); rintro e w4 ⟨A4, c4, rfl, o4, b4⟩) | (go_at_call 19; (with_reducible refine (NS.out _ _ _ o4 b4).mono ?_); rintro e w5 ⟨rfl, b5⟩) | fail)
            have BX : Below wr.heap.size wr w5 := ((Below.refl _ wr).drew).trans ((b4.trans (b5.mono b4.size)).mono (Nat.le_refl _))
            have S9 := Lib.hid (HS.out.below BX)
            have Q9 := Lib.hid (own_keeps Q1.out (Kept.of_below BX))
            have R9 : Hid (∀ j, j < 2 * k → w5.ownsRow 0 3 1 (V (wi j)) (kids L (j / 2 : Nat)).length ((kids L (j / 2 : Nat)).map i64)) := fun j hj => own_keeps (Q2.out j hj) (Kept.of_below BX)
            clear o4 b4 b5 BX C1 NS ST KP HS Q1 Q2
            go_wp2_with fail
            exact ⟨⟨i + 1, by omega, by simp, S9, Q9, R9⟩, by simp [intOf]; omega⟩
          · have : i = k := by omega
            subst this
            by_cases him : i < m
            · go_wp2_with fail
              go_ret
              exact ⟨rfl, HS.out.2⟩
            · go_wp2_with fail
              go_ret
              exact ⟨rfl, HS.out.2⟩
end Go.Proofs.Ythemibhajlgcdaa.Kin

/- OctetFresh: the walk (written by gen_ofc.py). -/
import Derived.Test.YtolfmchgcelnmaaOfB
import Derived.Test.YtolfmchgcelnmaaOc20
namespace Go.Proofs.Ytolfmchgcelnmaa.O
open Go.RowKit Go.Proofs.Ytolfmchgcelnmaa.Mem
set_option linter.unusedVariables false
theorem info22 : (Try.prog.info? 22).map (fun i => (i.zero, i.size, i.bytes)) = some (some (.slice none 0 0), 1, 24) := by kernel_rfl
theorem Bag.perm {w0 W : World} {vs us : List (Value × List Int)} (h : Bag w0 W vs) (p : vs.Perm us) : Bag w0 W us :=
  ⟨fun x hx => h.own x (p.mem_iff.2 hx), fun x hx => h.new x (p.mem_iff.2 hx), (p.pairwise_iff (fun {x y} h b e1 e2 => h b e2 e1)).1 h.far⟩
theorem Bag.nil (w0 W : World) : Bag w0 W [] := ⟨(fun x hx => by cases hx), (fun x hx => by cases hx), List.Pairwise.nil⟩
theorem Bag.add2 {w0 W W' : World} {vs : List (Value × List Int)} {v : Value} {zs : List Int} (h : Bag w0 W vs) (h2 : Bag w0 W' vs) (hw : w0.heap.size ≤ W.heap.size) (ho : OB W' v zs) (hf : Fresh W v) : Bag w0 W' (vs ++ [(v, zs)]) := by
  refine ⟨fun x hx => ?_, fun x hx b e => ?_, List.pairwise_append.2 ⟨h.far, List.pairwise_singleton _ _, fun x hx y hy b e1 e2 => ?_⟩⟩
  · rcases List.mem_append.1 hx with hx | hx
    · exact h2.own x hx
    · obtain rfl := List.mem_singleton.1 hx
      exact ho
  · rcases List.mem_append.1 hx with hx | hx
    · exact h2.new x hx b e
    · obtain rfl := List.mem_singleton.1 hx
      exact Nat.le_trans hw (hf b e)
  · obtain rfl := List.mem_singleton.1 hy
    have h3 := own_lt (h.own x hx) b e1
    have h4 := hf b e2
    omega
theorem Bag.append {w0 w1 W : World} {vs us : List (Value × List Int)} (h : Bag w0 W vs) (hu : Bag w1 W us) (hw : w0.heap.size ≤ w1.heap.size) (hlt : ∀ x ∈ vs, ∀ b, x.1.ownBlock = some b → b < w1.heap.size) : Bag w0 W (vs ++ us) := by
  refine ⟨fun x hx => ?_, fun x hx b e => ?_, List.pairwise_append.2 ⟨h.far, hu.far, fun x hx y hy b e1 e2 => ?_⟩⟩
  · rcases List.mem_append.1 hx with hx | hx
    · exact h.own x hx
    · exact hu.own x hx
  · rcases List.mem_append.1 hx with hx | hx
    · exact h.new x hx b e
    · exact Nat.le_trans hw (hu.new x hx b e)
  · have := hlt x hx b e1
    have := hu.new y hy b e2
    omega
theorem bag_turn {w0 W : World} {x y a0 a1 a2 a3 a4 a5 a6 : Value × List Int} (h : Bag w0 W ([x, y] ++ [a0, a1, a2, a3, a4, a5, a6])) : Bag w0 W [a0, a1, a2, a3, a4, x, a5, a6, y] := by
  refine h.perm ?_
  refine List.Perm.trans (List.perm_append_comm) ?_
  show ([a0, a1, a2, a3, a4] ++ ([a5, a6] ++ [x, y])).Perm ([a0, a1, a2, a3, a4] ++ ([x] ++ ([a5, a6] ++ [y])))
  refine List.Perm.append_left _ ?_
  show ([a5, a6] ++ ([x] ++ [y])).Perm _
  rw [← List.append_assoc, ← List.append_assoc]
  exact (List.perm_append_comm).append_right _
/-- What nine calls give. -/
def nine (zs : List Int) (x1 x2 x4 x8 obj hi lo : Int) : List (List Int) := [zs ++ le 1 x1, zs ++ le 2 x2, zs ++ le 4 x4, zs ++ le 8 x8, zs ++ wordB hi lo, zs ++ capB obj hi lo, zs ++ zs, zs, zs]
def times (ZS : List (List Int)) : Nat → List (List Int)
  | 0 => []
  | t + 1 => times ZS t ++ ZS
/-- t turns are done. -/
structure Tn (wb : World) (r : Nat) (zs : List Int) (ZS : List (List Int)) (n t : Nat) (v9 : Value) (VS : List (Value × List Int)) (F : Nat → Prop) (wr : World) : Prop where
  kept : Kept (fun b => b = r) wb wr
  bag : Bag wb wr VS
  lists : VS.map (·.2) = times ZS t
  own : wr.ownsRow 0 22 1 v9 (9 * t) (VS.map (·.1))
  far : ∀ b, v9.ownBlock = some b → wb.heap.size ≤ b ∧ ∀ x ∈ VS, x.1.ownBlock ≠ some b
  rd : Rd 82 wr r ((zs ++ zs).drop (n * t)) F
theorem Row5.reads {w : World} {g n c : Nat} (h : Row5 w g n) (hc : n ≤ c) (hm : c ≤ maxLen) : ∃ ys, ys.length = n ∧ RB w (.slice (some ⟨g, 0, none⟩) n c) ys := by
  obtain ⟨cur, h1, h2⟩ := h
  have h3 : ∀ j, ∃ z, j < n → cur[j]? = some (.int .u8 z) := fun j => by
    by_cases hj : j < n
    · obtain ⟨z, hz⟩ := h2 j hj
      exact ⟨z, fun _ => hz⟩
    · exact ⟨0, fun h => absurd h hj⟩
  obtain ⟨f, hf⟩ := Classical.skolem.1 h3
  refine ⟨(List.range n).map f, by simp, some ⟨g, 0, none⟩, c, by simp, by simpa using hc, hm, fun hp => ⟨g, 0, rfl, fun j u hu => ?_⟩⟩
  have hj : j < n := by
    have := (List.getElem?_eq_some_iff.1 hu).1
    simpa using this
  rw [Nat.zero_add]
  refine cell_row h1 ?_
  rw [hf j hj]
  simp [List.getElem?_map, List.getElem?_range hj] at hu
  rw [hu]
set_option maxHeartbeats 8000000 in
set_option maxRecDepth 100000 in
theorem law_fresh (w : World) (vb : Value) (zs : List Int) (x obj hi lo : Int) (hx : U64 x) (hh : U64 hi) (hl : U64 lo) (hB : Bytes zs) (hn : zs.length ≤ 1048576) (h : RB w vb zs) :
    Calls Try.prog 4 #[vb, .int .u64 x, .agg #[.int .i64 obj, .int .u64 hi, .int .u64 lo]] w fun e w' => e = .returned (.bool true) ∧ Below w.heap.size w w' := by
  obtain ⟨A, c, rfl, h2, h3, h4⟩ := h
  obtain ⟨n, hlen⟩ : ∃ n, zs.length = n := ⟨_, rfl⟩
  have HR : Hid (RB w (.slice A n c) zs) := ⟨A, c, by rw [hlen], h2, h3, h4⟩
  have HN := Lib.hid hlen
  rw [hlen] at hn h2 ⊢
  clear h4 hlen
  have hcap : c ≤ 9223372036854775807 := h3
  have HM := Lib.hid (and62 obj)
  obtain ⟨ob, hob⟩ : ∃ ob, bits .and .i64 obj 4611686018427387903 = ob := ⟨_, rfl⟩
  rw [hob] at HM
  go_enter Try.func4, Try.ntmps4
  go_wp2_with (first | (go_at_call 7; (with_reducible refine (head_any _).mono ?_); rintro e w1 ⟨rfl, b1⟩; have HB1 := Lib.hid b1; have r1 := row_on b1 (row_new (w := w) (o := .cells #[.int .i64 obj, .int .u64 hi, .int .u64 lo] 27) rfl); have y0 := cell_row (j := 0) r1 rfl; have y1 := cell_row (j := 1) r1 rfl; have y2 := cell_row (j := 2) r1 rfl; have f0 : w1.frozen? ⟨w.heap.size, 0, none⟩ = false := free_row r1; have HR1 := Lib.hid r1; clear b1 r1) | fail)
  obtain ⟨wz, hwz⟩ : ∃ wz, w1.setCell ⟨w.heap.size, 0, none⟩ (.int .i64 ob) = wz := ⟨_, rfl⟩
  have hb1 : Below w.heap.size w w1 := ((Below.refl _ w).alloc (Nat.le_refl _) _).trans (HB1.out.mono (by simp))
  have HWZ : Hid (Below w.heap.size w wz) := hwz ▸ ((Kept.of_below (S := fun _ => False) hb1).setCell (p := ⟨w.heap.size, 0, none⟩) (.inr (Nat.le_refl _)) (.int .i64 ob)).below (fun _ h => h.elim) (Nat.le_refl _)
  have HBX : Hid (wz.heap[w.heap.size]? = some (.cells #[.int .i64 ob, .int .u64 hi, .int .u64 lo] 27)) := by
    have := heap_setCell_same w1 w.heap.size 0 _ _ (.int .i64 ob) HR1.out
    rw [hwz] at this
    exact this
  have HRZ := Lib.hid (HR.out.below HWZ.out)
  rw [hwz]
  clear hwz hb1 HB1 HR1 y0 y1 y2 f0
  (with_reducible refine (lent_any wz _ zs (by rw [HN.out]; omega) HRZ.out).mono ?_)
  rintro e w2 ⟨AL, cL, rfl, hL, hb2, hf2⟩
  rw [HN.out] at hL hf2 ⊢
  have HLB := Lib.hid hL
  have HB2 := Lib.hid hb2
  have HF2 := Lib.hid hf2
  clear hL hb2 hf2
  have HR2 := Lib.hid (HRZ.out.below HB2.out).holds.2
  go_wp2_with (first | (at_builtin; refine list_app2 rfl (.tmp 32) (.tmp 33) 22 rfl 5 0 _ 1 1 Try.underlying22 info5 rfl (by decide) (by decide) (.slice (some ⟨w2.heap.size, 0, none⟩) 0 0) 0 [] rfl (World.ownsRow_made w2 #[] 0 (Nat.zero_le _) (Nat.zero_le _) rfl) A n c (zs.map byteC) rfl (by rw [List.length_map, HN.out, Nat.mul_one]) ((HRZ.out.below HB2.out).below ((Below.refl _ w2).alloc (Nat.le_refl _) (.cells #[] 5))).holds.2 one8 (by omega) (Nat.zero_le _) ?_; intro v3 w3 hown3 hwent3; obtain ⟨A3, c3, rfl, _⟩ := own_slice hown3; have HO3 : Hid (w3.ownsRow 0 5 1 (.slice A3 n c3) n (zs.map byteC)) := (by rw [Nat.zero_add, List.nil_append] at hown3; exact hown3); have B23 := Lib.hid (((Below.refl _ w2).alloc (Nat.le_refl _) (.cells #[] 5)).trans (hwent3.kept.below (B := w2.heap.size) (fun b hb => Nat.le_of_eq (by simpa [Value.ownBlock] using hb)) (by simp))); have F3 : Hid (Fresh w2 (.slice A3 n c3)) := (by have := fresh_went (w := w2) (fun b hb => Nat.le_of_eq (by simpa [Value.ownBlock] using hb)) (by simp) hwent3; rw [Nat.zero_add] at this; exact this); clear hown3 hwent3) | (at_builtin; refine list_app2 rfl (.tmp 34) (.tmp 35) 22 rfl 5 0 _ 1 1 Try.underlying22 info5 rfl (by decide) (by decide) (.slice A3 n c3) n _ rfl HO3.out A n c (zs.map byteC) rfl (by rw [List.length_map, HN.out, Nat.mul_one]) ((HRZ.out.below HB2.out).below (B23.out)).holds.2 one8 (by omega) (Nat.zero_le _) ?_; intro v4 w4 hown4 hwent4; obtain ⟨A4, c4, rfl, _⟩ := own_slice hown4; have HO4 := Lib.hid hown4; have B24 := Lib.hid (B23.out.trans (hwent4.kept.below (B := w2.heap.size) (fun b hb => F3.out b hb) B23.out.size)); clear hown4 hwent4) | fail)
  have HO5 : Hid (OB w4 (.slice A4 (zs ++ zs).length c4) (zs ++ zs)) := by
    show OB _ _ _
    unfold OB
    rw [List.length_append, HN.out, List.map_append]
    exact HO4.out
  have HRI := Lib.hid (reader_in w4 _ (zs ++ zs) (by rw [List.length_append, HN.out]; omega) HO5.out.reads)
  rw [List.length_append, HN.out] at HRI
  (with_reducible refine HRI.out.mono ?_)
  rintro e wb ⟨r, rfl, hb5, hrd⟩
  have HRD := Lib.hid hrd
  have B5 := Lib.hid hb5
  have HRr : Hid (w4.heap.size ≤ r ∧ r < wb.heap.size) := by obtain ⟨A, c, h⟩ := hrd; exact h.hr
  have HBW : Hid (∀ wr, Kept (fun b => b = r) wb wr → Below w.heap.size w wr) := fun wr hk => by
    have h1 := HWZ.out.trans ((HB2.out.trans (B24.out.mono HB2.out.size)).mono HWZ.out.size)
    have h2 := h1.trans (B5.out.mono h1.size)
    exact h2.trans (hk.below (fun b e => by have := HRr.out.1; have := h1.size; have e : b = r := e; omega) h2.size)
  have HL : Hid (∀ wr, Kept (fun b => b = r) wb wr → LB wr AL n cL zs) := fun wr hk => by
    have h1 := (HLB.out.below B24.out).below B5.out
    refine ⟨h1.1, own_kept h1.2 hk (fun b hb e => ?_)⟩
    have h2 := own_lt HLB.out.2 b hb
    have h3 := B24.out.size
    have := HRr.out.1
    have e : b = r := e
    omega
  have HX : Hid (∀ wr, Kept (fun b => b = r) wb wr → wr.heap[w.heap.size]? = some (.cells #[.int .i64 ob, .int .u64 hi, .int .u64 lo] 27)) := fun wr hk => by
    have h1 := row_on B5.out (row_on B24.out (row_on HB2.out HBX.out))
    have h2 := lt_of_row HBX.out
    have h3 := HB2.out.size
    have h4 := B24.out.size
    exact hk.row h1 (fun e => by have := HRr.out.1; have e : w.heap.size = r := e; omega)
  have HV : Hid (∀ wr, Kept (fun b => b = r) wb wr → RB wr (.slice A n c) zs) := fun wr hk => HR.out.below (HBW.out wr hk)
  have HF : Hid (∀ b, (Value.slice AL n cL).ownBlock = some b → w.heap.size ≤ b ∧ b < wb.heap.size ∧ b ≠ r) := fun b hb => by
    have h1 := HF2.out b hb
    have h2 := own_lt HLB.out.2 b (by cases AL with | none => simp [Value.ownBlock] at hb | some a => simpa [Value.ownBlock] using hb)
    have h3 := B24.out.size
    have h4 := HWZ.out.size
    have h5 := B5.out.size
    have := HRr.out.1
    exact ⟨by omega, by omega, by omega⟩
  obtain ⟨F, hF⟩ : ∃ F : Nat → Prop, (fun b => w4.heap.size ≤ b ∧ b < wb.heap.size) = F := ⟨_, rfl⟩
  have HFr : Hid (∀ b, F b → b < wb.heap.size) := hF ▸ fun b hb => hb.2
  rw [hF] at HRD hrd
  have HRr2 : Hid (w.heap.size ≤ r ∧ r < wb.heap.size) := ⟨by have h1 := HRr.out; have h2 := HWZ.out.size; have h3 := HB2.out.size; have h4 := B24.out.size; omega, HRr.out.2⟩
  clear hF hrd hb5 HRI HO5 HO4 HO3 B24 B23 F3 HLB HB2 HF2 HR2 HRZ HBX HWZ HRr B5
  have T0 : Hid (Tn wb r zs (nine zs (x % 256) (x % 65536) (x % 4294967296) x ob hi lo) n 0 (.slice none 0 0) [] F wb) := ⟨Kept.refl _ _, ⟨(fun x hx => by cases hx), (fun x hx => by cases hx), List.Pairwise.nil⟩, rfl, World.ownsRow_nil _ _ _ _, (fun b hb => by simp [Value.ownBlock] at hb), by rw [Nat.mul_zero, List.drop_zero]; exact HRD.out⟩
  have TT : Hid (∀ t, t < 2 → n ≤ ((zs ++ zs).drop (n * t)).length ∧ ((zs ++ zs).drop (n * t)).take n = zs ∧ ((zs ++ zs).drop (n * t)).drop n = (zs ++ zs).drop (n * (t + 1))) := fun t ht => by
    refine ⟨?_, ?_, ?_⟩
    · rw [List.length_drop, List.length_append, HN.out]
      match t, ht with
      | 0, _ => omega
      | 1, _ => omega
    · match t, ht with
      | 0, _ => rw [Nat.mul_zero, List.drop_zero, List.take_left' HN.out]
      | 1, _ => rw [Nat.mul_one, List.drop_left' HN.out, ← HN.out, List.take_length]
    · rw [List.drop_drop, Nat.mul_add, Nat.mul_one]
  clear HRD
  go_wp2_with fail
  go_loopw [9, 11, 12, 13, 14, 15] (fun v9 v11 v12 v13 v14 v15 wr => ∃ (t : Nat) (A9 : Option Addr) (c9 : Nat) (VS : List (Value × List Int)), t ≤ 2 ∧ v11 = .int .i64 t ∧ v9 = .slice A9 (9 * t) c9 ∧ Hid (Tn wb r zs (nine zs (x % 256) (x % 65536) (x % 4294967296) x ob hi lo) n t (.slice A9 (9 * t) c9) VS F wr)) (fun _ v11 _ _ _ _ _ => 2 - (intOf v11).toNat)
  case atStart => exact ⟨0, none, 0, [], by decide, rfl, rfl, T0⟩
  case round =>
    clear T0
    obtain ⟨t, A9, c9, VS, ht, rfl, rfl, HT⟩ := hrel
    by_cases hlt : t < 2
    · have r0 := HX.out wr HT.out.kept
      have y0 : wr.cell? ⟨w.heap.size, 0, none⟩ = some (.int .i64 ob) := cell_row r0 rfl
      have y1 : wr.cell? ⟨w.heap.size, 1, none⟩ = some (.int .u64 hi) := cell_row r0 rfl
      have y2 : wr.cell? ⟨w.heap.size, 2, none⟩ = some (.int .u64 lo) := cell_row r0 rfl
      have HC := Lib.hid (cap_any wr (.slice AL n cL) zs ob hi lo HM.out.1 HM.out.2 hh hl (by rw [HN.out]; omega) (HL.out wr HT.out.kept).reads)
      rw [HN.out] at HC
      clear r0
      go_wp2_with (first | (go_at_call 14; (with_reducible refine HC.out.mono ?_); rintro e w1 ⟨Ax, cx, rfl, ox, bx, fx⟩; have OX := Lib.hid ox; have BX := Lib.hid bx; have FX := Lib.hid fx; have HRO := Lib.hid (row_ok w1 r _ F (HT.out.rd.below bx) n (TT.out t hlt).1 (by rw [List.length_drop, List.length_append, HN.out]; omega)); rw [(TT.out t hlt).2.1, (TT.out t hlt).2.2] at HRO; clear ox bx fx) | (go_at_call 28; (with_reducible refine HRO.out.mono ?_); rintro e w2 ⟨Ay, cy, rfl, oy, ry, ky, fy⟩; have OY := Lib.hid oy; have RY := Lib.hid ry; have KY := Lib.hid ky; have FY := Lib.hid fy; clear oy ry ky fy) | fail)
      have K2 : Hid (Kept (fun b => b = r) wb w2) := (HT.out.kept.then_below BX.out).trans KY.out (fun _ e => .inl e)
      have BL2 := Lib.hid (HL.out w2 K2.out).reads
      have KEEPY : Hid (∀ w', Kept (fun b => (Value.slice A9 (9 * t) c9).ownBlock = some b) w2.drew w' → w'.cell? ⟨w.heap.size, 1, none⟩ = some (.int .u64 hi) ∧ w'.cell? ⟨w.heap.size, 2, none⟩ = some (.int .u64 lo)) := fun w' hb => by
        have h1 := hb.row (show w2.drew.heap[w.heap.size]? = _ from HX.out w2 K2.out) (fun e => by have h1 := (HT.out.far _ e).1; have h2 := lt_of_row (HX.out wb (Kept.refl _ _)); omega)
        exact ⟨cell_row h1 rfl, cell_row h1 rfl⟩
      clear HC HRO y0 y1 y2
      refine region_meet (fun a0 a' w' => ∃ (A9 : Option Addr) (c9 : Nat) (VS : List (Value × List Int)) (x63 x64 x65 x66 x67 x68 x69 x70 x71 x72 x73 x74 x75 x76 x77 x78 x79 x80 x81 x82 x83 x84 x85 x86 x87 x88 x89 x90 x91 x92 x93 : Value), a' = ((((((((((((((((((((((((((((((((a0.put (some 63) x63).put (some 64) x64).put (some 65) x65).put (some 66) x66).put (some 67) x67).put (some 68) x68).put (some 69) x69).put (some 70) x70).put (some 71) x71).put (some 72) x72).put (some 73) x73).put (some 74) x74).put (some 75) x75).put (some 76) x76).put (some 77) x77).put (some 78) x78).put (some 79) x79).put (some 80) x80).put (some 81) x81).put (some 82) x82).put (some 83) x83).put (some 84) x84).put (some 85) x85).put (some 86) x86).put (some 87) x87).put (some 88) x88).put (some 89) x89).put (some 90) x90).put (some 91) x91).put (some 92) x92).put (some 93) x93).put (some 9) (.slice A9 (9 * (t + 1)) c9)) ∧ Tn wb r zs (nine zs (x % 256) (x % 65536) (x % 4294967296) x ob hi lo) n (t + 1) (.slice A9 (9 * (t + 1)) c9) VS F w') ?_ ?_
      · refine wp_region_noPanic ?_
        refine wp_region_held_drew (S := fun w' => Kept (fun b => (Value.slice A9 (9 * t) c9).ownBlock = some b) w2.drew w') (by kernel_rfl) (Kept.refl _ _) (fun hHeld => ?_)
        refine wpAnyH_take (i := 0) (oi := { dst := some 63, op := Go.Op.move (Go.Operand.tmp 9), type := 46, pos := "law.go:254", after := #[], guard := none }) (v := ?_) rfl (by kernel_rfl) (by kernel_rfl) (by kernel_rfl) (fun _ _ _ h => h) (Or.inl ⟨by rfl, ?hy0⟩) (by assumption) ?rest0
        case hy0 => (intro w hSw; try have z0 := (KEEPY.out _ hSw).1; try have z1 := (KEEPY.out _ hSw).2; go_simp; try with_reducible rfl)
        try simp only [Act.put, List.setIfInBounds_toArray, List.set_cons_zero, List.set_cons_succ]
        refine wpAnyH_take (i := 1) (oi := { dst := some 64, op := Go.Op.move (Go.Operand.tmp 7), type := 22, pos := "law.go:254", after := #[], guard := none }) (v := ?_) rfl (by kernel_rfl) (by kernel_rfl) (by kernel_rfl) (fun _ _ _ h => h) (Or.inl ⟨by rfl, ?hy1⟩) (by assumption) ?rest1
        case hy1 => (intro w hSw; try have z0 := (KEEPY.out _ hSw).1; try have z1 := (KEEPY.out _ hSw).2; go_simp; try with_reducible rfl)
        try simp only [Act.put, List.setIfInBounds_toArray, List.set_cons_zero, List.set_cons_succ]
        refine wpAnyH_take (i := 2) (oi := { dst := some 65, op := Go.Op.move (Go.Operand.tmp 1), type := 23, pos := "law.go:254", after := #[], guard := none }) (v := ?_) rfl (by kernel_rfl) (by kernel_rfl) (by kernel_rfl) (fun _ _ _ h => h) (Or.inl ⟨by rfl, ?hy2⟩) (by assumption) ?rest2
        case hy2 => (intro w hSw; try have z0 := (KEEPY.out _ hSw).1; try have z1 := (KEEPY.out _ hSw).2; go_simp; try with_reducible rfl)
        try simp only [Act.put, List.setIfInBounds_toArray, List.set_cons_zero, List.set_cons_succ]
        refine wpAnyH_take (i := 3) (oi := { dst := some 66, op := Go.Op.convert 23 5 (Go.Operand.tmp 65), type := 5, pos := "law.go:254", after := #[{ on := 2, ground := Go.Ground.data }], guard := none }) (v := ?_) rfl (by kernel_rfl) (by kernel_rfl) (by kernel_rfl) (fun _ _ _ h => h) (Or.inl ⟨by rfl, ?hy3⟩) (by assumption) ?rest3
        case hy3 => (intro w hSw; try have z0 := (KEEPY.out _ hSw).1; try have z1 := (KEEPY.out _ hSw).2; go_simp; try with_reducible rfl)
        try simp only [Act.put, List.setIfInBounds_toArray, List.set_cons_zero, List.set_cons_succ]
        refine wpAnyH_take (i := 5) (oi := { dst := some 68, op := Go.Op.move (Go.Operand.tmp 7), type := 22, pos := "law.go:254", after := #[], guard := none }) (v := ?_) rfl (by kernel_rfl) (by kernel_rfl) (by kernel_rfl) (fun _ _ _ h => h) (Or.inl ⟨by rfl, ?hy5⟩) (by assumption) ?rest5
        case hy5 => (intro w hSw; try have z0 := (KEEPY.out _ hSw).1; try have z1 := (KEEPY.out _ hSw).2; go_simp; try with_reducible rfl)
        try simp only [Act.put, List.setIfInBounds_toArray, List.set_cons_zero, List.set_cons_succ]
        refine wpAnyH_take (i := 6) (oi := { dst := some 69, op := Go.Op.move (Go.Operand.tmp 1), type := 23, pos := "law.go:254", after := #[], guard := none }) (v := ?_) rfl (by kernel_rfl) (by kernel_rfl) (by kernel_rfl) (fun _ _ _ h => h) (Or.inl ⟨by rfl, ?hy6⟩) (by assumption) ?rest6
        case hy6 => (intro w hSw; try have z0 := (KEEPY.out _ hSw).1; try have z1 := (KEEPY.out _ hSw).2; go_simp; try with_reducible rfl)
        try simp only [Act.put, List.setIfInBounds_toArray, List.set_cons_zero, List.set_cons_succ]
        refine wpAnyH_take (i := 7) (oi := { dst := some 70, op := Go.Op.convert 23 32 (Go.Operand.tmp 69), type := 32, pos := "law.go:254", after := #[{ on := 6, ground := Go.Ground.data }], guard := none }) (v := ?_) rfl (by kernel_rfl) (by kernel_rfl) (by kernel_rfl) (fun _ _ _ h => h) (Or.inl ⟨by rfl, ?hy7⟩) (by assumption) ?rest7
        case hy7 => (intro w hSw; try have z0 := (KEEPY.out _ hSw).1; try have z1 := (KEEPY.out _ hSw).2; go_simp; try with_reducible rfl)
        try simp only [Act.put, List.setIfInBounds_toArray, List.set_cons_zero, List.set_cons_succ]
        refine wpAnyH_take (i := 9) (oi := { dst := some 72, op := Go.Op.move (Go.Operand.tmp 7), type := 22, pos := "law.go:254", after := #[], guard := none }) (v := ?_) rfl (by kernel_rfl) (by kernel_rfl) (by kernel_rfl) (fun _ _ _ h => h) (Or.inl ⟨by rfl, ?hy9⟩) (by assumption) ?rest9
        case hy9 => (intro w hSw; try have z0 := (KEEPY.out _ hSw).1; try have z1 := (KEEPY.out _ hSw).2; go_simp; try with_reducible rfl)
        try simp only [Act.put, List.setIfInBounds_toArray, List.set_cons_zero, List.set_cons_succ]
        refine wpAnyH_take (i := 10) (oi := { dst := some 73, op := Go.Op.move (Go.Operand.tmp 1), type := 23, pos := "law.go:254", after := #[], guard := none }) (v := ?_) rfl (by kernel_rfl) (by kernel_rfl) (by kernel_rfl) (fun _ _ _ h => h) (Or.inl ⟨by rfl, ?hy10⟩) (by assumption) ?rest10
        case hy10 => (intro w hSw; try have z0 := (KEEPY.out _ hSw).1; try have z1 := (KEEPY.out _ hSw).2; go_simp; try with_reducible rfl)
        try simp only [Act.put, List.setIfInBounds_toArray, List.set_cons_zero, List.set_cons_succ]
        refine wpAnyH_take (i := 11) (oi := { dst := some 74, op := Go.Op.convert 23 34 (Go.Operand.tmp 73), type := 34, pos := "law.go:254", after := #[{ on := 10, ground := Go.Ground.data }], guard := none }) (v := ?_) rfl (by kernel_rfl) (by kernel_rfl) (by kernel_rfl) (fun _ _ _ h => h) (Or.inl ⟨by rfl, ?hy11⟩) (by assumption) ?rest11
        case hy11 => (intro w hSw; try have z0 := (KEEPY.out _ hSw).1; try have z1 := (KEEPY.out _ hSw).2; go_simp; try with_reducible rfl)
        try simp only [Act.put, List.setIfInBounds_toArray, List.set_cons_zero, List.set_cons_succ]
        refine wpAnyH_take (i := 13) (oi := { dst := some 76, op := Go.Op.move (Go.Operand.tmp 7), type := 22, pos := "law.go:254", after := #[], guard := none }) (v := ?_) rfl (by kernel_rfl) (by kernel_rfl) (by kernel_rfl) (fun _ _ _ h => h) (Or.inl ⟨by rfl, ?hy13⟩) (by assumption) ?rest13
        case hy13 => (intro w hSw; try have z0 := (KEEPY.out _ hSw).1; try have z1 := (KEEPY.out _ hSw).2; go_simp; try with_reducible rfl)
        try simp only [Act.put, List.setIfInBounds_toArray, List.set_cons_zero, List.set_cons_succ]
        refine wpAnyH_take (i := 14) (oi := { dst := some 77, op := Go.Op.move (Go.Operand.tmp 1), type := 23, pos := "law.go:254", after := #[], guard := none }) (v := ?_) rfl (by kernel_rfl) (by kernel_rfl) (by kernel_rfl) (fun _ _ _ h => h) (Or.inl ⟨by rfl, ?hy14⟩) (by assumption) ?rest14
        case hy14 => (intro w hSw; try have z0 := (KEEPY.out _ hSw).1; try have z1 := (KEEPY.out _ hSw).2; go_simp; try with_reducible rfl)
        try simp only [Act.put, List.setIfInBounds_toArray, List.set_cons_zero, List.set_cons_succ]
        refine wpAnyH_take (i := 16) (oi := { dst := some 79, op := Go.Op.move (Go.Operand.tmp 7), type := 22, pos := "law.go:254", after := #[], guard := none }) (v := ?_) rfl (by kernel_rfl) (by kernel_rfl) (by kernel_rfl) (fun _ _ _ h => h) (Or.inl ⟨by rfl, ?hy16⟩) (by assumption) ?rest16
        case hy16 => (intro w hSw; try have z0 := (KEEPY.out _ hSw).1; try have z1 := (KEEPY.out _ hSw).2; go_simp; try with_reducible rfl)
        try simp only [Act.put, List.setIfInBounds_toArray, List.set_cons_zero, List.set_cons_succ]
        refine wpAnyH_take (i := 17) (oi := { dst := some 80, op := Go.Op.fieldAddr 27 (Go.Operand.tmp 5) 1, type := 0, pos := "law.go:254", after := #[], guard := none }) (v := ?_) rfl (by kernel_rfl) (by kernel_rfl) (by kernel_rfl) (fun _ _ _ h => h) (Or.inl ⟨by rfl, ?hy17⟩) (by assumption) ?rest17
        case hy17 => (intro w hSw; try have z0 := (KEEPY.out _ hSw).1; try have z1 := (KEEPY.out _ hSw).2; go_simp; try with_reducible rfl)
        try simp only [Act.put, List.setIfInBounds_toArray, List.set_cons_zero, List.set_cons_succ]
        refine wpAnyH_take (i := 18) (oi := { dst := some 81, op := Go.Op.load 25 (Go.Operand.tmp 80), type := 25, pos := "law.go:254", after := #[{ on := 17, ground := Go.Ground.data }], guard := none }) (v := ?_) rfl (by kernel_rfl) (by kernel_rfl) (by kernel_rfl) (fun _ _ _ h => h) (Or.inl ⟨by rfl, ?hy18⟩) (by assumption) ?rest18
        case hy18 => (intro w hSw; try have z0 := (KEEPY.out _ hSw).1; try have z1 := (KEEPY.out _ hSw).2; go_simp; try with_reducible rfl)
        try simp only [Act.put, List.setIfInBounds_toArray, List.set_cons_zero, List.set_cons_succ]
        refine wpAnyH_take (i := 20) (oi := { dst := some 83, op := Go.Op.move (Go.Operand.tmp 12), type := 22, pos := "law.go:254", after := #[], guard := none }) (v := ?_) rfl (by kernel_rfl) (by kernel_rfl) (by kernel_rfl) (fun _ _ _ h => h) (Or.inl ⟨by rfl, ?hy20⟩) (by assumption) ?rest20
        case hy20 => (intro w hSw; try have z0 := (KEEPY.out _ hSw).1; try have z1 := (KEEPY.out _ hSw).2; go_simp; try with_reducible rfl)
        try simp only [Act.put, List.setIfInBounds_toArray, List.set_cons_zero, List.set_cons_succ]
        refine wpAnyH_take (i := 21) (oi := { dst := some 84, op := Go.Op.move (Go.Operand.tmp 7), type := 22, pos := "law.go:254", after := #[], guard := none }) (v := ?_) rfl (by kernel_rfl) (by kernel_rfl) (by kernel_rfl) (fun _ _ _ h => h) (Or.inl ⟨by rfl, ?hy21⟩) (by assumption) ?rest21
        case hy21 => (intro w hSw; try have z0 := (KEEPY.out _ hSw).1; try have z1 := (KEEPY.out _ hSw).2; go_simp; try with_reducible rfl)
        try simp only [Act.put, List.setIfInBounds_toArray, List.set_cons_zero, List.set_cons_succ]
        refine wpAnyH_take (i := 22) (oi := { dst := some 85, op := Go.Op.move (Go.Operand.tmp 7), type := 22, pos := "law.go:254", after := #[], guard := none }) (v := ?_) rfl (by kernel_rfl) (by kernel_rfl) (by kernel_rfl) (fun _ _ _ h => h) (Or.inl ⟨by rfl, ?hy22⟩) (by assumption) ?rest22
        case hy22 => (intro w hSw; try have z0 := (KEEPY.out _ hSw).1; try have z1 := (KEEPY.out _ hSw).2; go_simp; try with_reducible rfl)
        try simp only [Act.put, List.setIfInBounds_toArray, List.set_cons_zero, List.set_cons_succ]
        refine wpAnyH_take (i := 25) (oi := { dst := some 88, op := Go.Op.move (Go.Operand.tmp 7), type := 22, pos := "law.go:254", after := #[], guard := none }) (v := ?_) rfl (by kernel_rfl) (by kernel_rfl) (by kernel_rfl) (fun _ _ _ h => h) (Or.inl ⟨by rfl, ?hy25⟩) (by assumption) ?rest25
        case hy25 => (intro w hSw; try have z0 := (KEEPY.out _ hSw).1; try have z1 := (KEEPY.out _ hSw).2; go_simp; try with_reducible rfl)
        try simp only [Act.put, List.setIfInBounds_toArray, List.set_cons_zero, List.set_cons_succ]
        refine wpAnyH_take (i := 28) (oi := { dst := some 91, op := Go.Op.move (Go.Operand.tmp 14), type := 22, pos := "law.go:254", after := #[], guard := none }) (v := ?_) rfl (by kernel_rfl) (by kernel_rfl) (by kernel_rfl) (fun _ _ _ h => h) (Or.inl ⟨by rfl, ?hy28⟩) (by assumption) ?rest28
        case hy28 => (intro w hSw; try have z0 := (KEEPY.out _ hSw).1; try have z1 := (KEEPY.out _ hSw).2; go_simp; try with_reducible rfl)
        try simp only [Act.put, List.setIfInBounds_toArray, List.set_cons_zero, List.set_cons_succ]
        have HBG : Hid (Bag wr w2.drew ([(.slice Ax (n + 24) cx, zs ++ capB ob hi lo), (.slice Ay n cy, zs)])) := by
          have h0 : Bag wr w1 ([] ++ [(.slice Ax (n + 24) cx, zs ++ capB ob hi lo)]) := (Bag.nil wr wr).add (Nat.le_refl _) OX.out BX.out FX.out
          have h1 := h0.kept KY.out (fun b e x hx h => by have := h0.new x hx b h; have e : b = r := e; have := HRr2.out.2; have := HT.out.kept.size; omega)
          exact (h0.add2 h1 BX.out.size OY.out FY.out).below (Below.refl _ w2).drew
        refine calls_float (fun w' h => Kept.of_below h) (base := wr) (VS := [(.slice Ax (n + 24) cx, zs ++ capB ob hi lo), (.slice Ay n cy, zs)]) (L := .slice AL n cL) (zs := zs) (x1 := x % 256) (x2 := x % 65536) (x4 := x % 4294967296) (x8 := x) (hi := hi) (lo := lo) ⟨by rw [HN.out]; exact hn, BL2.out, by omega, by omega, by omega, hx, hh, hl, by rfl, by rfl, by rfl, by rfl, by rfl, by rfl, by rfl, by rfl, by rfl, by rfl, by rfl, by rfl, by rfl⟩ (Nat.le_trans BX.out.size KY.out.size) ⟨Below.refl _ _, by rfl, rfl, fun _ _ => rfl, ⟨[], rfl, by rw [List.append_nil]; exact HBG.out, fun i hi => by omega⟩, rfl, rfl⟩ ?_
        intro a w5 hst
        have hb5 := hst.below
        obtain ⟨v0, v1, v2, v3, v4, v5, v6, g2, g1, rfl, hbag⟩ := hst.frame rfl
        have HBAG := Lib.hid (bag_turn hbag)
        clear hst hbag HBG hHeld
        obtain ⟨P0, m0, d0, rfl⟩ : ∃ A m d, v0 = .slice A m d := by obtain ⟨A, d, e, _⟩ := own_slice (HBAG.out.own (v0, ZZ zs (x % 256) (x % 65536) (x % 4294967296) x hi lo 0) (by simp)); exact ⟨_, _, _, e⟩
        obtain ⟨P1, m1, d1, rfl⟩ : ∃ A m d, v1 = .slice A m d := by obtain ⟨A, d, e, _⟩ := own_slice (HBAG.out.own (v1, ZZ zs (x % 256) (x % 65536) (x % 4294967296) x hi lo 1) (by simp)); exact ⟨_, _, _, e⟩
        obtain ⟨P2, m2, d2, rfl⟩ : ∃ A m d, v2 = .slice A m d := by obtain ⟨A, d, e, _⟩ := own_slice (HBAG.out.own (v2, ZZ zs (x % 256) (x % 65536) (x % 4294967296) x hi lo 2) (by simp)); exact ⟨_, _, _, e⟩
        obtain ⟨P3, m3, d3, rfl⟩ : ∃ A m d, v3 = .slice A m d := by obtain ⟨A, d, e, _⟩ := own_slice (HBAG.out.own (v3, ZZ zs (x % 256) (x % 65536) (x % 4294967296) x hi lo 3) (by simp)); exact ⟨_, _, _, e⟩
        obtain ⟨P4, m4, d4, rfl⟩ : ∃ A m d, v4 = .slice A m d := by obtain ⟨A, d, e, _⟩ := own_slice (HBAG.out.own (v4, ZZ zs (x % 256) (x % 65536) (x % 4294967296) x hi lo 4) (by simp)); exact ⟨_, _, _, e⟩
        obtain ⟨P5, m5, d5, rfl⟩ : ∃ A m d, v5 = .slice A m d := by obtain ⟨A, d, e, _⟩ := own_slice (HBAG.out.own (v5, ZZ zs (x % 256) (x % 65536) (x % 4294967296) x hi lo 5) (by simp)); exact ⟨_, _, _, e⟩
        obtain ⟨P6, m6, d6, rfl⟩ : ∃ A m d, v6 = .slice A m d := by obtain ⟨A, d, e, _⟩ := own_slice (HBAG.out.own (v6, ZZ zs (x % 256) (x % 65536) (x % 4294967296) x hi lo 6) (by simp)); exact ⟨_, _, _, e⟩
        have HO1 : Hid (w5.ownsRow 0 22 1 (.slice A9 (9 * t) c9) (9 * t) (VS.map (·.1))) := by
          have h1 := own_keeps HT.out.own (Kept.of_below BX.out)
          have h2 := own_kept h1 KY.out (fun b hb e => by have := (HT.out.far b hb).1; have e : b = r := e; have := HRr2.out.2; omega)
          exact own_keeps (own_keeps h2 (Kept.of_below (Below.refl _ w2).drew)) (Kept.of_below hb5)
        try simp only [Act.put, List.setIfInBounds_toArray, List.set_cons_zero, List.set_cons_succ]
        refine wpAnyH_ready (rs := [29]) (by kernel_rfl) (by simp) ?_
        refine AllReadyH.cons (o := { dst := some 92, op := Go.Op.buildSlice 46 9 #[(0, Go.Operand.tmp 67), (1, Go.Operand.tmp 71), (2, Go.Operand.tmp 75), (3, Go.Operand.tmp 78), (4, Go.Operand.tmp 82), (5, Go.Operand.tmp 83), (6, Go.Operand.tmp 87), (7, Go.Operand.tmp 90), (8, Go.Operand.tmp 91)], type := 46, pos := "law.go:254", after := #[{ on := 4, ground := Go.Ground.data }, { on := 8, ground := Go.Ground.data }, { on := 12, ground := Go.Ground.data }, { on := 15, ground := Go.Ground.data }, { on := 19, ground := Go.Ground.data }, { on := 20, ground := Go.Ground.data }, { on := 24, ground := Go.Ground.data }, { on := 27, ground := Go.Ground.data }, { on := 28, ground := Go.Ground.data }], guard := none }) rfl (fun K hK => ?_) AllReadyH.nil
        go_simp
        refine hK.out _ _ ((Kept.of_below hb5).alloc _) (fun hHeld2 => ?_)
        clear hK K
        try simp only [Act.put, List.setIfInBounds_toArray, List.set_cons_zero, List.set_cons_succ]
        refine wpAnyH_ready (rs := [30]) (by kernel_rfl) (by simp) ?_
        refine AllReadyH.cons (o := { dst := some 93, op := Go.Op.call { callee := Go.Callee.builtin Go.Builtin.append, args := #[Go.Operand.tmp 63, Go.Operand.tmp 92], argTypes := #[46, 46] }, type := 46, pos := "law.go:254", after := #[{ on := 0, ground := Go.Ground.data }, { on := 29, ground := Go.Ground.data }, { on := 27, ground := Go.Ground.chain }], guard := none }) rfl (fun K hK => ?_) AllReadyH.nil
        refine step_app2 rfl (.tmp 63) (.tmp 92) 46 rfl 22 0 _ 1 24 Try.underlying46 info22 rfl (by decide) (by decide) (.slice A9 (9 * t) c9) (9 * t) (VS.map (·.1)) (by rfl) (own_keeps HO1.out ((Kept.refl _ _).alloc _)) (some ⟨w5.heap.size, 0, none⟩) 9 9 [.slice P0 m0 d0, .slice P1 m1 d1, .slice P2 m2 d2, .slice P3 m3 d3, .slice P4 m4 d4, .slice Ax (n + 24) cx, .slice P5 m5 d5, .slice P6 m6 d6, .slice Ay n cy] (by rfl) rfl (holds_new _ _ _ _ _ rfl) ?_ (by omega) (Nat.zero_le _) ?_
        · simp [Value.oneCell']
        · intro v9 w6 hown hwent
          have e9 : 9 * t + 9 = 9 * (t + 1) := by omega
          have hsz : (w5.alloc (.cells #[.slice P0 m0 d0, .slice P1 m1 d1, .slice P2 m2 d2, .slice P3 m3 d3, .slice P4 m4 d4, .slice Ax (n + 24) cx, .slice P5 m5 d5, .slice P6 m6 d6, .slice Ay n cy] 22)).heap.size = w5.heap.size + 1 := by simp
          have hkp := hwent.kept
          have hA9 : ∀ b, (Value.slice A9 (9 * t) c9).ownBlock = some b → wb.heap.size ≤ b ∧ b < wr.heap.size := fun b hb => ⟨(HT.out.far b hb).1, own_lt HT.out.own b hb⟩
          have hal : Below w5.heap.size w5 (w5.alloc (.cells #[.slice P0 m0 d0, .slice P1 m1 d1, .slice P2 m2 d2, .slice P3 m3 d3, .slice P4 m4 d4, .slice Ax (n + 24) cx, .slice P5 m5 d5, .slice P6 m6 d6, .slice Ay n cy] 22)) := (Below.refl _ w5).alloc (Nat.le_refl _) _
          have hdr : Below w2.heap.size w2 w2.drew := (Below.refl _ w2).drew
          have hKw5 : Kept (fun b => b = r) wb (w5.alloc (.cells #[.slice P0 m0 d0, .slice P1 m1 d1, .slice P2 m2 d2, .slice P3 m3 d3, .slice P4 m4 d4, .slice Ax (n + 24) cx, .slice P5 m5 d5, .slice P6 m6 d6, .slice Ay n cy] 22)) := ((K2.out.then_below hdr).then_below hb5).then_below hal
          have hK6 : Kept (fun b => b = r) wb w6 := hKw5.trans hkp (fun b hb => .inr (hA9 b hb).1)
          obtain ⟨US, hUS⟩ : ∃ US : List (Value × List Int), [(.slice P0 m0 d0, ZZ zs (x % 256) (x % 65536) (x % 4294967296) x hi lo 0), (.slice P1 m1 d1, ZZ zs (x % 256) (x % 65536) (x % 4294967296) x hi lo 1), (.slice P2 m2 d2, ZZ zs (x % 256) (x % 65536) (x % 4294967296) x hi lo 2), (.slice P3 m3 d3, ZZ zs (x % 256) (x % 65536) (x % 4294967296) x hi lo 3), (.slice P4 m4 d4, ZZ zs (x % 256) (x % 65536) (x % 4294967296) x hi lo 4), (.slice Ax (n + 24) cx, zs ++ capB ob hi lo), (.slice P5 m5 d5, ZZ zs (x % 256) (x % 65536) (x % 4294967296) x hi lo 5), (.slice P6 m6 d6, ZZ zs (x % 256) (x % 65536) (x % 4294967296) x hi lo 6), (.slice Ay n cy, zs)] = US := ⟨_, rfl⟩
          rw [hUS] at HBAG
          have HO6 : Hid (Tn wb r zs (nine zs (x % 256) (x % 65536) (x % 4294967296) x ob hi lo) n (t + 1) v9 (VS ++ US) F w6) := by
            have hO : ∀ b, (Value.slice A9 (9 * t) c9).ownBlock = some b → ∀ x ∈ VS, x.1.ownBlock ≠ some b := fun b hb => (HT.out.far b hb).2
            have hB1 := ((((HT.out.bag.below BX.out).kept KY.out (fun b e x hx h => by have := HT.out.bag.new x hx b h; have e : b = r := e; have := HRr2.out.2; omega)).below hdr).below hb5).below hal
            have hB2 := hB1.kept hkp (fun b hb x hx => hO b hb x hx)
            have hU1 := HBAG.out.below hal
            have hU2 := hU1.kept hkp (fun b hb x hx h => by have h1 := HBAG.out.new x hx b h; have := (hA9 b hb).2; omega)
            have hUlt : ∀ x ∈ US, ∀ b, x.1.ownBlock = some b → b < w5.heap.size := fun x hx b h => own_lt (HBAG.out.own x hx) b h
            have hVlt : ∀ x ∈ VS, ∀ b, x.1.ownBlock = some b → b < wr.heap.size := fun x hx b h => own_lt (HT.out.bag.own x hx) b h
            have hs5 : wr.heap.size ≤ w5.heap.size := Nat.le_trans BX.out.size (Nat.le_trans KY.out.size hb5.size)
            refine ⟨hK6, hB2.append hU2 HT.out.kept.size hVlt, ?_, ?_, ?_, ?_⟩
            · rw [List.map_append, HT.out.lists, ← hUS]; rfl
            · rw [List.map_append, ← hUS, ← e9]; exact hown
            · intro b hb
              rcases hwent.block with e | e
              · have h1 := e.symm.trans hb
                refine ⟨(hA9 b h1).1, fun x hx h => ?_⟩
                rcases List.mem_append.1 hx with hx | hx
                · exact hO b h1 x hx h
                · have := HBAG.out.new x hx b h; have := (hA9 b h1).2; omega
              · have h1 := Option.some.inj (e.symm.trans hb)
                have h0 := HT.out.kept.size
                refine ⟨by omega, fun x hx h => ?_⟩
                rcases List.mem_append.1 hx with hx | hx
                · have := hVlt x hx b h; omega
                · have := hUlt x hx b h; omega
            · exact (((RY.out.below hdr).below hb5).below hal).kept hkp (fun b hb e => by have := HFr.out b hb; have := (hA9 b e).1; omega)
          rw [e9] at hown
          obtain ⟨A10, c10, rfl, _⟩ := own_slice hown
          refine hK.out _ _ (hHeld2.trans hkp (fun b hb => .inl hb)) (fun hHeld3 => ?_)
          clear hK K hown hwent hkp hHeld2
          try simp only [Act.put, List.setIfInBounds_toArray, List.set_cons_zero, List.set_cons_succ]
          refine wpAnyH_take (i := 31) (oi := { dst := some 9, op := Go.Op.assign (Go.Operand.tmp 93), type := 46, pos := "law.go:254", after := #[{ on := 30, ground := Go.Ground.data }, { on := 30, ground := Go.Ground.chain }, { on := 0, ground := Go.Ground.phase }, { on := 1, ground := Go.Ground.phase }, { on := 2, ground := Go.Ground.phase }, { on := 3, ground := Go.Ground.phase }, { on := 4, ground := Go.Ground.phase }, { on := 5, ground := Go.Ground.phase }, { on := 6, ground := Go.Ground.phase }, { on := 7, ground := Go.Ground.phase }, { on := 8, ground := Go.Ground.phase }, { on := 9, ground := Go.Ground.phase }, { on := 10, ground := Go.Ground.phase }, { on := 11, ground := Go.Ground.phase }, { on := 12, ground := Go.Ground.phase }, { on := 13, ground := Go.Ground.phase }, { on := 14, ground := Go.Ground.phase }, { on := 15, ground := Go.Ground.phase }, { on := 16, ground := Go.Ground.phase }, { on := 17, ground := Go.Ground.phase }, { on := 18, ground := Go.Ground.phase }, { on := 19, ground := Go.Ground.phase }, { on := 20, ground := Go.Ground.phase }, { on := 21, ground := Go.Ground.phase }, { on := 22, ground := Go.Ground.phase }, { on := 23, ground := Go.Ground.phase }, { on := 24, ground := Go.Ground.phase }, { on := 25, ground := Go.Ground.phase }, { on := 26, ground := Go.Ground.phase }, { on := 27, ground := Go.Ground.phase }, { on := 28, ground := Go.Ground.phase }, { on := 29, ground := Go.Ground.phase }, { on := 30, ground := Go.Ground.phase }], guard := none }) (v := ?_) rfl (by kernel_rfl) (by kernel_rfl) (by kernel_rfl) (fun _ _ _ h => h) (Or.inl ⟨by rfl, ?hy31⟩) (by assumption) ?rest31
          case hy31 => (intro w hSw; try have z0 := (KEEPY.out _ hSw).1; try have z1 := (KEEPY.out _ hSw).2; go_simp; try with_reducible rfl)
          try simp only [Act.put, List.setIfInBounds_toArray, List.set_cons_zero, List.set_cons_succ]
          refine wpAnyH_done (by kernel_rfl) ?_ _
          refine NoPanic.normal ⟨rfl, ?_⟩
          try simp only [Act.put, List.setIfInBounds_toArray, List.set_cons_zero, List.set_cons_succ]
          exact ⟨A10, c10, _, _, _, _, _, _, _, _, _, _, _, _, _, _, _, _, _, _, _, _, _, _, _, _, _, _, _, _, _, _, _, _, rfl, HO6.out⟩
      · rintro _ w6 ⟨A10, c10, VS6, x63, x64, x65, x66, x67, x68, x69, x70, x71, x72, x73, x74, x75, x76, x77, x78, x79, x80, x81, x82, x83, x84, x85, x86, x87, x88, x89, x90, x91, x92, x93, rfl, T6⟩
        try simp only [Act.put, List.setIfInBounds_toArray, List.set_cons_zero, List.set_cons_succ]
        clear HT BX FX OX KY FY OY RY K2 BL2 KEEPY
        have HT6 := Lib.hid T6
        clear T6
        go_wp2_with fail
        exact ⟨⟨t + 1, A10, c10, VS6, by omega, by simp, rfl, HT6⟩, by simp [intOf]; omega⟩
    · have : t = 2 := by omega
      subst this
      obtain ⟨wf, rfl⟩ : ∃ q, q = wr := ⟨wr, rfl⟩
      clear hlt ht TT
      have hlen : VS.length = 18 := by have h := HT.out.own.1; rw [List.length_map] at h; omega
      obtain ⟨g9, cc9, cur9, e9, hg9, hc9, hm9, _, _, hcell9⟩ := own_form HT.out.own (by decide)
      obtain ⟨rfl, rfl⟩ : A9 = some ⟨g9, 0, none⟩ ∧ c9 = cc9 := by simpa using e9
      obtain ⟨d0, hd0⟩ : ∃ d0 : Value × List Int, (undef, []) = d0 := ⟨_, rfl⟩
      have hz : ∀ k, k < 18 → (VS.getD k d0).2 = (times (nine zs (x % 256) (x % 65536) (x % 4294967296) x ob hi lo) 2).getD k [] := fun k hk => by
        rw [← HT.out.lists]
        have : VS[k]? = some VS[k] := List.getElem?_eq_getElem (by omega)
        simp [List.getD, this]
      have hmem : ∀ k, k < 18 → VS.getD k d0 ∈ VS := fun k hk => by
        have e : VS.getD k d0 = VS[k] := by simp [List.getD, hlen, hk]
        rw [e]; exact List.getElem_mem _
      have RWS := HT.out.bag.rows d0
      rw [hlen] at RWS
      have HC : Hid (∀ k, k < 18 → wf.cell? ⟨g9, k, none⟩ = some (VS.getD k d0).1) := fun k hk => hcell9 k _ (by
        have : VS[k]? = some VS[k] := List.getElem?_eq_getElem (by omega)
        simp [List.getD, this])
      have VB : Hid (∀ k, k < 18 → ∀ b, (VS.getD k d0).1.ownBlock = some b → wb.heap.size ≤ b ∧ b ≠ g9) := fun k hk b hb => ⟨HT.out.bag.new _ (hmem k hk) b hb, fun e => (HT.out.far g9 rfl).2 _ (hmem k hk) (e ▸ hb)⟩
      have G9 : Hid (wb.heap.size ≤ g9 ∧ g9 < wf.heap.size) := ⟨(HT.out.far g9 rfl).1, lt_of_row hg9⟩
      have OBV : Hid (∀ k, k < 18 → OB wf (VS.getD k d0).1 (VS.getD k d0).2) := fun k hk => HT.out.bag.own _ (hmem k hk)
      have HKF := Lib.hid HT.out.kept
      have HN8 : Hid (∀ k, k < 18 → (VS.getD k d0).2.length ≤ 3000000) := fun k hk => by
        rw [hz k hk]
        have := HN.out
        match k, hk with
        | 0, _ | 1, _ | 2, _ | 3, _ | 4, _ | 5, _ | 6, _ | 7, _ | 8, _ | 9, _ | 10, _ | 11, _ | 12, _ | 13, _ | 14, _ | 15, _ | 16, _ | 17, _ => simp [times, nine, le_len, wordB, capB]; omega
        | k + 18, hk => omega
      have ZE : Hid (∀ i, i < 9 → (VS.getD i d0).2 = (VS.getD (i + 9) d0).2) := fun i hi => by
        rw [hz i (by omega), hz (i + 9) (by omega)]
        match i, hi with
        | 0, _ | 1, _ | 2, _ | 3, _ | 4, _ | 5, _ | 6, _ | 7, _ | 8, _ => rfl
      have Z7 : Hid ((VS.getD 7 d0).2 = zs ∧ (VS.getD 8 d0).2 = zs) := ⟨(hz 7 (by decide)).trans rfl, (hz 8 (by decide)).trans rfl⟩
      have VF : Hid (∀ k, k < 18 → ∃ A c, (VS.getD k d0).1 = .slice A (VS.getD k d0).2.length c) := fun k hk => by
        obtain ⟨A, c, e, _⟩ := own_slice (OBV.out k hk)
        exact ⟨A, c, e⟩
      obtain ⟨V, hV⟩ : ∃ V : Nat → Value, (fun k => (VS.getD k d0).1) = V := ⟨_, rfl⟩
      obtain ⟨Z, hZ⟩ : ∃ Z : Nat → List Int, (fun k => (VS.getD k d0).2) = Z := ⟨_, rfl⟩
      have v_eq : ∀ k, (VS.getD k d0).1 = V k := fun k => congrFun hV k
      have z_eq : ∀ k, (VS.getD k d0).2 = Z k := fun k => congrFun hZ k
      simp only [v_eq, z_eq] at RWS HC VB OBV HN8 ZE Z7 VF
      have HRWS := Lib.hid RWS
      clear RWS v_eq z_eq hV hZ hz hmem hcell9 hg9 e9 hlen HT hd0
      unfold maxLen at hm9
      rw [show ((2 : Nat) : Int) = 2 from rfl, show 9 * 2 = 18 from rfl]
      rw [show 9 * 2 = 18 from rfl] at hc9
      go_wp2_with fail
      go_loopw [16] (fun v16 wr => ∃ i : Nat, i ≤ 9 ∧ v16 = .int .i64 i ∧ Hid (Below wf.heap.size wf wr)) (fun v16 _ => 9 - (intOf v16).toNat)
      case atStart => exact ⟨0, Nat.zero_le _, rfl, Below.refl _ _⟩
      case round =>
        obtain ⟨i, hi, rfl, HBf⟩ := hrel
        by_cases hlt : i < 9
        · have y0 : wr.drew.cell? ⟨g9, i, none⟩ = some (V i) := (HBf.out.cell (p := ⟨g9, i, none⟩) G9.out.2).trans (HC.out i (by omega))
          have y1 : wr.drew.cell? ⟨g9, i + 9, none⟩ = some (V (i + 9)) := (HBf.out.cell (p := ⟨g9, i + 9, none⟩) G9.out.2).trans (HC.out (i + 9) (by omega))
          have C1 : Hid (Calls Try.prog 17 #[V i, V (i + 9)] wr.drew fun e w' => e = .returned (.bool true) ∧ w' = wr.drew) := by
            have hb := HBf.out.trans ((Below.refl _ wr).drew.mono HBf.out.size)
            refine (same_eq wr.drew _ _ (Z i) ((OBV.out i (by omega)).below hb).reads (by rw [ZE.out i hlt]; exact ((OBV.out (i + 9) (by omega)).below hb).reads)).mono ?_
            rintro e w' ⟨h, rfl⟩
            exact ⟨h, rfl⟩
          have q1 : (i : Int) < 9 := by omega
          have q0 : (i : Int) < 18 := by omega
          have q2 : (i : Int) + 9 < 18 := by omega
          have q3 : ((i : Int) + 9).toNat = i + 9 := by omega
          have q4 : IntKind.i64.wrap ((i : Int) + 9) = (i : Int) + 9 := by rw [IntKind.wrap_i64]; omega
          have q5 : 0 ≤ (i : Int) + 9 := by omega
          go_wp2_with fail
          refine wp_region_still_lit (by kernel_rfl) (by kernel_rfl) ?_
          repeat still_step
          still_call C1.out
          repeat still_step
          refine wpStill_nil ?_
          change Exit.then _ _ _ _ wr.drew
          clear q0 q1 q2 q3 q4 q5
          go_wp2_with fail
          exact ⟨⟨i + 1, by omega, by simp, Lib.hid (HBf.out.trans ((Below.refl _ wr).drew.mono HBf.out.size))⟩, by simp [intOf]; omega⟩
        · have : i = 9 := by omega
          subst this
          clear hlt hi
          have hk9 := HKF.out.then_below HBf.out
          have HL9 := Lib.hid (HL.out wr hk9)
          have HV9 := Lib.hid (HV.out wr hk9)
          have CK : Hid (Calls Try.prog 26 #[.slice AL n cL, .slice A n c] wr fun e w' => e = .returned (.bool true) ∧ wr = w') := kept_any wr AL n cL _ zs (by omega) HL9.out HV9.out
          have C7 : Hid (Calls Try.prog 17 #[V 7, .slice A n c] wr fun e w' => e = .returned (.bool true) ∧ wr = w') := same_eq wr _ _ zs (by have h := ((OBV.out 7 (by decide)).below HBf.out).reads; rw [Z7.out.1] at h; exact h) HV9.out
          have C8 : Hid (Calls Try.prog 17 #[V 8, .slice A n c] wr fun e w' => e = .returned (.bool true) ∧ wr = w') := same_eq wr _ _ zs (by have h := ((OBV.out 8 (by decide)).below HBf.out).reads; rw [Z7.out.2] at h; exact h) HV9.out
          have y7 : wr.cell? ⟨g9, 7, none⟩ = some (V 7) := (HBf.out.cell (p := ⟨g9, 7, none⟩) G9.out.2).trans (HC.out 7 (by decide))
          have y8 : wr.cell? ⟨g9, 8, none⟩ = some (V 8) := (HBf.out.cell (p := ⟨g9, 8, none⟩) G9.out.2).trans (HC.out 8 (by decide))
          have HK9 := Lib.hid hk9
          have RW9 : Hid (Mem.Rows 5 1 wr 18 V (fun k => (Z k).length) (fun k => (Z k).map byteC)) := HRWS.out.kept (Kept.of_below (S := fun _ => False) HBf.out) (fun _ _ _ _ h => h)
          have HC9 : Hid (∀ k, k < 18 → wr.cell? ⟨g9, k, none⟩ = some (V k)) := fun k hk => (HBf.out.cell (p := ⟨g9, k, none⟩) G9.out.2).trans (HC.out k hk)
          have G99 : Hid (wb.heap.size ≤ g9 ∧ g9 < wr.heap.size) := ⟨G9.out.1, by have := G9.out.2; have := HBf.out.size; omega⟩
          obtain ⟨wm, rfl⟩ : ∃ q, q = wr := ⟨wr, rfl⟩
          rw [show ((9 : Nat) : Int) = 9 from rfl]
          clear hk9 HKF HRWS HC HBf G9 OBV ZE Z7
          go_wp2_with (first | (go_at_call 26; (with_reducible refine CK.out.mono ?_); rintro e w9 ⟨rfl, rfl⟩) | (go_at_call 17; (with_reducible refine C7.out.mono ?_); rintro e w9 ⟨rfl, rfl⟩) | (go_at_call 17; (with_reducible refine C8.out.mono ?_); rintro e w9 ⟨rfl, rfl⟩) | fail)
          clear CK C7 C8 y7 y8
          obtain ⟨N, hNd⟩ : ∃ N : Nat → Nat, (fun k => (Z k).length) = N := ⟨_, rfl⟩
          have n_eq : ∀ k, (Z k).length = N k := fun k => congrFun hNd k
          simp only [n_eq] at HN8 VF RW9
          have HFst : Hid (First wm 18 V N 0 0 wm) := ⟨_, RW9.out, Kept.refl _ _, fun j hj => by omega, fun _ i hi => by omega⟩
          have HCT : Hid (∀ wr, Kept (Touch 18 V) wm wr → ∀ k, k < 18 → wr.cell? ⟨g9, k, none⟩ = some (V k)) := fun wr hk k hlt' => (hk.cell (p := ⟨g9, k, none⟩) G99.out.2 (by rintro ⟨j, hj, e⟩; exact (VB.out j hj _ e).2 rfl)).trans (HC9.out k hlt')
          clear n_eq hNd HC9 RW9
          go_loopw [17, 18] (fun v17 v18 wr => ∃ k : Nat, k ≤ 18 ∧ v17 = .int .i64 k ∧ Hid (First wm 18 V N k 0 wr)) (fun v17 _ _ => 18 - (intOf v17).toNat)
          case atStart => exact ⟨0, Nat.zero_le _, rfl, HFst⟩
          case round =>
            clear HFst
            obtain ⟨k, hk, rfl, HFst⟩ := hrel
            by_cases hlt1 : k < 18
            · obtain ⟨A', c', hV⟩ := VF.out k hlt1
              have hnn := HN8.out k hlt1
              obtain ⟨m, en⟩ : ∃ m, N k = m := ⟨_, rfl⟩
              rw [en] at hV hnn
              have EN := Lib.hid en
              have HVk := Lib.hid hV
              have q1 : ((k : Int) + 1) % 256 = (k : Int) + 1 := by omega
              have q2 : (k : Int) < 18 := by omega
              clear en hV
              go_wp2_with fail
              go_loopw [18] (fun v18 wr => ∃ i : Nat, i ≤ m ∧ v18 = .int .i64 i ∧ Hid (First wm 18 V N k i wr)) (fun v18 _ => m - (intOf v18).toNat)
              case atStart => exact ⟨0, Nat.zero_le _, rfl, HFst⟩
              case round =>
                clear HFst
                obtain ⟨i, hi, rfl, HFst⟩ := hrel
                have c0 := HCT.out _ HFst.out.choose_spec.2.1 k hlt1
                rw [HVk.out] at c0
                by_cases hlt2 : i < m
                · obtain ⟨g, cc, cur, e1, hg, hc', hcm, hcs⟩ := HFst.out.form hlt1 (by rw [EN.out]; exact hlt2)
                  rw [HVk.out, EN.out] at e1
                  obtain ⟨rfl, rfl⟩ : A' = some ⟨g, 0, none⟩ ∧ c' = cc := by simpa using e1
                  rw [EN.out] at hc'
                  unfold maxLen at hcm
                  have q0 : wr.cell? ⟨g, i, none⟩ = some cur[i] := cell_row hg (by simp)
                  have f0 : wr.frozen? ⟨g, i, none⟩ = false := free_row hg
                  have HG := Lib.hid hg
                  clear hg e1
                  go_wp2_with fail
                  exact ⟨⟨i + 1, by omega, by simp, HFst.out.store hlt1 (by rw [EN.out]; exact hlt2) (by rw [EN.out]; exact HVk.out) HG.out⟩, by simp [intOf]; omega⟩
                · have : i = m := by omega
                  subst this
                  have HF1 : Hid (First wm 18 V N (k + 1) 0 wr) := First.next (by rw [EN.out]; exact HFst.out) hlt1
                  go_wp2_with fail
                  exact ⟨⟨k + 1, by omega, by simp, HF1⟩, by simp [intOf]; omega⟩
            · have : k = 18 := by omega
              subst this
              clear hlt1 hk
              rw [show ((18 : Nat) : Int) = 18 from rfl]
              obtain ⟨ys0, HBg⟩ : ∃ ys, Hid (Big wm 18 V N ys 0 0 (.slice none 0 0) V N ys wr) := by
                obtain ⟨ys, h1, h2, h3, _⟩ := HFst.out
                exact ⟨ys, big_start h1 h2 (fun j hj => h3 j hj hj)⟩
              clear HFst
              go_wp2_with fail
              go_loopw [10, 19] (fun v10 v19 wr => ∃ (j : Nat) (A5 : Option Addr) (c5 : Nat) (L : Nat → Value) (M : Nat → Nat) (ys : Nat → List Value), j ≤ 18 ∧ v19 = .int .i64 j ∧ v10 = .slice A5 j c5 ∧ Hid (Big wm 18 V N ys0 j 0 (.slice A5 j c5) L M ys wr)) (fun _ v19 _ => 18 - (intOf v19).toNat)
              case atStart => exact ⟨0, none, 0, V, N, ys0, Nat.zero_le _, rfl, rfl, HBg⟩
              case round =>
                clear HBg
                obtain ⟨j, A5, c5, L, M, ys, hj, rfl, rfl, HBg⟩ := hrel
                by_cases hlt1 : j < 18
                · obtain ⟨A', c', hV⟩ := VF.out j hlt1
                  have hnn := HN8.out j hlt1
                  obtain ⟨m, en⟩ : ∃ m, N j = m := ⟨_, rfl⟩
                  rw [en] at hV hnn
                  have EN := Lib.hid en
                  have hst := HBg.out.start j hlt1 (Nat.le_refl _) (fun _ => rfl)
                  have HO : Hid (wr.ownsRow 0 5 1 (.slice A' m c') m (ys j)) := by
                    have h1 := HBg.out.pair.l.own j hlt1
                    rw [hst.1, hst.2, hV, en] at h1
                    exact h1
                  have HLj : Hid (L j = .slice A' m c' ∧ M j = m) := ⟨hst.1.trans hV, hst.2.trans en⟩
                  have c0 := HCT.out _ HBg.out.kept j hlt1
                  rw [hV] at c0
                  have q1 : ((j : Int) + 1) % 256 = (j : Int) + 1 := by omega
                  have q2 : (j : Int) < 18 := by omega
                  clear en hV hst
                  go_wp2_with (first | (at_builtin; refine list_app2 rfl (.tmp 163) (.tmp 167) 22 rfl 5 0 _ 1 1 Try.underlying22 info5 rfl (by decide) (by decide) (.slice A' m c') m _ rfl (own_keeps HO.out ((Kept.refl _ _).alloc _)) (some ⟨wr.heap.size, 0, none⟩) 1 1 [.int .u8 ((j : Int) + 1)] rfl rfl (holds_new _ _ _ _ _ rfl) (by simp [Value.oneCell']) (by omega) (Nat.zero_le _) ?_; intro v7 w7 hown7 hwent7; obtain ⟨L', M', ys', hL', hB'⟩ := (HBg.out.below ((Below.refl _ wr).alloc (Nat.le_refl _) (.cells #[.int .u8 ((j : Int) + 1)] 5))).grow hlt1 (v' := v7) (by rw [HLj.out.2]; exact hown7) (by rw [HLj.out.1, HLj.out.2]; exact hwent7); obtain ⟨A7, c7, rfl, _⟩ := own_slice hown7; have HB7 := Lib.hid hB'; have HL7 := Lib.hid hL'; clear hown7 hwent7 hB' hL') | (at_builtin; refine list_app2 rfl (.tmp 159) (.tmp 169) 46 rfl 22 0 _ 1 24 Try.underlying46 info22 rfl (by decide) (by decide) (.slice A5 j c5) j _ rfl (own_keeps HB7.out.long ((Kept.refl _ _).alloc _)) (some ⟨w7.heap.size, 0, none⟩) 1 1 [.slice A7 (m + 1) c7] rfl rfl (holds_new _ _ _ _ _ rfl) (by simp [Value.oneCell']) (by omega) (Nat.zero_le _) ?_; intro v8 w8 hown8 hwent8) | fail)
                  have HB8 := Lib.hid ((HB7.out.below ((Below.refl _ w7).alloc (Nat.le_refl _) (.cells #[.slice A7 (m + 1) c7] 22))).next hlt1 (v' := v8) (by rw [HL7.out]; exact hown8) hwent8)
                  obtain ⟨A8, c8, rfl, _⟩ := own_slice hown8
                  exact ⟨⟨j + 1, A8, c8, L', M', ys', by omega, by simp, rfl, HB8⟩, by simp [intOf]; omega⟩
                · have : j = 18 := by omega
                  subst this
                  clear hlt1 hj
                  rw [show ((18 : Nat) : Int) = 18 from rfl]
                  obtain ⟨we, rfl⟩ : ∃ q, q = wr := ⟨wr, rfl⟩
                  have HLN : Hid (∀ q, q < 18 → ∃ A c, L q = .slice A (N q + 1) c) := fun q hq => by
                    obtain ⟨A, c, e, _⟩ := own_slice (HBg.out.pair.l.own q hq)
                    rw [HBg.out.done q hq] at e
                    exact ⟨A, c, e⟩
                  have HKe : Hid (Kept (Touch 18 V) wm we) := HBg.out.kept
                  have hBe : Below w.heap.size w we := (HBW.out wm HK9.out).trans (HKe.out.below (fun b hb => by obtain ⟨j, hj, e⟩ := hb; have h1 := (VB.out j hj b e).1; have h2 := HRr2.out; omega) (HBW.out wm HK9.out).size)
                  have HBe := Lib.hid hBe
                  have HLe : Hid (LB we AL n cL zs) := ⟨HL9.out.1, own_kept HL9.out.2 HKe.out (fun b hb ⟨j, hj, e⟩ => by have h1 := (VB.out j hj b e).1; have h2 := (HF.out b (by cases AL <;> simp [Value.ownBlock] at hb ⊢; exact hb)).2.1; omega)⟩
                  have CK : Hid (Calls Try.prog 26 #[.slice AL n cL, .slice A n c] we fun e w' => e = .returned (.bool true) ∧ we = w') := kept_any we AL n cL _ zs (by omega) HLe.out (HR.out.below hBe)
                  clear hBe HL9 HV9 HK9
                  go_wp2_with fail
                  go_loopw [20, 21] (fun v20 v21 wr => ∃ q : Nat, q ≤ 18 ∧ v20 = .int .i64 q ∧ we = wr) (fun v20 _ _ => 18 - (intOf v20).toNat)
                  case atStart => exact ⟨0, Nat.zero_le _, rfl, rfl⟩
                  case round =>
                    obtain ⟨q, hq, rfl, rfl⟩ := hrel
                    by_cases hlt3 : q < 18
                    · obtain ⟨A', c', hV⟩ := VF.out q hlt3
                      obtain ⟨A'', c'', hL⟩ := HLN.out q hlt3
                      have hnn := HN8.out q hlt3
                      have hMq := HBg.out.done q hlt3
                      have hmark := HBg.out.mark q hlt3
                      have hown := HBg.out.pair.l.own q hlt3
                      have hownV := HBg.out.pair.v.own q hlt3
                      have hpre := (HBg.out.pair.pre q hlt3).2
                      obtain ⟨m, en⟩ : ∃ m, N q = m := ⟨_, rfl⟩
                      rw [en] at hV hnn hL hMq hownV hpre
                      have c0 := HCT.out _ HBg.out.kept q hlt3
                      rw [hV] at c0 hownV
                      rw [hMq] at hmark hown
                      rw [hL] at hown
                      obtain ⟨g5, cc5, cur5, e5, hg5, hc5, hcm5, _, _, hcell5⟩ := own_form HBg.out.long (by omega)
                      obtain ⟨rfl, rfl⟩ : A5 = some ⟨g5, 0, none⟩ ∧ c5 = cc5 := by simpa using e5
                      have c1 : we.cell? ⟨g5, q, none⟩ = some (.slice A'' (m + 1) c'') := hcell5 q _ (by rw [List.getElem?_map, List.getElem?_range hlt3, ← hL]; rfl)
                      obtain ⟨gL, ccL, curL, eL, hgL, hcL, hcmL, _, _, hcellL⟩ := own_form hown (by omega)
                      obtain ⟨rfl, rfl⟩ : A'' = some ⟨gL, 0, none⟩ ∧ c'' = ccL := by simpa using eL
                      have HM1 := Lib.hid hmark
                      have HCL := Lib.hid hcellL
                      have HOV := Lib.hid hownV
                      have HPRE := Lib.hid hpre
                      unfold maxLen at hcm5 hcmL
                      have q1 : ((q : Int) + 1) % 256 = (q : Int) + 1 := by omega
                      have q2 : (q : Int) < 18 := by omega
                      clear hcell5 hcellL hmark hpre hown hownV hg5 hgL e5 eL hL hMq HLN HBg hV en
                      go_wp2_with fail
                      go_loopw [21] (fun v21 wr => ∃ i : Nat, i ≤ m + 1 ∧ v21 = .int .i64 i ∧ we = wr) (fun v21 _ => m + 1 - (intOf v21).toNat)
                      case atStart => exact ⟨0, Nat.zero_le _, rfl, rfl⟩
                      case round =>
                        obtain ⟨i, hi, rfl, rfl⟩ := hrel
                        by_cases hlt4 : i < m + 1
                        · have y0 := HCL.out i _ (HM1.out i hlt4)
                          by_cases hlt5 : i < m
                          · obtain ⟨gV, ccV, curV, eV, _, hcV, hcmV, _, _, hcellV⟩ := own_form HOV.out (by omega)
                            obtain ⟨rfl, rfl⟩ : A' = some ⟨gV, 0, none⟩ ∧ c' = ccV := by simpa using eV
                            have y1 := hcellV i (.int .u8 ((q : Int) + 1)) (by rw [← HPRE.out, List.getElem?_take, if_pos (by omega)]; exact HM1.out i hlt4)
                            unfold maxLen at hcmV
                            clear hcellV eV
                            go_wp2_with fail
                            exact ⟨⟨i + 1, by omega, by simp, trivial⟩, by simp [intOf]; omega⟩
                          · go_wp2_with fail
                            exact ⟨⟨i + 1, by omega, by simp, trivial⟩, by simp [intOf]; omega⟩
                        · have : i = m + 1 := by omega
                          subst this
                          go_wp2_with fail
                          exact ⟨⟨q + 1, by omega, by simp, trivial⟩, by simp [intOf]; omega⟩
                    · have : q = 18 := by omega
                      subst this
                      clear hlt3 hq
                      rw [show ((18 : Nat) : Int) = 18 from rfl]
                      obtain ⟨gl, rfl, R5, hcl1, hcl2⟩ := HLe.out.row5
                      have HR5 := Lib.hid R5
                      have hGL : w.heap.size ≤ gl := (HF.out gl rfl).1
                      clear HLN HBg HLe R5
                      go_wp2_with (first | (go_at_call 26; (with_reducible refine CK.out.mono ?_); rintro e w9 ⟨rfl, rfl⟩) | fail)
                      clear CK
                      go_loopw [22] (fun v22 wr => ∃ i : Nat, i ≤ n ∧ v22 = .int .i64 i ∧ Hid (Row5 wr gl n) ∧ Hid (Below w.heap.size w wr)) (fun v22 _ => n - (intOf v22).toNat)
                      case atStart => exact ⟨0, Nat.zero_le _, rfl, HR5, HBe⟩
                      case round =>
                        clear HR5 HBe
                        obtain ⟨i, hi, rfl, HX5, HK5⟩ := hrel
                        by_cases hlt : i < n
                        · obtain ⟨cur, hrow, hz⟩ := HX5.out
                          obtain ⟨z, hz⟩ := hz i hlt
                          have y0 : wr.cell? ⟨gl, i, none⟩ = some (.int .u8 z) := cell_row hrow hz
                          have f0 : wr.frozen? ⟨gl, i, none⟩ = false := free_row hrow
                          clear hrow hz
                          go_wp2_with fail
                          exact ⟨⟨i + 1, by omega, by simp, HX5.out.set i _, HK5.out.trans (((Kept.refl (fun b => b = gl) wr).setCell (p := ⟨gl, i, none⟩) (.inl rfl) _).below (fun b e => by have e : b = gl := e; omega) HK5.out.size)⟩, by simp [intOf]; omega⟩
                        · have : n = i := by omega
                          subst this
                          clear hlt hi
                          obtain ⟨ys, hys, hRB⟩ := HX5.out.reads hcl1 hcl2
                          have HYS := Lib.hid hys
                          have HRB := Lib.hid hRB
                          obtain ⟨wx, rfl⟩ : ∃ q, q = wr := ⟨wr, rfl⟩
                          clear hys hRB HX5
                          have hnn : n ≤ 9223372036854775807 := by omega
                          have hj2 : Hid (joinZ (fun _ => ys) 2 = ys ++ ys) := by show _ = _; simp [joinZ]
                          go_wp2_with (first | (at_builtin; refine list_app2 rfl (.tmp 237) (.tmp 238) 22 rfl 5 0 _ 1 1 Try.underlying22 info5 rfl (by decide) (by decide) (.slice none 0 0) 0 [] rfl (World.ownsRow_nil _ _ _ _) (some ⟨gl, 0, none⟩) n cL (ys.map byteC) rfl (by rw [List.length_map, HYS.out, Nat.mul_one]) HRB.out.holds.2 one8 (by omega) (Nat.zero_le _) ?_; intro vm w3 hown3 hwent3; rw [Nat.zero_add, List.nil_append] at hown3; obtain ⟨Am, cm, rfl, _⟩ := own_slice hown3; have HOM : Hid (RB w3 (.slice Am n cm) ys) := (by have h : OB w3 (.slice Am n cm) ys := (by unfold OB; rw [HYS.out]; exact hown3); have h2 := h.reads; exact h2); have B3 : Hid (Below wx.heap.size wx w3) := hwent3.kept.below (fun b hb => by simp [Value.ownBlock] at hb) (Nat.le_refl _); have HRB3 := Lib.hid (HRB.out.below B3.out); have HP1 := Lib.hid (put8_any w3 _ ys x hx.1 hx.2 (by rw [HYS.out]; omega) HRB3.out); rw [HYS.out] at HP1; clear hown3 hwent3) | (go_at_call 12; (with_reducible refine HP1.out.mono ?_); rintro e w4 ⟨P1, p1, rfl, o4, b4, _⟩; have O4 := Lib.hid o4; have B4 := Lib.hid b4; have HOM4 := Lib.hid (HOM.out.below b4); have HRB4 := Lib.hid (HRB3.out.below b4); have HP2 := Lib.hid (rput_at w4 _ ys x 8 8 rfl hx.1 hx.2 (by decide) (by rw [HYS.out]; omega) HOM4.out); rw [HYS.out] at HP2; clear o4 b4) | (go_at_call 18; (with_reducible refine HP2.out.mono ?_); rintro e w5 ⟨P2, p2, rfl, o5, b5, _⟩; have B5 := Lib.hid b5; have HOM5 := Lib.hid (HOM4.out.below b5); have HRB5 := Lib.hid (HRB4.out.below b5); have HS1 := Lib.hid (same_eq w5 _ _ _ (O4.out.below b5).reads o5.reads); clear o5 b5) | (go_at_call 17; (with_reducible refine HS1.out.mono ?_); rintro e w9 ⟨rfl, rfl⟩; have BA := (Below.refl _ w5).alloc (Nat.le_refl _) (.cells #[.slice (some ⟨gl, 0, none⟩) n cL, .slice (some ⟨gl, 0, none⟩) n cL] 22); have HJ1 := Lib.hid (join_any (w5.alloc (.cells #[.slice (some ⟨gl, 0, none⟩) n cL, .slice (some ⟨gl, 0, none⟩) n cL] 22)) (.slice (some ⟨w5.heap.size, 0, none⟩) 2 2) 2 (fun _ => .slice (some ⟨gl, 0, none⟩) n cL) (fun _ => ys) (by rw [hj2.out, List.length_append, HYS.out]; omega) (by decide) (rws_all _ _ 2 _ _ ys (heap_alloc_new w5 _) rfl (by decide) (fun i hi => by match i, hi with | 0, _ => rfl | 1, _ => rfl) (HRB5.out.below BA))); rw [hj2.out, List.length_append, HYS.out] at HJ1; have HOMA := Lib.hid (HOM5.out.below BA); have BA5 := Lib.hid BA; clear BA) | (go_at_call 16; (with_reducible refine HJ1.out.mono ?_); rintro e w6 ⟨P3, p3, rfl, o6, b6, _⟩; have BB := (Below.refl _ w6).alloc (Nat.le_refl _) (.cells #[.slice Am n cm, .slice Am n cm] 22); have O6 := Lib.hid (o6.below BB); have B6 := Lib.hid b6; have HJ2 := Lib.hid (rjoin_any (w6.alloc (.cells #[.slice Am n cm, .slice Am n cm] 22)) (.slice (some ⟨w6.heap.size, 0, none⟩) 2 2) 2 (fun _ => .slice Am n cm) (fun _ => ys) (by rw [hj2.out, List.length_append, HYS.out]; omega) (by decide) (rws_all _ _ 2 _ _ ys (heap_alloc_new w6 _) rfl (by decide) (fun i hi => by match i, hi with | 0, _ => rfl | 1, _ => rfl) ((HOMA.out.below b6).below BB))); rw [hj2.out, List.length_append, HYS.out] at HJ2; have BB6 := Lib.hid BB; clear BB o6 b6) | (go_at_call 20; (with_reducible refine HJ2.out.mono ?_); rintro e w7 ⟨P4, p4, rfl, o7, b7, _⟩; have HS2 := Lib.hid (same_eq w7 _ _ _ (O6.out.below b7).reads o7.reads); have B7 := Lib.hid b7; clear o7 b7) | (go_at_call 17; (with_reducible refine HS2.out.mono ?_); rintro e w9 ⟨rfl, rfl⟩) | fail)
                          go_ret
                          have k3 := HK5.out.trans (B3.out.mono HK5.out.size)
                          have k4 := k3.trans (B4.out.mono k3.size)
                          have k5 := k4.trans (B5.out.mono k4.size)
                          have k6 := k5.trans (BA5.out.mono k5.size)
                          have k7 := k6.trans (B6.out.mono k6.size)
                          have k8 := k7.trans (BB6.out.mono k7.size)
                          exact ⟨rfl, k8.trans (B7.out.mono k8.size)⟩
end Go.Proofs.Ytolfmchgcelnmaa.O

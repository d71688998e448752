/- Bytes lent with marks behind them; as they were lent; the document's examples. -/
import Derived.Test.YtolfmchgcelnmaaOc7
namespace Go.Proofs.Ytolfmchgcelnmaa.O
open Go.RowKit Go.Proofs.Ytolfmchgcelnmaa.Mem
theorem rb_new (w : World) (cs : Array Value) (t : TypeId) (zs : List Int) (n : Nat) (hn : n = zs.length) (hc : cs.toList = zs.map byteC) (hm : n ≤ 9223372036854775807) : RB (w.alloc (.cells cs t)) (.slice (some ⟨w.heap.size, 0, none⟩) n n) zs := by
  subst hn
  refine ⟨_, _, rfl, Nat.le_refl _, by unfold maxLen; omega, fun hp => ⟨_, _, rfl, fun j u hu => ?_⟩⟩
  rw [Nat.zero_add]
  refine cell_row (heap_alloc_new w _) ?_
  rw [← Array.getElem?_toList, hc, List.getElem?_map, hu]
  rfl
/-- The marks. -/
def marks (k : Nat) : List Int := (List.range k).map fun (j : Nat) => (j : Int) % 256
theorem marks_len (k : Nat) : (marks k).length = k := by simp [marks]
theorem marks_snoc (k : Nat) : marks (k + 1) = marks k ++ [(k : Int) % 256] := by
  unfold marks
  rw [List.range_succ, List.map_append]
  rfl
theorem marks_at {k j : Nat} (h : j < k) : (marks k)[j]? = some ((j : Int) % 256) := by
  unfold marks
  rw [List.getElem?_map, List.getElem?_range h]
  rfl
/-- Lent bytes: a slice of a row with marks behind it. -/
def LB (w : World) (A : Option Addr) (n c : Nat) (zs : List Int) : Prop := n = zs.length ∧ OB w (.slice A (n + 300) c) (zs ++ marks 300)
theorem LB.below {w w' : World} {A : Option Addr} {n c : Nat} {zs : List Int} (h : LB w A n c zs) (hb : Below w.heap.size w w') : LB w' A n c zs := ⟨h.1, h.2.below hb⟩
theorem LB.reads {w : World} {A : Option Addr} {n c : Nat} {zs : List Int} (h : LB w A n c zs) : RB w (.slice A n c) zs := by
  obtain ⟨h1, h2⟩ := h
  have hl : (zs ++ marks 300).length = n + 300 := by rw [List.length_append, marks_len, h1]
  have h3 : RB w (.slice A (zs ++ marks 300).length c) (zs ++ marks 300) := hl ▸ h2.reads
  have := RB.take h3 (k := n) (by omega) rfl
  rwa [List.take_left' h1.symm] at this
set_option maxHeartbeats 4000000 in
set_option maxRecDepth 100000 in
theorem lent_any (w : World) (v : Value) (zs : List Int) (hb : zs.length ≤ 140737488354000) (h : RB w v zs) :
    Calls Try.prog 8 #[v] w fun e w' => ∃ A c, e = .returned (.slice A zs.length c) ∧ LB w' A zs.length c zs ∧ Below w.heap.size w w' ∧ Fresh w (.slice A zs.length c) := by
  obtain ⟨A, c, rfl, h2, h3, h4⟩ := h
  obtain ⟨n, hn⟩ : ∃ n, zs.length = n := ⟨_, rfl⟩
  have hR : RB w (.slice A n c) zs := ⟨A, c, by rw [hn], h2, h3, h4⟩
  have HS := Lib.hid hR.holds.2
  have HN := Lib.hid hn
  rw [hn] at hb ⊢
  clear hR h4 hn h2 h3
  go_enter Try.func8, Try.ntmps8
  go_wp2_with (at_builtin; refine list_app2 rfl (.tmp 5) (.tmp 6) 22 rfl 5 0 _ 1 1 Try.underlying22 info5 rfl (by decide) (by decide) (.slice none 0 0) 0 [] rfl (World.ownsRow_nil _ _ _ _) A n c (zs.map byteC) rfl (by rw [List.length_map, HN.out, Nat.mul_one]) HS.out one8 (by omega) (Nat.zero_le _) ?_; intro v1 w1 hown1 hwent1; obtain ⟨A1, c1, rfl, _⟩ := own_slice hown1; have HO1 := Lib.hid hown1; have HW1 := Lib.hid hwent1; clear hown1 hwent1)
  have HO : Hid (w1.ownsRow 0 5 1 (.slice A1 (0 + n) c1) (0 + n) ((zs ++ marks 0).map byteC)) := by
    have := HO1.out
    show w1.ownsRow 0 5 1 (.slice A1 (0 + n) c1) (0 + n) ((zs ++ marks 0).map byteC)
    simpa [marks] using this
  have HF : Hid (Fresh w (.slice A1 (0 + n) c1)) := fresh_went (w := w) (fun b hb => by simp [Value.ownBlock] at hb) (Nat.le_refl _) HW1.out
  have HB : Hid (Below w.heap.size w w1) := HW1.out.kept.below (fun b hb => by simp [Value.ownBlock] at hb) (Nat.le_refl _)
  rw [Nat.zero_add] at HO HF
  clear HO1 HW1 HS
  go_loopw [3, 4] (fun v3 v4 wr => ∃ (i : Nat) (A : Option Addr) (c : Nat), i ≤ 300 ∧ v4 = .int .i64 i ∧ v3 = .slice A (n + i) c ∧ Hid (wr.ownsRow 0 5 1 (.slice A (n + i) c) (n + i) ((zs ++ marks i).map byteC)) ∧ Hid (Below w.heap.size w wr) ∧ Hid (Fresh w (.slice A (n + i) c))) (fun _ v4 _ => 300 - (intOf v4).toNat)
  case atStart => exact ⟨0, A1, c1, Nat.zero_le _, rfl, rfl, HO, HB, HF⟩
  case round =>
    clear HO HB HF
    obtain ⟨i, A, c, hi, rfl, rfl, HO, HB, HF⟩ := hrel
    by_cases hlt : i < 300
    · go_wp2_with (at_builtin; refine list_app2 rfl (.tmp 12) (.tmp 15) 22 rfl 5 0 _ 1 1 Try.underlying22 info5 rfl (by decide) (by decide) (.slice A (n + i) c) (n + i) _ rfl (own_keeps HO.out ((Kept.refl _ _).alloc _)) (some ⟨wr.heap.size, 0, none⟩) 1 1 [.int .u8 ((i : Int) % 256)] rfl rfl (holds_new _ _ _ _ _ rfl) (by simp [Value.oneCell']) (by omega) (Nat.zero_le _) ?_; intro v9 w9 hown9 hwent9)
      obtain ⟨A9, c9, rfl, _⟩ := own_slice hown9
      have g1 : Hid (w9.ownsRow 0 5 1 (.slice A9 (n + i + 1) c9) (n + (i + 1)) ((zs ++ marks (i + 1)).map byteC)) := by
        show w9.ownsRow 0 5 1 (.slice A9 (n + i + 1) c9) (n + (i + 1)) ((zs ++ marks (i + 1)).map byteC)
        rw [marks_snoc, ← List.append_assoc, List.map_append]
        exact hown9
      have g2 : Hid (Fresh w (.slice A9 (n + i + 1) c9)) := fresh_went (w := w) (fun b hb => HF.out b hb) (by simp; have := HB.out.size; omega) hwent9
      have hb9 : Hid (Below w.heap.size w w9) := (HB.out.trans (((Below.refl _ wr).alloc (Nat.le_refl _) _).mono HB.out.size)).trans (hwent9.kept.below (fun b hb => HF.out b hb) (by simp; have := HB.out.size; omega))
      exact ⟨⟨i + 1, A9, c9, by omega, by simp, rfl, g1, hb9, g2⟩, by simp [intOf]; omega⟩
    · have : i = 300 := by omega
      subst this
      obtain ⟨hcap, hcap2⟩ := own_cap HO.out
      cases A with
      | none =>
        have := HO.out.2
        rcases this with ⟨h1, _⟩ | ⟨g, c', cur, h1, _⟩
        · simp at h1
        · simp at h1
      | some ad =>
        go_wp2_with fail
        go_ret
        refine ⟨some ad, c, rfl, ⟨HN.out.symm, ?_⟩, HB.out, fun b hb => HF.out b hb⟩
        have := HO.out
        unfold OB
        rw [List.length_append, marks_len, HN.out]
        exact this
set_option maxHeartbeats 4000000 in
set_option maxRecDepth 100000 in
theorem kept_any (w : World) (A : Option Addr) (n c : Nat) (u : Value) (zs : List Int) (hb : n ≤ 140737488354000) (h : LB w A n c zs) (hu : RB w u zs) :
    Calls Try.prog 26 #[.slice A n c, u] w fun e w' => e = .returned (.bool true) ∧ w = w' := by
  have HS := Lib.hid (same_eq w (.slice A n c) u zs h.reads hu)
  obtain ⟨hn, h⟩ := h
  have hll : (zs ++ marks 300).length = n + 300 := by rw [List.length_append, marks_len, hn]
  unfold OB at h
  rw [hll] at h
  obtain ⟨hcap, hcap2⟩ := own_cap h
  obtain ⟨g, c', cur, e, q1, q2, q3, q4, q5, hcell⟩ := own_form h (by omega)
  obtain ⟨rfl, rfl⟩ : A = some ⟨g, 0, none⟩ ∧ c = c' := by simpa using e
  have HC : Hid (∀ j : Nat, j < 300 → w.cell? ⟨g, n + j, none⟩ = some (.int .u8 ((j : Int) % 256))) := fun j hj => hcell (n + j) _ (by rw [List.getElem?_map, List.getElem?_append_right (by omega), ← hn, Nat.add_sub_cancel_left, marks_at hj]; rfl)
  clear hcell e hu h hll hn q1 q2 q3 q4 q5 cur
  go_enter Try.func26, Try.ntmps26
  go_wp2_with (first | (go_at_call 17; (with_reducible refine HS.out.mono ?_); rintro e w1 ⟨rfl, rfl⟩) | fail)
  go_loop [6] (fun v6 => ∃ j : Nat, j ≤ 300 ∧ v6 = .int .i64 j) (fun v6 => 300 - (intOf v6).toNat)
  case atStart => exact ⟨0, Nat.zero_le _, rfl⟩
  case round =>
    obtain ⟨j, hj, rfl⟩ := hrel
    by_cases hlt : j < 300
    · have y0 := HC.out j hlt
      go_wp2
      exact ⟨⟨j + 1, by omega, by simp⟩, by simp [intOf]; omega⟩
    · have : j = 300 := by omega
      subst this
      go_wp2
      go_ret
      exact ⟨rfl, rfl⟩
set_option maxHeartbeats 4000000 in
set_option maxRecDepth 100000 in
theorem head_any (w : World) : Calls Try.prog 7 #[] w fun e w' => e = .returned (.bool true) ∧ Below w.heap.size w w' := by
  have HP := Lib.hid (put2_any (w.alloc (.cells #[.int .u8 9] 5)) (.slice (some ⟨w.heap.size, 0, none⟩) 1 1) [9] 258 (by decide) (by decide) (by decide) (rb_new w _ 5 [9] 1 rfl rfl (by decide)))
  have HB0 : Hid (Below w.heap.size w (w.alloc (.cells #[.int .u8 9] 5))) := (Below.refl _ w).alloc (Nat.le_refl _) _
  go_enter Try.func7, Try.ntmps7
  go_wp2_with fail
  (with_reducible refine HP.out.mono ?_)
  rintro e w1 ⟨A1, c1, rfl, o1, b1, f1⟩
  have HO1 := Lib.hid o1
  have HB1 : Hid (Below w.heap.size w w1) := HB0.out.trans (b1.mono HB0.out.size)
  have HR := Lib.hid (reader_any (w1.alloc (.cells #[.int .u8 5, .int .u8 0, .int .u8 7] 5)) (.slice (some ⟨w1.heap.size, 0, none⟩) 3 3) [5, 0, 7] (by decide) (rb_new w1 _ 5 [5, 0, 7] 3 rfl rfl (by decide)))
  have HB1' : Hid (Below w1.heap.size w1 (w1.alloc (.cells #[.int .u8 5, .int .u8 0, .int .u8 7] 5))) := (Below.refl _ w1).alloc (Nat.le_refl _) _
  clear HP o1 b1 f1 HB0
  go_wp2_with fail
  (with_reducible refine HR.out.mono ?_)
  rintro e w2 ⟨r, rfl, b2, hr, hrd⟩
  have HB2 : Hid (Below w1.heap.size w1 w2) := HB1'.out.trans (b2.mono HB1'.out.size)
  have HRD := Lib.hid (hrd (fun b => w1.heap.size ≤ b) (fun b hb => Nat.le_trans HB1'.out.size hb))
  have hr1 : Hid (w1.heap.size ≤ r) := Nat.le_trans HB1'.out.size hr
  clear HR b2 hrd hr HB1'
  have HB3 : Hid (Below w2.heap.size w2 (w2.alloc (.cells #[.int .u8 9, .int .u8 2, .int .u8 1] 5))) := (Below.refl _ w2).alloc (Nat.le_refl _) _
  have HSM := Lib.hid (same_eq (w2.alloc (.cells #[.int .u8 9, .int .u8 2, .int .u8 1] 5)) (.slice A1 3 c1) (.slice (some ⟨w2.heap.size, 0, none⟩) 3 3) [9, 2, 1] ((HO1.out.below HB2.out).below HB3.out).reads (rb_new w2 _ 5 [9, 2, 1] 3 rfl rfl (by decide)))
  have HRD3 := Lib.hid (HRD.out.below HB3.out)
  have HI1 := Lib.hid (int_any _ r [5, 0, 7] _ HRD3.out (fun z hz => by simp at hz; omega) 2 4 (by decide))
  go_wp2_with (first | (go_at_call 17; (with_reducible refine HSM.out.mono ?_); rintro e w3 ⟨rfl, rfl⟩) | fail)
  (with_reducible refine HI1.out.mono ?_)
  rintro e w4 ⟨rfl, r4, k4⟩
  have HI2 := Lib.hid (int_any w4 r [5, 0, 7] _ r4 (fun z hz => by simp at hz; omega) 2 5 (by decide))
  go_wp2_with fail
  (with_reducible refine HI2.out.mono ?_)
  rintro e w5 ⟨rfl, r5, k5⟩
  have HL := Lib.hid (left_any w5 r [7] _ r5)
  have HE := Lib.hid (end_any w5 r [7] _ r5)
  have e1 : intE [5, 0, 7] 2 4 = 5 := by decide
  have e2 : intE [5, 0, 7] 2 5 = 0 := by decide
  have e3 : intV [5, 0, 7] 2 5 = 5 := by decide
  have e4 : endZ [7] = 23 := by decide
  have HBX : Hid (Below w.heap.size w w5) := ((HB1.out.trans ((HB2.out.trans (HB3.out.mono HB2.out.size)).mono HB1.out.size)).trans ((k4.below (fun b hb => by subst hb; exact Nat.le_trans HB1.out.size hr1.out) (Nat.le_trans HB1.out.size (Nat.le_trans HB2.out.size HB3.out.size))).trans (k5.below (fun b hb => by subst hb; exact Nat.le_trans HB1.out.size hr1.out) (Nat.le_trans (Nat.le_trans HB1.out.size (Nat.le_trans HB2.out.size HB3.out.size)) k4.size))))
  rw [e1, e2, e3]
  rw [e4] at HE
  clear r4 r5 k4 k5
  go_wp2_with (first | (go_at_call 30; (with_reducible refine HL.out.mono ?_); rintro e w3 ⟨rfl, rfl⟩) | (go_at_call 31; (with_reducible refine HE.out.mono ?_); rintro e w3 ⟨rfl, rfl⟩) | fail)
  go_ret
  exact ⟨rfl, HBX.out⟩
end Go.Proofs.Ytolfmchgcelnmaa.O

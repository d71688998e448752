/- OctetPuts: the walk. -/
import Derived.Test.YtolfmchgcelnmaaOc8
namespace Go.Proofs.Ytolfmchgcelnmaa.O
open Go.RowKit Go.Proofs.Ytolfmchgcelnmaa.Mem
theorem CS.below {W : World} {obj hi lo : Int} {a b : World} (h : CS W obj hi lo a) (hb : Below a.heap.size a b) : CS W obj hi lo b := h.later hb
def capBad (obj : Int) : Prop := obj < 0 ∨ 4611686018427387904 < obj
instance (obj : Int) : Decidable (capBad obj) := by unfold capBad; infer_instance
def capZ (zs : List Int) (obj hi lo : Int) : List Int := if capBad obj then [] else zs ++ capB obj hi lo
def capX (obj : Int) : Int := if capBad obj then 5 else 0
theorem capB_len (obj hi lo : Int) : (capB obj hi lo).length = 24 := by simp [capB, wordB, le_len]
theorem cap_all (w : World) (v : Value) (zs : List Int) (obj hi lo : Int) (hh : U64 hi) (hl : U64 lo) (hb : zs.length ≤ 140737488352000) (h : RB w v zs) :
    Calls Try.prog 14 #[v, .agg #[.int .i64 obj, .int .u64 hi, .int .u64 lo]] w fun e w' => ∃ A c, e = .returned (.tuple #[.slice A (capZ zs obj hi lo).length c, .int .i64 (capX obj)]) ∧ OB w' (.slice A (capZ zs obj hi lo).length c) (capZ zs obj hi lo) ∧ Below w.heap.size w w' ∧ Fresh w (.slice A (capZ zs obj hi lo).length c) := by
  unfold capZ capX
  by_cases hc : capBad obj
  · rw [if_pos hc, if_pos hc]
    refine (cap_no w v obj hi lo hc).mono ?_
    rintro e w' ⟨rfl, hb⟩
    exact ⟨none, 0, rfl, OB.nil w', hb, fun k hk => by simp [Value.ownBlock] at hk⟩
  · rw [if_neg hc, if_neg hc, List.length_append, capB_len]
    unfold capBad at hc
    exact cap_any w v zs obj hi lo (by omega) (by omega) hh hl hb h
theorem rcap_all (w : World) (v : Value) (zs : List Int) (obj hi lo : Int) (hh : U64 hi) (hl : U64 lo) (hb : zs.length ≤ 140737488352000) (h : RB w v zs) :
    Calls Try.prog 15 #[v, .agg #[.int .i64 obj, .int .u64 hi, .int .u64 lo]] w fun e w' => ∃ A c, e = .returned (.tuple #[.slice A (capZ zs obj hi lo).length c, .int .i64 (capX obj)]) ∧ OB w' (.slice A (capZ zs obj hi lo).length c) (capZ zs obj hi lo) ∧ Below w.heap.size w w' ∧ Fresh w (.slice A (capZ zs obj hi lo).length c) := by
  unfold capZ capX
  by_cases hc : capBad obj
  · rw [if_pos hc, if_pos hc]
    refine (rcap_no w v obj hi lo hc).mono ?_
    rintro e w' ⟨rfl, hb⟩
    exact ⟨none, 0, rfl, OB.nil w', hb, fun k hk => by simp [Value.ownBlock] at hk⟩
  · rw [if_neg hc, if_neg hc, List.length_append, capB_len]
    unfold capBad at hc
    exact rcap_any w v zs obj hi lo (by omega) (by omega) hh hl hb h
def three {α : Type} (a b c : α) : Nat → α
  | 0 => a
  | 1 => b
  | _ => c
theorem rws3 (w : World) (a b c : Value) (za zb zc : List Int) (t : TypeId) (ha : RB w a za) (hb : RB w b zb) (hc : RB w c zc) : Rws (w.alloc (.cells #[a, b, c] t)) (.slice (some ⟨w.heap.size, 0, none⟩) 3 3) 3 (three a b c) (three za zb zc) := by
  have hbl : Below w.heap.size w (w.alloc (.cells #[a, b, c] t)) := (Below.refl _ w).alloc (Nat.le_refl _) _
  refine ⟨_, _, rfl, Nat.le_refl _, by decide, fun i hi => ?_, fun _ => ⟨_, _, rfl, fun i hi => ?_⟩⟩
  · match i, hi with
    | 0, _ => exact ha.below hbl
    | 1, _ => exact hb.below hbl
    | 2, _ => exact hc.below hbl
  · rw [Nat.zero_add]
    refine cell_row (heap_alloc_new w _) ?_
    match i, hi with
    | 0, _ => rfl
    | 1, _ => rfl
    | 2, _ => rfl
theorem rws0 (w : World) (V : Nat → Value) (Z : Nat → List Int) : Rws w (.slice none 0 0) 0 V Z := ⟨none, 0, rfl, Nat.le_refl _, by decide, fun i hi => by omega, fun h => by omega⟩
theorem join3_len (za zb zc : List Int) : (joinZ (three za zb zc) 3).length = za.length + zb.length + zc.length := by simp [joinZ, three, Nat.add_assoc]
theorem getV_range {zs : List Int} (hB : Bytes zs) (k : Nat) : 0 ≤ getV zs k ∧ getV zs k < 256 ^ k := by
  unfold getV
  split
  · exact ⟨by decide, Int.pow_pos (by decide)⟩
  · have hb : Bytes (zs.take k) := fun z hz => hB z (List.mem_of_mem_take hz)
    exact ⟨val_lo hb, val_lt hb (by rw [List.length_take]; omega)⟩
theorem join0 (w : World) : Calls Try.prog 16 #[.slice none 0 0] w fun e w' => ∃ A c, e = .returned (.slice A 0 c) ∧ Below w.heap.size w w' := by
  refine (join_any w _ 0 (fun _ => .slice none 0 0) (fun _ => []) (by decide) (by decide) (rws0 w _ _)).mono ?_
  rintro e w' ⟨A, c, rfl, _, hb, _⟩
  exact ⟨A, c, rfl, hb⟩
theorem rput_at (w : World) (v : Value) (zs : List Int) (x : Int) (k : Nat) (K : Int) (hK : (k : Int) = K) (h0 : 0 ≤ x) (h1 : x < 18446744073709551616) (hk : k ≤ 8) (hb : zs.length ≤ 140737488354000) (h : RB w v zs) :
    Calls Try.prog 18 #[v, .int .u64 x, .int .i64 K] w fun e w' => ∃ A c, e = .returned (.slice A (zs.length + k) c) ∧ OB w' (.slice A (zs.length + k) c) (zs ++ le k x) ∧ Below w.heap.size w w' ∧ Fresh w (.slice A (zs.length + k) c) := hK ▸ rput_any w v zs x k h0 h1 hk hb h
theorem rget_at (w : World) (v : Value) (zs : List Int) (k : Nat) (K : Int) (hK : (k : Int) = K) (hk : k ≤ 8) (hB : Bytes zs) (h : RB w v zs) : Calls Try.prog 25 #[v, .int .i64 K] w fun e w' => e = .returned (.tuple #[.int .u64 (getV zs k), .int .i64 (getE zs k)]) ∧ w = w' := hK ▸ rget_any w v zs k hk hB h
set_option maxHeartbeats 8000000 in
set_option maxRecDepth 100000 in
theorem law_puts (w : World) (v : Value) (zs : List Int) (x obj hi lo : Int) (hx : U64 x) (hh : U64 hi) (hl : U64 lo) (hB : Bytes zs) (hb : zs.length ≤ 1048576) (h : RB w v zs) :
    Calls Try.prog 3 #[v, .int .u64 x, .agg #[.int .i64 obj, .int .u64 hi, .int .u64 lo]] w fun e w' => e = .returned (.bool true) ∧ Below w.heap.size w w' := by
  obtain ⟨hx0, hx1⟩ := hx
  have HBY := Lib.hid hB
  have HH := Lib.hid hh
  have HLO := Lib.hid hl
  have HI := Lib.hid h
  obtain ⟨A0, c0, rfl, _⟩ := h
  clear hB hh hl
  have HW : Hid (Below w.heap.size w (w.alloc (.cells #[.int .i64 obj, .int .u64 hi, .int .u64 lo] 27))) := (Below.refl _ w).alloc (Nat.le_refl _) _
  have HC : Hid (CS w obj hi lo (w.alloc (.cells #[.int .i64 obj, .int .u64 hi, .int .u64 lo] 27))) := ⟨by simp, by simp, by simp, HW.out, by simp⟩
  replace HI := Lib.hid (HI.out.below HW.out)
  go_enter Try.func3, Try.ntmps3
  have HX := Lib.hid (head_any (w.alloc (.cells #[.int .i64 obj, .int .u64 hi, .int .u64 lo] 27)))
  go_wp2_with fail
  (with_reducible refine HX.out.mono ?_)
  rintro e w1x ⟨rfl, hb1⟩
  replace HC := Lib.hid (HC.out.below hb1)
  replace HI := Lib.hid (HI.out.below hb1)
  replace HW := Lib.hid (HW.out.trans (hb1.mono HW.out.size))
  clear HX hb1
  have HX := Lib.hid (lent_any w1x (.slice A0 zs.length c0) zs (by omega) HI.out)
  go_wp2_with fail
  (with_reducible refine HX.out.mono ?_)
  rintro e w2x ⟨Al, cl, rfl, ol, hb1, _⟩
  replace HC := Lib.hid (HC.out.below hb1)
  replace HI := Lib.hid (HI.out.below hb1)
  replace HW := Lib.hid (HW.out.trans (hb1.mono HW.out.size))
  have HL := Lib.hid ol
  clear HX ol hb1
  have e16 : IntKind.u16.wrap x = x % 65536 := by first | exact IntKind.wrap_u16 x | simp [IntKind.wrap, IntKind.bits, IntKind.signed]
  have E16 := Lib.hid e16
  clear e16
  have HX := Lib.hid (put1_any w2x (.slice Al zs.length cl) zs (x % 256) (by omega) (by omega) (by omega) HL.out.reads)
  go_wp2_with fail
  (with_reducible refine HX.out.mono ?_)
  rintro e w3x ⟨A1, c1, rfl, o1, hb1, _⟩
  replace HC := Lib.hid (HC.out.below hb1)
  replace HI := Lib.hid (HI.out.below hb1)
  replace HL := Lib.hid (HL.out.below hb1)
  replace HW := Lib.hid (HW.out.trans (hb1.mono HW.out.size))
  have HP1 := Lib.hid o1
  clear HX o1 hb1
  have HX := Lib.hid (put2_any w3x (.slice Al zs.length cl) zs (IntKind.u16.wrap x) (by rw [E16.out]; omega) (by rw [E16.out]; omega) (by omega) HL.out.reads)
  go_wp2_with fail
  (with_reducible refine HX.out.mono ?_)
  rintro e w4x ⟨A2, c2, rfl, o1, hb1, _⟩
  replace HC := Lib.hid (HC.out.below hb1)
  replace HI := Lib.hid (HI.out.below hb1)
  replace HL := Lib.hid (HL.out.below hb1)
  replace HP1 := Lib.hid (HP1.out.below hb1)
  replace HW := Lib.hid (HW.out.trans (hb1.mono HW.out.size))
  have HP2 := Lib.hid o1
  clear HX o1 hb1
  rw [E16.out] at HP2
  have HX := Lib.hid (put4_any w4x (.slice Al zs.length cl) zs (x % 4294967296) (by omega) (by omega) (by omega) HL.out.reads)
  go_wp2_with fail
  (with_reducible refine HX.out.mono ?_)
  rintro e w5x ⟨A4, c4, rfl, o1, hb1, _⟩
  replace HC := Lib.hid (HC.out.below hb1)
  replace HI := Lib.hid (HI.out.below hb1)
  replace HL := Lib.hid (HL.out.below hb1)
  replace HP1 := Lib.hid (HP1.out.below hb1)
  replace HP2 := Lib.hid (HP2.out.below hb1)
  replace HW := Lib.hid (HW.out.trans (hb1.mono HW.out.size))
  have HP4 := Lib.hid o1
  clear HX o1 hb1
  have HX := Lib.hid (put8_any w5x (.slice Al zs.length cl) zs x hx0 hx1 (by omega) HL.out.reads)
  go_wp2_with fail
  (with_reducible refine HX.out.mono ?_)
  rintro e w6x ⟨A8, c8, rfl, o1, hb1, _⟩
  replace HC := Lib.hid (HC.out.below hb1)
  replace HI := Lib.hid (HI.out.below hb1)
  replace HL := Lib.hid (HL.out.below hb1)
  replace HP1 := Lib.hid (HP1.out.below hb1)
  replace HP2 := Lib.hid (HP2.out.below hb1)
  replace HP4 := Lib.hid (HP4.out.below hb1)
  replace HW := Lib.hid (HW.out.trans (hb1.mono HW.out.size))
  have HP8 := Lib.hid o1
  clear HX o1 hb1
  obtain ⟨q0, q1, q2, _, _⟩ := HC.out
  have HX := Lib.hid (word_any w6x (.slice Al zs.length cl) zs hi lo HH.out HLO.out (by omega) HL.out.reads)
  go_wp2_with fail
  (with_reducible refine HX.out.mono ?_)
  rintro e w7x ⟨Aw, cw, rfl, o1, hb1, _⟩
  replace HC := Lib.hid (HC.out.below hb1)
  replace HI := Lib.hid (HI.out.below hb1)
  replace HL := Lib.hid (HL.out.below hb1)
  replace HP1 := Lib.hid (HP1.out.below hb1)
  replace HP2 := Lib.hid (HP2.out.below hb1)
  replace HP4 := Lib.hid (HP4.out.below hb1)
  replace HP8 := Lib.hid (HP8.out.below hb1)
  replace HW := Lib.hid (HW.out.trans (hb1.mono HW.out.size))
  have HPw := Lib.hid o1
  clear HX o1 hb1
  clear q0 q1 q2
  obtain ⟨q0, q1, q2, _, _⟩ := HC.out
  have HX := Lib.hid (cap_all w7x (.slice Al zs.length cl) zs obj hi lo HH.out HLO.out (by omega) HL.out.reads)
  go_wp2_with fail
  (with_reducible refine HX.out.mono ?_)
  rintro e w8x ⟨Ax, cx, rfl, o1, hb1, _⟩
  replace HC := Lib.hid (HC.out.below hb1)
  replace HI := Lib.hid (HI.out.below hb1)
  replace HL := Lib.hid (HL.out.below hb1)
  replace HP1 := Lib.hid (HP1.out.below hb1)
  replace HP2 := Lib.hid (HP2.out.below hb1)
  replace HP4 := Lib.hid (HP4.out.below hb1)
  replace HP8 := Lib.hid (HP8.out.below hb1)
  replace HPw := Lib.hid (HPw.out.below hb1)
  replace HW := Lib.hid (HW.out.trans (hb1.mono HW.out.size))
  have HPx := Lib.hid o1
  clear HX o1 hb1
  clear q0 q1 q2
  obtain ⟨q0, q1, q2, _, _⟩ := HC.out
  have HX := Lib.hid (rcap_all w8x (.slice A0 zs.length c0) zs obj hi lo HH.out HLO.out (by omega) HI.out)
  go_wp2_with fail
  (with_reducible refine HX.out.mono ?_)
  rintro e w9x ⟨Ay, cy, rfl, o1, hb1, _⟩
  replace HC := Lib.hid (HC.out.below hb1)
  replace HI := Lib.hid (HI.out.below hb1)
  replace HL := Lib.hid (HL.out.below hb1)
  replace HP1 := Lib.hid (HP1.out.below hb1)
  replace HP2 := Lib.hid (HP2.out.below hb1)
  replace HP4 := Lib.hid (HP4.out.below hb1)
  replace HP8 := Lib.hid (HP8.out.below hb1)
  replace HPw := Lib.hid (HPw.out.below hb1)
  replace HPx := Lib.hid (HPx.out.below hb1)
  replace HW := Lib.hid (HW.out.trans (hb1.mono HW.out.size))
  have HPy := Lib.hid o1
  clear HX o1 hb1
  clear q0 q1 q2
  have HR := Lib.hid (rws3 w9x (.slice Al zs.length cl) (.slice A2 (zs.length + 2) c2) (.slice Al zs.length cl) zs (zs ++ le 2 (x % 65536)) zs 22 HL.out.reads HP2.out.reads HL.out.reads)
  have hal10 := (Below.refl _ w9x).alloc (Nat.le_refl _) (.cells #[(.slice Al zs.length cl), (.slice A2 (zs.length + 2) c2), (.slice Al zs.length cl)] 22)
  replace HC := Lib.hid (HC.out.below hal10)
  replace HI := Lib.hid (HI.out.below hal10)
  replace HL := Lib.hid (HL.out.below hal10)
  replace HP1 := Lib.hid (HP1.out.below hal10)
  replace HP2 := Lib.hid (HP2.out.below hal10)
  replace HP4 := Lib.hid (HP4.out.below hal10)
  replace HP8 := Lib.hid (HP8.out.below hal10)
  replace HPw := Lib.hid (HPw.out.below hal10)
  replace HPx := Lib.hid (HPx.out.below hal10)
  replace HPy := Lib.hid (HPy.out.below hal10)
  replace HW := Lib.hid (HW.out.trans (hal10.mono HW.out.size))
  clear hal10
  have HX := Lib.hid (join_any (w9x.alloc (.cells #[(.slice Al zs.length cl), (.slice A2 (zs.length + 2) c2), (.slice Al zs.length cl)] 22)) _ 3 _ _ (by rw [join3_len, List.length_append, le_len]; omega) (by decide) HR.out)
  go_wp2_with fail
  (with_reducible refine HX.out.mono ?_)
  rintro e w11x ⟨Aj, cj, rfl, o1, hb1, _⟩
  replace HC := Lib.hid (HC.out.below hb1)
  replace HI := Lib.hid (HI.out.below hb1)
  replace HL := Lib.hid (HL.out.below hb1)
  replace HP1 := Lib.hid (HP1.out.below hb1)
  replace HP2 := Lib.hid (HP2.out.below hb1)
  replace HP4 := Lib.hid (HP4.out.below hb1)
  replace HP8 := Lib.hid (HP8.out.below hb1)
  replace HPw := Lib.hid (HPw.out.below hb1)
  replace HPx := Lib.hid (HPx.out.below hb1)
  replace HPy := Lib.hid (HPy.out.below hb1)
  replace HW := Lib.hid (HW.out.trans (hb1.mono HW.out.size))
  have HPj := Lib.hid o1
  clear HX o1 hb1
  clear HR
  have HX := Lib.hid (rput_at w11x (.slice A0 zs.length c0) zs (x % 256) 1 1 rfl (by omega) (by omega) (by decide) (by omega) HI.out)
  go_wp2_with fail
  (with_reducible refine HX.out.mono ?_)
  rintro e w12x ⟨Ar, cr, rfl, o1, hb1, _⟩
  replace HC := Lib.hid (HC.out.below hb1)
  replace HI := Lib.hid (HI.out.below hb1)
  replace HL := Lib.hid (HL.out.below hb1)
  replace HP1 := Lib.hid (HP1.out.below hb1)
  replace HP2 := Lib.hid (HP2.out.below hb1)
  replace HP4 := Lib.hid (HP4.out.below hb1)
  replace HP8 := Lib.hid (HP8.out.below hb1)
  replace HPw := Lib.hid (HPw.out.below hb1)
  replace HPx := Lib.hid (HPx.out.below hb1)
  replace HPy := Lib.hid (HPy.out.below hb1)
  replace HPj := Lib.hid (HPj.out.below hb1)
  replace HW := Lib.hid (HW.out.trans (hb1.mono HW.out.size))
  have HPr := Lib.hid o1
  clear HX o1 hb1
  have HX := Lib.hid (same_eq w12x (.slice A1 (zs.length + 1) c1) (.slice Ar (zs.length + 1) cr) (zs ++ le 1 (x % 256)) HP1.out.reads HPr.out.reads)
  go_wp2_with fail
  (with_reducible refine HX.out.mono ?_)
  rintro e w9 ⟨rfl, rfl⟩
  clear HX 
  clear HPr
  clear HP1
  have HX := Lib.hid (rput_at w12x (.slice A0 zs.length c0) zs (x % 65536) 2 2 rfl (by omega) (by omega) (by decide) (by omega) HI.out)
  go_wp2_with fail
  (with_reducible refine HX.out.mono ?_)
  rintro e w13x ⟨Ar, cr, rfl, o1, hb1, _⟩
  replace HC := Lib.hid (HC.out.below hb1)
  replace HI := Lib.hid (HI.out.below hb1)
  replace HL := Lib.hid (HL.out.below hb1)
  replace HP2 := Lib.hid (HP2.out.below hb1)
  replace HP4 := Lib.hid (HP4.out.below hb1)
  replace HP8 := Lib.hid (HP8.out.below hb1)
  replace HPw := Lib.hid (HPw.out.below hb1)
  replace HPx := Lib.hid (HPx.out.below hb1)
  replace HPy := Lib.hid (HPy.out.below hb1)
  replace HPj := Lib.hid (HPj.out.below hb1)
  replace HW := Lib.hid (HW.out.trans (hb1.mono HW.out.size))
  have HPr := Lib.hid o1
  clear HX o1 hb1
  have HX := Lib.hid (same_eq w13x (.slice A2 (zs.length + 2) c2) (.slice Ar (zs.length + 2) cr) (zs ++ le 2 (x % 65536)) HP2.out.reads HPr.out.reads)
  go_wp2_with fail
  (with_reducible refine HX.out.mono ?_)
  rintro e w9 ⟨rfl, rfl⟩
  clear HX 
  clear HPr
  have HX := Lib.hid (rput_at w13x (.slice A0 zs.length c0) zs (x % 4294967296) 4 4 rfl (by omega) (by omega) (by decide) (by omega) HI.out)
  go_wp2_with fail
  (with_reducible refine HX.out.mono ?_)
  rintro e w14x ⟨Ar, cr, rfl, o1, hb1, _⟩
  replace HC := Lib.hid (HC.out.below hb1)
  replace HI := Lib.hid (HI.out.below hb1)
  replace HL := Lib.hid (HL.out.below hb1)
  replace HP2 := Lib.hid (HP2.out.below hb1)
  replace HP4 := Lib.hid (HP4.out.below hb1)
  replace HP8 := Lib.hid (HP8.out.below hb1)
  replace HPw := Lib.hid (HPw.out.below hb1)
  replace HPx := Lib.hid (HPx.out.below hb1)
  replace HPy := Lib.hid (HPy.out.below hb1)
  replace HPj := Lib.hid (HPj.out.below hb1)
  replace HW := Lib.hid (HW.out.trans (hb1.mono HW.out.size))
  have HPr := Lib.hid o1
  clear HX o1 hb1
  have HX := Lib.hid (same_eq w14x (.slice A4 (zs.length + 4) c4) (.slice Ar (zs.length + 4) cr) (zs ++ le 4 (x % 4294967296)) HP4.out.reads HPr.out.reads)
  go_wp2_with fail
  (with_reducible refine HX.out.mono ?_)
  rintro e w9 ⟨rfl, rfl⟩
  clear HX 
  clear HPr
  clear HP4
  have HX := Lib.hid (rput_at w14x (.slice A0 zs.length c0) zs x 8 8 rfl (by omega) (by omega) (by decide) (by omega) HI.out)
  go_wp2_with fail
  (with_reducible refine HX.out.mono ?_)
  rintro e w15x ⟨Ar, cr, rfl, o1, hb1, _⟩
  replace HC := Lib.hid (HC.out.below hb1)
  replace HI := Lib.hid (HI.out.below hb1)
  replace HL := Lib.hid (HL.out.below hb1)
  replace HP2 := Lib.hid (HP2.out.below hb1)
  replace HP8 := Lib.hid (HP8.out.below hb1)
  replace HPw := Lib.hid (HPw.out.below hb1)
  replace HPx := Lib.hid (HPx.out.below hb1)
  replace HPy := Lib.hid (HPy.out.below hb1)
  replace HPj := Lib.hid (HPj.out.below hb1)
  replace HW := Lib.hid (HW.out.trans (hb1.mono HW.out.size))
  have HPr := Lib.hid o1
  clear HX o1 hb1
  have HX := Lib.hid (same_eq w15x (.slice A8 (zs.length + 8) c8) (.slice Ar (zs.length + 8) cr) (zs ++ le 8 x) HP8.out.reads HPr.out.reads)
  go_wp2_with fail
  (with_reducible refine HX.out.mono ?_)
  rintro e w9 ⟨rfl, rfl⟩
  clear HX 
  clear HPr
  clear HP8
  obtain ⟨q0, q1, q2, _, _⟩ := HC.out
  have HX := Lib.hid (rword_any w15x (.slice A0 zs.length c0) zs hi lo HH.out HLO.out (by omega) HI.out)
  go_wp2_with fail
  (with_reducible refine HX.out.mono ?_)
  rintro e w16x ⟨Ar, cr, rfl, o1, hb1, _⟩
  replace HC := Lib.hid (HC.out.below hb1)
  replace HI := Lib.hid (HI.out.below hb1)
  replace HL := Lib.hid (HL.out.below hb1)
  replace HP2 := Lib.hid (HP2.out.below hb1)
  replace HPw := Lib.hid (HPw.out.below hb1)
  replace HPx := Lib.hid (HPx.out.below hb1)
  replace HPy := Lib.hid (HPy.out.below hb1)
  replace HPj := Lib.hid (HPj.out.below hb1)
  replace HW := Lib.hid (HW.out.trans (hb1.mono HW.out.size))
  have HPr := Lib.hid o1
  clear HX o1 hb1
  clear q0 q1 q2
  have HX := Lib.hid (same_eq w16x (.slice Aw (zs.length + 16) cw) (.slice Ar (zs.length + 16) cr) (zs ++ wordB hi lo) HPw.out.reads HPr.out.reads)
  go_wp2_with fail
  (with_reducible refine HX.out.mono ?_)
  rintro e w9 ⟨rfl, rfl⟩
  clear HX 
  clear HPr HPw
  have HX := Lib.hid (same_eq w16x (.slice Ax (capZ zs obj hi lo).length cx) (.slice Ay (capZ zs obj hi lo).length cy) (capZ zs obj hi lo) HPx.out.reads HPy.out.reads)
  go_wp2_with fail
  (with_reducible refine HX.out.mono ?_)
  rintro e w9 ⟨rfl, rfl⟩
  clear HX 
  clear HPx HPy
  have HR := Lib.hid (rws3 w16x (.slice A0 zs.length c0) (.slice A2 (zs.length + 2) c2) (.slice A0 zs.length c0) zs (zs ++ le 2 (x % 65536)) zs 22 HI.out HP2.out.reads HI.out)
  have hal17 := (Below.refl _ w16x).alloc (Nat.le_refl _) (.cells #[(.slice A0 zs.length c0), (.slice A2 (zs.length + 2) c2), (.slice A0 zs.length c0)] 22)
  replace HC := Lib.hid (HC.out.below hal17)
  replace HI := Lib.hid (HI.out.below hal17)
  replace HL := Lib.hid (HL.out.below hal17)
  replace HP2 := Lib.hid (HP2.out.below hal17)
  replace HPj := Lib.hid (HPj.out.below hal17)
  replace HW := Lib.hid (HW.out.trans (hal17.mono HW.out.size))
  clear hal17
  have HX := Lib.hid (rjoin_any (w16x.alloc (.cells #[(.slice A0 zs.length c0), (.slice A2 (zs.length + 2) c2), (.slice A0 zs.length c0)] 22)) _ 3 _ _ (by rw [join3_len, List.length_append, le_len]; omega) (by decide) HR.out)
  go_wp2_with fail
  (with_reducible refine HX.out.mono ?_)
  rintro e w18x ⟨Ak, ck, rfl, o1, hb1, _⟩
  replace HC := Lib.hid (HC.out.below hb1)
  replace HI := Lib.hid (HI.out.below hb1)
  replace HL := Lib.hid (HL.out.below hb1)
  replace HP2 := Lib.hid (HP2.out.below hb1)
  replace HPj := Lib.hid (HPj.out.below hb1)
  replace HW := Lib.hid (HW.out.trans (hb1.mono HW.out.size))
  have HPk := Lib.hid o1
  clear HX o1 hb1
  clear HR
  have HX := Lib.hid (same_eq w18x (.slice Aj (joinZ (three zs (zs ++ le 2 (x % 65536)) zs) 3).length cj) (.slice Ak (joinZ (three zs (zs ++ le 2 (x % 65536)) zs) 3).length ck) (joinZ (three zs (zs ++ le 2 (x % 65536)) zs) 3) HPj.out.reads HPk.out.reads)
  go_wp2_with fail
  (with_reducible refine HX.out.mono ?_)
  rintro e w9 ⟨rfl, rfl⟩
  clear HX 
  clear HPj HPk HP2
  have HX := Lib.hid (join0 w18x)
  go_wp2_with fail
  (with_reducible refine HX.out.mono ?_)
  rintro e w19x ⟨Az, cz, rfl, hb1⟩
  replace HC := Lib.hid (HC.out.below hb1)
  replace HI := Lib.hid (HI.out.below hb1)
  replace HL := Lib.hid (HL.out.below hb1)
  replace HW := Lib.hid (HW.out.trans (hb1.mono HW.out.size))
  clear HX hb1
  have HX := Lib.hid (get1 w19x (.slice Al zs.length cl) zs HBY.out HL.out.reads)
  go_wp2_with fail
  (with_reducible refine HX.out.mono ?_)
  rintro e w9 ⟨rfl, rfl⟩
  clear HX 
  have HX := Lib.hid (get2 w19x (.slice Al zs.length cl) zs HBY.out HL.out.reads)
  go_wp2_with fail
  (with_reducible refine HX.out.mono ?_)
  rintro e w9 ⟨rfl, rfl⟩
  clear HX 
  have HX := Lib.hid (get4 w19x (.slice Al zs.length cl) zs HBY.out HL.out.reads)
  go_wp2_with fail
  (with_reducible refine HX.out.mono ?_)
  rintro e w9 ⟨rfl, rfl⟩
  clear HX 
  have HX := Lib.hid (get8 w19x (.slice Al zs.length cl) zs HBY.out HL.out.reads)
  go_wp2_with fail
  (with_reducible refine HX.out.mono ?_)
  rintro e w9 ⟨rfl, rfl⟩
  clear HX 
  have HX := Lib.hid (rget_at w19x (.slice A0 zs.length c0) zs 1 1 rfl (by decide) HBY.out HI.out)
  go_wp2_with fail
  (with_reducible refine HX.out.mono ?_)
  rintro e w9 ⟨rfl, rfl⟩
  clear HX 
  have HX := Lib.hid (rget_at w19x (.slice A0 zs.length c0) zs 2 2 rfl (by decide) HBY.out HI.out)
  go_wp2_with fail
  (with_reducible refine HX.out.mono ?_)
  rintro e w9 ⟨rfl, rfl⟩
  clear HX 
  have HX := Lib.hid (rget_at w19x (.slice A0 zs.length c0) zs 4 4 rfl (by decide) HBY.out HI.out)
  go_wp2_with fail
  (with_reducible refine HX.out.mono ?_)
  rintro e w9 ⟨rfl, rfl⟩
  clear HX 
  have HX := Lib.hid (rget_at w19x (.slice A0 zs.length c0) zs 8 8 rfl (by decide) HBY.out HI.out)
  go_wp2_with fail
  (with_reducible refine HX.out.mono ?_)
  rintro e w9 ⟨rfl, rfl⟩
  clear HX 
  obtain ⟨l1, u1⟩ := getV_range HBY.out 1
  obtain ⟨V1, hV1⟩ : ∃ V, getV zs 1 = V := ⟨_, rfl⟩
  obtain ⟨E1, hE1⟩ : ∃ E, getE zs 1 = E := ⟨_, rfl⟩
  rw [hV1] at l1 u1
  rw [hV1, hE1]
  clear hV1 hE1
  change V1 < 256 at u1
  obtain ⟨l2, u2⟩ := getV_range HBY.out 2
  obtain ⟨V2, hV2⟩ : ∃ V, getV zs 2 = V := ⟨_, rfl⟩
  obtain ⟨E2, hE2⟩ : ∃ E, getE zs 2 = E := ⟨_, rfl⟩
  rw [hV2] at l2 u2
  rw [hV2, hE2]
  clear hV2 hE2
  change V2 < 65536 at u2
  obtain ⟨l4, u4⟩ := getV_range HBY.out 4
  obtain ⟨V4, hV4⟩ : ∃ V, getV zs 4 = V := ⟨_, rfl⟩
  obtain ⟨E4, hE4⟩ : ∃ E, getE zs 4 = E := ⟨_, rfl⟩
  rw [hV4] at l4 u4
  rw [hV4, hE4]
  clear hV4 hE4
  change V4 < 4294967296 at u4
  obtain ⟨l8, u8⟩ := getV_range HBY.out 8
  obtain ⟨V8, hV8⟩ : ∃ V, getV zs 8 = V := ⟨_, rfl⟩
  obtain ⟨E8, hE8⟩ : ∃ E, getE zs 8 = E := ⟨_, rfl⟩
  rw [hV8] at l8 u8
  rw [hV8, hE8]
  clear hV8 hE8
  change V8 < 18446744073709551616 at u8
  have HX := Lib.hid (kept_any w19x Al zs.length cl (.slice A0 zs.length c0) zs (by omega) HL.out HI.out)
  go_wp2_with fail
  (with_reducible refine HX.out.mono ?_)
  rintro e w9 ⟨rfl, rfl⟩
  clear HX 
  go_wp2_with fail
  go_ret
  exact ⟨rfl, HW.out⟩
end Go.Proofs.Ytolfmchgcelnmaa.O

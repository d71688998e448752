/- A capability behind bytes; rows behind one another. -/
import Derived.Test.YtfpkdbogapmhmaaOc3
namespace Go.Proofs.Ytfpkdbogapmhmaa.O
open Go.RowKit Go.Proofs.Ytfpkdbogapmhmaa.Mem
set_option maxHeartbeats 4000000 in
set_option maxRecDepth 100000 in
theorem cap_no (w : World) (v : Value) (obj hi lo : Int) (ho : obj < 0 ∨ 4611686018427387904 < obj) :
    Calls Try.prog 54 #[v, .agg #[.int .i64 obj, .int .u64 hi, .int .u64 lo]] w fun e w' => e = .returned (.tuple #[.slice none 0 0, .int .i64 5]) ∧ Below w.heap.size w w' := by
  have hbx := (Below.refl w.heap.size w).alloc (Nat.le_refl _) (.cells #[.int .i64 obj, .int .u64 hi, .int .u64 lo] 26)
  rcases ho with ho | ho
  · have d1 : decide (obj < 0) = true := decide_eq_true ho
    go_enter Try.func54, Try.ntmps54
    go_wp2_with fail
    go_ret2
    exact ⟨rfl, hbx⟩
  · have d1 : decide (obj < 0) = false := decide_eq_false (by omega)
    have d2 : decide (4611686018427387904 < obj) = true := decide_eq_true ho
    go_enter Try.func54, Try.ntmps54
    go_wp2_with fail
    go_ret2
    exact ⟨rfl, hbx⟩
set_option maxHeartbeats 4000000 in
set_option maxRecDepth 100000 in
theorem cap_any (w : World) (v : Value) (zs : List Int) (obj hi lo : Int) (h0 : 0 ≤ obj) (h1 : obj ≤ 4611686018427387904) (hh : U64 hi) (hl : U64 lo) (hb : zs.length ≤ 140737488352000) (h : RB w v zs) :
    Calls Try.prog 54 #[v, .agg #[.int .i64 obj, .int .u64 hi, .int .u64 lo]] w fun e w' => ∃ A c, e = .returned (.tuple #[.slice A (zs.length + 24) c, .int .i64 0]) ∧ OB w' (.slice A (zs.length + 24) c) (zs ++ capB obj hi lo) ∧ Below w.heap.size w w' ∧ Fresh w (.slice A (zs.length + 24) c) := by
  have PA : Hid (∀ w' (v : Value) (zs : List Int) (x : Int), U64 x → zs.length ≤ 140737488354000 → RB w' v zs → Calls Try.prog 55 #[v, .int .u64 x] w' fun e w'' => ∃ A c, e = .returned (.slice A (zs.length + 8) c) ∧ OB w'' (.slice A (zs.length + 8) c) (zs ++ le 8 x) ∧ Below w'.heap.size w' w'' ∧ Fresh w' (.slice A (zs.length + 8) c)) := fun w' v zs x h hb hr => put8_any w' v zs x h.1 h.2 hb hr
  have hou : U64 obj := ⟨h0, by omega⟩
  have hw : IntKind.u64.wrap obj = obj := by rw [IntKind.wrap_u64]; omega
  have d1 : decide (obj < 0) = false := decide_eq_false (by omega)
  have d2 : decide (4611686018427387904 < obj) = false := decide_eq_false (by omega)
  obtain ⟨n, hn⟩ : ∃ n, zs.length = n := ⟨_, rfl⟩
  have P1 : Hid (∀ a, Below w.heap.size w a → Calls Try.prog 55 #[v, .int .u64 obj] a fun e w'' => ∃ A c, e = .returned (.slice A (n + 8) c) ∧ OB w'' (.slice A (n + 8) c) (zs ++ le 8 obj) ∧ Below a.heap.size a w'') := fun a ha => by
    refine (PA.out a v zs obj hou (by omega) (h.below ha)).mono ?_
    rw [hn]
    rintro e w' ⟨A, c, h1, h2, h3, _⟩
    exact ⟨A, c, h1, h2, h3⟩
  have P2 : Hid (∀ a A c, OB a (.slice A (n + 8) c) (zs ++ le 8 obj) → w.heap.size ≤ a.heap.size → Calls Try.prog 56 #[.slice A (n + 8) c, .agg #[.int .u64 hi, .int .u64 lo]] a fun e w'' => ∃ A' c', e = .returned (.slice A' (n + 24) c') ∧ OB w'' (.slice A' (n + 24) c') (zs ++ capB obj hi lo) ∧ Below a.heap.size a w'' ∧ Fresh w (.slice A' (n + 24) c')) := fun a A c ha hs => by
    have hlen : (zs ++ le 8 obj).length = n + 8 := by rw [List.length_append, le_len, hn]
    refine (word_any a _ (zs ++ le 8 obj) hi lo hh hl (by rw [hlen]; omega) ha.reads).mono ?_
    rw [hlen, List.append_assoc]
    rintro e w' ⟨A', c', h1, h2, h3, h4⟩
    exact ⟨A', c', h1, h2, h3, fun b hb => Nat.le_trans hs (h4 b hb)⟩
  rw [hn]
  have hbx := (Below.refl w.heap.size w).alloc (Nat.le_refl _) (.cells #[.int .i64 obj, .int .u64 hi, .int .u64 lo] 26)
  have ST : Hid (CS w obj hi lo (w.alloc (.cells #[.int .i64 obj, .int .u64 hi, .int .u64 lo] 26)).drew) := ⟨by simp, by simp, by simp, hbx.drew, by simp⟩
  have KEEP : Hid (∀ a b, Below a.heap.size a b → CS w obj hi lo a → CS w obj hi lo b) := fun a b hb h => h.later hb
  clear h hn hbx PA hou
  go_enter Try.func54, Try.ntmps54
  go_wp2_with fail
  go_region_held3 (fun w' => w'.cell? ⟨w.heap.size, 0, none⟩ = some (.int .i64 obj) ∧ w'.cell? ⟨w.heap.size, 1, none⟩ = some (.int .u64 hi) ∧ w'.cell? ⟨w.heap.size, 2, none⟩ = some (.int .u64 lo) ∧ Below w.heap.size w w' ∧ w.heap.size < w'.heap.size)
    (first | exact ST.out | (refine KEEP.out _ _ (by with_reducible assumption) ?_; go_split_ands; exact ⟨by with_reducible assumption, by with_reducible assumption, by with_reducible assumption, by with_reducible assumption, by with_reducible assumption⟩) | go_keep)
    (first | (go_at_call 55; (with_reducible refine (P1.out _ ?_).mono ?_); (go_split_ands; with_reducible assumption); rintro e w1 ⟨A1, c1, rfl, o1, hb1⟩) | (go_at_call 56; (with_reducible refine (P2.out _ _ _ (by with_reducible assumption) ?_).mono ?_); (go_split_ands; omega); rintro e w2 ⟨A2, c2, rfl, o2, hb2, f2⟩) | fail)
  all_goals (go_wp2; go_split_ands; go_ret2; exact ⟨_, _, rfl, by with_reducible assumption, by with_reducible assumption, by with_reducible assumption⟩)
/-- A row of slices of bytes, each of which reads as it is said. -/
def Rws (w : World) (v : Value) (n : Nat) (V : Nat → Value) (Z : Nat → List Int) : Prop :=
  ∃ A c, v = .slice A n c ∧ n ≤ c ∧ c ≤ 9223372036854775807 ∧ (∀ i, i < n → RB w (V i) (Z i)) ∧ (0 < n → ∃ g o, A = some ⟨g, o, none⟩ ∧ ∀ i, i < n → w.cell? ⟨g, o + i, none⟩ = some (V i))
def joinZ (Z : Nat → List Int) : Nat → List Int
  | 0 => []
  | k + 1 => joinZ Z k ++ Z k
theorem join_le (Z : Nat → List Int) : ∀ {i n : Nat}, i ≤ n → (joinZ Z i).length ≤ (joinZ Z n).length
  | i, 0, h => by obtain rfl : i = 0 := by omega
                  exact Nat.le_refl _
  | i, n + 1, h => by
    by_cases e : i = n + 1
    · subst e; exact Nat.le_refl _
    · have := join_le Z (i := i) (n := n) (by omega)
      rw [joinZ, List.length_append]; omega
theorem join_at (Z : Nat → List Int) {i n : Nat} (h : i < n) : (joinZ Z i).length + (Z i).length ≤ (joinZ Z n).length := by
  have := join_le Z (i := i + 1) (n := n) h
  rw [joinZ, List.length_append] at this
  exact this
set_option maxHeartbeats 4000000 in
set_option maxRecDepth 100000 in
theorem join_any (w : World) (v : Value) (n : Nat) (V : Nat → Value) (Z : Nat → List Int) (hb : (joinZ Z n).length ≤ 140737488355000) (hn9 : n ≤ 1000000) (h : Rws w v n V Z) :
    Calls Try.prog 30 #[v] w fun e w' => ∃ A c, e = .returned (.slice A (joinZ Z n).length c) ∧ OB w' (.slice A (joinZ Z n).length c) (joinZ Z n) ∧ Below w.heap.size w w' ∧ Fresh w (.slice A (joinZ Z n).length c) := by
  obtain ⟨A0, c0, rfl, h1, h2, h3, h4⟩ := h
  have HR := Lib.hid h3
  have HC := Lib.hid h4
  clear h3 h4
  have HO : Hid (w.ownsRow 0 5 1 (.slice none 0 0) 0 ((joinZ Z 0).map byteC)) := World.ownsRow_nil _ _ _ _
  have HM : Hid ((joinZ Z 0).length = 0) := rfl
  have HB : Hid (Below w.heap.size w w) := Below.refl _ _
  have HF : Hid (Fresh w (.slice none 0 0)) := fun b hb => by simp [Value.ownBlock] at hb
  go_enter Try.func30, Try.ntmps30
  go_wp2_with fail
  go_loopw [3, 8] (fun v3 v8 wr => ∃ (i m : Nat) (A : Option Addr) (c : Nat), i ≤ n ∧ v8 = .int .i64 i ∧ v3 = .slice A m c ∧ Hid ((joinZ Z i).length = m) ∧ Hid (wr.ownsRow 0 5 1 (.slice A m c) m ((joinZ Z i).map byteC)) ∧ Hid (Below w.heap.size w wr) ∧ Hid (Fresh w (.slice A m c))) (fun _ v8 _ => n - (intOf v8).toNat)
  case atStart => exact ⟨0, 0, none, 0, Nat.zero_le _, rfl, rfl, HM, HO, HB, HF⟩
  case round =>
    clear HO HB HF HM
    obtain ⟨i, m, A, c, hi, rfl, rfl, HM, HO, HB, HF⟩ := hrel
    by_cases hlt : i < n
    · obtain ⟨g, o, rfl, hc⟩ := HC.out (by omega)
      have hc0 := hc i hlt
      have y0 := (HB.out.cell (World.block_lt_of_cell? w _ hc0)).trans hc0
      have hr := (HR.out i hlt).below HB.out
      obtain ⟨Ai, ci, hVi, _, _, _⟩ := hr
      have hrr := (HR.out i hlt).below HB.out
      obtain ⟨q, hq⟩ : ∃ q, (Z i).length = q := ⟨_, rfl⟩
      rw [hVi] at y0 hrr
      have HH := Lib.hid hrr.holds.2
      rw [hq] at y0
      have HQ := Lib.hid hq
      have hlen : m + q ≤ 140737488355000 := by
        have := join_at Z hlt
        rw [HM.out, hq] at this
        omega
      clear hc hc0 hrr hVi hq
      go_wp2_with (at_builtin; refine list_app2 rfl (.tmp 12) (.tmp 13) 27 rfl 5 0 _ 1 1 Try.underlying27 info5 rfl (by decide) (by decide) (.slice A m c) m _ rfl HO.out Ai q ci ((Z i).map byteC) rfl (by rw [List.length_map, HQ.out, Nat.mul_one]) HH.out one8 (by omega) (Nat.zero_le _) ?_; intro v9 w9 hown9 hwent9)
      obtain ⟨A9, c9, rfl, _⟩ := own_slice hown9
      have hb9 : Hid (Below w.heap.size w w9) := HB.out.trans (hwent9.kept.below (fun b hb => HF.out b hb) HB.out.size)
      have hf9 : Hid (Fresh w (.slice A9 (m + q) c9)) := fresh_went (w := w) (fun b hb => HF.out b hb) HB.out.size hwent9
      have ho9 : Hid (w9.ownsRow 0 5 1 (.slice A9 (m + q) c9) (m + q) ((joinZ Z (i + 1)).map byteC)) := by
        show w9.ownsRow 0 5 1 (.slice A9 (m + q) c9) (m + q) ((joinZ Z (i + 1)).map byteC)
        rw [joinZ, List.map_append]
        exact hown9
      have hm9 : Hid ((joinZ Z (i + 1)).length = m + q) := by
        show (joinZ Z (i + 1)).length = m + q
        rw [joinZ, List.length_append, HM.out, HQ.out]
      exact ⟨⟨i + 1, m + q, A9, c9, by omega, by simp, rfl, hm9, ho9, hb9, hf9⟩, by simp [intOf]; omega⟩
    · have : i = n := by omega
      subst this
      go_wp2_with fail
      go_ret
      rw [HM.out]
      exact ⟨A, c, rfl, (by have := HO.out; unfold OB; rw [HM.out]; exact this), HB.out, HF.out⟩
end Go.Proofs.Ytfpkdbogapmhmaa.O

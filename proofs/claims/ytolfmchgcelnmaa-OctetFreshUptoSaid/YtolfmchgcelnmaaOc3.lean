/- The document's Put; a word, a capability, rows behind one another. -/
import Derived.Test.YtolfmchgcelnmaaOc2
namespace Go.Proofs.Ytolfmchgcelnmaa.O
open Go.RowKit Go.Proofs.Ytolfmchgcelnmaa.Mem
theorem RB.keeps {w w' : World} {A : Option Addr} {n c : Nat} {zs : List Int} (h : RB w (.slice A n c) zs) (hb : Below w.heap.size w w') : Holds w' A (zs.map byteC) := (h.below hb).holds.2
theorem one8 {zs : List Int} : ∀ u ∈ zs.map byteC, u.oneCell' = true := fun u hu => by obtain ⟨_, _, rfl⟩ := List.mem_map.1 hu; rfl
set_option maxHeartbeats 4000000 in
set_option maxRecDepth 100000 in
theorem rput_any (w : World) (v : Value) (zs : List Int) (x : Int) (k : Nat) (h0 : 0 ≤ x) (h1 : x < 18446744073709551616) (hk : k ≤ 8) (hb : zs.length ≤ 140737488354000) (h : RB w v zs) :
    Calls Try.prog 18 #[v, .int .u64 x, .int .i64 k] w fun e w' => ∃ A c, e = .returned (.slice A (zs.length + k) c) ∧ OB w' (.slice A (zs.length + k) c) (zs ++ le k x) ∧ Below w.heap.size w w' ∧ Fresh w (.slice A (zs.length + k) c) := by
  obtain ⟨A, c, rfl, h2, h3, h4⟩ := h
  obtain ⟨n, hn⟩ : ∃ n, zs.length = n := ⟨_, rfl⟩
  have hR : RB w (.slice A n c) zs := ⟨A, c, by rw [hn], h2, h3, h4⟩
  have HS := Lib.hid hR.holds.2
  have HN := Lib.hid hn
  rw [hn] at hb ⊢
  clear hR h4 hn h2 h3
  go_enter Try.func18, Try.ntmps18
  go_wp2_with (at_builtin; refine list_app2 rfl (.tmp 9) (.tmp 10) 22 rfl 5 0 _ 1 1 Try.underlying22 info5 rfl (by decide) (by decide) (.slice none 0 0) 0 [] rfl (World.ownsRow_nil _ _ _ _) A n c (zs.map byteC) rfl (by rw [List.length_map, HN.out, Nat.mul_one]) HS.out one8 (by omega) (Nat.zero_le _) ?_; intro v1 w1 hown1 hwent1; obtain ⟨A1, c1, rfl, _⟩ := own_slice hown1; have HO1 := Lib.hid hown1; have HW1 := Lib.hid hwent1; clear hown1 hwent1)
  have HO : Hid (w1.ownsRow 0 5 1 (.slice A1 (0 + n) c1) (0 + n) ((zs ++ le 0 x).map byteC)) := by
    have := HO1.out
    show w1.ownsRow 0 5 1 (.slice A1 (0 + n) c1) (0 + n) ((zs ++ le 0 x).map byteC)
    simpa [le] using this
  have HF : Hid (Fresh w (.slice A1 (0 + n) c1)) := fresh_went (w := w) (fun b hb => by simp [Value.ownBlock] at hb) (Nat.le_refl _) HW1.out
  have HB : Hid (Below w.heap.size w w1) := HW1.out.kept.below (fun b hb => by simp [Value.ownBlock] at hb) (Nat.le_refl _)
  rw [Nat.zero_add] at HO HF
  have hx0 : x = x / 256 ^ 0 := by simp
  clear HO1 HW1 HS
  go_loopw [1, 7, 8] (fun v1' v7 v8 wr => ∃ (i : Nat) (A : Option Addr) (c : Nat) (y : Int), i ≤ k ∧ v8 = .int .i64 i ∧ v1' = .int .u64 y ∧ 0 ≤ y ∧ y < 18446744073709551616 ∧ v7 = .slice A (n + i) c ∧ Hid (y = x / 256 ^ i) ∧ Hid (wr.ownsRow 0 5 1 (.slice A (n + i) c) (n + i) ((zs ++ le i x).map byteC)) ∧ Hid (Below w.heap.size w wr) ∧ Hid (Fresh w (.slice A (n + i) c))) (fun _ _ v8 _ => k - (intOf v8).toNat)
  case atStart => exact ⟨0, A1, c1, x, Nat.zero_le _, rfl, rfl, h0, h1, rfl, hx0, HO, HB, HF⟩
  case round =>
    clear HO HB HF hx0
    obtain ⟨i, A, c, y, hi, rfl, rfl, hy0, hy1, rfl, HY, HO, HB, HF⟩ := hrel
    by_cases hlt : i < k
    · go_wp2_with (at_builtin; refine list_app2 rfl (.tmp 17) (.tmp 21) 22 rfl 5 0 _ 1 1 Try.underlying22 info5 rfl (by decide) (by decide) (.slice A (n + i) c) (n + i) _ rfl (own_keeps HO.out ((Kept.refl _ _).alloc _)) (some ⟨wr.heap.size, 0, none⟩) 1 1 [.int .u8 (y % 256)] rfl rfl (holds_new _ _ _ _ _ rfl) (by simp [Value.oneCell']) (by omega) (Nat.zero_le _) ?_; intro v9 w9 hown9 hwent9)
      obtain ⟨A9, c9, rfl, _⟩ := own_slice hown9
      obtain ⟨g1, g2⟩ := own_snoc (x := x) HB.out.size HF.out (by rw [HY.out]) hown9 hwent9
      have hb9 : Hid (Below w.heap.size w w9) := (HB.out.trans (((Below.refl _ wr).alloc (Nat.le_refl _) _).mono HB.out.size)).trans (hwent9.kept.below (fun b hb => HF.out b hb) (by simp; have := HB.out.size; omega))
      have hy2 : Hid (y / 256 = x / 256 ^ (i + 1)) := by
        show y / 256 = x / 256 ^ (i + 1)
        rw [HY.out, Int.pow_succ, Int.ediv_ediv_of_nonneg (by exact Int.le_of_lt (Int.pow_pos (by decide)))]
      exact ⟨⟨i + 1, A9, c9, y / 256, by omega, by simp, rfl, by omega, by omega, rfl, hy2, g1, hb9, g2⟩, by simp [intOf]; omega⟩
    · have : i = k := by omega
      subst this
      go_wp2_with fail
      go_ret
      exact ⟨A, c, rfl, (by have := HO.out; unfold OB; rw [List.length_append, le_len, HN.out]; exact this), HB.out, HF.out⟩
/-- A word lies in the box of a call. -/
def WS (W : World) (hi lo : Int) (w' : World) : Prop :=
  w'.cell? ⟨W.heap.size, 0, none⟩ = some (.int .u64 hi) ∧ w'.cell? ⟨W.heap.size, 1, none⟩ = some (.int .u64 lo) ∧ Below W.heap.size W w' ∧ W.heap.size < w'.heap.size
theorem WS.later {W : World} {hi lo : Int} {a b : World} (hb : Below a.heap.size a b) (h : WS W hi lo a) : WS W hi lo b := by
  obtain ⟨h1, h2, h3, h4⟩ := h
  exact ⟨(hb.cell h4).trans h1, (hb.cell h4).trans h2, h3.trans (hb.mono h3.size), Nat.lt_of_lt_of_le h4 hb.size⟩
def CS (W : World) (obj hi lo : Int) (w' : World) : Prop :=
  w'.cell? ⟨W.heap.size, 0, none⟩ = some (.int .i64 obj) ∧ w'.cell? ⟨W.heap.size, 1, none⟩ = some (.int .u64 hi) ∧ w'.cell? ⟨W.heap.size, 2, none⟩ = some (.int .u64 lo) ∧ Below W.heap.size W w' ∧ W.heap.size < w'.heap.size
theorem CS.later {W : World} {obj hi lo : Int} {a b : World} (hb : Below a.heap.size a b) (h : CS W obj hi lo a) : CS W obj hi lo b := by
  obtain ⟨h1, h2, h2', h3, h4⟩ := h
  exact ⟨(hb.cell h4).trans h1, (hb.cell h4).trans h2, (hb.cell h4).trans h2', h3.trans (hb.mono h3.size), Nat.lt_of_lt_of_le h4 hb.size⟩
def U64 (x : Int) : Prop := 0 ≤ x ∧ x < 18446744073709551616
def wordB (hi lo : Int) : List Int := le 8 lo ++ le 8 hi
def capB (obj hi lo : Int) : List Int := le 8 obj ++ wordB hi lo
set_option maxHeartbeats 4000000 in
set_option maxRecDepth 100000 in
theorem word_any (w : World) (v : Value) (zs : List Int) (hi lo : Int) (hh : U64 hi) (hl : U64 lo) (hb : zs.length ≤ 140737488353000) (h : RB w v zs) :
    Calls Try.prog 13 #[v, .agg #[.int .u64 hi, .int .u64 lo]] w fun e w' => ∃ A c, e = .returned (.slice A (zs.length + 16) c) ∧ OB w' (.slice A (zs.length + 16) c) (zs ++ wordB hi lo) ∧ Below w.heap.size w w' ∧ Fresh w (.slice A (zs.length + 16) c) := by
  have PA : Hid (∀ w' (v : Value) (zs : List Int) (x : Int), U64 x → zs.length ≤ 140737488354000 → RB w' v zs → Calls Try.prog 12 #[v, .int .u64 x] w' fun e w'' => ∃ A c, e = .returned (.slice A (zs.length + 8) c) ∧ OB w'' (.slice A (zs.length + 8) c) (zs ++ le 8 x) ∧ Below w'.heap.size w' w'' ∧ Fresh w' (.slice A (zs.length + 8) c)) := fun w' v zs x h hb hr => put8_any w' v zs x h.1 h.2 hb hr
  obtain ⟨n, hn⟩ : ∃ n, zs.length = n := ⟨_, rfl⟩
  have P1 : Hid (∀ a, Below w.heap.size w a → Calls Try.prog 12 #[v, .int .u64 lo] a fun e w'' => ∃ A c, e = .returned (.slice A (n + 8) c) ∧ OB w'' (.slice A (n + 8) c) (zs ++ le 8 lo) ∧ Below a.heap.size a w'') := fun a ha => by
    refine (PA.out a v zs lo hl (by omega) (h.below ha)).mono ?_
    rw [hn]
    rintro e w' ⟨A, c, h1, h2, h3, _⟩
    exact ⟨A, c, h1, h2, h3⟩
  have P2 : Hid (∀ a A c, OB a (.slice A (n + 8) c) (zs ++ le 8 lo) → w.heap.size ≤ a.heap.size → Calls Try.prog 12 #[.slice A (n + 8) c, .int .u64 hi] a fun e w'' => ∃ A' c', e = .returned (.slice A' (n + 16) c') ∧ OB w'' (.slice A' (n + 16) c') (zs ++ wordB hi lo) ∧ Below a.heap.size a w'' ∧ Fresh w (.slice A' (n + 16) c')) := fun a A c ha hs => by
    have hlen : (zs ++ le 8 lo).length = n + 8 := by rw [List.length_append, le_len, hn]
    refine (PA.out a _ (zs ++ le 8 lo) hi hh (by rw [hlen]; omega) ha.reads).mono ?_
    rw [hlen, List.append_assoc]
    rintro e w' ⟨A', c', h1, h2, h3, h4⟩
    exact ⟨A', c', h1, h2, h3, fun b hb => Nat.le_trans hs (h4 b hb)⟩
  rw [hn]
  have hbx := (Below.refl w.heap.size w).alloc (Nat.le_refl _) (.cells #[.int .u64 hi, .int .u64 lo] 25)
  have ST : Hid (WS w hi lo (w.alloc (.cells #[.int .u64 hi, .int .u64 lo] 25)).drew) := ⟨by simp, by simp, hbx.drew, by simp⟩
  have KEEP : Hid (∀ a b, Below a.heap.size a b → WS w hi lo a → WS w hi lo b) := fun a b hb h => h.later hb
  clear h hn hbx PA
  go_enter Try.func13, Try.ntmps13
  go_wp2_with fail
  go_region_held3 (fun w' => w'.cell? ⟨w.heap.size, 0, none⟩ = some (.int .u64 hi) ∧ w'.cell? ⟨w.heap.size, 1, none⟩ = some (.int .u64 lo) ∧ Below w.heap.size w w' ∧ w.heap.size < w'.heap.size)
    (first | exact ST.out | (refine KEEP.out _ _ (by with_reducible assumption) ?_; go_split_ands; exact ⟨by with_reducible assumption, by with_reducible assumption, by with_reducible assumption, by with_reducible assumption⟩) | go_keep)
    (first | (go_at_call 12; (with_reducible refine (P1.out _ ?_).mono ?_); (go_split_ands; with_reducible assumption); rintro e w1 ⟨A1, c1, rfl, o1, hb1⟩) | (go_at_call 12; (with_reducible refine (P2.out _ _ _ (by with_reducible assumption) ?_).mono ?_); (go_split_ands; omega); rintro e w2 ⟨A2, c2, rfl, o2, hb2, f2⟩) | fail)
  all_goals (go_wp2; go_split_ands; go_ret; exact ⟨_, _, rfl, by with_reducible assumption, by with_reducible assumption, by with_reducible assumption⟩)
set_option maxHeartbeats 4000000 in
set_option maxRecDepth 100000 in
theorem rword_any (w : World) (v : Value) (zs : List Int) (hi lo : Int) (hh : U64 hi) (hl : U64 lo) (hb : zs.length ≤ 140737488353000) (h : RB w v zs) :
    Calls Try.prog 19 #[v, .agg #[.int .u64 hi, .int .u64 lo]] w fun e w' => ∃ A c, e = .returned (.slice A (zs.length + 16) c) ∧ OB w' (.slice A (zs.length + 16) c) (zs ++ wordB hi lo) ∧ Below w.heap.size w w' ∧ Fresh w (.slice A (zs.length + 16) c) := by
  have PA : Hid (∀ w' (v : Value) (zs : List Int) (x : Int), U64 x → zs.length ≤ 140737488354000 → RB w' v zs → Calls Try.prog 18 #[v, .int .u64 x, .int .i64 8] w' fun e w'' => ∃ A c, e = .returned (.slice A (zs.length + 8) c) ∧ OB w'' (.slice A (zs.length + 8) c) (zs ++ le 8 x) ∧ Below w'.heap.size w' w'' ∧ Fresh w' (.slice A (zs.length + 8) c)) := fun w' v zs x h hb hr => rput_any w' v zs x 8 h.1 h.2 (by decide) hb hr
  obtain ⟨n, hn⟩ : ∃ n, zs.length = n := ⟨_, rfl⟩
  have P1 : Hid (∀ a, Below w.heap.size w a → Calls Try.prog 18 #[v, .int .u64 lo, .int .i64 8] a fun e w'' => ∃ A c, e = .returned (.slice A (n + 8) c) ∧ OB w'' (.slice A (n + 8) c) (zs ++ le 8 lo) ∧ Below a.heap.size a w'') := fun a ha => by
    refine (PA.out a v zs lo hl (by omega) (h.below ha)).mono ?_
    rw [hn]
    rintro e w' ⟨A, c, h1, h2, h3, _⟩
    exact ⟨A, c, h1, h2, h3⟩
  have P2 : Hid (∀ a A c, OB a (.slice A (n + 8) c) (zs ++ le 8 lo) → w.heap.size ≤ a.heap.size → Calls Try.prog 18 #[.slice A (n + 8) c, .int .u64 hi, .int .i64 8] a fun e w'' => ∃ A' c', e = .returned (.slice A' (n + 16) c') ∧ OB w'' (.slice A' (n + 16) c') (zs ++ wordB hi lo) ∧ Below a.heap.size a w'' ∧ Fresh w (.slice A' (n + 16) c')) := fun a A c ha hs => by
    have hlen : (zs ++ le 8 lo).length = n + 8 := by rw [List.length_append, le_len, hn]
    refine (PA.out a _ (zs ++ le 8 lo) hi hh (by rw [hlen]; omega) ha.reads).mono ?_
    rw [hlen, List.append_assoc]
    rintro e w' ⟨A', c', h1, h2, h3, h4⟩
    exact ⟨A', c', h1, h2, h3, fun b hb => Nat.le_trans hs (h4 b hb)⟩
  rw [hn]
  have hbx := (Below.refl w.heap.size w).alloc (Nat.le_refl _) (.cells #[.int .u64 hi, .int .u64 lo] 25)
  have ST : Hid (WS w hi lo (w.alloc (.cells #[.int .u64 hi, .int .u64 lo] 25)).drew) := ⟨by simp, by simp, hbx.drew, by simp⟩
  have KEEP : Hid (∀ a b, Below a.heap.size a b → WS w hi lo a → WS w hi lo b) := fun a b hb h => h.later hb
  clear h hn hbx PA
  go_enter Try.func19, Try.ntmps19
  go_wp2_with fail
  go_region_held3 (fun w' => w'.cell? ⟨w.heap.size, 0, none⟩ = some (.int .u64 hi) ∧ w'.cell? ⟨w.heap.size, 1, none⟩ = some (.int .u64 lo) ∧ Below w.heap.size w w' ∧ w.heap.size < w'.heap.size)
    (first | exact ST.out | (refine KEEP.out _ _ (by with_reducible assumption) ?_; go_split_ands; exact ⟨by with_reducible assumption, by with_reducible assumption, by with_reducible assumption, by with_reducible assumption⟩) | go_keep)
    (first | (go_at_call 18; (with_reducible refine (P1.out _ ?_).mono ?_); (go_split_ands; with_reducible assumption); rintro e w1 ⟨A1, c1, rfl, o1, hb1⟩) | (go_at_call 18; (with_reducible refine (P2.out _ _ _ (by with_reducible assumption) ?_).mono ?_); (go_split_ands; omega); rintro e w2 ⟨A2, c2, rfl, o2, hb2, f2⟩) | fail)
  all_goals (go_wp2; go_split_ands; go_ret; exact ⟨_, _, rfl, by with_reducible assumption, by with_reducible assumption, by with_reducible assumption⟩)
end Go.Proofs.Ytolfmchgcelnmaa.O

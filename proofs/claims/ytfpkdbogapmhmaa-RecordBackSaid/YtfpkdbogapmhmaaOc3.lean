/- The document's Put; a word, a capability, rows behind one another. -/
import Derived.Test.YtfpkdbogapmhmaaOc2
namespace Go.Proofs.Ytfpkdbogapmhmaa.O
open Go.RowKit Go.Proofs.Ytfpkdbogapmhmaa.Mem
theorem RB.keeps {w w' : World} {A : Option Addr} {n c : Nat} {zs : List Int} (h : RB w (.slice A n c) zs) (hb : Below w.heap.size w w') : Holds w' A (zs.map byteC) := (h.below hb).holds.2
theorem one8 {zs : List Int} : ∀ u ∈ zs.map byteC, u.oneCell' = true := fun u hu => by obtain ⟨_, _, rfl⟩ := List.mem_map.1 hu; rfl
/-- A word lies in the box of a call. -/
def WS (W : World) (hi lo : Int) (w' : World) : Prop :=
  w'.cell? ⟨W.heap.size, 0, none⟩ = some (.int .u64 hi) ∧ w'.cell? ⟨W.heap.size, 1, none⟩ = some (.int .u64 lo) ∧ Below W.heap.size W w' ∧ W.heap.size < w'.heap.size
theorem WS.later {W : World} {hi lo : Int} {a b : World} (hb : Below a.heap.size a b) (h : WS W hi lo a) : WS W hi lo b := by
  obtain ⟨h1, h2, h3, h4⟩ := h
  exact ⟨(hb.cell h4).trans h1, (hb.cell h4).trans h2, h3.trans (hb.mono h3.size), Nat.lt_of_lt_of_le h4 hb.size⟩
def CS (W : World) (obj hi lo : Int) (w' : World) : Prop :=
  w'.cell? ⟨W.heap.size, 0, none⟩ = some (.int .i64 obj) ∧ w'.cell? ⟨W.heap.size, 1, none⟩ = some (.int .u64 hi) ∧ w'.cell? ⟨W.heap.size, 2, none⟩ = some (.int .u64 lo) ∧ Below W.heap.size W w' ∧ W.heap.size < w'.heap.size
theorem CS.later {W : World} {obj hi lo : Int} {a b : World} (hb : Below a.heap.size a b) (h : CS W obj hi lo a) : CS W obj hi lo b := by
  obtain ⟨h1, h2, h2', h3, h4⟩ := h
  exact ⟨(hb.cell h4).trans h1, (hb.cell h4).trans h2, (hb.cell h4).trans h2', h3.trans (hb.mono h3.size), Nat.lt_of_lt_of_le h4 hb.size⟩
def U64 (x : Int) : Prop := 0 ≤ x ∧ x < 18446744073709551616
def wordB (hi lo : Int) : List Int := le 8 lo ++ le 8 hi
def capB (obj hi lo : Int) : List Int := le 8 obj ++ wordB hi lo
set_option maxHeartbeats 4000000 in
set_option maxRecDepth 100000 in
theorem word_any (w : World) (v : Value) (zs : List Int) (hi lo : Int) (hh : U64 hi) (hl : U64 lo) (hb : zs.length ≤ 140737488353000) (h : RB w v zs) :
    Calls Try.prog 56 #[v, .agg #[.int .u64 hi, .int .u64 lo]] w fun e w' => ∃ A c, e = .returned (.slice A (zs.length + 16) c) ∧ OB w' (.slice A (zs.length + 16) c) (zs ++ wordB hi lo) ∧ Below w.heap.size w w' ∧ Fresh w (.slice A (zs.length + 16) c) := by
  have PA : Hid (∀ w' (v : Value) (zs : List Int) (x : Int), U64 x → zs.length ≤ 140737488354000 → RB w' v zs → Calls Try.prog 55 #[v, .int .u64 x] w' fun e w'' => ∃ A c, e = .returned (.slice A (zs.length + 8) c) ∧ OB w'' (.slice A (zs.length + 8) c) (zs ++ le 8 x) ∧ Below w'.heap.size w' w'' ∧ Fresh w' (.slice A (zs.length + 8) c)) := fun w' v zs x h hb hr => put8_any w' v zs x h.1 h.2 hb hr
  obtain ⟨n, hn⟩ : ∃ n, zs.length = n := ⟨_, rfl⟩
  have P1 : Hid (∀ a, Below w.heap.size w a → Calls Try.prog 55 #[v, .int .u64 lo] a fun e w'' => ∃ A c, e = .returned (.slice A (n + 8) c) ∧ OB w'' (.slice A (n + 8) c) (zs ++ le 8 lo) ∧ Below a.heap.size a w'') := fun a ha => by
    refine (PA.out a v zs lo hl (by omega) (h.below ha)).mono ?_
    rw [hn]
    rintro e w' ⟨A, c, h1, h2, h3, _⟩
    exact ⟨A, c, h1, h2, h3⟩
  have P2 : Hid (∀ a A c, OB a (.slice A (n + 8) c) (zs ++ le 8 lo) → w.heap.size ≤ a.heap.size → Calls Try.prog 55 #[.slice A (n + 8) c, .int .u64 hi] a fun e w'' => ∃ A' c', e = .returned (.slice A' (n + 16) c') ∧ OB w'' (.slice A' (n + 16) c') (zs ++ wordB hi lo) ∧ Below a.heap.size a w'' ∧ Fresh w (.slice A' (n + 16) c')) := fun a A c ha hs => by
    have hlen : (zs ++ le 8 lo).length = n + 8 := by rw [List.length_append, le_len, hn]
    refine (PA.out a _ (zs ++ le 8 lo) hi hh (by rw [hlen]; omega) ha.reads).mono ?_
    rw [hlen, List.append_assoc]
    rintro e w' ⟨A', c', h1, h2, h3, h4⟩
    exact ⟨A', c', h1, h2, h3, fun b hb => Nat.le_trans hs (h4 b hb)⟩
  rw [hn]
  have hbx := (Below.refl w.heap.size w).alloc (Nat.le_refl _) (.cells #[.int .u64 hi, .int .u64 lo] 24)
  have ST : Hid (WS w hi lo (w.alloc (.cells #[.int .u64 hi, .int .u64 lo] 24)).drew) := ⟨by simp, by simp, hbx.drew, by simp⟩
  have KEEP : Hid (∀ a b, Below a.heap.size a b → WS w hi lo a → WS w hi lo b) := fun a b hb h => h.later hb
  clear h hn hbx PA
  go_enter Try.func56, Try.ntmps56
  go_wp2_with fail
  go_region_held3 (fun w' => w'.cell? ⟨w.heap.size, 0, none⟩ = some (.int .u64 hi) ∧ w'.cell? ⟨w.heap.size, 1, none⟩ = some (.int .u64 lo) ∧ Below w.heap.size w w' ∧ w.heap.size < w'.heap.size)
    (first | exact ST.out | (refine KEEP.out _ _ (by with_reducible assumption) ?_; go_split_ands; exact ⟨by with_reducible assumption, by with_reducible assumption, by with_reducible assumption, by with_reducible assumption⟩) | go_keep)
    (first | (go_at_call 55; (with_reducible refine (P1.out _ ?_).mono ?_); (go_split_ands; with_reducible assumption); rintro e w1 ⟨A1, c1, rfl, o1, hb1⟩) | (go_at_call 55; (with_reducible refine (P2.out _ _ _ (by with_reducible assumption) ?_).mono ?_); (go_split_ands; omega); rintro e w2 ⟨A2, c2, rfl, o2, hb2, f2⟩) | fail)
  all_goals (go_wp2; go_split_ands; go_ret; exact ⟨_, _, rfl, by with_reducible assumption, by with_reducible assumption, by with_reducible assumption⟩)
end Go.Proofs.Ytfpkdbogapmhmaa.O

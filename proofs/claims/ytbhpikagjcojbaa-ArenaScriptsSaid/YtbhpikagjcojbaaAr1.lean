/- The arena: where it lies, and the calls that only tell. -/
import Derived.Test.YtbhpikagjcojbaaChecked
import Derived.Test.YtbhpikagjcojbaaRows2
import Derived.IntWalk
import Derived.Lib.Hide
namespace Go.Proofs.Ytbhpikagjcojbaa.Ar
open Go.RowKit Go.Proofs.Ytbhpikagjcojbaa.Mem
theorem info59 : (Try.prog.info? 59).map (fun i => (i.size, i.bytes)) = some (64, 64) := by kernel_rfl
theorem info4 : (Try.prog.info? 4).map (fun i => (i.zero, i.size, i.bytes)) = some (some (.bool false), 1, 1) := by kernel_rfl
theorem info3 : (Try.prog.info? 3).map (fun i => (i.zero, i.size, i.bytes)) = some (some (.int .i64 0), 1, 8) := by kernel_rfl
theorem info5 : (Try.prog.info? 5).map (fun i => (i.zero, i.size, i.bytes)) = some (some (.int .u8 0), 1, 1) := by kernel_rfl
def byteC (b : Int) : Value := .int .u8 b
/-- The arena at p: its pages' bytes in block a, what is taken in block t. -/
structure At (w : World) (p a t n : Nat) (on : List Bool) (bs : List Int) : Prop where
  row : w.heap[p]? = some (.cells #[.slice (some ⟨a, 0, none⟩) n n, .slice (some ⟨t, 0, none⟩) n n] 57 (0, 0))
  pages : w.heap[a]? = some (.cells (bs.map byteC).toArray 59 (0, 0))
  taken : w.heap[t]? = some (.cells (on.map Value.bool).toArray 4 (0, 0))
  len : on.length = n
  size : bs.length = n * 64
  far : p ≠ a ∧ p ≠ t ∧ a ≠ t
  few : n ≤ 256
section
variable {w w' : World} {p a t n : Nat} {on : List Bool} {bs : List Int}
theorem At.kept {S : Nat → Prop} (h : At w p a t n on bs) (hk : Kept S w w') (hp : ¬ S p) (ha : ¬ S a) (ht : ¬ S t) : At w' p a t n on bs :=
  ⟨hk.row h.row hp, hk.row h.pages ha, hk.row h.taken ht, h.len, h.size, h.far, h.few⟩
theorem At.below (h : At w p a t n on bs) (hb : Below w.heap.size w w') : At w' p a t n on bs := h.kept (S := fun _ => False) (Kept.of_below hb) (fun h => h) (fun h => h) (fun h => h)
theorem At.cells (h : At w p a t n on bs) : w.cell? ⟨p, 0, none⟩ = some (.slice (some ⟨a, 0, none⟩) n n) ∧ w.cell? ⟨p, 1, none⟩ = some (.slice (some ⟨t, 0, none⟩) n n) ∧ (∀ (j : Nat) b, on[j]? = some b → w.cell? ⟨t, j, none⟩ = some (.bool b)) ∧ (∀ (j : Nat) b, bs[j]? = some b → w.cell? ⟨a, j, none⟩ = some (.int .u8 b)) ∧ p < w.heap.size ∧ a < w.heap.size ∧ t < w.heap.size :=
  ⟨cell_row h.row rfl, cell_row h.row rfl, fun j b hb => cell_row h.taken (by simp [hb]), fun j b hb => cell_row h.pages (by simp [hb, byteC]), lt_of_row h.row, lt_of_row h.pages, lt_of_row h.taken⟩
end
def isB (on : List Bool) (i : Int) : Bool := decide (0 ≤ i) && decide (i < (on.length : Int)) && on.getD i.toNat false
set_option maxHeartbeats 1000000 in
theorem is_any (w : World) (p a t n : Nat) (on : List Bool) (bs : List Int) (i : Int) (h : At w p a t n on bs) :
    Calls Try.prog 33 #[.pointer (some ⟨p, 0, none⟩), .int .i64 i] w fun e w' => e = .returned (.bool (isB on i)) ∧ w = w' := by
  obtain ⟨c0, c1, ct, _, hp, _, _⟩ := h.cells
  have hn := h.len
  have HS := Lib.hid h
  clear h
  unfold isB
  by_cases h0 : 0 ≤ i
  · by_cases h1 : i < (n : Int)
    · obtain ⟨j, rfl⟩ : ∃ j : Nat, i = (j : Int) := ⟨i.toNat, by omega⟩
      have hjn : j < n := by omega
      obtain ⟨b, hb⟩ : ∃ b, on[j]? = some b := ⟨_, List.getElem?_eq_getElem (by omega)⟩
      have k0 := ct j b hb
      have e : on.getD (j : Int).toNat false = b := by rw [List.getD_eq_getElem?_getD, Int.toNat_natCast, hb]; rfl
      rw [e, hn]
      clear hb ct e
      go_enter Try.func33, Try.ntmps33
      go_wp2
      all_goals (go_ret; refine ⟨ret_bool rfl (by simp; try omega), rfl⟩)
    · rw [hn]
      clear ct
      go_enter Try.func33, Try.ntmps33
      go_wp2
      all_goals (go_ret; refine ⟨ret_bool rfl (by simp; try omega), rfl⟩)
  · clear ct
    go_enter Try.func33, Try.ntmps33
    go_wp2
    all_goals (go_ret; refine ⟨ret_bool rfl (by simp; try omega), rfl⟩)
def placeE (on : List Bool) (p off n : Int) : Int := if isB on p then (if off < 0 ∨ n < 0 ∨ 64 < n ∨ 64 - n < off then 5 else 0) else 20
set_option maxHeartbeats 1000000 in
theorem place_any (w : World) (p a t n : Nat) (on : List Bool) (bs : List Int) (i off k : Int) (h : At w p a t n on bs) :
    Calls Try.prog 24 #[.pointer (some ⟨p, 0, none⟩), .int .i64 i, .int .i64 off, .int .i64 k] w fun e w' => e = .returned (.int .i64 (placeE on i off k)) ∧ w = w' := by
  have HI := Lib.hid (is_any w p a t n on bs i h)
  clear h
  unfold placeE
  obtain ⟨b, hb⟩ : ∃ b, isB on i = b := ⟨_, rfl⟩
  rw [hb] at HI ⊢
  clear hb
  cases b
  · rw [if_neg (by decide)]
    go_enter Try.func24, Try.ntmps24
    go_wp2_with (go_at_call 33; (with_reducible refine HI.out.mono ?_); rintro e w1 ⟨rfl, rfl⟩)
    go_ret
    exact ⟨rfl, rfl⟩
  · rw [if_pos rfl]
    by_cases h0 : off < 0
    · rw [if_pos (.inl h0)]
      go_enter Try.func24, Try.ntmps24
      go_wp2_with (go_at_call 33; (with_reducible refine HI.out.mono ?_); rintro e w1 ⟨rfl, rfl⟩)
      go_ret
      exact ⟨rfl, rfl⟩
    · by_cases h1 : k < 0
      · rw [if_pos (.inr (.inl h1))]
        go_enter Try.func24, Try.ntmps24
        go_wp2_with (go_at_call 33; (with_reducible refine HI.out.mono ?_); rintro e w1 ⟨rfl, rfl⟩)
        go_ret
        exact ⟨rfl, rfl⟩
      · by_cases h2 : 64 < k
        · rw [if_pos (.inr (.inr (.inl h2)))]
          go_enter Try.func24, Try.ntmps24
          go_wp2_with (go_at_call 33; (with_reducible refine HI.out.mono ?_); rintro e w1 ⟨rfl, rfl⟩)
          go_ret
          exact ⟨rfl, rfl⟩
        · by_cases h3 : 64 - k < off
          · rw [if_pos (.inr (.inr (.inr h3)))]
            go_enter Try.func24, Try.ntmps24
            go_wp2_with (go_at_call 33; (with_reducible refine HI.out.mono ?_); rintro e w1 ⟨rfl, rfl⟩)
            go_ret
            exact ⟨rfl, rfl⟩
          · rw [if_neg (by omega)]
            go_enter Try.func24, Try.ntmps24
            go_wp2_with (go_at_call 33; (with_reducible refine HI.out.mono ?_); rintro e w1 ⟨rfl, rfl⟩)
            go_ret
            exact ⟨rfl, rfl⟩

/-- The numbers of the taken pages, up to k. -/
def tk (on : List Bool) : Nat → List Int
  | 0 => []
  | k + 1 => if on.getD k false then tk on k ++ [(k : Int)] else tk on k
theorem tk_len (on : List Bool) (k : Nat) : (tk on k).length ≤ k := by
  induction k with
  | zero => simp [tk]
  | succ k ih =>
    unfold tk
    split
    · simp; omega
    · omega
def Fresh (w : World) (v : Value) : Prop := ∀ k, v.ownBlock = some k → w.heap.size ≤ k
set_option maxHeartbeats 1000000 in
theorem taken_any (w : World) (p a t n : Nat) (on : List Bool) (bs : List Int) (h : At w p a t n on bs) :
    Calls Try.prog 11 #[.pointer (some ⟨p, 0, none⟩)] w fun e w' => ∃ A c, e = .returned (.slice A (tk on n).length c) ∧ w'.ownsRow 0 3 1 (.slice A (tk on n).length c) (tk on n).length ((tk on n).map (Value.int .i64)) ∧ Below w.heap.size w w' ∧ Fresh w (.slice A (tk on n).length c) := by
  obtain ⟨c0, c1, ct, _, hp, _, htl⟩ := h.cells
  have hn := h.len
  have hfew := h.few
  have HT := Lib.hid ct
  have HN := Lib.hid hn
  have htl' := Lib.hid htl
  clear h ct hn
  go_enter Try.func11, Try.ntmps11
  go_wp2
  go_loopw [3, 11] (fun v3 v11 wr => ∃ (j : Nat) (A : Option Addr) (c : Nat), j ≤ n ∧ v11 = .int .i64 j ∧ v3 = .slice A (tk on j).length c ∧ Hid (wr.ownsRow 0 3 1 (.slice A (tk on j).length c) (tk on j).length ((tk on j).map (Value.int .i64))) ∧ Hid (Below w.heap.size w wr) ∧ Hid (Fresh w (.slice A (tk on j).length c))) (fun _ v11 _ => n - (intOf v11).toNat)
  case atStart => exact ⟨0, none, 0, Nat.zero_le _, rfl, rfl, World.ownsRow_nil _ _ _ _, Below.refl _ _, fun k hk => by simp [Value.ownBlock] at hk⟩
  case round =>
    obtain ⟨j, A, c, hj, rfl, rfl, HO, HB, HF⟩ := hrel
    by_cases hlt : j < n
    · obtain ⟨b, hb⟩ : ∃ b, on[j]? = some b := ⟨_, List.getElem?_eq_getElem (by rw [HN.out]; exact hlt)⟩
      have k0 := (HB.out.cell (World.block_lt_of_cell? w _ (HT.out j b hb))).trans (HT.out j b hb)
      have hg : on.getD j false = b := by rw [List.getD_eq_getElem?_getD, hb]; rfl
      have hlen := tk_len on j
      clear hb
      cases b
      · have e : tk on (j + 1) = tk on j := by rw [tk, hg]; rfl
        have HE := Lib.hid e
        clear e hg
        go_wp2
        refine ⟨⟨j + 1, A, c, by omega, by simp, by rw [HE.out], ?_, HB, ?_⟩, by simp [intOf]; omega⟩
        · rw [HE.out]; exact HO
        · rw [HE.out]; exact HF
      · have e : tk on (j + 1) = tk on j ++ [(j : Int)] := by rw [tk, hg]; rfl
        have HE := Lib.hid e
        clear e hg
        obtain ⟨m, hm⟩ : ∃ m, (tk on j).length = m := ⟨_, rfl⟩
        have HM := Lib.hid hm
        rw [hm] at HO HF hlen ⊢
        clear hm
        go_wp2_with (at_builtin; refine list_app2 rfl (.tmp 17) (.tmp 19) 29 rfl 3 0 _ 1 8 Try.underlying29 info3 rfl (by decide) (by decide) (.slice A m c) m _ rfl (own_keeps HO.out ((Kept.refl _ _).alloc _)) (some ⟨wr.heap.size, 0, none⟩) 1 1 [.int .i64 j] rfl rfl (holds_new _ _ _ _ _ rfl) (by simp [Value.oneCell']) (by omega) (Nat.zero_le _) ?_; intro v9 w9 hown9 hwent9)
        obtain ⟨A9, c9, rfl, _⟩ := own_slice hown9
        have hlen2 : (tk on (j + 1)).length = m + 1 := by rw [HE.out]; simp [HM.out]
        refine ⟨⟨j + 1, A9, c9, by omega, by simp, by rw [hlen2], ?_, ?_, ?_⟩, by simp [intOf]; omega⟩
        · rw [hlen2, HE.out]
          show World.ownsRow _ _ _ _ _ _ _
          simpa using hown9
        · exact (HB.out.trans (((Below.refl _ wr).alloc (Nat.le_refl _) _).mono HB.out.size)).trans (hwent9.kept.below (fun k hk => HF.out k hk) (Nat.le_trans HB.out.size (by simp)))
        · rw [hlen2]
          intro k hk
          rcases hwent9.block with h | h
          · exact HF.out k (h ▸ hk)
          · have h1 := Option.some.inj (h.symm.trans hk)
            have h2 := HB.out.size
            simp at h1
            omega
    · have : j = n := by omega
      subst this
      go_wp2
      go_ret
      exact ⟨A, c, rfl, HO.out, HB.out, HF.out⟩
def freeN (on : List Bool) (n : Nat) : Int := (n : Int) - (tk on n).length
set_option maxHeartbeats 1000000 in
theorem free_any (w : World) (p a t n : Nat) (on : List Bool) (bs : List Int) (h : At w p a t n on bs) :
    Calls Try.prog 20 #[.pointer (some ⟨p, 0, none⟩)] w fun e w' => e = .returned (.int .i64 (freeN on n)) ∧ Below w.heap.size w w' := by
  obtain ⟨c0, c1, _, _, hp, _, _⟩ := h.cells
  have hfew := h.few
  have hlen := tk_len on n
  have HS := Lib.hid h
  have st : (fun w' => w'.cell? ⟨p, 1, none⟩ = some (.slice (some ⟨t, 0, none⟩) n n) ∧ Below w.heap.size w w') w.drew := ⟨c1, (Below.refl _ _).drew⟩
  have keep : ∀ (x y : World), Below x.heap.size x y → (x.cell? ⟨p, 1, none⟩ = some (.slice (some ⟨t, 0, none⟩) n n) ∧ Below w.heap.size w x) → (y.cell? ⟨p, 1, none⟩ = some (.slice (some ⟨t, 0, none⟩) n n) ∧ Below w.heap.size w y) := fun x y hb ⟨h1, h2⟩ => ⟨(hb.cell (World.block_lt_of_cell? x _ h1)).trans h1, h2.trans (hb.mono h2.size)⟩
  have KEEP := Lib.hid keep
  have ST := Lib.hid st
  clear h keep st
  unfold freeN
  obtain ⟨m, hm⟩ : ∃ m, (tk on n).length = m := ⟨_, rfl⟩
  have HM := Lib.hid hm
  rw [hm] at hlen ⊢
  have HTK : Hid (∀ w', Below w.heap.size w w' → Calls Try.prog 11 #[.pointer (some ⟨p, 0, none⟩)] w' fun e w2 => ∃ A c, e = .returned (.slice A m c) ∧ Below w'.heap.size w' w2) := fun w' hb => by
    refine (taken_any w' p a t n on bs (HS.out.below hb)).mono ?_
    rintro e w2 ⟨A, c, h1, _, h2, _⟩
    rw [HM.out] at h1
    exact ⟨A, c, h1, h2⟩
  clear hm
  go_enter Try.func20, Try.ntmps20
  go_wp2_with fail
  go_region_held3 (fun w' => w'.cell? ⟨p, 1, none⟩ = some (.slice (some ⟨t, 0, none⟩) n n) ∧ Below w.heap.size w w')
    (first | exact ST.out | (refine KEEP.out _ _ (by with_reducible assumption) ?_; go_split_ands; exact ⟨by with_reducible assumption, by with_reducible assumption⟩) | go_keep)
    (first | (go_at_call 11; (refine (HTK.out _ ?_).mono ?_); (go_split_ands; with_reducible assumption); rintro e w1 ⟨A, c, rfl, hb1⟩) | fail)
  all_goals (go_wp2; go_split_ands; go_ret; exact ⟨ret_num rfl (IntWalk.i64_in _ (by omega)).symm, by with_reducible assumption⟩)
end Go.Proofs.Ytbhpikagjcojbaa.Ar

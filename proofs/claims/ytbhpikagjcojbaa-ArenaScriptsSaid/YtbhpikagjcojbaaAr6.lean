/- The arena: Take. -/
import Derived.Test.YtbhpikagjcojbaaAr5
namespace Go.Proofs.Ytbhpikagjcojbaa.Ar
open Go.RowKit Go.Proofs.Ytbhpikagjcojbaa.Mem
/-- What a walk over the pages has done: the numbers given out, which pages are taken, all bytes. -/
structure Run where
  out : List Int
  on : List Bool
  bs : List Int
def tstep (m : Nat) (s : Run) (p : Nat) : Run := if s.out.length = m then s else if s.on.getD p false then s else ⟨s.out ++ [(p : Int)], s.on.set p true, laid s.bs (p * 64) zeros⟩
def trun (m : Nat) (on : List Bool) (bs : List Int) : Nat → Run
  | 0 => ⟨[], on, bs⟩
  | k + 1 => tstep m (trun m on bs k) k
theorem trun_len (m : Nat) (on : List Bool) (bs : List Int) (k : Nat) : (trun m on bs k).out.length ≤ k := by
  induction k with
  | zero => simp [trun]
  | succ k ih =>
    unfold trun tstep
    split
    · omega
    · split
      · omega
      · simp; omega
theorem trun_stop {m : Nat} {on : List Bool} {bs : List Int} {k : Nat} (h : (trun m on bs k).out.length = m) : ∀ d, trun m on bs (k + d) = trun m on bs k
  | 0 => rfl
  | d + 1 => by
    have ih := trun_stop h d
    show tstep m (trun m on bs (k + d)) (k + d) = _
    rw [ih, tstep, if_pos h]
section
variable {w w' : World} {p a t n : Nat} {on : List Bool} {bs : List Int}
theorem At.cleared (h : At w p a t n on bs) {j : Nat} (hj : j < n) (hrow : w'.heap[a]? = some (.cells ((bs.map byteC).toArray.toList.take (j * 64) ++ List.replicate 64 (byteC 0) ++ (bs.map byteC).toArray.toList.drop (j * 64 + 64)).toArray 59 (0, 0))) (hg : w.grownBy w' (some a)) : At w' p a t n on (laid bs (j * 64) zeros) := by
  have hk9 : Kept (fun b => b = a) w w' := (Kept.refl (fun b => b = a) w).grown hg (fun b hb => .inl (Option.some.inj hb).symm)
  have hz : zeros.length = 64 := by simp [zeros]
  refine ⟨hk9.row h.row h.far.1, ?_, hk9.row h.taken (fun e => h.far.2.2 e.symm), h.len, ?_, h.far, h.few⟩
  · have e : (laid bs (j * 64) zeros).map byteC = (bs.map byteC).toArray.toList.take (j * 64) ++ List.replicate 64 (byteC 0) ++ (bs.map byteC).toArray.toList.drop (j * 64 + 64) := by
      unfold laid
      rw [List.map_append, List.map_append, List.map_take, List.map_drop, hz]
      unfold zeros
      rw [List.map_replicate]
    rw [e]
    exact hrow
  · rw [laid_len _ _ _ (by rw [hz, h.size]; omega)]
    exact h.size
theorem At.take (h : At w p a t n on bs) (j : Nat) : At (w.setCell ⟨t, j, none⟩ (.bool true)) p a t n (on.set j true) bs := by
  have hk : Kept (fun b => b = t) w (w.setCell ⟨t, j, none⟩ (.bool true)) := (Kept.refl (fun b => b = t) w).setCell (.inl rfl) _
  refine ⟨hk.row h.row h.far.2.1, hk.row h.pages h.far.2.2, ?_, by rw [List.length_set]; exact h.len, h.size, h.far, h.few⟩
  have := heap_setCell_same w t j _ _ (Value.bool true) h.taken
  rw [this, List.map_set]
  simp
theorem At.free (h : At w p a t n on bs) (j : Nat) : w.frozen? ⟨t, j, none⟩ = false := free_row h.taken
/-- A page's bytes. -/
def page (bs : List Int) (j : Nat) : List Int := (bs.drop (j * 64)).take 64
theorem At.page (h : At w p a t n on bs) {j : Nat} (hj : j < n) : (page bs j).length = 64 ∧ ∀ q v, ((page bs j).map byteC)[q]? = some v → w.cell? ⟨a, j * 64 + q, none⟩ = some v := by
  have hsz := h.size
  refine ⟨by unfold Ar.page; rw [List.length_take, List.length_drop, hsz]; omega, fun q v hv => ?_⟩
  rw [List.getElem?_map, Option.map_eq_some_iff] at hv
  obtain ⟨b, hb, rfl⟩ := hv
  unfold Ar.page at hb
  rw [List.getElem?_take] at hb
  split at hb
  · rw [List.getElem?_drop] at hb
    exact h.cells.2.2.2.1 _ b hb
  · cases hb
theorem laid_page {bs : List Int} {j : Nat} (h : page bs j = zeros) : laid bs (j * 64) zeros = bs :=
  laid_same bs (j * 64) zeros (by rw [show zeros.length = 64 by simp [zeros]]; exact h)
end
theorem take_own {w wr : World} {t L : Nat} {A : Option Addr} {c : Nat} {zs : List Value} (htl : t < w.heap.size) (HO : wr.ownsRow 0 3 1 (.slice A L c) L zs) (HF : Fresh w (.slice A L c)) (j : Nat) :
    (wr.setCell ⟨t, j, none⟩ (.bool true)).ownsRow 0 3 1 (.slice A L c) L zs :=
  own_kept HO ((Kept.refl (fun b => b = t) wr).setCell (p := ⟨t, j, none⟩) (.inl rfl) (.bool true)) (fun b hb e => by have h1 := HF b hb; omega)
theorem take_end {w wr w9 : World} {p a t n L : Nat} {on : List Bool} {bs : List Int} {A : Option Addr} {c : Nat} {v9 : Value} (j : Nat) (hpl : p < w.heap.size) (hal : a < w.heap.size) (htl : t < w.heap.size) (HA : At wr p a t n on bs) (HK : Kept (fun b => b = a ∨ b = t) w wr) (HF : Fresh w (.slice A L c))
    (hw : Went ((wr.setCell ⟨t, j, none⟩ (.bool true)).alloc (.cells #[.int .i64 (j : Int)] 3)) w9 (.slice A L c) v9 L 1) : At w9 p a t n (on.set j true) bs ∧ Kept (fun b => b = a ∨ b = t) w w9 ∧ Fresh w v9 := by
  have h1 := (HA.take j).below ((Below.refl _ _).alloc (Nat.le_refl _) (.cells #[.int .i64 (j : Int)] 3))
  have h2 : Kept (fun b => b = a ∨ b = t) w ((wr.setCell ⟨t, j, none⟩ (.bool true)).alloc (.cells #[.int .i64 (j : Int)] 3)) := (HK.setCell (p := ⟨t, j, none⟩) (.inl (.inr rfl)) (.bool true)).alloc _
  refine ⟨h1.kept hw.kept (fun e => by have := HF p e; omega) (fun e => by have := HF a e; omega) (fun e => by have := HF t e; omega), h2.trans hw.kept (fun b hb => .inr (HF b hb)), fun k hk => ?_⟩
  rcases hw.block with h | h
  · exact HF k (h ▸ hk)
  · have h3 := Option.some.inj (h.symm.trans hk)
    have h4 := HK.size
    simp at h3
    omega
set_option maxHeartbeats 4000000 in
set_option maxRecDepth 100000 in
theorem take_in (w : World) (p a t n : Nat) (on : List Bool) (bs : List Int) (m : Nat) (h : At w p a t n on bs) (hm : (m : Int) ≤ freeN on n) :
    Calls Try.prog 10 #[.pointer (some ⟨p, 0, none⟩), .int .i64 m] w fun e w' => ∃ A c, e = .returned (.tuple #[.slice A (trun m on bs n).out.length c, .int .i64 0]) ∧ w'.ownsRow 0 3 1 (.slice A (trun m on bs n).out.length c) (trun m on bs n).out.length ((trun m on bs n).out.map (Value.int .i64)) ∧
      At w' p a t n (trun m on bs n).on (trun m on bs n).bs ∧ Kept (fun b => b = a ∨ b = t) w w' ∧ Fresh w (.slice A (trun m on bs n).out.length c) := by
  have HFR := Lib.hid (free_any w p a t n on bs h)
  obtain ⟨f, hf⟩ : ∃ f, freeN on n = f := ⟨_, rfl⟩
  rw [hf] at HFR hm
  have hfm : f ≤ 256 := by
    have := h.few
    unfold freeN at hf
    omega
  have HH := Lib.hid h
  have hfew := h.few
  obtain ⟨_, _, _, _, hpl, hal, htl⟩ := h.cells
  clear hf h
  go_enter Try.func10, Try.ntmps10
  go_wp2_with (go_at_call 20; (with_reducible refine HFR.out.mono ?_); rintro e w1 ⟨rfl, b1⟩; have H1 := Lib.hid (HH.out.below b1); have B1 := Lib.hid b1; have cc0 := H1.out.cells.1; have cc1 := H1.out.cells.2.1; clear b1)
  go_loopw [6, 21] (fun v6 v21 wr => ∃ (j : Nat) (A : Option Addr) (c : Nat) (s : Run), j ≤ n ∧ v21 = .int .i64 j ∧ v6 = .slice A s.out.length c ∧ Hid (trun m on bs j = s) ∧ Hid (wr.ownsRow 0 3 1 (.slice A s.out.length c) s.out.length (s.out.map (Value.int .i64))) ∧ Hid (At wr p a t n s.on s.bs) ∧ Hid (Kept (fun b => b = a ∨ b = t) w wr) ∧ Hid (Fresh w (.slice A s.out.length c))) (fun _ v21 _ => n - (intOf v21).toNat)
  case atStart => exact ⟨0, none, 0, ⟨[], on, bs⟩, Nat.zero_le _, rfl, rfl, rfl, World.ownsRow_nil _ _ _ _, H1.out, Kept.of_below B1.out, fun k hk => by simp [Value.ownBlock] at hk⟩
  case round =>
    clear cc0 cc1 H1 B1
    obtain ⟨j, A, c, s, hj, rfl, rfl, HT, HO, HA, HK, HF⟩ := hrel
    have cc0 := HA.out.cells.1
    have cc1 := HA.out.cells.2.1
    have hlen : s.out.length ≤ j := by rw [← HT.out]; exact trun_len _ _ _ _
    by_cases hlt : j < n
    · by_cases hfull : s.out.length = m
      · have HE : Hid (trun m on bs n = s) := by
          have h1 := trun_stop (k := j) (by rw [HT.out]; exact hfull) (n - j)
          rw [show j + (n - j) = n by omega, HT.out] at h1
          exact h1
        have HFU := Lib.hid hfull
        go_wp2
        go_ret2
        exact ⟨A, c, by rw [HE.out]; rfl, by rw [HE.out]; exact HO.out, by rw [HE.out]; exact HA.out, HK.out, by rw [HE.out]; exact HF.out⟩
      · obtain ⟨b, hb⟩ : ∃ b, s.on[j]? = some b := ⟨_, List.getElem?_eq_getElem (by rw [HA.out.len]; exact hlt)⟩
        have k0 := HA.out.cells.2.2.1 j b hb
        have hgd : s.on.getD j false = b := by rw [List.getD_eq_getElem?_getD, hb]; rfl
        have HBJ := hb
        have hfull' : ¬ ((s.out.length : Int) = (m : Int)) := by omega
        cases b
        · have HE : Hid (trun m on bs (j + 1) = ⟨s.out ++ [(j : Int)], s.on.set j true, laid s.bs (j * 64) zeros⟩) := by
            show tstep m (trun m on bs j) j = _
            rw [HT.out, tstep, if_neg hfull, hgd]
            rfl
          obtain ⟨hpg, hpc⟩ := HA.out.page hlt
          have HPC := Lib.hid hpc
          have HPL := Lib.hid hpg
          have hneq := neq59 (page s.bs j) hpg
          obtain ⟨xs, hxs⟩ : ∃ xs, page s.bs j = xs := ⟨_, rfl⟩
          rw [hxs] at hneq HPC HPL
          have HX := Lib.hid hxs
          obtain ⟨L, hL⟩ : ∃ L, s.out.length = L := ⟨_, rfl⟩
          rw [hL] at HO HF hfull hfull' hlen ⊢
          have HLL := Lib.hid hL
          clear hpg hpc hxs hgd hL
          have hfz := HA.out.free j
          have HSL := fun w => slice59a a (j * 64) w
          by_cases hz : xs = zeros
          · have HZ : Hid (laid s.bs (j * 64) zeros = s.bs) := laid_page (HX.out.trans hz)
            rw [decide_eq_true hz] at hneq
            clear hz
            have HO2 := Lib.hid (take_own htl HO.out HF.out j)
            go_wp2_with (first | (refine list_load_part rfl 59 (.tmp 40) rfl a (j * 64) rfl (xs.map byteC) _ HPC.out Try.underlying59 rfl (by rw [List.length_map, HPL.out]; kernel_rfl) ?_) | (at_builtin; refine list_app2 rfl (.tmp 57) (.tmp 59) 29 rfl 3 0 _ 1 8 Try.underlying29 info3 rfl (by decide) (by decide) (.slice A L c) L _ rfl (own_keeps HO2.out ((Kept.refl _ _).alloc _)) (some ⟨wr.heap.size, 0, none⟩) 1 1 [.int .i64 j] rfl rfl (by simpa using holds_new (wr.setCell ⟨t, j, none⟩ (.bool true)) #[.int .i64 j] 3 (0, 0) _ rfl) (by simp [Value.oneCell']) (by omega) (Nat.zero_le _) ?_; intro v9 w9 hown9 hwent9))
            obtain ⟨A9, c9, rfl, _⟩ := own_slice hown9
            obtain ⟨e1, e2, e3⟩ := take_end j hpl hal htl HA.out HK.out HF.out hwent9
            have eL : (s.out ++ [(j : Int)]).length = L + 1 := by simp [HLL.out]
            refine ⟨⟨j + 1, A9, c9, ⟨s.out ++ [(j : Int)], s.on.set j true, laid s.bs (j * 64) zeros⟩, by omega, by simp, by rw [eL], HE, ?_, ?_, e2, ?_⟩, by simp [intOf]; omega⟩
            · show World.ownsRow _ _ _ _ _ _ _
              rw [eL]
              simpa using hown9
            · rw [HZ.out]; exact e1
            · rw [eL]; exact e3
          · rw [decide_eq_false hz] at hneq
            clear hz
            have hsz := HA.out.size
            go_wp2_with (first | (refine list_load_part rfl 59 (.tmp 40) rfl a (j * 64) rfl (xs.map byteC) _ HPC.out Try.underlying59 rfl (by rw [List.length_map, HPL.out]; kernel_rfl) ?_) | (refine list_clear rfl (.tmp 50) rfl a (j * 64) _ 59 HA.out.pages (by rw [List.size_toArray, List.length_map, hsz]; omega) 64 rfl ?_; intro w8 hrow8 hg8 hs8; have HA8 := Lib.hid (HA.out.cleared hlt hrow8 hg8); have HK8 := Lib.hid (HK.out.grown hg8 (fun b hb => .inl (.inl (Option.some.inj hb).symm))); have HO8 := Lib.hid (own_kept HO.out ((Kept.refl (fun b => b = a) wr).grown hg8 (fun b hb => .inl (Option.some.inj hb).symm)) (fun b hb e => by have h1 := HF.out b hb; omega)); have HO2 := Lib.hid (take_own htl HO8.out HF.out j); have c80 := HA8.out.cells.1; have c81 := HA8.out.cells.2.1; have k8 := HA8.out.cells.2.2.1 j false (by assumption); have f8 := HA8.out.free j; clear hrow8 hg8 hs8) | (at_builtin; refine list_app2 rfl (.tmp 57) (.tmp 59) 29 rfl 3 0 _ 1 8 Try.underlying29 info3 rfl (by decide) (by decide) (.slice A L c) L _ rfl (own_keeps HO2.out ((Kept.refl _ _).alloc _)) (some ⟨w8.heap.size, 0, none⟩) 1 1 [.int .i64 j] rfl rfl (by simpa using holds_new (w8.setCell ⟨t, j, none⟩ (.bool true)) #[.int .i64 j] 3 (0, 0) _ rfl) (by simp [Value.oneCell']) (by omega) (Nat.zero_le _) ?_; intro v9 w9 hown9 hwent9))
            obtain ⟨A9, c9, rfl, _⟩ := own_slice hown9
            obtain ⟨e1, e2, e3⟩ := take_end j hpl hal htl HA8.out HK8.out HF.out hwent9
            have eL : (s.out ++ [(j : Int)]).length = L + 1 := by simp [HLL.out]
            refine ⟨⟨j + 1, A9, c9, ⟨s.out ++ [(j : Int)], s.on.set j true, laid s.bs (j * 64) zeros⟩, by omega, by simp, by rw [eL], HE, ?_, ?_, e2, ?_⟩, by simp [intOf]; omega⟩
            · show World.ownsRow _ _ _ _ _ _ _
              rw [eL]
              simpa using hown9
            · exact e1
            · rw [eL]; exact e3
        · have HE : Hid (trun m on bs (j + 1) = s) := by
            show tstep m (trun m on bs j) j = _
            rw [HT.out, tstep, if_neg hfull, hgd]
            rfl
          go_wp2
          exact ⟨⟨j + 1, A, c, s, by omega, by simp, rfl, HE, HO, HA, HK, HF⟩, by simp [intOf]; omega⟩
    · have : j = n := by omega
      subst this
      go_wp2
      go_ret2
      exact ⟨A, c, by rw [HT.out]; rfl, by rw [HT.out]; exact HO.out, by rw [HT.out]; exact HA.out, HK.out, by rw [HT.out]; exact HF.out⟩
end Go.Proofs.Ytbhpikagjcojbaa.Ar

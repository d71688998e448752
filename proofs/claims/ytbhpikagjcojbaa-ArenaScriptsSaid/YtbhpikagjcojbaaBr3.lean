/- Take, of whatever number: the document's and the program's. -/
import Derived.Test.YtbhpikagjcojbaaBr2
import Derived.Test.YtbhpikagjcojbaaAr7
namespace Go.Proofs.Ytbhpikagjcojbaa.Ar
open Go.RowKit Go.Proofs.Ytbhpikagjcojbaa.Mem
set_option linter.unusedVariables false
theorem freeN_le (on : List Bool) (n : Nat) : freeN on n ≤ n ∧ 0 ≤ freeN on n := by
  have := tk_len on n
  unfold freeN
  omega
theorem rtake_end {w W0 w9 : World} {r P n L : Nat} {on : List Bool} {bs : List Int} {A : Option Addr} {c : Nat} {v9 : Value} {o : Obj} (hrl : r < w.heap.size) (hPl : P < w.heap.size) (HA : Ra W0 r P n on bs) (HK : Kept (fun b => b = P) w W0) (HF : Fresh w (.slice A L c))
    (hw : Went (W0.alloc o) w9 (.slice A L c) v9 L 1) : Ra w9 r P n on bs ∧ Kept (fun b => b = P) w w9 ∧ Fresh w v9 := by
  have h1 := HA.below ((Below.refl _ _).alloc (Nat.le_refl _) o)
  refine ⟨h1.kept hw.kept (fun e => by have := HF r e; omega) (fun e => by have := HF P e; omega), (HK.alloc o).trans hw.kept (fun b hb => .inr (HF b hb)), fun k hk => ?_⟩
  rcases hw.block with h | h
  · exact HF k (h ▸ hk)
  · have h3 := Option.some.inj (h.symm.trans hk)
    have h4 := HK.size
    simp at h3
    omega
theorem zero75 (w : World) : (zeroValue 75).run Try.prog w = .ok (.agg zeroPage.toArray) w := by kernel_rfl
theorem page_set : zeroPage.toArray.setIfInBounds 0 (.bool true) = newPage.toArray := by kernel_rfl
theorem page_ne : ¬ zeroPage.toArray = #[] := by decide
set_option maxHeartbeats 4000000 in
set_option maxRecDepth 100000 in
theorem rtake_in (w : World) (r P n : Nat) (on : List Bool) (bs : List Int) (m : Nat) (h : Ra w r P n on bs) (hm : (m : Int) ≤ freeN on n) :
    Calls Try.prog 26 #[.pointer (some ⟨r, 0, none⟩), .int .i64 m] w fun e w' => ∃ A c, e = .returned (.tuple #[.slice A (trun m on bs n).out.length c, .int .i64 0]) ∧ w'.ownsRow 0 3 1 (.slice A (trun m on bs n).out.length c) (trun m on bs n).out.length ((trun m on bs n).out.map (Value.int .i64)) ∧
      Ra w' r P n (trun m on bs n).on (trun m on bs n).bs ∧ Kept (fun b => b = P) w w' ∧ Fresh w (.slice A (trun m on bs n).out.length c) := by
  have HFR := Lib.hid (rfree_any w r P n on bs h)
  have HFull := Lib.hid (trun_full (on := on) (bs := bs) hm)
  have hfn := (freeN_le on n).1
  obtain ⟨f, hf⟩ : ∃ f, freeN on n = f := ⟨_, rfl⟩
  rw [hf] at HFR hm hfn
  have HH := Lib.hid h
  have hfew := h.few
  obtain ⟨_, _, _, hrl, hPl⟩ := h.cells
  clear hf h
  go_enter Try.func26, Try.ntmps26
  go_wp2_with (go_at_call 32; (with_reducible refine HFR.out.mono ?_); rintro e w1 ⟨rfl, b1⟩; have H1 := Lib.hid (HH.out.below b1); have B1 := Lib.hid b1; clear b1)
  go_loopw [6, 7] (fun v6 v7 wr => ∃ (j : Nat) (A : Option Addr) (c : Nat) (s : Run), j ≤ n ∧ v7 = .int .i64 j ∧ v6 = .slice A s.out.length c ∧ Hid (trun m on bs j = s) ∧ Hid (wr.ownsRow 0 3 1 (.slice A s.out.length c) s.out.length (s.out.map (Value.int .i64))) ∧ Hid (Ra wr r P n s.on s.bs) ∧ Hid (Kept (fun b => b = P) w wr) ∧ Hid (Fresh w (.slice A s.out.length c))) (fun _ v7 _ => n - (intOf v7).toNat)
  case atStart => exact ⟨0, none, 0, ⟨[], on, bs⟩, Nat.zero_le _, rfl, rfl, rfl, World.ownsRow_nil _ _ _ _, H1.out, Kept.of_below B1.out, fun k hk => by simp [Value.ownBlock] at hk⟩
  case round =>
    clear H1 B1
    obtain ⟨j, A, c, s, hj, rfl, rfl, HT, HO, HA, HK, HF⟩ := hrel
    have cc0 := HA.out.cells.1
    have hle : s.out.length ≤ m := by rw [← HT.out, trun_count]; omega
    by_cases hfull : s.out.length = m
    · have HE : Hid (trun m on bs n = s) := by
        have h1 := trun_stop (k := j) (by rw [HT.out]; exact hfull) (n - j)
        rw [show j + (n - j) = n by omega, HT.out] at h1
        exact h1
      have hnl : ¬ (s.out.length : Int) < m := by omega
      clear hfull hle
      go_wp2
      go_ret2
      exact ⟨A, c, by rw [HE.out]; rfl, by rw [HE.out]; exact HO.out, by rw [HE.out]; exact HA.out, HK.out, by rw [HE.out]; exact HF.out⟩
    · have hlt : j < n := by
        rcases Nat.lt_or_eq_of_le hj with h | h
        · exact h
        · subst h
          exact absurd (HT.out ▸ HFull.out) hfull
      have hln : (s.out.length : Int) < m := by omega
      obtain ⟨b, hb⟩ : ∃ b, s.on[j]? = some b := ⟨_, List.getElem?_eq_getElem (by rw [HA.out.len]; exact hlt)⟩
      have k0 := HA.out.cells.2.1 j b hb
      have hgd : s.on.getD j false = b := by rw [List.getD_eq_getElem?_getD, hb]; rfl
      cases b
      · have HE : Hid (trun m on bs (j + 1) = ⟨s.out ++ [(j : Int)], s.on.set j true, laid s.bs (j * 64) zeros⟩) := by
          show tstep m (trun m on bs j) j = _
          rw [HT.out, tstep, if_neg hfull, hgd]
          rfl
        have HTH := Lib.hid (HA.out.there hlt)
        have HA2 := Lib.hid (HA.out.take hlt)
        obtain ⟨L, hL⟩ : ∃ L, s.out.length = L := ⟨_, rfl⟩
        rw [hL] at HO HF hfull hln hle ⊢
        have HLL := Lib.hid hL
        have HK2 : Hid (Kept (fun b => b = P) w (wr.setCells P (j * 65) newPage.toArray.toList)) := Kept.setCells _ _ HK.out (.inl rfl)
        have HO2 : Hid ((wr.setCells P (j * 65) newPage.toArray.toList).ownsRow 0 3 1 (.slice A L c) L (s.out.map (Value.int .i64))) := own_kept HO.out (Kept.setCells (S := fun b => b = P) _ _ (Kept.refl _ wr) (.inl rfl)) (fun b hb e => by have h1 := HF.out b hb; omega)
        clear hgd hL hb hfull
        obtain ⟨Z, hZ⟩ : ∃ Z : Array Value, zeroPage.toArray = Z := ⟨_, rfl⟩
        obtain ⟨NP, hNP⟩ : ∃ Z : Array Value, newPage.toArray = Z := ⟨_, rfl⟩
        have z1 : ∀ w, (zeroValue 75).run Try.prog w = .ok (.agg Z) w := fun w => by rw [← hZ]; exact zero75 w
        have z2 : ¬ Z = #[] := by rw [← hZ]; exact page_ne
        have z3 : Z.setIfInBounds 0 (.bool true) = NP := by rw [← hZ, ← hNP]; exact page_set
        have hi := info75s
        have ho := newPage_one
        rw [hNP] at HTH HA2 HK2 HO2 hi ho
        have HI := Lib.hid hi
        have HOn := Lib.hid ho
        clear hZ hNP hi ho
        go_wp2_with (first | (with_reducible refine wpList_store_mid rfl 75 (.tmp 35) (.tmp 34) rfl P (j * 65) NP rfl rfl HTH.out HI.out HOn.out ?_) | (at_builtin; refine list_app2 rfl (.tmp 36) (.tmp 38) 29 rfl 3 0 _ 1 8 Try.underlying29 info3 rfl (by decide) (by decide) (.slice A L c) L _ rfl (own_keeps HO2.out ((Kept.refl _ _).alloc _)) (some ⟨(wr.setCells P (j * 65) NP.toList).heap.size, 0, none⟩) 1 1 [.int .i64 j] rfl rfl (by simpa using holds_new (wr.setCells P (j * 65) NP.toList) #[.int .i64 j] 3 (0, 0) _ rfl) (by simp [Value.oneCell']) (by omega) (Nat.zero_le _) ?_; intro v9 w9 hown9 hwent9) | fail)
        obtain ⟨A9, c9, rfl, _⟩ := own_slice hown9
        obtain ⟨e1, e2, e3⟩ := rtake_end hrl hPl HA2.out HK2.out HF.out hwent9
        have eL : (s.out ++ [(j : Int)]).length = L + 1 := by simp [HLL.out]
        refine ⟨⟨j + 1, A9, c9, ⟨s.out ++ [(j : Int)], s.on.set j true, laid s.bs (j * 64) zeros⟩, by omega, by simp, by rw [eL], HE, ?_, e1, e2, ?_⟩, by simp [intOf]; omega⟩
        · show World.ownsRow _ _ _ _ _ _ _
          rw [eL]
          simpa using hown9
        · rw [eL]; exact e3
      · have HE : Hid (trun m on bs (j + 1) = s) := by
          show tstep m (trun m on bs j) j = _
          rw [HT.out, tstep, if_neg hfull, hgd]
          rfl
        clear hb hgd
        go_wp2
        exact ⟨⟨j + 1, A, c, s, by omega, by simp, rfl, HE, HO, HA, HK, HF⟩, by simp [intOf]; omega⟩
theorem nil_case (w : World) (on : List Bool) (bs : List Int) : w.ownsRow 0 3 1 (.slice none 0 0) 0 [] ∧ Fresh w (.slice none 0 0) := ⟨World.ownsRow_nil _ _ _ _, fun k hk => by simp [Value.ownBlock] at hk⟩
set_option maxHeartbeats 1000000 in
theorem rtake_any (w : World) (r P n : Nat) (on : List Bool) (bs : List Int) (m : Int) (h : Ra w r P n on bs) :
    Calls Try.prog 26 #[.pointer (some ⟨r, 0, none⟩), .int .i64 m] w fun e w' => ∃ A c, e = .returned (.tuple #[.slice A (takeR on bs n m).2.out.length c, .int .i64 (takeR on bs n m).1]) ∧ w'.ownsRow 0 3 1 (.slice A (takeR on bs n m).2.out.length c) (takeR on bs n m).2.out.length ((takeR on bs n m).2.out.map (Value.int .i64)) ∧
      Ra w' r P n (takeR on bs n m).2.on (takeR on bs n m).2.bs ∧ Kept (fun b => b = P) w w' ∧ Fresh w (.slice A (takeR on bs n m).2.out.length c) := by
  unfold takeR
  by_cases h0 : m < 0
  · rw [if_pos h0]
    have HH := Lib.hid h
    clear h
    go_enter Try.func26, Try.ntmps26
    go_wp2
    go_ret2
    exact ⟨none, 0, rfl, (nil_case w on bs).1, HH.out, Kept.refl _ _, (nil_case w on bs).2⟩
  · rw [if_neg h0]
    by_cases h1 : freeN on n < m
    · rw [if_pos h1]
      have HFR := Lib.hid (rfree_any w r P n on bs h)
      have HH := Lib.hid h
      obtain ⟨f, hf⟩ : ∃ f, freeN on n = f := ⟨_, rfl⟩
      rw [hf] at HFR h1
      clear h hf
      go_enter Try.func26, Try.ntmps26
      go_wp2_with (go_at_call 32; (with_reducible refine HFR.out.mono ?_); rintro e w1 ⟨rfl, b1⟩; have B1 := Lib.hid b1; clear b1)
      go_ret2
      exact ⟨none, 0, rfl, (nil_case _ on bs).1, HH.out.below B1.out, Kept.of_below B1.out, (nil_case _ on bs).2⟩
    · rw [if_neg h1]
      obtain ⟨k, rfl⟩ : ∃ k : Nat, m = k := ⟨m.toNat, by omega⟩
      exact rtake_in w r P n on bs k h (by omega)
set_option maxHeartbeats 1000000 in
theorem take_any (w : World) (p a t n : Nat) (on : List Bool) (bs : List Int) (m : Int) (h : At w p a t n on bs) :
    Calls Try.prog 10 #[.pointer (some ⟨p, 0, none⟩), .int .i64 m] w fun e w' => ∃ A c, e = .returned (.tuple #[.slice A (takeR on bs n m).2.out.length c, .int .i64 (takeR on bs n m).1]) ∧ w'.ownsRow 0 3 1 (.slice A (takeR on bs n m).2.out.length c) (takeR on bs n m).2.out.length ((takeR on bs n m).2.out.map (Value.int .i64)) ∧
      At w' p a t n (takeR on bs n m).2.on (takeR on bs n m).2.bs ∧ Kept (fun b => b = a ∨ b = t) w w' ∧ Fresh w (.slice A (takeR on bs n m).2.out.length c) := by
  unfold takeR
  by_cases h0 : m < 0
  · rw [if_pos h0]
    have HH := Lib.hid h
    clear h
    go_enter Try.func10, Try.ntmps10
    go_wp2
    go_ret2
    exact ⟨none, 0, rfl, (nil_case w on bs).1, HH.out, Kept.refl _ _, (nil_case w on bs).2⟩
  · rw [if_neg h0]
    by_cases h1 : freeN on n < m
    · rw [if_pos h1]
      have HFR := Lib.hid (free_any w p a t n on bs h)
      have HH := Lib.hid h
      obtain ⟨f, hf⟩ : ∃ f, freeN on n = f := ⟨_, rfl⟩
      rw [hf] at HFR h1
      clear h hf
      go_enter Try.func10, Try.ntmps10
      go_wp2_with (go_at_call 20; (with_reducible refine HFR.out.mono ?_); rintro e w1 ⟨rfl, b1⟩; have B1 := Lib.hid b1; clear b1)
      go_ret2
      exact ⟨none, 0, rfl, (nil_case _ on bs).1, HH.out.below B1.out, Kept.of_below B1.out, (nil_case _ on bs).2⟩
    · rw [if_neg h1]
      obtain ⟨k, rfl⟩ : ∃ k : Nat, m = k := ⟨m.toNat, by omega⟩
      exact take_in w p a t n on bs k h (by omega)
end Go.Proofs.Ytbhpikagjcojbaa.Ar

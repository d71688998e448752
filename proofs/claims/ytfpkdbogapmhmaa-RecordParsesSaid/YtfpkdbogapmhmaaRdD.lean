/- Record: the document's ParseAnswer (written by gen_rdd.py). -/
import Derived.Test.YtfpkdbogapmhmaaRdP
import Derived.Test.YtfpkdbogapmhmaaRdC
import Derived.Test.YtfpkdbogapmhmaaRcZ
namespace Go.Proofs.Ytfpkdbogapmhmaa.O
open Go.RowKit Go.Proofs.Ytfpkdbogapmhmaa.Mem
set_option linter.unusedVariables false
set_option linter.unusedSimpArgs false
/-- A result's box and a second box, all else as it was. -/
structure GI (w : World) (R : Array Value) (ty : TypeId) (C : Array Value) (W : World) : Prop where
  res : W.heap[w.heap.size]? = some (.cells R ty)
  box : W.heap[w.heap.size + 1]? = some (.cells C ty)
  below : Below w.heap.size w W
  size : w.heap.size + 2 ≤ W.heap.size
theorem GI.on {w W W' : World} {R C : Array Value} {ty : TypeId} (h : GI w R ty C W) (hb : Below W.heap.size W W') : GI w R ty C W' :=
  ⟨row_on hb h.res, row_on hb h.box, h.below.trans (hb.mono h.below.size), Nat.le_trans h.size hb.size⟩
theorem GI.kept {w W W' : World} {R C C' : Array Value} {ty : TypeId} (h : GI w R ty C W) (k : Kept (fun b => b = w.heap.size + 1) W W') (hc : W'.heap[w.heap.size + 1]? = some (.cells C' ty)) : GI w R ty C' W' :=
  ⟨(k.block _ (lt_of_row h.res) (by omega)).trans h.res, hc, h.below.trans (k.below (fun x hx => by have h3 : x = w.heap.size + 1 := hx; omega) h.below.size), Nat.le_trans h.size k.size⟩
theorem GI.set1 {w W : World} {R C : Array Value} {ty : TypeId} (h : GI w R ty C W) (j : Nat) (v : Value) : GI w R ty (C.setIfInBounds j v) (W.setCell ⟨w.heap.size + 1, j, none⟩ v) :=
  h.kept ((Kept.refl (fun b => b = w.heap.size + 1) W).setCell (p := ⟨w.heap.size + 1, j, none⟩) (.inl rfl) v) (heap_setCell_same _ _ _ _ _ _ h.box)
theorem GI.row {w W : World} {R C : Array Value} {ty : TypeId} (h : GI w R ty C W) (C' : Array Value) : GI w R ty C' (W.setRow (w.heap.size + 1) C') :=
  h.kept ((Kept.refl (fun b => b = w.heap.size + 1) W).setRow (.inl rfl) C') (setRow_heap _ _ _ _ _ _ h.box)
theorem GI.fin {w W : World} {R C : Array Value} {ty : TypeId} (h : GI w R ty C W) (R' : Array Value) : (W.setRow w.heap.size R').heap[w.heap.size]? = some (.cells R' ty) ∧ Below w.heap.size w (W.setRow w.heap.size R') ∧ Kept (fun b => b = w.heap.size) W (W.setRow w.heap.size R') := by
  have k := (Kept.refl (fun b => b = w.heap.size) W).setRow (.inl rfl) R'
  exact ⟨setRow_heap _ _ _ _ _ _ h.res, h.below.trans (k.below (fun x hx => by have h3 : x = w.heap.size := hx; omega) h.below.size), k⟩
theorem there_row {w : World} {b o n : Nat} {C : Array Value} {t : TypeId} (h : w.heap[b]? = some (.cells C t (0, 0))) (hn : o + n ≤ C.size) : w.there b o n := fun j hj => by
  refine ⟨?_, free_row h⟩
  rw [cell_row h (Array.getElem?_eq_getElem (by omega : o + j < C.size))]
  rfl
theorem RB.dropK {w : World} {g o n c : Nat} {zs : List Int} (k : Nat) (h : RB w (.slice (some ⟨g, o, none⟩) n c) zs) : RB w (.slice (some ⟨g, o + k, none⟩) (zs.drop k).length (c - k)) (zs.drop k) := by
  obtain ⟨A', c', e, h1, h2, h3⟩ := h
  obtain ⟨rfl, rfl, rfl⟩ : some ⟨g, o, none⟩ = A' ∧ n = zs.length ∧ c = c' := by simpa using e
  refine ⟨_, _, rfl, by rw [List.length_drop]; omega, by omega, fun hp => ⟨g, o + k, rfl, fun j u hu => ?_⟩⟩
  rw [List.length_drop] at hp
  obtain ⟨g', o', e', h4⟩ := h3 (by omega)
  obtain ⟨rfl, rfl⟩ : g = g' ∧ o = o' := by simpa using e'
  rw [List.getElem?_drop] at hu
  rw [Nat.add_assoc]
  exact h4 (k + j) u hu
theorem res_ct {fn : Func} {p q : Tmp} {ty : TypeId} (h : fn.results = #[.cell p ty, .tmp q]) (tmps : Array Value) (W : World) (P : Nat) (v u : Value) (hp : tmps.getD p undef = .pointer (some ⟨P, 0, none⟩)) (hq : tmps.getD q undef = u) (hl : (loadVar ty ⟨P, 0, none⟩).run Try.prog W = .ok v W) : (results fn tmps).run Try.prog W = .ok (.tuple #[v, u]) W := by
  have hp' : tmps[p]?.getD undef = .pointer (some ⟨P, 0, none⟩) := by simpa using hp
  have hq' : tmps[q]?.getD undef = u := by simpa using hq
  unfold results
  simp [h, hp', hq', asAddr, hl, Result.andThen, Sem.run_bind]
theorem info26s : (Try.prog.info? 26).map (·.size) = some 3 := by kernel_rfl
theorem ob_at {w W W' : World} {D : Value} {da : List Int} (k : Kept (fun b => b = w.heap.size ∨ b = w.heap.size + 1) W W') (hD : OB W D da) (hf : ∀ b, D.ownBlock = some b → w.heap.size + 2 ≤ b) : OB W' D da :=
  own_kept hD k (fun b hb e => by have h1 := hf b hb; rcases e with e | e <;> omega)
theorem ones_r {w : World} {D : Value} {r : Rp} {da : List Int} (h : OB w D da) : (rcells r D).all (·.oneCell') = true := by
  obtain ⟨A, c, rfl, _⟩ := own_slice h
  simp [rcells, Value.oneCell']
set_option maxHeartbeats 4000000 in
set_option maxRecDepth 100000 in
theorem rparseA_any (w : World) (op : Int) (v : Value) (zs : List Int) (hb : zs.length ≤ 140737488351300) (hB : Bytes zs) (h : RB w v zs) : Calls Try.prog 17 #[.int .i64 op, v] w fun e w' => PA (parseR op zs) w e w' := by
  suffices ∀ R : Ending → World → Prop, (∀ e w', PA (parseR op zs) w e w' → R e w') → Calls Try.prog 17 #[.int .i64 op, v] w R from this _ (fun _ _ h => h)
  intro R HR
  replace HR := Lib.hid HR
  have HBZ := Lib.hid hB
  have HGF := Lib.hid (guessR_facts op hB)
  have HLN := Lib.hid hb
  have HPG := Lib.hid (parseR_guess op hB)
  obtain ⟨A, c, rfl, h1, h2, h3⟩ := h
  obtain ⟨m, hm⟩ : ∃ m, zs.length = m := ⟨_, rfl⟩
  rw [hm] at h1 h3 ⊢
  unfold maxLen at h2
  have HV : Hid (RB w (.slice A m c) zs) := Lib.hid ⟨A, c, by rw [hm], by rw [hm]; exact h1, h2, by rw [hm]; exact h3⟩
  have HM := Lib.hid hm
  have HA3 : Hid (0 < m → ∃ g o, A = some ⟨g, o, none⟩) := Lib.hid (fun hp => by obtain ⟨g, o, e, _⟩ := h3 hp; exact ⟨g, o, e⟩)
  have HBX := Lib.hid (show Below w.heap.size w ((w.alloc (.cells #[.int .i64 0, .int .i64 0, .int .u64 0, .int .u64 0, .slice none 0 0, .int .i64 0] 45)).alloc (.cells #[.int .i64 0, .int .i64 0, .int .u64 0, .int .u64 0, .slice none 0 0, .int .i64 0] 45)) from ((Below.refl _ w).alloc (Nat.le_refl _) _).alloc (by simp) _)
  have HG0 : Hid (GI w #[.int .i64 0, .int .i64 0, .int .u64 0, .int .u64 0, .slice none 0 0, .int .i64 0] 45 #[.int .i64 0, .int .i64 0, .int .u64 0, .int .u64 0, .slice none 0 0, .int .i64 0] ((w.alloc (.cells #[.int .i64 0, .int .i64 0, .int .u64 0, .int .u64 0, .slice none 0 0, .int .i64 0] 45)).alloc (.cells #[.int .i64 0, .int .i64 0, .int .u64 0, .int .u64 0, .slice none 0 0, .int .i64 0] 45))) := Lib.hid ⟨row_on ((Below.refl _ _).alloc (Nat.le_refl _) _) (row_new rfl), row_new (by simp), HBX.out, by simp⟩
  have G1 := Lib.hid (get_any (w.alloc (.cells #[.int .i64 0, .int .i64 0, .int .u64 0, .int .u64 0, .slice none 0 0, .int .i64 0] 45)) (.slice A m c) zs 0 2 (HV.out.below ((Below.refl _ w).alloc (Nat.le_refl _) _)) hB (by omega) (by omega) 0 2 rfl rfl)
  have hc2 := gv_lo hB 2 0
  obtain ⟨code, hcd⟩ : ∃ x, gv zs 0 2 = x := ⟨_, rfl⟩
  rw [hcd] at hc2 G1
  rw [show IntKind.i64.wrap code = code by rw [IntKind.wrap_i64]; omega] at G1
  have HCD := Lib.hid hcd
  obtain ⟨G, hG⟩ : ∃ G, guessR op zs = G := ⟨_, rfl⟩
  have HGE := Lib.hid hG
  rw [hG] at HGF HPG
  have HG1 := Lib.hid (HG0.out.row #[.int .i64 code, .int .i64 0, .int .u64 0, .int .u64 0, .slice none 0 0, .int .i64 0])
  clear h3 hm hB hb hcd hG hc2
  go_enter Try.func17, Try.ntmps17
  go_upto_if 14 with (first | (go_at_call 43; (with_reducible refine G1.out.mono ?_); rintro e w1 ⟨rfl, rfl⟩) | (refine wpList_store_row rfl 45 (.tmp 6) (.tmp 11) rfl (w.heap.size + 1) 45 #[.int .i64 0, .int .i64 0, .int .u64 0, .int .u64 0, .slice none 0 0, .int .i64 0] #[.int .i64 code, .int .i64 0, .int .u64 0, .int .u64 0, .slice none 0 0, .int .i64 0] rfl rfl HG0.out.box info45 rfl (by simp [Value.oneCell']) ?_; have y0 := cell_row (j := 0) HG1.out.box rfl) | fail)
  clear G1 HG0 HBX
  generalize ((w.alloc (.cells #[.int .i64 0, .int .i64 0, .int .u64 0, .int .u64 0, .slice none 0 0, .int .i64 0] 45)).alloc (.cells #[.int .i64 0, .int .i64 0, .int .u64 0, .int .u64 0, .slice none 0 0, .int .i64 0] 45)).setRow (w.heap.size + 1) #[.int .i64 code, .int .i64 0, .int .u64 0, .int .u64 0, .slice none 0 0, .int .i64 0] = W at *
  go_cut [] from 12 to 41 (fun wc => ∃ D, Hid (OB wc D G.da) ∧ Hid (∀ b, D.ownBlock = some b → w.heap.size + 2 ≤ b) ∧ Hid (GI w #[.int .i64 0, .int .i64 0, .int .u64 0, .int .u64 0, .slice none 0 0, .int .i64 0] 45 (rcells G D) wc))
  case first =>
    by_cases hz : code = 0
    rotate_left
    · have hg' : guessR op zs = { zr with code := code } := by unfold guessR; rw [HCD.out]; rw [if_pos hz]
      rw [HGE.out] at hg'
      subst hg'
      go_wp2
      go_meet
      exact ⟨.slice none 0 0, Lib.hid (OB.nil _), Lib.hid (fun b e => by simp [Value.ownBlock] at e), HG1⟩
    subst hz
    by_cases h1 : op = 1
    · subst h1
      obtain ⟨obj, hob⟩ : ∃ x, IntKind.i64.wrap (gv zs 2 8) = x := ⟨_, rfl⟩
      obtain ⟨hi, hhi⟩ : ∃ x, gv zs 18 8 = x := ⟨_, rfl⟩
      obtain ⟨lo, hlo⟩ : ∃ x, gv zs 10 8 = x := ⟨_, rfl⟩
      have hg' : guessR 1 zs = { zr with obj := obj, hi := hi, lo := lo } := by unfold guessR; rw [HCD.out]; simp [hob, hhi, hlo]
      rw [HGE.out] at hg'
      subst hg'
      have P1 := Lib.hid (get_any W (.slice A m c) zs 2 8 (HV.out.below HG1.out.below) HBZ.out (by omega) (by omega) 2 8 rfl rfl)
      have P2 := Lib.hid (dword_any W (.slice A m c) zs 10 (HV.out.below HG1.out.below) HBZ.out (by omega) 10 rfl)
      rw [show (10 : Nat) + 8 = 18 from rfl] at P2
      rw [hob] at P1
      rw [hhi, hlo] at P2
      clear hob hhi hlo
      go_wp2_with (first | (go_at_call 43; (with_reducible refine P1.out.mono ?_); rintro e w1 ⟨rfl, rfl⟩) | (go_at_call 44; (with_reducible refine P2.out.mono ?_); rintro e w4 ⟨rfl, hb4⟩; have HG4 := Lib.hid (HG1.out.on hb4); have y41 := cell_row (j := 1) HG4.out.box rfl; have y42 := cell_row (j := 2) HG4.out.box rfl; have y43 := cell_row (j := 3) HG4.out.box rfl; have z41 := free_row (j := 1) HG4.out.box; have z42 := free_row (j := 2) HG4.out.box; have z43 := free_row (j := 3) HG4.out.box; clear hb4) | fail)
      go_meet
      exact ⟨.slice none 0 0, Lib.hid (OB.nil _), Lib.hid (fun b e => by simp [Value.ownBlock] at e), Lib.hid (((HG4.out.set1 1 _).set1 2 _).set1 3 _)⟩
    by_cases h3 : op = 3
    · subst h3
      obtain ⟨obj, hob⟩ : ∃ x, IntKind.i64.wrap (gv zs 2 8) = x := ⟨_, rfl⟩
      obtain ⟨hi, hhi⟩ : ∃ x, gv zs 18 8 = x := ⟨_, rfl⟩
      obtain ⟨lo, hlo⟩ : ∃ x, gv zs 10 8 = x := ⟨_, rfl⟩
      have hg' : guessR 3 zs = { zr with obj := obj, hi := hi, lo := lo } := by unfold guessR; rw [HCD.out]; simp [hob, hhi, hlo]
      rw [HGE.out] at hg'
      subst hg'
      have P1 := Lib.hid (get_any W (.slice A m c) zs 2 8 (HV.out.below HG1.out.below) HBZ.out (by omega) (by omega) 2 8 rfl rfl)
      have P2 := Lib.hid (dword_any W (.slice A m c) zs 10 (HV.out.below HG1.out.below) HBZ.out (by omega) 10 rfl)
      rw [show (10 : Nat) + 8 = 18 from rfl] at P2
      rw [hob] at P1
      rw [hhi, hlo] at P2
      clear hob hhi hlo
      go_wp2_with (first | (go_at_call 43; (with_reducible refine P1.out.mono ?_); rintro e w1 ⟨rfl, rfl⟩) | (go_at_call 44; (with_reducible refine P2.out.mono ?_); rintro e w4 ⟨rfl, hb4⟩; have HG4 := Lib.hid (HG1.out.on hb4); have y41 := cell_row (j := 1) HG4.out.box rfl; have y42 := cell_row (j := 2) HG4.out.box rfl; have y43 := cell_row (j := 3) HG4.out.box rfl; have z41 := free_row (j := 1) HG4.out.box; have z42 := free_row (j := 2) HG4.out.box; have z43 := free_row (j := 3) HG4.out.box; clear hb4) | fail)
      go_meet
      exact ⟨.slice none 0 0, Lib.hid (OB.nil _), Lib.hid (fun b e => by simp [Value.ownBlock] at e), Lib.hid (((HG4.out.set1 1 _).set1 2 _).set1 3 _)⟩
    by_cases h5 : op = 5
    · subst h5
      obtain ⟨ys, hys⟩ : ∃ ys, zs.drop 2 = ys := ⟨_, rfl⟩
      have hg' : guessR 5 zs = { zr with da := ys } := by unfold guessR; rw [HCD.out]; simp [hys]
      rw [HGE.out] at hg'
      subst hg'
      by_cases hl : 2 < m
      rotate_left
      · have hl' : ¬ (2 : Int) < (m : Int) := by omega
        obtain rfl : ys = [] := by rw [← hys]; exact List.drop_eq_nil_of_le (by rw [HM.out]; omega)
        go_wp2
        go_meet
        exact ⟨.slice none 0 0, Lib.hid (OB.nil _), Lib.hid (fun b e => by simp [Value.ownBlock] at e), HG1⟩
      · have hl' : (2 : Int) < (m : Int) := by omega
        obtain ⟨g, o, rfl⟩ := HA3.out (by omega)
        have HDR := Lib.hid ((HV.out.below HG1.out.below).dropK 2)
        have hdl : (zs.drop 2).length = m - 2 := by rw [List.length_drop, HM.out]
        rw [hdl] at HDR
        have HDL := Lib.hid hdl
        rw [hys] at HDR HDL
        have hln := HLN.out
        rw [HM.out] at hln
        clear hys hdl
        have hc0 : ¬ c = 2 := by omega
        have hm1 : (2 : Int) ≤ (m : Int) := by omega
        have hm2 : (m : Int) ≤ (c : Int) := by omega
        have hm3 : 2 ≤ m := by omega
        have y4 := cell_row (j := 4) HG1.out.box rfl
        go_wp2_with fail
        go_still_tail 4, (by kernel_rfl)
        change wpList _ _ _ _ _ W.drew
        have HG2 : Hid (GI w #[.int .i64 0, .int .i64 0, .int .u64 0, .int .u64 0, .slice none 0 0, .int .i64 0] 45 #[.int .i64 0, .int .i64 0, .int .u64 0, .int .u64 0, .slice none 0 0, .int .i64 0] W.drew) := Lib.hid ⟨HG1.out.res, HG1.out.box, HG1.out.below.drew, HG1.out.size⟩
        have HDR2 : Hid (RB W.drew (.slice (some ⟨g, o + 2, none⟩) (m - 2) (c - 2)) ys) := Lib.hid (HDR.out.below ((Below.refl _ W).drew))
        generalize W.drew = W2 at HG2 HDR2 ⊢
        clear y0 y4 HG1 HDR
        go_wp2_with (first | (at_builtin; refine list_app2 rfl (.tmp 31) (.tmp 33) 27 rfl 5 0 _ 1 1 Try.underlying27 info5 rfl (by decide) (by decide) (.slice none 0 0) 0 [] rfl (OB.nil W2) (some ⟨g, o + 2, none⟩) (m - 2) (c - 2) (ys.map byteC) rfl (by rw [List.length_map, HDL.out, Nat.mul_one]) ((RB.holds HDR2.out).2) one8 (by omega) (Nat.zero_le _) ?_; intro v9 w9 hw1 hw2; obtain ⟨o9, b9, f9⟩ := app_r (w0 := W2) (zs := []) (ys := ys) HDL.out (Below.refl _ _) (fresh_nil _) hw1 hw2; have HO9 := Lib.hid o9; have HF9 := Lib.hid f9; have HG9 := Lib.hid (HG2.out.on b9); obtain ⟨A9, n9, k9, rfl⟩ : ∃ A n c, v9 = .slice A n c := (by obtain ⟨A, c, e, _⟩ := own_slice o9; exact ⟨_, _, _, e⟩); have y9 := cell_row (j := 4) HG9.out.box rfl; have z9 := free_row (j := 4) HG9.out.box; clear hw1 hw2 o9 b9 f9) | fail)
        go_meet
        exact ⟨.slice A9 n9 k9, Lib.hid (ob_at ((Kept.refl _ _).setCell (.inl (.inr rfl)) _) HO9.out (fun b hb => Nat.le_trans HG2.out.size (HF9.out b hb))), Lib.hid (fun b hb => Nat.le_trans HG2.out.size (HF9.out b hb)), Lib.hid (HG9.out.set1 4 _)⟩
    by_cases h9 : op = 9
    · subst h9
      obtain ⟨nu, hnu⟩ : ∃ x, gv zs 2 2 = x := ⟨_, rfl⟩
      have hg' : guessR 9 zs = { zr with nu := nu } := by unfold guessR; rw [HCD.out]; simp [hnu]
      rw [HGE.out] at hg'
      subst hg'
      have P1 := Lib.hid (get_any W (.slice A m c) zs 2 2 (HV.out.below HG1.out.below) HBZ.out (by omega) (by omega) 2 2 rfl rfl)
      have hn2 := gv_lo HBZ.out 2 2
      rw [hnu] at hn2 P1
      rw [show IntKind.i64.wrap nu = nu by rw [IntKind.wrap_i64]; omega] at P1
      clear hnu hn2
      have y5 := cell_row (j := 5) HG1.out.box rfl
      have z5 := free_row (j := 5) HG1.out.box
      go_wp2_with (first | (go_at_call 43; (with_reducible refine P1.out.mono ?_); rintro e w1 ⟨rfl, rfl⟩) | fail)
      go_meet
      exact ⟨.slice none 0 0, Lib.hid (OB.nil _), Lib.hid (fun b e => by simp [Value.ownBlock] at e), Lib.hid (HG1.out.set1 5 _)⟩
    have hg' : guessR op zs = zr := by unfold guessR; rw [HCD.out]; simp [h1, h3, h5, h9]
    rw [HGE.out] at hg'
    subst hg'
    go_wp2
    go_meet
    exact ⟨.slice none 0 0, Lib.hid (OB.nil _), Lib.hid (fun b e => by simp [Value.ownBlock] at e), HG1⟩
  obtain ⟨D, HD, HF, HG⟩ := hcut
  have RA := rans_any wc op G D HD.out.reads HGF.out.1 HGF.out.2.1
  unfold rv at RA
  replace RA := Lib.hid RA
  clear y0 HG1
  by_cases ht : toldR op G
  rotate_left
  · have e1 : ansE op G = 1 := if_neg ht
    have e2 : ansO op G = [] := if_neg ht
    rw [e1, e2] at RA
    have HPC : Hid (parseR op zs = none) := Lib.hid (by rw [HPG.out]; exact if_neg (fun h => ht h.1))
    clear ht e1 e2
    go_wp2_with (first | (refine wpList_load_row rfl 45 (.tmp 6) rfl (w.heap.size + 1) 45 (rcells G D) (0, 0) _ rfl HG.out.box Try.underlying45 rfl info45 ?_) | (go_at_call 16; (with_reducible refine RA.out.mono ?_); rintro e w5 ⟨v5, rfl, o5, b5, f5⟩; have HG5 := Lib.hid (HG.out.on b5); clear o5 b5 f5) | (refine wpList_store_row rfl 45 (.tmp 4) (.tmp 56) rfl w.heap.size 45 #[.int .i64 0, .int .i64 0, .int .u64 0, .int .u64 0, .slice none 0 0, .int .i64 0] #[.int .i64 0, .int .i64 0, .int .u64 0, .int .u64 0, .slice none 0 0, .int .i64 0] rfl rfl HG5.out.res info45 rfl (by simp [Value.oneCell']) ?_) | fail)
    have FN := HG5.out.fin #[.int .i64 0, .int .i64 0, .int .u64 0, .int .u64 0, .slice none 0 0, .int .i64 0]
    refine bodyPost_ret (res_ct rfl _ _ w.heap.size _ _ rfl rfl (run_loadVar_row _ w.heap.size 45 45 _ (0, 0) _ FN.1 Try.underlying45 rfl info45)) rfl (HR.out _ _ ?_)
    exact pa_none HPC.out FN.2.1
  have e1 : ansE op G = 0 := if_pos ht
  have e2 : ansO op G = encR op G := if_pos ht
  rw [e1, e2] at RA
  by_cases he : encR op G = zs
  rotate_left
  · have HPC : Hid (parseR op zs = none) := Lib.hid (by rw [HPG.out]; exact if_neg (fun h => he h.2))
    have hd : decide (encR op G = zs) = false := decide_eq_false he
    clear ht he e1 e2
    go_wp2_with (first | (refine wpList_load_row rfl 45 (.tmp 6) rfl (w.heap.size + 1) 45 (rcells G D) (0, 0) _ rfl HG.out.box Try.underlying45 rfl info45 ?_) | (go_at_call 16; (with_reducible refine RA.out.mono ?_); rintro e w5 ⟨v5, rfl, o5, b5, f5⟩; have HG5 := Lib.hid (HG.out.on b5); have cv1 := o5.reads.conv; have cv2 := ((HV.out.below HG.out.below).below b5).conv; have HO5 := Lib.hid o5; have hsq := str_eq (encR_bytes (op := op) HGF.out.2.2) HBZ.out; rw [hd] at hsq; generalize strOfNums (encR op G) = S1 at cv1 hsq; generalize strOfNums zs = S2 at cv2 hsq; clear o5 b5 f5) | (refine wpList_store_row rfl 45 (.tmp 4) (.tmp 56) rfl w.heap.size 45 #[.int .i64 0, .int .i64 0, .int .u64 0, .int .u64 0, .slice none 0 0, .int .i64 0] #[.int .i64 0, .int .i64 0, .int .u64 0, .int .u64 0, .slice none 0 0, .int .i64 0] rfl rfl HG5.out.res info45 rfl (by simp [Value.oneCell']) ?_) | fail)
    have FN := HG5.out.fin #[.int .i64 0, .int .i64 0, .int .u64 0, .int .u64 0, .slice none 0 0, .int .i64 0]
    refine bodyPost_ret (res_ct rfl _ _ w.heap.size _ _ rfl rfl (run_loadVar_row _ w.heap.size 45 45 _ (0, 0) _ FN.1 Try.underlying45 rfl info45)) rfl (HR.out _ _ ?_)
    exact pa_none HPC.out FN.2.1
  have HPC : Hid (parseR op zs = some G) := Lib.hid (by rw [HPG.out]; exact if_pos ⟨ht, he⟩)
  have hd : decide (encR op G = zs) = true := decide_eq_true he
  clear ht he e1 e2
  go_wp2_with (first | (refine wpList_load_row rfl 45 (.tmp 6) rfl (w.heap.size + 1) 45 (rcells G D) (0, 0) _ rfl HG.out.box Try.underlying45 rfl info45 ?_) | (go_at_call 16; (with_reducible refine RA.out.mono ?_); rintro e w5 ⟨v5, rfl, o5, b5, f5⟩; have HG5 := Lib.hid (HG.out.on b5); have HD5 := Lib.hid (HD.out.below b5); have cv1 := o5.reads.conv; have cv2 := ((HV.out.below HG.out.below).below b5).conv; have HO5 := Lib.hid o5; have hsq := str_eq (encR_bytes (op := op) HGF.out.2.2) HBZ.out; rw [hd] at hsq; generalize strOfNums (encR op G) = S1 at cv1 hsq; generalize strOfNums zs = S2 at cv2 hsq; clear o5 b5 f5) | (refine wpList_load_row rfl 45 (.tmp 6) rfl (w.heap.size + 1) 45 (rcells G D) (0, 0) _ rfl HG5.out.box Try.underlying45 rfl info45 ?_) | (refine wpList_store_row rfl 45 (.tmp 4) (.tmp 57) rfl w.heap.size 45 #[.int .i64 0, .int .i64 0, .int .u64 0, .int .u64 0, .slice none 0 0, .int .i64 0] (rcells G D) rfl rfl HG5.out.res info45 rfl (ones_r HD.out) ?_) | fail)
  have FN := HG5.out.fin (rcells G D)
  refine bodyPost_ret (res_ct rfl _ _ w.heap.size _ _ rfl rfl (run_loadVar_row _ w.heap.size 45 45 _ (0, 0) _ FN.1 Try.underlying45 rfl info45)) rfl (HR.out _ _ ?_)
  rw [HPC.out]
  exact ⟨D, rfl, ob_at (FN.2.2.mono (fun b hb => .inl hb)) HD5.out HF.out, fun b hb => by have := HF.out b hb; omega, FN.2.1⟩
end Go.Proofs.Ytfpkdbogapmhmaa.O

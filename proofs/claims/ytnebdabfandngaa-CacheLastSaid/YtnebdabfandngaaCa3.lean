/- The cache: what is put; a new epoch; what is told; a new cache. -/
import Derived.Test.YtnebdabfandngaaCa2
import Derived.StillTailTactics
namespace Go.Proofs.Ytnebdabfandngaa.C
open Go.RowKit Go.Proofs.Ytnebdabfandngaa.Mem
theorem roomP_lt (epoch : Int) (f : Nat → Pl) (n : Nat) : ∀ {k i b : Nat}, b < n → i + k ≤ n → roomP epoch f i k b < n
  | 0, i, b, hb, _ => hb
  | k + 1, i, b, hb, h => by
    rw [roomP]
    split
    · exact roomP_lt epoch f n (by split <;> omega) (by omega)
    · omega
theorem CAt.placed {w : World} {p sets ways : Nat} {knob epoch puts hits misses : Int} {pl : Nat → Pl} (h : CAt w p sets ways knob pl epoch puts hits misses) {q : Nat} (hq : q < 64) (x : Pl) : CAt (w.setCells p (3 + q * 7) (plL x)) p sets ways knob (upd pl q x) epoch puts hits misses := by
  have hk : Kept (fun k => k = p) w (w.setCells p (3 + q * 7) (plL x)) := Kept.setCells _ _ (Kept.refl _ w) rfl
  have out : ∀ j, j < 3 + q * 7 ∨ 3 + q * 7 + 7 ≤ j → (w.setCells p (3 + q * 7) (plL x)).cell? ⟨p, j, none⟩ = w.cell? ⟨p, j, none⟩ := fun j hj => World.cell?_setCells_out p (plL x) (3 + q * 7) w ⟨p, j, none⟩ (fun _ _ => hj)
  refine ⟨Nat.lt_of_lt_of_le h.lt hk.size, fun j hj => by rw [World.frozen?_setCells]; exact h.free j hj, (out 0 (by omega)).trans h.c0, (out 1 (by omega)).trans h.c1, (out 2 (by omega)).trans h.c2, fun r hr j v hv => ?_, (out 451 (by omega)).trans h.ce, (out 452 (by omega)).trans h.cn, (out 453 (by omega)).trans h.ch, (out 454 (by omega)).trans h.cm⟩
  have hj : j < 7 := (List.getElem?_eq_some_iff.1 hv).1
  by_cases e : r = q
  · subst e
    rw [upd_same] at hv
    have hth : ∀ k, k < (plL x).length → (w.cell? ⟨p, 3 + r * 7 + k, none⟩).isSome = true := fun k hk => by
      have hk7 : k < (plL (pl r)).length := hk
      rw [h.cp r hr k _ (List.getElem?_eq_getElem hk7)]
      rfl
    rw [World.cell?_setCells_in p (plL x) (3 + r * 7) w hth j hj]
    exact (List.getElem?_eq_getElem hj).symm.trans hv
  · rw [upd_else _ _ e] at hv
    exact (out _ (by omega)).trans (h.cp r hr j v hv)
def putAt (epoch : Int) (c : Cap) (f : Nat → Pl) (ways : Nat) : Nat := (findP epoch c f 0 ways).getD (roomP epoch f 0 ways 0)
set_option maxHeartbeats 4000000 in
theorem put_any (w : World) (p sets ways : Nat) (knob epoch puts hits misses : Int) (pl : Nat → Pl) (h : CAt w p sets ways knob pl epoch puts hits misses) (hw : ways ≤ 4) (hw0 : 0 < ways) (hs : sets ≤ 16) (c : Cap) (r : Int) (s : Nat) (hh : homeN sets knob c = (s : Int)) (hpos : 0 < sets) (hss : s < sets) (hn0 : 0 ≤ puts) (hn1 : puts < 4000000000000000000) :
    Calls Try.prog 12 #[.pointer (some ⟨p, 0, none⟩), capV c, .int .i64 r] w fun e w' => e = .returned (.tuple #[]) ∧ CAt w' p sets ways knob (upd pl (s * 4 + putAt epoch c (nPl pl s) ways) ⟨true, c, r, epoch, puts + 1⟩) epoch (puts + 1) hits misses ∧ Kept (fun k => k = p) w w' := by
  have hb := (Below.refl w.heap.size w).alloc (Nat.le_refl _) (.cells #[.int .i64 c.obj, .int .u64 c.hi, .int .u64 c.lo] 36)
  have F0 := Lib.hid (h.below hb)
  have HB0 := Lib.hid hb
  have c0 := F0.out.c0
  have HOF : Hid (∀ a, CAt a p sets ways knob pl epoch puts hits misses → Calls Try.prog 20 #[.pointer (some ⟨p, 0, none⟩), capV c] a fun e w' => e = .returned (.int .i64 (s : Int)) ∧ Below a.heap.size a w') := fun a ha => by
    have := of_any a p sets ways knob epoch puts hits misses pl ha hpos hs c
    rw [hh] at this
    exact this
  obtain ⟨X, hX⟩ : ∃ X, setL (nPl pl s) = X := ⟨_, rfl⟩
  have h28 : X.length = 28 := by rw [← hX]; rfl
  have i58 : (Try.prog.info? 58).map (·.size) = some X.length := by rw [h28]; exact info58
  have HFI : Hid (∀ a, CAt a p sets ways knob pl epoch puts hits misses → Calls Try.prog 21 #[.pointer (some ⟨p, 0, none⟩), .agg X.toArray, capV c] a fun e w' => e = .returned (foundV (findP epoch c (nPl pl s) 0 ways)) ∧ Below a.heap.size a w') := fun a ha => find_any a p sets ways knob epoch puts hits misses pl ha hw (nPl pl s) _ hX.symm c
  have HRO : Hid (∀ a, CAt a p sets ways knob pl epoch puts hits misses → Calls Try.prog 22 #[.pointer (some ⟨p, 0, none⟩), .agg X.toArray] a fun e w' => e = .returned (.int .i64 (roomP epoch (nPl pl s) 0 ways 0)) ∧ Below a.heap.size a w') := fun a ha => room_any a p sets ways knob epoch puts hits misses pl ha hw (nPl pl s) _ hX.symm
  have hplt := h.lt
  have i0 : (0 : Int) ≤ (s : Int) := by omega
  have i1 : (s : Int) < 16 := by omega
  have hne : ¬ sets = 0 := by omega
  obtain ⟨f, hf⟩ : ∃ f, nPl pl s = f := ⟨_, rfl⟩
  obtain ⟨R, hR⟩ : ∃ R, findP epoch c f 0 ways = R := ⟨_, rfl⟩
  have hput : putAt epoch c f ways = R.getD (roomP epoch f 0 ways 0) := by unfold putAt; rw [hR]
  rw [hf] at HFI HRO hX ⊢
  rw [hR] at HFI
  have HF := Lib.hid hf
  have HX := Lib.hid hX
  have HRR := Lib.hid hR
  have HP := Lib.hid hput
  clear h hb hh hf hR hput hX h28
  go_enter Try.func12, Try.ntmps12
  go_wp2_with fail
  (with_reducible refine (HOF.out _ F0.out).mono ?_)
  rintro e w1 ⟨rfl, b1⟩
  have F1 := Lib.hid (F0.out.below b1)
  have HB1 := Lib.hid (HB0.out.trans (b1.mono HB0.out.size))
  have ST : Hid (GetS w.heap.size p s X c w1 w1.drew) := ⟨cl b1 (by simp), cl b1 (by simp), cl b1 (by simp), by rw [← HX.out, ← HF.out]; exact F1.out.range (by omega), (Below.refl _ _).drew⟩
  have KEEP : Hid (∀ a b, Below a.heap.size a b → GetS w.heap.size p s X c w1 a → GetS w.heap.size p s X c w1 b) := fun a b hb h => h.later hb
  have AD : Hid (∀ a, GetS w.heap.size p s X c w1 a → CAt a p sets ways knob pl epoch puts hits misses) := fun a h => F1.out.below h.2.2.2.2
  clear b1 F0 HB0 c0 HOF
  cases R with
  | some i =>
    have HFN : Hid (∀ a, CAt a p sets ways knob pl epoch puts hits misses → Calls Try.prog 21 #[.pointer (some ⟨p, 0, none⟩), .agg X.toArray, capV c] a fun e w' => e = .returned (.tuple #[.int .i64 i, .bool true]) ∧ Below a.heap.size a w') := HFI
    have hi4 : i < 4 := by have := findP_lt HRR.out; omega
    have hi8 : (i : Int) < 4 := by omega
    have hi9 : (0 : Int) ≤ (i : Int) := by omega
    have HPI : Hid (putAt epoch c f ways = i) := HP.out
    clear HP HRR HRO
    go_wp2_with fail
    refine wp_region_held_drew (S := GetS w.heap.size p s X c w1) (by kernel_rfl) (ST.out) (fun hHeld => ?_)
    refine wpAnyH_take (i := 0) (oi := { dst := some 18, op := Op.move (Operand.tmp 0), type := 23, pos := "cache.go:90", after := #[], guard := none }) (v := ?_) rfl (by kernel_rfl) (by kernel_rfl) (by kernel_rfl) (fun _ _ _ h => h) (Or.inl ⟨by rfl, ?hy0_1⟩) (by assumption) ?rest0_1
    case hy0_1 => (intro w hSw; obtain ⟨hs0, hs1, hs2, hs3, hs4⟩ := hSw; go_simp; try with_reducible rfl)
    try simp only [Act.put, List.setIfInBounds_toArray, List.set_cons_zero, List.set_cons_succ]
    refine wpAnyH_take (i := 1) (oi := { dst := some 19, op := Op.move (Operand.tmp 0), type := 23, pos := "cache.go:90", after := #[], guard := none }) (v := ?_) rfl (by kernel_rfl) (by kernel_rfl) (by kernel_rfl) (fun _ _ _ h => h) (Or.inl ⟨by rfl, ?hy1_2⟩) (by assumption) ?rest1_2
    case hy1_2 => (intro w hSw; obtain ⟨hs0, hs1, hs2, hs3, hs4⟩ := hSw; go_simp; try with_reducible rfl)
    try simp only [Act.put, List.setIfInBounds_toArray, List.set_cons_zero, List.set_cons_succ]
    refine wpAnyH_take (i := 2) (oi := { dst := some 20, op := Op.move (Operand.tmp 6), type := 3, pos := "cache.go:90", after := #[], guard := none }) (v := ?_) rfl (by kernel_rfl) (by kernel_rfl) (by kernel_rfl) (fun _ _ _ h => h) (Or.inl ⟨by rfl, ?hy2_3⟩) (by assumption) ?rest2_3
    case hy2_3 => (intro w hSw; obtain ⟨hs0, hs1, hs2, hs3, hs4⟩ := hSw; go_simp; try with_reducible rfl)
    try simp only [Act.put, List.setIfInBounds_toArray, List.set_cons_zero, List.set_cons_succ]
    refine wpAnyH_take (i := 3) (oi := { dst := some 21, op := Op.nilCheck (Operand.tmp 19), type := 0, pos := "cache.go:90", after := #[{ on := 1, ground := Ground.data }], guard := none }) (v := ?_) rfl (by kernel_rfl) (by kernel_rfl) (by kernel_rfl) (fun _ _ _ h => h) (Or.inl ⟨by rfl, ?hy3_4⟩) (by assumption) ?rest3_4
    case hy3_4 => (intro w hSw; obtain ⟨hs0, hs1, hs2, hs3, hs4⟩ := hSw; go_simp; try with_reducible rfl)
    try simp only [Act.put, List.setIfInBounds_toArray, List.set_cons_zero, List.set_cons_succ]
    refine wpAnyH_take (i := 4) (oi := { dst := some 22, op := Op.fieldAddr 62 (Operand.tmp 21) 3, type := 0, pos := "cache.go:90", after := #[{ on := 3, ground := Ground.data }], guard := none }) (v := ?_) rfl (by kernel_rfl) (by kernel_rfl) (by kernel_rfl) (fun _ _ _ h => h) (Or.inl ⟨by rfl, ?hy4_5⟩) (by assumption) ?rest4_5
    case hy4_5 => (intro w hSw; obtain ⟨hs0, hs1, hs2, hs3, hs4⟩ := hSw; go_simp; try with_reducible rfl)
    try simp only [Act.put, List.setIfInBounds_toArray, List.set_cons_zero, List.set_cons_succ]
    refine wpAnyH_take (i := 5) (oi := { dst := some 23, op := Op.indexAddr 60 (Operand.tmp 22) (Operand.tmp 20), type := 0, pos := "cache.go:90", after := #[{ on := 4, ground := Ground.data }, { on := 2, ground := Ground.data }], guard := none }) (v := ?_) rfl (by kernel_rfl) (by kernel_rfl) (by kernel_rfl) (fun _ _ _ h => h) (Or.inl ⟨by rfl, ?hy5_6⟩) (by assumption) ?rest5_6
    case hy5_6 => (intro w hSw; obtain ⟨hs0, hs1, hs2, hs3, hs4⟩ := hSw; go_simp; try with_reducible rfl)
    try simp only [Act.put, List.setIfInBounds_toArray, List.set_cons_zero, List.set_cons_succ]
    refine wpAnyH_take (i := 6) (oi := { dst := some 24, op := Op.load 58 (Operand.tmp 23), type := 58, pos := "cache.go:90", after := #[{ on := 5, ground := Ground.data }], guard := none }) (v := .agg X.toArray) rfl (by kernel_rfl) (by kernel_rfl) (by kernel_rfl) (fun _ _ _ h => h) (yieldsIf_load_mid (by rfl) 58 (.tmp 23) rfl p (3 + s * 28) rfl X _ (fun w h => h.2.2.2.1) Try.underlying58 rfl i58) (by assumption) ?_
    try simp only [Act.put, List.setIfInBounds_toArray, List.set_cons_zero, List.set_cons_succ]
    refine wpAnyH_take (i := 7) (oi := { dst := some 25, op := Op.load 36 (Operand.tmp 4), type := 36, pos := "cache.go:90", after := #[], guard := none }) (v := ?_) rfl (by kernel_rfl) (by kernel_rfl) (by kernel_rfl) (fun _ _ _ h => h) (Or.inl ⟨by rfl, ?hy7_7⟩) (by assumption) ?rest7_7
    case hy7_7 => (intro w hSw; obtain ⟨hs0, hs1, hs2, hs3, hs4⟩ := hSw; go_simp; try with_reducible rfl)
    try simp only [Act.put, List.setIfInBounds_toArray, List.set_cons_zero, List.set_cons_succ]
    refine wpAnyH_ready (rs := [8]) (by kernel_rfl) (by simp) ?_
    refine AllReadyH.cons (o := { dst := some 26, op := Op.call { callee := Callee.value (Operand.func 21), args := #[Operand.tmp 18, Operand.tmp 24, Operand.tmp 25], argTypes := #[23, 58, 36] }, type := 39, pos := "cache.go:90", after := #[{ on := 0, ground := Ground.data }, { on := 6, ground := Ground.data }, { on := 7, ground := Ground.data }], guard := none }) rfl (fun K hK => ?_) AllReadyH.nil
    go_simp
    (go_at_call 21; (with_reducible refine (HFN.out _ ?_).mono ?_); exact AD.out _ hHeld; rintro e w2 ⟨rfl, hb1⟩)
    refine hK.out _ _ (KEEP.out _ _ hb1 hHeld) (fun hHeld2 => ?_)
    clear hK K hHeld
    have hHeld := hHeld2
    clear hHeld2
    try simp only [Act.put, List.setIfInBounds_toArray, List.set_cons_zero, List.set_cons_succ]
    refine wpAnyH_take (i := 9) (oi := { dst := some 17, op := Op.move (Operand.tmp 26), type := 39, pos := "cache.go:90", after := #[{ on := 8, ground := Ground.data }], guard := none }) (v := ?_) rfl (by kernel_rfl) (by kernel_rfl) (by kernel_rfl) (fun _ _ _ h => h) (Or.inl ⟨by rfl, ?hy9_8⟩) (by assumption) ?rest9_8
    case hy9_8 => (intro w hSw; obtain ⟨hs0, hs1, hs2, hs3, hs4⟩ := hSw; go_simp; try with_reducible rfl)
    try simp only [Act.put, List.setIfInBounds_toArray, List.set_cons_zero, List.set_cons_succ]
    refine wpAnyH_take (i := 10) (oi := { dst := some 27, op := Op.extract (Operand.tmp 17) 0, type := 3, pos := "cache.go:90", after := #[{ on := 9, ground := Ground.data }], guard := none }) (v := ?_) rfl (by kernel_rfl) (by kernel_rfl) (by kernel_rfl) (fun _ _ _ h => h) (Or.inl ⟨by rfl, ?hy10_9⟩) (by assumption) ?rest10_9
    case hy10_9 => (intro w hSw; obtain ⟨hs0, hs1, hs2, hs3, hs4⟩ := hSw; go_simp; try with_reducible rfl)
    try simp only [Act.put, List.setIfInBounds_toArray, List.set_cons_zero, List.set_cons_succ]
    refine wpAnyH_take (i := 11) (oi := { dst := some 28, op := Op.extract (Operand.tmp 17) 1, type := 4, pos := "cache.go:90", after := #[{ on := 9, ground := Ground.data }, { on := 12, ground := Ground.gcOnly Departure.lateStores }], guard := none }) (v := ?_) rfl (by kernel_rfl) (by kernel_rfl) (by kernel_rfl) (fun _ _ _ h => h) (Or.inl ⟨by rfl, ?hy11_10⟩) (by assumption) ?rest11_10
    case hy11_10 => (intro w hSw; obtain ⟨hs0, hs1, hs2, hs3, hs4⟩ := hSw; go_simp; try with_reducible rfl)
    try simp only [Act.put, List.setIfInBounds_toArray, List.set_cons_zero, List.set_cons_succ]
    refine wpAnyH_take (i := 12) (oi := { dst := some 7, op := Op.assign (Operand.tmp 27), type := 3, pos := "cache.go:90", after := #[{ on := 10, ground := Ground.data }, { on := 8, ground := Ground.chain }, { on := 0, ground := Ground.phase }, { on := 1, ground := Ground.phase }, { on := 2, ground := Ground.phase }, { on := 3, ground := Ground.phase }, { on := 4, ground := Ground.phase }, { on := 5, ground := Ground.phase }, { on := 6, ground := Ground.phase }, { on := 7, ground := Ground.phase }, { on := 8, ground := Ground.phase }, { on := 9, ground := Ground.phase }, { on := 10, ground := Ground.phase }, { on := 11, ground := Ground.textOnly Departure.lateStores }], guard := none }) (v := ?_) rfl (by kernel_rfl) (by kernel_rfl) (by kernel_rfl) (fun _ _ _ h => h) (Or.inl ⟨by rfl, ?hy12_11⟩) (by assumption) ?rest12_11
    case hy12_11 => (intro w hSw; obtain ⟨hs0, hs1, hs2, hs3, hs4⟩ := hSw; go_simp; try with_reducible rfl)
    try simp only [Act.put, List.setIfInBounds_toArray, List.set_cons_zero, List.set_cons_succ]
    refine wpAnyH_take (i := 13) (oi := { dst := some 8, op := Op.assign (Operand.tmp 28), type := 4, pos := "cache.go:90", after := #[{ on := 11, ground := Ground.data }, { on := 12, ground := Ground.chain }, { on := 0, ground := Ground.phase }, { on := 1, ground := Ground.phase }, { on := 2, ground := Ground.phase }, { on := 3, ground := Ground.phase }, { on := 4, ground := Ground.phase }, { on := 5, ground := Ground.phase }, { on := 6, ground := Ground.phase }, { on := 7, ground := Ground.phase }, { on := 8, ground := Ground.phase }, { on := 9, ground := Ground.phase }, { on := 10, ground := Ground.phase }, { on := 11, ground := Ground.phase }, { on := 12, ground := Ground.phase }], guard := none }) (v := ?_) rfl (by kernel_rfl) (by kernel_rfl) (by kernel_rfl) (fun _ _ _ h => h) (Or.inl ⟨by rfl, ?hy13_12⟩) (by assumption) ?rest13_12
    case hy13_12 => (intro w hSw; obtain ⟨hs0, hs1, hs2, hs3, hs4⟩ := hSw; go_simp; try with_reducible rfl)
    try simp only [Act.put, List.setIfInBounds_toArray, List.set_cons_zero, List.set_cons_succ]
    refine wpAnyH_done (by kernel_rfl) ?_ _
    have HC2 := Lib.hid (AD.out _ hHeld)
    have HB2 := Lib.hid (HB1.out.trans (hHeld.2.2.2.2.mono HB1.out.size))
    have k0 := hHeld.1
    have k1 := hHeld.2.1
    have k2 := hHeld.2.2.1
    have cn := HC2.out.cn
    have fn := HC2.out.free 452 (by decide)
    have HXR := Lib.hid hHeld.2.2.2.1
    clear hHeld hb1 ST KEEP AD F1

    clear HFN HFI
    go_wp2_with fail
    have hk3 : Kept (fun k => k = p) w2 (w2.setCell ⟨p, 452, none⟩ (.int .i64 (puts + 1))) := (Kept.refl (fun k => k = p) w2).setCell (p := ⟨p, 452, none⟩) (.inl rfl) _
    have HC3 := Lib.hid (HC2.out.count (puts + 1))
    have HK3 : Hid (Kept (fun k => k = p) w (w2.setCell ⟨p, 452, none⟩ (.int .i64 (puts + 1)))) := (Kept.of_below (S := fun k => k = p) HB2.out).setCell (p := ⟨p, 452, none⟩) (.inl rfl) _
    have hgp : w.heap.size ≠ p := by omega
    have m0 := (hk3.cell (p := ⟨w.heap.size, 0, none⟩) (World.block_lt_of_cell? w2 _ k0) hgp).trans k0
    have m1 := (hk3.cell (p := ⟨w.heap.size, 1, none⟩) (World.block_lt_of_cell? w2 _ k1) hgp).trans k1
    have m2 := (hk3.cell (p := ⟨w.heap.size, 2, none⟩) (World.block_lt_of_cell? w2 _ k2) hgp).trans k2
    clear hk3 k0 k1 k2 cn fn HC2 HB2
    obtain ⟨w3, hw3⟩ : ∃ w3, w2.setCell ⟨p, 452, none⟩ (.int .i64 (puts + 1)) = w3 := ⟨_, rfl⟩
    rw [hw3] at HC3 HK3 m0 m1 m2 ⊢
    clear hw3
    have ce := HC3.out.ce
    have cn := HC3.out.cn
    have HC4 := Lib.hid (HC3.out.below (Below.refl _ w3).drew)
    have HK4 : Hid (Kept (fun k => k = p) w w3.drew) := HK3.out.drew
    have CP : Hid (CAt (w3.drew.setCells p (3 + s * 28 + i * 7) (plL ⟨true, c, r, epoch, puts + 1⟩)) p sets ways knob (upd pl (s * 4 + i) ⟨true, c, r, epoch, puts + 1⟩) epoch (puts + 1) hits misses) := by
      have := HC4.out.placed (q := s * 4 + i) (by omega) ⟨true, c, r, epoch, puts + 1⟩
      rwa [show 3 + (s * 4 + i) * 7 = 3 + s * 28 + i * 7 by omega] at this
    have HT : Hid (w3.drew.there p (3 + s * 28 + i * 7) 7) := fun j hj => by
      have h7 : j < (plL (pl (s * 4 + i))).length := hj
      have := HC4.out.cp (s * 4 + i) (by omega) j _ (List.getElem?_eq_getElem h7)
      rw [show 3 + (s * 4 + i) * 7 = 3 + s * 28 + i * 7 by omega] at this
      rw [this]
      exact ⟨rfl, HC4.out.free _ (by omega)⟩
    go_still_tail 18, (by kernel_rfl)
    change wpList _ _ _ _ _ w3.drew
    refine wpList_store_mid rfl 56 (.tmp 63) (.tmp 59) rfl p (3 + s * 28 + i * 7) (List.toArray (plL ⟨true, c, r, epoch, puts + 1⟩)) rfl rfl HT.out info56 (by simp [plL, Value.oneCell']) ?_
    rw [List.toList_toArray]
    go_wp2
    go_end0
    rw [HPI.out]
    exact ⟨rfl, CP.out, Kept.setCells _ _ HK4.out rfl⟩
  | none =>
    have HFN : Hid (∀ a, CAt a p sets ways knob pl epoch puts hits misses → Calls Try.prog 21 #[.pointer (some ⟨p, 0, none⟩), .agg X.toArray, capV c] a fun e w' => e = .returned (.tuple #[.int .i64 0, .bool false]) ∧ Below a.heap.size a w') := HFI
    have HPI : Hid (putAt epoch c f ways = roomP epoch f 0 ways 0) := HP.out
    have hi4 : roomP epoch f 0 ways 0 < 4 := by have := roomP_lt epoch f ways (k := ways) (i := 0) (b := 0) hw0 (by omega); omega
    obtain ⟨i, hi⟩ : ∃ i, roomP epoch f 0 ways 0 = i := ⟨_, rfl⟩
    rw [hi] at HPI hi4 HRO
    have hi8 : (i : Int) < 4 := by omega
    have hi9 : (0 : Int) ≤ (i : Int) := by omega
    clear HFI HP HRR hi
    go_wp2_with fail
    refine wp_region_held_drew (S := GetS w.heap.size p s X c w1) (by kernel_rfl) (ST.out) (fun hHeld => ?_)
    refine wpAnyH_take (i := 0) (oi := { dst := some 18, op := Op.move (Operand.tmp 0), type := 23, pos := "cache.go:90", after := #[], guard := none }) (v := ?_) rfl (by kernel_rfl) (by kernel_rfl) (by kernel_rfl) (fun _ _ _ h => h) (Or.inl ⟨by rfl, ?hy0_13⟩) (by assumption) ?rest0_13
    case hy0_13 => (intro w hSw; obtain ⟨hs0, hs1, hs2, hs3, hs4⟩ := hSw; go_simp; try with_reducible rfl)
    try simp only [Act.put, List.setIfInBounds_toArray, List.set_cons_zero, List.set_cons_succ]
    refine wpAnyH_take (i := 1) (oi := { dst := some 19, op := Op.move (Operand.tmp 0), type := 23, pos := "cache.go:90", after := #[], guard := none }) (v := ?_) rfl (by kernel_rfl) (by kernel_rfl) (by kernel_rfl) (fun _ _ _ h => h) (Or.inl ⟨by rfl, ?hy1_14⟩) (by assumption) ?rest1_14
    case hy1_14 => (intro w hSw; obtain ⟨hs0, hs1, hs2, hs3, hs4⟩ := hSw; go_simp; try with_reducible rfl)
    try simp only [Act.put, List.setIfInBounds_toArray, List.set_cons_zero, List.set_cons_succ]
    refine wpAnyH_take (i := 2) (oi := { dst := some 20, op := Op.move (Operand.tmp 6), type := 3, pos := "cache.go:90", after := #[], guard := none }) (v := ?_) rfl (by kernel_rfl) (by kernel_rfl) (by kernel_rfl) (fun _ _ _ h => h) (Or.inl ⟨by rfl, ?hy2_15⟩) (by assumption) ?rest2_15
    case hy2_15 => (intro w hSw; obtain ⟨hs0, hs1, hs2, hs3, hs4⟩ := hSw; go_simp; try with_reducible rfl)
    try simp only [Act.put, List.setIfInBounds_toArray, List.set_cons_zero, List.set_cons_succ]
    refine wpAnyH_take (i := 3) (oi := { dst := some 21, op := Op.nilCheck (Operand.tmp 19), type := 0, pos := "cache.go:90", after := #[{ on := 1, ground := Ground.data }], guard := none }) (v := ?_) rfl (by kernel_rfl) (by kernel_rfl) (by kernel_rfl) (fun _ _ _ h => h) (Or.inl ⟨by rfl, ?hy3_16⟩) (by assumption) ?rest3_16
    case hy3_16 => (intro w hSw; obtain ⟨hs0, hs1, hs2, hs3, hs4⟩ := hSw; go_simp; try with_reducible rfl)
    try simp only [Act.put, List.setIfInBounds_toArray, List.set_cons_zero, List.set_cons_succ]
    refine wpAnyH_take (i := 4) (oi := { dst := some 22, op := Op.fieldAddr 62 (Operand.tmp 21) 3, type := 0, pos := "cache.go:90", after := #[{ on := 3, ground := Ground.data }], guard := none }) (v := ?_) rfl (by kernel_rfl) (by kernel_rfl) (by kernel_rfl) (fun _ _ _ h => h) (Or.inl ⟨by rfl, ?hy4_17⟩) (by assumption) ?rest4_17
    case hy4_17 => (intro w hSw; obtain ⟨hs0, hs1, hs2, hs3, hs4⟩ := hSw; go_simp; try with_reducible rfl)
    try simp only [Act.put, List.setIfInBounds_toArray, List.set_cons_zero, List.set_cons_succ]
    refine wpAnyH_take (i := 5) (oi := { dst := some 23, op := Op.indexAddr 60 (Operand.tmp 22) (Operand.tmp 20), type := 0, pos := "cache.go:90", after := #[{ on := 4, ground := Ground.data }, { on := 2, ground := Ground.data }], guard := none }) (v := ?_) rfl (by kernel_rfl) (by kernel_rfl) (by kernel_rfl) (fun _ _ _ h => h) (Or.inl ⟨by rfl, ?hy5_18⟩) (by assumption) ?rest5_18
    case hy5_18 => (intro w hSw; obtain ⟨hs0, hs1, hs2, hs3, hs4⟩ := hSw; go_simp; try with_reducible rfl)
    try simp only [Act.put, List.setIfInBounds_toArray, List.set_cons_zero, List.set_cons_succ]
    refine wpAnyH_take (i := 6) (oi := { dst := some 24, op := Op.load 58 (Operand.tmp 23), type := 58, pos := "cache.go:90", after := #[{ on := 5, ground := Ground.data }], guard := none }) (v := .agg X.toArray) rfl (by kernel_rfl) (by kernel_rfl) (by kernel_rfl) (fun _ _ _ h => h) (yieldsIf_load_mid (by rfl) 58 (.tmp 23) rfl p (3 + s * 28) rfl X _ (fun w h => h.2.2.2.1) Try.underlying58 rfl i58) (by assumption) ?_
    try simp only [Act.put, List.setIfInBounds_toArray, List.set_cons_zero, List.set_cons_succ]
    refine wpAnyH_take (i := 7) (oi := { dst := some 25, op := Op.load 36 (Operand.tmp 4), type := 36, pos := "cache.go:90", after := #[], guard := none }) (v := ?_) rfl (by kernel_rfl) (by kernel_rfl) (by kernel_rfl) (fun _ _ _ h => h) (Or.inl ⟨by rfl, ?hy7_19⟩) (by assumption) ?rest7_19
    case hy7_19 => (intro w hSw; obtain ⟨hs0, hs1, hs2, hs3, hs4⟩ := hSw; go_simp; try with_reducible rfl)
    try simp only [Act.put, List.setIfInBounds_toArray, List.set_cons_zero, List.set_cons_succ]
    refine wpAnyH_ready (rs := [8]) (by kernel_rfl) (by simp) ?_
    refine AllReadyH.cons (o := { dst := some 26, op := Op.call { callee := Callee.value (Operand.func 21), args := #[Operand.tmp 18, Operand.tmp 24, Operand.tmp 25], argTypes := #[23, 58, 36] }, type := 39, pos := "cache.go:90", after := #[{ on := 0, ground := Ground.data }, { on := 6, ground := Ground.data }, { on := 7, ground := Ground.data }], guard := none }) rfl (fun K hK => ?_) AllReadyH.nil
    go_simp
    (go_at_call 21; (with_reducible refine (HFN.out _ ?_).mono ?_); exact AD.out _ hHeld; rintro e w2 ⟨rfl, hb1⟩)
    refine hK.out _ _ (KEEP.out _ _ hb1 hHeld) (fun hHeld2 => ?_)
    clear hK K hHeld
    have hHeld := hHeld2
    clear hHeld2
    try simp only [Act.put, List.setIfInBounds_toArray, List.set_cons_zero, List.set_cons_succ]
    refine wpAnyH_take (i := 9) (oi := { dst := some 17, op := Op.move (Operand.tmp 26), type := 39, pos := "cache.go:90", after := #[{ on := 8, ground := Ground.data }], guard := none }) (v := ?_) rfl (by kernel_rfl) (by kernel_rfl) (by kernel_rfl) (fun _ _ _ h => h) (Or.inl ⟨by rfl, ?hy9_20⟩) (by assumption) ?rest9_20
    case hy9_20 => (intro w hSw; obtain ⟨hs0, hs1, hs2, hs3, hs4⟩ := hSw; go_simp; try with_reducible rfl)
    try simp only [Act.put, List.setIfInBounds_toArray, List.set_cons_zero, List.set_cons_succ]
    refine wpAnyH_take (i := 10) (oi := { dst := some 27, op := Op.extract (Operand.tmp 17) 0, type := 3, pos := "cache.go:90", after := #[{ on := 9, ground := Ground.data }], guard := none }) (v := ?_) rfl (by kernel_rfl) (by kernel_rfl) (by kernel_rfl) (fun _ _ _ h => h) (Or.inl ⟨by rfl, ?hy10_21⟩) (by assumption) ?rest10_21
    case hy10_21 => (intro w hSw; obtain ⟨hs0, hs1, hs2, hs3, hs4⟩ := hSw; go_simp; try with_reducible rfl)
    try simp only [Act.put, List.setIfInBounds_toArray, List.set_cons_zero, List.set_cons_succ]
    refine wpAnyH_take (i := 11) (oi := { dst := some 28, op := Op.extract (Operand.tmp 17) 1, type := 4, pos := "cache.go:90", after := #[{ on := 9, ground := Ground.data }, { on := 12, ground := Ground.gcOnly Departure.lateStores }], guard := none }) (v := ?_) rfl (by kernel_rfl) (by kernel_rfl) (by kernel_rfl) (fun _ _ _ h => h) (Or.inl ⟨by rfl, ?hy11_22⟩) (by assumption) ?rest11_22
    case hy11_22 => (intro w hSw; obtain ⟨hs0, hs1, hs2, hs3, hs4⟩ := hSw; go_simp; try with_reducible rfl)
    try simp only [Act.put, List.setIfInBounds_toArray, List.set_cons_zero, List.set_cons_succ]
    refine wpAnyH_take (i := 12) (oi := { dst := some 7, op := Op.assign (Operand.tmp 27), type := 3, pos := "cache.go:90", after := #[{ on := 10, ground := Ground.data }, { on := 8, ground := Ground.chain }, { on := 0, ground := Ground.phase }, { on := 1, ground := Ground.phase }, { on := 2, ground := Ground.phase }, { on := 3, ground := Ground.phase }, { on := 4, ground := Ground.phase }, { on := 5, ground := Ground.phase }, { on := 6, ground := Ground.phase }, { on := 7, ground := Ground.phase }, { on := 8, ground := Ground.phase }, { on := 9, ground := Ground.phase }, { on := 10, ground := Ground.phase }, { on := 11, ground := Ground.textOnly Departure.lateStores }], guard := none }) (v := ?_) rfl (by kernel_rfl) (by kernel_rfl) (by kernel_rfl) (fun _ _ _ h => h) (Or.inl ⟨by rfl, ?hy12_23⟩) (by assumption) ?rest12_23
    case hy12_23 => (intro w hSw; obtain ⟨hs0, hs1, hs2, hs3, hs4⟩ := hSw; go_simp; try with_reducible rfl)
    try simp only [Act.put, List.setIfInBounds_toArray, List.set_cons_zero, List.set_cons_succ]
    refine wpAnyH_take (i := 13) (oi := { dst := some 8, op := Op.assign (Operand.tmp 28), type := 4, pos := "cache.go:90", after := #[{ on := 11, ground := Ground.data }, { on := 12, ground := Ground.chain }, { on := 0, ground := Ground.phase }, { on := 1, ground := Ground.phase }, { on := 2, ground := Ground.phase }, { on := 3, ground := Ground.phase }, { on := 4, ground := Ground.phase }, { on := 5, ground := Ground.phase }, { on := 6, ground := Ground.phase }, { on := 7, ground := Ground.phase }, { on := 8, ground := Ground.phase }, { on := 9, ground := Ground.phase }, { on := 10, ground := Ground.phase }, { on := 11, ground := Ground.phase }, { on := 12, ground := Ground.phase }], guard := none }) (v := ?_) rfl (by kernel_rfl) (by kernel_rfl) (by kernel_rfl) (fun _ _ _ h => h) (Or.inl ⟨by rfl, ?hy13_24⟩) (by assumption) ?rest13_24
    case hy13_24 => (intro w hSw; obtain ⟨hs0, hs1, hs2, hs3, hs4⟩ := hSw; go_simp; try with_reducible rfl)
    try simp only [Act.put, List.setIfInBounds_toArray, List.set_cons_zero, List.set_cons_succ]
    refine wpAnyH_done (by kernel_rfl) ?_ _
    have HC2 := Lib.hid (AD.out _ hHeld)
    have HB2 := Lib.hid (HB1.out.trans (hHeld.2.2.2.2.mono HB1.out.size))
    have k0 := hHeld.1
    have k1 := hHeld.2.1
    have k2 := hHeld.2.2.1
    have cn := HC2.out.cn
    have fn := HC2.out.free 452 (by decide)
    have HXR := Lib.hid hHeld.2.2.2.1
    clear hHeld hb1 ST KEEP AD F1

    clear HFN
    go_wp2_with (first | (with_reducible refine wpList_load_mid rfl 58 (.tmp 36) rfl p (3 + s * 28) rfl X _ HXR.out Try.underlying58 rfl i58 ?_) | fail)
    (with_reducible refine (HRO.out _ HC2.out).mono ?_)
    rintro e w4 ⟨rfl, b4⟩
    replace HC2 := Lib.hid (HC2.out.below b4)
    replace HB2 := Lib.hid (HB2.out.trans (b4.mono HB2.out.size))
    replace k0 := cl b4 k0
    replace k1 := cl b4 k1
    replace k2 := cl b4 k2
    have cn := HC2.out.cn
    have fn := HC2.out.free 452 (by decide)
    clear b4 HRO HXR
    obtain ⟨w2, hw2⟩ : ∃ w2, w4 = w2 := ⟨_, rfl⟩
    rw [hw2] at HC2 HB2 k0 k1 k2 cn fn ⊢
    clear hw2
    go_wp2_with fail
    have hk3 : Kept (fun k => k = p) w2 (w2.setCell ⟨p, 452, none⟩ (.int .i64 (puts + 1))) := (Kept.refl (fun k => k = p) w2).setCell (p := ⟨p, 452, none⟩) (.inl rfl) _
    have HC3 := Lib.hid (HC2.out.count (puts + 1))
    have HK3 : Hid (Kept (fun k => k = p) w (w2.setCell ⟨p, 452, none⟩ (.int .i64 (puts + 1)))) := (Kept.of_below (S := fun k => k = p) HB2.out).setCell (p := ⟨p, 452, none⟩) (.inl rfl) _
    have hgp : w.heap.size ≠ p := by omega
    have m0 := (hk3.cell (p := ⟨w.heap.size, 0, none⟩) (World.block_lt_of_cell? w2 _ k0) hgp).trans k0
    have m1 := (hk3.cell (p := ⟨w.heap.size, 1, none⟩) (World.block_lt_of_cell? w2 _ k1) hgp).trans k1
    have m2 := (hk3.cell (p := ⟨w.heap.size, 2, none⟩) (World.block_lt_of_cell? w2 _ k2) hgp).trans k2
    clear hk3 k0 k1 k2 cn fn HC2 HB2
    obtain ⟨w3, hw3⟩ : ∃ w3, w2.setCell ⟨p, 452, none⟩ (.int .i64 (puts + 1)) = w3 := ⟨_, rfl⟩
    rw [hw3] at HC3 HK3 m0 m1 m2 ⊢
    clear hw3
    have ce := HC3.out.ce
    have cn := HC3.out.cn
    have HC4 := Lib.hid (HC3.out.below (Below.refl _ w3).drew)
    have HK4 : Hid (Kept (fun k => k = p) w w3.drew) := HK3.out.drew
    have CP : Hid (CAt (w3.drew.setCells p (3 + s * 28 + i * 7) (plL ⟨true, c, r, epoch, puts + 1⟩)) p sets ways knob (upd pl (s * 4 + i) ⟨true, c, r, epoch, puts + 1⟩) epoch (puts + 1) hits misses) := by
      have := HC4.out.placed (q := s * 4 + i) (by omega) ⟨true, c, r, epoch, puts + 1⟩
      rwa [show 3 + (s * 4 + i) * 7 = 3 + s * 28 + i * 7 by omega] at this
    have HT : Hid (w3.drew.there p (3 + s * 28 + i * 7) 7) := fun j hj => by
      have h7 : j < (plL (pl (s * 4 + i))).length := hj
      have := HC4.out.cp (s * 4 + i) (by omega) j _ (List.getElem?_eq_getElem h7)
      rw [show 3 + (s * 4 + i) * 7 = 3 + s * 28 + i * 7 by omega] at this
      rw [this]
      exact ⟨rfl, HC4.out.free _ (by omega)⟩
    go_still_tail 18, (by kernel_rfl)
    change wpList _ _ _ _ _ w3.drew
    refine wpList_store_mid rfl 56 (.tmp 63) (.tmp 59) rfl p (3 + s * 28 + i * 7) (List.toArray (plL ⟨true, c, r, epoch, puts + 1⟩)) rfl rfl HT.out info56 (by simp [plL, Value.oneCell']) ?_
    rw [List.toList_toArray]
    go_wp2
    go_end0
    rw [HPI.out]
    exact ⟨rfl, CP.out, Kept.setCells _ _ HK4.out rfl⟩
end Go.Proofs.Ytnebdabfandngaa.C

/- The cache: which place is to be taken; what is asked. -/
import Derived.Test.YtnebdabfandngaaCa1
namespace Go.Proofs.Ytnebdabfandngaa.C
open Go.RowKit Go.Proofs.Ytnebdabfandngaa.Mem
theorem roomP_step (epoch : Int) (f : Nat → Pl) {i ways : Nat} (b : Nat) (h : i < ways) : roomP epoch f i (ways - i) b = if kn epoch (f i) then roomP epoch f (i + 1) (ways - (i + 1)) (if (f i).age < (f b).age then i else b) else i := by
  rw [show ways - i = (ways - (i + 1)) + 1 by omega, roomP]
structure Rst (W : World) (p sets ways : Nat) (knob epoch puts hits misses : Int) (pl : Nat → Pl) (f : Nat → Pl) (w' : World) : Prop where
  at' : CAt w' p sets ways knob pl epoch puts hits misses
  set : SetAt w' W.heap.size f
  below : Below W.heap.size W w'
theorem Rst.box {W : World} {p sets ways : Nat} {knob epoch puts hits misses : Int} {pl f : Nat → Pl} {a b : World} (h : Rst W p sets ways knob epoch puts hits misses pl f a) (hb : Below a.heap.size a b) : Rst W p sets ways knob epoch puts hits misses pl f b :=
  ⟨h.at'.below hb, h.set.below hb, h.below.trans (hb.mono h.below.size)⟩
set_option maxHeartbeats 4000000 in
theorem room_any (w : World) (p sets ways : Nat) (knob epoch puts hits misses : Int) (pl : Nat → Pl) (h : CAt w p sets ways knob pl epoch puts hits misses) (hw : ways ≤ 4) (f : Nat → Pl) (X : Array Value) (hX : X.toList = setL f) :
    Calls Try.prog 22 #[.pointer (some ⟨p, 0, none⟩), .agg X] w fun e w' => e = .returned (.int .i64 (roomP epoch f 0 ways 0)) ∧ Below w.heap.size w w' := by
  have F0 : Hid (Rst w p sets ways knob epoch puts hits misses pl f (w.alloc (.cells X 58))) := by
    have hb1 := (Below.refl w.heap.size w).alloc (Nat.le_refl _) (.cells X 58)
    exact ⟨(h.below hb1), (SetAt.box f hX (heap_alloc_new w _)), hb1⟩
  have c1 := F0.out.at'.c1
  obtain ⟨R, hR⟩ : ∃ R : Nat, roomP epoch f 0 ways 0 = R := ⟨_, rfl⟩
  rw [hR]
  have HR : Hid (roomP epoch f 0 (ways - 0) 0 = R) := hR
  clear h hX hR
  go_enter Try.func22, Try.ntmps22
  go_wp2_with fail
  go_loopw [5, 11] (fun v5 v11 wr => ∃ i b : Nat, i ≤ ways ∧ b < 4 ∧ v11 = .int .i64 i ∧ v5 = .int .i64 b ∧ Hid (roomP epoch f i (ways - i) b = R) ∧ Hid (Rst w p sets ways knob epoch puts hits misses pl f wr)) (fun _ v11 _ => ways - (intOf v11).toNat)
  case atStart => exact ⟨0, 0, Nat.zero_le _, by decide, rfl, rfl, HR, F0⟩
  case round =>
    clear F0 c1 HR
    obtain ⟨i, b, hi, hb4, rfl, rfl, HF, HW⟩ := hrel
    by_cases hlt : i < ways
    · have i7 : i < 4 := by omega
      have KN := Lib.hid (known_any wr _ _ _ _ _ _ _ _ _ HW.out.at' (f i))
      have HF2 := HF.out
      rw [roomP_step epoch f b hlt] at HF2
      obtain ⟨kk, hkk⟩ : ∃ kk, kn epoch (f i) = kk := ⟨_, rfl⟩
      rw [hkk] at HF2 KN
      obtain ⟨k0, k1, k2, k3, k4, k5, k6⟩ := HW.out.set.cells i7
      clear hkk HF
      cases kk
      · have HFn : Hid (i = R) := by rw [if_neg (by decide)] at HF2; exact HF2
        clear HF2
        go_wp2_with (first | (go_at_call 26; (with_reducible refine KN.out.mono ?_); rintro e w1 ⟨rfl, hb1⟩; have HW9 := Lib.hid (HW.out.box hb1); clear hb1) | fail)
        have e := HFn.out
        subst e
        go_ret
        exact ⟨rfl, HW9.out.below⟩
      · rw [if_pos rfl] at HF2
        by_cases hage : (f i).age < (f b).age
        · have HFn : Hid (roomP epoch f (i + 1) (ways - (i + 1)) i = R) := by rw [if_pos hage] at HF2; exact HF2
          clear HF2
          go_wp2_with (first | (go_at_call 26; (with_reducible refine KN.out.mono ?_); rintro e w1 ⟨rfl, hb1⟩; have HW9 := Lib.hid (HW.out.box hb1); clear hb1; have ka := (HW9.out.set.cells i7).2.2.2.2.2.2; have kb := (HW9.out.set.cells hb4).2.2.2.2.2.2) | fail)
          go_quiet (fail)
          have HW10 := Lib.hid (HW9.out.box (below_drewN _ nq))
          go_wp2_with fail
          exact ⟨⟨i + 1, i, by omega, i7, by simp, rfl, HFn, HW10⟩, by simp [intOf]; omega⟩
        · have HFn : Hid (roomP epoch f (i + 1) (ways - (i + 1)) b = R) := by rw [if_neg hage] at HF2; exact HF2
          clear HF2
          go_wp2_with (first | (go_at_call 26; (with_reducible refine KN.out.mono ?_); rintro e w1 ⟨rfl, hb1⟩; have HW9 := Lib.hid (HW.out.box hb1); clear hb1; have ka := (HW9.out.set.cells i7).2.2.2.2.2.2; have kb := (HW9.out.set.cells hb4).2.2.2.2.2.2) | fail)
          go_quiet (fail)
          have HW10 := Lib.hid (HW9.out.box (below_drewN _ nq))
          go_wp2_with fail
          exact ⟨⟨i + 1, b, by omega, hb4, by simp, rfl, HFn, HW10⟩, by simp [intOf]; omega⟩
    · have : i = ways := by omega
      subst this
      have HFn : Hid (b = R) := by
        have := HF.out
        rw [Nat.sub_self] at this
        exact this
      have e := HFn.out
      subst e
      go_wp2_with fail
      go_ret
      exact ⟨rfl, HW.out.below⟩
def nPl (pl : Nat → Pl) (s : Nat) : Nat → Pl := fun i => pl (s * 4 + i)
theorem CAt.range {w : World} {p sets ways : Nat} {knob epoch puts hits misses : Int} {pl : Nat → Pl} (h : CAt w p sets ways knob pl epoch puts hits misses) {s : Nat} (hs : s < 16) : w.rangeAt p (3 + s * 28) (setL (nPl pl s)) := by
  intro j v hv
  have hj : j < 28 := (List.getElem?_eq_some_iff.1 hv).1
  have hi : j / 7 < 4 := by omega
  have e : (plL (nPl pl s (j / 7)))[j % 7]? = some v := by
    obtain ⟨u, hu⟩ : ∃ u, (plL (nPl pl s (j / 7)))[j % 7]? = some u := ⟨_, List.getElem?_eq_getElem (show j % 7 < 7 by omega)⟩
    have := setL_at (nPl pl s) hi hu
    rw [show j / 7 * 7 + j % 7 = j by omega, hv] at this
    rw [hu, this]
  have h2 := h.cp (s * 4 + j / 7) (by omega) (j % 7) v e
  rw [show 3 + (s * 4 + j / 7) * 7 + j % 7 = 3 + s * 28 + j by omega] at h2
  exact h2
@[reducible] def Z28 : Obj := .cells #[.bool false, .int .i64 0, .int .u64 0, .int .u64 0, .int .i64 0, .int .i64 0, .int .i64 0, .bool false, .int .i64 0, .int .u64 0, .int .u64 0, .int .i64 0, .int .i64 0, .int .i64 0, .bool false, .int .i64 0, .int .u64 0, .int .u64 0, .int .i64 0, .int .i64 0, .int .i64 0, .bool false, .int .i64 0, .int .u64 0, .int .u64 0, .int .i64 0, .int .i64 0, .int .i64 0] 58
theorem setL_one (f : Nat → Pl) : ∀ v ∈ setL f, v.oneCell' = true := by
  intro v hv
  simp only [setL, plL, List.mem_append, List.mem_cons, List.not_mem_nil, or_false] at hv
  rcases hv with ((hv | hv) | hv) | hv <;> (rcases hv with rfl | rfl | rfl | rfl | rfl | rfl | rfl <;> rfl)
theorem there_row {u : World} {b : Nat} {cs : Array Value} {t : TypeId} {n : Nat} (h : u.heap[b]? = some (.cells cs t (0, 0))) (hn : n ≤ cs.size) : u.there b 0 n := fun j hj => by
  refine ⟨?_, free_row h⟩
  rw [cell_row h (v := cs[0 + j]'(by omega)) (Array.getElem?_eq_getElem _)]
  rfl
theorem Kept.setCells {S : Nat → Prop} {a : World} {b : Nat} : ∀ (vs : List Value) (o : Nat) {w : World}, Kept S a w → S b → Kept S a (w.setCells b o vs)
  | [], _, _, h, _ => h
  | v :: vs, o, _, h, hb => Kept.setCells vs (o + 1) (h.setCell (p := ⟨b, o, none⟩) (.inl hb) v) hb
def GetS (g p s : Nat) (X : List Value) (c : Cap) (wr w' : World) : Prop :=
  w'.cell? ⟨g, 0, none⟩ = some (.int .i64 c.obj) ∧ w'.cell? ⟨g, 1, none⟩ = some (.int .u64 c.hi) ∧ w'.cell? ⟨g, 2, none⟩ = some (.int .u64 c.lo) ∧ w'.rangeAt p (3 + s * 28) X ∧ Below wr.heap.size wr w'
theorem GetS.later {g p s : Nat} {X : List Value} {c : Cap} {wr a b : World} (hb : Below a.heap.size a b) (h : GetS g p s X c wr a) : GetS g p s X c wr b := by
  obtain ⟨h0, h1, h2, h3, h5⟩ := h
  exact ⟨cl hb h0, cl hb h1, cl hb h2, fun j v hv => cl hb (h3 j v hv), h5.trans (hb.mono h5.size)⟩
theorem GetS.stored {g p s b : Nat} {X : List Value} {c : Cap} {wr u : World} (h : GetS g p s X c wr u) (hg : g < wr.heap.size) (hp : p < wr.heap.size) (hb : wr.heap.size ≤ b) {cs : Array Value} {t : TypeId} (hrow : u.heap[b]? = some (.cells cs t (0, 0))) (hn : X.toArray.size ≤ cs.size) :
    GetS g p s X c wr (u.setCells b 0 X.toArray.toList) ∧ (u.setCells b 0 X.toArray.toList).rangeAt b 0 X ∧ wr.heap.size ≤ b := by
  have hk : Kept (fun k => k = b) u (u.setCells b 0 X.toArray.toList) := Kept.setCells _ _ (Kept.refl _ u) rfl
  obtain ⟨h0, h1, h2, h3, h5⟩ := h
  have hs := h5.size
  refine ⟨⟨(hk.cell (by show g < _; omega) (by show ¬ g = b; omega)).trans h0, (hk.cell (by show g < _; omega) (by show ¬ g = b; omega)).trans h1, (hk.cell (by show g < _; omega) (by show ¬ g = b; omega)).trans h2, fun j v hv => (hk.cell (by show p < _; omega) (by show ¬ p = b; omega)).trans (h3 j v hv), h5.trans (hk.below (fun k e => by rw [e]; exact hb) hs)⟩, ?_, hb⟩
  have := u.rangeAt_setCells_same b 0 X (there_row hrow (by simpa using hn))
  simpa using this
section
variable {w : World} {p sets ways : Nat} {knob epoch puts hits misses : Int} {pl : Nat → Pl}
theorem range_set {u : World} {g : Nat} {f : Nat → Pl} (h : u.rangeAt g 0 (setL f)) : SetAt u g f := fun i hi j v hv => by
  have := h _ v (setL_at f hi hv)
  rwa [Nat.zero_add] at this
theorem range_set' {u : World} {g : Nat} {f : Nat → Pl} {X : List Value} (hX : setL f = X) (h : u.rangeAt g 0 X) : SetAt u g f := by
  subst hX
  exact range_set h
theorem findP_lt {epoch : Int} {c : Cap} {f : Nat → Pl} {k i j : Nat} (h : findP epoch c f i k = some j) : i ≤ j ∧ j < i + k := (findP_some h).2
theorem CAt.frame (h : CAt w p sets ways knob pl epoch puts hits misses) (o : Nat) (v : Value) : p < (w.setCell ⟨p, o, none⟩ v).heap.size ∧ (∀ j, j < 455 → (w.setCell ⟨p, o, none⟩ v).frozen? ⟨p, j, none⟩ = false) ∧ (∀ j, j ≠ o → (w.setCell ⟨p, o, none⟩ v).cell? ⟨p, j, none⟩ = w.cell? ⟨p, j, none⟩) := by
  refine ⟨by simpa using h.lt, fun j hj => ?_, fun j hj => ?_⟩
  · rw [World.frozen?_setCell]; exact h.free j hj
  · exact World.cell?_setCell_other _ _ _ _ (fun e => hj (Addr.mk.inj e).2.1.symm)
theorem CAt.miss (h : CAt w p sets ways knob pl epoch puts hits misses) (n : Int) : CAt (w.setCell ⟨p, 454, none⟩ (.int .i64 n)) p sets ways knob pl epoch puts hits n := by
  obtain ⟨h1, h2, h3⟩ := h.frame 454 (.int .i64 n)
  exact ⟨h1, h2, (h3 0 (by decide)).trans h.c0, (h3 1 (by decide)).trans h.c1, (h3 2 (by decide)).trans h.c2, fun q hq j v hv => (h3 _ (by have : j < 7 := (List.getElem?_eq_some_iff.1 hv).1; omega)).trans (h.cp q hq j v hv), (h3 451 (by decide)).trans h.ce, (h3 452 (by decide)).trans h.cn, (h3 453 (by decide)).trans h.ch, World.cell?_setCell_same _ _ _ h.cm⟩
theorem CAt.hit (h : CAt w p sets ways knob pl epoch puts hits misses) (n : Int) : CAt (w.setCell ⟨p, 453, none⟩ (.int .i64 n)) p sets ways knob pl epoch puts n misses := by
  obtain ⟨h1, h2, h3⟩ := h.frame 453 (.int .i64 n)
  exact ⟨h1, h2, (h3 0 (by decide)).trans h.c0, (h3 1 (by decide)).trans h.c1, (h3 2 (by decide)).trans h.c2, fun q hq j v hv => (h3 _ (by have : j < 7 := (List.getElem?_eq_some_iff.1 hv).1; omega)).trans (h.cp q hq j v hv), (h3 451 (by decide)).trans h.ce, (h3 452 (by decide)).trans h.cn, World.cell?_setCell_same _ _ _ h.ch, (h3 454 (by decide)).trans h.cm⟩
theorem CAt.count (h : CAt w p sets ways knob pl epoch puts hits misses) (n : Int) : CAt (w.setCell ⟨p, 452, none⟩ (.int .i64 n)) p sets ways knob pl epoch n hits misses := by
  obtain ⟨h1, h2, h3⟩ := h.frame 452 (.int .i64 n)
  exact ⟨h1, h2, (h3 0 (by decide)).trans h.c0, (h3 1 (by decide)).trans h.c1, (h3 2 (by decide)).trans h.c2, fun q hq j v hv => (h3 _ (by have : j < 7 := (List.getElem?_eq_some_iff.1 hv).1; omega)).trans (h.cp q hq j v hv), (h3 451 (by decide)).trans h.ce, World.cell?_setCell_same _ _ _ h.cn, (h3 453 (by decide)).trans h.ch, (h3 454 (by decide)).trans h.cm⟩
theorem CAt.turned (h : CAt w p sets ways knob pl epoch puts hits misses) (n : Int) : CAt (w.setCell ⟨p, 451, none⟩ (.int .i64 n)) p sets ways knob pl n puts hits misses := by
  obtain ⟨h1, h2, h3⟩ := h.frame 451 (.int .i64 n)
  exact ⟨h1, h2, (h3 0 (by decide)).trans h.c0, (h3 1 (by decide)).trans h.c1, (h3 2 (by decide)).trans h.c2, fun q hq j v hv => (h3 _ (by have : j < 7 := (List.getElem?_eq_some_iff.1 hv).1; omega)).trans (h.cp q hq j v hv), World.cell?_setCell_same _ _ _ h.ce, (h3 452 (by decide)).trans h.cn, (h3 453 (by decide)).trans h.ch, (h3 454 (by decide)).trans h.cm⟩
end
def gotV (R : Option Nat) (f : Nat → Pl) : Value := match R with | some i => .tuple #[.int .i64 (f i).rights, .bool true] | none => .tuple #[.int .i64 0, .bool false]
def gotH (R : Option Nat) (hits : Int) : Int := match R with | some _ => wrap64 (hits + 1) | none => hits
def gotM (R : Option Nat) (misses : Int) : Int := match R with | some _ => misses | none => wrap64 (misses + 1)
set_option maxHeartbeats 4000000 in
theorem get_any (w : World) (p sets ways : Nat) (knob epoch puts hits misses : Int) (pl : Nat → Pl) (h : CAt w p sets ways knob pl epoch puts hits misses) (hw : ways ≤ 4) (hs : sets ≤ 16) (c : Cap) (s : Nat) (hh : homeN sets knob c = (s : Int)) (hpos : 0 < sets) (hss : s < sets) :
    Calls Try.prog 10 #[.pointer (some ⟨p, 0, none⟩), capV c] w fun e w' => e = .returned (gotV (findP epoch c (nPl pl s) 0 ways) (nPl pl s)) ∧ CAt w' p sets ways knob pl epoch puts (gotH (findP epoch c (nPl pl s) 0 ways) hits) (gotM (findP epoch c (nPl pl s) 0 ways) misses) ∧ Kept (fun k => k = p) w w' := by
  have F0 : Hid (CAt (w.alloc (.cells #[.int .i64 c.obj, .int .u64 c.hi, .int .u64 c.lo] 36)) p sets ways knob pl epoch puts hits misses) := h.below ((Below.refl w.heap.size w).alloc (Nat.le_refl _) _)
  have c0 := F0.out.c0
  have HB0 : Hid (Below w.heap.size w (w.alloc (.cells #[.int .i64 c.obj, .int .u64 c.hi, .int .u64 c.lo] 36))) := (Below.refl w.heap.size w).alloc (Nat.le_refl _) _
  by_cases hp : 0 < sets
  · have hss' := hss
    have HOF : Hid (∀ a, CAt a p sets ways knob pl epoch puts hits misses → Calls Try.prog 20 #[.pointer (some ⟨p, 0, none⟩), capV c] a fun e w' => e = .returned (.int .i64 (s : Int)) ∧ Below a.heap.size a w') := fun a ha => by
      have := of_any a p sets ways knob epoch puts hits misses pl ha hp hs c
      rw [hh] at this
      exact this
    have i0 : (0 : Int) ≤ (s : Int) := by omega
    have i1 : (s : Int) < 16 := by omega
    obtain ⟨X, hX⟩ : ∃ X, setL (nPl pl s) = X := ⟨_, rfl⟩
    have CF := F0.out.range (show s < 16 by omega)
    have one := setL_one (nPl pl s)
    have h28 : (setL (nPl pl s)).length = 28 := rfl
    rw [hX] at CF one h28
    have hz28 : X.toArray.size ≤ 28 := by simp [h28]
    have i58 : (Try.prog.info? 58).map (·.size) = some X.length := by rw [h28]; exact info58
    have i58a : (Try.prog.info? 58).map (·.size) = some X.toArray.size := by rw [List.size_toArray, h28]; exact info58
    have hpW : p < (w.alloc (.cells #[.int .i64 c.obj, .int .u64 c.hi, .int .u64 c.lo] 36)).heap.size := F0.out.lt
    have hgW : w.heap.size < (w.alloc (.cells #[.int .i64 c.obj, .int .u64 c.hi, .int .u64 c.lo] 36)).heap.size := by simp
    obtain ⟨W0, hW0⟩ : ∃ W0, w.alloc (.cells #[.int .i64 c.obj, .int .u64 c.hi, .int .u64 c.lo] 36) = W0 := ⟨_, rfl⟩
    rw [hW0] at hpW hgW HB0
    have ST : Hid (GetS w.heap.size p s X c W0 W0.drew) := by
      rw [hW0] at CF
      exact ⟨by rw [← hW0]; simp, by rw [← hW0]; simp, by rw [← hW0]; simp, CF, (Below.refl _ _).drew⟩
    have KEEP : Hid (∀ a b, Below a.heap.size a b → GetS w.heap.size p s X c W0 a → GetS w.heap.size p s X c W0 b) := fun a b hb h => h.later hb
    have AL : Hid (∀ a z, GetS w.heap.size p s X c W0 a → GetS w.heap.size p s X c W0 (a.alloc z)) := fun a z h => h.later ((Below.refl _ _).alloc (Nat.le_refl _) z)
    have AD : Hid (∀ a, GetS w.heap.size p s X c W0 a → CAt a p sets ways knob pl epoch puts hits misses) := fun a h => by
      have := F0.out
      rw [hW0] at this
      exact this.below h.2.2.2.2
    have HFI : Hid (∀ a, CAt a p sets ways knob pl epoch puts hits misses → Calls Try.prog 21 #[.pointer (some ⟨p, 0, none⟩), .agg X.toArray, capV c] a fun e w' => e = .returned (foundV (findP epoch c (nPl pl s) 0 ways)) ∧ Below a.heap.size a w') := fun a ha => find_any a p sets ways knob epoch puts hits misses pl ha hw (nPl pl s) X.toArray hX.symm c
    obtain ⟨R, hR⟩ : ∃ R, findP epoch c (nPl pl s) 0 ways = R := ⟨_, rfl⟩
    rw [hR] at HFI ⊢
    have HRR := Lib.hid hR
    have HX := Lib.hid hX
    have HW0 := Lib.hid hW0
    clear h hh CF hW0 h28 hR hX
    go_enter Try.func10, Try.ntmps10
    go_wp2_with fail
    rw [HW0.out]
    clear HW0 c0 F0
    refine wp_region_held_drew (S := GetS w.heap.size p s X c W0) (by kernel_rfl) (ST.out) (fun hHeld => ?_)
    refine wpAnyH_take (i := 0) (oi := { dst := some 14, op := Op.move (Operand.tmp 0), type := 23, pos := "cache.go:60", after := #[], guard := none }) (v := ?_) rfl (by kernel_rfl) (by kernel_rfl) (by kernel_rfl) (fun _ _ _ h => h) (Or.inl ⟨by rfl, ?hy0_1⟩) (by assumption) ?rest0_1
    case hy0_1 => (intro w hSw; obtain ⟨hs0, hs1, hs2, hs3, hs4⟩ := hSw; go_simp; try with_reducible rfl)
    try simp only [Act.put, List.setIfInBounds_toArray, List.set_cons_zero, List.set_cons_succ]
    refine wpAnyH_take (i := 1) (oi := { dst := some 15, op := Op.move (Operand.tmp 0), type := 23, pos := "cache.go:60", after := #[], guard := none }) (v := ?_) rfl (by kernel_rfl) (by kernel_rfl) (by kernel_rfl) (fun _ _ _ h => h) (Or.inl ⟨by rfl, ?hy1_2⟩) (by assumption) ?rest1_2
    case hy1_2 => (intro w hSw; obtain ⟨hs0, hs1, hs2, hs3, hs4⟩ := hSw; go_simp; try with_reducible rfl)
    try simp only [Act.put, List.setIfInBounds_toArray, List.set_cons_zero, List.set_cons_succ]
    refine wpAnyH_take (i := 2) (oi := { dst := some 16, op := Op.load 36 (Operand.tmp 3), type := 36, pos := "cache.go:60", after := #[], guard := none }) (v := ?_) rfl (by kernel_rfl) (by kernel_rfl) (by kernel_rfl) (fun _ _ _ h => h) (Or.inl ⟨by rfl, ?hy2_3⟩) (by assumption) ?rest2_3
    case hy2_3 => (intro w hSw; obtain ⟨hs0, hs1, hs2, hs3, hs4⟩ := hSw; go_simp; try with_reducible rfl)
    try simp only [Act.put, List.setIfInBounds_toArray, List.set_cons_zero, List.set_cons_succ]
    refine wpAnyH_take (i := 4) (oi := { dst := some 18, op := Op.nilCheck (Operand.tmp 14), type := 0, pos := "cache.go:60", after := #[{ on := 0, ground := Ground.data }], guard := none }) (v := ?_) rfl (by kernel_rfl) (by kernel_rfl) (by kernel_rfl) (fun _ _ _ h => h) (Or.inl ⟨by rfl, ?hy4_4⟩) (by assumption) ?rest4_4
    case hy4_4 => (intro w hSw; obtain ⟨hs0, hs1, hs2, hs3, hs4⟩ := hSw; go_simp; try with_reducible rfl)
    try simp only [Act.put, List.setIfInBounds_toArray, List.set_cons_zero, List.set_cons_succ]
    refine wpAnyH_take (i := 5) (oi := { dst := some 19, op := Op.fieldAddr 62 (Operand.tmp 18) 3, type := 0, pos := "cache.go:60", after := #[{ on := 4, ground := Ground.data }], guard := none }) (v := ?_) rfl (by kernel_rfl) (by kernel_rfl) (by kernel_rfl) (fun _ _ _ h => h) (Or.inl ⟨by rfl, ?hy5_5⟩) (by assumption) ?rest5_5
    case hy5_5 => (intro w hSw; obtain ⟨hs0, hs1, hs2, hs3, hs4⟩ := hSw; go_simp; try with_reducible rfl)
    try simp only [Act.put, List.setIfInBounds_toArray, List.set_cons_zero, List.set_cons_succ]
    refine wpAnyH_ready (rs := [3, 8]) (by kernel_rfl) (by simp) ?_
    refine AllReadyH.cons (o := { dst := some 17, op := Op.call { callee := Callee.value (Operand.func 20), args := #[Operand.tmp 15, Operand.tmp 16], argTypes := #[23, 36] }, type := 3, pos := "cache.go:60", after := #[{ on := 1, ground := Ground.data }, { on := 2, ground := Ground.data }], guard := none }) rfl (fun K hK => ?_) (AllReadyH.cons (o := { dst := some 6, op := Op.alloc 58, type := 0, pos := "cache.go:60", after := #[], guard := none }) rfl (fun K hK => ?_) AllReadyH.nil)
    · go_simp
      (go_at_call 20; (with_reducible refine (HOF.out _ ?_).mono ?_); exact AD.out _ hHeld; rintro e w1 ⟨rfl, hb1⟩)
      refine hK.out _ _ (KEEP.out _ _ hb1 hHeld) (fun hHeld2 => ?_)
      clear hK K hHeld
      have hHeld := hHeld2
      clear hHeld2
      try simp only [Act.put, List.setIfInBounds_toArray, List.set_cons_zero, List.set_cons_succ]
      refine wpAnyH_take (i := 6) (oi := { dst := some 20, op := Op.indexAddr 60 (Operand.tmp 19) (Operand.tmp 17), type := 0, pos := "cache.go:60", after := #[{ on := 5, ground := Ground.data }, { on := 3, ground := Ground.data }], guard := none }) (v := ?_) rfl (by kernel_rfl) (by kernel_rfl) (by kernel_rfl) (fun _ _ _ h => h) (Or.inl ⟨by rfl, ?hy6_6⟩) (by assumption) ?rest6_6
      case hy6_6 => (intro w hSw; obtain ⟨hs0, hs1, hs2, hs3, hs4⟩ := hSw; go_simp; try with_reducible rfl)
      try simp only [Act.put, List.setIfInBounds_toArray, List.set_cons_zero, List.set_cons_succ]
      refine wpAnyH_take (i := 7) (oi := { dst := some 21, op := Op.load 58 (Operand.tmp 20), type := 58, pos := "cache.go:60", after := #[{ on := 6, ground := Ground.data }], guard := none }) (v := .agg X.toArray) rfl (by kernel_rfl) (by kernel_rfl) (by kernel_rfl) (fun _ _ _ h => h) (yieldsIf_load_mid (by rfl) 58 (.tmp 20) rfl p (3 + s * 28) rfl X _ (fun w h => h.2.2.2.1) Try.underlying58 rfl i58) (by assumption) ?_
      try simp only [Act.put, List.setIfInBounds_toArray, List.set_cons_zero, List.set_cons_succ]
      refine wpAnyH_ready (rs := [8]) (by kernel_rfl) (by simp) ?_
      refine AllReadyH.cons (o := { dst := some 6, op := Op.alloc 58, type := 0, pos := "cache.go:60", after := #[], guard := none }) rfl (fun K hK => ?_) AllReadyH.nil
      go_simp
      have hlow := hHeld.2.2.2.2.size
      refine hK.out _ _ (AL.out _ _ hHeld) (fun hHeld2 => ?_)
      clear hK K hHeld
      have hHeld := hHeld2
      clear hHeld2
      try simp only [Act.put, List.setIfInBounds_toArray, List.set_cons_zero, List.set_cons_succ]
      have hrow : (w1.alloc Z28).heap[w1.heap.size]? = some Z28 := heap_alloc_new w1 Z28
      refine wpAnyH_ready (rs := [9]) (by kernel_rfl) (by simp) ?_
      refine AllReadyH.cons (o := { dst := none, op := Op.store 58 (Operand.tmp 6) (Operand.tmp 21), type := 0, pos := "cache.go:60", after := #[{ on := 8, ground := Ground.data }, { on := 7, ground := Ground.data }, { on := 3, ground := Ground.chain }, { on := 0, ground := Ground.phase }, { on := 1, ground := Ground.phase }, { on := 2, ground := Ground.phase }, { on := 3, ground := Ground.phase }, { on := 4, ground := Ground.phase }, { on := 5, ground := Ground.phase }, { on := 6, ground := Ground.phase }, { on := 7, ground := Ground.phase }, { on := 8, ground := Ground.phase }], guard := none }) rfl (fun K hK => ?_) AllReadyH.nil
      rw [if_pos (by rfl)]
      refine wp_store_mid 58 (.tmp 6) (.tmp 21) rfl _ 0 X.toArray rfl rfl (there_row hrow hz28) i58a (all_oneCell_toArray one) ?_
      have HV := Lib.hid (hHeld.stored hgW hpW hlow hrow hz28)
      refine hK.out _ _ (HV.out.1) (fun hHeld2 => ?_)
      clear hK K hHeld
      have hHeld := hHeld2
      clear hHeld2
      try simp only [Act.put]
      refine wpAnyH_done (by kernel_rfl) ?_ _
      generalize hv9 : World.setCells _ _ 0 X.toArray.toList = v9 at HV ⊢
      clear hv9 hHeld hrow hlow
      have HR9 := Lib.hid HV.out.2.1
      have HSET := Lib.hid (range_set' HX.out HR9.out)
      have k0 := HV.out.1.1
      have k1 := HV.out.1.2.1
      have k2 := HV.out.1.2.2.1
      have HC9 := Lib.hid (AD.out _ HV.out.1)
      have HB9 := Lib.hid HV.out.1.2.2.2.2
      have hl9 := HV.out.2.2
      clear HV
      cases R with
      | none =>
        have HFN : Hid (∀ a, CAt a p sets ways knob pl epoch puts hits misses → Calls Try.prog 21 #[.pointer (some ⟨p, 0, none⟩), .agg X.toArray, capV c] a fun e w' => e = .returned (.tuple #[.int .i64 0, .bool false]) ∧ Below a.heap.size a w') := HFI
        clear HFI
        go_wp2_with (first | (with_reducible refine wpList_load_mid rfl 58 (.tmp 6) rfl _ 0 rfl X _ HR9.out Try.underlying58 rfl i58 ?_) | (go_at_call 21; (with_reducible refine (HFN.out _ HC9.out).mono ?_); rintro e w2 ⟨rfl, b2⟩; have HC10 := Lib.hid (HC9.out.below b2); have HB10 := Lib.hid (HB9.out.trans (b2.mono HB9.out.size)); clear b2; have cm := HC10.out.cm; have fm := HC10.out.free 454 (by decide)) | fail)
        go_ret2
        exact ⟨rfl, HC10.out.miss _, (Kept.of_below (S := fun k => k = p) (HB0.out.trans (HB10.out.mono HB0.out.size))).setCell (p := ⟨p, 454, none⟩) (.inl rfl) _⟩
      | some i =>
        have HFN : Hid (∀ a, CAt a p sets ways knob pl epoch puts hits misses → Calls Try.prog 21 #[.pointer (some ⟨p, 0, none⟩), .agg X.toArray, capV c] a fun e w' => e = .returned (.tuple #[.int .i64 i, .bool true]) ∧ Below a.heap.size a w') := HFI
        have hi4 : i < 4 := by have := findP_lt HRR.out; omega
        have hi8 : (i : Int) < 4 := by omega
        have hi9 : (0 : Int) ≤ (i : Int) := by omega
        clear HFI
        go_wp2_with (first | (with_reducible refine wpList_load_mid rfl 58 (.tmp 6) rfl _ 0 rfl X _ HR9.out Try.underlying58 rfl i58 ?_) | (go_at_call 21; (with_reducible refine (HFN.out _ HC9.out).mono ?_); rintro e w2 ⟨rfl, b2⟩; have HC10 := Lib.hid (HC9.out.below b2); have HB10 := Lib.hid (HB9.out.trans (b2.mono HB9.out.size)); have kr := ((HSET.out.below b2).cells hi4).2.2.2.2.1; clear b2; have cm := HC10.out.ch; have fm := HC10.out.free 453 (by decide)) | fail)
        go_ret2
        exact ⟨rfl, HC10.out.hit _, (Kept.of_below (S := fun k => k = p) (HB0.out.trans (HB10.out.mono HB0.out.size))).setCell (p := ⟨p, 453, none⟩) (.inl rfl) _⟩
    · go_simp
      have hlow := hHeld.2.2.2.2.size
      refine hK.out _ _ (AL.out _ _ hHeld) (fun hHeld2 => ?_)
      clear hK K hHeld
      have hHeld := hHeld2
      clear hHeld2
      try simp only [Act.put, List.setIfInBounds_toArray, List.set_cons_zero, List.set_cons_succ]
      have hrow0 : (W0.alloc Z28).drew.heap[W0.heap.size]? = some Z28 := heap_alloc_new W0 Z28
      refine wpAnyH_ready (rs := [3]) (by kernel_rfl) (by simp) ?_
      refine AllReadyH.cons (o := { dst := some 17, op := Op.call { callee := Callee.value (Operand.func 20), args := #[Operand.tmp 15, Operand.tmp 16], argTypes := #[23, 36] }, type := 3, pos := "cache.go:60", after := #[{ on := 1, ground := Ground.data }, { on := 2, ground := Ground.data }], guard := none }) rfl (fun K hK => ?_) AllReadyH.nil
      go_simp
      (go_at_call 20; (with_reducible refine (HOF.out _ ?_).mono ?_); exact AD.out _ hHeld; rintro e w1 ⟨rfl, hb1⟩)
      refine hK.out _ _ (KEEP.out _ _ hb1 hHeld) (fun hHeld2 => ?_)
      clear hK K hHeld
      have hHeld := hHeld2
      clear hHeld2
      try simp only [Act.put, List.setIfInBounds_toArray, List.set_cons_zero, List.set_cons_succ]
      have hrow : w1.heap[W0.heap.size]? = some Z28 := no_keeps hrow0 (Kept.of_below hb1)
      refine wpAnyH_take (i := 6) (oi := { dst := some 20, op := Op.indexAddr 60 (Operand.tmp 19) (Operand.tmp 17), type := 0, pos := "cache.go:60", after := #[{ on := 5, ground := Ground.data }, { on := 3, ground := Ground.data }], guard := none }) (v := ?_) rfl (by kernel_rfl) (by kernel_rfl) (by kernel_rfl) (fun _ _ _ h => h) (Or.inl ⟨by rfl, ?hy6_7⟩) (by assumption) ?rest6_7
      case hy6_7 => (intro w hSw; obtain ⟨hs0, hs1, hs2, hs3, hs4⟩ := hSw; go_simp; try with_reducible rfl)
      try simp only [Act.put, List.setIfInBounds_toArray, List.set_cons_zero, List.set_cons_succ]
      refine wpAnyH_take (i := 7) (oi := { dst := some 21, op := Op.load 58 (Operand.tmp 20), type := 58, pos := "cache.go:60", after := #[{ on := 6, ground := Ground.data }], guard := none }) (v := .agg X.toArray) rfl (by kernel_rfl) (by kernel_rfl) (by kernel_rfl) (fun _ _ _ h => h) (yieldsIf_load_mid (by rfl) 58 (.tmp 20) rfl p (3 + s * 28) rfl X _ (fun w h => h.2.2.2.1) Try.underlying58 rfl i58) (by assumption) ?_
      try simp only [Act.put, List.setIfInBounds_toArray, List.set_cons_zero, List.set_cons_succ]
      refine wpAnyH_ready (rs := [9]) (by kernel_rfl) (by simp) ?_
      refine AllReadyH.cons (o := { dst := none, op := Op.store 58 (Operand.tmp 6) (Operand.tmp 21), type := 0, pos := "cache.go:60", after := #[{ on := 8, ground := Ground.data }, { on := 7, ground := Ground.data }, { on := 3, ground := Ground.chain }, { on := 0, ground := Ground.phase }, { on := 1, ground := Ground.phase }, { on := 2, ground := Ground.phase }, { on := 3, ground := Ground.phase }, { on := 4, ground := Ground.phase }, { on := 5, ground := Ground.phase }, { on := 6, ground := Ground.phase }, { on := 7, ground := Ground.phase }, { on := 8, ground := Ground.phase }], guard := none }) rfl (fun K hK => ?_) AllReadyH.nil
      rw [if_pos (by rfl)]
      refine wp_store_mid 58 (.tmp 6) (.tmp 21) rfl _ 0 X.toArray rfl rfl (there_row hrow hz28) i58a (all_oneCell_toArray one) ?_
      have HV := Lib.hid (hHeld.stored hgW hpW hlow hrow hz28)
      refine hK.out _ _ (HV.out.1) (fun hHeld2 => ?_)
      clear hK K hHeld
      have hHeld := hHeld2
      clear hHeld2
      try simp only [Act.put]
      refine wpAnyH_done (by kernel_rfl) ?_ _
      have HV2 : Hid (GetS w.heap.size p s X c W0 (w1.setCells W0.heap.size 0 X) ∧ (w1.setCells W0.heap.size 0 X).rangeAt W0.heap.size 0 X ∧ W0.heap.size ≤ W0.heap.size) := HV
      clear HV
      have HV := HV2
      clear HV2
      generalize hv9 : World.setCells w1 W0.heap.size 0 X = v9 at HV ⊢
      clear hv9 hHeld hrow hlow
      have HR9 := Lib.hid HV.out.2.1
      have HSET := Lib.hid (range_set' HX.out HR9.out)
      have k0 := HV.out.1.1
      have k1 := HV.out.1.2.1
      have k2 := HV.out.1.2.2.1
      have HC9 := Lib.hid (AD.out _ HV.out.1)
      have HB9 := Lib.hid HV.out.1.2.2.2.2
      have hl9 := HV.out.2.2
      clear HV
      cases R with
      | none =>
        have HFN : Hid (∀ a, CAt a p sets ways knob pl epoch puts hits misses → Calls Try.prog 21 #[.pointer (some ⟨p, 0, none⟩), .agg X.toArray, capV c] a fun e w' => e = .returned (.tuple #[.int .i64 0, .bool false]) ∧ Below a.heap.size a w') := HFI
        clear HFI
        go_wp2_with (first | (with_reducible refine wpList_load_mid rfl 58 (.tmp 6) rfl _ 0 rfl X _ HR9.out Try.underlying58 rfl i58 ?_) | (go_at_call 21; (with_reducible refine (HFN.out _ HC9.out).mono ?_); rintro e w2 ⟨rfl, b2⟩; have HC10 := Lib.hid (HC9.out.below b2); have HB10 := Lib.hid (HB9.out.trans (b2.mono HB9.out.size)); clear b2; have cm := HC10.out.cm; have fm := HC10.out.free 454 (by decide)) | fail)
        go_ret2
        exact ⟨rfl, HC10.out.miss _, (Kept.of_below (S := fun k => k = p) (HB0.out.trans (HB10.out.mono HB0.out.size))).setCell (p := ⟨p, 454, none⟩) (.inl rfl) _⟩
      | some i =>
        have HFN : Hid (∀ a, CAt a p sets ways knob pl epoch puts hits misses → Calls Try.prog 21 #[.pointer (some ⟨p, 0, none⟩), .agg X.toArray, capV c] a fun e w' => e = .returned (.tuple #[.int .i64 i, .bool true]) ∧ Below a.heap.size a w') := HFI
        have hi4 : i < 4 := by have := findP_lt HRR.out; omega
        have hi8 : (i : Int) < 4 := by omega
        have hi9 : (0 : Int) ≤ (i : Int) := by omega
        clear HFI
        go_wp2_with (first | (with_reducible refine wpList_load_mid rfl 58 (.tmp 6) rfl _ 0 rfl X _ HR9.out Try.underlying58 rfl i58 ?_) | (go_at_call 21; (with_reducible refine (HFN.out _ HC9.out).mono ?_); rintro e w2 ⟨rfl, b2⟩; have HC10 := Lib.hid (HC9.out.below b2); have HB10 := Lib.hid (HB9.out.trans (b2.mono HB9.out.size)); have kr := ((HSET.out.below b2).cells hi4).2.2.2.2.1; clear b2; have cm := HC10.out.ch; have fm := HC10.out.free 453 (by decide)) | fail)
        go_ret2
        exact ⟨rfl, HC10.out.hit _, (Kept.of_below (S := fun k => k = p) (HB0.out.trans (HB10.out.mono HB0.out.size))).setCell (p := ⟨p, 453, none⟩) (.inl rfl) _⟩
  · exact absurd hpos hp
set_option maxHeartbeats 4000000 in
theorem get_zero (w : World) (p ways : Nat) (knob epoch puts hits misses : Int) (pl : Nat → Pl) (h : CAt w p 0 ways knob pl epoch puts hits misses) (c : Cap) :
    Calls Try.prog 10 #[.pointer (some ⟨p, 0, none⟩), capV c] w fun e w' => e = .returned (.tuple #[.int .i64 0, .bool false]) ∧ CAt w' p 0 ways knob pl epoch puts hits (wrap64 (misses + 1)) ∧ Kept (fun k => k = p) w w' := by
  have hb := (Below.refl w.heap.size w).alloc (Nat.le_refl _) (.cells #[.int .i64 c.obj, .int .u64 c.hi, .int .u64 c.lo] 36)
  have F0 := Lib.hid (h.below hb)
  have HB0 := Lib.hid hb
  have c0 := F0.out.c0
  have cm := F0.out.cm
  have fm := F0.out.free 454 (by decide)
  clear h hb
  go_enter Try.func10, Try.ntmps10
  go_wp2_with fail
  go_ret2
  exact ⟨rfl, F0.out.miss _, (Kept.of_below (S := fun k => k = p) HB0.out).setCell (p := ⟨p, 454, none⟩) (.inl rfl) _⟩
end Go.Proofs.Ytnebdabfandngaa.C

/- The cache in memory; which place is known, which set, which place of a set. -/
import Derived.Test.YtnebdabfandngaaHash
import Derived.Test.YtnebdabfandngaaPlain
import Derived.Test.YtnebdabfandngaaRows2
import Derived.Test.YtnebdabfandngaaWEqStruct
import Derived.Deep.MidRow
import Derived.Outline
import Derived.Lib.Hide
import Derived.IntWalk
import Derived.Deep.QuietTactic
import Derived.BigQuiet
import Derived.Deep.RegionHeld3
import Derived.Deep.CutBlock
import Derived.Deep.DeepCutAuto
namespace Go.Proofs.Ytnebdabfandngaa.C
open Go.RowKit Go.Proofs.Ytnebdabfandngaa.Mem
open Go.Proofs.YtnebdabfandngaaW.PrintWords (eqA_of eqf_cons eqf_last)
@[reducible] def capV (c : Cap) : Value := .agg #[.int .i64 c.obj, .int .u64 c.hi, .int .u64 c.lo]
@[reducible] def plV (x : Pl) : Value := .agg #[.bool x.put, .int .i64 x.cap.obj, .int .u64 x.cap.hi, .int .u64 x.cap.lo, .int .i64 x.rights, .int .i64 x.epoch, .int .i64 x.age]
def plL (x : Pl) : List Value := [.bool x.put, .int .i64 x.cap.obj, .int .u64 x.cap.hi, .int .u64 x.cap.lo, .int .i64 x.rights, .int .i64 x.epoch, .int .i64 x.age]
theorem info56 : (Try.prog.info? 56).map (·.size) = some 7 := by kernel_rfl
theorem info58 : (Try.prog.info? 58).map (·.size) = some 28 := by kernel_rfl
theorem info60 : (Try.prog.info? 60).map (·.size) = some 448 := by kernel_rfl
theorem info62 : (Try.prog.info? 62).map (·.size) = some 455 := by kernel_rfl
/-- The program's cache at block p. -/
structure CAt (w : World) (p : Nat) (sets ways : Nat) (knob : Int) (pl : Nat → Pl) (epoch puts hits misses : Int) : Prop where
  lt : p < w.heap.size
  free : ∀ j, j < 455 → w.frozen? ⟨p, j, none⟩ = false
  c0 : w.cell? ⟨p, 0, none⟩ = some (.int .i64 sets)
  c1 : w.cell? ⟨p, 1, none⟩ = some (.int .i64 ways)
  c2 : w.cell? ⟨p, 2, none⟩ = some (.int .i64 knob)
  cp : ∀ q, q < 64 → w.rangeAt p (3 + q * 7) (plL (pl q))
  ce : w.cell? ⟨p, 451, none⟩ = some (.int .i64 epoch)
  cn : w.cell? ⟨p, 452, none⟩ = some (.int .i64 puts)
  ch : w.cell? ⟨p, 453, none⟩ = some (.int .i64 hits)
  cm : w.cell? ⟨p, 454, none⟩ = some (.int .i64 misses)
section
variable {w w' : World} {p sets ways : Nat} {knob epoch puts hits misses : Int} {pl : Nat → Pl}
theorem CAt.kept {S : Nat → Prop} (h : CAt w p sets ways knob pl epoch puts hits misses) (hk : Kept S w w') (hp : ¬ S p) : CAt w' p sets ways knob pl epoch puts hits misses :=
  ⟨Nat.lt_of_lt_of_le h.lt hk.size, fun j hj => (hk.frozen h.lt hp).trans (h.free j hj), (hk.cell h.lt hp).trans h.c0, (hk.cell h.lt hp).trans h.c1, (hk.cell h.lt hp).trans h.c2, fun q hq j v hv => (hk.cell h.lt hp).trans (h.cp q hq j v hv),
    (hk.cell h.lt hp).trans h.ce, (hk.cell h.lt hp).trans h.cn, (hk.cell h.lt hp).trans h.ch, (hk.cell h.lt hp).trans h.cm⟩
theorem CAt.below (h : CAt w p sets ways knob pl epoch puts hits misses) (hb : Below w.heap.size w w') : CAt w' p sets ways knob pl epoch puts hits misses := h.kept (S := fun _ => False) (Kept.of_below hb) (fun h => h)
end
def capEq (a b : Cap) : Bool := (a.obj == b.obj) && ((a.hi == b.hi) && (a.lo == b.lo))
theorem capEq_iff (a b : Cap) : capEq a b = true ↔ a = b := by
  cases a; cases b; simp [capEq]
theorem eqWord (d : Nat) (w : World) (x0 y0 x1 y1 : Int) :
    (Op.equalIn (d + 2) 34 (.agg #[.int .u64 x0, .int .u64 x1]) (.agg #[.int .u64 y0, .int .u64 y1])).run Try.prog w = .ok (x0 == y0 && (x1 == y1)) w := by
  refine eqA_of Try.underlying34 (by kernel_rfl) ?_
  refine eqf_cons (by rfl) (by go_simp; rfl) (by go_simp; rfl) (by go_simp) ?_
  exact eqf_last (by rfl) (by go_simp; rfl) (by go_simp; rfl) (by go_simp)
theorem eqCap (w : World) (x0 y0 x1 y1 x2 y2 : Int) :
    (Op.equalIn 10000 36 (.agg #[.int .i64 x0, .int .u64 x1, .int .u64 x2]) (.agg #[.int .i64 y0, .int .u64 y1, .int .u64 y2])).run Try.prog w = .ok (capEq ⟨x0, x1, x2⟩ ⟨y0, y1, y2⟩) w := by
  refine eqA_of (d := 9999) Try.underlying36 (by kernel_rfl) ?_
  refine eqf_cons (by rfl) (by go_simp; rfl) (by go_simp; rfl) (by go_simp) ?_
  exact eqf_last (by rfl) (by go_simp) (by go_simp) (eqWord 9997 w _ _ _ _)
theorem bne_eq (e epoch : Int) : decide (e = epoch) = (e == epoch) := by by_cases h : e = epoch <;> simp [h]
theorem below_drewN (w : World) (k : Nat) : Below w.heap.size w (w.drewN k) := ⟨rfl, rfl, rfl, Nat.le_refl _, fun _ _ => rfl⟩
theorem below_q {B : Nat} {w w' : World} (h : Below B w w') (k : Nat) : Below B w (w'.drewN k) := ⟨h.os, h.tape, h.output, h.size, h.block⟩
set_option maxHeartbeats 1000000 in
theorem known_any (w : World) (p sets ways : Nat) (knob epoch puts hits misses : Int) (pl : Nat → Pl) (h : CAt w p sets ways knob pl epoch puts hits misses) (x : Pl) :
    Calls Try.prog 26 #[.pointer (some ⟨p, 0, none⟩), plV x] w fun e w' => e = .returned (.bool (kn epoch x)) ∧ Below w.heap.size w w' := by
  have ce := h.ce
  have hlt := h.lt
  have hb := (Below.refl w.heap.size w).alloc (Nat.le_refl _) (.cells #[.bool x.put, .int .i64 x.cap.obj, .int .u64 x.cap.hi, .int .u64 x.cap.lo, .int .i64 x.rights, .int .i64 x.epoch, .int .i64 x.age] 56)
  have ce2 := (hb.cell hlt).trans ce
  obtain ⟨put, c, r, e, a⟩ := x
  clear h ce
  go_enter Try.func26, Try.ntmps26
  cases put
  · go_wp2_with fail
    go_quiet (fail)
    go_wp2
    go_ret
    exact ⟨ret_bool rfl (by simp [kn]), below_q hb _⟩
  · go_wp2_with fail
    go_quiet (fail)
    go_wp2
    go_ret
    exact ⟨ret_bool rfl (by simp [kn, bne_eq]), below_q hb _⟩
def homeN (sets : Nat) (knob : Int) (c : Cap) : Int := (Mixed.hashK c.obj c.hi c.lo knob).tmod (sets : Int)
theorem homeN_range {sets : Nat} (hs : 0 < sets) (knob : Int) (c : Cap) : 0 ≤ homeN sets knob c ∧ homeN sets knob c < sets := by
  have h := Mixed.hashK_range c.obj c.hi c.lo knob
  unfold homeN
  rw [Int.tmod_eq_emod_of_nonneg h.1]
  exact ⟨Int.emod_nonneg _ (by omega), Int.emod_lt_of_pos _ (by omega)⟩
def OfS (W : World) (p : Nat) (sets : Nat) (knob : Int) (c : Cap) (w' : World) : Prop :=
  w'.cell? ⟨W.heap.size, 0, none⟩ = some (.int .i64 c.obj) ∧ w'.cell? ⟨W.heap.size, 1, none⟩ = some (.int .u64 c.hi) ∧ w'.cell? ⟨W.heap.size, 2, none⟩ = some (.int .u64 c.lo) ∧ w'.cell? ⟨p, 0, none⟩ = some (.int .i64 sets) ∧ w'.cell? ⟨p, 2, none⟩ = some (.int .i64 knob) ∧ Below W.heap.size W w' ∧ W.heap.size < w'.heap.size
theorem OfS.later {W : World} {p sets : Nat} {knob : Int} {c : Cap} {a b : World} (hp : p < W.heap.size) (hb : Below a.heap.size a b) (h : OfS W p sets knob c a) : OfS W p sets knob c b := by
  obtain ⟨h1, h2, h3, h4, h5, h6, h7⟩ := h
  have hp' : p < a.heap.size := by omega
  exact ⟨(hb.cell h7).trans h1, (hb.cell h7).trans h2, (hb.cell h7).trans h3, (hb.cell hp').trans h4, (hb.cell hp').trans h5, h6.trans (hb.mono h6.size), Nat.lt_of_lt_of_le h7 hb.size⟩
theorem OfS.drew {W : World} {p sets : Nat} {knob : Int} {c : Cap} {a : World} (h : OfS W p sets knob c a) : OfS W p sets knob c a.drew :=
  ⟨h.1, h.2.1, h.2.2.1, h.2.2.2.1, h.2.2.2.2.1, h.2.2.2.2.2.1.drew, h.2.2.2.2.2.2⟩
set_option maxHeartbeats 1000000 in
theorem of_any (w : World) (p sets ways : Nat) (knob epoch puts hits misses : Int) (pl : Nat → Pl) (h : CAt w p sets ways knob pl epoch puts hits misses) (hs : 0 < sets) (hs16 : sets ≤ 16) (c : Cap) :
    Calls Try.prog 20 #[.pointer (some ⟨p, 0, none⟩), capV c] w fun e w' => e = .returned (.int .i64 (homeN sets knob c)) ∧ Below w.heap.size w w' := by
  have hlt := h.lt
  have hb := (Below.refl w.heap.size w).alloc (Nat.le_refl _) (.cells #[.int .i64 c.obj, .int .u64 c.hi, .int .u64 c.lo] 36)
  have ST : Hid (OfS w p sets knob c (w.alloc (.cells #[.int .i64 c.obj, .int .u64 c.hi, .int .u64 c.lo] 36)).drew) :=
    OfS.drew ⟨by simp, by simp, by simp, (hb.cell hlt).trans h.c0, (hb.cell hlt).trans h.c2, hb, by simp⟩
  have KEEP : Hid (∀ a b, Below a.heap.size a b → OfS w p sets knob c a → OfS w p sets knob c b) := fun a b hb h => OfS.later hlt hb h
  have HR := Mixed.hashK_range c.obj c.hi c.lo knob
  have hhome : Hid (homeN sets knob c = (Mixed.hashK c.obj c.hi c.lo knob).tmod (sets : Int)) := rfl
  have HH := Lib.hid (fun w => Hash.hash_any c.obj c.hi c.lo knob w)
  have hr := homeN_range hs knob c
  obtain ⟨H, hH⟩ : ∃ H, Mixed.hashK c.obj c.hi c.lo knob = H := ⟨_, rfl⟩
  rw [hH] at HR HH hhome
  have hs0 : ¬ sets = 0 := by omega
  have e0 : IntKind.u64.wrap (sets : Int) = (sets : Int) := by rw [IntKind.wrap_u64]; omega
  have HM := Int.tmod_eq_emod_of_nonneg (b := (sets : Int)) HR.1
  have e1 : IntKind.i64.wrap (H % (sets : Int)) = H % (sets : Int) := IntWalk.i64_in _ (by
    have := hhome.out
    rw [HM] at this
    omega)
  clear h hH hb
  go_enter Try.func20, Try.ntmps20
  go_wp2_with fail
  go_region_held3 (fun w' => w'.cell? ⟨w.heap.size, 0, none⟩ = some (.int .i64 c.obj) ∧ w'.cell? ⟨w.heap.size, 1, none⟩ = some (.int .u64 c.hi) ∧ w'.cell? ⟨w.heap.size, 2, none⟩ = some (.int .u64 c.lo) ∧ w'.cell? ⟨p, 0, none⟩ = some (.int .i64 sets) ∧ w'.cell? ⟨p, 2, none⟩ = some (.int .i64 knob) ∧ Below w.heap.size w w' ∧ w.heap.size < w'.heap.size)
    (first | exact ST.out | (refine KEEP.out _ _ (by with_reducible assumption) ?_; go_split_ands; exact ⟨by with_reducible assumption, by with_reducible assumption, by with_reducible assumption, by with_reducible assumption, by with_reducible assumption, by with_reducible assumption, by with_reducible assumption⟩) | go_keep)
    (first | (go_at_call 25; (with_reducible refine (HH.out _).mono ?_); rintro e w1 ⟨rfl, hb1⟩) | fail)
  all_goals (go_wp2; go_split_ands; go_ret; exact ⟨ret_num rfl (by rw [hhome.out, HM]), by with_reducible assumption⟩)
def setL (f : Nat → Pl) : List Value := plL (f 0) ++ plL (f 1) ++ plL (f 2) ++ plL (f 3)
theorem setL_at (f : Nat → Pl) {i j : Nat} (hi : i < 4) {v : Value} (hv : (plL (f i))[j]? = some v) : (setL f)[i * 7 + j]? = some v := by
  have hj : j < 7 := (List.getElem?_eq_some_iff.1 hv).1
  have h : i = 0 ∨ i = 1 ∨ i = 2 ∨ i = 3 := by omega
  have hl : ∀ k, (plL (f k)).length = 7 := fun k => rfl
  unfold setL
  rcases h with rfl | rfl | rfl | rfl
  · rw [List.append_assoc, List.append_assoc, List.getElem?_append_left (by rw [hl]; omega), ← hv]; simp
  · rw [List.append_assoc, List.append_assoc, List.getElem?_append_right (by rw [hl]; omega), List.getElem?_append_left (by rw [hl, hl]; omega), ← hv, hl]; congr 1; omega
  · rw [List.append_assoc, List.getElem?_append_right (by rw [List.length_append, hl, hl]; omega), List.getElem?_append_left (by rw [List.length_append, hl, hl, hl]; omega), ← hv, List.length_append, hl, hl]; congr 1; omega
  · rw [List.getElem?_append_right (by rw [List.length_append, List.length_append, hl, hl, hl]; omega), ← hv, List.length_append, List.length_append, hl, hl, hl]; congr 1; omega
/-- A set lies in a variable at block g. -/
def SetAt (w : World) (g : Nat) (f : Nat → Pl) : Prop := ∀ i, i < 4 → w.rangeAt g (i * 7) (plL (f i))
theorem SetAt.below {w w' : World} {g : Nat} {f : Nat → Pl} (h : SetAt w g f) (hb : Below w.heap.size w w') : SetAt w' g f := fun i hi j v hv => (hb.cell (World.block_lt_of_cell? w _ (h i hi j v hv))).trans (h i hi j v hv)
theorem SetAt.box {w : World} {g : Nat} (f : Nat → Pl) {X : Array Value} {t : TypeId} {fr : Nat × Nat} (hX : X.toList = setL f) (hg : w.heap[g]? = some (.cells X t fr)) : SetAt w g f := fun i hi j v hv => by
  refine (cell_of_row w g _ X t fr hg).trans ?_
  rw [← Array.getElem?_toList, hX]
  exact setL_at f hi hv
theorem SetAt.cells {w : World} {g : Nat} {f : Nat → Pl} (h : SetAt w g f) {i : Nat} (hi : i < 4) : w.cell? ⟨g, i * 7, none⟩ = some (.bool (f i).put) ∧ w.cell? ⟨g, i * 7 + 1, none⟩ = some (.int .i64 (f i).cap.obj) ∧ w.cell? ⟨g, i * 7 + 2, none⟩ = some (.int .u64 (f i).cap.hi) ∧ w.cell? ⟨g, i * 7 + 3, none⟩ = some (.int .u64 (f i).cap.lo) ∧ w.cell? ⟨g, i * 7 + 4, none⟩ = some (.int .i64 (f i).rights) ∧ w.cell? ⟨g, i * 7 + 5, none⟩ = some (.int .i64 (f i).epoch) ∧ w.cell? ⟨g, i * 7 + 6, none⟩ = some (.int .i64 (f i).age) :=
  ⟨h i hi 0 _ rfl, h i hi 1 _ rfl, h i hi 2 _ rfl, h i hi 3 _ rfl, h i hi 4 _ rfl, h i hi 5 _ rfl, h i hi 6 _ rfl⟩
structure Fst (W : World) (p sets ways : Nat) (knob epoch puts hits misses : Int) (pl : Nat → Pl) (f : Nat → Pl) (c : Cap) (w' : World) : Prop where
  at' : CAt w' p sets ways knob pl epoch puts hits misses
  set : SetAt w' W.heap.size f
  below : Below W.heap.size W w'
  o : w'.cell? ⟨W.heap.size + 1, 0, none⟩ = some (.int .i64 c.obj)
  h : w'.cell? ⟨W.heap.size + 1, 1, none⟩ = some (.int .u64 c.hi)
  l : w'.cell? ⟨W.heap.size + 1, 2, none⟩ = some (.int .u64 c.lo)
  big : W.heap.size + 1 < w'.heap.size
theorem Fst.box {W : World} {p sets ways : Nat} {knob epoch puts hits misses : Int} {pl f : Nat → Pl} {c : Cap} {a b : World} (h : Fst W p sets ways knob epoch puts hits misses pl f c a) (hb : Below a.heap.size a b) : Fst W p sets ways knob epoch puts hits misses pl f c b :=
  ⟨h.at'.below hb, h.set.below hb, h.below.trans (hb.mono h.below.size), (hb.cell h.big).trans h.o, (hb.cell h.big).trans h.h, (hb.cell h.big).trans h.l, Nat.lt_of_lt_of_le h.big hb.size⟩
theorem cl {a b : World} (hb : Below a.heap.size a b) {x : Addr} {v : Value} (h : a.cell? x = some v) : b.cell? x = some v := (hb.cell (World.block_lt_of_cell? a _ h)).trans h
def FindS (g i : Nat) (x : Pl) (c : Cap) (wr w' : World) : Prop :=
  w'.cell? ⟨g, i * 7, none⟩ = some (.bool x.put) ∧ w'.cell? ⟨g, i * 7 + 1, none⟩ = some (.int .i64 x.cap.obj) ∧ w'.cell? ⟨g, i * 7 + 2, none⟩ = some (.int .u64 x.cap.hi) ∧ w'.cell? ⟨g, i * 7 + 3, none⟩ = some (.int .u64 x.cap.lo) ∧ w'.cell? ⟨g, i * 7 + 4, none⟩ = some (.int .i64 x.rights) ∧ w'.cell? ⟨g, i * 7 + 5, none⟩ = some (.int .i64 x.epoch) ∧ w'.cell? ⟨g, i * 7 + 6, none⟩ = some (.int .i64 x.age) ∧
  w'.cell? ⟨g + 1, 0, none⟩ = some (.int .i64 c.obj) ∧ w'.cell? ⟨g + 1, 1, none⟩ = some (.int .u64 c.hi) ∧ w'.cell? ⟨g + 1, 2, none⟩ = some (.int .u64 c.lo) ∧ Below wr.heap.size wr w'
theorem FindS.later {g i : Nat} {x : Pl} {c : Cap} {wr a b : World} (hb : Below a.heap.size a b) (h : FindS g i x c wr a) : FindS g i x c wr b := by
  obtain ⟨h0, h1, h2, h3, h4, h5, h6, h7, h8, h9, h10⟩ := h
  exact ⟨cl hb h0, cl hb h1, cl hb h2, cl hb h3, cl hb h4, cl hb h5, cl hb h6, cl hb h7, cl hb h8, cl hb h9, h10.trans (hb.mono h10.size)⟩
theorem findP_step (epoch : Int) (c : Cap) (f : Nat → Pl) {i ways : Nat} (h : i < ways) : findP epoch c f i (ways - i) = if hitP epoch c (f i) then some i else findP epoch c f (i + 1) (ways - (i + 1)) := by
  rw [show ways - i = (ways - (i + 1)) + 1 by omega, findP]
def foundV : Option Nat → Value
  | some i => .tuple #[.int .i64 i, .bool true]
  | none => .tuple #[.int .i64 0, .bool false]
set_option maxHeartbeats 4000000 in
theorem find_any (w : World) (p sets ways : Nat) (knob epoch puts hits misses : Int) (pl : Nat → Pl) (h : CAt w p sets ways knob pl epoch puts hits misses) (hw : ways ≤ 4) (f : Nat → Pl) (X : Array Value) (hX : X.toList = setL f) (c : Cap) :
    Calls Try.prog 21 #[.pointer (some ⟨p, 0, none⟩), .agg X, capV c] w fun e w' => e = .returned (foundV (findP epoch c f 0 ways)) ∧ Below w.heap.size w w' := by
  have F0 : Hid (Fst w p sets ways knob epoch puts hits misses pl f c ((w.alloc (.cells X 58)).alloc (.cells #[.int .i64 c.obj, .int .u64 c.hi, .int .u64 c.lo] 36))) := by
    have hb1 := (Below.refl w.heap.size w).alloc (Nat.le_refl _) (.cells X 58)
    have hb2 := (Below.refl _ (w.alloc (.cells X 58))).alloc (Nat.le_refl _) (.cells #[.int .i64 c.obj, .int .u64 c.hi, .int .u64 c.lo] 36)
    exact ⟨(h.below hb1).below hb2, (SetAt.box f hX (heap_alloc_new w _)).below hb2, hb1.trans (hb2.mono hb1.size), by simp, by simp, by simp, by simp⟩
  have c1 := F0.out.at'.c1
  have hq := eqCap
  obtain ⟨R, hR⟩ : ∃ R : Option Nat, findP epoch c f 0 ways = R := ⟨_, rfl⟩
  rw [hR]
  have HR : Hid (findP epoch c f 0 (ways - 0) = R) := hR
  clear h hX hR
  go_enter Try.func21, Try.ntmps21
  go_wp2_with fail
  go_loopw [13] (fun v13 wr => ∃ i : Nat, i ≤ ways ∧ v13 = .int .i64 i ∧ Hid (findP epoch c f i (ways - i) = R) ∧ Hid (Fst w p sets ways knob epoch puts hits misses pl f c wr)) (fun v13 _ => ways - (intOf v13).toNat)
  case atStart => exact ⟨0, Nat.zero_le _, rfl, HR, F0⟩
  case round =>
    clear F0 c1 HR
    obtain ⟨i, hi, rfl, HF, HW⟩ := hrel
    by_cases hlt : i < ways
    · obtain ⟨k0, k1, k2, k3, k4, k5, k6⟩ := HW.out.set.cells (i := i) (by omega)
      have i7 : i < 4 := by omega
      have i8 : (i : Int) < 4 := by omega
      have i9 : (0 : Int) ≤ (i : Int) := by omega
      have ST : Hid (FindS w.heap.size i (f i) c wr wr.drew) := ⟨k0, k1, k2, k3, k4, k5, k6, HW.out.o, HW.out.h, HW.out.l, (Below.refl _ _).drew⟩
      have KN : Hid (∀ a, Below wr.heap.size wr a → Calls Try.prog 26 #[.pointer (some ⟨p, 0, none⟩), plV (f i)] a fun e w' => e = .returned (.bool (kn epoch (f i))) ∧ Below a.heap.size a w') := fun a hb => known_any a _ _ _ _ _ _ _ _ _ (HW.out.at'.below hb) (f i)
      have KEEP : Hid (∀ a b, Below a.heap.size a b → FindS w.heap.size i (f i) c wr a → FindS w.heap.size i (f i) c wr b) := fun a b hb h => h.later hb
      have HF2 := HF.out
      rw [findP_step epoch c f hlt] at HF2
      unfold hitP at HF2
      obtain ⟨x, hx⟩ : ∃ x, f i = x := ⟨_, rfl⟩
      rw [hx] at HF2 KN KEEP ST
      obtain ⟨kk, hkk⟩ : ∃ kk, kn epoch x = kk := ⟨_, rfl⟩
      rw [hkk] at HF2 KN
      clear hkk HF
      rw [hx] at k0 k1 k2 k3 k4 k5 k6
      cases kk
      · have HFn : Hid (findP epoch c f (i + 1) (ways - (i + 1)) = R) := by rw [Bool.false_and, if_neg (by decide)] at HF2; exact HF2
        clear HF2
        go_upto_region 4 with (fail)
        first | (go_region_with (go_at_call 26; (with_reducible refine (KN.out _ ((Below.refl _ _).drew)).mono ?_); rintro e w1 ⟨rfl, hb1⟩; have HW8 := Lib.hid (HW.out.box (Below.trans (Below.refl _ wr).drew hb1)))) | fail
        all_goals (go_wp2_with fail; exact ⟨⟨i + 1, by omega, by simp, HFn, HW8⟩, by simp [intOf]; omega⟩)
      · obtain ⟨b, hb⟩ : ∃ b, capEq ⟨x.cap.obj, x.cap.hi, x.cap.lo⟩ ⟨c.obj, c.hi, c.lo⟩ = b := ⟨_, rfl⟩
        have hbi : (x.cap = c) ↔ b = true := by rw [← hb]; exact (capEq_iff x.cap c).symm
        cases b
        · have HFn : Hid (findP epoch c f (i + 1) (ways - (i + 1)) = R) := by
            have : ¬ x.cap = c := fun e => by cases hbi.1 e
            rw [decide_eq_false this, Bool.and_false, if_neg (by decide)] at HF2
            exact HF2
          clear HF2 hx hbi
          go_upto_region 4 with (fail)
          first | (go_region_held3 (fun w' => w'.cell? ⟨w.heap.size, i * 7, none⟩ = some (.bool x.put) ∧ w'.cell? ⟨w.heap.size, i * 7 + 1, none⟩ = some (.int .i64 x.cap.obj) ∧ w'.cell? ⟨w.heap.size, i * 7 + 2, none⟩ = some (.int .u64 x.cap.hi) ∧ w'.cell? ⟨w.heap.size, i * 7 + 3, none⟩ = some (.int .u64 x.cap.lo) ∧ w'.cell? ⟨w.heap.size, i * 7 + 4, none⟩ = some (.int .i64 x.rights) ∧ w'.cell? ⟨w.heap.size, i * 7 + 5, none⟩ = some (.int .i64 x.epoch) ∧ w'.cell? ⟨w.heap.size, i * 7 + 6, none⟩ = some (.int .i64 x.age) ∧
              w'.cell? ⟨w.heap.size + 1, 0, none⟩ = some (.int .i64 c.obj) ∧ w'.cell? ⟨w.heap.size + 1, 1, none⟩ = some (.int .u64 c.hi) ∧ w'.cell? ⟨w.heap.size + 1, 2, none⟩ = some (.int .u64 c.lo) ∧ Below wr.heap.size wr w')
            (first | exact ST.out | (refine KEEP.out _ _ (by with_reducible assumption) ?_; go_split_ands; exact ⟨by with_reducible assumption, by with_reducible assumption, by with_reducible assumption, by with_reducible assumption, by with_reducible assumption, by with_reducible assumption, by with_reducible assumption, by with_reducible assumption, by with_reducible assumption, by with_reducible assumption, by with_reducible assumption⟩) | go_keep)
            (first | (go_at_call 26; (with_reducible refine (KN.out _ ?_).mono ?_); (go_split_ands; with_reducible assumption); rintro e w1 ⟨rfl, hb1⟩) | fail)) | fail
          all_goals (go_split_ands; have HW9 := Lib.hid (HW.out.box (by with_reducible assumption)); go_wp2_with fail; exact ⟨⟨i + 1, by omega, by simp, HFn, HW9⟩, by simp [intOf]; omega⟩)
        · have HFn : Hid (some i = R) := by
            have : x.cap = c := hbi.2 rfl
            rw [decide_eq_true this, Bool.and_true, if_pos rfl] at HF2
            exact HF2
          clear HF2 hx hbi
          go_upto_region 4 with (fail)
          first | (go_region_held3 (fun w' => w'.cell? ⟨w.heap.size, i * 7, none⟩ = some (.bool x.put) ∧ w'.cell? ⟨w.heap.size, i * 7 + 1, none⟩ = some (.int .i64 x.cap.obj) ∧ w'.cell? ⟨w.heap.size, i * 7 + 2, none⟩ = some (.int .u64 x.cap.hi) ∧ w'.cell? ⟨w.heap.size, i * 7 + 3, none⟩ = some (.int .u64 x.cap.lo) ∧ w'.cell? ⟨w.heap.size, i * 7 + 4, none⟩ = some (.int .i64 x.rights) ∧ w'.cell? ⟨w.heap.size, i * 7 + 5, none⟩ = some (.int .i64 x.epoch) ∧ w'.cell? ⟨w.heap.size, i * 7 + 6, none⟩ = some (.int .i64 x.age) ∧
              w'.cell? ⟨w.heap.size + 1, 0, none⟩ = some (.int .i64 c.obj) ∧ w'.cell? ⟨w.heap.size + 1, 1, none⟩ = some (.int .u64 c.hi) ∧ w'.cell? ⟨w.heap.size + 1, 2, none⟩ = some (.int .u64 c.lo) ∧ Below wr.heap.size wr w')
            (first | exact ST.out | (refine KEEP.out _ _ (by with_reducible assumption) ?_; go_split_ands; exact ⟨by with_reducible assumption, by with_reducible assumption, by with_reducible assumption, by with_reducible assumption, by with_reducible assumption, by with_reducible assumption, by with_reducible assumption, by with_reducible assumption, by with_reducible assumption, by with_reducible assumption, by with_reducible assumption⟩) | go_keep)
            (first | (go_at_call 26; (with_reducible refine (KN.out _ ?_).mono ?_); (go_split_ands; with_reducible assumption); rintro e w1 ⟨rfl, hb1⟩) | fail)) | fail
          all_goals (go_split_ands; have HW9 := Lib.hid (HW.out.box (by with_reducible assumption)); go_wp2_with fail; rw [← HFn.out]; go_ret2; exact ⟨rfl, HW9.out.below⟩)
    · have : i = ways := by omega
      subst this
      have HFn : Hid (none = R) := by
        have := HF.out
        rw [Nat.sub_self] at this
        exact this
      go_wp2_with fail
      rw [← HFn.out]
      go_ret2
      exact ⟨rfl, HW.out.below⟩
end Go.Proofs.Ytnebdabfandngaa.C

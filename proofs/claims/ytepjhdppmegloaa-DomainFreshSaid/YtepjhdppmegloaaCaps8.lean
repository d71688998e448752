/- One step: one call of both lists. -/
import Derived.Test.YtepjhdppmegloaaCaps7
namespace Go.Proofs.Ytepjhdppmegloaa.Caps
open Go.RowKit Go.Proofs.Ytepjhdppmegloaa.Mem
@[reducible] def pairV (p r : Nat) : Value := .agg #[.pointer (some ⟨p, 0, none⟩), .pointer (some ⟨r, 0, none⟩)]
@[reducible] def stepV (b : Bool) (k : Int) (x : Cap) (n : Int) (u : Value) : Value := .agg #[.bool b, .int .i64 k, .int .i64 x.obj, .int .u64 x.hi, .int .u64 x.lo, .int .i64 n, u]
@[reducible] def boxP (p r : Nat) : Obj := .cells #[.pointer (some ⟨p, 0, none⟩), .pointer (some ⟨r, 0, none⟩)] 32
@[reducible] def boxS (b : Bool) (k : Int) (x : Cap) (n : Int) (u : Value) : Obj := .cells #[.bool b, .int .i64 k, .int .i64 x.obj, .int .u64 x.hi, .int .u64 x.lo, .int .i64 n, u] 40
/-- The two boxes' cells. -/
@[reducible] def Boxed (g p r : Nat) (x : Cap) (n : Int) (u : Value) (w : World) : Prop :=
  w.cell? ⟨g, 0, none⟩ = some (.pointer (some ⟨p, 0, none⟩)) ∧ w.cell? ⟨g, 1, none⟩ = some (.pointer (some ⟨r, 0, none⟩)) ∧ w.cell? ⟨g + 1, 2, none⟩ = some (.int .i64 x.obj) ∧ w.cell? ⟨g + 1, 3, none⟩ = some (.int .u64 x.hi) ∧ w.cell? ⟨g + 1, 4, none⟩ = some (.int .u64 x.lo) ∧ w.cell? ⟨g + 1, 5, none⟩ = some (.int .i64 n) ∧ w.cell? ⟨g + 1, 6, none⟩ = some u
def In2 (X : Nat → Prop) (g : Nat) (k : Nat) : Prop := X k ∨ k = g ∨ k = g + 1
theorem Duo.boxed {X : Nat → Prop} {w : World} {p r : Nat} {most : Int} {l m : List Cap} (h : Duo X w p r most l m) (o1 o2 : Obj) : Duo (In2 X w.heap.size) ((w.alloc o1).alloc o2) p r most l m := by
  obtain ⟨A, h1, h2, h3⟩ := h.below (((Below.refl _ w).alloc (Nat.le_refl _) o1).alloc (by simp) o2)
  obtain ⟨A', h1', h2', h3'⟩ := h
  obtain ⟨F, G, k1, k2, k3, k4, k5⟩ := h1'
  refine ⟨A', Feet.kept (w := w) (Y := fun _ => True) ⟨F, G, k1, k2, k3, k4, k5⟩ (Away.of_below (((Below.refl _ w).alloc (Nat.le_refl _) o1).alloc (by simp) o2)) (fun _ _ => trivial), fun k ha => ?_, fun k hk => ?_⟩
  · have := k5 k ha
    unfold In2
    rintro (hx | hx | hx)
    · exact h2' k ha hx
    · omega
    · omega
  · have e : ((w.alloc o1).alloc o2).heap.size = w.heap.size + 2 := by simp
    rw [e]
    rcases hk with hx | hx | hx
    · have := h3' k hx; omega
    · omega
    · omega
theorem Duo.more1 {X : Nat → Prop} {w : World} {p r : Nat} {most : Int} {l m : List Cap} (h : Duo X w p r most l m) (o : Obj) : Duo (fun k => X k ∨ k = w.heap.size) (w.alloc o) p r most l m := by
  obtain ⟨A, ⟨F, G, k1, k2, k3, k4, k5⟩, h2, h3⟩ := h
  refine ⟨A, Feet.kept (w := w) (Y := fun _ => True) ⟨F, G, k1, k2, k3, k4, k5⟩ (Away.of_below ((Below.refl _ w).alloc (Nat.le_refl _) o)) (fun _ _ => trivial), fun k ha => ?_, fun k hk => ?_⟩
  · have := k5 k ha
    rintro (hx | hx)
    · exact h2 k ha hx
    · omega
  · have e : (w.alloc o).heap.size = w.heap.size + 1 := by simp
    rw [e]
    rcases hk with hx | hx
    · have := h3 k hx; omega
    · omega
theorem Duo.less {X Y : Nat → Prop} {w : World} {p r : Nat} {most : Int} {l m : List Cap} (h : Duo X w p r most l m) (hY : ∀ k, Y k → X k) : Duo Y w p r most l m := by
  obtain ⟨A, h1, h2, h3⟩ := h
  exact ⟨A, h1, fun k ha hy => h2 k ha (hY k hy), fun k hy => h3 k (hY k hy)⟩
theorem boxed_start (w : World) (p r : Nat) (b : Bool) (k : Int) (x : Cap) (n : Int) (u : Value) : Boxed w.heap.size p r x n u ((w.alloc (boxP p r)).alloc (boxS b k x n u)) := by
  have h0 : ((w.alloc (boxP p r)).alloc (boxS b k x n u)).heap[w.heap.size]? = some (boxP p r) := no_keeps (heap_alloc_new w _) ((Kept.refl _ _).alloc _)
  have h1 : ((w.alloc (boxP p r)).alloc (boxS b k x n u)).heap[w.heap.size + 1]? = some (boxS b k x n u) := by simpa using heap_alloc_new (w.alloc (boxP p r)) (boxS b k x n u)
  exact ⟨cell_row h0 rfl, cell_row h0 rfl, cell_row h1 rfl, cell_row h1 rfl, cell_row h1 rfl, cell_row h1 rfl, cell_row h1 rfl⟩
theorem boxed_away {g p r : Nat} {x : Cap} {n : Int} {u : Value} {Y : Nat → Prop} {a c : World} (ha : Away Y a c) (h : Boxed g p r x n u a) (h1 : Y g) (h2 : Y (g + 1)) : Boxed g p r x n u c := by
  have f : ∀ (q : Addr) (v : Value), Y q.block → a.cell? q = some v → c.cell? q = some v := fun q v hy hq => (Kept.cell ha (World.block_lt_of_cell? a q hq) (fun hn => hn hy)).trans hq
  obtain ⟨c0, c1, c2, c3, c4, c5, c6⟩ := h
  exact ⟨f _ _ h1 c0, f _ _ h1 c1, f _ _ h2 c2, f _ _ h2 c3, f _ _ h2 c4, f _ _ h2 c5, f _ _ h2 c6⟩
theorem boxed_in {g p r : Nat} {x : Cap} {n : Int} {u : Value} {X : Nat → Prop} {a c : World} (ha : Away (In2 X g) a c) (h : Boxed g p r x n u a) : Boxed g p r x n u c := boxed_away ha h (.inr (.inl rfl)) (.inr (.inr rfl))
theorem boxed_new {g p r : Nat} {x : Cap} {n : Int} {u : Value} {a : World} (h : Boxed g p r x n u a) (o : Obj) : Boxed g p r x n u (a.alloc o) := boxed_in (X := fun _ => True) (Away.of_below (Below.alloc (Below.refl _ _) (Nat.le_refl _) o)) h
theorem boxed_drew {g p r : Nat} {x : Cap} {n : Int} {u : Value} {a : World} (h : Boxed g p r x n u a) : Boxed g p r x n u a.drew := h
def remC (l : List Cap) (i : Int) : Cap := if hasB l i then l.getD i.toNat z0 else z0
def remE (l : List Cap) (i : Int) : Int := if hasB l i then 0 else 15
theorem remV_eq (l : List Cap) (i : Int) : remV l i = .tuple #[capV (remC l i), .int .i64 (remE l i)] := by
  unfold remV remC remE
  split <;> rfl
theorem atV_eq (l : List Cap) (i : Int) : atV l i = .tuple #[capV (remC l i), .int .i64 (remE l i)] := by
  unfold atV remC remE
  split <;> rfl
theorem duo_remove' {X : Nat → Prop} {w : World} {p r : Nat} {most : Int} {l m : List Cap} (h : Duo X w p r most l m) (i : Int) : Calls Try.prog 12 #[.pointer (some ⟨p, 0, none⟩), .int .i64 i] w fun e w' => e = .returned (.tuple #[capV (remC l i), .int .i64 (remE l i)]) ∧ Duo X w' p r most (remL l i) m ∧ Away X w w' := by
  rw [← remV_eq]; exact duo_remove h i
theorem duo_refRemove' {X : Nat → Prop} {w : World} {p r : Nat} {most : Int} {l m : List Cap} (h : Duo X w p r most l m) (i : Int) (hb : m.length ≤ 1000000) : Calls Try.prog 20 #[.pointer (some ⟨r, 0, none⟩), .int .i64 i] w fun e w' => e = .returned (.tuple #[capV (remC m i), .int .i64 (remE m i)]) ∧ Duo X w' p r most l (remL m i) ∧ Away X w w' := by
  rw [← remV_eq]; exact duo_refRemove h i hb
theorem duo_at' {X : Nat → Prop} {w : World} {p r : Nat} {most : Int} {l m : List Cap} (h : Duo X w p r most l m) (i : Int) : Calls Try.prog 16 #[.pointer (some ⟨p, 0, none⟩), .int .i64 i] w fun e w' => e = .returned (.tuple #[capV (remC l i), .int .i64 (remE l i)]) ∧ Below w.heap.size w w' := by
  rw [← atV_eq]; exact duo_at h i
theorem duo_refAt' {X : Nat → Prop} {w : World} {p r : Nat} {most : Int} {l m : List Cap} (h : Duo X w p r most l m) (i : Int) : Calls Try.prog 21 #[.pointer (some ⟨r, 0, none⟩), .int .i64 i] w fun e w' => e = .returned (.tuple #[capV (remC m i), .int .i64 (remE m i)]) ∧ Below w.heap.size w w' := by
  rw [← atV_eq]; exact duo_refAt h i
theorem remL_len {most : Int} {l : List Cap} (i : Int) (h : (l.length : Int) ≤ most) : ((remL l i).length : Int) ≤ most := by
  unfold remL
  split
  · simp; omega
  · exact h
theorem Away.lt {X : Nat → Prop} {w w' : World} (h : Away X w w') {k : Nat} (_ : X k) (hk : k < w.heap.size) : k < w'.heap.size := Nat.lt_of_lt_of_le hk h.size
theorem capEq_self (c : Cap) : capEq c c = true := by simp [capEq]
theorem ints_below {w w' : World} {v : Value} {l : List Int} (h : ReadsInts w v l) (hb : Below w.heap.size w w') : ReadsInts w' v l := by
  obtain ⟨A, c, h1, h2, h3⟩ := h
  refine ⟨A, c, h1, h2, fun hne => ?_⟩
  obtain ⟨b, o, e, h4⟩ := h3 hne
  exact ⟨b, o, e, fun j u hu => (hb.cell (World.block_lt_of_cell? w _ (h4 j u hu))).trans (h4 j u hu)⟩
theorem sameB_self (l : List Cap) : sameB l l = true := by simp [sameB]
/-- The boxes' cells, the document's list's, and all that is elder. -/
@[reducible] def Kept3 (g p r : Nat) (v : Value) (W w' : World) : Prop :=
  w'.cell? ⟨g, 0, none⟩ = some (.pointer (some ⟨p, 0, none⟩)) ∧ w'.cell? ⟨g, 1, none⟩ = some (.pointer (some ⟨r, 0, none⟩)) ∧ w'.cell? ⟨r, 1, none⟩ = some v ∧ Below (g + 1 + 1) W w'
theorem below_two {w w' : World} {o1 o2 : Obj} (h : Below (w.heap.size + 1 + 1) ((w.alloc o1).alloc o2) w') : Below ((w.alloc o1).alloc o2).heap.size ((w.alloc o1).alloc o2) w' := by
  have e : ((w.alloc o1).alloc o2).heap.size = w.heap.size + 1 + 1 := by simp
  rw [e]; exact h
theorem kept3_below {w : World} {o1 o2 : Obj} {p r : Nat} {v : Value} {a c : World} (hb : Below a.heap.size a c) (h : Kept3 w.heap.size p r v ((w.alloc o1).alloc o2) a) : Kept3 w.heap.size p r v ((w.alloc o1).alloc o2) c := by
  obtain ⟨h0, h1, h2, h3⟩ := h
  have h4 : w.heap.size + 1 + 1 ≤ a.heap.size := by have := h3.size; simpa using this
  have f : ∀ (q : Addr) (u : Value), a.cell? q = some u → c.cell? q = some u := fun q u hq => (hb.cell (World.block_lt_of_cell? a q hq)).trans hq
  exact ⟨f _ _ h0, f _ _ h1, f _ _ h2, h3.trans (hb.mono h4)⟩
theorem kept3_drew {w : World} {o1 o2 : Obj} {p r : Nat} {v : Value} {a : World} (h : Kept3 w.heap.size p r v ((w.alloc o1).alloc o2) a) : Kept3 w.heap.size p r v ((w.alloc o1).alloc o2) a.drew := kept3_below (Below.refl _ _).drew h
theorem Duo.refRow {X : Nat → Prop} {w : World} {p r : Nat} {most : Int} {l m : List Cap} (h : Duo X w p r most l m) : ∃ v, w.heap[r]? = some (.cells #[.int .i64 most, v] 60 (0, 0)) ∧ w.ownsRow 0 37 3 v m.length (capsC m) := by
  obtain ⟨A, ⟨F, G, h1, ⟨v, k1, k2, _⟩, _⟩, _⟩ := h
  exact ⟨v, k1, k2⟩
theorem addL_len {most : Int} {l : List Cap} (x : Cap) (h : (l.length : Int) ≤ most) : ((addL most l x).length : Int) ≤ most := by
  unfold addL
  split
  · exact h
  · simp; omega
def Stepped (X : Nat → Prop) (w : World) (p r : Nat) (most : Int) (e : Ending) (w' : World) : Prop := e = .returned (.bool true) ∧ ∃ l', (l'.length : Int) ≤ most ∧ Duo X w' p r most l' l' ∧ Away X w w'
theorem away_boxed {X : Nat → Prop} {w w' : World} (o1 o2 : Obj) (h : Away (In2 X w.heap.size) ((w.alloc o1).alloc o2) w') : Away X w w' :=
  (Away.of_below (((Below.refl _ w).alloc (Nat.le_refl _) o1).alloc (by simp) o2)).trans (h.mono (fun k hk => .inl hk))

section
variable (X : Nat → Prop) (w : World) (p r : Nat) (most : Int) (l : List Cap) (b : Bool) (x : Cap) (n : Int) (u : Value) (h : Duo X w p r most l l) (hb : (l.length : Int) ≤ most) (hm : most ≤ 32)
set_option maxHeartbeats 4000000 in
set_option maxRecDepth 100000 in
include h hb hm in
theorem step_0 : Calls Try.prog 9 #[pairV p r, stepV b 0 x n u] w (Stepped X w p r most) := by
  have HB := Lib.hid (boxed_start w p r b 0 x n u)
  have HD := Lib.hid (h.boxed (boxP p r) (boxS b 0 x n u))
  have HL := Lib.hid (show l.length ≤ 1000000 by omega)
  have HM := Lib.hid hb
  clear h hb
  go_enter Try.func9, Try.ntmps9
  go_wp2_with fail
  go_region_held3 (fun w' => w'.cell? ⟨w.heap.size, 0, none⟩ = some (.pointer (some ⟨p, 0, none⟩)) ∧ w'.cell? ⟨w.heap.size, 1, none⟩ = some (.pointer (some ⟨r, 0, none⟩)) ∧ w'.cell? ⟨w.heap.size + 1, 2, none⟩ = some (.int .i64 x.obj) ∧ w'.cell? ⟨w.heap.size + 1, 3, none⟩ = some (.int .u64 x.hi) ∧ w'.cell? ⟨w.heap.size + 1, 4, none⟩ = some (.int .u64 x.lo) ∧ w'.cell? ⟨w.heap.size + 1, 5, none⟩ = some (.int .i64 n) ∧ w'.cell? ⟨w.heap.size + 1, 6, none⟩ = some u)
    (first | exact HB.out | (refine boxed_in (X := X) (by with_reducible assumption) ?_; go_split_ands; exact ⟨by with_reducible assumption, by with_reducible assumption, by with_reducible assumption, by with_reducible assumption, by with_reducible assumption, by with_reducible assumption, by with_reducible assumption⟩) | go_keep)
    (first | (go_at_call 11; (with_reducible refine (duo_add (X := In2 X w.heap.size) (p := p) (r := r) (most := most) (l := l) (m := l) ?_ x HL.out).mono ?_); (first | exact HD.out | exact HD.out.below (Below.refl _ _).drew); rintro e w1 ⟨rfl, d1, a1⟩) | (go_at_call 19; (with_reducible refine (duo_refAdd (X := In2 X w.heap.size) (p := p) (r := r) (most := most) (l := addL most l x) (m := l) ?_ x HL.out HM.out).mono ?_); (first | with_reducible assumption | exact d1.below (Below.refl _ _).drew); rintro e w2 ⟨rfl, d2, a2⟩) | fail)
  all_goals (go_wp2; go_split_ands)
  go_ret
  exact ⟨by simp, addL most l x, addL_len x HM.out, d2.less (fun k hk => .inl hk), away_boxed _ _ ((Away.of_below (Below.refl _ _).drew).trans (a1.trans a2))⟩
set_option maxHeartbeats 4000000 in
set_option maxRecDepth 100000 in
include h hb hm in
theorem step_1 : Calls Try.prog 9 #[pairV p r, stepV b 1 x n u] w (Stepped X w p r most) := by
  have HB := Lib.hid (boxed_start w p r b 1 x n u)
  have HD := Lib.hid (h.boxed (boxP p r) (boxS b 1 x n u))
  have HL := Lib.hid (show l.length ≤ 1000000 by omega)
  have HM := Lib.hid hb
  have heq := eqCap
  have hs := capEq_self (remC l n)
  clear h hb
  go_enter Try.func9, Try.ntmps9
  go_wp2_with fail
  refine (duo_remove' HD.out n).mono ?_
  rintro e w1 ⟨rfl, d1, a1⟩
  have LB := Lib.hid (boxed_in a1 HB.out)
  obtain ⟨_, _, _, _, _, _, _⟩ := boxed_new LB.out (.cells #[.int .i64 (remC l n).obj, .int .u64 (remC l n).hi, .int .u64 (remC l n).lo] 37)
  have L0 : w.heap.size < w1.heap.size := a1.lt (.inr (.inl rfl)) (by simp; omega)
  have L1 : w.heap.size + 1 < w1.heap.size := a1.lt (.inr (.inr rfl)) (by simp)
  have D1 := Lib.hid (d1.more1 (boxC (remC l n)))
  go_wp2_with fail
  refine (duo_refRemove' D1.out n HL.out).mono ?_
  rintro e w2 ⟨rfl, d2, a2⟩
  have R1 := a2.row (heap_alloc_new w1 (boxC (remC l n))) (.inr rfl)
  obtain ⟨_, _, _, _, _, _⟩ := row3 (no_keeps R1 ((Kept.refl _ w2).alloc (.cells #[.int .i64 (remC l n).obj, .int .u64 (remC l n).hi, .int .u64 (remC l n).lo] 37)))
  clear R1
  go_wp2_with fail
  go_ret
  exact ⟨rfl, remL l n, remL_len n HM.out, (d2.less (fun k hk => .inl (.inl hk))).below ((Below.refl _ _).alloc (Nat.le_refl _) _), away_boxed _ _ (a1.trans ((Away.of_below ((Below.refl _ w1).alloc (Nat.le_refl _) _)).trans ((a2.mono (fun k hk => .inl hk)).trans (Away.of_below ((Below.refl _ w2).alloc (Nat.le_refl _) _)))))⟩
set_option maxHeartbeats 4000000 in
set_option maxRecDepth 100000 in
include h hb hm in
theorem step_2 : Calls Try.prog 9 #[pairV p r, stepV b 2 x n u] w (Stepped X w p r most) := by
  have HB := Lib.hid (boxed_start w p r b 2 x n u)
  have HD := Lib.hid (h.boxed (boxP p r) (boxS b 2 x n u))
  have HL := Lib.hid (show l.length ≤ 1000000 by omega)
  have HM := Lib.hid hb
  have heq := eqCap
  have hs := capEq_self (remC l n)
  clear h hb
  go_enter Try.func9, Try.ntmps9
  go_wp2_with fail
  refine (duo_at' HD.out n).mono ?_
  rintro e w1 ⟨rfl, b1⟩
  have a1 : Away (In2 X w.heap.size) _ w1 := Away.of_below b1
  have LB := Lib.hid (boxed_in a1 HB.out)
  obtain ⟨_, _, _, _, _, _, _⟩ := boxed_new LB.out (.cells #[.int .i64 (remC l n).obj, .int .u64 (remC l n).hi, .int .u64 (remC l n).lo] 37)
  have L0 : w.heap.size < w1.heap.size := a1.lt (.inr (.inl rfl)) (by simp; omega)
  have L1 : w.heap.size + 1 < w1.heap.size := a1.lt (.inr (.inr rfl)) (by simp)
  have D1 := Lib.hid ((HD.out.below b1).more1 (boxC (remC l n)))
  go_wp2_with fail
  refine (duo_refAt' D1.out n).mono ?_
  rintro e w2 ⟨rfl, b2⟩
  have a2 : Away (fun k => In2 X w.heap.size k ∨ k = w1.heap.size) _ w2 := Away.of_below b2
  have d2 := D1.out.below b2
  have R1 := a2.row (heap_alloc_new w1 (boxC (remC l n))) (.inr rfl)
  obtain ⟨_, _, _, _, _, _⟩ := row3 (no_keeps R1 ((Kept.refl _ w2).alloc (.cells #[.int .i64 (remC l n).obj, .int .u64 (remC l n).hi, .int .u64 (remC l n).lo] 37)))
  clear R1
  go_wp2_with fail
  go_ret
  exact ⟨rfl, l, HM.out, (d2.less (fun k hk => .inl (.inl hk))).below ((Below.refl _ _).alloc (Nat.le_refl _) _), away_boxed _ _ (a1.trans ((Away.of_below ((Below.refl _ w1).alloc (Nat.le_refl _) _)).trans ((a2.mono (fun k hk => .inl hk)).trans (Away.of_below ((Below.refl _ w2).alloc (Nat.le_refl _) _)))))⟩
include hb in
theorem step_other (k : Int) (h0 : k ≠ 0) (h1 : k ≠ 1) (h2 : k ≠ 2) (h3 : k ≠ 3) (h4 : k ≠ 4) (h : Duo X w p r most l l) : Calls Try.prog 9 #[pairV p r, stepV b k x n u] w (Stepped X w p r most) := by
  have HD := Lib.hid (h.boxed (boxP p r) (boxS b k x n u))
  have HM := Lib.hid hb
  have e0 : (k == 0) = false := by simpa using h0
  have e1 : (k == 1) = false := by simpa using h1
  have e2 : (k == 2) = false := by simpa using h2
  have e3 : (k == 3) = false := by simpa using h3
  have e4 : (k == 4) = false := by simpa using h4
  clear h hb
  go_enter Try.func9, Try.ntmps9
  go_wp2_with fail
  go_ret
  exact ⟨rfl, l, HM.out, HD.out.less (fun k hk => .inl hk), away_boxed _ _ (Away.refl _ _)⟩
set_option maxHeartbeats 4000000 in
set_option maxRecDepth 100000 in
include h hb hm in
theorem step_4 (ps : List Int) (hu : ReadsInts w u ps) (hps : ps.length ≤ 2000000) : Calls Try.prog 9 #[pairV p r, stepV b 4 x n u] w (Stepped X w p r most) := by
  have HB := Lib.hid (boxed_start w p r b 4 x n u)
  have HD := Lib.hid (h.boxed (boxP p r) (boxS b 4 x n u))
  have HU := Lib.hid (ints_below hu (((Below.refl _ w).alloc (Nat.le_refl _) (boxP p r)).alloc (by simp) (boxS b 4 x n u)))
  have HM := Lib.hid hb
  have hs := sameB_self (pickL most l ps)
  clear h hb hu
  go_enter Try.func9, Try.ntmps9
  go_wp2_with fail
  refine (duo_refPick HD.out u ps HU.out hps).mono ?_
  rintro e w1 ⟨v1, rfl, own1, b1, _⟩
  have OWN1 := Lib.hid own1
  clear own1
  obtain ⟨_, _, _, _, _, _, _⟩ := boxed_in (X := X) (Away.of_below b1) HB.out
  go_wp2_with fail
  refine (duo_pick (HD.out.below b1) u ps (ints_below HU.out b1) hm).mono ?_
  rintro e w2 ⟨v2, rfl, own2, b2, _⟩
  have R2 := Lib.hid (reads_of_own own2)
  have R1 := Lib.hid (reads_of_own (own_keeps OWN1.out (Kept.of_below b2)))
  clear own2
  go_wp2_with fail
  refine (same_below _ v2 v1 _ _ R2.out R1.out).mono ?_
  rintro e w3 ⟨rfl, b3⟩
  go_wp2_with fail
  go_ret
  exact ⟨rfl, l, HM.out, ((((HD.out.below b1).below b2).below b3).less (fun k hk => .inl hk)), away_boxed _ _ ((Away.of_below b1).trans ((Away.of_below b2).trans (Away.of_below b3)))⟩
set_option maxHeartbeats 4000000 in
set_option maxRecDepth 100000 in
include h hb hm in
theorem step_3 : Calls Try.prog 9 #[pairV p r, stepV b 3 x n u] w (Stepped X w p r most) := by
  have HB := Lib.hid (boxed_start w p r b 3 x n u)
  have hd := h.boxed (boxP p r) (boxS b 3 x n u)
  have HD := Lib.hid hd
  have HL := Lib.hid (show l.length ≤ 1000000 by omega)
  have HM := Lib.hid hb
  have hs := sameB_self l
  obtain ⟨v, hrow, hown⟩ := hd.refRow
  obtain ⟨A, c, rfl, hc⟩ := own_slice hown
  have HV := Lib.hid hown
  have hlt : r < ((w.alloc (boxP p r)).alloc (boxS b 3 x n u)).heap.size := lt_of_row hrow
  have ST := Lib.hid (⟨HB.out.1, HB.out.2.1, cell_row hrow rfl, Below.refl _ _⟩ : Kept3 w.heap.size p r (.slice A l.length c) ((w.alloc (boxP p r)).alloc (boxS b 3 x n u)) ((w.alloc (boxP p r)).alloc (boxS b 3 x n u)))
  clear h hb hd hown hrow
  go_enter Try.func9, Try.ntmps9
  go_wp2_with fail
  go_region_held3 (fun w' => w'.cell? ⟨w.heap.size, 0, none⟩ = some (.pointer (some ⟨p, 0, none⟩)) ∧ w'.cell? ⟨w.heap.size, 1, none⟩ = some (.pointer (some ⟨r, 0, none⟩)) ∧ w'.cell? ⟨r, 1, none⟩ = some (.slice A l.length c) ∧ Below (w.heap.size + 1 + 1) ((w.alloc (boxP p r)).alloc (boxS b 3 x n u)) w')
    (first | exact ST.out | exact kept3_drew ST.out | (refine kept3_below (by with_reducible assumption) ?_; go_split_ands; exact ⟨by with_reducible assumption, by with_reducible assumption, by with_reducible assumption, by with_reducible assumption⟩) | go_keep)
    (first | (go_at_call 15; (with_reducible refine (duo_all (X := In2 X w.heap.size) (p := p) (r := r) (most := most) (l := l) (m := l) ?_ HL.out).mono ?_); (go_split_ands; exact HD.out.below (below_two (by with_reducible assumption))); rintro e w1 ⟨v2, rfl, own2, hb1, _⟩) | (go_at_call 13; (with_reducible refine (duo_len (X := In2 X w.heap.size) (p := p) (r := r) (most := most) (l := l) (m := l) ?_).mono ?_); (go_split_ands; exact HD.out.below (below_two (by with_reducible assumption))); rintro e w1 ⟨rfl, rfl⟩) | (go_at_call 14; (with_reducible refine (same_below _ v2 _ l l ?_ ?_).mono ?_); (first | exact reads_of_own own2 | exact reads_of_own (own_keeps own2 (Kept.refl _ _).drew)); (go_split_ands; exact reads_of_own (own_keeps HV.out (Kept.of_below (below_two (by with_reducible assumption))))); rintro e w1 ⟨rfl, hb1⟩) | fail)
  all_goals (go_wp2; go_split_ands; go_ret; exact ⟨rfl, l, HM.out, (HD.out.below (below_two (by with_reducible assumption))).less (fun k hk => .inl hk), away_boxed _ _ (Away.of_below (below_two (by with_reducible assumption)))⟩)
include h hb hm in
/-- One call of both lists: the same answer, and the lists are alike behind it. -/
theorem step_any (k : Int) (ps : List Int) (hu : ReadsInts w u ps) (hps : ps.length ≤ 2000000) : Calls Try.prog 9 #[pairV p r, stepV b k x n u] w (Stepped X w p r most) := by
  by_cases h0 : k = 0
  · subst h0; exact step_0 X w p r most l b x n u h hb hm
  by_cases h1 : k = 1
  · subst h1; exact step_1 X w p r most l b x n u h hb hm
  by_cases h2 : k = 2
  · subst h2; exact step_2 X w p r most l b x n u h hb hm
  by_cases h3 : k = 3
  · subst h3; exact step_3 X w p r most l b x n u h hb hm
  by_cases h4 : k = 4
  · subst h4; exact step_4 X w p r most l b x n u h hb hm ps hu hps
  exact step_other X w p r most l b x n u hb k h0 h1 h2 h3 h4 h
end
end Go.Proofs.Ytepjhdppmegloaa.Caps

/- OctetFresh: the calls of a turn, in whatever order their lists are made (written by gen_ofb.py). -/
import Derived.Test.YtolfmchgcelnmaaOfA
import Derived.Test.YtolfmchgcelnmaaFloats
import Derived.Great.Frames
import Derived.Shelf.Abstract
namespace Go.Proofs.Ytolfmchgcelnmaa.O
open Go.RowKit Go.Proofs.Ytolfmchgcelnmaa.Mem
set_option linter.unusedVariables false
def ops16 : Array Oper := #[{ dst := some 63, op := Go.Op.move (Go.Operand.tmp 9), type := 46, pos := "law.go:254", after := #[], guard := none },
  { dst := some 64, op := Go.Op.move (Go.Operand.tmp 7), type := 22, pos := "law.go:254", after := #[], guard := none },
  { dst := some 65, op := Go.Op.move (Go.Operand.tmp 1), type := 23, pos := "law.go:254", after := #[], guard := none },
  { dst := some 66, op := Go.Op.convert 23 5 (Go.Operand.tmp 65), type := 5, pos := "law.go:254", after := #[{ on := 2, ground := Go.Ground.data }], guard := none },
  { dst := some 67, op := Go.Op.call { callee := Go.Callee.value (Go.Operand.func 9), args := #[Go.Operand.tmp 64, Go.Operand.tmp 66], argTypes := #[22, 5] }, type := 22, pos := "law.go:254", after := #[{ on := 1, ground := Go.Ground.data }, { on := 3, ground := Go.Ground.data }], guard := none },
  { dst := some 68, op := Go.Op.move (Go.Operand.tmp 7), type := 22, pos := "law.go:254", after := #[], guard := none },
  { dst := some 69, op := Go.Op.move (Go.Operand.tmp 1), type := 23, pos := "law.go:254", after := #[], guard := none },
  { dst := some 70, op := Go.Op.convert 23 32 (Go.Operand.tmp 69), type := 32, pos := "law.go:254", after := #[{ on := 6, ground := Go.Ground.data }], guard := none },
  { dst := some 71, op := Go.Op.call { callee := Go.Callee.value (Go.Operand.func 10), args := #[Go.Operand.tmp 68, Go.Operand.tmp 70], argTypes := #[22, 32] }, type := 22, pos := "law.go:254", after := #[{ on := 5, ground := Go.Ground.data }, { on := 7, ground := Go.Ground.data }, { on := 4, ground := Go.Ground.chain }], guard := none },
  { dst := some 72, op := Go.Op.move (Go.Operand.tmp 7), type := 22, pos := "law.go:254", after := #[], guard := none },
  { dst := some 73, op := Go.Op.move (Go.Operand.tmp 1), type := 23, pos := "law.go:254", after := #[], guard := none },
  { dst := some 74, op := Go.Op.convert 23 34 (Go.Operand.tmp 73), type := 34, pos := "law.go:254", after := #[{ on := 10, ground := Go.Ground.data }], guard := none },
  { dst := some 75, op := Go.Op.call { callee := Go.Callee.value (Go.Operand.func 11), args := #[Go.Operand.tmp 72, Go.Operand.tmp 74], argTypes := #[22, 34] }, type := 22, pos := "law.go:254", after := #[{ on := 9, ground := Go.Ground.data }, { on := 11, ground := Go.Ground.data }, { on := 8, ground := Go.Ground.chain }], guard := none },
  { dst := some 76, op := Go.Op.move (Go.Operand.tmp 7), type := 22, pos := "law.go:254", after := #[], guard := none },
  { dst := some 77, op := Go.Op.move (Go.Operand.tmp 1), type := 23, pos := "law.go:254", after := #[], guard := none },
  { dst := some 78, op := Go.Op.call { callee := Go.Callee.value (Go.Operand.func 12), args := #[Go.Operand.tmp 76, Go.Operand.tmp 77], argTypes := #[22, 23] }, type := 22, pos := "law.go:254", after := #[{ on := 13, ground := Go.Ground.data }, { on := 14, ground := Go.Ground.data }, { on := 12, ground := Go.Ground.chain }], guard := none },
  { dst := some 79, op := Go.Op.move (Go.Operand.tmp 7), type := 22, pos := "law.go:254", after := #[], guard := none },
  { dst := some 80, op := Go.Op.fieldAddr 27 (Go.Operand.tmp 5) 1, type := 0, pos := "law.go:254", after := #[], guard := none },
  { dst := some 81, op := Go.Op.load 25 (Go.Operand.tmp 80), type := 25, pos := "law.go:254", after := #[{ on := 17, ground := Go.Ground.data }], guard := none },
  { dst := some 82, op := Go.Op.call { callee := Go.Callee.value (Go.Operand.func 13), args := #[Go.Operand.tmp 79, Go.Operand.tmp 81], argTypes := #[22, 25] }, type := 22, pos := "law.go:254", after := #[{ on := 16, ground := Go.Ground.data }, { on := 18, ground := Go.Ground.data }, { on := 15, ground := Go.Ground.chain }], guard := none },
  { dst := some 83, op := Go.Op.move (Go.Operand.tmp 12), type := 22, pos := "law.go:254", after := #[], guard := none },
  { dst := some 84, op := Go.Op.move (Go.Operand.tmp 7), type := 22, pos := "law.go:254", after := #[], guard := none },
  { dst := some 85, op := Go.Op.move (Go.Operand.tmp 7), type := 22, pos := "law.go:254", after := #[], guard := none },
  { dst := some 86, op := Go.Op.buildSlice 46 2 #[(0, Go.Operand.tmp 84), (1, Go.Operand.tmp 85)], type := 46, pos := "law.go:254", after := #[{ on := 21, ground := Go.Ground.data }, { on := 22, ground := Go.Ground.data }], guard := none },
  { dst := some 87, op := Go.Op.call { callee := Go.Callee.value (Go.Operand.func 16), args := #[Go.Operand.tmp 86], argTypes := #[46] }, type := 22, pos := "law.go:254", after := #[{ on := 23, ground := Go.Ground.data }, { on := 19, ground := Go.Ground.chain }], guard := none },
  { dst := some 88, op := Go.Op.move (Go.Operand.tmp 7), type := 22, pos := "law.go:254", after := #[], guard := none },
  { dst := some 89, op := Go.Op.buildSlice 46 1 #[(0, Go.Operand.tmp 88)], type := 46, pos := "law.go:254", after := #[{ on := 25, ground := Go.Ground.data }], guard := none },
  { dst := some 90, op := Go.Op.call { callee := Go.Callee.value (Go.Operand.func 16), args := #[Go.Operand.tmp 89], argTypes := #[46] }, type := 22, pos := "law.go:254", after := #[{ on := 26, ground := Go.Ground.data }, { on := 24, ground := Go.Ground.chain }], guard := none },
  { dst := some 91, op := Go.Op.move (Go.Operand.tmp 14), type := 22, pos := "law.go:254", after := #[], guard := none },
  { dst := some 92, op := Go.Op.buildSlice 46 9 #[(0, Go.Operand.tmp 67), (1, Go.Operand.tmp 71), (2, Go.Operand.tmp 75), (3, Go.Operand.tmp 78), (4, Go.Operand.tmp 82), (5, Go.Operand.tmp 83), (6, Go.Operand.tmp 87), (7, Go.Operand.tmp 90), (8, Go.Operand.tmp 91)], type := 46, pos := "law.go:254", after := #[{ on := 4, ground := Go.Ground.data }, { on := 8, ground := Go.Ground.data }, { on := 12, ground := Go.Ground.data }, { on := 15, ground := Go.Ground.data }, { on := 19, ground := Go.Ground.data }, { on := 20, ground := Go.Ground.data }, { on := 24, ground := Go.Ground.data }, { on := 27, ground := Go.Ground.data }, { on := 28, ground := Go.Ground.data }], guard := none },
  { dst := some 93, op := Go.Op.call { callee := Go.Callee.builtin Go.Builtin.append, args := #[Go.Operand.tmp 63, Go.Operand.tmp 92], argTypes := #[46, 46] }, type := 46, pos := "law.go:254", after := #[{ on := 0, ground := Go.Ground.data }, { on := 29, ground := Go.Ground.data }, { on := 27, ground := Go.Ground.chain }], guard := none },
  { dst := some 9, op := Go.Op.assign (Go.Operand.tmp 93), type := 46, pos := "law.go:254", after := #[{ on := 30, ground := Go.Ground.data }, { on := 30, ground := Go.Ground.chain }, { on := 0, ground := Go.Ground.phase }, { on := 1, ground := Go.Ground.phase }, { on := 2, ground := Go.Ground.phase }, { on := 3, ground := Go.Ground.phase }, { on := 4, ground := Go.Ground.phase }, { on := 5, ground := Go.Ground.phase }, { on := 6, ground := Go.Ground.phase }, { on := 7, ground := Go.Ground.phase }, { on := 8, ground := Go.Ground.phase }, { on := 9, ground := Go.Ground.phase }, { on := 10, ground := Go.Ground.phase }, { on := 11, ground := Go.Ground.phase }, { on := 12, ground := Go.Ground.phase }, { on := 13, ground := Go.Ground.phase }, { on := 14, ground := Go.Ground.phase }, { on := 15, ground := Go.Ground.phase }, { on := 16, ground := Go.Ground.phase }, { on := 17, ground := Go.Ground.phase }, { on := 18, ground := Go.Ground.phase }, { on := 19, ground := Go.Ground.phase }, { on := 20, ground := Go.Ground.phase }, { on := 21, ground := Go.Ground.phase }, { on := 22, ground := Go.Ground.phase }, { on := 23, ground := Go.Ground.phase }, { on := 24, ground := Go.Ground.phase }, { on := 25, ground := Go.Ground.phase }, { on := 26, ground := Go.Ground.phase }, { on := 27, ground := Go.Ground.phase }, { on := 28, ground := Go.Ground.phase }, { on := 29, ground := Go.Ground.phase }, { on := 30, ground := Go.Ground.phase }], guard := none }]

/-- The slots that calls and lists write. -/
def dstOf : Nat → Nat
  | 0 => 67 | 1 => 71 | 2 => 75 | 3 => 78 | 4 => 82 | 5 => 87 | _ => 90
def Dst (s : Nat) : Prop := s = 67 ∨ s = 71 ∨ s = 75 ∨ s = 78 ∨ s = 82 ∨ s = 86 ∨ s = 87 ∨ s = 89 ∨ s = 90
theorem dst_lt : ∀ c, dstOf c < 258 := fun c => by
  unfold dstOf; split <;> decide
theorem dst_of : ∀ c, Dst (dstOf c) := fun c => by
  unfold dstOf Dst; split <;> decide
theorem dst_ne : ∀ c, dstOf c ≠ 86 ∧ dstOf c ≠ 89 := fun c => by
  unfold dstOf; split <;> decide
theorem dst_inj : ∀ c, c < 7 → ∀ i, i < c → dstOf i ≠ dstOf c := by decide
theorem put_same (a : Act) (d : Nat) (v : Value) (h : d < a.tmps.size) : (a.put (some d) v).tmps.getD d undef = v := Act.eval_put_same a d v h
theorem put_ne (a : Act) (d j : Nat) (v : Value) (h : d ≠ j) : (a.put (some d) v).tmps.getD j undef = a.tmps.getD j undef := Act.eval_put_ne a d j v h
theorem put_nd {a : Act} (d s : Nat) {v : Value} (hs : ¬ Dst s) (hd : Dst d) : (a.put (some d) v).tmps.getD s undef = a.tmps.getD s undef := put_ne _ _ _ _ (fun e => hs (by rw [← e]; exact hd))
theorem put_def (a : Act) (d : Nat) (v : Value) : (a.put (some d) v).defers = a.defers := rfl
theorem put_size (a : Act) (d : Nat) (v : Value) : (a.put (some d) v).tmps.size = a.tmps.size := by simp [Act.put]
/-- c calls are done; p, q: the lists of two and of one are there. -/
structure St (a0 : Act) (w0 base : World) (VS : List (Value × List Int)) (L : Value) (Z : Nat → List Int) (c : Nat) (p q : Bool) (a : Act) (w : World) : Prop where
  below : Below w0.heap.size w0 w
  size : a.tmps.size = 258
  defers : a.defers = a0.defers
  same : ∀ s, ¬ Dst s → a.tmps.getD s undef = a0.tmps.getD s undef
  bag : ∃ vs : List (Value × List Int), vs.length = c ∧ Bag base w (VS ++ vs) ∧ ∀ i, i < c → ∃ x, vs[i]? = some x ∧ a.tmps.getD (dstOf i) undef = x.1 ∧ x.2 = Z i
  two : if p = true then ∃ g, a.tmps.getD 86 undef = .slice (some ⟨g, 0, none⟩) 2 2 ∧ w.heap[g]? = some (.cells #[L, L] 22) else a.tmps.getD 86 undef = a0.tmps.getD 86 undef
  one : if q = true then ∃ g, a.tmps.getD 89 undef = .slice (some ⟨g, 0, none⟩) 1 1 ∧ w.heap[g]? = some (.cells #[L] 22) else a.tmps.getD 89 undef = a0.tmps.getD 89 undef
section
variable {a0 : Act} {w0 base : World} {VS : List (Value × List Int)} {L : Value} {Z : Nat → List Int} {c : Nat} {p q : Bool} {a : Act} {w : World}
theorem row_on {w w' : World} {o : Obj} {g : Nat} (hb : Below w.heap.size w w') (h : w.heap[g]? = some o) : w'.heap[g]? = some o := (hb.block g (lt_of_row h)).trans h
theorem St.call (h : St a0 w0 base VS L Z c p q a w) (hbase : base.heap.size ≤ w0.heap.size) (hc : c < 7) {v : Value} {w' : World} (ho : OB w' v (Z c)) (hb : Below w.heap.size w w') (hf : Fresh w v) : St a0 w0 base VS L Z (c + 1) p q (a.put (some (dstOf c)) v) w' := by
  obtain ⟨h1, h2, h3, h4, ⟨vs, h5, h6, h7⟩, h8, h9⟩ := h
  have hn := dst_ne c
  refine ⟨h1.trans (hb.mono h1.size), (put_size _ _ _).trans h2, h3, fun s hs => ?_, ⟨vs ++ [(v, Z c)], by simp [h5], ?_, fun i hi => ?_⟩, ?_, ?_⟩
  · rw [put_ne _ _ _ _ (fun e => hs (by rw [← e]; exact dst_of c))]
    exact h4 s hs
  · rw [← List.append_assoc]
    exact h6.add (Nat.le_trans hbase h1.size) ho hb hf
  · rcases Nat.lt_or_ge i c with hlt | hge
    · obtain ⟨x, e1, e2, e3⟩ := h7 i hlt
      refine ⟨x, ?_, ?_, e3⟩
      · rw [List.getElem?_append_left (by omega)]; exact e1
      · rw [put_ne _ _ _ _ (fun e => dst_inj c hc i hlt e.symm)]; exact e2
    · obtain rfl : i = c := by omega
      refine ⟨(v, Z i), ?_, put_same _ _ _ (by rw [h2]; exact dst_lt i), rfl⟩
      rw [List.getElem?_append_right (by omega), h5, Nat.sub_self]
      rfl
  · rw [put_ne _ _ _ _ hn.1]
    cases p
    · exact h8
    · obtain ⟨g, e1, e2⟩ := h8
      exact ⟨g, e1, row_on hb e2⟩
  · rw [put_ne _ _ _ _ hn.2]
    cases q
    · exact h9
    · obtain ⟨g, e1, e2⟩ := h9
      exact ⟨g, e1, row_on hb e2⟩
theorem St.list2 (h : St a0 w0 base VS L Z c p q a w) : St a0 w0 base VS L Z c true q (a.put (some 86) (.slice (some ⟨w.heap.size, 0, none⟩) 2 2)) (w.alloc (.cells #[L, L] 22)) := by
  obtain ⟨h1, h2, h3, h4, ⟨vs, h5, h6, h7⟩, h8, h9⟩ := h
  have hb : Below w.heap.size w (w.alloc (.cells #[L, L] 22)) := (Below.refl _ w).alloc (Nat.le_refl _) _
  refine ⟨h1.trans (hb.mono h1.size), (put_size _ _ _).trans h2, h3, fun s hs => ?_, ⟨vs, h5, h6.below hb, fun i hi => ?_⟩, ?_, ?_⟩
  · rw [put_ne _ _ _ _ (fun e => hs (by rw [← e]; unfold Dst; decide))]
    exact h4 s hs
  · obtain ⟨x, e1, e2, e3⟩ := h7 i hi
    exact ⟨x, e1, by rw [put_ne _ _ _ _ (fun e => (dst_ne i).1 e.symm)]; exact e2, e3⟩
  · rw [if_pos rfl]
    exact ⟨_, put_same _ _ _ (by rw [h2]; decide), heap_alloc_new w _⟩
  · rw [put_ne _ _ _ _ (by decide)]
    cases q
    · exact h9
    · obtain ⟨g, e1, e2⟩ := h9
      exact ⟨g, e1, row_on hb e2⟩
theorem St.list1 (h : St a0 w0 base VS L Z c p q a w) : St a0 w0 base VS L Z c p true (a.put (some 89) (.slice (some ⟨w.heap.size, 0, none⟩) 1 1)) (w.alloc (.cells #[L] 22)) := by
  obtain ⟨h1, h2, h3, h4, ⟨vs, h5, h6, h7⟩, h8, h9⟩ := h
  have hb : Below w.heap.size w (w.alloc (.cells #[L] 22)) := (Below.refl _ w).alloc (Nat.le_refl _) _
  refine ⟨h1.trans (hb.mono h1.size), (put_size _ _ _).trans h2, h3, fun s hs => ?_, ⟨vs, h5, h6.below hb, fun i hi => ?_⟩, ?_, ?_⟩
  · rw [put_ne _ _ _ _ (fun e => hs (by rw [← e]; unfold Dst; decide))]
    exact h4 s hs
  · obtain ⟨x, e1, e2, e3⟩ := h7 i hi
    exact ⟨x, e1, by rw [put_ne _ _ _ _ (fun e => (dst_ne i).2 e.symm)]; exact e2, e3⟩
  · rw [put_ne _ _ _ _ (by decide)]
    cases p
    · exact h8
    · obtain ⟨g, e1, e2⟩ := h8
      exact ⟨g, e1, row_on hb e2⟩
  · rw [if_pos rfl]
    exact ⟨_, put_same _ _ _ (by rw [h2]; decide), heap_alloc_new w _⟩
theorem rws_all (w : World) (g n : Nat) (cs : Array Value) (L : Value) (zs : List Int) (hr : w.heap[g]? = some (.cells cs 22)) (hn : n = cs.size) (hn2 : n ≤ 2) (hc : ∀ i, i < n → cs[i]? = some L) (h : RB w L zs) : Rws w (.slice (some ⟨g, 0, none⟩) n n) n (fun _ => L) (fun _ => zs) :=
  ⟨_, _, rfl, Nat.le_refl _, by omega, fun i hi => h, fun _ => ⟨_, _, rfl, fun i hi => by rw [Nat.zero_add]; exact cell_row hr (hc i hi)⟩⟩
/-- What the state at hand holds for the calls. -/
structure Slots (a0 : Act) (w0 : World) (L : Value) (zs : List Int) (x1 x2 x4 x8 hi lo : Int) : Prop where
  n : zs.length ≤ 1048576
  l : RB w0 L zs
  u1 : 0 ≤ x1 ∧ x1 < 256
  u2 : 0 ≤ x2 ∧ x2 < 65536
  u4 : 0 ≤ x4 ∧ x4 < 4294967296
  u8 : U64 x8
  uh : U64 hi
  ul : U64 lo
  s64 : a0.tmps.getD 64 undef = L
  s66 : a0.tmps.getD 66 undef = .int .u8 x1
  s68 : a0.tmps.getD 68 undef = L
  s70 : a0.tmps.getD 70 undef = .int .u16 x2
  s72 : a0.tmps.getD 72 undef = L
  s74 : a0.tmps.getD 74 undef = .int .u32 x4
  s76 : a0.tmps.getD 76 undef = L
  s77 : a0.tmps.getD 77 undef = .int .u64 x8
  s79 : a0.tmps.getD 79 undef = L
  s81 : a0.tmps.getD 81 undef = .agg #[.int .u64 hi, .int .u64 lo]
  s84 : a0.tmps.getD 84 undef = L
  s85 : a0.tmps.getD 85 undef = L
  s88 : a0.tmps.getD 88 undef = L
def ZZ (zs : List Int) (x1 x2 x4 x8 hi lo : Int) : Nat → List Int
  | 0 => zs ++ le 1 x1
  | 1 => zs ++ le 2 x2
  | 2 => zs ++ le 4 x4
  | 3 => zs ++ le 8 x8
  | 4 => zs ++ wordB hi lo
  | 5 => zs ++ zs
  | _ => zs
variable {zs : List Int} {x1 x2 x4 x8 hi lo : Int} {K : Act → World → Prop} {Q : Exit → Act → World → Prop}

theorem call4 (hs : Slots a0 w0 L zs x1 x2 x4 x8 hi lo) (hbase : base.heap.size ≤ w0.heap.size) (h : St a0 w0 base VS L (ZZ zs x1 x2 x4 x8 hi lo) 0 p q a w) (hK : ∀ a' w', St a0 w0 base VS L (ZZ zs x1 x2 x4 x8 hi lo) 1 p q a' w' → K a' w') : wpOp Try.prog ops16 Q 4 K a w := by
  have hl : RB w L zs := hs.l.below h.below
  refine wpOp_call (i := 4) (f := 9) (o := { dst := some 67, op := Go.Op.call { callee := Go.Callee.value (Go.Operand.func 9), args := #[Go.Operand.tmp 64, Go.Operand.tmp 66], argTypes := #[22, 5] }, type := 22, pos := "law.go:254", after := #[{ on := 1, ground := Go.Ground.data }, { on := 3, ground := Go.Ground.data }], guard := none }) rfl rfl rfl (enters_of Try.func9 (by kernel_rfl) rfl) (vs := #[a0.tmps.getD 64 undef, a0.tmps.getD 66 undef]) ?_ ?_
  · simp only [List.map_toArray, List.map_cons, List.map_nil, Act.eval]
    rw [h.same 64 (by unfold Dst; decide), h.same 66 (by unfold Dst; decide)]
  · rw [hs.s64, hs.s66]
    refine (put1_any w L zs x1 hs.u1.1 hs.u1.2 (by have := hs.n; omega) hl).mono ?_
    rintro e w' ⟨A, c, rfl, ho, hb, hf⟩
    exact ⟨_, rfl, hK _ _ (h.call hbase (by decide) ho hb hf)⟩
theorem call8 (hs : Slots a0 w0 L zs x1 x2 x4 x8 hi lo) (hbase : base.heap.size ≤ w0.heap.size) (h : St a0 w0 base VS L (ZZ zs x1 x2 x4 x8 hi lo) 1 p q a w) (hK : ∀ a' w', St a0 w0 base VS L (ZZ zs x1 x2 x4 x8 hi lo) 2 p q a' w' → K a' w') : wpOp Try.prog ops16 Q 8 K a w := by
  have hl : RB w L zs := hs.l.below h.below
  refine wpOp_call (i := 8) (f := 10) (o := { dst := some 71, op := Go.Op.call { callee := Go.Callee.value (Go.Operand.func 10), args := #[Go.Operand.tmp 68, Go.Operand.tmp 70], argTypes := #[22, 32] }, type := 22, pos := "law.go:254", after := #[{ on := 5, ground := Go.Ground.data }, { on := 7, ground := Go.Ground.data }, { on := 4, ground := Go.Ground.chain }], guard := none }) rfl rfl rfl (enters_of Try.func10 (by kernel_rfl) rfl) (vs := #[a0.tmps.getD 68 undef, a0.tmps.getD 70 undef]) ?_ ?_
  · simp only [List.map_toArray, List.map_cons, List.map_nil, Act.eval]
    rw [h.same 68 (by unfold Dst; decide), h.same 70 (by unfold Dst; decide)]
  · rw [hs.s68, hs.s70]
    refine (put2_any w L zs x2 hs.u2.1 hs.u2.2 (by have := hs.n; omega) hl).mono ?_
    rintro e w' ⟨A, c, rfl, ho, hb, hf⟩
    exact ⟨_, rfl, hK _ _ (h.call hbase (by decide) ho hb hf)⟩
theorem call12 (hs : Slots a0 w0 L zs x1 x2 x4 x8 hi lo) (hbase : base.heap.size ≤ w0.heap.size) (h : St a0 w0 base VS L (ZZ zs x1 x2 x4 x8 hi lo) 2 p q a w) (hK : ∀ a' w', St a0 w0 base VS L (ZZ zs x1 x2 x4 x8 hi lo) 3 p q a' w' → K a' w') : wpOp Try.prog ops16 Q 12 K a w := by
  have hl : RB w L zs := hs.l.below h.below
  refine wpOp_call (i := 12) (f := 11) (o := { dst := some 75, op := Go.Op.call { callee := Go.Callee.value (Go.Operand.func 11), args := #[Go.Operand.tmp 72, Go.Operand.tmp 74], argTypes := #[22, 34] }, type := 22, pos := "law.go:254", after := #[{ on := 9, ground := Go.Ground.data }, { on := 11, ground := Go.Ground.data }, { on := 8, ground := Go.Ground.chain }], guard := none }) rfl rfl rfl (enters_of Try.func11 (by kernel_rfl) rfl) (vs := #[a0.tmps.getD 72 undef, a0.tmps.getD 74 undef]) ?_ ?_
  · simp only [List.map_toArray, List.map_cons, List.map_nil, Act.eval]
    rw [h.same 72 (by unfold Dst; decide), h.same 74 (by unfold Dst; decide)]
  · rw [hs.s72, hs.s74]
    refine (put4_any w L zs x4 hs.u4.1 hs.u4.2 (by have := hs.n; omega) hl).mono ?_
    rintro e w' ⟨A, c, rfl, ho, hb, hf⟩
    exact ⟨_, rfl, hK _ _ (h.call hbase (by decide) ho hb hf)⟩
theorem call15 (hs : Slots a0 w0 L zs x1 x2 x4 x8 hi lo) (hbase : base.heap.size ≤ w0.heap.size) (h : St a0 w0 base VS L (ZZ zs x1 x2 x4 x8 hi lo) 3 p q a w) (hK : ∀ a' w', St a0 w0 base VS L (ZZ zs x1 x2 x4 x8 hi lo) 4 p q a' w' → K a' w') : wpOp Try.prog ops16 Q 15 K a w := by
  have hl : RB w L zs := hs.l.below h.below
  refine wpOp_call (i := 15) (f := 12) (o := { dst := some 78, op := Go.Op.call { callee := Go.Callee.value (Go.Operand.func 12), args := #[Go.Operand.tmp 76, Go.Operand.tmp 77], argTypes := #[22, 23] }, type := 22, pos := "law.go:254", after := #[{ on := 13, ground := Go.Ground.data }, { on := 14, ground := Go.Ground.data }, { on := 12, ground := Go.Ground.chain }], guard := none }) rfl rfl rfl (enters_of Try.func12 (by kernel_rfl) rfl) (vs := #[a0.tmps.getD 76 undef, a0.tmps.getD 77 undef]) ?_ ?_
  · simp only [List.map_toArray, List.map_cons, List.map_nil, Act.eval]
    rw [h.same 76 (by unfold Dst; decide), h.same 77 (by unfold Dst; decide)]
  · rw [hs.s76, hs.s77]
    refine (put8_any w L zs x8 hs.u8.1 hs.u8.2 (by have := hs.n; omega) hl).mono ?_
    rintro e w' ⟨A, c, rfl, ho, hb, hf⟩
    exact ⟨_, rfl, hK _ _ (h.call hbase (by decide) ho hb hf)⟩
theorem call19 (hs : Slots a0 w0 L zs x1 x2 x4 x8 hi lo) (hbase : base.heap.size ≤ w0.heap.size) (h : St a0 w0 base VS L (ZZ zs x1 x2 x4 x8 hi lo) 4 p q a w) (hK : ∀ a' w', St a0 w0 base VS L (ZZ zs x1 x2 x4 x8 hi lo) 5 p q a' w' → K a' w') : wpOp Try.prog ops16 Q 19 K a w := by
  have hl : RB w L zs := hs.l.below h.below
  refine wpOp_call (i := 19) (f := 13) (o := { dst := some 82, op := Go.Op.call { callee := Go.Callee.value (Go.Operand.func 13), args := #[Go.Operand.tmp 79, Go.Operand.tmp 81], argTypes := #[22, 25] }, type := 22, pos := "law.go:254", after := #[{ on := 16, ground := Go.Ground.data }, { on := 18, ground := Go.Ground.data }, { on := 15, ground := Go.Ground.chain }], guard := none }) rfl rfl rfl (enters_of Try.func13 (by kernel_rfl) rfl) (vs := #[a0.tmps.getD 79 undef, a0.tmps.getD 81 undef]) ?_ ?_
  · simp only [List.map_toArray, List.map_cons, List.map_nil, Act.eval]
    rw [h.same 79 (by unfold Dst; decide), h.same 81 (by unfold Dst; decide)]
  · rw [hs.s79, hs.s81]
    refine (word_any w L zs hi lo hs.uh hs.ul (by have := hs.n; omega) hl).mono ?_
    rintro e w' ⟨A, c, rfl, ho, hb, hf⟩
    exact ⟨_, rfl, hK _ _ (h.call hbase (by decide) ho hb hf)⟩
theorem call24 (hs : Slots a0 w0 L zs x1 x2 x4 x8 hi lo) (hbase : base.heap.size ≤ w0.heap.size) (h : St a0 w0 base VS L (ZZ zs x1 x2 x4 x8 hi lo) 5 true q a w) (hK : ∀ a' w', St a0 w0 base VS L (ZZ zs x1 x2 x4 x8 hi lo) 6 true q a' w' → K a' w') : wpOp Try.prog ops16 Q 24 K a w := by
  have hl : RB w L zs := hs.l.below h.below
  have h2 := h.two
  rw [if_pos rfl] at h2
  obtain ⟨g, e1, e2⟩ := h2
  have hj : joinZ (fun _ => zs) 2 = ZZ zs x1 x2 x4 x8 hi lo 5 := by simp [joinZ, ZZ]
  have hz : (joinZ (fun _ => zs) 2).length ≤ 140737488355000 := by
    have := hs.n
    simp [joinZ]; omega
  refine wpOp_call (i := 24) (f := 16) (o := { dst := some 87, op := Go.Op.call { callee := Go.Callee.value (Go.Operand.func 16), args := #[Go.Operand.tmp 86], argTypes := #[46] }, type := 22, pos := "law.go:254", after := #[{ on := 23, ground := Go.Ground.data }, { on := 19, ground := Go.Ground.chain }], guard := none }) rfl rfl rfl (enters_of Try.func16 (by kernel_rfl) rfl) (vs := #[.slice (some ⟨g, 0, none⟩) 2 2]) ?_ ?_
  · simp only [List.map_toArray, List.map_cons, List.map_nil, Act.eval]
    rw [e1]
  · refine (join_any w _ 2 (fun _ => L) (fun _ => zs) hz (by decide) (rws_all w g 2 _ L zs e2 rfl (by decide) (fun i hi => by match i, hi with | 0, _ => rfl | 1, _ => rfl) hl)).mono ?_
    rintro e w' ⟨A, c, rfl, ho, hb, hf⟩
    exact ⟨_, rfl, hK _ _ (h.call hbase (by decide) (hj ▸ ho) hb hf)⟩
theorem call27 (hs : Slots a0 w0 L zs x1 x2 x4 x8 hi lo) (hbase : base.heap.size ≤ w0.heap.size) (h : St a0 w0 base VS L (ZZ zs x1 x2 x4 x8 hi lo) 6 p true a w) (hK : ∀ a' w', St a0 w0 base VS L (ZZ zs x1 x2 x4 x8 hi lo) 7 p true a' w' → K a' w') : wpOp Try.prog ops16 Q 27 K a w := by
  have hl : RB w L zs := hs.l.below h.below
  have h2 := h.one
  rw [if_pos rfl] at h2
  obtain ⟨g, e1, e2⟩ := h2
  have hj : joinZ (fun _ => zs) 1 = ZZ zs x1 x2 x4 x8 hi lo 6 := by simp [joinZ, ZZ]
  have hz : (joinZ (fun _ => zs) 1).length ≤ 140737488355000 := by
    have := hs.n
    simp [joinZ]; omega
  refine wpOp_call (i := 27) (f := 16) (o := { dst := some 90, op := Go.Op.call { callee := Go.Callee.value (Go.Operand.func 16), args := #[Go.Operand.tmp 89], argTypes := #[46] }, type := 22, pos := "law.go:254", after := #[{ on := 26, ground := Go.Ground.data }, { on := 24, ground := Go.Ground.chain }], guard := none }) rfl rfl rfl (enters_of Try.func16 (by kernel_rfl) rfl) (vs := #[.slice (some ⟨g, 0, none⟩) 1 1]) ?_ ?_
  · simp only [List.map_toArray, List.map_cons, List.map_nil, Act.eval]
    rw [e1]
  · refine (join_any w _ 1 (fun _ => L) (fun _ => zs) hz (by decide) (rws_all w g 1 _ L zs e2 rfl (by decide) (fun i hi => by match i, hi with | 0, _ => rfl) hl)).mono ?_
    rintro e w' ⟨A, c, rfl, ho, hb, hf⟩
    exact ⟨_, rfl, hK _ _ (h.call hbase (by decide) (hj ▸ ho) hb hf)⟩
theorem made23 (hs : Slots a0 w0 L zs x1 x2 x4 x8 hi lo) (h : St a0 w0 base VS L Z c p q a w) (hK : ∀ a' w', St a0 w0 base VS L Z c true q a' w' → K a' w') : wpOp Try.prog ops16 Q 23 K a w := by
  refine wpOp_slice (i := 23) (o := { dst := some 86, op := Go.Op.buildSlice 46 2 #[(0, Go.Operand.tmp 84), (1, Go.Operand.tmp 85)], type := 46, pos := "law.go:254", after := #[{ on := 21, ground := Go.Ground.data }, { on := 22, ground := Go.Ground.data }], guard := none }) (v := .slice (some ⟨w.heap.size, 0, none⟩) 2 2) (w' := w.alloc (.cells #[L, L] 22)) rfl rfl rfl ?_ (hK _ _ h.list2)
  have e : (#[(0, Operand.tmp 84), (1, Operand.tmp 85)] : Array (Nat × Operand)).map (fun x => (x.1, a.eval x.2)) = #[(0, L), (1, L)] := by
    simp only [List.map_toArray, List.map_cons, List.map_nil, Act.eval]
    rw [h.same 84 (by unfold Dst; decide), hs.s84, h.same 85 (by unfold Dst; decide), hs.s85]
  rw [e]
  obtain ⟨A, n, c, rfl⟩ : ∃ A n c, L = .slice A n c := by obtain ⟨A, c, e, _⟩ := hs.l; exact ⟨_, _, _, e⟩
  go_simp
theorem made26 (hs : Slots a0 w0 L zs x1 x2 x4 x8 hi lo) (h : St a0 w0 base VS L Z c p q a w) (hK : ∀ a' w', St a0 w0 base VS L Z c p true a' w' → K a' w') : wpOp Try.prog ops16 Q 26 K a w := by
  refine wpOp_slice (i := 26) (o := { dst := some 89, op := Go.Op.buildSlice 46 1 #[(0, Go.Operand.tmp 88)], type := 46, pos := "law.go:254", after := #[{ on := 25, ground := Go.Ground.data }], guard := none }) (v := .slice (some ⟨w.heap.size, 0, none⟩) 1 1) (w' := w.alloc (.cells #[L] 22)) rfl rfl rfl ?_ (hK _ _ h.list1)
  have e : (#[(0, Operand.tmp 88)] : Array (Nat × Operand)).map (fun x => (x.1, a.eval x.2)) = #[(0, L)] := by
    simp only [List.map_toArray, List.map_cons, List.map_nil, Act.eval]
    rw [h.same 88 (by unfold Dst; decide), hs.s88]
  rw [e]
  obtain ⟨A, n, c, rfl⟩ : ∃ A n c, L = .slice A n c := by obtain ⟨A, c, e, _⟩ := hs.l; exact ⟨_, _, _, e⟩
  go_simp
def lst (c : Nat) (p q : Bool) : Array Bool := #[true, true, true, true, decide (0 < c), true, true, true, decide (1 < c), true, true, true, decide (2 < c), true, true, decide (3 < c), true, true, true, decide (4 < c), true, true, true, p, decide (5 < c), true, q, decide (6 < c), true, false, false, false]
/-- The invariant. -/
def Inv (a0 : Act) (w0 base : World) (VS : List (Value × List Int)) (L : Value) (Z : Nat → List Int) (k : Nat) (l : Array Bool) (a : Act) (w : World) : Prop :=
  ∃ c p q, k = (7 - c) + (if p = true then 0 else 1) + (if q = true then 0 else 1) ∧ c ≤ 7 ∧ (6 ≤ c → p = true) ∧ (7 ≤ c → q = true) ∧ l = lst c p q ∧ St a0 w0 base VS L Z c p q a w
theorem inv_step {S : World → Prop} (hS : ∀ w', Below w0.heap.size w0 w' → S w') (hs : Slots a0 w0 L zs x1 x2 x4 x8 hi lo) (hbase : base.heap.size ≤ w0.heap.size) : ∀ k l a w, Inv a0 w0 base VS L (ZZ zs x1 x2 x4 x8 hi lo) (k + 1) l a w → Region.ready .any ops16 l ≠ [] ∧ ∀ i ∈ Region.ready .any ops16 l, wpOp Try.prog ops16 Q i (fun a' w' => S w' ∧ Inv a0 w0 base VS L (ZZ zs x1 x2 x4 x8 hi lo) k (l.setIfInBounds i true) a' w') a w := by
  intro k l a w h
  obtain ⟨c, p, q, hk, hc, hp, hq, rfl, h⟩ := h
  match c, p, q, hk, hc, hp, hq, h with
  | 0, false, false, hk, hc, hp, hq, h => 
    have hr : Region.ready .any ops16 (lst 0 false false) = [4, 23, 26] := by kernel_rfl
    refine ⟨by rw [hr]; simp, fun i hi => ?_⟩
    rw [hr] at hi
    simp only [List.mem_cons, List.not_mem_nil, or_false] at hi
    rcases hi with rfl | rfl | rfl
    · exact call4 hs hbase h (fun a' w' h' => ⟨hS _ h'.below, 1, false, false, by simp at hk ⊢; omega, by decide, by decide, by decide, by decide, h'⟩)
    · exact made23 hs h (fun a' w' h' => ⟨hS _ h'.below, 0, true, false, by simp at hk ⊢; omega, by decide, by decide, by decide, by decide, h'⟩)
    · exact made26 hs h (fun a' w' h' => ⟨hS _ h'.below, 0, false, true, by simp at hk ⊢; omega, by decide, by decide, by decide, by decide, h'⟩)
  | 0, false, true, hk, hc, hp, hq, h => 
    have hr : Region.ready .any ops16 (lst 0 false true) = [4, 23] := by kernel_rfl
    refine ⟨by rw [hr]; simp, fun i hi => ?_⟩
    rw [hr] at hi
    simp only [List.mem_cons, List.not_mem_nil, or_false] at hi
    rcases hi with rfl | rfl
    · exact call4 hs hbase h (fun a' w' h' => ⟨hS _ h'.below, 1, false, true, by simp at hk ⊢; omega, by decide, by decide, by decide, by decide, h'⟩)
    · exact made23 hs h (fun a' w' h' => ⟨hS _ h'.below, 0, true, true, by simp at hk ⊢; omega, by decide, by decide, by decide, by decide, h'⟩)
  | 0, true, false, hk, hc, hp, hq, h => 
    have hr : Region.ready .any ops16 (lst 0 true false) = [4, 26] := by kernel_rfl
    refine ⟨by rw [hr]; simp, fun i hi => ?_⟩
    rw [hr] at hi
    simp only [List.mem_cons, List.not_mem_nil, or_false] at hi
    rcases hi with rfl | rfl
    · exact call4 hs hbase h (fun a' w' h' => ⟨hS _ h'.below, 1, true, false, by simp at hk ⊢; omega, by decide, by decide, by decide, by decide, h'⟩)
    · exact made26 hs h (fun a' w' h' => ⟨hS _ h'.below, 0, true, true, by simp at hk ⊢; omega, by decide, by decide, by decide, by decide, h'⟩)
  | 0, true, true, hk, hc, hp, hq, h => 
    have hr : Region.ready .any ops16 (lst 0 true true) = [4] := by kernel_rfl
    refine ⟨by rw [hr]; simp, fun i hi => ?_⟩
    rw [hr] at hi
    simp only [List.mem_cons, List.not_mem_nil, or_false] at hi
    subst hi
    · exact call4 hs hbase h (fun a' w' h' => ⟨hS _ h'.below, 1, true, true, by simp at hk ⊢; omega, by decide, by decide, by decide, by decide, h'⟩)
  | 1, false, false, hk, hc, hp, hq, h => 
    have hr : Region.ready .any ops16 (lst 1 false false) = [8, 23, 26] := by kernel_rfl
    refine ⟨by rw [hr]; simp, fun i hi => ?_⟩
    rw [hr] at hi
    simp only [List.mem_cons, List.not_mem_nil, or_false] at hi
    rcases hi with rfl | rfl | rfl
    · exact call8 hs hbase h (fun a' w' h' => ⟨hS _ h'.below, 2, false, false, by simp at hk ⊢; omega, by decide, by decide, by decide, by decide, h'⟩)
    · exact made23 hs h (fun a' w' h' => ⟨hS _ h'.below, 1, true, false, by simp at hk ⊢; omega, by decide, by decide, by decide, by decide, h'⟩)
    · exact made26 hs h (fun a' w' h' => ⟨hS _ h'.below, 1, false, true, by simp at hk ⊢; omega, by decide, by decide, by decide, by decide, h'⟩)
  | 1, false, true, hk, hc, hp, hq, h => 
    have hr : Region.ready .any ops16 (lst 1 false true) = [8, 23] := by kernel_rfl
    refine ⟨by rw [hr]; simp, fun i hi => ?_⟩
    rw [hr] at hi
    simp only [List.mem_cons, List.not_mem_nil, or_false] at hi
    rcases hi with rfl | rfl
    · exact call8 hs hbase h (fun a' w' h' => ⟨hS _ h'.below, 2, false, true, by simp at hk ⊢; omega, by decide, by decide, by decide, by decide, h'⟩)
    · exact made23 hs h (fun a' w' h' => ⟨hS _ h'.below, 1, true, true, by simp at hk ⊢; omega, by decide, by decide, by decide, by decide, h'⟩)
  | 1, true, false, hk, hc, hp, hq, h => 
    have hr : Region.ready .any ops16 (lst 1 true false) = [8, 26] := by kernel_rfl
    refine ⟨by rw [hr]; simp, fun i hi => ?_⟩
    rw [hr] at hi
    simp only [List.mem_cons, List.not_mem_nil, or_false] at hi
    rcases hi with rfl | rfl
    · exact call8 hs hbase h (fun a' w' h' => ⟨hS _ h'.below, 2, true, false, by simp at hk ⊢; omega, by decide, by decide, by decide, by decide, h'⟩)
    · exact made26 hs h (fun a' w' h' => ⟨hS _ h'.below, 1, true, true, by simp at hk ⊢; omega, by decide, by decide, by decide, by decide, h'⟩)
  | 1, true, true, hk, hc, hp, hq, h => 
    have hr : Region.ready .any ops16 (lst 1 true true) = [8] := by kernel_rfl
    refine ⟨by rw [hr]; simp, fun i hi => ?_⟩
    rw [hr] at hi
    simp only [List.mem_cons, List.not_mem_nil, or_false] at hi
    subst hi
    · exact call8 hs hbase h (fun a' w' h' => ⟨hS _ h'.below, 2, true, true, by simp at hk ⊢; omega, by decide, by decide, by decide, by decide, h'⟩)
  | 2, false, false, hk, hc, hp, hq, h => 
    have hr : Region.ready .any ops16 (lst 2 false false) = [12, 23, 26] := by kernel_rfl
    refine ⟨by rw [hr]; simp, fun i hi => ?_⟩
    rw [hr] at hi
    simp only [List.mem_cons, List.not_mem_nil, or_false] at hi
    rcases hi with rfl | rfl | rfl
    · exact call12 hs hbase h (fun a' w' h' => ⟨hS _ h'.below, 3, false, false, by simp at hk ⊢; omega, by decide, by decide, by decide, by decide, h'⟩)
    · exact made23 hs h (fun a' w' h' => ⟨hS _ h'.below, 2, true, false, by simp at hk ⊢; omega, by decide, by decide, by decide, by decide, h'⟩)
    · exact made26 hs h (fun a' w' h' => ⟨hS _ h'.below, 2, false, true, by simp at hk ⊢; omega, by decide, by decide, by decide, by decide, h'⟩)
  | 2, false, true, hk, hc, hp, hq, h => 
    have hr : Region.ready .any ops16 (lst 2 false true) = [12, 23] := by kernel_rfl
    refine ⟨by rw [hr]; simp, fun i hi => ?_⟩
    rw [hr] at hi
    simp only [List.mem_cons, List.not_mem_nil, or_false] at hi
    rcases hi with rfl | rfl
    · exact call12 hs hbase h (fun a' w' h' => ⟨hS _ h'.below, 3, false, true, by simp at hk ⊢; omega, by decide, by decide, by decide, by decide, h'⟩)
    · exact made23 hs h (fun a' w' h' => ⟨hS _ h'.below, 2, true, true, by simp at hk ⊢; omega, by decide, by decide, by decide, by decide, h'⟩)
  | 2, true, false, hk, hc, hp, hq, h => 
    have hr : Region.ready .any ops16 (lst 2 true false) = [12, 26] := by kernel_rfl
    refine ⟨by rw [hr]; simp, fun i hi => ?_⟩
    rw [hr] at hi
    simp only [List.mem_cons, List.not_mem_nil, or_false] at hi
    rcases hi with rfl | rfl
    · exact call12 hs hbase h (fun a' w' h' => ⟨hS _ h'.below, 3, true, false, by simp at hk ⊢; omega, by decide, by decide, by decide, by decide, h'⟩)
    · exact made26 hs h (fun a' w' h' => ⟨hS _ h'.below, 2, true, true, by simp at hk ⊢; omega, by decide, by decide, by decide, by decide, h'⟩)
  | 2, true, true, hk, hc, hp, hq, h => 
    have hr : Region.ready .any ops16 (lst 2 true true) = [12] := by kernel_rfl
    refine ⟨by rw [hr]; simp, fun i hi => ?_⟩
    rw [hr] at hi
    simp only [List.mem_cons, List.not_mem_nil, or_false] at hi
    subst hi
    · exact call12 hs hbase h (fun a' w' h' => ⟨hS _ h'.below, 3, true, true, by simp at hk ⊢; omega, by decide, by decide, by decide, by decide, h'⟩)
  | 3, false, false, hk, hc, hp, hq, h => 
    have hr : Region.ready .any ops16 (lst 3 false false) = [15, 23, 26] := by kernel_rfl
    refine ⟨by rw [hr]; simp, fun i hi => ?_⟩
    rw [hr] at hi
    simp only [List.mem_cons, List.not_mem_nil, or_false] at hi
    rcases hi with rfl | rfl | rfl
    · exact call15 hs hbase h (fun a' w' h' => ⟨hS _ h'.below, 4, false, false, by simp at hk ⊢; omega, by decide, by decide, by decide, by decide, h'⟩)
    · exact made23 hs h (fun a' w' h' => ⟨hS _ h'.below, 3, true, false, by simp at hk ⊢; omega, by decide, by decide, by decide, by decide, h'⟩)
    · exact made26 hs h (fun a' w' h' => ⟨hS _ h'.below, 3, false, true, by simp at hk ⊢; omega, by decide, by decide, by decide, by decide, h'⟩)
  | 3, false, true, hk, hc, hp, hq, h => 
    have hr : Region.ready .any ops16 (lst 3 false true) = [15, 23] := by kernel_rfl
    refine ⟨by rw [hr]; simp, fun i hi => ?_⟩
    rw [hr] at hi
    simp only [List.mem_cons, List.not_mem_nil, or_false] at hi
    rcases hi with rfl | rfl
    · exact call15 hs hbase h (fun a' w' h' => ⟨hS _ h'.below, 4, false, true, by simp at hk ⊢; omega, by decide, by decide, by decide, by decide, h'⟩)
    · exact made23 hs h (fun a' w' h' => ⟨hS _ h'.below, 3, true, true, by simp at hk ⊢; omega, by decide, by decide, by decide, by decide, h'⟩)
  | 3, true, false, hk, hc, hp, hq, h => 
    have hr : Region.ready .any ops16 (lst 3 true false) = [15, 26] := by kernel_rfl
    refine ⟨by rw [hr]; simp, fun i hi => ?_⟩
    rw [hr] at hi
    simp only [List.mem_cons, List.not_mem_nil, or_false] at hi
    rcases hi with rfl | rfl
    · exact call15 hs hbase h (fun a' w' h' => ⟨hS _ h'.below, 4, true, false, by simp at hk ⊢; omega, by decide, by decide, by decide, by decide, h'⟩)
    · exact made26 hs h (fun a' w' h' => ⟨hS _ h'.below, 3, true, true, by simp at hk ⊢; omega, by decide, by decide, by decide, by decide, h'⟩)
  | 3, true, true, hk, hc, hp, hq, h => 
    have hr : Region.ready .any ops16 (lst 3 true true) = [15] := by kernel_rfl
    refine ⟨by rw [hr]; simp, fun i hi => ?_⟩
    rw [hr] at hi
    simp only [List.mem_cons, List.not_mem_nil, or_false] at hi
    subst hi
    · exact call15 hs hbase h (fun a' w' h' => ⟨hS _ h'.below, 4, true, true, by simp at hk ⊢; omega, by decide, by decide, by decide, by decide, h'⟩)
  | 4, false, false, hk, hc, hp, hq, h => 
    have hr : Region.ready .any ops16 (lst 4 false false) = [19, 23, 26] := by kernel_rfl
    refine ⟨by rw [hr]; simp, fun i hi => ?_⟩
    rw [hr] at hi
    simp only [List.mem_cons, List.not_mem_nil, or_false] at hi
    rcases hi with rfl | rfl | rfl
    · exact call19 hs hbase h (fun a' w' h' => ⟨hS _ h'.below, 5, false, false, by simp at hk ⊢; omega, by decide, by decide, by decide, by decide, h'⟩)
    · exact made23 hs h (fun a' w' h' => ⟨hS _ h'.below, 4, true, false, by simp at hk ⊢; omega, by decide, by decide, by decide, by decide, h'⟩)
    · exact made26 hs h (fun a' w' h' => ⟨hS _ h'.below, 4, false, true, by simp at hk ⊢; omega, by decide, by decide, by decide, by decide, h'⟩)
  | 4, false, true, hk, hc, hp, hq, h => 
    have hr : Region.ready .any ops16 (lst 4 false true) = [19, 23] := by kernel_rfl
    refine ⟨by rw [hr]; simp, fun i hi => ?_⟩
    rw [hr] at hi
    simp only [List.mem_cons, List.not_mem_nil, or_false] at hi
    rcases hi with rfl | rfl
    · exact call19 hs hbase h (fun a' w' h' => ⟨hS _ h'.below, 5, false, true, by simp at hk ⊢; omega, by decide, by decide, by decide, by decide, h'⟩)
    · exact made23 hs h (fun a' w' h' => ⟨hS _ h'.below, 4, true, true, by simp at hk ⊢; omega, by decide, by decide, by decide, by decide, h'⟩)
  | 4, true, false, hk, hc, hp, hq, h => 
    have hr : Region.ready .any ops16 (lst 4 true false) = [19, 26] := by kernel_rfl
    refine ⟨by rw [hr]; simp, fun i hi => ?_⟩
    rw [hr] at hi
    simp only [List.mem_cons, List.not_mem_nil, or_false] at hi
    rcases hi with rfl | rfl
    · exact call19 hs hbase h (fun a' w' h' => ⟨hS _ h'.below, 5, true, false, by simp at hk ⊢; omega, by decide, by decide, by decide, by decide, h'⟩)
    · exact made26 hs h (fun a' w' h' => ⟨hS _ h'.below, 4, true, true, by simp at hk ⊢; omega, by decide, by decide, by decide, by decide, h'⟩)
  | 4, true, true, hk, hc, hp, hq, h => 
    have hr : Region.ready .any ops16 (lst 4 true true) = [19] := by kernel_rfl
    refine ⟨by rw [hr]; simp, fun i hi => ?_⟩
    rw [hr] at hi
    simp only [List.mem_cons, List.not_mem_nil, or_false] at hi
    subst hi
    · exact call19 hs hbase h (fun a' w' h' => ⟨hS _ h'.below, 5, true, true, by simp at hk ⊢; omega, by decide, by decide, by decide, by decide, h'⟩)
  | 5, false, false, hk, hc, hp, hq, h => 
    have hr : Region.ready .any ops16 (lst 5 false false) = [23, 26] := by kernel_rfl
    refine ⟨by rw [hr]; simp, fun i hi => ?_⟩
    rw [hr] at hi
    simp only [List.mem_cons, List.not_mem_nil, or_false] at hi
    rcases hi with rfl | rfl
    · exact made23 hs h (fun a' w' h' => ⟨hS _ h'.below, 5, true, false, by simp at hk ⊢; omega, by decide, by decide, by decide, by decide, h'⟩)
    · exact made26 hs h (fun a' w' h' => ⟨hS _ h'.below, 5, false, true, by simp at hk ⊢; omega, by decide, by decide, by decide, by decide, h'⟩)
  | 5, false, true, hk, hc, hp, hq, h => 
    have hr : Region.ready .any ops16 (lst 5 false true) = [23] := by kernel_rfl
    refine ⟨by rw [hr]; simp, fun i hi => ?_⟩
    rw [hr] at hi
    simp only [List.mem_cons, List.not_mem_nil, or_false] at hi
    subst hi
    · exact made23 hs h (fun a' w' h' => ⟨hS _ h'.below, 5, true, true, by simp at hk ⊢; omega, by decide, by decide, by decide, by decide, h'⟩)
  | 5, true, false, hk, hc, hp, hq, h => 
    have hr : Region.ready .any ops16 (lst 5 true false) = [24, 26] := by kernel_rfl
    refine ⟨by rw [hr]; simp, fun i hi => ?_⟩
    rw [hr] at hi
    simp only [List.mem_cons, List.not_mem_nil, or_false] at hi
    rcases hi with rfl | rfl
    · exact call24 hs hbase h (fun a' w' h' => ⟨hS _ h'.below, 6, true, false, by simp at hk ⊢; omega, by decide, by decide, by decide, by decide, h'⟩)
    · exact made26 hs h (fun a' w' h' => ⟨hS _ h'.below, 5, true, true, by simp at hk ⊢; omega, by decide, by decide, by decide, by decide, h'⟩)
  | 5, true, true, hk, hc, hp, hq, h => 
    have hr : Region.ready .any ops16 (lst 5 true true) = [24] := by kernel_rfl
    refine ⟨by rw [hr]; simp, fun i hi => ?_⟩
    rw [hr] at hi
    simp only [List.mem_cons, List.not_mem_nil, or_false] at hi
    subst hi
    · exact call24 hs hbase h (fun a' w' h' => ⟨hS _ h'.below, 6, true, true, by simp at hk ⊢; omega, by decide, by decide, by decide, by decide, h'⟩)
  | 6, false, false, hk, hc, hp, hq, h => exact absurd (hp (by decide)) (by decide)
  | 6, false, true, hk, hc, hp, hq, h => exact absurd (hp (by decide)) (by decide)
  | 6, true, false, hk, hc, hp, hq, h => 
    have hr : Region.ready .any ops16 (lst 6 true false) = [26] := by kernel_rfl
    refine ⟨by rw [hr]; simp, fun i hi => ?_⟩
    rw [hr] at hi
    simp only [List.mem_cons, List.not_mem_nil, or_false] at hi
    subst hi
    · exact made26 hs h (fun a' w' h' => ⟨hS _ h'.below, 6, true, true, by simp at hk ⊢; omega, by decide, by decide, by decide, by decide, h'⟩)
  | 6, true, true, hk, hc, hp, hq, h => 
    have hr : Region.ready .any ops16 (lst 6 true true) = [27] := by kernel_rfl
    refine ⟨by rw [hr]; simp, fun i hi => ?_⟩
    rw [hr] at hi
    simp only [List.mem_cons, List.not_mem_nil, or_false] at hi
    subst hi
    · exact call27 hs hbase h (fun a' w' h' => ⟨hS _ h'.below, 7, true, true, by simp at hk ⊢; omega, by decide, by decide, by decide, by decide, h'⟩)
  | 7, false, false, hk, hc, hp, hq, h => exact absurd (hp (by decide)) (by decide)
  | 7, false, true, hk, hc, hp, hq, h => exact absurd (hp (by decide)) (by decide)
  | 7, true, false, hk, hc, hp, hq, h => exact absurd (hq (by decide)) (by decide)
  | 7, true, true, hk, hc, hp, hq, h => exact absurd hk (by simp)
/-- The frame behind the calls. -/
theorem St.frame (h : St a0 w0 base VS L Z 7 true true a w) (ha : a0.tmps.size = 258) : ∃ v0 v1 v2 v3 v4 v5 v6 g2 g1, a = (((((((((a0.put (some 67) v0).put (some 71) v1).put (some 75) v2).put (some 78) v3).put (some 82) v4).put (some 86) (.slice (some ⟨g2, 0, none⟩) 2 2)).put (some 87) v5).put (some 89) (.slice (some ⟨g1, 0, none⟩) 1 1)).put (some 90) v6) ∧ Bag base w (VS ++ [(v0, Z 0), (v1, Z 1), (v2, Z 2), (v3, Z 3), (v4, Z 4), (v5, Z 5), (v6, Z 6)]) := by
  obtain ⟨h1, h2, h3, h4, ⟨vs, h5, h6, h7⟩, h8, h9⟩ := h
  obtain ⟨x0, e0, f0, z0⟩ := h7 0 (by decide)
  obtain ⟨x1, e1, f1, z1⟩ := h7 1 (by decide)
  obtain ⟨x2, e2, f2, z2⟩ := h7 2 (by decide)
  obtain ⟨x3, e3, f3, z3⟩ := h7 3 (by decide)
  obtain ⟨x4, e4, f4, z4⟩ := h7 4 (by decide)
  obtain ⟨x5, e5, f5, z5⟩ := h7 5 (by decide)
  obtain ⟨x6, e6, f6, z6⟩ := h7 6 (by decide)
  rw [if_pos rfl] at h8 h9
  obtain ⟨g2, k2, _⟩ := h8
  obtain ⟨g1, k1, _⟩ := h9
  obtain rfl : vs = [x0, x1, x2, x3, x4, x5, x6] := by
    match vs, h5 with
    | [a0, a1, a2, a3, a4, a5, a6], _ =>
      simp at e0 e1 e2 e3 e4 e5 e6
      simp [e0, e1, e2, e3, e4, e5, e6]
  refine ⟨x0.1, x1.1, x2.1, x3.1, x4.1, x5.1, x6.1, g2, g1, act_ext ?_ ?_ (fun s => ?_), ?_⟩
  · simp only [put_size]; omega
  · simp only [put_def]; exact h3
  · by_cases hs : Dst s
    · unfold Dst at hs
      simp only [dstOf] at f0 f1 f2 f3 f4 f5 f6
      rcases hs with rfl | rfl | rfl | rfl | rfl | rfl | rfl | rfl | rfl
      · exact f0.trans ((put_ne _ 90 67 _ (by decide)).trans ((put_ne _ 89 67 _ (by decide)).trans ((put_ne _ 87 67 _ (by decide)).trans ((put_ne _ 86 67 _ (by decide)).trans ((put_ne _ 82 67 _ (by decide)).trans ((put_ne _ 78 67 _ (by decide)).trans ((put_ne _ 75 67 _ (by decide)).trans ((put_ne _ 71 67 _ (by decide)).trans (put_same _ 67 _ (by (try simp only [put_size]); omega)))))))))).symm
      · exact f1.trans ((put_ne _ 90 71 _ (by decide)).trans ((put_ne _ 89 71 _ (by decide)).trans ((put_ne _ 87 71 _ (by decide)).trans ((put_ne _ 86 71 _ (by decide)).trans ((put_ne _ 82 71 _ (by decide)).trans ((put_ne _ 78 71 _ (by decide)).trans ((put_ne _ 75 71 _ (by decide)).trans (put_same _ 71 _ (by (try simp only [put_size]); omega))))))))).symm
      · exact f2.trans ((put_ne _ 90 75 _ (by decide)).trans ((put_ne _ 89 75 _ (by decide)).trans ((put_ne _ 87 75 _ (by decide)).trans ((put_ne _ 86 75 _ (by decide)).trans ((put_ne _ 82 75 _ (by decide)).trans ((put_ne _ 78 75 _ (by decide)).trans (put_same _ 75 _ (by (try simp only [put_size]); omega)))))))).symm
      · exact f3.trans ((put_ne _ 90 78 _ (by decide)).trans ((put_ne _ 89 78 _ (by decide)).trans ((put_ne _ 87 78 _ (by decide)).trans ((put_ne _ 86 78 _ (by decide)).trans ((put_ne _ 82 78 _ (by decide)).trans (put_same _ 78 _ (by (try simp only [put_size]); omega))))))).symm
      · exact f4.trans ((put_ne _ 90 82 _ (by decide)).trans ((put_ne _ 89 82 _ (by decide)).trans ((put_ne _ 87 82 _ (by decide)).trans ((put_ne _ 86 82 _ (by decide)).trans (put_same _ 82 _ (by (try simp only [put_size]); omega)))))).symm
      · exact k2.trans ((put_ne _ 90 86 _ (by decide)).trans ((put_ne _ 89 86 _ (by decide)).trans ((put_ne _ 87 86 _ (by decide)).trans (put_same _ 86 _ (by (try simp only [put_size]); omega))))).symm
      · exact f5.trans ((put_ne _ 90 87 _ (by decide)).trans ((put_ne _ 89 87 _ (by decide)).trans (put_same _ 87 _ (by (try simp only [put_size]); omega)))).symm
      · exact k1.trans ((put_ne _ 90 89 _ (by decide)).trans (put_same _ 89 _ (by (try simp only [put_size]); omega))).symm
      · exact f6.trans (put_same _ 90 _ (by (try simp only [put_size]); omega)).symm
    · refine (h4 s hs).trans (Eq.symm ?_)
      exact (put_nd 90 s hs (by unfold Dst; decide)).trans ((put_nd 89 s hs (by unfold Dst; decide)).trans ((put_nd 87 s hs (by unfold Dst; decide)).trans ((put_nd 86 s hs (by unfold Dst; decide)).trans ((put_nd 82 s hs (by unfold Dst; decide)).trans ((put_nd 78 s hs (by unfold Dst; decide)).trans ((put_nd 75 s hs (by unfold Dst; decide)).trans ((put_nd 71 s hs (by unfold Dst; decide)).trans ((put_nd 67 s hs (by unfold Dst; decide)).trans (rfl)))))))))
  · rw [← z0, ← z1, ← z2, ← z3, ← z4, ← z5, ← z6]
    exact h6
theorem calls_float {S : World → Prop} (hS : ∀ w', Below w0.heap.size w0 w' → S w') (hs : Slots a0 w0 L zs x1 x2 x4 x8 hi lo) (hbase : base.heap.size ≤ w0.heap.size) (h0 : St a0 w0 base VS L (ZZ zs x1 x2 x4 x8 hi lo) 0 false false a0 w0)
    (out : ∀ a w, St a0 w0 base VS L (ZZ zs x1 x2 x4 x8 hi lo) 7 true true a w → wpAnyH Try.prog .any ops16 Q S 3 (lst 7 true true) a w) : wpAnyH Try.prog .any ops16 Q S 12 (lst 0 false false) a0 w0 := by
  refine wpAnyH_inv (Inv a0 w0 base VS L (ZZ zs x1 x2 x4 x8 hi lo)) (inv_step hS hs hbase) 3 ?_ 9 _ _ _ ⟨0, false, false, by simp, by decide, by decide, by decide, rfl, h0⟩
  intro l a w h
  obtain ⟨c, p, q, hk, hc, hp, hq, rfl, h⟩ := h
  obtain rfl : c = 7 := by omega
  obtain rfl : p = true := hp (by decide)
  obtain rfl : q = true := hq (by decide)
  exact out a w h
end
end Go.Proofs.Ytolfmchgcelnmaa.O

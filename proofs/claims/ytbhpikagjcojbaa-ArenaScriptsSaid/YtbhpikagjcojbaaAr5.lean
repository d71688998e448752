/- The arena: a page held against an empty one. -/
import Derived.Test.YtbhpikagjcojbaaAr4
import Derived.ChangeKeysEq
import Derived.Lib.SliceRun
namespace Go.Proofs.Ytbhpikagjcojbaa.Ar
open Go.RowKit Go.Proofs.Ytbhpikagjcojbaa.Mem
theorem eq_u8 (d : Nat) (a b : Int) (w : World) : (Op.equalIn (d + 1) 5 (.int .u8 a) (.int .u8 b)).run Try.prog w = .ok (a == b) w := by
  simp [Op.equalIn, run_underlying Try.underlying5]
theorem part_u8 (cs : List Int) (j : Nat) (b : Int) (h : cs[j]? = some b) (w : World) : (part 5 (cs.map byteC).toArray j).run Try.prog w = .ok (.int .u8 b) w := by
  have e : (isAgg 5).run Try.prog w = .ok false w := by
    simp [isAgg, run_underlying Try.underlying5]
  simp [part, e, h, byteC]
theorem eq_items (d : Nat) (xs ys : List Int) (w : World) : ∀ (is : List Nat), (∀ j ∈ is, j < xs.length ∧ j < ys.length) → (Op.eqItems (d + 1) 5 1 (xs.map byteC).toArray (ys.map byteC).toArray is).run Try.prog w = .ok (is.all fun j => xs.getD j 0 == ys.getD j 0) w
  | [], _ => by simp [Op.eqItems]
  | j :: is, h => by
    have ih := eq_items d xs ys w is (fun k hk => h k (by simp [hk]))
    obtain ⟨h1, h2⟩ := h j (by simp)
    have e1 : xs[j]? = some (xs.getD j 0) := by rw [List.getD_eq_getElem?_getD, List.getElem?_eq_getElem h1]; rfl
    have e2 : ys[j]? = some (ys.getD j 0) := by rw [List.getD_eq_getElem?_getD, List.getElem?_eq_getElem h2]; rfl
    unfold Op.eqItems
    rw [Nat.mul_one, Sem.run_bind, part_u8 xs j _ e1, Result.andThen_ok, Sem.run_bind, part_u8 ys j _ e2, Result.andThen_ok, Sem.run_bind, eq_u8, Result.andThen_ok, List.all_cons]
    cases xs.getD j 0 == ys.getD j 0
    · rfl
    · rw [Bool.true_and]
      exact ih
def zeros : List Int := List.replicate 64 0
theorem eq59 (xs : List Int) (hx : xs.length = 64) (w : World) : (Op.equal 59 (.agg (xs.map byteC).toArray) (.agg #[Value.int IntKind.u8 0, Value.int IntKind.u8 0, Value.int IntKind.u8 0, Value.int IntKind.u8 0, Value.int IntKind.u8 0, Value.int IntKind.u8 0, Value.int IntKind.u8 0, Value.int IntKind.u8 0, Value.int IntKind.u8 0, Value.int IntKind.u8 0, Value.int IntKind.u8 0, Value.int IntKind.u8 0, Value.int IntKind.u8 0, Value.int IntKind.u8 0, Value.int IntKind.u8 0, Value.int IntKind.u8 0, Value.int IntKind.u8 0, Value.int IntKind.u8 0, Value.int IntKind.u8 0, Value.int IntKind.u8 0, Value.int IntKind.u8 0, Value.int IntKind.u8 0, Value.int IntKind.u8 0, Value.int IntKind.u8 0, Value.int IntKind.u8 0, Value.int IntKind.u8 0, Value.int IntKind.u8 0, Value.int IntKind.u8 0, Value.int IntKind.u8 0, Value.int IntKind.u8 0, Value.int IntKind.u8 0, Value.int IntKind.u8 0, Value.int IntKind.u8 0, Value.int IntKind.u8 0, Value.int IntKind.u8 0, Value.int IntKind.u8 0, Value.int IntKind.u8 0, Value.int IntKind.u8 0, Value.int IntKind.u8 0, Value.int IntKind.u8 0, Value.int IntKind.u8 0, Value.int IntKind.u8 0, Value.int IntKind.u8 0, Value.int IntKind.u8 0, Value.int IntKind.u8 0, Value.int IntKind.u8 0, Value.int IntKind.u8 0, Value.int IntKind.u8 0, Value.int IntKind.u8 0, Value.int IntKind.u8 0, Value.int IntKind.u8 0, Value.int IntKind.u8 0, Value.int IntKind.u8 0, Value.int IntKind.u8 0, Value.int IntKind.u8 0, Value.int IntKind.u8 0, Value.int IntKind.u8 0, Value.int IntKind.u8 0, Value.int IntKind.u8 0, Value.int IntKind.u8 0, Value.int IntKind.u8 0, Value.int IntKind.u8 0, Value.int IntKind.u8 0, Value.int IntKind.u8 0])).run Try.prog w = .ok (decide (xs = zeros)) w := by
  have hz : (zeros.map byteC).toArray = #[Value.int IntKind.u8 0, Value.int IntKind.u8 0, Value.int IntKind.u8 0, Value.int IntKind.u8 0, Value.int IntKind.u8 0, Value.int IntKind.u8 0, Value.int IntKind.u8 0, Value.int IntKind.u8 0, Value.int IntKind.u8 0, Value.int IntKind.u8 0, Value.int IntKind.u8 0, Value.int IntKind.u8 0, Value.int IntKind.u8 0, Value.int IntKind.u8 0, Value.int IntKind.u8 0, Value.int IntKind.u8 0, Value.int IntKind.u8 0, Value.int IntKind.u8 0, Value.int IntKind.u8 0, Value.int IntKind.u8 0, Value.int IntKind.u8 0, Value.int IntKind.u8 0, Value.int IntKind.u8 0, Value.int IntKind.u8 0, Value.int IntKind.u8 0, Value.int IntKind.u8 0, Value.int IntKind.u8 0, Value.int IntKind.u8 0, Value.int IntKind.u8 0, Value.int IntKind.u8 0, Value.int IntKind.u8 0, Value.int IntKind.u8 0, Value.int IntKind.u8 0, Value.int IntKind.u8 0, Value.int IntKind.u8 0, Value.int IntKind.u8 0, Value.int IntKind.u8 0, Value.int IntKind.u8 0, Value.int IntKind.u8 0, Value.int IntKind.u8 0, Value.int IntKind.u8 0, Value.int IntKind.u8 0, Value.int IntKind.u8 0, Value.int IntKind.u8 0, Value.int IntKind.u8 0, Value.int IntKind.u8 0, Value.int IntKind.u8 0, Value.int IntKind.u8 0, Value.int IntKind.u8 0, Value.int IntKind.u8 0, Value.int IntKind.u8 0, Value.int IntKind.u8 0, Value.int IntKind.u8 0, Value.int IntKind.u8 0, Value.int IntKind.u8 0, Value.int IntKind.u8 0, Value.int IntKind.u8 0, Value.int IntKind.u8 0, Value.int IntKind.u8 0, Value.int IntKind.u8 0, Value.int IntKind.u8 0, Value.int IntKind.u8 0, Value.int IntKind.u8 0, Value.int IntKind.u8 0] := rfl
  obtain ⟨i, hi, _, hsize, _⟩ := info_parts info5
  have h1 := run_equalIn_array (P := Try.prog) (w := w) 9999 (n := 64) (xs.map byteC).toArray (zeros.map byteC).toArray Try.underlying59 hi
  rw [hz] at h1
  have hc : Try.prog.cellsOf 5 = 1 := by kernel_rfl
  rw [hc, ← hz] at h1
  rw [eq_items 9998 xs zeros w _ (fun j hj => by have := List.mem_range.1 hj; exact ⟨by omega, by simpa [zeros] using this⟩)] at h1
  rw [← hz]
  refine h1.trans ?_
  congr 1
  rw [Bool.eq_iff_iff, decide_eq_true_iff, List.all_eq_true]
  constructor
  · intro h
    apply List.ext_getElem
    · simp [zeros, hx]
    · intro j h2 h3
      have := h j (List.mem_range.2 (by omega))
      rw [List.getD_eq_getElem?_getD, List.getD_eq_getElem?_getD, List.getElem?_eq_getElem h2, List.getElem?_eq_getElem h3] at this
      simpa using this
  · rintro rfl j _
    simp
theorem neq59 (xs : List Int) (hx : xs.length = 64) (w : World) : (binOp .neq 59 (.agg (xs.map byteC).toArray) (.agg #[Value.int IntKind.u8 0, Value.int IntKind.u8 0, Value.int IntKind.u8 0, Value.int IntKind.u8 0, Value.int IntKind.u8 0, Value.int IntKind.u8 0, Value.int IntKind.u8 0, Value.int IntKind.u8 0, Value.int IntKind.u8 0, Value.int IntKind.u8 0, Value.int IntKind.u8 0, Value.int IntKind.u8 0, Value.int IntKind.u8 0, Value.int IntKind.u8 0, Value.int IntKind.u8 0, Value.int IntKind.u8 0, Value.int IntKind.u8 0, Value.int IntKind.u8 0, Value.int IntKind.u8 0, Value.int IntKind.u8 0, Value.int IntKind.u8 0, Value.int IntKind.u8 0, Value.int IntKind.u8 0, Value.int IntKind.u8 0, Value.int IntKind.u8 0, Value.int IntKind.u8 0, Value.int IntKind.u8 0, Value.int IntKind.u8 0, Value.int IntKind.u8 0, Value.int IntKind.u8 0, Value.int IntKind.u8 0, Value.int IntKind.u8 0, Value.int IntKind.u8 0, Value.int IntKind.u8 0, Value.int IntKind.u8 0, Value.int IntKind.u8 0, Value.int IntKind.u8 0, Value.int IntKind.u8 0, Value.int IntKind.u8 0, Value.int IntKind.u8 0, Value.int IntKind.u8 0, Value.int IntKind.u8 0, Value.int IntKind.u8 0, Value.int IntKind.u8 0, Value.int IntKind.u8 0, Value.int IntKind.u8 0, Value.int IntKind.u8 0, Value.int IntKind.u8 0, Value.int IntKind.u8 0, Value.int IntKind.u8 0, Value.int IntKind.u8 0, Value.int IntKind.u8 0, Value.int IntKind.u8 0, Value.int IntKind.u8 0, Value.int IntKind.u8 0, Value.int IntKind.u8 0, Value.int IntKind.u8 0, Value.int IntKind.u8 0, Value.int IntKind.u8 0, Value.int IntKind.u8 0, Value.int IntKind.u8 0, Value.int IntKind.u8 0, Value.int IntKind.u8 0, Value.int IntKind.u8 0])).run Try.prog w = .ok (.bool (!decide (xs = zeros))) w := by
  simp only [binOp]
  simp only [Sem.run_bind, eq59 xs hx w, Result.andThen_ok, Sem.run_pure]
theorem laid_same (bs : List Int) (q : Nat) (zs : List Int) (h : (bs.drop q).take zs.length = zs) : laid bs q zs = bs := by
  unfold laid
  have e : bs.drop q = zs ++ bs.drop (q + zs.length) := by
    have := List.take_append_drop zs.length (bs.drop q)
    rw [h, List.drop_drop] at this
    exact this.symm
  rw [List.append_assoc, ← e, List.take_append_drop]
theorem slice59a (b o : Nat) (w : World) : (Instr.sliceAt 59 (.pointer (some ⟨b, o, none⟩)) none none none).run Try.prog w = .ok (.slice (some ⟨b, o, none⟩) 64 64) w := by
  have hL : Try.prog.arrayLen 59 = 64 := by kernel_rfl
  have hE : Try.prog.elem 59 = 5 := by kernel_rfl
  obtain ⟨i, hi, _, hsize, _⟩ := info_parts info5
  have := run_sliceAt_array_all (P := Try.prog) w 59 ⟨b, o, none⟩ (by rw [hL, hE]; exact Try.underlying59)
  rw [this, hE]
  simp [sizeOf, typeInfo, hi, hsize, slicedAt, hL, Addr.add]
theorem zeroCells_one (z : Value) (n : Nat) : (Builtin.zeroCells #[z] n).toList = List.replicate n z := by
  simp [Builtin.zeroCells]
  apply List.ext_getElem
  · simp
  · intro i h1 h2
    simp [Nat.mod_one]
theorem run_clear (w : World) (ty : TypeId) (g off : Nat) (cur : Array Value) (t : TypeId) (hg : w.heap[g]? = some (.cells cur t (0, 0))) (hfit : off + 64 ≤ cur.size) (c : Nat) :
    (Builtin.clear_ #[36] ty #[.slice (some ⟨g, off, none⟩) 64 c]).run Try.prog w = .ok (.tuple #[]) (w.setRow g (cur.toList.take off ++ List.replicate 64 (byteC 0) ++ cur.toList.drop (off + 64)).toArray) := by
  have hv : ∀ w, (zeroValue 5).run Try.prog w = .ok (.int .u8 0) w := fun w => by
    obtain ⟨i, hi, hz, _, _⟩ := info_parts info5
    simp [zeroValue, typeInfo, hi, hz]
  have hst := run_storeCells_at Try.prog g off t (List.replicate 64 (byteC 0)) 0 cur w hg (by simpa using hfit) (by intro v hv'; rw [List.eq_of_mem_replicate hv']; rfl)
  have hzc : (Builtin.zeroCells (Value.int .u8 0).cells 64).toList = List.replicate 64 (byteC 0) := zeroCells_one (byteC 0) 64
  simp only [Nat.add_zero, List.length_replicate] at hst
  obtain ⟨R, hR⟩ : ∃ R, List.replicate 64 (byteC 0) = R := ⟨_, rfl⟩
  rw [hR] at hst hzc ⊢
  simp [Builtin.clear_, run_underlying Try.underlying36, hv, hzc, hst]
section
variable {ops : Array Oper} {rest : List Oper} {o : Oper} {a : Act} {w : World} {Q : Exit → Act → World → Prop}
theorem list_clear (hgd : o.guard = none) (x : Operand) (ho : o.op = .call { callee := .builtin .clear, args := #[x], argTypes := #[36] }) (g off : Nat) (cur : Array Value) (t : TypeId) (hg : w.heap[g]? = some (.cells cur t (0, 0))) (hfit : off + 64 ≤ cur.size) (c : Nat) (hx : a.eval x = .slice (some ⟨g, off, none⟩) 64 c)
    (h : ∀ w', w'.heap[g]? = some (.cells (cur.toList.take off ++ List.replicate 64 (byteC 0) ++ cur.toList.drop (off + 64)).toArray t (0, 0)) → w.grownBy w' (some g) → w'.heap.size = w.heap.size → wpList Try.prog ops Q rest (a.put o.dst (.tuple #[])) w') : wpList Try.prog ops Q (o :: rest) a w := by
  refine wpList_plain hgd fun K hK => ?_
  have hr := run_clear w o.type g off cur t hg hfit c
  unfold Oper.wp execOp
  simp only [ho, resolve, invoke, builtin, Sem.run_bind, Sem.run_pure, Result.andThen_ok, List.map_toArray, List.map_cons, List.map_nil, hx]
  rw [hr]
  exact hK _ _ (h _ (setRow_heap w g cur _ t _ hg) ⟨rfl, rfl, rfl, by simp [World.setRow], fun k _ hk => setRow_other w g k _ (fun e => hk (by rw [e]))⟩ (by simp [World.setRow]))
end
end Go.Proofs.Ytbhpikagjcojbaa.Ar

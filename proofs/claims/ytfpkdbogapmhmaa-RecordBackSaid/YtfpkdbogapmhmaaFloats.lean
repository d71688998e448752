/- A region that draws its order, in which some operations float between a chain of others: walked by an invariant in place of order by order. Own text; Ytfpkdbogapmhmaa stands for the seat's name. -/
import Derived.OrdersHeld
import Derived.WalkKit
import Derived.RangeFuncFrom
namespace Go.Proofs.Ytfpkdbogapmhmaa.Mem
set_option linter.unusedVariables false
section
variable {P : Program} {ops : Array Oper} {Q : Exit → Act → World → Prop} {md : Region.Mode} {S : World → Prop}
/-- The invariant goes down by one at each operation; at its end the walk goes on by itself. -/
theorem wpAnyH_inv (I : Nat → Array Bool → Act → World → Prop)
    (step : ∀ k l a w, I (k + 1) l a w → Region.ready md ops l ≠ [] ∧ ∀ i ∈ Region.ready md ops l, wpOp P ops Q i (fun a' w' => S w' ∧ I k (l.setIfInBounds i true) a' w') a w)
    (fuel : Nat) (out : ∀ l a w, I 0 l a w → wpAnyH P md ops Q S fuel l a w) : ∀ k l a w, I k l a w → wpAnyH P md ops Q S (fuel + k) l a w := by
  intro k
  induction k with
  | zero => intro l a w h; exact out l a w h
  | succ k ih =>
    intro l a w h
    obtain ⟨h1, h2⟩ := step k l a w h
    exact ⟨fun e => absurd e h1, fun i hi => wpOp_mono (fun a' w' h' => ⟨h'.1, ih _ a' w' h'.2⟩) (h2 i hi)⟩
theorem wpOp_call {i : Nat} {o : Oper} {f : FuncId} {args : Array Operand} {ts : Array TypeId} {vs : Array Value} {K : Act → World → Prop} {a : Act} {w : World} (hi : ops[i]? = some o) (hop : o.op = .call { callee := .value (.func f), args := args, argTypes := ts }) (hg : o.guard = none)
    (he : ∀ (vs : Array Value) (w : World), (callFunc f vs).run P w = .ok (.enter f vs) w) (hvs : args.map a.eval = vs) (hc : Calls P f vs w fun e w' => ∃ v, e = .returned v ∧ K (a.put o.dst v) w') : wpOp P ops Q i K a w := by
  have hr : (execOp a.eval o).run P w = .ok (.enter f vs) w := by
    unfold execOp
    simp only [hop, resolve, Act.eval, hvs]
    rw [show (args.map a.eval) = vs from hvs] at *
    simp [Deferred.ofValue, invoke, he]
  unfold wpOp
  rw [hi]
  simp only [Region.wanted, hg, if_true]
  refine .inl ?_
  unfold Oper.wp
  rw [hr]
  refine Calls.mono hc fun e w' h => ?_
  obtain ⟨v, rfl, h⟩ := h
  exact h
theorem wpOp_slice {i : Nat} {o : Oper} {t : TypeId} {len : Nat} {parts : Array (Nat × Operand)} {v : Value} {K : Act → World → Prop} {a : Act} {w w' : World} (hi : ops[i]? = some o) (hop : o.op = .buildSlice t len parts) (hg : o.guard = none)
    (hr : (Instr.buildSlice t len (parts.map fun x => (x.1, a.eval x.2))).run P w = .ok v w') (h : K (a.put o.dst v) w') : wpOp P ops Q i K a w := by
  have hr2 : (execOp a.eval o).run P w = .ok (.value v) w' := by
    unfold execOp
    simp only [hop]
    simp [Sem.run_bind, hr, Result.andThen]
  unfold wpOp
  rw [hi]
  simp only [Region.wanted, hg, if_true]
  refine .inl ?_
  unfold Oper.wp
  rw [hr2]
  exact h
end
/-- A frame is known by its slots. -/
theorem act_ext {a b : Act} (hs : a.tmps.size = b.tmps.size) (hd : a.defers = b.defers) (h : ∀ s, a.tmps.getD s undef = b.tmps.getD s undef) : a = b := by
  obtain ⟨ta, da⟩ := a
  obtain ⟨tb, db⟩ := b
  obtain rfl : da = db := hd
  congr 1
  refine Array.ext hs (fun i h1 h2 => ?_)
  have := h i
  simpa [Array.getD, h1, h2] using this
end Go.Proofs.Ytfpkdbogapmhmaa.Mem

/- Record: a slice's front, as one step of the walk. -/
import Derived.Test.YtfpkdbogapmhmaaOc11
namespace Go.Proofs.Ytfpkdbogapmhmaa.O
open Go.RowKit Go.Proofs.Ytfpkdbogapmhmaa.Mem
set_option linter.unusedVariables false
set_option linter.unusedSimpArgs false
set_option maxHeartbeats 1000000 in
theorem wpList_front27 {ops : Array Oper} {rest : List Oper} {op : Oper} {a : Act} {w : World} {Q : Exit → Act → World → Prop} (hgd : op.guard = none) (x y : Operand) (ho : op.op = .slice 27 x none (some y) none)
    (A : Option Addr) (n c k : Nat) (hx : a.eval x = .slice A n c) (hy : a.eval y = .int .i64 (k : Int)) (hk : k ≤ c) (h : wpList Try.prog ops Q rest (a.put op.dst (.slice A k c)) w) : wpList Try.prog ops Q (op :: rest) a w :=
  wpList_plain hgd fun _ hK => by
    have h0 : (0 : Int) ≤ (k : Int) := by omega
    have h1 : (k : Int) ≤ (c : Int) := by omega
    have h2 : ((k : Int)).toNat = k := by omega
    unfold Oper.wp execOp
    simp only [ho, hx, Option.map_some, Option.map_none, hy]
    go_simp
    exact hK _ _ h
set_option maxHeartbeats 1000000 in
theorem wpList_front28 {ops : Array Oper} {rest : List Oper} {op : Oper} {a : Act} {w : World} {Q : Exit → Act → World → Prop} (hgd : op.guard = none) (x y : Operand) (ho : op.op = .slice 28 x none (some y) none)
    (A : Option Addr) (n c k : Nat) (hx : a.eval x = .slice A n c) (hy : a.eval y = .int .i64 (k : Int)) (hk : k ≤ c) (h : wpList Try.prog ops Q rest (a.put op.dst (.slice A k c)) w) : wpList Try.prog ops Q (op :: rest) a w :=
  wpList_plain hgd fun _ hK => by
    have h0 : (0 : Int) ≤ (k : Int) := by omega
    have h1 : (k : Int) ≤ (c : Int) := by omega
    have h2 : ((k : Int)).toNat = k := by omega
    unfold Oper.wp execOp
    simp only [ho, hx, Option.map_some, Option.map_none, hy]
    go_simp
    exact hK _ _ h
set_option maxHeartbeats 1000000 in
theorem wpList_from27 {ops : Array Oper} {rest : List Oper} {op : Oper} {a : Act} {w : World} {Q : Exit → Act → World → Prop} (hgd : op.guard = none) (x y : Operand) (ho : op.op = .slice 27 x (some y) none none)
    (g o n c k : Nat) (hx : a.eval x = .slice (some ⟨g, o, none⟩) n c) (hy : a.eval y = .int .i64 (k : Int)) (hk : k ≤ n) (hn : n ≤ c) (hc : ¬ c = k) (h : wpList Try.prog ops Q rest (a.put op.dst (.slice (some ⟨g, o + k, none⟩) (n - k) (c - k))) w) : wpList Try.prog ops Q (op :: rest) a w :=
  wpList_plain hgd fun _ hK => by
    have h0 : (0 : Int) ≤ (k : Int) := by omega
    have h1 : (k : Int) ≤ (n : Int) := by omega
    have h3 : (n : Int) ≤ (c : Int) := by omega
    have h2 : ((k : Int)).toNat = k := by omega
    unfold Oper.wp execOp
    simp only [ho, hx, Option.map_some, Option.map_none, hy]
    go_simp
    exact hK _ _ h
end Go.Proofs.Ytfpkdbogapmhmaa.O

/-
  No cell of these rows narrows 'for every input' (looked for: loops, veiled, ifaces, maps, wideKeys, modest, calm, conditions, laid).
  DERIVED. THE GIVEN ROWS OF THIS SEAT. 3 by the template 'for every input the law returns true; each argument reads behind the call as it read before'; 0 by the template 'total and deterministic' (their statements: YthemibhajlgcdaaTotals.lean).
  GIVEN WITH THE SEED: the statements are not yours to turn. If you find one false, say at which input.
  Laid BY PROGRAM, IN A SANDBOX (cutbox-rows.mjs): the forced cells as the released guide's own fill.sh prints them over the translation c61a7dd70d499559… (all of the seat's roots in one cut). By AI agents, Wed Nov 11 2026. No macro, syntax, notation, axiom, sorry.
-/
import Derived.Test.YthemibhajlgcdaaChecked
import GoSem.Claim
import GoSem.ClaimJoined
import GoSem.ClaimMapViews
import Derived.JoinedTies
import Derived.KernelRfl
namespace Go.Proofs.Ythemibhajlgcdaa
/- THE CELL 'sum', in the pinned program and in every row, IS THE sha256 OF THE DUMP (.gsa) THAT YthemibhajlgcdaaProg.lean LOADS. Nothing in Lean hashes anything: it is a label: what it is worth is what the hold of that sum in a sandbox is worth. -/
noncomputable def Try.pinned : Pinned := { name := "ythemibhajlgcdaa", sum := "c61a7dd70d499559cf28e7a2b2df1c2336b497f9c4f7eaabe64ecac0e99d726d", checked := Try.checked }
namespace Rows
def none {H : Type} : Left H := { results := [], args := [] }

/-- 'sesamelaw09.KinScripts': WHATEVER THE INPUT: true; the input reads as it did. -/
def kinScriptsSpec : ChangeSpec := { name := "kinScripts", fn := fun _ => fun
  | [d1, d2] => { results := [.lit (.bool true)], args := [d1, d2] }
  | _ => none }
def kinScriptsRow : OpenClaim := { program := "ythemibhajlgcdaa", sum := "c61a7dd70d499559cf28e7a2b2df1c2336b497f9c4f7eaabe64ecac0e99d726d", func := "sesame/sesamelaw09.KinScripts", spec := "kinScripts", unfollowed := true, recurses := true, apart := false }
def KinScriptsSaid : Prop := kinScriptsRow.holds Try.pinned (OpenSpec.ofChange kinScriptsSpec)

/-- ITS FALSE NEIGHBOUR: 'it returns false'. Refute it at one input. -/
def kinScriptsWrong : ChangeSpec := { name := "kinScripts", fn := fun _ => fun
  | [d1, d2] => { results := [.lit (.bool false)], args := [d1, d2] }
  | _ => none }
def KinScriptsWrongFalsely : Prop := kinScriptsRow.holds Try.pinned (OpenSpec.ofChange kinScriptsWrong)

/-- 'sesamelaw09.KinOrder': WHATEVER THE INPUT: true; the input reads as it did. -/
def kinOrderSpec : ChangeSpec := { name := "kinOrder", fn := fun _ => fun
  | [d1, d2, d3] => { results := [.lit (.bool true)], args := [d1, d2, d3] }
  | _ => none }
def kinOrderRow : OpenClaim := { program := "ythemibhajlgcdaa", sum := "c61a7dd70d499559cf28e7a2b2df1c2336b497f9c4f7eaabe64ecac0e99d726d", func := "sesame/sesamelaw09.KinOrder", spec := "kinOrder", unfollowed := true, recurses := true, apart := false }
def KinOrderSaid : Prop := kinOrderRow.holds Try.pinned (OpenSpec.ofChange kinOrderSpec)

/-- ITS FALSE NEIGHBOUR: 'it returns false'. Refute it at one input. -/
def kinOrderWrong : ChangeSpec := { name := "kinOrder", fn := fun _ => fun
  | [d1, d2, d3] => { results := [.lit (.bool false)], args := [d1, d2, d3] }
  | _ => none }
def KinOrderWrongFalsely : Prop := kinOrderRow.holds Try.pinned (OpenSpec.ofChange kinOrderWrong)

/-- 'sesamelaw09.KinKeeps': WHATEVER THE INPUT: true; the input reads as it did. -/
def kinKeepsSpec : ChangeSpec := { name := "kinKeeps", fn := fun _ => fun
  | [d1, d2] => { results := [.lit (.bool true)], args := [d1, d2] }
  | _ => none }
def kinKeepsRow : OpenClaim := { program := "ythemibhajlgcdaa", sum := "c61a7dd70d499559cf28e7a2b2df1c2336b497f9c4f7eaabe64ecac0e99d726d", func := "sesame/sesamelaw09.KinKeeps", spec := "kinKeeps", unfollowed := true, recurses := true, apart := false }
def KinKeepsSaid : Prop := kinKeepsRow.holds Try.pinned (OpenSpec.ofChange kinKeepsSpec)

/-- ITS FALSE NEIGHBOUR: 'it returns false'. Refute it at one input. -/
def kinKeepsWrong : ChangeSpec := { name := "kinKeeps", fn := fun _ => fun
  | [d1, d2] => { results := [.lit (.bool false)], args := [d1, d2] }
  | _ => none }
def KinKeepsWrongFalsely : Prop := kinKeepsRow.holds Try.pinned (OpenSpec.ofChange kinKeepsWrong)

/- THE SECOND FORM. 'bulk': how many values and letters a reading holds, each counted each time it is reached (what is shared counts as often as it is met; a slice's spare places count too). A statement '..UptoSaid' is the law's where the arguments, and the package variables that the reading takes, are together of bulk at most 1048576: NARROWER than '..Said'. Prove '..Said' where nothing that the law and all that it calls make is longer than what came in: it says more and counts as full. Else prove '..UptoSaid'. A law counts once. -/
mutual
def uptoBulk {H : Type} : DataW H → Nat
  | .lit (.string bytes) => bytes.length + 1
  | .lit _ => 1
  | .nil => 1
  | .ptr d => uptoBulk d + 1
  | .slice elems spare => uptoBulkAll elems + uptoBulkAll spare + 1
  | .agg parts => uptoBulkAll parts + 1
  | .iface _ d => uptoBulk d + 1
  | .map entries => uptoBulkEntries entries + 1
  | .held _ => 1
def uptoBulkAll {H : Type} : List (DataW H) → Nat
  | [] => 0
  | d :: r => uptoBulk d + uptoBulkAll r
def uptoBulkEntries {H : Type} : List (Lit × DataW H) → Nat
  | [] => 0
  | x :: r => uptoBulkEntry x + uptoBulkEntries r
def uptoBulkEntry {H : Type} : Lit × DataW H → Nat
  | (.string bytes, d) => bytes.length + uptoBulk d + 1
  | (_, d) => uptoBulk d + 1
 end
def uptoSmall : (H : Type) → List (DataW H) → Bool := fun _ ds => decide (uptoBulkAll ds ≤ 1048576)
def OpenSpec.upto (s : _root_.Go.ChangeSpec) : _root_.Go.OpenSpec := { _root_.Go.OpenSpec.ofChange s with cond := some uptoSmall }

/-- 'sesamelaw09.KinScripts', WHERE WHAT IT READS IS OF BULK AT MOST 1048576: true; the input reads as it did. -/
def kinScriptsUptoRow : OpenClaim := { program := "ythemibhajlgcdaa", sum := "c61a7dd70d499559cf28e7a2b2df1c2336b497f9c4f7eaabe64ecac0e99d726d", func := "sesame/sesamelaw09.KinScripts", spec := "kinScripts", unfollowed := true, recurses := true, apart := false, narrowed := true }
def KinScriptsUptoSaid : Prop := kinScriptsUptoRow.holds Try.pinned (OpenSpec.upto kinScriptsSpec)

/-- 'sesamelaw09.KinOrder', WHERE WHAT IT READS IS OF BULK AT MOST 1048576: true; the input reads as it did. -/
def kinOrderUptoRow : OpenClaim := { program := "ythemibhajlgcdaa", sum := "c61a7dd70d499559cf28e7a2b2df1c2336b497f9c4f7eaabe64ecac0e99d726d", func := "sesame/sesamelaw09.KinOrder", spec := "kinOrder", unfollowed := true, recurses := true, apart := false, narrowed := true }
def KinOrderUptoSaid : Prop := kinOrderUptoRow.holds Try.pinned (OpenSpec.upto kinOrderSpec)

/-- 'sesamelaw09.KinKeeps', WHERE WHAT IT READS IS OF BULK AT MOST 1048576: true; the input reads as it did. -/
def kinKeepsUptoRow : OpenClaim := { program := "ythemibhajlgcdaa", sum := "c61a7dd70d499559cf28e7a2b2df1c2336b497f9c4f7eaabe64ecac0e99d726d", func := "sesame/sesamelaw09.KinKeeps", spec := "kinKeeps", unfollowed := true, recurses := true, apart := false, narrowed := true }
def KinKeepsUptoSaid : Prop := kinKeepsUptoRow.holds Try.pinned (OpenSpec.upto kinKeepsSpec)

end Rows
end Go.Proofs.Ythemibhajlgcdaa

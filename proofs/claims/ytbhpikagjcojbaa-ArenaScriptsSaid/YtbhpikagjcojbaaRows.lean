/-
  No cell of these rows narrows 'for every input' (looked for: loops, veiled, ifaces, maps, wideKeys, modest, calm, conditions, laid).
  DERIVED. THE GIVEN ROWS OF THIS SEAT. 3 by the template 'for every input the law returns true; each argument reads behind the call as it read before'; 0 by the template 'total and deterministic' (their statements: YtbhpikagjcojbaaTotals.lean).
  GIVEN WITH THE SEED: the statements are not yours to turn. If you find one false, say at which input.
  Laid BY PROGRAM, IN A SANDBOX (cutbox-rows.mjs): the forced cells as the released guide's own fill.sh prints them over the translation 87cf5bb7ab7683c8… (all of the seat's roots in one cut). By AI agents, Wed Nov 11 2026. No macro, syntax, notation, axiom, sorry.
-/
import Derived.Test.YtbhpikagjcojbaaChecked
import GoSem.Claim
import GoSem.ClaimJoined
import GoSem.ClaimMapViews
import Derived.JoinedTies
import Derived.KernelRfl
namespace Go.Proofs.Ytbhpikagjcojbaa
/- THE CELL 'sum', in the pinned program and in every row, IS THE sha256 OF THE DUMP (.gsa) THAT YtbhpikagjcojbaaProg.lean LOADS. Nothing in Lean hashes anything: it is a label: what it is worth is what the hold of that sum in a sandbox is worth. -/
noncomputable def Try.pinned : Pinned := { name := "ytbhpikagjcojbaa", sum := "87cf5bb7ab7683c84dbc8e99345c7f95be8db857eb304d0eb11f537f6d6a9ed3", checked := Try.checked }
namespace Rows
def none {H : Type} : Left H := { results := [], args := [] }

/-- 'sesamelaw06.ArenaKeeps': WHATEVER THE INPUT: true; the input reads as it did. -/
def arenaKeepsSpec : ChangeSpec := { name := "arenaKeeps", fn := fun _ => fun
  | [d1, d2, d3] => { results := [.lit (.bool true)], args := [d1, d2, d3] }
  | _ => none }
def arenaKeepsRow : OpenClaim := { program := "ytbhpikagjcojbaa", sum := "87cf5bb7ab7683c84dbc8e99345c7f95be8db857eb304d0eb11f537f6d6a9ed3", func := "sesame/sesamelaw06.ArenaKeeps", spec := "arenaKeeps", apart := false }
def ArenaKeepsSaid : Prop := arenaKeepsRow.holds Try.pinned (OpenSpec.ofChange arenaKeepsSpec)

/-- ITS FALSE NEIGHBOUR: 'it returns false'. Refute it at one input. -/
def arenaKeepsWrong : ChangeSpec := { name := "arenaKeeps", fn := fun _ => fun
  | [d1, d2, d3] => { results := [.lit (.bool false)], args := [d1, d2, d3] }
  | _ => none }
def ArenaKeepsWrongFalsely : Prop := arenaKeepsRow.holds Try.pinned (OpenSpec.ofChange arenaKeepsWrong)

/-- 'sesamelaw06.ArenaScripts': WHATEVER THE INPUT: true; the input reads as it did. -/
def arenaScriptsSpec : ChangeSpec := { name := "arenaScripts", fn := fun _ => fun
  | [d1, d2] => { results := [.lit (.bool true)], args := [d1, d2] }
  | _ => none }
def arenaScriptsRow : OpenClaim := { program := "ytbhpikagjcojbaa", sum := "87cf5bb7ab7683c84dbc8e99345c7f95be8db857eb304d0eb11f537f6d6a9ed3", func := "sesame/sesamelaw06.ArenaScripts", spec := "arenaScripts", apart := false }
def ArenaScriptsSaid : Prop := arenaScriptsRow.holds Try.pinned (OpenSpec.ofChange arenaScriptsSpec)

/-- ITS FALSE NEIGHBOUR: 'it returns false'. Refute it at one input. -/
def arenaScriptsWrong : ChangeSpec := { name := "arenaScripts", fn := fun _ => fun
  | [d1, d2] => { results := [.lit (.bool false)], args := [d1, d2] }
  | _ => none }
def ArenaScriptsWrongFalsely : Prop := arenaScriptsRow.holds Try.pinned (OpenSpec.ofChange arenaScriptsWrong)

/-- 'sesamelaw06.ArenaZeroed': WHATEVER THE INPUT: true; the input reads as it did. -/
def arenaZeroedSpec : ChangeSpec := { name := "arenaZeroed", fn := fun _ => fun
  | [d1, d2, d3, d4, d5] => { results := [.lit (.bool true)], args := [d1, d2, d3, d4, d5] }
  | _ => none }
def arenaZeroedRow : OpenClaim := { program := "ytbhpikagjcojbaa", sum := "87cf5bb7ab7683c84dbc8e99345c7f95be8db857eb304d0eb11f537f6d6a9ed3", func := "sesame/sesamelaw06.ArenaZeroed", spec := "arenaZeroed", apart := false }
def ArenaZeroedSaid : Prop := arenaZeroedRow.holds Try.pinned (OpenSpec.ofChange arenaZeroedSpec)

/-- ITS FALSE NEIGHBOUR: 'it returns false'. Refute it at one input. -/
def arenaZeroedWrong : ChangeSpec := { name := "arenaZeroed", fn := fun _ => fun
  | [d1, d2, d3, d4, d5] => { results := [.lit (.bool false)], args := [d1, d2, d3, d4, d5] }
  | _ => none }
def ArenaZeroedWrongFalsely : Prop := arenaZeroedRow.holds Try.pinned (OpenSpec.ofChange arenaZeroedWrong)

/- THE SECOND FORM. 'bulk': how many values and letters a reading holds, each counted each time it is reached (what is shared counts as often as it is met; a slice's spare places count too). A statement '..UptoSaid' is the law's where the arguments, and the package variables that the reading takes, are together of bulk at most 1048576: NARROWER than '..Said'. Prove '..Said' where nothing that the law and all that it calls make is longer than what came in: it says more and counts as full. Else prove '..UptoSaid'. A law counts once. -/
mutual
def uptoBulk {H : Type} : DataW H → Nat
  | .lit (.string bytes) => bytes.length + 1
  | .lit _ => 1
  | .nil => 1
  | .ptr d => uptoBulk d + 1
  | .slice elems spare => uptoBulkAll elems + uptoBulkAll spare + 1
  | .agg parts => uptoBulkAll parts + 1
  | .iface _ d => uptoBulk d + 1
  | .map entries => uptoBulkEntries entries + 1
  | .held _ => 1
def uptoBulkAll {H : Type} : List (DataW H) → Nat
  | [] => 0
  | d :: r => uptoBulk d + uptoBulkAll r
def uptoBulkEntries {H : Type} : List (Lit × DataW H) → Nat
  | [] => 0
  | x :: r => uptoBulkEntry x + uptoBulkEntries r
def uptoBulkEntry {H : Type} : Lit × DataW H → Nat
  | (.string bytes, d) => bytes.length + uptoBulk d + 1
  | (_, d) => uptoBulk d + 1
 end
def uptoSmall : (H : Type) → List (DataW H) → Bool := fun _ ds => decide (uptoBulkAll ds ≤ 1048576)
def OpenSpec.upto (s : _root_.Go.ChangeSpec) : _root_.Go.OpenSpec := { _root_.Go.OpenSpec.ofChange s with cond := some uptoSmall }

/-- 'sesamelaw06.ArenaKeeps', WHERE WHAT IT READS IS OF BULK AT MOST 1048576: true; the input reads as it did. -/
def arenaKeepsUptoRow : OpenClaim := { program := "ytbhpikagjcojbaa", sum := "87cf5bb7ab7683c84dbc8e99345c7f95be8db857eb304d0eb11f537f6d6a9ed3", func := "sesame/sesamelaw06.ArenaKeeps", spec := "arenaKeeps", apart := false, narrowed := true }
def ArenaKeepsUptoSaid : Prop := arenaKeepsUptoRow.holds Try.pinned (OpenSpec.upto arenaKeepsSpec)

/-- 'sesamelaw06.ArenaScripts', WHERE WHAT IT READS IS OF BULK AT MOST 1048576: true; the input reads as it did. -/
def arenaScriptsUptoRow : OpenClaim := { program := "ytbhpikagjcojbaa", sum := "87cf5bb7ab7683c84dbc8e99345c7f95be8db857eb304d0eb11f537f6d6a9ed3", func := "sesame/sesamelaw06.ArenaScripts", spec := "arenaScripts", apart := false, narrowed := true }
def ArenaScriptsUptoSaid : Prop := arenaScriptsUptoRow.holds Try.pinned (OpenSpec.upto arenaScriptsSpec)

/-- 'sesamelaw06.ArenaZeroed', WHERE WHAT IT READS IS OF BULK AT MOST 1048576: true; the input reads as it did. -/
def arenaZeroedUptoRow : OpenClaim := { program := "ytbhpikagjcojbaa", sum := "87cf5bb7ab7683c84dbc8e99345c7f95be8db857eb304d0eb11f537f6d6a9ed3", func := "sesame/sesamelaw06.ArenaZeroed", spec := "arenaZeroed", apart := false, narrowed := true }
def ArenaZeroedUptoSaid : Prop := arenaZeroedUptoRow.holds Try.pinned (OpenSpec.upto arenaZeroedSpec)

end Rows
end Go.Proofs.Ytbhpikagjcojbaa

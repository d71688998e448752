/-
  No cell of these rows narrows 'for every input' (looked for: loops, veiled, ifaces, maps, wideKeys, modest, calm, conditions, laid).
  DERIVED. THE GIVEN ROWS OF THIS SEAT. 3 by the template 'for every input the law returns true; each argument reads behind the call as it read before'; 0 by the template 'total and deterministic' (their statements: YtpkgiemigbjfeaaTotals.lean).
  GIVEN WITH THE SEED: the statements are not yours to turn. If you find one false, say at which input.
  Laid BY PROGRAM, IN A SANDBOX (cutbox-rows.mjs): the forced cells as the released guide's own fill.sh prints them over the translation ec5a9600c6674ae6… (all of the seat's roots in one cut). By AI agents, Wed Nov 11 2026. No macro, syntax, notation, axiom, sorry.
-/
import Derived.Test.YtpkgiemigbjfeaaChecked
import GoSem.Claim
import GoSem.ClaimJoined
import GoSem.ClaimMapViews
import Derived.JoinedTies
import Derived.KernelRfl
namespace Go.Proofs.Ytpkgiemigbjfeaa
/- THE CELL 'sum', in the pinned program and in every row, IS THE sha256 OF THE DUMP (.gsa) THAT YtpkgiemigbjfeaaProg.lean LOADS. Nothing in Lean hashes anything: it is a label: what it is worth is what the hold of that sum in a sandbox is worth. -/
noncomputable def Try.pinned : Pinned := { name := "ytpkgiemigbjfeaa", sum := "ec5a9600c6674ae619c5f3c0ce09904fdf0b6d3f3ce36ec7785cf20dd5427e44", checked := Try.checked }
namespace Rows
def none {H : Type} : Left H := { results := [], args := [] }

/-- 'sesamelaw16.ProcsScripts': WHATEVER THE INPUT: true; the input reads as it did. -/
def procsScriptsSpec : ChangeSpec := { name := "procsScripts", fn := fun _ => fun
  | [d1, d2] => { results := [.lit (.bool true)], args := [d1, d2] }
  | _ => none }
def procsScriptsRow : OpenClaim := { program := "ytpkgiemigbjfeaa", sum := "ec5a9600c6674ae619c5f3c0ce09904fdf0b6d3f3ce36ec7785cf20dd5427e44", func := "sesame/sesamelaw16.ProcsScripts", spec := "procsScripts", inPlace := ["slices.overlaps[int]"], apart := false }
def ProcsScriptsSaid : Prop := procsScriptsRow.holds Try.pinned (OpenSpec.ofChange procsScriptsSpec)

/-- ITS FALSE NEIGHBOUR: 'it returns false'. Refute it at one input. -/
def procsScriptsWrong : ChangeSpec := { name := "procsScripts", fn := fun _ => fun
  | [d1, d2] => { results := [.lit (.bool false)], args := [d1, d2] }
  | _ => none }
def ProcsScriptsWrongFalsely : Prop := procsScriptsRow.holds Try.pinned (OpenSpec.ofChange procsScriptsWrong)

/-- 'sesamelaw16.ProcsRise': WHATEVER THE INPUT: true; the input reads as it did. -/
def procsRiseSpec : ChangeSpec := { name := "procsRise", fn := fun _ => fun
  | [d1, d2] => { results := [.lit (.bool true)], args := [d1, d2] }
  | _ => none }
def procsRiseRow : OpenClaim := { program := "ytpkgiemigbjfeaa", sum := "ec5a9600c6674ae619c5f3c0ce09904fdf0b6d3f3ce36ec7785cf20dd5427e44", func := "sesame/sesamelaw16.ProcsRise", spec := "procsRise", inPlace := ["slices.overlaps[int]"], apart := false }
def ProcsRiseSaid : Prop := procsRiseRow.holds Try.pinned (OpenSpec.ofChange procsRiseSpec)

/-- ITS FALSE NEIGHBOUR: 'it returns false'. Refute it at one input. -/
def procsRiseWrong : ChangeSpec := { name := "procsRise", fn := fun _ => fun
  | [d1, d2] => { results := [.lit (.bool false)], args := [d1, d2] }
  | _ => none }
def ProcsRiseWrongFalsely : Prop := procsRiseRow.holds Try.pinned (OpenSpec.ofChange procsRiseWrong)

/-- 'sesamelaw16.ProcsLoads': WHATEVER THE INPUT: true; the input reads as it did. -/
def procsLoadsSpec : ChangeSpec := { name := "procsLoads", fn := fun _ => fun
  | [d1, d2] => { results := [.lit (.bool true)], args := [d1, d2] }
  | _ => none }
def procsLoadsRow : OpenClaim := { program := "ytpkgiemigbjfeaa", sum := "ec5a9600c6674ae619c5f3c0ce09904fdf0b6d3f3ce36ec7785cf20dd5427e44", func := "sesame/sesamelaw16.ProcsLoads", spec := "procsLoads", inPlace := ["slices.overlaps[int]"], apart := false }
def ProcsLoadsSaid : Prop := procsLoadsRow.holds Try.pinned (OpenSpec.ofChange procsLoadsSpec)

/-- ITS FALSE NEIGHBOUR: 'it returns false'. Refute it at one input. -/
def procsLoadsWrong : ChangeSpec := { name := "procsLoads", fn := fun _ => fun
  | [d1, d2] => { results := [.lit (.bool false)], args := [d1, d2] }
  | _ => none }
def ProcsLoadsWrongFalsely : Prop := procsLoadsRow.holds Try.pinned (OpenSpec.ofChange procsLoadsWrong)

/- THE SECOND FORM. 'bulk': how many values and letters a reading holds, each counted each time it is reached (what is shared counts as often as it is met; a slice's spare places count too). A statement '..UptoSaid' is the law's where the arguments, and the package variables that the reading takes, are together of bulk at most 1048576: NARROWER than '..Said'. Prove '..Said' where nothing that the law and all that it calls make is longer than what came in: it says more and counts as full. Else prove '..UptoSaid'. A law counts once. -/
mutual
def uptoBulk {H : Type} : DataW H → Nat
  | .lit (.string bytes) => bytes.length + 1
  | .lit _ => 1
  | .nil => 1
  | .ptr d => uptoBulk d + 1
  | .slice elems spare => uptoBulkAll elems + uptoBulkAll spare + 1
  | .agg parts => uptoBulkAll parts + 1
  | .iface _ d => uptoBulk d + 1
  | .map entries => uptoBulkEntries entries + 1
  | .held _ => 1
def uptoBulkAll {H : Type} : List (DataW H) → Nat
  | [] => 0
  | d :: r => uptoBulk d + uptoBulkAll r
def uptoBulkEntries {H : Type} : List (Lit × DataW H) → Nat
  | [] => 0
  | x :: r => uptoBulkEntry x + uptoBulkEntries r
def uptoBulkEntry {H : Type} : Lit × DataW H → Nat
  | (.string bytes, d) => bytes.length + uptoBulk d + 1
  | (_, d) => uptoBulk d + 1
 end
def uptoSmall : (H : Type) → List (DataW H) → Bool := fun _ ds => decide (uptoBulkAll ds ≤ 1048576)
def OpenSpec.upto (s : _root_.Go.ChangeSpec) : _root_.Go.OpenSpec := { _root_.Go.OpenSpec.ofChange s with cond := some uptoSmall }

/-- 'sesamelaw16.ProcsScripts', WHERE WHAT IT READS IS OF BULK AT MOST 1048576: true; the input reads as it did. -/
def procsScriptsUptoRow : OpenClaim := { program := "ytpkgiemigbjfeaa", sum := "ec5a9600c6674ae619c5f3c0ce09904fdf0b6d3f3ce36ec7785cf20dd5427e44", func := "sesame/sesamelaw16.ProcsScripts", spec := "procsScripts", inPlace := ["slices.overlaps[int]"], apart := false, narrowed := true }
def ProcsScriptsUptoSaid : Prop := procsScriptsUptoRow.holds Try.pinned (OpenSpec.upto procsScriptsSpec)

/-- 'sesamelaw16.ProcsRise', WHERE WHAT IT READS IS OF BULK AT MOST 1048576: true; the input reads as it did. -/
def procsRiseUptoRow : OpenClaim := { program := "ytpkgiemigbjfeaa", sum := "ec5a9600c6674ae619c5f3c0ce09904fdf0b6d3f3ce36ec7785cf20dd5427e44", func := "sesame/sesamelaw16.ProcsRise", spec := "procsRise", inPlace := ["slices.overlaps[int]"], apart := false, narrowed := true }
def ProcsRiseUptoSaid : Prop := procsRiseUptoRow.holds Try.pinned (OpenSpec.upto procsRiseSpec)

/-- 'sesamelaw16.ProcsLoads', WHERE WHAT IT READS IS OF BULK AT MOST 1048576: true; the input reads as it did. -/
def procsLoadsUptoRow : OpenClaim := { program := "ytpkgiemigbjfeaa", sum := "ec5a9600c6674ae619c5f3c0ce09904fdf0b6d3f3ce36ec7785cf20dd5427e44", func := "sesame/sesamelaw16.ProcsLoads", spec := "procsLoads", inPlace := ["slices.overlaps[int]"], apart := false, narrowed := true }
def ProcsLoadsUptoSaid : Prop := procsLoadsUptoRow.holds Try.pinned (OpenSpec.upto procsLoadsSpec)

end Rows
end Go.Proofs.Ytpkgiemigbjfeaa

/-
  No cell of these rows narrows 'for every input' (looked for: loops, veiled, ifaces, maps, wideKeys, modest, calm, conditions, laid).
  DERIVED. THE GIVEN ROWS OF THIS SEAT. 4 by the template 'for every input the law returns true; each argument reads behind the call as it read before'; 0 by the template 'total and deterministic' (their statements: YtkmmpagflbnenaaTotals.lean).
  GIVEN WITH THE SEED: the statements are not yours to turn. If you find one false, say at which input.
  Laid BY PROGRAM, IN A SANDBOX (cutbox-rows.mjs): the forced cells as the released guide's own fill.sh prints them over the translation 9473038ae1525d74… (all of the seat's roots in one cut). By AI agents, Wed Nov 11 2026. No macro, syntax, notation, axiom, sorry.
-/
import Derived.Test.YtkmmpagflbnenaaChecked
import GoSem.Claim
import GoSem.ClaimJoined
import GoSem.ClaimMapViews
import Derived.JoinedTies
import Derived.KernelRfl
namespace Go.Proofs.Ytkmmpagflbnenaa
/- THE CELL 'sum', in the pinned program and in every row, IS THE sha256 OF THE DUMP (.gsa) THAT YtkmmpagflbnenaaProg.lean LOADS. Nothing in Lean hashes anything: it is a label: what it is worth is what the hold of that sum in a sandbox is worth. -/
noncomputable def Try.pinned : Pinned := { name := "ytkmmpagflbnenaa", sum := "9473038ae1525d74dc4e18b500dd825e54c3a4d723d558e41d502e87b460dbe3", checked := Try.checked }
namespace Rows
def none {H : Type} : Left H := { results := [], args := [] }

/-- 'sesamelaw10.WalkAll': WHATEVER THE INPUT: true; the input reads as it did. -/
def walkAllSpec : ChangeSpec := { name := "walkAll", fn := fun _ => fun
  | [d1, d2, d3, d4] => { results := [.lit (.bool true)], args := [d1, d2, d3, d4] }
  | _ => none }
def walkAllRow : OpenClaim := { program := "ytkmmpagflbnenaa", sum := "9473038ae1525d74dc4e18b500dd825e54c3a4d723d558e41d502e87b460dbe3", func := "sesame/sesamelaw10.WalkAll", spec := "walkAll", unfollowed := true, recurses := true, apart := false }
def WalkAllSaid : Prop := walkAllRow.holds Try.pinned (OpenSpec.ofChange walkAllSpec)

/-- ITS FALSE NEIGHBOUR: 'it returns false'. Refute it at one input. -/
def walkAllWrong : ChangeSpec := { name := "walkAll", fn := fun _ => fun
  | [d1, d2, d3, d4] => { results := [.lit (.bool false)], args := [d1, d2, d3, d4] }
  | _ => none }
def WalkAllWrongFalsely : Prop := walkAllRow.holds Try.pinned (OpenSpec.ofChange walkAllWrong)

/-- 'sesamelaw10.WalkRelates': WHATEVER THE INPUT: true; the input reads as it did. -/
def walkRelatesSpec : ChangeSpec := { name := "walkRelates", fn := fun _ => fun
  | [d1, d2, d3] => { results := [.lit (.bool true)], args := [d1, d2, d3] }
  | _ => none }
def walkRelatesRow : OpenClaim := { program := "ytkmmpagflbnenaa", sum := "9473038ae1525d74dc4e18b500dd825e54c3a4d723d558e41d502e87b460dbe3", func := "sesame/sesamelaw10.WalkRelates", spec := "walkRelates", unfollowed := true, recurses := true, apart := false }
def WalkRelatesSaid : Prop := walkRelatesRow.holds Try.pinned (OpenSpec.ofChange walkRelatesSpec)

/-- ITS FALSE NEIGHBOUR: 'it returns false'. Refute it at one input. -/
def walkRelatesWrong : ChangeSpec := { name := "walkRelates", fn := fun _ => fun
  | [d1, d2, d3] => { results := [.lit (.bool false)], args := [d1, d2, d3] }
  | _ => none }
def WalkRelatesWrongFalsely : Prop := walkRelatesRow.holds Try.pinned (OpenSpec.ofChange walkRelatesWrong)

/-- 'sesamelaw10.WalkChanges': WHATEVER THE INPUT: true; the input reads as it did. -/
def walkChangesSpec : ChangeSpec := { name := "walkChanges", fn := fun _ => fun
  | [d1, d2, d3, d4] => { results := [.lit (.bool true)], args := [d1, d2, d3, d4] }
  | _ => none }
def walkChangesRow : OpenClaim := { program := "ytkmmpagflbnenaa", sum := "9473038ae1525d74dc4e18b500dd825e54c3a4d723d558e41d502e87b460dbe3", func := "sesame/sesamelaw10.WalkChanges", spec := "walkChanges", unfollowed := true, recurses := true, apart := false }
def WalkChangesSaid : Prop := walkChangesRow.holds Try.pinned (OpenSpec.ofChange walkChangesSpec)

/-- ITS FALSE NEIGHBOUR: 'it returns false'. Refute it at one input. -/
def walkChangesWrong : ChangeSpec := { name := "walkChanges", fn := fun _ => fun
  | [d1, d2, d3, d4] => { results := [.lit (.bool false)], args := [d1, d2, d3, d4] }
  | _ => none }
def WalkChangesWrongFalsely : Prop := walkChangesRow.holds Try.pinned (OpenSpec.ofChange walkChangesWrong)

/-- 'sesamelaw10.WalkKeeps': WHATEVER THE INPUT: true; the input reads as it did. -/
def walkKeepsSpec : ChangeSpec := { name := "walkKeeps", fn := fun _ => fun
  | [d1, d2] => { results := [.lit (.bool true)], args := [d1, d2] }
  | _ => none }
def walkKeepsRow : OpenClaim := { program := "ytkmmpagflbnenaa", sum := "9473038ae1525d74dc4e18b500dd825e54c3a4d723d558e41d502e87b460dbe3", func := "sesame/sesamelaw10.WalkKeeps", spec := "walkKeeps", unfollowed := true, recurses := true, apart := false }
def WalkKeepsSaid : Prop := walkKeepsRow.holds Try.pinned (OpenSpec.ofChange walkKeepsSpec)

/-- ITS FALSE NEIGHBOUR: 'it returns false'. Refute it at one input. -/
def walkKeepsWrong : ChangeSpec := { name := "walkKeeps", fn := fun _ => fun
  | [d1, d2] => { results := [.lit (.bool false)], args := [d1, d2] }
  | _ => none }
def WalkKeepsWrongFalsely : Prop := walkKeepsRow.holds Try.pinned (OpenSpec.ofChange walkKeepsWrong)

/- THE SECOND FORM. 'bulk': how many values and letters a reading holds, each counted each time it is reached (what is shared counts as often as it is met; a slice's spare places count too). A statement '..UptoSaid' is the law's where the arguments, and the package variables that the reading takes, are together of bulk at most 1048576: NARROWER than '..Said'. Prove '..Said' where nothing that the law and all that it calls make is longer than what came in: it says more and counts as full. Else prove '..UptoSaid'. A law counts once. -/
mutual
def uptoBulk {H : Type} : DataW H → Nat
  | .lit (.string bytes) => bytes.length + 1
  | .lit _ => 1
  | .nil => 1
  | .ptr d => uptoBulk d + 1
  | .slice elems spare => uptoBulkAll elems + uptoBulkAll spare + 1
  | .agg parts => uptoBulkAll parts + 1
  | .iface _ d => uptoBulk d + 1
  | .map entries => uptoBulkEntries entries + 1
  | .held _ => 1
def uptoBulkAll {H : Type} : List (DataW H) → Nat
  | [] => 0
  | d :: r => uptoBulk d + uptoBulkAll r
def uptoBulkEntries {H : Type} : List (Lit × DataW H) → Nat
  | [] => 0
  | x :: r => uptoBulkEntry x + uptoBulkEntries r
def uptoBulkEntry {H : Type} : Lit × DataW H → Nat
  | (.string bytes, d) => bytes.length + uptoBulk d + 1
  | (_, d) => uptoBulk d + 1
 end
def uptoSmall : (H : Type) → List (DataW H) → Bool := fun _ ds => decide (uptoBulkAll ds ≤ 1048576)
def OpenSpec.upto (s : _root_.Go.ChangeSpec) : _root_.Go.OpenSpec := { _root_.Go.OpenSpec.ofChange s with cond := some uptoSmall }

/-- 'sesamelaw10.WalkAll', WHERE WHAT IT READS IS OF BULK AT MOST 1048576: true; the input reads as it did. -/
def walkAllUptoRow : OpenClaim := { program := "ytkmmpagflbnenaa", sum := "9473038ae1525d74dc4e18b500dd825e54c3a4d723d558e41d502e87b460dbe3", func := "sesame/sesamelaw10.WalkAll", spec := "walkAll", unfollowed := true, recurses := true, apart := false, narrowed := true }
def WalkAllUptoSaid : Prop := walkAllUptoRow.holds Try.pinned (OpenSpec.upto walkAllSpec)

/-- 'sesamelaw10.WalkRelates', WHERE WHAT IT READS IS OF BULK AT MOST 1048576: true; the input reads as it did. -/
def walkRelatesUptoRow : OpenClaim := { program := "ytkmmpagflbnenaa", sum := "9473038ae1525d74dc4e18b500dd825e54c3a4d723d558e41d502e87b460dbe3", func := "sesame/sesamelaw10.WalkRelates", spec := "walkRelates", unfollowed := true, recurses := true, apart := false, narrowed := true }
def WalkRelatesUptoSaid : Prop := walkRelatesUptoRow.holds Try.pinned (OpenSpec.upto walkRelatesSpec)

/-- 'sesamelaw10.WalkChanges', WHERE WHAT IT READS IS OF BULK AT MOST 1048576: true; the input reads as it did. -/
def walkChangesUptoRow : OpenClaim := { program := "ytkmmpagflbnenaa", sum := "9473038ae1525d74dc4e18b500dd825e54c3a4d723d558e41d502e87b460dbe3", func := "sesame/sesamelaw10.WalkChanges", spec := "walkChanges", unfollowed := true, recurses := true, apart := false, narrowed := true }
def WalkChangesUptoSaid : Prop := walkChangesUptoRow.holds Try.pinned (OpenSpec.upto walkChangesSpec)

/-- 'sesamelaw10.WalkKeeps', WHERE WHAT IT READS IS OF BULK AT MOST 1048576: true; the input reads as it did. -/
def walkKeepsUptoRow : OpenClaim := { program := "ytkmmpagflbnenaa", sum := "9473038ae1525d74dc4e18b500dd825e54c3a4d723d558e41d502e87b460dbe3", func := "sesame/sesamelaw10.WalkKeeps", spec := "walkKeeps", unfollowed := true, recurses := true, apart := false, narrowed := true }
def WalkKeepsUptoSaid : Prop := walkKeepsUptoRow.holds Try.pinned (OpenSpec.upto walkKeepsSpec)

end Rows
end Go.Proofs.Ytkmmpagflbnenaa

/-
  No cell of these rows narrows 'for every input' (looked for: loops, veiled, ifaces, maps, wideKeys, modest, calm, conditions, laid).
  DERIVED. THE GIVEN ROWS OF THIS SEAT. 3 by the template 'for every input the law returns true; each argument reads behind the call as it read before'; 0 by the template 'total and deterministic' (their statements: YtpijhkilkccioaaTotals.lean).
  GIVEN WITH THE SEED: the statements are not yours to turn. If you find one false, say at which input.
  Laid BY PROGRAM, IN A SANDBOX (cutbox-rows.mjs): the forced cells as the released guide's own fill.sh prints them over the translation 2cecd2d5420ffeb8… (all of the seat's roots in one cut). By AI agents, Wed Nov 11 2026. No macro, syntax, notation, axiom, sorry.
-/
import Derived.Test.YtpijhkilkccioaaChecked
import GoSem.Claim
import GoSem.ClaimJoined
import GoSem.ClaimMapViews
import Derived.JoinedTies
import Derived.KernelRfl
namespace Go.Proofs.Ytpijhkilkccioaa
/- THE CELL 'sum', in the pinned program and in every row, IS THE sha256 OF THE DUMP (.gsa) THAT YtpijhkilkccioaaProg.lean LOADS. Nothing in Lean hashes anything: it is a label: what it is worth is what the hold of that sum in a sandbox is worth. -/
noncomputable def Try.pinned : Pinned := { name := "ytpijhkilkccioaa", sum := "2cecd2d5420ffeb8a831c6135dd6e5af2cf32f5f94e95044d1b3783395094f4e", checked := Try.checked }
namespace Rows
def none {H : Type} : Left H := { results := [], args := [] }

/-- 'sesamelaw05.MixHash': WHATEVER THE INPUT: true; the input reads as it did. -/
def mixHashSpec : ChangeSpec := { name := "mixHash", fn := fun _ => fun
  | [d1, d2, d3] => { results := [.lit (.bool true)], args := [d1, d2, d3] }
  | _ => none }
def mixHashRow : OpenClaim := { program := "ytpijhkilkccioaa", sum := "2cecd2d5420ffeb8a831c6135dd6e5af2cf32f5f94e95044d1b3783395094f4e", func := "sesame/sesamelaw05.MixHash", spec := "mixHash", apart := false }
def MixHashSaid : Prop := mixHashRow.holds Try.pinned (OpenSpec.ofChange mixHashSpec)

/-- ITS FALSE NEIGHBOUR: 'it returns false'. Refute it at one input. -/
def mixHashWrong : ChangeSpec := { name := "mixHash", fn := fun _ => fun
  | [d1, d2, d3] => { results := [.lit (.bool false)], args := [d1, d2, d3] }
  | _ => none }
def MixHashWrongFalsely : Prop := mixHashRow.holds Try.pinned (OpenSpec.ofChange mixHashWrong)

/-- 'sesamelaw05.MixCuts': WHATEVER THE INPUT: true; the input reads as it did. -/
def mixCutsSpec : ChangeSpec := { name := "mixCuts", fn := fun _ => fun
  | [d1, d2, d3] => { results := [.lit (.bool true)], args := [d1, d2, d3] }
  | _ => none }
def mixCutsRow : OpenClaim := { program := "ytpijhkilkccioaa", sum := "2cecd2d5420ffeb8a831c6135dd6e5af2cf32f5f94e95044d1b3783395094f4e", func := "sesame/sesamelaw05.MixCuts", spec := "mixCuts", apart := false }
def MixCutsSaid : Prop := mixCutsRow.holds Try.pinned (OpenSpec.ofChange mixCutsSpec)

/-- ITS FALSE NEIGHBOUR: 'it returns false'. Refute it at one input. -/
def mixCutsWrong : ChangeSpec := { name := "mixCuts", fn := fun _ => fun
  | [d1, d2, d3] => { results := [.lit (.bool false)], args := [d1, d2, d3] }
  | _ => none }
def MixCutsWrongFalsely : Prop := mixCutsRow.holds Try.pinned (OpenSpec.ofChange mixCutsWrong)

/-- 'sesamelaw05.MixUnlike': WHATEVER THE INPUT: true; the input reads as it did. -/
def mixUnlikeSpec : ChangeSpec := { name := "mixUnlike", fn := fun _ => fun
  | [d1, d2, d3] => { results := [.lit (.bool true)], args := [d1, d2, d3] }
  | _ => none }
def mixUnlikeRow : OpenClaim := { program := "ytpijhkilkccioaa", sum := "2cecd2d5420ffeb8a831c6135dd6e5af2cf32f5f94e95044d1b3783395094f4e", func := "sesame/sesamelaw05.MixUnlike", spec := "mixUnlike", apart := false }
def MixUnlikeSaid : Prop := mixUnlikeRow.holds Try.pinned (OpenSpec.ofChange mixUnlikeSpec)

/-- ITS FALSE NEIGHBOUR: 'it returns false'. Refute it at one input. -/
def mixUnlikeWrong : ChangeSpec := { name := "mixUnlike", fn := fun _ => fun
  | [d1, d2, d3] => { results := [.lit (.bool false)], args := [d1, d2, d3] }
  | _ => none }
def MixUnlikeWrongFalsely : Prop := mixUnlikeRow.holds Try.pinned (OpenSpec.ofChange mixUnlikeWrong)

/- THE SECOND FORM. 'bulk': how many values and letters a reading holds, each counted each time it is reached (what is shared counts as often as it is met; a slice's spare places count too). A statement '..UptoSaid' is the law's where the arguments, and the package variables that the reading takes, are together of bulk at most 1048576: NARROWER than '..Said'. Prove '..Said' where nothing that the law and all that it calls make is longer than what came in: it says more and counts as full. Else prove '..UptoSaid'. A law counts once. -/
mutual
def uptoBulk {H : Type} : DataW H → Nat
  | .lit (.string bytes) => bytes.length + 1
  | .lit _ => 1
  | .nil => 1
  | .ptr d => uptoBulk d + 1
  | .slice elems spare => uptoBulkAll elems + uptoBulkAll spare + 1
  | .agg parts => uptoBulkAll parts + 1
  | .iface _ d => uptoBulk d + 1
  | .map entries => uptoBulkEntries entries + 1
  | .held _ => 1
def uptoBulkAll {H : Type} : List (DataW H) → Nat
  | [] => 0
  | d :: r => uptoBulk d + uptoBulkAll r
def uptoBulkEntries {H : Type} : List (Lit × DataW H) → Nat
  | [] => 0
  | x :: r => uptoBulkEntry x + uptoBulkEntries r
def uptoBulkEntry {H : Type} : Lit × DataW H → Nat
  | (.string bytes, d) => bytes.length + uptoBulk d + 1
  | (_, d) => uptoBulk d + 1
 end
def uptoSmall : (H : Type) → List (DataW H) → Bool := fun _ ds => decide (uptoBulkAll ds ≤ 1048576)
def OpenSpec.upto (s : _root_.Go.ChangeSpec) : _root_.Go.OpenSpec := { _root_.Go.OpenSpec.ofChange s with cond := some uptoSmall }

/-- 'sesamelaw05.MixHash', WHERE WHAT IT READS IS OF BULK AT MOST 1048576: true; the input reads as it did. -/
def mixHashUptoRow : OpenClaim := { program := "ytpijhkilkccioaa", sum := "2cecd2d5420ffeb8a831c6135dd6e5af2cf32f5f94e95044d1b3783395094f4e", func := "sesame/sesamelaw05.MixHash", spec := "mixHash", apart := false, narrowed := true }
def MixHashUptoSaid : Prop := mixHashUptoRow.holds Try.pinned (OpenSpec.upto mixHashSpec)

/-- 'sesamelaw05.MixCuts', WHERE WHAT IT READS IS OF BULK AT MOST 1048576: true; the input reads as it did. -/
def mixCutsUptoRow : OpenClaim := { program := "ytpijhkilkccioaa", sum := "2cecd2d5420ffeb8a831c6135dd6e5af2cf32f5f94e95044d1b3783395094f4e", func := "sesame/sesamelaw05.MixCuts", spec := "mixCuts", apart := false, narrowed := true }
def MixCutsUptoSaid : Prop := mixCutsUptoRow.holds Try.pinned (OpenSpec.upto mixCutsSpec)

/-- 'sesamelaw05.MixUnlike', WHERE WHAT IT READS IS OF BULK AT MOST 1048576: true; the input reads as it did. -/
def mixUnlikeUptoRow : OpenClaim := { program := "ytpijhkilkccioaa", sum := "2cecd2d5420ffeb8a831c6135dd6e5af2cf32f5f94e95044d1b3783395094f4e", func := "sesame/sesamelaw05.MixUnlike", spec := "mixUnlike", apart := false, narrowed := true }
def MixUnlikeUptoSaid : Prop := mixUnlikeUptoRow.holds Try.pinned (OpenSpec.upto mixUnlikeSpec)

end Rows
end Go.Proofs.Ytpijhkilkccioaa

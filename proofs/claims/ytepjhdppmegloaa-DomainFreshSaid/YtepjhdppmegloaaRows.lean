/-
  No cell of these rows narrows 'for every input' (looked for: loops, veiled, ifaces, maps, wideKeys, modest, calm, conditions, laid).
  DERIVED. THE GIVEN ROWS OF THIS SEAT. 3 by the template 'for every input the law returns true; each argument reads behind the call as it read before'; 0 by the template 'total and deterministic' (their statements: YtepjhdppmegloaaTotals.lean).
  GIVEN WITH THE SEED: the statements are not yours to turn. If you find one false, say at which input.
  Laid BY PROGRAM, IN A SANDBOX (cutbox-rows.mjs): the forced cells as the released guide's own fill.sh prints them over the translation 88b59da90e30af8a… (all of the seat's roots in one cut). By AI agents, Wed Nov 11 2026. No macro, syntax, notation, axiom, sorry.
-/
import Derived.Test.YtepjhdppmegloaaChecked
import GoSem.Claim
import GoSem.ClaimJoined
import GoSem.ClaimMapViews
import Derived.JoinedTies
import Derived.KernelRfl
namespace Go.Proofs.Ytepjhdppmegloaa
/- THE CELL 'sum', in the pinned program and in every row, IS THE sha256 OF THE DUMP (.gsa) THAT YtepjhdppmegloaaProg.lean LOADS. Nothing in Lean hashes anything: it is a label: what it is worth is what the hold of that sum in a sandbox is worth. -/
noncomputable def Try.pinned : Pinned := { name := "ytepjhdppmegloaa", sum := "88b59da90e30af8a26becf84de3ca27400c022e9b3441e2026f1107f04e8a6ca", checked := Try.checked }
namespace Rows
def none {H : Type} : Left H := { results := [], args := [] }

/-- 'sesamelaw17.DomainAll': WHATEVER THE INPUT: true; the input reads as it did. -/
def domainAllSpec : ChangeSpec := { name := "domainAll", fn := fun _ => fun
  | [d1, d2, d3] => { results := [.lit (.bool true)], args := [d1, d2, d3] }
  | _ => none }
def domainAllRow : OpenClaim := { program := "ytepjhdppmegloaa", sum := "88b59da90e30af8a26becf84de3ca27400c022e9b3441e2026f1107f04e8a6ca", func := "sesame/sesamelaw17.DomainAll", spec := "domainAll", apart := false }
def DomainAllSaid : Prop := domainAllRow.holds Try.pinned (OpenSpec.ofChange domainAllSpec)

/-- ITS FALSE NEIGHBOUR: 'it returns false'. Refute it at one input. -/
def domainAllWrong : ChangeSpec := { name := "domainAll", fn := fun _ => fun
  | [d1, d2, d3] => { results := [.lit (.bool false)], args := [d1, d2, d3] }
  | _ => none }
def DomainAllWrongFalsely : Prop := domainAllRow.holds Try.pinned (OpenSpec.ofChange domainAllWrong)

/-- 'sesamelaw17.DomainKeeps': WHATEVER THE INPUT: true; the input reads as it did. -/
def domainKeepsSpec : ChangeSpec := { name := "domainKeeps", fn := fun _ => fun
  | [d1, d2, d3, d4] => { results := [.lit (.bool true)], args := [d1, d2, d3, d4] }
  | _ => none }
def domainKeepsRow : OpenClaim := { program := "ytepjhdppmegloaa", sum := "88b59da90e30af8a26becf84de3ca27400c022e9b3441e2026f1107f04e8a6ca", func := "sesame/sesamelaw17.DomainKeeps", spec := "domainKeeps", apart := false }
def DomainKeepsSaid : Prop := domainKeepsRow.holds Try.pinned (OpenSpec.ofChange domainKeepsSpec)

/-- ITS FALSE NEIGHBOUR: 'it returns false'. Refute it at one input. -/
def domainKeepsWrong : ChangeSpec := { name := "domainKeeps", fn := fun _ => fun
  | [d1, d2, d3, d4] => { results := [.lit (.bool false)], args := [d1, d2, d3, d4] }
  | _ => none }
def DomainKeepsWrongFalsely : Prop := domainKeepsRow.holds Try.pinned (OpenSpec.ofChange domainKeepsWrong)

/-- 'sesamelaw17.DomainFresh': WHATEVER THE INPUT: true; the input reads as it did. -/
def domainFreshSpec : ChangeSpec := { name := "domainFresh", fn := fun _ => fun
  | [d1, d2] => { results := [.lit (.bool true)], args := [d1, d2] }
  | _ => none }
def domainFreshRow : OpenClaim := { program := "ytepjhdppmegloaa", sum := "88b59da90e30af8a26becf84de3ca27400c022e9b3441e2026f1107f04e8a6ca", func := "sesame/sesamelaw17.DomainFresh", spec := "domainFresh", apart := false }
def DomainFreshSaid : Prop := domainFreshRow.holds Try.pinned (OpenSpec.ofChange domainFreshSpec)

/-- ITS FALSE NEIGHBOUR: 'it returns false'. Refute it at one input. -/
def domainFreshWrong : ChangeSpec := { name := "domainFresh", fn := fun _ => fun
  | [d1, d2] => { results := [.lit (.bool false)], args := [d1, d2] }
  | _ => none }
def DomainFreshWrongFalsely : Prop := domainFreshRow.holds Try.pinned (OpenSpec.ofChange domainFreshWrong)

/- THE SECOND FORM. 'bulk': how many values and letters a reading holds, each counted each time it is reached (what is shared counts as often as it is met; a slice's spare places count too). A statement '..UptoSaid' is the law's where the arguments, and the package variables that the reading takes, are together of bulk at most 1048576: NARROWER than '..Said'. Prove '..Said' where nothing that the law and all that it calls make is longer than what came in: it says more and counts as full. Else prove '..UptoSaid'. A law counts once. -/
mutual
def uptoBulk {H : Type} : DataW H → Nat
  | .lit (.string bytes) => bytes.length + 1
  | .lit _ => 1
  | .nil => 1
  | .ptr d => uptoBulk d + 1
  | .slice elems spare => uptoBulkAll elems + uptoBulkAll spare + 1
  | .agg parts => uptoBulkAll parts + 1
  | .iface _ d => uptoBulk d + 1
  | .map entries => uptoBulkEntries entries + 1
  | .held _ => 1
def uptoBulkAll {H : Type} : List (DataW H) → Nat
  | [] => 0
  | d :: r => uptoBulk d + uptoBulkAll r
def uptoBulkEntries {H : Type} : List (Lit × DataW H) → Nat
  | [] => 0
  | x :: r => uptoBulkEntry x + uptoBulkEntries r
def uptoBulkEntry {H : Type} : Lit × DataW H → Nat
  | (.string bytes, d) => bytes.length + uptoBulk d + 1
  | (_, d) => uptoBulk d + 1
 end
def uptoSmall : (H : Type) → List (DataW H) → Bool := fun _ ds => decide (uptoBulkAll ds ≤ 1048576)
def OpenSpec.upto (s : _root_.Go.ChangeSpec) : _root_.Go.OpenSpec := { _root_.Go.OpenSpec.ofChange s with cond := some uptoSmall }

/-- 'sesamelaw17.DomainAll', WHERE WHAT IT READS IS OF BULK AT MOST 1048576: true; the input reads as it did. -/
def domainAllUptoRow : OpenClaim := { program := "ytepjhdppmegloaa", sum := "88b59da90e30af8a26becf84de3ca27400c022e9b3441e2026f1107f04e8a6ca", func := "sesame/sesamelaw17.DomainAll", spec := "domainAll", apart := false, narrowed := true }
def DomainAllUptoSaid : Prop := domainAllUptoRow.holds Try.pinned (OpenSpec.upto domainAllSpec)

/-- 'sesamelaw17.DomainKeeps', WHERE WHAT IT READS IS OF BULK AT MOST 1048576: true; the input reads as it did. -/
def domainKeepsUptoRow : OpenClaim := { program := "ytepjhdppmegloaa", sum := "88b59da90e30af8a26becf84de3ca27400c022e9b3441e2026f1107f04e8a6ca", func := "sesame/sesamelaw17.DomainKeeps", spec := "domainKeeps", apart := false, narrowed := true }
def DomainKeepsUptoSaid : Prop := domainKeepsUptoRow.holds Try.pinned (OpenSpec.upto domainKeepsSpec)

/-- 'sesamelaw17.DomainFresh', WHERE WHAT IT READS IS OF BULK AT MOST 1048576: true; the input reads as it did. -/
def domainFreshUptoRow : OpenClaim := { program := "ytepjhdppmegloaa", sum := "88b59da90e30af8a26becf84de3ca27400c022e9b3441e2026f1107f04e8a6ca", func := "sesame/sesamelaw17.DomainFresh", spec := "domainFresh", apart := false, narrowed := true }
def DomainFreshUptoSaid : Prop := domainFreshUptoRow.holds Try.pinned (OpenSpec.upto domainFreshSpec)

end Rows
end Go.Proofs.Ytepjhdppmegloaa

/-
  No cell of these rows narrows 'for every input' (looked for: loops, veiled, ifaces, maps, wideKeys, modest, calm, conditions, laid).
  DERIVED. THE GIVEN ROWS OF THIS SEAT. 6 by the template 'for every input the law returns true; each argument reads behind the call as it read before'; 0 by the template 'total and deterministic' (their statements: YtfpkdbogapmhmaaTotals.lean).
  GIVEN WITH THE SEED: the statements are not yours to turn. If you find one false, say at which input.
  Laid BY PROGRAM, IN A SANDBOX (cutbox-rows.mjs): the forced cells as the released guide's own fill.sh prints them over the translation ac989bdba94e09d3… (all of the seat's roots in one cut). By AI agents, Wed Nov 11 2026. No macro, syntax, notation, axiom, sorry.
-/
import Derived.Test.YtfpkdbogapmhmaaChecked
import GoSem.Claim
import GoSem.ClaimJoined
import GoSem.ClaimMapViews
import Derived.JoinedTies
import Derived.KernelRfl
namespace Go.Proofs.Ytfpkdbogapmhmaa
/- THE CELL 'sum', in the pinned program and in every row, IS THE sha256 OF THE DUMP (.gsa) THAT YtfpkdbogapmhmaaProg.lean LOADS. Nothing in Lean hashes anything: it is a label: what it is worth is what the hold of that sum in a sandbox is worth. -/
noncomputable def Try.pinned : Pinned := { name := "ytfpkdbogapmhmaa", sum := "ac989bdba94e09d3c99c8740ae168181834e9789c9aa4aa9ecfc1002fb28119a", checked := Try.checked }
namespace Rows
def none {H : Type} : Left H := { results := [], args := [] }

/-- 'sesamelaw20.RecordCalls': WHATEVER THE INPUT: true; the input reads as it did. -/
def recordCallsSpec : ChangeSpec := { name := "recordCalls", fn := fun _ => fun
  | [d] => { results := [.lit (.bool true)], args := [d] }
  | _ => none }
def recordCallsRow : OpenClaim := { program := "ytfpkdbogapmhmaa", sum := "ac989bdba94e09d3c99c8740ae168181834e9789c9aa4aa9ecfc1002fb28119a", func := "sesame/sesamelaw20.RecordCalls", spec := "recordCalls", unfollowed := true, recurses := true, apart := false }
def RecordCallsSaid : Prop := recordCallsRow.holds Try.pinned (OpenSpec.ofChange recordCallsSpec)

/-- ITS FALSE NEIGHBOUR: 'it returns false'. Refute it at one input. -/
def recordCallsWrong : ChangeSpec := { name := "recordCalls", fn := fun _ => fun
  | [d] => { results := [.lit (.bool false)], args := [d] }
  | _ => none }
def RecordCallsWrongFalsely : Prop := recordCallsRow.holds Try.pinned (OpenSpec.ofChange recordCallsWrong)

/-- 'sesamelaw20.RecordParses': WHATEVER THE INPUT: true; the input reads as it did. -/
def recordParsesSpec : ChangeSpec := { name := "recordParses", fn := fun _ => fun
  | [d] => { results := [.lit (.bool true)], args := [d] }
  | _ => none }
def recordParsesRow : OpenClaim := { program := "ytfpkdbogapmhmaa", sum := "ac989bdba94e09d3c99c8740ae168181834e9789c9aa4aa9ecfc1002fb28119a", func := "sesame/sesamelaw20.RecordParses", spec := "recordParses", unfollowed := true, recurses := true, apart := false }
def RecordParsesSaid : Prop := recordParsesRow.holds Try.pinned (OpenSpec.ofChange recordParsesSpec)

/-- ITS FALSE NEIGHBOUR: 'it returns false'. Refute it at one input. -/
def recordParsesWrong : ChangeSpec := { name := "recordParses", fn := fun _ => fun
  | [d] => { results := [.lit (.bool false)], args := [d] }
  | _ => none }
def RecordParsesWrongFalsely : Prop := recordParsesRow.holds Try.pinned (OpenSpec.ofChange recordParsesWrong)

/-- 'sesamelaw20.RecordAnswers': WHATEVER THE INPUT: true; the input reads as it did. -/
def recordAnswersSpec : ChangeSpec := { name := "recordAnswers", fn := fun _ => fun
  | [d1, d2, d3] => { results := [.lit (.bool true)], args := [d1, d2, d3] }
  | _ => none }
def recordAnswersRow : OpenClaim := { program := "ytfpkdbogapmhmaa", sum := "ac989bdba94e09d3c99c8740ae168181834e9789c9aa4aa9ecfc1002fb28119a", func := "sesame/sesamelaw20.RecordAnswers", spec := "recordAnswers", unfollowed := true, recurses := true, apart := false }
def RecordAnswersSaid : Prop := recordAnswersRow.holds Try.pinned (OpenSpec.ofChange recordAnswersSpec)

/-- ITS FALSE NEIGHBOUR: 'it returns false'. Refute it at one input. -/
def recordAnswersWrong : ChangeSpec := { name := "recordAnswers", fn := fun _ => fun
  | [d1, d2, d3] => { results := [.lit (.bool false)], args := [d1, d2, d3] }
  | _ => none }
def RecordAnswersWrongFalsely : Prop := recordAnswersRow.holds Try.pinned (OpenSpec.ofChange recordAnswersWrong)

/-- 'sesamelaw20.RecordBack': WHATEVER THE INPUT: true; the input reads as it did. -/
def recordBackSpec : ChangeSpec := { name := "recordBack", fn := fun _ => fun
  | [d1, d2, d3] => { results := [.lit (.bool true)], args := [d1, d2, d3] }
  | _ => none }
def recordBackRow : OpenClaim := { program := "ytfpkdbogapmhmaa", sum := "ac989bdba94e09d3c99c8740ae168181834e9789c9aa4aa9ecfc1002fb28119a", func := "sesame/sesamelaw20.RecordBack", spec := "recordBack", unfollowed := true, recurses := true, apart := false }
def RecordBackSaid : Prop := recordBackRow.holds Try.pinned (OpenSpec.ofChange recordBackSpec)

/-- ITS FALSE NEIGHBOUR: 'it returns false'. Refute it at one input. -/
def recordBackWrong : ChangeSpec := { name := "recordBack", fn := fun _ => fun
  | [d1, d2, d3] => { results := [.lit (.bool false)], args := [d1, d2, d3] }
  | _ => none }
def RecordBackWrongFalsely : Prop := recordBackRow.holds Try.pinned (OpenSpec.ofChange recordBackWrong)

/-- 'sesamelaw20.RecordReplies': WHATEVER THE INPUT: true; the input reads as it did. -/
def recordRepliesSpec : ChangeSpec := { name := "recordReplies", fn := fun _ => fun
  | [d1, d2, d3] => { results := [.lit (.bool true)], args := [d1, d2, d3] }
  | _ => none }
def recordRepliesRow : OpenClaim := { program := "ytfpkdbogapmhmaa", sum := "ac989bdba94e09d3c99c8740ae168181834e9789c9aa4aa9ecfc1002fb28119a", func := "sesame/sesamelaw20.RecordReplies", spec := "recordReplies", unfollowed := true, recurses := true, apart := false }
def RecordRepliesSaid : Prop := recordRepliesRow.holds Try.pinned (OpenSpec.ofChange recordRepliesSpec)

/-- ITS FALSE NEIGHBOUR: 'it returns false'. Refute it at one input. -/
def recordRepliesWrong : ChangeSpec := { name := "recordReplies", fn := fun _ => fun
  | [d1, d2, d3] => { results := [.lit (.bool false)], args := [d1, d2, d3] }
  | _ => none }
def RecordRepliesWrongFalsely : Prop := recordRepliesRow.holds Try.pinned (OpenSpec.ofChange recordRepliesWrong)

/-- 'sesamelaw20.RecordFresh': WHATEVER THE INPUT: true; the input reads as it did. -/
def recordFreshSpec : ChangeSpec := { name := "recordFresh", fn := fun _ => fun
  | [d1, d2] => { results := [.lit (.bool true)], args := [d1, d2] }
  | _ => none }
def recordFreshRow : OpenClaim := { program := "ytfpkdbogapmhmaa", sum := "ac989bdba94e09d3c99c8740ae168181834e9789c9aa4aa9ecfc1002fb28119a", func := "sesame/sesamelaw20.RecordFresh", spec := "recordFresh", unfollowed := true, recurses := true, apart := false }
def RecordFreshSaid : Prop := recordFreshRow.holds Try.pinned (OpenSpec.ofChange recordFreshSpec)

/-- ITS FALSE NEIGHBOUR: 'it returns false'. Refute it at one input. -/
def recordFreshWrong : ChangeSpec := { name := "recordFresh", fn := fun _ => fun
  | [d1, d2] => { results := [.lit (.bool false)], args := [d1, d2] }
  | _ => none }
def RecordFreshWrongFalsely : Prop := recordFreshRow.holds Try.pinned (OpenSpec.ofChange recordFreshWrong)

/- THE SECOND FORM. 'bulk': how many values and letters a reading holds, each counted each time it is reached (what is shared counts as often as it is met; a slice's spare places count too). A statement '..UptoSaid' is the law's where the arguments, and the package variables that the reading takes, are together of bulk at most 1048576: NARROWER than '..Said'. Prove '..Said' where nothing that the law and all that it calls make is longer than what came in: it says more and counts as full. Else prove '..UptoSaid'. A law counts once. -/
mutual
def uptoBulk {H : Type} : DataW H → Nat
  | .lit (.string bytes) => bytes.length + 1
  | .lit _ => 1
  | .nil => 1
  | .ptr d => uptoBulk d + 1
  | .slice elems spare => uptoBulkAll elems + uptoBulkAll spare + 1
  | .agg parts => uptoBulkAll parts + 1
  | .iface _ d => uptoBulk d + 1
  | .map entries => uptoBulkEntries entries + 1
  | .held _ => 1
def uptoBulkAll {H : Type} : List (DataW H) → Nat
  | [] => 0
  | d :: r => uptoBulk d + uptoBulkAll r
def uptoBulkEntries {H : Type} : List (Lit × DataW H) → Nat
  | [] => 0
  | x :: r => uptoBulkEntry x + uptoBulkEntries r
def uptoBulkEntry {H : Type} : Lit × DataW H → Nat
  | (.string bytes, d) => bytes.length + uptoBulk d + 1
  | (_, d) => uptoBulk d + 1
 end
def uptoSmall : (H : Type) → List (DataW H) → Bool := fun _ ds => decide (uptoBulkAll ds ≤ 1048576)
def OpenSpec.upto (s : _root_.Go.ChangeSpec) : _root_.Go.OpenSpec := { _root_.Go.OpenSpec.ofChange s with cond := some uptoSmall }

/-- 'sesamelaw20.RecordCalls', WHERE WHAT IT READS IS OF BULK AT MOST 1048576: true; the input reads as it did. -/
def recordCallsUptoRow : OpenClaim := { program := "ytfpkdbogapmhmaa", sum := "ac989bdba94e09d3c99c8740ae168181834e9789c9aa4aa9ecfc1002fb28119a", func := "sesame/sesamelaw20.RecordCalls", spec := "recordCalls", unfollowed := true, recurses := true, apart := false, narrowed := true }
def RecordCallsUptoSaid : Prop := recordCallsUptoRow.holds Try.pinned (OpenSpec.upto recordCallsSpec)

/-- 'sesamelaw20.RecordParses', WHERE WHAT IT READS IS OF BULK AT MOST 1048576: true; the input reads as it did. -/
def recordParsesUptoRow : OpenClaim := { program := "ytfpkdbogapmhmaa", sum := "ac989bdba94e09d3c99c8740ae168181834e9789c9aa4aa9ecfc1002fb28119a", func := "sesame/sesamelaw20.RecordParses", spec := "recordParses", unfollowed := true, recurses := true, apart := false, narrowed := true }
def RecordParsesUptoSaid : Prop := recordParsesUptoRow.holds Try.pinned (OpenSpec.upto recordParsesSpec)

/-- 'sesamelaw20.RecordAnswers', WHERE WHAT IT READS IS OF BULK AT MOST 1048576: true; the input reads as it did. -/
def recordAnswersUptoRow : OpenClaim := { program := "ytfpkdbogapmhmaa", sum := "ac989bdba94e09d3c99c8740ae168181834e9789c9aa4aa9ecfc1002fb28119a", func := "sesame/sesamelaw20.RecordAnswers", spec := "recordAnswers", unfollowed := true, recurses := true, apart := false, narrowed := true }
def RecordAnswersUptoSaid : Prop := recordAnswersUptoRow.holds Try.pinned (OpenSpec.upto recordAnswersSpec)

/-- 'sesamelaw20.RecordBack', WHERE WHAT IT READS IS OF BULK AT MOST 1048576: true; the input reads as it did. -/
def recordBackUptoRow : OpenClaim := { program := "ytfpkdbogapmhmaa", sum := "ac989bdba94e09d3c99c8740ae168181834e9789c9aa4aa9ecfc1002fb28119a", func := "sesame/sesamelaw20.RecordBack", spec := "recordBack", unfollowed := true, recurses := true, apart := false, narrowed := true }
def RecordBackUptoSaid : Prop := recordBackUptoRow.holds Try.pinned (OpenSpec.upto recordBackSpec)

/-- 'sesamelaw20.RecordReplies', WHERE WHAT IT READS IS OF BULK AT MOST 1048576: true; the input reads as it did. -/
def recordRepliesUptoRow : OpenClaim := { program := "ytfpkdbogapmhmaa", sum := "ac989bdba94e09d3c99c8740ae168181834e9789c9aa4aa9ecfc1002fb28119a", func := "sesame/sesamelaw20.RecordReplies", spec := "recordReplies", unfollowed := true, recurses := true, apart := false, narrowed := true }
def RecordRepliesUptoSaid : Prop := recordRepliesUptoRow.holds Try.pinned (OpenSpec.upto recordRepliesSpec)

/-- 'sesamelaw20.RecordFresh', WHERE WHAT IT READS IS OF BULK AT MOST 1048576: true; the input reads as it did. -/
def recordFreshUptoRow : OpenClaim := { program := "ytfpkdbogapmhmaa", sum := "ac989bdba94e09d3c99c8740ae168181834e9789c9aa4aa9ecfc1002fb28119a", func := "sesame/sesamelaw20.RecordFresh", spec := "recordFresh", unfollowed := true, recurses := true, apart := false, narrowed := true }
def RecordFreshUptoSaid : Prop := recordFreshUptoRow.holds Try.pinned (OpenSpec.upto recordFreshSpec)

end Rows
end Go.Proofs.Ytfpkdbogapmhmaa

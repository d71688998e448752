/- Every call of two readers in turn is answered as the document answers it, and so is what is left and whether that is the end; there is no condition beyond the given statement's own. -/
import Derived.Test.YtolfmchgcelnmaaRows
import Derived.Test.YtolfmchgcelnmaaOcts2
import Derived.WalkKit
import Derived.ProofKit
import Derived.OpenShut
import Derived.ShutString
import Derived.ChangeOld
import Derived.Below
import Derived.SizedLaws
import Derived.Lib.SmallJoins
import Derived.Carry
namespace Go.Proofs.Ytolfmchgcelnmaa.octetReads
open Go.ChangeShapes Go.WideShapes Go.ChangeAt Go.RowKit
open Go.ChangeMaps (open_string shut_string)
set_option linter.unusedVariables false
theorem own : ownKnob Try.prog.godebug = none := by kernel_rfl
theorem laidOut : laidOutB Try.prog = true := by kernel_rfl
set_option maxRecDepth 100000 in
theorem lifted (os : Os) (started : os.Started) (H : Type) (enc : TypeId × Value → H) :
    ReturnsInHanded {} Try.checked os 5 .any (Rows.octetReadsSpec.pre6 enc Try.prog Try.f5 Rows.octetReadsRow.domain false) (Rows.octetReadsSpec.post enc Try.prog Try.f5 false true false false) := by
  refine returnsInHanded_of_change_sized (C := Try.checked) own started (by kernel_rfl) Try.func5
    (ChangeSpec.witness6 (enc := enc) (C := Try.checked) false ⟨#[], #[.slice none 0 0, .slice none 0 0, .slice none 0 0], []⟩ 8 (by kernel_rfl) (by kernel_rfl) (by kernel_rfl) (by kernel_rfl)) ?_
  intro W base args ds gs before hval0 hW hcnd hsz0 _
  have hsz : (DataW.weightsEach Try.prog (Try.f5.params.toList ++ Rows.octetReadsSpec.plain.varTypes Try.prog) (ds ++ gs)).all (· ≤ reachBytes) = true := hsz0
  have hval : ∀ (j : Nat) t v, Try.f5.params[j]? = some t → args[j]? = some v → Value.okWide Try.prog W .any base t v := hval0
  have hW' := hW
  obtain ⟨p, q, hA0, hV, rfl, hfz, hnd⟩ := hW
  have hA : DataW.TrodAll enc Try.prog W 0 (fun _ => true) true Try.f5.params.toList args.toList ds p := hA0
  rw [Try.params5] at hA hval hsz
  obtain ⟨v0, vs0, d0, ds0, p0, q0, hargs, rfl, rfl, h0, r0⟩ := trodAll_cons hA
  obtain ⟨v1, vs1, d1, ds1, p1, q1, rfl, rfl, rfl, h1, r1⟩ := trodAll_cons r0
  obtain ⟨v2, vs2, d2, ds2, p2, q2, rfl, rfl, rfl, h2, r2⟩ := trodAll_cons r1
  obtain ⟨rfl, rfl, rfl⟩ := trodAll_nil r2
  obtain rfl : args = #[v0, v1, v2] := by cases args; simp_all
  obtain ⟨rfl, rfl⟩ := trodVars_none hV
  have k0 := h0
  have lt0 : ∀ x ∈ p0, x.block < W.heap.size := by obtain ⟨m, hm⟩ := k0; exact DataW.trod_lt m _ _ _ hm
  obtain ⟨fu0, hfu0⟩ := h0
  obtain ⟨av0, len0, cap0, rfl⟩ := okWide_slice Try.underlying22 (hval 0 22 v0 rfl rfl)
  obtain ⟨vv0, zs0, e0, rd0, wf0, ld0⟩ := Open.trod_ints Try.underlying22 Try.underlying5 O.cells5 hfu0
  obtain rfl : vv0 = .slice av0 len0 cap0 := by have := e0; simp [Value.cells] at this; exact this.symm
  have lg0 := O.few hsz (j := 0) (t := 22) rfl rfl Try.underlying22 O.bytes5 ld0
  have fw0 : O.Few zs0 := ⟨O.bytes_of wf0, by omega⟩
  have k1 := h1
  have lt1 : ∀ x ∈ p1, x.block < W.heap.size := by obtain ⟨m, hm⟩ := k1; exact DataW.trod_lt m _ _ _ hm
  obtain ⟨fu1, hfu1⟩ := h1
  obtain ⟨av1, len1, cap1, rfl⟩ := okWide_slice Try.underlying22 (hval 1 22 v1 rfl rfl)
  obtain ⟨vv1, zs1, e1, rd1, wf1, ld1⟩ := Open.trod_ints Try.underlying22 Try.underlying5 O.cells5 hfu1
  obtain rfl : vv1 = .slice av1 len1 cap1 := by have := e1; simp [Value.cells] at this; exact this.symm
  have lg1 := O.few hsz (j := 1) (t := 22) rfl rfl Try.underlying22 O.bytes5 ld1
  have fw1 : O.Few zs1 := ⟨O.bytes_of wf1, by omega⟩
  have k2 := h2
  have lt2 : ∀ x ∈ p2, x.block < W.heap.size := by obtain ⟨m, hm⟩ := k2; exact DataW.trod_lt m _ _ _ hm
  obtain ⟨fu2, hfu2⟩ := h2
  obtain ⟨av2, len2, cap2, rfl⟩ := okWide_slice Try.underlying61 (hval 2 61 v2 rfl rfl)
  obtain ⟨vv2, cs2, e2, ⟨Aa2, ca2, ea2, la2, lb2, lm2, lc2⟩, ld2⟩ := O.trod_ops hfu2
  have lg2 := O.few hsz (j := 2) (t := 61) rfl rfl Try.underlying61 O.bytes67 ld2
  obtain rfl : vv2 = .slice av2 len2 cap2 := by have := e2; simp [Value.cells] at this; exact this.symm
  have rd2 : O.ReadsOps W (.slice av2 len2 cap2) cs2 := ⟨Aa2, ca2, ea2, la2, lb2, by omega, lm2, lc2⟩
  clear hA0 hval0 hsz0 hsz
  refine (O.law_reads W _ _ _ zs0 zs1 cs2 fw0 fw1 rd0 rd1 rd2).mono fun e W' ⟨he, bel⟩ => ?_
  subst he
  exact ⟨_, rfl, _, _, _, [], _, [], hW', trodAll_mk1 (shut_bool Try.underlying4 _), (trodAll_cons_mk (Below.trod laidOut (by kernel_rfl) (of_decide_eq_true (by kernel_rfl)) k0 bel lt0) (trodAll_cons_mk (Below.trod laidOut (by kernel_rfl) (of_decide_eq_true (by kernel_rfl)) k1 bel lt1) (trodAll_cons_mk (Below.trod laidOut (by kernel_rfl) (of_decide_eq_true (by kernel_rfl)) k2 bel lt2) trodAll_mk0))), rfl, bel.frame _, fun h => by cases h⟩
theorem over : Rows.octetReadsRow.holds Try.pinned (OpenSpec.ofChange Rows.octetReadsSpec) :=
  OpenClaim.holds_of_wide 5 Try.f5 rfl rfl rfl rfl rfl rfl rfl ⟨rfl, rfl, rfl, rfl, rfl⟩ rfl rfl rfl rfl rfl (by kernel_rfl) Try.func5 (by kernel_rfl)
    (of_decide_eq_true (by kernel_rfl)) (by unfold Func.isWrapper; first | (rw [if_pos (by decide +kernel)]; kernel_rfl) | (rw [if_neg (by decide +kernel)]; exact ⟨rfl, rfl⟩))
    (fun os started H enc _ => lifted os started H enc)
theorem proved : Rows.OctetReadsSaid := over
#print axioms proved
end Go.Proofs.Ytolfmchgcelnmaa.octetReads
namespace Go.Proofs.Ytolfmchgcelnmaa
/-- The row, under a short name, for the claim. -/
theorem octetReads_holds : Rows.OctetReadsSaid := octetReads.proved
end Go.Proofs.Ytolfmchgcelnmaa

/- Each list that Put (each width), PutWord, PutCap, Join and Row give is new memory: asked twice, written over with a mark of its own and lengthened, all stay so; what is handed in stays, and, turned by its owner, is answered as it is then; where what is read is of bulk at most 1048576; there is no condition beyond the given statement's own. -/
import Derived.Test.YtolfmchgcelnmaaRows
import Derived.Test.YtolfmchgcelnmaaBulk
import Derived.JoinedCond
import Derived.Test.YtolfmchgcelnmaaOcts
import Derived.Test.YtolfmchgcelnmaaOfC
import Derived.WalkKit
import Derived.ProofKit
import Derived.OpenShut
import Derived.ShutString
import Derived.ChangeOld
import Derived.Below
import Derived.SizedLaws
import Derived.Lib.SmallJoins
import Derived.Carry
namespace Go.Proofs.Ytolfmchgcelnmaa.octetFresh
open Go.ChangeShapes Go.WideShapes Go.ChangeAt Go.RowKit
open Go.ChangeMaps (open_string shut_string)
set_option linter.unusedVariables false
theorem own : ownKnob Try.prog.godebug = none := by kernel_rfl
theorem laidOut : laidOutB Try.prog = true := by kernel_rfl
set_option maxRecDepth 100000 in
theorem lifted (os : Os) (started : os.Started) (H : Type) (enc : TypeId × Value → H) (F : Stop.Interp) :
    ReturnsInHanded {} Try.checked os 4 .any ((Rows.OpenSpec.upto Rows.octetFreshSpec).pre6 enc Try.prog Try.f4 Rows.octetFreshUptoRow.domain false) (((Rows.OpenSpec.upto Rows.octetFreshSpec).at F).post enc Try.prog Try.f4 false true false false) := by
  refine returnsInHanded_of_cond (C := Try.checked) (s := Rows.OpenSpec.upto Rows.octetFreshSpec) (k := Rows.uptoSmall) rfl own started (by kernel_rfl) Try.func4
    (OpenSpec.witness (enc := enc) (C := Try.checked) (s := Rows.OpenSpec.upto Rows.octetFreshSpec) (k := Rows.uptoSmall) rfl false ⟨#[], #[.slice none 0 0, .int .u64 0, .agg #[.int .i64 0, .int .u64 0, .int .u64 0]], []⟩ 8 (by kernel_rfl) (by kernel_rfl) (by kernel_rfl)
      (x := ([.nil, .lit (.int .u64 0), .agg [.lit (.int .i64 0), .agg [.lit (.int .u64 0), .lit (.int .u64 0)]]], [], [])) (by kernel_rfl) rfl (by kernel_rfl)) ?_
  intro W base args ds gs before hval0 hW hcnd hk _
  have hb := bulks.bound hk
  have hval : ∀ (j : Nat) t v, Try.f4.params[j]? = some t → args[j]? = some v → Value.okWide Try.prog W .any base t v := hval0
  have hW' := hW
  obtain ⟨p, q, hA0, hV, rfl, hfz, hnd⟩ := hW
  have hA : DataW.TrodAll enc Try.prog W 0 (fun _ => true) true Try.f4.params.toList args.toList ds p := hA0
  rw [Try.params4] at hA hval
  obtain ⟨v0, vs0, d0, ds0, p0, q0, hargs, rfl, rfl, h0, r0⟩ := trodAll_cons hA
  obtain ⟨v1, vs1, d1, ds1, p1, q1, rfl, rfl, rfl, h1, r1⟩ := trodAll_cons r0
  obtain ⟨v2, vs2, d2, ds2, p2, q2, rfl, rfl, rfl, h2, r2⟩ := trodAll_cons r1
  obtain ⟨rfl, rfl, rfl⟩ := trodAll_nil r2
  obtain rfl : args = #[v0, v1, v2] := by cases args; simp_all
  obtain ⟨rfl, rfl⟩ := trodVars_none hV
  have k0 := h0
  have lt0 : ∀ x ∈ p0, x.block < W.heap.size := by obtain ⟨m, hm⟩ := k0; exact DataW.trod_lt m _ _ _ hm
  obtain ⟨fu0, hfu0⟩ := h0
  obtain ⟨av0, len0, cap0, rfl⟩ := okWide_slice Try.underlying22 (hval 0 22 v0 rfl rfl)
  obtain ⟨vv0, zs0, e0, rd0, wf0, ld0⟩ := Open.trod_ints Try.underlying22 Try.underlying5 O.cells5 hfu0
  obtain rfl : vv0 = .slice av0 len0 cap0 := by have := e0; simp [Value.cells] at this; exact this.symm
  have lb0 : zs0.length ≤ 1048576 := by have := O.few_of ld0; simp only [List.append_nil, Rows.uptoBulkAll] at hb; have : zs0.length ≤ Rows.uptoBulk d0 := this; omega
  obtain ⟨a1, rfl, rfl, rfl, w1⟩ := open_int Try.underlying23 (hval 1 23 v1 rfl rfl) h1
  have k2 := h2
  have lt2 : ∀ x ∈ p2, x.block < W.heap.size := by obtain ⟨m, hm⟩ := k2; exact DataW.trod_lt m _ _ _ hm
  obtain ⟨ob2, hi2, lo2, rfl, wo2, wh2, wl2⟩ := O.open_cap (hval 2 27 v2 rfl rfl) h2
  clear hA0 hval0
  refine (O.law_fresh W _ zs0 a1 ob2 hi2 lo2 ⟨(bounds_u64 w1).1, by have := (bounds_u64 w1).2; omega⟩ wh2 wl2 (O.bytes_of wf0) lb0 rd0).mono fun e W' ⟨he, bel⟩ => ?_
  subst he
  exact ⟨_, rfl, _, _, _, [], _, [], hW', trodAll_mk1 (shut_bool Try.underlying4 _), (trodAll_cons_mk (Below.trod laidOut (by kernel_rfl) (of_decide_eq_true (by kernel_rfl)) k0 bel lt0) (trodAll_cons_mk (shut_int Try.underlying23 w1) (trodAll_cons_mk (Below.trod laidOut (by kernel_rfl) (of_decide_eq_true (by kernel_rfl)) k2 bel lt2) trodAll_mk0))), rfl, bel.frame _, fun h => by cases h⟩
theorem over : Rows.octetFreshUptoRow.holds Try.pinned (Rows.OpenSpec.upto Rows.octetFreshSpec) :=
  OpenClaim.holds_of_cond 4 Try.f4 rfl rfl rfl rfl rfl rfl rfl ⟨rfl, rfl, rfl, rfl, rfl⟩ rfl rfl rfl rfl rfl (by kernel_rfl) Try.func4 (by kernel_rfl)
    (of_decide_eq_true (by kernel_rfl)) (by unfold Func.isWrapper; first | (rw [if_pos (by decide +kernel)]; kernel_rfl) | (rw [if_neg (by decide +kernel)]; exact ⟨rfl, rfl⟩))
    (fun os started H enc _ F => lifted os started H enc F)
theorem proved : Rows.OctetFreshUptoSaid := over
#print axioms proved
end Go.Proofs.Ytolfmchgcelnmaa.octetFresh
namespace Go.Proofs.Ytolfmchgcelnmaa
/-- The row, under a short name, for the claim. -/
theorem octetFreshUpto_holds : Rows.OctetFreshUptoSaid := octetFresh.proved
end Go.Proofs.Ytolfmchgcelnmaa

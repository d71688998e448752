/- among. Own text; Ytkmmpagflbnenaa and the numbers between @..@ are the seat's. -/
import Derived.Test.YtkmmpagflbnenaaWaS
import Derived.Test.YtkmmpagflbnenaaWrel
namespace Go.Proofs.Ytkmmpagflbnenaa.Kin
open Go.RowKit Go.Proofs.Ytkmmpagflbnenaa.Mem
set_option linter.unusedVariables false
set_option maxHeartbeats 1000000
theorem among_any (w : World) (v : Value) (zs : List Int) (x : Int) (h : ReadsInts w v zs) : Calls Try.prog 18 #[v, .int .i64 x] w fun e w' => e = .returned (.bool (decide (x ∈ zs))) ∧ w = w' := by
  obtain ⟨A, c, rfl, hl, hc⟩ := h
  unfold maxLen at hl
  have HC := Lib.hid hc
  clear hc
  go_enter Try.func18, Try.ntmps18
  go_wp2
  go_loopw [5] (fun v5 wr => ∃ i : Nat, i ≤ zs.length ∧ v5 = .int .i64 i ∧ w = wr ∧ Hid (x ∉ zs.take i)) (fun v5 _ => zs.length - (intOf v5).toNat)
  case atStart => exact ⟨0, Nat.zero_le _, rfl, rfl, Lib.hid (by simp)⟩
  case round =>
    obtain ⟨i, hi, rfl, rfl, HX⟩ := hrel
    by_cases hlt : i < zs.length
    · obtain ⟨g, o, rfl, hcell⟩ := HC.out (by omega)
      obtain ⟨y, hy⟩ : ∃ y, zs[i]? = some y := ⟨_, List.getElem?_eq_getElem hlt⟩
      have c1 := hcell i y hy
      have HY := Lib.hid hy
      have hlt' : (i : Int) < zs.length := by omega
      clear hcell hy
      by_cases hxy : y = x
      · have hm : Hid (x ∈ zs) := hxy ▸ List.mem_of_getElem? HY.out
        go_wp2
        go_ret
        exact ⟨congrArg (fun b => Ending.returned (.bool b)) (decide_eq_true hm.out).symm, rfl⟩
      · go_wp2
        refine ⟨⟨i + 1, by omega, by simp, trivial, ?_⟩, by simp [intOf]; omega⟩
        show x ∉ zs.take (i + 1)
        rw [List.take_add_one, HY.out, List.mem_append]
        rintro (e | e)
        · exact HX.out e
        · exact hxy (by simpa using (show x ∈ [y] from e) : x = y).symm
    · have : i = zs.length := by omega
      subst this
      have hm : Hid (x ∉ zs) := by have := HX.out; rwa [List.take_length] at this
      go_wp2
      go_ret
      exact ⟨congrArg (fun b => Ending.returned (.bool b)) (decide_eq_false hm.out).symm, rfl⟩
end Go.Proofs.Ytkmmpagflbnenaa.Kin

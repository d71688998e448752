/- ProcsScripts: what is refused; what the rows' parameters lay open. Own text; Ytpkgiemigbjfeaa and the numbers between @..@ are the seat's. -/
import Derived.Test.YtpkgiemigbjfeaaPrJ
import Derived.Test.YtpkgiemigbjfeaaOpens
import Derived.OpenShut
import Derived.SizedLaws
namespace Go.Proofs.Ytpkgiemigbjfeaa.Kin
open Go.RowKit Go.Proofs.Ytpkgiemigbjfeaa.Mem Go.WideShapes Go.ChangeShapes Go.Proofs.Ytpkgiemigbjfeaa.Open
set_option linter.unusedVariables false
set_option maxHeartbeats 4000000 in
theorem law_scripts (w : World) (n : Int) (vs : Value) (os : List (Int × Int)) (hs : ReadsOps w vs os) :
    Calls Try.prog 3 #[.int .i64 n, vs] w fun e w' => e = .returned (.bool true) ∧ Below w.heap.size w w' := by
  by_cases hr : 1 ≤ n ∧ n ≤ 32
  · obtain ⟨m, rfl⟩ : ∃ m : Nat, n = m := ⟨n.toNat, by omega⟩
    exact law_in w m (by omega) (by omega) vs os hs
  · have HX := Lib.hid (new_out w n (by omega))
    have HY := Lib.hid (rnew_out w n (by omega))
    have HA := Lib.hid (alive_any w)
    clear hr hs
    go_enter Try.func3, Try.ntmps3
    go_wp2_with fail
    (with_reducible refine HX.out.mono ?_)
    rintro e w1 ⟨rfl, rfl⟩
    go_wp2_with fail
    (with_reducible refine HY.out.mono ?_)
    rintro e w1 ⟨rfl, rfl⟩
    go_wp2_with (first | (go_at_call 8; (refine (num_any _ _).mono ?_); rintro e w9 ⟨rfl, rfl⟩) | fail)
    (with_reducible refine HA.out.mono ?_)
    rintro e w2 ⟨rfl, b2⟩
    have B2 := Lib.hid b2
    clear b2
    go_wp2_with fail
    go_ret
    exact ⟨rfl, B2.out⟩
variable {H : Type} {enc : TypeId × Value → H} {w : World} {base : Nat} {sp : Nat → Bool} {held : Bool}
theorem cells_int : Try.prog.cellsOf 3 = 1 := by kernel_rfl
theorem cells_op : Try.prog.cellsOf 33 = 2 := by kernel_rfl
theorem trod_op {fuel : Nat} {l : List Value} {y : DataW H × List MemPlace} (hl : l.length = 2) (h : DataW.trod enc Try.prog w base sp held fuel 33 l = some y) : ∃ x, l = opL x := by
  obtain ⟨a, b, rfl⟩ : ∃ a b, l = [a, b] := by
    match l, hl with
    | [a, b], _ => exact ⟨a, b, rfl⟩
  obtain ⟨m0, z0, h0⟩ := fieldAt Try.underlying33 h 0 3 0 1 rfl cells_int
  obtain ⟨m1, z1, h1⟩ := fieldAt Try.underlying33 h 1 3 1 1 rfl cells_int
  obtain ⟨n, e, _⟩ := one_int Try.underlying3 h0
  obtain ⟨n2, e2, _⟩ := one_int Try.underlying3 h1
  simp at e e2
  exact ⟨(n, n2), by simp [opL, e, e2]⟩
theorem trod_ops {fuel : Nat} {l : List Value} {y : DataW H × List MemPlace} (h : DataW.trod enc Try.prog w base sp held fuel 22 l = some y) : ∃ u os, l = [u] ∧ ReadsOps w u os := by
  obtain ⟨v, els, rfl, h1, h2, h3⟩ := open_rows Try.underlying22 cells_op (by decide) h
  obtain ⟨os, rfl, _⟩ := known_each (f := opL) (Q := fun _ => True) els (fun l hl => by
    obtain ⟨hlen, m, y, hy⟩ := h2 l hl
    obtain ⟨x, e⟩ := trod_op hlen hy
    exact ⟨x, e, trivial⟩)
  obtain ⟨A, c, rfl, h4, h5, h6⟩ := h1
  rw [List.length_map] at h6 h4
  refine ⟨_, os, rfl, ⟨A, c, by rw [List.length_map], h4, h5, fun hp => ?_⟩⟩
  obtain ⟨g, o, rfl, h7⟩ := h6 hp
  exact ⟨g, o, rfl, fun i x hx j u hu => h7 i (opL x) (by rw [List.getElem?_map, hx]; rfl) j u hu⟩
end Go.Proofs.Ytpkgiemigbjfeaa.Kin

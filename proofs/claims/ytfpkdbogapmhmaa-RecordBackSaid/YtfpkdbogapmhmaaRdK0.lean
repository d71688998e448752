/- Record: a call that has a form comes back from its bytes: what the cases share (written by gen_rdk.py). -/
import Derived.Test.YtfpkdbogapmhmaaRdJ
import Derived.Test.YtfpkdbogapmhmaaRdS
import Derived.Test.YtfpkdbogapmhmaaRdQ
namespace Go.Proofs.Ytfpkdbogapmhmaa.O
open Go.RowKit Go.Proofs.Ytfpkdbogapmhmaa.Mem
set_option linter.unusedVariables false
set_option linter.unusedSimpArgs false
theorem made_rowC {W : World} {g : Nat} (h : W.heap[g]? = some (.cells #[] 5)) : W.ownsRow 0 5 1 (.slice (some ⟨g, 0, none⟩) 0 0) 0 [] := ⟨rfl, .inr ⟨g, 0, #[], rfl, Nat.zero_le _, h, Nat.le_refl _, Nat.zero_le _, rfl, rfl⟩⟩
theorem made_one {W : World} {g : Nat} {x : Value} (h : W.heap[g]? = some (.cells #[x] 5)) : W.ownsRow 0 5 1 (.slice (some ⟨g, 0, none⟩) 1 1) 1 [x] := ⟨rfl, .inr ⟨g, 1, #[x], rfl, Nat.zero_le _, h, Nat.le_refl _, by unfold maxLen; omega, rfl, rfl⟩⟩
/-- What stays through the law: the call's box, its bytes, what the call holds. -/
structure BS (w : World) (b7 : Nat) (ROW : Array Value) (v2 : Value) (bb : List Int) (D G : Value) (da gi : List Int) (W : World) : Prop where
  below : Below w.heap.size w W
  row : W.heap[b7]? = some (.cells ROW 30)
  ob : OB W v2 bb
  rd : RB W D da
  ri : IB W G gi
theorem BS.on {w W W' : World} {b7 : Nat} {ROW : Array Value} {v2 D G : Value} {bb da gi : List Int} (h : BS w b7 ROW v2 bb D G da gi W) (hb : Below W.heap.size W W') : BS w b7 ROW v2 bb D G da gi W' :=
  ⟨h.below.trans (hb.mono h.below.size), row_on hb h.row, h.ob.below hb, h.rd.below hb, h.ri.below hb⟩
theorem OB.ownsK {w w' : World} {v : Value} {zs : List Int} (h : OB w v zs) (hb : Below w.heap.size w w') : w'.ownsRow 0 5 1 v zs.length (zs.map byteC) := own_keeps h (Kept.of_below hb)
theorem app_rK {w0 w w9 : World} {v v9 : Value} {zs ys : List Int} {n : Nat} (hn : ys.length = n) (hb : Below w0.heap.size w0 w) (hf : Fresh w0 v) (h : w9.ownsRow 0 5 1 v9 (zs.length + n) (zs.map byteC ++ ys.map byteC)) (hw : Went w w9 v v9 zs.length n) : OB w9 v9 (zs ++ ys) ∧ Below w0.heap.size w0 w9 ∧ Fresh w0 v9 := by
  subst hn
  exact ⟨by unfold OB; rw [List.length_append, List.map_append]; exact h, hb.trans (hw.kept.below (fun b hb => hf b hb) hb.size), fresh_went hf hb.size hw⟩
theorem enc_max {c : Cl} (hf : form c) : 3 ≤ (enc c).length ∧ (enc c).length ≤ 1057 := by
  refine ⟨len3 c, ?_⟩
  have h1 : c.da.length ≤ 1025 := hf.2.1.2.2.2.2
  have h2 : c.gi.length ≤ 255 := hf.2.1.2.2.2.1
  rw [enc_len]
  repeat' split
  all_goals omega
theorem enc_0 {c : Cl} (hf : form c) : (enc c)[0]? = some c.op ∧ (enc c)[1]? = some (c.by' % 256) ∧ (enc c)[2]? = some (c.by' / 256 % 256) := by
  have ho := (form_op hf).1
  have e : enc c = c.op % 256 :: c.by' % 256 :: c.by' / 256 % 256 :: bodyB c := rfl
  rw [e]
  refine ⟨?_, rfl, rfl⟩
  show some (c.op % 256) = some c.op
  rw [Int.emod_eq_of_lt (by omega) (by omega)]
theorem not_form {c : Cl} (h : restC c ≠ zc) : encE c = 1 ∧ encO c = [] := ⟨if_neg (fun hf => h hf.2.2.2.2), if_neg (fun hf => h hf.2.2.2.2)⟩
theorem spoilt_ix {c : Cl} (h : c.op ≠ 8) : restC { c with ix := 1 } ≠ zc := by
  intro e
  have h2 := congrArg Cl.ix e
  unfold restC zc at h2
  simp only at h2
  repeat' split at h2
  all_goals first | (exfalso; exact h (by assumption)) | (simp at h2; done)
theorem spoilt_rt {c : Cl} (h : c.op = 8) : restC { c with rt := 1 } ≠ zc := by
  intro e
  have h2 := congrArg Cl.rt e
  unfold restC zc at h2
  simp [h] at h2
set_option maxHeartbeats 4000000 in
theorem conv_take {W : World} {A : Option Addr} {nd c j : Nat} {da : List Int} (h : RB W (.slice A nd c) da) (hj : j ≤ nd) : RB W (.slice A j c) (da.take j) := by
  obtain ⟨A', c', e, h1, h2, h3⟩ := h
  cases e
  exact RB.take (k := j) (c := c) ⟨A, c, rfl, h1, h2, h3⟩ hj rfl
end Go.Proofs.Ytfpkdbogapmhmaa.O

/- Record: a call's bytes, cut or lengthened; a call that has a form, out of any numbers: plain law (written by gen_rdi.py). -/
import Derived.Test.YtfpkdbogapmhmaaRdP
namespace Go.Proofs.Ytfpkdbogapmhmaa.O
open Go.RowKit Go.Proofs.Ytfpkdbogapmhmaa.Mem
set_option linter.unusedVariables false
set_option linter.unusedSimpArgs false
theorem giB_len : ∀ l : List Int, (giB l).length = 2 * l.length
  | [] => rfl
  | g :: l => by
    show (le 2 g ++ giB l).length = _
    rw [List.length_append, le_len, giB_len l, List.length_cons]
    omega
theorem enc_len (c : Cl) : (enc c).length = 3 + (if c.op = 1 then 4 else if c.op = 2 ∨ c.op = 4 ∨ c.op = 7 then 24 else if c.op = 3 then 25 else if c.op = 5 then 33 else if c.op = 6 then 29 + c.da.length else if c.op = 8 then 2 else if c.op = 9 then 1 + 2 * c.gi.length else 0) := by
  unfold enc bodyB
  rw [List.length_append, List.length_append, le_len, le_len]
  split
  · rw [le_len]
  · split
    · simp [capB, wordB, le_len]
    · split
      · simp [capB, wordB, le_len]
      · split
        · rw [List.length_append, mvB_len, le_len]
        · split
          · rw [List.length_append, mvB_len]
          · split
            · rw [le_len]
            · split
              · rw [List.length_append, le_len, giB_len]
              · rfl
theorem len3 (c : Cl) : 3 ≤ (enc c).length := by rw [enc_len]; omega
theorem same_len {c d : Cl} (h : c.op = d.op) (h6 : c.op ≠ 6) (h9 : c.op = 9 → c.gi.length = d.gi.length) : (enc c).length = (enc d).length := by
  rw [enc_len, enc_len, ← h]
  rw [if_neg h6, if_neg h6]
  by_cases q : c.op = 9
  · rw [h9 q]
  · rw [if_neg q, if_neg q]
theorem gv_left : ∀ (n a : Nat) (xs ys : List Int), a + n ≤ xs.length → gv (xs ++ ys) a n = gv xs a n
  | 0, _, _, _, _ => rfl
  | n + 1, a, xs, ys, h => by
    show (xs ++ ys).getD a 0 + 256 * gv (xs ++ ys) (a + 1) n = xs.getD a 0 + 256 * gv xs (a + 1) n
    rw [gv_left n (a + 1) xs ys (by omega), List.getD_eq_getElem?_getD, List.getD_eq_getElem?_getD, List.getElem?_append_left (by omega)]
theorem gv_take {l : List Int} {k a n : Nat} (hk : k ≤ l.length) (h : a + n ≤ k) : gv (l.take k) a n = gv l a n := by
  have := gv_left n a (l.take k) (l.drop k) (by rw [List.length_take]; omega)
  rw [List.take_append_drop] at this
  exact this.symm
theorem form_op {c : Cl} (hf : form c) : (1 ≤ c.op ∧ c.op ≤ 10) ∧ (0 ≤ c.by' ∧ c.by' ≤ 65535) := ⟨hf.1.1, hf.1.2.1⟩
theorem gv_op {c : Cl} (hf : form c) : gv (enc c) 0 1 = c.op ∧ gv (enc c) 1 2 = c.by' ∧ (c.op = 9 → gv (enc c) 3 1 = c.gi.length) := by
  have ho := form_op hf
  obtain ⟨g0, g1, g2, g3⟩ := gv_head c ⟨by omega, ho.1.2⟩ ho.2
  refine ⟨g0, g1, fun h => ?_⟩
  rw [g2 3 1 (by omega)]
  unfold bodyB
  have hl : c.gi.length ≤ 255 := hf.2.1.2.2.2.1
  rw [if_neg (by omega), if_neg (by omega), if_neg (by omega), if_neg (by omega), if_neg (by omega), if_neg (by omega), if_pos h]
  exact gv_le _ 1 _ (by omega) (by omega)
/-- Two calls' bytes that begin alike are as long as one another, but a write's. -/
theorem alike_len {c d : Cl} (hc : form c) (hd : form d) (h0 : gv (enc c) 0 1 = gv (enc d) 0 1) (h3 : c.op = 9 → gv (enc c) 3 1 = gv (enc d) 3 1) (h6 : d.op ≠ 6) : c.op = d.op ∧ (enc c).length = (enc d).length := by
  have e : c.op = d.op := by rw [← (gv_op hc).1, ← (gv_op hd).1, h0]
  refine ⟨e, same_len e (e ▸ h6) (fun h => ?_)⟩
  have q1 := (gv_op hc).2.2 h
  have q2 := (gv_op hd).2.2 (e ▸ h)
  have := h3 h
  omega
theorem enc6 {c : Cl} (h : c.op = 6) (d : List Int) : enc { c with da := d } = le 1 c.op ++ le 2 c.by' ++ (mvB c ++ d) := by
  unfold enc bodyB mvB
  simp [h]
theorem form6 {c : Cl} (hf : form c) (h : c.op = 6) (d : List Int) (hd : d.length ≤ 1025) : form { c with da := d } := by
  obtain ⟨h1, h2, h3, h4, h5⟩ := hf
  refine ⟨h1, ⟨h2.1, h2.2.1, h2.2.2.1, h2.2.2.2.1, hd⟩, h3, h4, ?_⟩
  unfold restC at h5 ⊢
  simp only [h] at h5 ⊢
  simpa using h5
theorem parse_read {zs : List Int} {c : Cl} (hp : parseC zs = some c) : form c ∧ enc c = zs := parse_of zs c hp
theorem cutC {c : Cl} (hf : form c) (hh : U64 c.hi) (hl : U64 c.lo) (k : Nat) (hk : k < (enc c).length) :
    parseC ((enc c).take k) = if c.op = 6 ∧ 32 ≤ k then some { c with da := c.da.take (k - 32) } else none := by
  split
  · rename_i h
    have e : enc { c with da := c.da.take (k - 32) } = (enc c).take k := by
      have e1 := enc6 h.1 c.da
      have e2 : enc c = le 1 c.op ++ le 2 c.by' ++ (mvB c ++ c.da) := e1
      rw [enc6 h.1, e2, ← List.append_assoc, ← List.append_assoc]
      have h32 : (le 1 c.op ++ le 2 c.by' ++ mvB c).length = 32 := by simp [le_len, mvB_len]
      rw [List.take_append, h32, show (le 1 c.op ++ le 2 c.by' ++ mvB c).take k = le 1 c.op ++ le 2 c.by' ++ mvB c from List.take_of_length_le (by rw [h32]; exact h.2)]
    have hlen : c.da.length ≤ 1025 := hf.2.1.2.2.2.2
    exact parse_iff _ _ hh hl (form6 hf h.1 _ (by rw [List.length_take]; omega)) e
  · rename_i h
    cases hp : parseC ((enc c).take k) with
    | none => rfl
    | some d =>
      exfalso
      obtain ⟨hd, he⟩ := parse_of _ _ hp
      have hlk : (enc d).length = k := by rw [he, List.length_take]; omega
      have h3 := len3 d
      have g0 : gv (enc d) 0 1 = gv (enc c) 0 1 := by rw [he, gv_take (by omega) (by omega)]
      by_cases h6 : c.op = 6
      · have e : d.op = c.op := by rw [← (gv_op hd).1, ← (gv_op hf).1, g0]
        have hq := enc_len d
        simp only [e, h6] at hq
        simp at hq
        exact h ⟨h6, by omega⟩
      · have hal := alike_len hd hf g0 (fun q => by
          have hq := enc_len d
          simp only [q] at hq
          simp at hq
          rw [he, gv_take (by omega) (by omega)]) h6
        omega
theorem moreC {c : Cl} (hf : form c) (hh : U64 c.hi) (hl : U64 c.lo) (z : Int) :
    parseC (enc c ++ [z]) = if c.op = 6 ∧ c.da.length ≤ 1024 then some { c with da := c.da ++ [z] } else none := by
  split
  · rename_i h
    have e : enc { c with da := c.da ++ [z] } = enc c ++ [z] := by
      have e2 : enc c = le 1 c.op ++ le 2 c.by' ++ (mvB c ++ c.da) := enc6 h.1 c.da
      rw [enc6 h.1, e2, List.append_assoc, List.append_assoc, List.append_assoc, List.append_assoc]
    exact parse_iff _ _ hh hl (form6 hf h.1 _ (by rw [List.length_append]; simp; omega)) e
  · rename_i h
    cases hp : parseC (enc c ++ [z]) with
    | none => rfl
    | some d =>
      exfalso
      obtain ⟨hd, he⟩ := parse_of _ _ hp
      have hlk : (enc d).length = (enc c).length + 1 := by rw [he, List.length_append]; rfl
      have h3 := len3 c
      have g0 : gv (enc d) 0 1 = gv (enc c) 0 1 := by rw [he, gv_left 1 0 _ _ (by omega)]
      by_cases h6 : c.op = 6
      · have e : d.op = c.op := by rw [← (gv_op hd).1, ← (gv_op hf).1, g0]
        have hq := enc_len d
        have hq2 := enc_len c
        simp only [e, h6] at hq hq2
        simp at hq hq2
        have hlen : d.da.length ≤ 1025 := hd.2.1.2.2.2.2
        exact h ⟨h6, by omega⟩
      · have hal := alike_len hd hf g0 (fun q => by
          have e : d.op = c.op := by rw [← (gv_op hd).1, ← (gv_op hf).1, g0]
          have hq := enc_len c
          simp only [← e, q] at hq
          simp at hq
          rw [he, gv_left 1 3 _ _ (by omega)]) h6
        omega
theorem firstC {z : Int} {l : List Int} (hz : 11 ≤ z) : parseC (z :: l) = none := by
  cases hp : parseC (z :: l) with
  | none => rfl
  | some d =>
    exfalso
    obtain ⟨hd, he⟩ := parse_of _ _ hp
    have h1 := (gv_op hd).1
    rw [he] at h1
    have h2 : gv (z :: l) 0 1 = z := by show z + 256 * 0 = z; omega
    have := (form_op hd).1.2
    omega
/-- A call that has a form, out of any numbers (its word not yet taken away). -/
def preC (c : Cl) : Cl :=
  let o := 1 + c.op % 10
  let b := c.by' % 65536
  let x := c.obj % 4611686018427387904
  if o = 1 then { zc with op := o, by' := b, sz := c.sz % 4294967296 - 2147483648 }
  else if o = 2 ∨ o = 4 ∨ o = 7 then { zc with op := o, by' := b, obj := x, hi := c.hi, lo := c.lo }
  else if o = 3 then { zc with op := o, by' := b, obj := x, hi := c.hi, lo := c.lo, rt := c.rt % 256 }
  else if o = 5 then { zc with op := o, by' := b, obj := x, hi := c.hi, lo := c.lo, gv := c.gv, off := c.off % 4294967296 - 2147483648, n := c.n % 4294967296 - 2147483648 }
  else if o = 6 then { zc with op := o, by' := b, obj := x, hi := c.hi, lo := c.lo, gv := c.gv, off := c.off % 4294967296 - 2147483648, da := c.da.take 1025 }
  else if o = 8 then { zc with op := o, by' := b, ix := c.ix % 65536 }
  else if o = 9 then { zc with op := o, by' := b, gi := (c.gi.take 255).map fun g => g % 65536 }
  else { zc with op := o, by' := b }
def formC (c : Cl) : Cl := if ((preC c).op = 5 ∨ (preC c).op = 6) ∧ (preC c).gv = false then { preC c with hi := 0, lo := 0 } else preC c
theorem formC_form (c : Cl) : form (formC c) := by
  have ho : 0 ≤ c.op % 10 ∧ c.op % 10 < 10 := by omega
  have hb : 0 ≤ c.by' % 65536 ∧ c.by' % 65536 ≤ 65535 := by omega
  have hx : 0 ≤ c.obj % 4611686018427387904 ∧ c.obj % 4611686018427387904 ≤ 4611686018427387904 := by omega
  have hs : ∀ v : Int, -2147483648 ≤ v % 4294967296 - 2147483648 ∧ v % 4294967296 - 2147483648 ≤ 2147483647 := fun v => by omega
  have hr : 0 ≤ c.rt % 256 ∧ c.rt % 256 ≤ 255 := by omega
  have hi : 0 ≤ c.ix % 65536 ∧ c.ix % 65536 ≤ 65535 := by omega
  have hd : (c.da.take 1025).length ≤ 1025 := by rw [List.length_take]; omega
  have hg : ((c.gi.take 255).map fun g => g % 65536).length ≤ 255 := by rw [List.length_map, List.length_take]; omega
  have hw : ∀ x ∈ (c.gi.take 255).map fun g => g % 65536, 0 ≤ x ∧ x ≤ 65535 := fun x hx => by
    obtain ⟨y, _, rfl⟩ := List.mem_map.1 hx
    omega
  obtain ⟨o, hoe⟩ : ∃ o, c.op % 10 = o := ⟨_, rfl⟩
  have h10 : o = 0 ∨ o = 1 ∨ o = 2 ∨ o = 3 ∨ o = 4 ∨ o = 5 ∨ o = 6 ∨ o = 7 ∨ o = 8 ∨ o = 9 := by omega
  unfold formC preC
  simp only [hoe]
  have bn : ∀ x ∈ ([] : List Int), 0 ≤ x ∧ x ≤ 65535 := fun x hx => by cases hx
  rcases h10 with rfl | rfl | rfl | rfl | rfl | rfl | rfl | rfl | rfl | rfl <;> simp only [show (1 : Int) + 0 = 1 from rfl, show (1 : Int) + 1 = 2 from rfl, show (1 : Int) + 2 = 3 from rfl, show (1 : Int) + 3 = 4 from rfl, show (1 : Int) + 4 = 5 from rfl, show (1 : Int) + 5 = 6 from rfl, show (1 : Int) + 6 = 7 from rfl, show (1 : Int) + 7 = 8 from rfl, show (1 : Int) + 8 = 9 from rfl, show (1 : Int) + 9 = 10 from rfl]
  all_goals (cases hgv : c.gv)
  all_goals (simp [form, wide1, wide2, wide3, nopass, restC, zc, hb, hx, hs, hr, hi])
  all_goals (first | done | omega | exact ⟨by omega, fun g q => hw g (by rw [List.map_take]; exact q)⟩)
theorem formC_facts {c : Cl} (hh : U64 c.hi) (hl : U64 c.lo) (hB : Bytes c.da) : U64 (formC c).hi ∧ U64 (formC c).lo ∧ Bytes (formC c).da := by
  have z64 : U64 0 := by unfold U64; omega
  have bn : Bytes [] := fun z hz => by cases hz
  have bt : Bytes (c.da.take 1025) := fun z hz => hB z (List.mem_of_mem_take hz)
  have hp : U64 (preC c).hi ∧ U64 (preC c).lo ∧ Bytes (preC c).da := by
    unfold preC
    simp only
    split
    · exact ⟨z64, z64, bn⟩
    · split
      · exact ⟨hh, hl, bn⟩
      · split
        · exact ⟨hh, hl, bn⟩
        · split
          · exact ⟨hh, hl, bn⟩
          · split
            · exact ⟨hh, hl, bt⟩
            · split
              · exact ⟨z64, z64, bn⟩
              · split <;> exact ⟨z64, z64, bn⟩
  unfold formC
  split
  · exact ⟨z64, z64, hp.2.2⟩
  · exact hp
end Go.Proofs.Ytfpkdbogapmhmaa.O

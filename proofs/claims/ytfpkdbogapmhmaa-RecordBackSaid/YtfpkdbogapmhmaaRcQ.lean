/- The record's plain law: replies. -/
import Derived.Test.YtfpkdbogapmhmaaRcP
namespace Go.Proofs.Ytfpkdbogapmhmaa.O
open Go.RowKit
set_option linter.unusedVariables false
structure Rp where
  code : Int
  obj : Int
  hi : Int
  lo : Int
  da : List Int
  nu : Int
deriving DecidableEq
def zr : Rp := ⟨0, 0, 0, 0, [], 0⟩
def untR (op : Int) (r : Rp) : Rp :=
  if r.code ≠ 0 then r
  else if op = 1 ∨ op = 3 then { r with obj := 0, hi := 0, lo := 0 }
  else if op = 5 then { r with da := [] }
  else if op = 9 then { r with nu := 0 }
  else r
def toldA (op : Int) (r : Rp) : Prop := (0 ≤ op ∧ op ≤ 10) ∧ (0 ≤ r.code ∧ r.code ≤ 65535) ∧ ¬ (op = 0 ∧ r.code = 0)
def toldB (op : Int) (r : Rp) : Prop := ((untR op r).obj = 0 ∧ (untR op r).hi = 0 ∧ (untR op r).lo = 0) ∧ (untR op r).da.length = 0 ∧ (untR op r).nu = 0
def toldC (r : Rp) : Prop := (0 ≤ r.obj ∧ r.obj ≤ 4611686018427387904) ∧ (0 ≤ r.nu ∧ r.nu ≤ 65535) ∧ r.da.length ≤ 1024
instance (op : Int) (r : Rp) : Decidable (toldA op r) := by unfold toldA; infer_instance
instance (op : Int) (r : Rp) : Decidable (toldB op r) := by unfold toldB; infer_instance
instance (r : Rp) : Decidable (toldC r) := by unfold toldC; infer_instance
def toldR (op : Int) (r : Rp) : Prop := toldA op r ∧ toldB op r ∧ toldC r
instance (op : Int) (r : Rp) : Decidable (toldR op r) := by unfold toldR; infer_instance
def encR (op : Int) (r : Rp) : List Int := le 2 r.code ++ (if r.code ≠ 0 then [] else if op = 1 ∨ op = 3 then capB r.obj r.hi r.lo else if op = 5 then r.da else if op = 9 then le 2 r.nu else [])
def readR (op : Int) (l : List Int) : Option Rp := (num 2 l).bind fun x =>
  if x.1 ≠ 0 then some { zr with code := x.1 }
  else if op = 1 ∨ op = 3 then (capR x.2).map fun y => { zr with code := x.1, obj := y.1.1, hi := y.1.2.1, lo := y.1.2.2 }
  else if op = 5 then some { zr with code := x.1, da := x.2 }
  else if op = 9 then (num 2 x.2).map fun y => { zr with code := x.1, nu := y.1 }
  else some { zr with code := x.1 }
def parseR (op : Int) (l : List Int) : Option Rp := match readR op l with
  | some r => if toldR op r ∧ encR op r = l then some r else none
  | none => none
theorem read_encR (op : Int) (r : Rp) (hf : toldR op r) (h : U64 r.hi) (l : U64 r.lo) : readR op (encR op r) = some r := by
  obtain ⟨⟨ho, hc, hn⟩, ⟨hu, hd, hm⟩, hob, hnu, hdl⟩ := hf
  obtain ⟨code, obj, hi, lo, da, nu⟩ := r
  simp only at *
  unfold readR encR
  simp only
  rw [num_le 2 code _ hc.1 (by omega) (by omega)]
  simp only [Option.bind_some]
  unfold untR at hu hd hm
  by_cases h0 : code = 0
  · subst h0
    simp only [ne_eq, not_true_eq_false, if_false, zr] at *
    by_cases h1 : op = 1 ∨ op = 3
    · rw [if_pos h1] at hd hm
      simp at hd hm
      subst hd hm
      rw [if_pos h1, if_pos h1]
      have := cap_le obj hi lo [] hob.1 hob.2 h l
      rw [List.append_nil] at this
      rw [this]; rfl
    · rw [if_neg h1] at hu hd hm
      rw [if_neg h1, if_neg h1]
      by_cases h5 : op = 5
      · rw [if_pos h5] at hu hm
        simp at hu hm
        obtain ⟨rfl, rfl, rfl⟩ := hu
        subst hm
        rw [if_pos h5, if_pos h5]
      · rw [if_neg h5] at hu hd hm
        rw [if_neg h5, if_neg h5]
        by_cases h9 : op = 9
        · rw [if_pos h9] at hu hd
          simp at hu hd
          obtain ⟨rfl, rfl, rfl⟩ := hu
          subst hd
          rw [if_pos h9, if_pos h9]
          have := num_le 2 nu [] hnu.1 (by omega) (by omega)
          rw [List.append_nil] at this
          rw [this]; rfl
        · rw [if_neg h9] at hu hd hm
          rw [if_neg h9]
          simp at hu hd hm
          obtain ⟨rfl, rfl, rfl⟩ := hu
          subst hd hm
          rfl
  · rw [if_pos h0] at hu hd hm ⊢
    simp at hu hd hm
    obtain ⟨rfl, rfl, rfl⟩ := hu
    subst hd hm
    rfl
theorem parse_iff (l : List Int) (c : Cl) (h : U64 c.hi) (k : U64 c.lo) (hf : form c) (he : enc c = l) : parseC l = some c := by
  unfold parseC
  rw [← he, read_enc c hf h k]
  simp [hf]
theorem parse_of (l : List Int) (c : Cl) (h : parseC l = some c) : form c ∧ enc c = l := by
  unfold parseC at h
  split at h
  · split at h
    · rename_i h1; obtain rfl := Option.some.inj h; exact h1
    · cases h
  · cases h
theorem parseR_iff (op : Int) (l : List Int) (r : Rp) (h : U64 r.hi) (k : U64 r.lo) (hf : toldR op r) (he : encR op r = l) : parseR op l = some r := by
  unfold parseR
  rw [← he, read_encR op r hf h k]
  simp [hf]
theorem parseR_of (op : Int) (l : List Int) (r : Rp) (h : parseR op l = some r) : toldR op r ∧ encR op r = l := by
  unfold parseR at h
  split at h
  · split at h
    · rename_i h1; obtain rfl := Option.some.inj h; exact h1
    · cases h
  · cases h
end Go.Proofs.Ytfpkdbogapmhmaa.O

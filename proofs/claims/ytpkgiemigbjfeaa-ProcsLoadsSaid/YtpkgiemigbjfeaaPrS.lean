/- Processes' numbers: what the calls make of them. Own text; Ytpkgiemigbjfeaa stands for the seat's name. -/
import Derived.Test.YtpkgiemigbjfeaaPrA
namespace Go.Proofs.Ytpkgiemigbjfeaa.Kin
set_option linter.unusedVariables false
structure PInv (most : Nat) (next : Int) (l : List Int) : Prop where
  srt : Srt l
  lo : ∀ x ∈ l, 0 ≤ x ∧ x < next
  n0 : 0 ≤ next
  n1 : next ≤ 65536
  m1 : 1 ≤ most
  m2 : most ≤ 32
  len : l.length ≤ most
/-- May none be spawned? -/
def fullB (most : Nat) (next : Int) (l : List Int) : Bool := decide (most ≤ l.length ∨ 65535 < next)
def spN (most : Nat) (next : Int) (l : List Int) : Int := if fullB most next l = true then 0 else next
def spE (most : Nat) (next : Int) (l : List Int) : Int := if fullB most next l = true then 13 else 0
def spX (most : Nat) (next : Int) (l : List Int) : Int := if fullB most next l = true then next else next + 1
def spL (most : Nat) (next : Int) (l : List Int) : List Int := if fullB most next l = true then l else l ++ [next]
def isB (l : List Int) (n : Int) : Bool := decide (n ∈ l)
def exE (l : List Int) (n : Int) : Int := if isB l n = true then 0 else 20
def badB (l : List Int) (n : Int) : Bool := decide (n < 0 ∨ 65536 < n ∨ ∃ x ∈ l, n ≤ x)
def seE (l : List Int) (n : Int) : Int := if badB l n = true then 5 else 0
def seX (next : Int) (l : List Int) (n : Int) : Int := if badB l n = true then next else n
theorem del_not {l : List Int} {n : Int} (h : isB l n = false) : del l n = l := by
  unfold del
  refine List.filter_eq_self.2 (fun x hx => ?_)
  simp
  rintro rfl
  simp [isB, hx] at h
theorem del_len {l : List Int} (hs : Srt l) {n : Int} (h : isB l n = true) : (del l n).length + 1 = l.length := by
  have hm : n ∈ l := by simpa [isB] using h
  obtain ⟨A, B, e, _, hA, hB⟩ := hs.split hm
  rw [e, del_split hA hB]
  simp; omega
section
variable {most : Nat} {next : Int} {l : List Int}
theorem PInv.spawn (h : PInv most next l) : PInv most (spX most next l) (spL most next l) := by
  unfold spX spL
  by_cases hf : fullB most next l = true
  · rw [if_pos hf, if_pos hf]; exact h
  · rw [if_neg hf, if_neg hf]
    have hf' : ¬ (most ≤ l.length ∨ 65535 < next) := by simpa [fullB] using hf
    refine ⟨h.srt.snoc (fun x hx => (h.lo x hx).2), fun x hx => ?_, by have := h.n0; omega, by omega, h.m1, h.m2, by rw [List.length_append]; simp; omega⟩
    rcases List.mem_append.1 hx with e | e
    · have := h.lo x e; omega
    · obtain rfl := List.mem_singleton.1 e
      have := h.n0; omega
theorem PInv.exit (h : PInv most next l) (n : Int) : PInv most next (del l n) :=
  ⟨h.srt.del n, fun x hx => h.lo x (mem_del.1 hx).1, h.n0, h.n1, h.m1, h.m2, Nat.le_trans (List.length_filter_le _ _) h.len⟩
theorem PInv.set (h : PInv most next l) (n : Int) : PInv most (seX next l n) l := by
  unfold seX
  by_cases hb : badB l n = true
  · rw [if_pos hb]; exact h
  · rw [if_neg hb]
    have hb' : ¬ (n < 0 ∨ 65536 < n ∨ ∃ x ∈ l, n ≤ x) := by simpa [badB] using hb
    refine ⟨h.srt, fun x hx => ⟨(h.lo x hx).1, ?_⟩, by omega, by omega, h.m1, h.m2, h.len⟩
    rcases Int.lt_or_le x n with e | e
    · exact e
    · exact absurd (.inr (.inr ⟨x, hx, e⟩)) hb'
theorem pinv_new {m : Nat} (h1 : 1 ≤ m) (h2 : m ≤ 32) : PInv m 1 [0] :=
  ⟨by simp [Srt], fun x hx => by obtain rfl := List.mem_singleton.1 hx; omega, by omega, by omega, h1, h2, by simpa using h1⟩
/-- The last one is the greatest. -/
theorem Srt.last (hs : Srt l) {k : Nat} {x : Int} (hl : l.length = k + 1) (hx : l[k]? = some x) : ∀ y ∈ l, y ≤ x := fun y hy => by
  obtain ⟨j, hj⟩ := List.getElem?_of_mem hy
  obtain ⟨hk, e⟩ := List.getElem?_eq_some_iff.1 hx
  obtain ⟨hj1, e2⟩ := List.getElem?_eq_some_iff.1 hj
  rcases Nat.lt_or_eq_of_le (show j ≤ k by omega) with h | h
  · unfold Srt at hs
    rw [List.pairwise_iff_getElem] at hs
    have := hs j k hj1 hk h
    omega
  · subst h
    rw [hx] at hj
    obtain rfl := Option.some.inj hj
    exact Int.le_refl _
end
end Go.Proofs.Ytpkgiemigbjfeaa.Kin

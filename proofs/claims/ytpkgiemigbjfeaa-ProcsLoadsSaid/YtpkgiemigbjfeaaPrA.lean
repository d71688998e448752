/- Numbers in memory; rising lists. Own text; Ytpkgiemigbjfeaa and the numbers between @..@ are the seat's. -/
import Derived.Test.YtpkgiemigbjfeaaRows2
import Derived.Test.YtpkgiemigbjfeaaProg
import Derived.Lib.Hide
import Derived.Deep.LoopGhost
namespace Go.Proofs.Ytpkgiemigbjfeaa.Kin
open Go.RowKit Go.Proofs.Ytpkgiemigbjfeaa.Mem
set_option linter.unusedVariables false
def i64 (z : Int) : Value := .int .i64 z
theorem info_int : (Try.prog.info? 3).map (fun i => (i.zero, i.size, i.bytes)) = some (some (.int .i64 0), 1, 8) := by kernel_rfl
/-- A rising list. -/
def Srt (l : List Int) : Prop := l.Pairwise (· < ·)
/-- How many are below t. -/
def pos (l : List Int) (t : Int) : Nat := (l.filter (fun x => decide (x < t))).length
theorem pos_cons (x : Int) (l : List Int) (t : Int) : pos (x :: l) t = (if x < t then 1 else 0) + pos l t := by
  unfold pos
  rw [List.filter_cons]
  by_cases h : x < t
  · simp [h]; omega
  · simp [h]
theorem pos_le (l : List Int) (t : Int) : pos l t ≤ l.length := List.length_filter_le _ _
theorem Srt.at : ∀ {l : List Int}, Srt l → ∀ (t : Int) (j : Nat) (x : Int), l[j]? = some x → (x < t ↔ j < pos l t)
  | [], _, t, j, x, h => by simp at h
  | a :: l, hs, t, 0, x, h => by
    obtain rfl : a = x := by simpa using h
    rw [pos_cons]
    constructor
    · intro h1; rw [if_pos h1]; omega
    · intro h1
      by_cases h2 : a < t
      · exact h2
      · rw [if_neg h2] at h1
        have hs' := List.pairwise_cons.1 hs
        have : pos l t = 0 := by
          unfold pos
          rw [List.length_eq_zero_iff, List.filter_eq_nil_iff]
          intro y hy
          have := hs'.1 y hy
          simp; omega
        omega
  | a :: l, hs, t, j + 1, x, h => by
    have hs' := List.pairwise_cons.1 hs
    have ih := Srt.at (l := l) hs'.2 t j x (by simpa using h)
    have hax : a < x := hs'.1 x (List.mem_of_getElem? (by simpa using h : l[j]? = some x))
    rw [pos_cons]
    constructor
    · intro h1
      rw [if_pos (by omega)]
      have := ih.1 h1; omega
    · intro h1
      apply ih.2
      by_cases h2 : a < t
      · rw [if_pos h2] at h1; omega
      · rw [if_neg h2] at h1; 
        have : pos l t = 0 := by
          unfold pos
          rw [List.length_eq_zero_iff, List.filter_eq_nil_iff]
          intro y hy
          have := hs'.1 y hy
          simp; omega
        omega
/-- Where it is, if it is there. -/
theorem Srt.mem_at {l : List Int} (hs : Srt l) {t : Int} : t ∈ l ↔ l[pos l t]? = some t := by
  constructor
  · intro h
    obtain ⟨j, hj⟩ := List.getElem?_of_mem h
    have h1 := (hs.at t j t hj)
    have h2 : ¬ j < pos l t := fun e => by have := h1.2 e; omega
    rcases Nat.lt_or_eq_of_le (Nat.le_of_not_lt h2) with h3 | h3
    · have hlt : pos l t < l.length := Nat.lt_trans h3 (List.getElem?_eq_some_iff.1 hj).1
      have h4 := hs.at t (pos l t) l[pos l t] (List.getElem?_eq_getElem hlt)
      have h5 : l[pos l t] < t := by
        unfold Srt at hs
        rw [List.pairwise_iff_getElem] at hs
        obtain ⟨hj1, hj2⟩ := List.getElem?_eq_some_iff.1 hj
        have := hs (pos l t) j hlt hj1 h3
        rw [hj2] at this; exact this
      have := h4.1 h5
      omega
    · rw [h3]; exact hj
  · exact fun h => List.mem_of_getElem? h
theorem Srt.split {l : List Int} (hs : Srt l) {t : Int} (h : t ∈ l) : ∃ A B, l = A ++ t :: B ∧ A.length = pos l t ∧ t ∉ A ∧ t ∉ B := by
  have h1 := hs.mem_at.1 h
  obtain ⟨hlt, e⟩ := List.getElem?_eq_some_iff.1 h1
  refine ⟨l.take (pos l t), l.drop (pos l t + 1), ?_, by rw [List.length_take]; omega, ?_, ?_⟩
  · have := List.take_append_drop (pos l t) l
    rw [List.drop_eq_getElem_cons hlt, e] at this
    exact this.symm
  · intro hm
    obtain ⟨j, hj⟩ := List.getElem?_of_mem hm
    rw [List.getElem?_take] at hj
    split at hj
    · rename_i hlt2
      have := (hs.at t j t hj).2 hlt2
      omega
    · cases hj
  · intro hm
    obtain ⟨j, hj⟩ := List.getElem?_of_mem hm
    rw [List.getElem?_drop] at hj
    unfold Srt at hs
    rw [List.pairwise_iff_getElem] at hs
    obtain ⟨hj1, hj2⟩ := List.getElem?_eq_some_iff.1 hj
    have := hs (pos l t) (pos l t + 1 + j) hlt hj1 (by omega)
    rw [e, hj2] at this
    omega
theorem pos_all {l : List Int} {t : Int} (h : ∀ x ∈ l, x < t) : pos l t = l.length := by
  unfold pos
  rw [List.filter_eq_self.2 (fun x hx => by simpa using h x hx)]
def del (l : List Int) (t : Int) : List Int := l.filter (fun x => x != t)
theorem del_split {A B : List Int} {t : Int} (hA : t ∉ A) (hB : t ∉ B) : del (A ++ t :: B) t = A ++ B := by
  unfold del
  rw [List.filter_append, List.filter_cons]
  simp only [bne_self_eq_false, Bool.false_eq_true, if_false]
  rw [List.filter_eq_self.2 (fun x hx => by simp; rintro rfl; exact hA hx), List.filter_eq_self.2 (fun x hx => by simp; rintro rfl; exact hB hx)]
theorem Srt.del {l : List Int} (hs : Srt l) (t : Int) : Srt (del l t) := List.Pairwise.sublist List.filter_sublist hs
theorem Srt.snoc {l : List Int} (hs : Srt l) {t : Int} (h : ∀ x ∈ l, x < t) : Srt (l ++ [t]) := by
  unfold Srt
  rw [List.pairwise_append]
  exact ⟨hs, by simp, fun a ha b hb => by obtain rfl := List.mem_singleton.1 hb; exact h a ha⟩
theorem mem_del {l : List Int} {t x : Int} : x ∈ del l t ↔ x ∈ l ∧ x ≠ t := by
  unfold del
  rw [List.mem_filter]
  simp
end Go.Proofs.Ytpkgiemigbjfeaa.Kin

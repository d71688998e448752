/- A forest that is one chain: its ways up and its order. Plain Lean. Own text; Ytkmmpagflbnenaa stands for the seat's name. -/
import Derived.Test.YtkmmpagflbnenaaWforest
import Derived.Test.YtkmmpagflbnenaaKinE
namespace Go.Proofs.Ytkmmpagflbnenaa.Kin
set_option linter.unusedVariables false
/-- Node k stands below k - 1. -/
def chain (m : Nat) : List (Int × Int) := (List.range m).map (fun k : Nat => ((k : Int), (k : Int) - 1))
/-- The j greatest numbers below m, downward. -/
def wl (m j : Nat) : List Int := (List.range j).map (fun i : Nat => (m : Int) - 1 - i)
theorem wl_len (m j : Nat) : (wl m j).length = j := by simp [wl]
theorem wl_next (m j : Nat) : wl m (j + 1) = wl m j ++ [(m : Int) - 1 - j] := by simp [wl, List.range_succ]
theorem wl_take (m j i : Nat) (h : i ≤ j) : (wl m j).take i = wl m i := by unfold wl; rw [← List.map_take, List.take_range, Nat.min_eq_left h]
theorem wl_all (k : Nat) : wl (k + 1) (k + 1) = (k : Int) :: wl k k := by
  unfold wl
  rw [List.range_succ_eq_map, List.map_cons, List.map_map]
  refine List.cons_eq_cons.2 ⟨by simp, List.map_congr_left (fun i _ => ?_)⟩
  simp
  omega
theorem wl_mem {m j : Nat} {x : Int} : x ∈ wl m j ↔ ∃ i : Nat, i < j ∧ (m : Int) - 1 - i = x := by
  unfold wl
  rw [List.mem_map]
  constructor
  · rintro ⟨i, hi, e⟩; exact ⟨i, List.mem_range.1 hi, e⟩
  · rintro ⟨i, hi, e⟩; exact ⟨i, List.mem_range.2 hi, e⟩
theorem chain_next (m : Nat) : chain (m + 1) = chain m ++ [((m : Int), (m : Int) - 1)] := by simp [chain, List.range_succ]
theorem mem_chain {m : Nat} {n p : Int} : (n, p) ∈ chain m ↔ 0 ≤ n ∧ n < m ∧ p = n - 1 := by
  unfold chain
  rw [List.mem_map]
  constructor
  · rintro ⟨k, hk, e⟩
    have := List.mem_range.1 hk
    obtain ⟨rfl, rfl⟩ := Prod.mk.inj e
    exact ⟨by omega, by omega, rfl⟩
  · rintro ⟨h0, h1, rfl⟩
    exact ⟨n.toNat, List.mem_range.2 (by omega), Prod.ext (by simp; omega) (by simp; omega)⟩
theorem has_chain (m : Nat) (n : Int) : has (chain m) n = decide (0 ≤ n ∧ n < m) := by
  rw [Bool.eq_iff_iff, has_iff, decide_eq_true_iff]
  constructor
  · rintro ⟨p, hp⟩
    have := mem_chain.1 hp
    exact ⟨this.1, this.2.1⟩
  · intro h
    exact ⟨_, mem_chain.2 ⟨h.1, h.2, rfl⟩⟩
theorem chain_root (m : Nat) (hm : 0 < m) : rootE m [] 0 = 0 ∧ rootL m [] 0 = chain 1 := by
  have h1 : inR m 0 = true := by unfold inR; rw [decide_eq_true_iff]; omega
  have h2 : has [] (0 : Int) = false := rfl
  unfold rootE rootL
  rw [h1, h2]
  exact ⟨rfl, rfl⟩
theorem chain_child (m i : Nat) (h0 : 0 < i) (hi : i < m) : childE m (chain i) ((i : Int) - 1) i = 0 ∧ childL m (chain i) ((i : Int) - 1) i = chain (i + 1) := by
  have h1 : inR m i = true := by unfold inR; rw [decide_eq_true_iff]; omega
  have h2 : has (chain i) ((i : Int) - 1) = true := by rw [has_chain, decide_eq_true_iff]; omega
  have h3 : ¬ has (chain i) (i : Int) = true := by rw [has_chain, decide_eq_true_iff]; omega
  unfold childE childL
  rw [h1, h2, show has (chain i) (i : Int) = false by simpa using h3, chain_next]
  exact ⟨rfl, rfl⟩
section
variable {s m : Nat}
theorem chain_par (h : Inv s (chain m)) (k : Nat) (hk : k < m) : par (chain m) k = (k : Int) - 1 := h.par_eq (mem_chain.2 ⟨by omega, by omega, rfl⟩)
theorem chain_chl (h : Inv s (chain m)) (k : Nat) : chl (chain m) k = if k + 1 < m then [((k + 1 : Nat) : Int)] else [] := by
  have hd := h.chl_nodup (k : Int)
  have hm : ∀ x, x ∈ chl (chain m) k ↔ (k + 1 < m ∧ x = ((k + 1 : Nat) : Int)) := fun x => by
    rw [mem_chl, mem_chain]
    omega
  obtain ⟨l, hl⟩ : ∃ l, chl (chain m) (k : Int) = l := ⟨_, rfl⟩
  rw [hl] at hm hd ⊢
  by_cases hk : k + 1 < m
  · rw [if_pos hk]
    match l, hd, hm with
    | [], _, hm => have := (hm _).2 ⟨hk, rfl⟩; cases this
    | [x], _, hm => rw [((hm x).1 (by simp)).2]
    | x :: y :: l, hd, hm =>
      have h1 := ((hm x).1 (by simp)).2
      have h2 := ((hm y).1 (by simp)).2
      rw [h1, h2] at hd
      simp at hd
  · rw [if_neg hk]
    refine List.eq_nil_iff_forall_not_mem.2 (fun x hx => hk ((hm x).1 hx).1)
theorem chain_up (h : Inv s (chain m)) : ∀ k : Nat, k < m → upl (chain m) k = wl (k + 1) (k + 1) := by
  intro k
  induction k with
  | zero =>
    intro hk
    rw [h.up_eq (by rw [has_chain, decide_eq_true_iff]; omega), chain_par h 0 hk, up_no (by rw [has_chain, decide_eq_true_iff]; omega)]
    rfl
  | succ k ih =>
    intro hk
    rw [h.up_eq (by rw [has_chain, decide_eq_true_iff]; omega), chain_par h (k + 1) hk, show ((k + 1 : Nat) : Int) - 1 = k by omega, ih (by omega), wl_all (k + 1)]
theorem chain_fall (h : Inv s (chain m)) : ∀ j k : Nat, m = k + j → 0 < j → fall (chain m) k = wl m j := by
  intro j
  induction j with
  | zero => intro k _ h0; omega
  | succ j ih =>
    intro k hk _
    rw [h.fall_eq (by rw [has_chain, decide_eq_true_iff]; omega), chain_chl h, wl_next]
    congr 1
    · by_cases h1 : k + 1 < m
      · rw [if_pos h1, List.flatMap_cons, List.flatMap_nil, List.append_nil]
        exact ih (k + 1) (by omega) (by omega)
      · obtain rfl : j = 0 := by omega
        rw [if_neg h1]
        rfl
    · rw [show (m : Int) - 1 - j = k by omega]
end
end Go.Proofs.Ytkmmpagflbnenaa.Kin

/- What a forest's subtrees, ways up and orders have to do with one another, and that a subtree is cut in Fall's order: plain Lean. Own text; Ytkmmpagflbnenaa stands for the seat's name. -/
import Derived.Test.YtkmmpagflbnenaaWforest
import Derived.Test.YtkmmpagflbnenaaKinE
namespace Go.Proofs.Ytkmmpagflbnenaa.Kin
set_option linter.unusedVariables false
section
variable {m : Nat} {L : List (Int × Int)}
/-- Each of a subtree but the first stands behind its parent. -/
theorem Inv.dn_behind (h : Inv m L) (t : Bool) : ∀ (f : Nat) (n : Int), L.length - rk L n < f → has L n = true → ∀ A x B, dn L t n = A ++ x :: B → x ≠ n → par L x ∈ A := by
  intro f
  induction f with
  | zero => intro n hf; omega
  | succ f ih =>
    intro n hf hn A x B e hx
    rw [h.dn_eq t hn] at e
    cases A with
    | nil => exact absurd (List.cons.inj e).1.symm hx
    | cons a A =>
      obtain rfl : n = a := (List.cons.inj e).1
      have gen : ∀ (l : List Int), (∀ c ∈ l, c ∈ odr L t n) → ∀ (A B : List Int) x, l.flatMap (dn L t) = A ++ x :: B → par L x = n ∨ par L x ∈ A := by
        intro l
        induction l with
        | nil => intro _ A B x e; simp at e
        | cons c l ihl =>
          intro hm A B x e
          have hc := hm c (by simp)
          obtain ⟨h1, h2, h3⟩ := h.rk_odr hn hc
          rw [List.flatMap_cons] at e
          rcases List.append_eq_append_iff.1 e with ⟨A2, e1, e2⟩ | ⟨C, e1, e2⟩
          · rcases ihl (fun d hd => hm d (by simp [hd])) A2 B x e2 with h4 | h4
            · exact .inl h4
            · exact .inr (by rw [e1]; exact List.mem_append_right _ h4)
          · cases C with
            | nil =>
              rcases ihl (fun d hd => hm d (by simp [hd])) [] B x (by simpa using e2.symm) with h4 | h4
              · exact .inl h4
              · cases h4
            | cons y C =>
              obtain ⟨rfl, e2⟩ := List.cons.inj e2
              by_cases hxc : x = c
              · exact .inl (by rw [hxc]; exact (h.chl_par (mem_odr.1 hc)).2)
              · exact .inr (ih c (by omega) h1 A x C e1 hxc)
      rw [List.cons_append] at e
      rcases gen _ (fun c hc => hc) A B x (List.cons.inj e).2 with h4 | h4
      · rw [h4]; simp
      · exact List.mem_cons_of_mem _ h4
theorem Inv.behind (h : Inv m L) (t : Bool) {n : Int} {A B : List Int} {x : Int} (e : dnl L t n = A ++ x :: B) (hx : x ≠ n) : par L x ∈ A := by
  unfold dnl at e
  split at e
  · next hn => exact h.dn_behind t _ n (Nat.lt_succ_self _) hn A x B e hx
  · simp at e
theorem Inv.dnl_mem (h : Inv m L) (t : Bool) {n x : Int} : x ∈ dnl L t n ↔ n ∈ upl L x := by
  unfold dnl
  by_cases hn : has L n = true
  · rw [if_pos hn]; exact h.dn_mem t hn x
  · rw [if_neg hn]
    constructor
    · intro e; cases e
    · intro e; exact absurd (h.up_mem e).1 hn
theorem Inv.dnl_nodup (h : Inv m L) (t : Bool) (n : Int) : (dnl L t n).Nodup := by
  unfold dnl
  split
  · next hn => exact h.dn_nodup t _ n (Nat.lt_succ_self _) hn
  · exact List.nodup_nil
theorem Inv.dnl_has (h : Inv m L) (t : Bool) {n x : Int} (hx : x ∈ dnl L t n) : has L x = true := by
  by_cases hxh : has L x = true
  · exact hxh
  · have := (h.dnl_mem t).1 hx
    rw [up_no hxh] at this; cases this
theorem Inv.dnl_len (h : Inv m L) (t : Bool) (n : Int) : (dnl L t n).length ≤ m := h.len_of (h.dnl_nodup t n) (fun x hx => h.dnl_has t hx)
theorem Inv.fall_mem (h : Inv m L) {n x : Int} : x ∈ fall L n ↔ n ∈ upl L x := by unfold fall; rw [List.mem_reverse]; exact h.dnl_mem true
theorem Inv.fall_nodup (h : Inv m L) (n : Int) : (fall L n).Nodup := List.pairwise_reverse.2 ((h.dnl_nodup true n).imp (fun e => e.symm))
theorem Inv.fall_len (h : Inv m L) (n : Int) : (fall L n).length = (dnl L false n).length := by
  refine Nat.le_antisymm ?_ ?_
  · exact (h.fall_nodup n).length_le_of_subset (fun x hx => (h.dnl_mem false).2 (h.fall_mem.1 hx))
  · exact (h.dnl_nodup false n).length_le_of_subset (fun x hx => h.fall_mem.2 ((h.dnl_mem false).1 hx))
theorem Inv.has_len (h : Inv m L) (n : Int) : has L n = decide ((0 : Int) < (dnl L false n).length) := by
  by_cases hn : has L n = true
  · rw [hn]
    unfold dnl
    rw [if_pos hn, h.dn_eq false hn]
    simp
  · have : dnl L false n = [] := by unfold dnl; rw [if_neg hn]
    rw [this]; simpa using hn
theorem Inv.dnl_first (h : Inv m L) {t : Bool} {n x : Int} (hx : (dnl L t n)[0]? = some x) : x = n := by
  unfold dnl at hx
  split at hx
  · next hn => rw [h.dn_eq t hn] at hx; simpa using hx.symm
  · simp at hx
/-- All of a list cut. -/
def cuts (L : List (Int × Int)) (l : List Int) : List (Int × Int) := l.foldl (fun M x => Kin.cut M x) L
theorem cuts_app (L : List (Int × Int)) (l : List Int) (x : Int) : cuts L (l ++ [x]) = Kin.cut (cuts L l) x := by simp [cuts]
theorem has_cuts (L : List (Int × Int)) (y : Int) : ∀ l : List Int, has (cuts L l) y = (has L y && !decide (y ∈ l)) := by
  intro l
  induction l generalizing L with
  | nil => simp [cuts]
  | cons a l ih =>
    have := ih (Kin.cut L a)
    rw [show cuts L (a :: l) = cuts (Kin.cut L a) l from rfl, this, has_cut]
    by_cases hy : y = a
    · simp [hy]
    · have e : (y != a) = true := by simpa using hy
      simp [hy, e]
theorem chl_cuts (L : List (Int × Int)) (y : Int) : ∀ l : List Int, chl (cuts L l) y = (chl L y).filter (fun x => !decide (x ∈ l)) := by
  intro l
  induction l generalizing L with
  | nil => exact (List.filter_eq_self.2 (fun x _ => by simp)).symm
  | cons a l ih =>
    rw [show cuts L (a :: l) = cuts (Kin.cut L a) l from rfl, ih, chl_cut, List.filter_filter]
    refine List.filter_congr (fun x _ => ?_)
    by_cases hx : x = a
    · simp [hx]
    · simp [hx]
/-- Whose children were cut ahead of it is cut. -/
theorem Inv.fall_next (h : Inv m L) {n : Int} {A B : List Int} {x : Int} (e : fall L n = A ++ x :: B) : has (cuts L A) x = true ∧ chl (cuts L A) x = [] := by
  have hx : x ∈ fall L n := by rw [e]; simp
  have hd := h.fall_nodup n
  rw [e] at hd
  have hd2 := List.nodup_append.1 hd
  have hxA : x ∉ A := fun h2 => hd2.2.2 x h2 x (by simp) rfl
  have hxB : x ∉ B := (List.nodup_cons.1 hd2.2.1).1
  have hup := h.fall_mem.1 hx
  have hxh : has L x = true := h.dnl_has true ((h.dnl_mem true).2 hup)
  refine ⟨by rw [has_cuts, hxh]; simpa using hxA, ?_⟩
  rw [chl_cuts]
  refine List.filter_eq_nil_iff.2 (fun c hc => ?_)
  have hcp := h.chl_par hc
  have hcup : n ∈ upl L c := by rw [h.up_eq hcp.1, hcp.2]; exact List.mem_cons_of_mem _ hup
  have hcf : c ∈ fall L n := h.fall_mem.2 hcup
  rw [e] at hcf
  have hcx : c ≠ x := fun e2 => by
    subst e2
    have := h.par_rng hxh
    rcases this with e3 | ⟨_, e3⟩
    · rw [hcp.2] at e3
      have := (h.has_rng hxh).1
      omega
    · exact e3 hcp.2
  rcases List.mem_append.1 hcf with hcA | hcB
  · simp [hcA]
  · exfalso
    rcases List.mem_cons.1 hcB with e2 | hcB
    · exact hcx e2
    · have hr : dnl L true n = B.reverse ++ x :: A.reverse := by
        have := congrArg List.reverse e
        simpa [fall] using this
      obtain ⟨C, D, hCD⟩ := List.append_of_mem (List.mem_reverse.2 hcB)
      rw [hCD] at hr
      have hcn : c ≠ n := fun e2 => by
        subst e2
        have h4 := h.rk_par hcp.1 (by rw [hcp.2]; exact hxh)
        rw [hcp.2] at h4
        have h5 := (h.up_mem hup).2
        omega
      have := h.behind true (A := C) (B := D ++ x :: A.reverse) (x := c) (by rw [hr]; simp) hcn
      rw [hcp.2] at this
      have h6 : x ∈ B.reverse := by rw [hCD]; exact List.mem_append_left _ this
      exact hxB (List.mem_reverse.1 h6)
theorem Inv.cuts_next (h : Inv m L) {n x : Int} {i : Nat} (e : (fall L n)[i]? = some x) : cutE (cuts L ((fall L n).take i)) x = 0 ∧ cutL (cuts L ((fall L n).take i)) x = cuts L ((fall L n).take (i + 1)) ∧ has (cuts L ((fall L n).take (i + 1))) x = false := by
  have hi := (List.getElem?_eq_some_iff.1 e).1
  have hx := (List.getElem?_eq_some_iff.1 e).2
  have e2 : fall L n = (fall L n).take i ++ x :: (fall L n).drop (i + 1) := by rw [← hx, List.getElem_cons_drop, List.take_append_drop]
  have e3 : (fall L n).take (i + 1) = (fall L n).take i ++ [x] := by rw [List.take_add_one, e]; rfl
  have := h.fall_next e2
  refine ⟨?_, ?_, ?_⟩
  · unfold cutE; rw [if_pos this.1, if_pos this.2]
  · unfold cutL; rw [if_pos this, e3, cuts_app]
  · rw [e3, cuts_app, has_cut]; simp
theorem Inv.gone (h : Inv m L) (n : Int) : has (cuts L (fall L n)) n = false := by
  rw [has_cuts]
  by_cases hn : has L n = true
  · have : n ∈ fall L n := h.fall_mem.2 (h.up_self hn)
    simp [this]
  · simp [hn]
end
end Go.Proofs.Ytkmmpagflbnenaa.Kin

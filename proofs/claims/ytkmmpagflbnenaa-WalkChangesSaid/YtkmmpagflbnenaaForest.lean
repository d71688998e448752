/- A forest as a list of its nodes with their parents, in the order in which they were made: what is told of it, and what the calls make of it. Own text; Ytkmmpagflbnenaa stands for the seat's name. -/
import Derived.WalkKit
namespace Go.Proofs.Ytkmmpagflbnenaa.Kin
set_option linter.unusedVariables false
def has (L : List (Int × Int)) (n : Int) : Bool := L.any (fun x => x.1 == n)
def par (L : List (Int × Int)) (n : Int) : Int := ((L.find? (fun x => x.1 == n)).map (·.2)).getD 0
def chl (L : List (Int × Int)) (n : Int) : List Int := (L.filter (fun x => x.2 == n)).map (·.1)
def cut (L : List (Int × Int)) (n : Int) : List (Int × Int) := L.filter (fun x => x.1 != n)
def kids (L : List (Int × Int)) (n : Int) : List Int := if has L n = true then chl L n else []
theorem has_iff {L : List (Int × Int)} {n : Int} : has L n = true ↔ ∃ p, (n, p) ∈ L := by
  unfold has
  rw [List.any_eq_true]
  constructor
  · rintro ⟨⟨a, b⟩, h, e⟩
    obtain rfl : a = n := by simpa using e
    exact ⟨b, h⟩
  · rintro ⟨p, h⟩
    exact ⟨_, h, by simp⟩
theorem has_app (L : List (Int × Int)) (n p k : Int) : has (L ++ [(n, p)]) k = (has L k || n == k) := by simp [has]
theorem has_cut (L : List (Int × Int)) (n k : Int) : has (cut L n) k = (has L k && k != n) := by
  rw [Bool.eq_iff_iff, Bool.and_eq_true, has_iff, has_iff]
  unfold cut
  constructor
  · rintro ⟨p, h⟩
    have := List.mem_filter.1 h
    exact ⟨⟨p, this.1⟩, this.2⟩
  · rintro ⟨⟨p, h⟩, h2⟩
    exact ⟨p, List.mem_filter.2 ⟨h, h2⟩⟩
theorem par_no {L : List (Int × Int)} {n : Int} (h : has L n = false) : par L n = 0 := by
  unfold par
  rw [List.find?_eq_none.2]
  · rfl
  · intro x hx
    unfold has at h
    rw [List.any_eq_false] at h
    simpa using h x hx
theorem par_app (L : List (Int × Int)) (n p k : Int) : par (L ++ [(n, p)]) k = if has L k = true then par L k else if n = k then p else 0 := by
  unfold par
  rw [List.find?_append]
  by_cases h : has L k = true
  · rw [if_pos h]
    obtain ⟨q, hq⟩ := has_iff.1 h
    cases e : L.find? (fun x => x.1 == k) with
    | none => have := List.find?_eq_none.1 e _ hq; simp at this
    | some x => rfl
  · rw [if_neg h]
    have h' : has L k = false := by simpa using h
    have e : L.find? (fun x => x.1 == k) = none := List.find?_eq_none.2 (fun x hx => by
      unfold has at h'
      rw [List.any_eq_false] at h'
      simpa using h' x hx)
    rw [e]
    by_cases hn : n = k
    · subst hn; simp
    · simp [hn]
theorem find_cut (L : List (Int × Int)) (n k : Int) : (cut L n).find? (fun x => x.1 == k) = if k = n then none else L.find? (fun x => x.1 == k) := by
  unfold cut
  by_cases h : k = n
  · rw [if_pos h]
    refine List.find?_eq_none.2 (fun x hx => ?_)
    have := (List.mem_filter.1 hx).2
    simp at this ⊢
    omega
  · rw [if_neg h, List.find?_filter]
    congr 1
    funext x
    by_cases e : x.1 = k
    · simp [e, h]
    · simp [e]
theorem par_cut (L : List (Int × Int)) (n k : Int) : par (cut L n) k = if k = n then 0 else par L k := by
  unfold par
  rw [find_cut]
  split <;> rfl
theorem chl_app (L : List (Int × Int)) (n p k : Int) : chl (L ++ [(n, p)]) k = chl L k ++ if p = k then [n] else [] := by
  unfold chl
  rw [List.filter_append, List.map_append]
  by_cases h : p = k
  · simp [h]
  · simp [h]
theorem chl_cut (L : List (Int × Int)) (n k : Int) : chl (cut L n) k = (chl L k).filter (fun x => x != n) := by
  unfold chl cut
  rw [List.filter_filter, List.filter_map, List.filter_filter]
  congr 1
  apply List.filter_congr
  intro x _
  rw [Bool.and_comm]
  rfl
/-- A forest of at most m nodes. -/
structure Inv (m : Nat) (L : List (Int × Int)) : Prop where
  rng : ∀ x ∈ L, 0 ≤ x.1 ∧ x.1 < m
  nodup : (L.map (·.1)).Nodup
  up : ∀ x ∈ L, x.2 = -1 ∨ has L x.2 = true
  ord : ∀ (i j : Nat) (x y : Int × Int), L[i]? = some x → L[j]? = some y → i ≤ j → x.2 ≠ y.1
section
variable {m : Nat} {L : List (Int × Int)}
theorem Inv.has_rng (h : Inv m L) {n : Int} (hn : has L n = true) : 0 ≤ n ∧ n < m := by
  obtain ⟨p, hp⟩ := has_iff.1 hn
  exact h.rng _ hp
theorem Inv.par_eq (h : Inv m L) {n p : Int} (hn : (n, p) ∈ L) : par L n = p := by
  unfold par
  cases e : L.find? (fun x => x.1 == n) with
  | none => have := List.find?_eq_none.1 e _ hn; simp at this
  | some x =>
    have h1 := List.mem_of_find?_eq_some e
    have h2 : x.1 = n := by simpa using List.find?_some e
    have h3 : x = (n, p) := by
      have hi := h.nodup
      obtain ⟨i, hi1⟩ := List.getElem?_of_mem h1
      obtain ⟨j, hj1⟩ := List.getElem?_of_mem hn
      have hi2 := (List.getElem?_eq_some_iff.1 hi1).1
      have hij : i = j := (List.getElem?_inj (l := L.map (·.1)) (by simpa using hi2) hi).1 (by rw [List.getElem?_map, List.getElem?_map, hi1, hj1]; simp [h2])
      subst hij
      rw [hi1] at hj1
      exact Option.some.inj hj1
    rw [h3]; rfl
theorem Inv.mem_par (h : Inv m L) {n : Int} (hn : has L n = true) : (n, par L n) ∈ L := by
  obtain ⟨p, hp⟩ := has_iff.1 hn
  rw [h.par_eq hp]; exact hp
theorem mem_chl {n k : Int} : k ∈ chl L n ↔ (k, n) ∈ L := by
  unfold chl
  rw [List.mem_map]
  constructor
  · rintro ⟨⟨a, b⟩, h, rfl⟩
    have := List.mem_filter.1 h
    obtain rfl : b = n := by simpa using this.2
    exact this.1
  · intro h
    exact ⟨_, List.mem_filter.2 ⟨h, by simp⟩, rfl⟩
theorem Inv.chl_par (h : Inv m L) {n k : Int} (hk : k ∈ chl L n) : has L k = true ∧ par L k = n := by
  have := mem_chl.1 hk
  exact ⟨has_iff.2 ⟨_, this⟩, h.par_eq this⟩
theorem Inv.chl_nodup (h : Inv m L) (n : Int) : (chl L n).Nodup := by
  unfold chl
  exact (List.Sublist.map _ (List.filter_sublist)).nodup h.nodup
theorem Inv.chl_no (h : Inv m L) {n : Int} (hn : has L n = false) (h0 : n ≠ -1) : chl L n = [] := by
  apply List.eq_nil_iff_forall_not_mem.2
  intro k hk
  rcases h.up _ (mem_chl.1 hk) with e | e
  · exact h0 e
  · rw [hn] at e; cases e
theorem Inv.par_rng (h : Inv m L) {n : Int} (hn : has L n = true) : par L n = -1 ∨ (has L (par L n) = true ∧ par L n ≠ n) := by
  have hm := h.mem_par hn
  rcases h.up _ hm with e | e
  · exact .inl e
  · refine .inr ⟨e, fun e2 => ?_⟩
    obtain ⟨i, hi⟩ := List.getElem?_of_mem hm
    exact h.ord i i _ _ hi hi (Nat.le_refl _) e2
theorem Inv.len (h : Inv m L) : L.length ≤ m := by
  have h1 : ((L.map (·.1)).map Int.toNat).Nodup := by
    apply List.Pairwise.map
    · intro a b hab
      exact hab
    · refine h.nodup.imp_of_mem ?_
      intro a b ha hb hne e
      obtain ⟨x, hx, rfl⟩ := List.mem_map.1 ha
      obtain ⟨y, hy, rfl⟩ := List.mem_map.1 hb
      have := (h.rng x hx).1
      have := (h.rng y hy).1
      omega
  have h2 : ((L.map (·.1)).map Int.toNat) ⊆ List.range m := by
    intro k hk
    obtain ⟨a, ha, rfl⟩ := List.mem_map.1 hk
    obtain ⟨x, hx, rfl⟩ := List.mem_map.1 ha
    have := h.rng x hx
    rw [List.mem_range]; omega
  have h4 := h1.length_le_of_subset h2
  simpa using h4
theorem inv_nil (m : Nat) : Inv m [] := ⟨(fun x hx => by cases hx), List.nodup_nil, (fun x hx => by cases hx), (fun i j x y hi => by simp at hi)⟩
theorem Inv.add (h : Inv m L) {n p : Int} (h0 : 0 ≤ n) (h1 : n < m) (hn : has L n = false) (hp : p = -1 ∨ has L p = true) : Inv m (L ++ [(n, p)]) := by
  have hnot : ∀ x ∈ L, x.1 ≠ n := fun x hx e => by
    unfold has at hn
    rw [List.any_eq_false] at hn
    have := hn x hx
    simp at this
    exact this e
  have hpn : p ≠ n := fun e => by
    subst e
    rcases hp with e | e
    · omega
    · rw [hn] at e; cases e
  refine ⟨fun x hx => ?_, ?_, fun x hx => ?_, fun i j x y hi hj hij => ?_⟩
  · rcases List.mem_append.1 hx with hx | hx
    · exact h.rng x hx
    · obtain rfl := List.mem_singleton.1 hx
      exact ⟨h0, h1⟩
  · rw [List.map_append]
    refine List.nodup_append.2 ⟨h.nodup, by simp, fun a ha b hb e => ?_⟩
    subst e
    obtain ⟨x, hx, rfl⟩ := List.mem_map.1 ha
    exact hnot x hx (by simpa using hb)
  · rw [has_app]
    rcases List.mem_append.1 hx with hx | hx
    · rcases h.up x hx with e | e
      · exact .inl e
      · exact .inr (by rw [e]; rfl)
    · obtain rfl := List.mem_singleton.1 hx
      rcases hp with e | e
      · exact .inl e
      · exact .inr (by rw [show has L (n, p).2 = true from e]; rfl)
  · rw [List.getElem?_append] at hi hj
    have key : ∀ x ∈ L, x.2 ≠ n := fun x hx e => by
      rcases h.up x hx with e2 | e2
      · omega
      · rw [e, hn] at e2; cases e2
    split at hi
    · split at hj
      · exact h.ord i j x y hi hj hij
      · have hy : y = (n, p) := by
          have := List.mem_of_getElem? hj
          simpa using this
        rw [hy]
        exact key x (List.mem_of_getElem? hi)
    · have hx : x = (n, p) := by
        have := List.mem_of_getElem? hi
        simpa using this
      split at hj
      · omega
      · have hy : y = (n, p) := by
          have := List.mem_of_getElem? hj
          simpa using this
        rw [hx, hy]; exact hpn
theorem Inv.cut (h : Inv m L) {n : Int} (hc : chl L n = []) : Inv m (cut L n) := by
  have sub : List.Sublist (Kin.cut L n) L := List.filter_sublist
  refine ⟨fun x hx => h.rng x (sub.subset hx), (List.Sublist.map _ sub).nodup h.nodup, fun x hx => ?_, ?_⟩
  · rcases h.up x (sub.subset hx) with e | e
    · exact .inl e
    · refine .inr ?_
      rw [has_cut, e]
      have : x.2 ≠ n := fun e2 => by
        have : x.1 ∈ chl L n := mem_chl.2 (by rw [← e2]; exact sub.subset hx)
        rw [hc] at this; cases this
      simpa using this
  · intro i j x y hi hj hij
    have hp : L.Pairwise (fun a b => a.2 ≠ b.1) := by
      rw [List.pairwise_iff_getElem]
      intro i j hi hj hlt
      exact h.ord i j _ _ (List.getElem?_eq_getElem hi) (List.getElem?_eq_getElem hj) (by omega)
    have hp2 : (Kin.cut L n).Pairwise (fun a b => a.2 ≠ b.1) := hp.sublist sub
    rcases Nat.lt_or_eq_of_le hij with hlt | rfl
    · rw [List.pairwise_iff_getElem] at hp2
      obtain ⟨hi1, rfl⟩ := List.getElem?_eq_some_iff.1 hi
      obtain ⟨hj1, rfl⟩ := List.getElem?_eq_some_iff.1 hj
      exact hp2 i j hi1 hj1 hlt
    · rw [hi] at hj
      obtain rfl := Option.some.inj hj
      have hx := sub.subset (List.mem_of_getElem? hi)
      obtain ⟨q, hq⟩ := List.getElem?_of_mem hx
      exact h.ord q q _ _ hq hq (Nat.le_refl _)
/-- A child that is cut stood once among its parent's. -/
theorem Inv.chl_at (h : Inv m L) {n : Int} (hn : has L n = true) : ∃ A B, chl L (par L n) = A ++ n :: B ∧ n ∉ A ∧ n ∉ B := by
  have hm : n ∈ chl L (par L n) := mem_chl.2 (h.mem_par hn)
  obtain ⟨A, B, e, hA⟩ := List.append_of_mem hm |>.elim fun A hB => hB.elim fun B e => (⟨A, B, e, trivial⟩ : ∃ A B, chl L (par L n) = A ++ n :: B ∧ True)
  have hd := h.chl_nodup (par L n)
  rw [e] at hd
  have h1 := List.nodup_append.1 hd
  refine ⟨A, B, e, fun hx => h1.2.2 n hx n (by simp) rfl, ?_⟩
  have h2 := h1.2.1
  rw [List.nodup_cons] at h2
  exact h2.1
theorem chl_cut_at {A B : List Int} {n : Int} (hA : n ∉ A) (hB : n ∉ B) : (A ++ n :: B).filter (fun x => x != n) = A ++ B := by
  rw [List.filter_append, List.filter_cons]
  simp only [bne_self_eq_false, Bool.false_eq_true, if_false]
  rw [List.filter_eq_self.2 (fun x hx => by simp; rintro rfl; exact hA hx), List.filter_eq_self.2 (fun x hx => by simp; rintro rfl; exact hB hx)]
theorem Inv.chl_cut_other (h : Inv m L) {n k : Int} (hk : k ≠ par L n) : chl (Kin.cut L n) k = chl L k := by
  rw [chl_cut]
  refine List.filter_eq_self.2 (fun x hx => ?_)
  have := (h.chl_par hx).2
  simp
  rintro rfl
  exact hk this.symm
end
end Go.Proofs.Ytkmmpagflbnenaa.Kin

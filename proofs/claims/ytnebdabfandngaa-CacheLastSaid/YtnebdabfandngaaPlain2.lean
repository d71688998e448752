/- Cache with one set, in plain lists: the last unlike capabilities that were put. Own text. -/
import Derived.Test.YtnebdabfandngaaPlain
namespace Go.Proofs.Ytnebdabfandngaa.C
open Go.RowKit
def Uniq (L : List En) : Prop := L.Pairwise fun a b => a.c ≠ b.c
theorem Inv.uniqL {sets ways : Nat} {h : Cap → Int} {pl : Nat → Pl} {epoch puts : Int} {Q : List Nat} (H : Inv sets ways h pl epoch puts Q) : Uniq (lst pl Q) := by
  unfold Uniq lst
  rw [List.pairwise_map]
  exact H.nodup.imp_of_mem (fun {a b} ha hb hab e => hab (H.uniq a ha b hb e))
theorem uniq_at {L : List En} (h : Uniq L) {i j : Nat} (hi : i < L.length) (hj : j < L.length) (e : (L[i]).c = (L[j]).c) : i = j := by
  rcases Nat.lt_trichotomy i j with hlt | rfl | hlt
  · exact absurd e (List.pairwise_iff_getElem.1 h i j hi hj hlt)
  · rfl
  · exact absurd e.symm (List.pairwise_iff_getElem.1 h j i hj hi hlt)
theorem getD_get {L : List En} {i : Nat} (hi : i < L.length) : L.getD i e0 = L[i] := by rw [List.getD_eq_getElem?_getD, List.getElem?_eq_getElem hi]; rfl
theorem known_none {L : List En} {c : Cap} (h : ¬ 0 ≤ knownR L c L.length) : ∀ e ∈ L, e.c ≠ c := fun e he => by
  obtain ⟨i, hi, rfl⟩ := List.getElem_of_mem he
  have := knownR_no (L := L) (c := c) (i := L.length) (by omega) i hi
  rwa [getD_get hi] at this
theorem known_at {L : List En} {c : Cap} (h : 0 ≤ knownR L c L.length) : ∃ k, ∃ hk : k < L.length, knownR L c L.length = (k : Int) ∧ (L[k]).c = c := by
  obtain ⟨k, hk⟩ : ∃ k : Nat, knownR L c L.length = k := ⟨_, (Int.toNat_of_nonneg h).symm⟩
  have hlt : k < L.length := by have := (knownR_lo L c L.length).2; omega
  have := knownR_is h
  rw [hk, Int.toNat_natCast, getD_get hlt] at this
  exact ⟨k, hlt, hk, this⟩
theorem erase_filter : ∀ {L : List En} {k : Nat} (_hu : Uniq L) (hk : k < L.length) {c : Cap}, (L[k]).c = c → L.eraseIdx k = L.filter fun e => decide (e.c ≠ c)
  | x :: L, 0, hu, _, c, h => by
    have h' : x.c = c := h
    have hx : ∀ e ∈ L, e.c ≠ c := fun e he => by rw [← h']; exact fun e2 => (List.pairwise_cons.1 hu).1 e he e2.symm
    rw [List.filter_cons_of_neg (by simp [h']), List.filter_eq_self.2 (fun e he => by simpa using hx e he)]
    rfl
  | x :: L, k + 1, hu, hk, c, h => by
    have h' : (L[k]'(by simpa using hk)).c = c := h
    have hx : x.c ≠ c := by rw [← h']; exact (List.pairwise_cons.1 hu).1 _ (List.getElem_mem _)
    rw [List.filter_cons_of_pos (by simpa using hx)]
    show x :: L.eraseIdx k = _
    rw [erase_filter (List.pairwise_cons.1 hu).2 (by simpa using hk) h']
theorem cut_none {ways : Nat} {h : Cap → Int} {L : List En} (hu : Uniq L) (c : Cap) : ∀ e ∈ lcut ways h L c, e.c ≠ c := by
  intro e he
  unfold lcut at he
  by_cases hk : 0 ≤ knownR L c L.length
  · rw [if_pos hk] at he
    obtain ⟨k, hlt, e1, e2⟩ := known_at hk
    rw [e1, Int.toNat_natCast, erase_filter hu hlt e2] at he
    simpa using (List.mem_filter.1 he).2
  · rw [if_neg hk] at he
    have hn := known_none hk
    split at he
    · exact hn e ((List.eraseIdx_sublist _ _).mem he)
    · exact hn e he
theorem look_put {ways : Nat} {h : Cap → Int} {L : List En} (hu : Uniq L) (c : Cap) (r : Int) : look (lput ways h L c r) c = some r := by
  unfold lput
  refine look_some (e := ⟨c, r⟩) (List.mem_append_right _ (List.mem_singleton.2 rfl)) ?_
  intro a ha e
  rcases List.mem_append.1 ha with ha | ha
  · exact absurd e (cut_none hu c a ha)
  · exact List.mem_singleton.1 ha
/-- The first of each capability, behind those that were seen. -/
def dd : List Cap → List En → List En
  | _, [] => []
  | S, x :: R => if x.c ∈ S then dd S R else x :: dd (S ++ [x.c]) R
theorem dd_congr : ∀ (R : List En) {S T : List Cap}, (∀ c, c ∈ S ↔ c ∈ T) → dd S R = dd T R
  | [], _, _, _ => rfl
  | x :: R, S, T, h => by
    rw [dd, dd]
    by_cases hx : x.c ∈ S
    · rw [if_pos hx, if_pos ((h _).1 hx)]; exact dd_congr R h
    · rw [if_neg hx, if_neg (fun e => hx ((h _).2 e))]
      rw [dd_congr R (S := S ++ [x.c]) (T := T ++ [x.c]) (fun c => by simp [h c])]
theorem dd_filter : ∀ (R : List En) (S : List Cap) (a : Cap), dd (S ++ [a]) R = (dd S R).filter fun e => decide (e.c ≠ a)
  | [], _, _ => rfl
  | x :: R, S, a => by
    rw [dd, dd]
    by_cases hx : x.c ∈ S
    · rw [if_pos hx, if_pos (by simp [hx])]; exact dd_filter R S a
    · rw [if_neg hx]
      by_cases hxa : x.c = a
      · rw [if_pos (by simp [hxa]), List.filter_cons_of_neg (by simp [hxa])]
        rw [← dd_filter R (S ++ [x.c]) a]
        exact dd_congr R (fun c => by simp [hxa])
      · rw [if_neg (by simp [hx, hxa]), List.filter_cons_of_pos (by simpa using hxa)]
        rw [← dd_filter R (S ++ [x.c]) a]
        congr 1
        exact dd_congr R (fun c => by simp [or_comm])
theorem dd_uniq : ∀ (R : List En) (S : List Cap), Uniq (dd S R) ∧ ∀ e ∈ dd S R, e.c ∉ S
  | [], _ => ⟨List.Pairwise.nil, fun e he => by cases he⟩
  | x :: R, S => by
    rw [dd]
    by_cases hx : x.c ∈ S
    · rw [if_pos hx]; exact dd_uniq R S
    · rw [if_neg hx]
      obtain ⟨h1, h2⟩ := dd_uniq R (S ++ [x.c])
      refine ⟨List.pairwise_cons.2 ⟨fun e he h => h2 e he (by simp [h]), h1⟩, fun e he => ?_⟩
      rcases List.mem_cons.1 he with rfl | he
      · exact hx
      · exact fun h => h2 e he (by simp [h])
theorem filt_take : ∀ {D : List En} {w : Nat} {c : Cap}, Uniq D → (∃ e ∈ D.take w, e.c = c) → ((D.take w).filter fun e => decide (e.c ≠ c)) = (D.filter fun e => decide (e.c ≠ c)).take (w - 1)
  | [], w, c, _, h => by obtain ⟨e, he, _⟩ := h; simp at he
  | x :: D, 0, c, _, h => by obtain ⟨e, he, _⟩ := h; simp at he
  | x :: D, w + 1, c, hu, h => by
    obtain ⟨hx, hu'⟩ := List.pairwise_cons.1 hu
    rw [List.take_succ_cons]
    by_cases e : x.c = c
    · have hn : ∀ e ∈ D, e.c ≠ c := fun y hy h2 => hx y hy (e.trans h2.symm)
      rw [List.filter_cons_of_neg (by simp [e]), List.filter_cons_of_neg (by simp [e]), List.filter_eq_self.2 (fun y hy => by simpa using hn y (List.mem_of_mem_take hy)), List.filter_eq_self.2 (fun y hy => by simpa using hn y hy)]
      rfl
    · obtain ⟨y, hy, hyc⟩ := h
      rw [List.take_succ_cons] at hy
      have hy' : y ∈ D.take w := by
        rcases List.mem_cons.1 hy with rfl | hy
        · exact absurd hyc e
        · exact hy
      have hw : 0 < w := by
        rcases Nat.eq_zero_or_pos w with rfl | h0
        · simp at hy'
        · exact h0
      rw [List.filter_cons_of_pos (by simpa using e), List.filter_cons_of_pos (by simpa using e), filt_take hu' ⟨y, hy', hyc⟩]
      obtain ⟨v, rfl⟩ : ∃ v, w = v + 1 := ⟨w - 1, by omega⟩
      simp
theorem take_filt : ∀ {D : List En} {w : Nat} {c : Cap}, (∀ e ∈ D.take w, e.c ≠ c) → (D.filter fun e => decide (e.c ≠ c)).take w = D.take w
  | [], w, c, _ => by simp
  | x :: D, 0, c, _ => by simp
  | x :: D, w + 1, c, h => by
    rw [List.take_succ_cons] at h ⊢
    rw [List.filter_cons_of_pos (by simpa using h x List.mem_cons_self), List.take_succ_cons, take_filt (fun e he => h e (List.mem_cons_of_mem _ he))]
theorem count_const {h : Cap → Int} (hc : ∀ c, h c = 0) (L : List En) : ∀ i, countR L h 0 i = i
  | 0 => rfl
  | i + 1 => by rw [countR, if_pos (hc _), count_const hc L i]
theorem first_const {h : Cap → Int} (hc : ∀ c, h c = 0) (L : List En) : ∀ i, firstR L h 0 (i + 1) = 0
  | 0 => by rw [firstR, if_pos ⟨hc _, (by show (-1 : Int) < 0; decide)⟩]; rfl
  | i + 1 => by rw [firstR, if_neg (fun e => by rw [first_const hc L i] at e; omega), first_const hc L i]
/-- The list behind a put, told backwards. -/
theorem put_back {w : Nat} (hw : 0 < w) {h : Cap → Int} (hc : ∀ c, h c = 0) {L R : List En} (hL : L.reverse = (dd [] R).take w) (c : Cap) (r : Int) : (lput w h L c r).reverse = (dd [] (⟨c, r⟩ :: R)).take w := by
  have hD := (dd_uniq R []).1
  have e1 : dd [] (⟨c, r⟩ :: R) = ⟨c, r⟩ :: (dd [] R).filter fun e => decide (e.c ≠ c) := by
    rw [dd, if_neg (by simp)]
    congr 1
    exact dd_filter R [] c
  obtain ⟨D, hDe⟩ : ∃ D, dd [] R = D := ⟨_, rfl⟩
  rw [hDe] at hL hD e1
  have hu : Uniq L := by
    have h1 : Uniq (D.take w) := hD.sublist (List.take_sublist _ _)
    rw [← hL] at h1
    unfold Uniq at h1 ⊢
    rw [List.pairwise_reverse] at h1
    exact h1.imp (fun h2 e => h2 e.symm)
  have hmem : ∀ e, e ∈ L ↔ e ∈ D.take w := fun e => by rw [← hL, List.mem_reverse]
  rw [e1]
  obtain ⟨v, rfl⟩ : ∃ v, w = v + 1 := ⟨w - 1, by omega⟩
  rw [List.take_succ_cons]
  unfold lput
  rw [List.reverse_append]
  show ⟨c, r⟩ :: (lcut (v + 1) h L c).reverse = _
  congr 1
  unfold lcut
  by_cases hk : 0 ≤ knownR L c L.length
  · rw [if_pos hk]
    obtain ⟨k, hlt, e2, e3⟩ := known_at hk
    rw [e2, Int.toNat_natCast, erase_filter hu hlt e3, ← List.filter_reverse, hL, filt_take hD ⟨L[k], (hmem _).1 (List.getElem_mem hlt), e3⟩]
    rfl
  · rw [if_neg hk]
    have hn := known_none hk
    have hn2 : ∀ e ∈ D.take (v + 1), e.c ≠ c := fun e he => hn e ((hmem e).2 he)
    have hlen : L.length = (D.take (v + 1)).length := by rw [← hL, List.length_reverse]
    rw [List.length_take] at hlen
    rw [show h c = 0 from hc c, count_const hc]
    by_cases hf : v + 1 ≤ L.length
    · rw [if_pos hf]
      obtain ⟨m, hm⟩ : ∃ m, L.length = m + 1 := ⟨L.length - 1, by omega⟩
      rw [hm, first_const hc]
      have e4 : (L.eraseIdx (0 : Int).toNat).reverse = L.reverse.dropLast := by
        cases L with
        | nil => rfl
        | cons a l => simp
      rw [e4, hL, List.dropLast_eq_take, List.length_take, List.take_take, show min (min (v + 1) D.length - 1) (v + 1) = v by omega]
      exact (take_filt (fun e he => hn2 e (by
        have : D.take v = (D.take (v + 1)).take v := by rw [List.take_take, Nat.min_eq_left (by omega)]
        rw [this] at he
        exact List.mem_of_mem_take he))).symm
    · rw [if_neg hf, hL]
      have hD2 : D.length ≤ v := by omega
      have hn3 : ∀ e ∈ D, e.c ≠ c := fun e he => hn2 e (by rw [List.take_of_length_le (by omega)]; exact he)
      rw [List.take_of_length_le (by omega), List.filter_eq_self.2 (fun e he => by simpa using hn3 e he), List.take_of_length_le hD2]
/-- What is known of one that was not seen yet. -/
theorem look_back {w : Nat} {L R pre rest : List En} {S : List Cap} {x : En} (hL : L.reverse = (dd [] R).take w) (hD : dd [] R = pre ++ dd S (x :: rest)) (hS : pre.map (·.c) = S) (hx : x.c ∉ S) : look L x.c = if S.length + 1 ≤ w then some x.r else none := by
  have hu := (dd_uniq R []).1
  have hmem : ∀ e, e ∈ L ↔ e ∈ (dd [] R).take w := fun e => by rw [← hL, List.mem_reverse]
  rw [dd, if_neg hx] at hD
  have hlen : pre.length = S.length := by rw [← hS, List.length_map]
  have hget : (dd [] R)[S.length]? = some x := by rw [hD, List.getElem?_append_right (by omega), hlen]; simp
  obtain ⟨hlt, hge⟩ := List.getElem?_eq_some_iff.1 hget
  by_cases hw : S.length + 1 ≤ w
  · rw [if_pos hw]
    have hxL : x ∈ L := (hmem x).2 (List.mem_of_getElem? (i := S.length) (by rw [List.getElem?_take_of_lt (by omega)]; exact hget))
    refine look_some hxL fun a ha e => ?_
    obtain ⟨i, hi, hie⟩ := List.getElem_of_mem (List.mem_of_mem_take ((hmem a).1 ha))
    have := uniq_at hu hi hlt (by rw [hie, hge]; exact e)
    subst this
    exact hie.symm.trans hge
  · rw [if_neg hw]
    refine look_none fun a ha e => ?_
    obtain ⟨i, hi, hie⟩ := List.getElem_of_mem ((hmem a).1 ha)
    rw [List.length_take] at hi
    rw [List.getElem_take] at hie
    have := uniq_at hu (i := i) (j := S.length) (by omega) hlt (by rw [hie, hge]; exact e)
    omega
end Go.Proofs.Ytnebdabfandngaa.C

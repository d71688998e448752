/- Subtrees and ways up of a forest, as lists: plain Lean. Own text; Ytkmmpagflbnenaa stands for the seat's name. -/
import Derived.Test.YtkmmpagflbnenaaForest
namespace Go.Proofs.Ytkmmpagflbnenaa.Kin
set_option linter.unusedVariables false
/-- Where a node stands among those made. -/
def rk (L : List (Int × Int)) (n : Int) : Nat := L.findIdx (fun x => x.1 == n)
/-- The children in the order in which they are gone through. -/
def odr (L : List (Int × Int)) (t : Bool) (n : Int) : List Int := if t = true then (chl L n).reverse else chl L n
def dnF (L : List (Int × Int)) (t : Bool) : Nat → Int → List Int
  | 0, _ => []
  | f + 1, n => n :: (odr L t n).flatMap (dnF L t f)
/-- The subtree of n, n first. -/
def dn (L : List (Int × Int)) (t : Bool) (n : Int) : List Int := dnF L t (L.length - rk L n) n
def upF (L : List (Int × Int)) : Nat → Int → List Int
  | 0, _ => []
  | f + 1, n => if has L n = true then n :: upF L f (par L n) else []
/-- The way to the root. -/
def upl (L : List (Int × Int)) (n : Int) : List Int := upF L (rk L n + 1) n
section
variable {m : Nat} {L : List (Int × Int)}
theorem rk_lt {n : Int} (h : has L n = true) : rk L n < L.length := by
  unfold rk
  rw [List.findIdx_lt_length]
  obtain ⟨p, hp⟩ := has_iff.1 h
  exact ⟨_, hp, by simp⟩
theorem rk_at {n : Int} (h : has L n = true) : ∃ p, L[rk L n]? = some (n, p) := by
  have hl := rk_lt h
  have h1 : (L[rk L n].1 == n) = true := List.findIdx_getElem (w := hl)
  refine ⟨L[rk L n].2, ?_⟩
  rw [List.getElem?_eq_getElem hl]
  have : L[rk L n].1 = n := by simpa using h1
  exact congrArg some (Prod.ext this rfl)
theorem Inv.rk_par (h : Inv m L) {n : Int} (hn : has L n = true) (hp : has L (par L n) = true) : rk L (par L n) < rk L n := by
  obtain ⟨p, e1⟩ := rk_at hn
  obtain ⟨q, e2⟩ := rk_at hp
  have hpp : p = par L n := (h.par_eq (List.mem_of_getElem? e1)).symm
  rcases Nat.lt_or_ge (rk L (par L n)) (rk L n) with hlt | hge
  · exact hlt
  · exact absurd (show p = par L n from hpp) (h.ord _ _ _ _ e1 e2 hge)
theorem mem_odr {t : Bool} {n k : Int} : k ∈ odr L t n ↔ k ∈ chl L n := by
  unfold odr; split <;> simp
theorem Inv.rk_odr (h : Inv m L) {t : Bool} {n k : Int} (hn : has L n = true) (hk : k ∈ odr L t n) : has L k = true ∧ rk L n < rk L k ∧ rk L k < L.length := by
  have h1 := h.chl_par (mem_odr.1 hk)
  have h2 := h.rk_par h1.1 (by rw [h1.2]; exact hn)
  rw [h1.2] at h2
  exact ⟨h1.1, h2, rk_lt h1.1⟩
theorem flatMap_congr' {α β : Type} {l : List α} {f g : α → List β} (h : ∀ x ∈ l, f x = g x) : l.flatMap f = l.flatMap g := by
  induction l with
  | nil => rfl
  | cons a l ih => simp only [List.flatMap_cons]; rw [h a (by simp), ih (fun x hx => h x (by simp [hx]))]
theorem Inv.dnF_any (h : Inv m L) (t : Bool) : ∀ (f : Nat) (n : Int), has L n = true → L.length - rk L n ≤ f → dnF L t f n = dn L t n := by
  intro f
  induction f using Nat.strongRecOn with
  | ind f ih =>
    intro n hn hf
    have hlt := rk_lt hn
    obtain ⟨k, hk⟩ : ∃ k, L.length - rk L n = k + 1 := ⟨L.length - rk L n - 1, by omega⟩
    obtain ⟨f', rfl⟩ : ∃ f', f = f' + 1 := ⟨f - 1, by omega⟩
    unfold dn
    rw [hk]
    simp only [dnF]
    congr 1
    refine flatMap_congr' (fun c hc => ?_)
    obtain ⟨h1, h2, h3⟩ := h.rk_odr hn hc
    rcases Nat.lt_or_ge k f' with hkf | hkf
    · rw [ih f' (by omega) c h1 (by omega), ih k (by omega) c h1 (by omega)]
    · have : k = f' := by omega
      rw [this]
/-- The subtree's law. -/
theorem Inv.dn_eq (h : Inv m L) (t : Bool) {n : Int} (hn : has L n = true) : dn L t n = n :: (odr L t n).flatMap (dn L t) := by
  have hlt := rk_lt hn
  obtain ⟨k, hk⟩ : ∃ k, L.length - rk L n = k + 1 := ⟨L.length - rk L n - 1, by omega⟩
  conv => lhs; unfold dn
  rw [hk]
  simp only [dnF]
  congr 1
  refine flatMap_congr' (fun c hc => ?_)
  obtain ⟨h1, h2, h3⟩ := h.rk_odr hn hc
  exact h.dnF_any t k c h1 (by omega)
theorem Inv.upF_any (h : Inv m L) : ∀ (f : Nat) (n : Int), rk L n + 1 ≤ f → upF L f n = upl L n := by
  intro f
  induction f using Nat.strongRecOn with
  | ind f ih =>
    intro n hf
    obtain ⟨f', rfl⟩ : ∃ f', f = f' + 1 := ⟨f - 1, by omega⟩
    unfold upl
    simp only [upF]
    by_cases hn : has L n = true
    · rw [if_pos hn, if_pos hn]
      congr 1
      by_cases hp : has L (par L n) = true
      · have := h.rk_par hn hp
        rcases Nat.lt_or_ge (rk L n) f' with hkf | hkf
        · rw [ih f' (by omega) _ (by omega), ih (rk L n) (by omega) _ (by omega)]
        · have : rk L n = f' := by omega
          rw [this]
      · have : ∀ g, upF L g (par L n) = [] := fun g => by
          cases g with
          | zero => rfl
          | succ g => simp only [upF]; rw [if_neg hp]
        rw [this, this]
    · rw [if_neg hn, if_neg hn]
theorem Inv.up_eq (h : Inv m L) {n : Int} (hn : has L n = true) : upl L n = n :: upl L (par L n) := by
  conv => lhs; unfold upl
  simp only [upF]
  rw [if_pos hn]
  congr 1
  by_cases hp : has L (par L n) = true
  · exact h.upF_any _ _ (h.rk_par hn hp)
  · unfold upl
    have : ∀ g, upF L g (par L n) = [] := fun g => by
      cases g with
      | zero => rfl
      | succ g => simp only [upF]; rw [if_neg hp]
    rw [this, this]
theorem up_no {n : Int} (hn : ¬ has L n = true) : upl L n = [] := by
  unfold upl
  simp only [upF]
  rw [if_neg hn]
/-- Each of a way up is there, and stands no later. -/
theorem Inv.up_rk (h : Inv m L) : ∀ (f : Nat) (n x : Int), rk L n < f → x ∈ upl L n → has L x = true ∧ rk L x ≤ rk L n := by
  intro f
  induction f with
  | zero => intro n x hf; omega
  | succ f ih =>
    intro n x hf hx
    by_cases hn : has L n = true
    · rw [h.up_eq hn] at hx
      rcases List.mem_cons.1 hx with rfl | hx
      · exact ⟨hn, Nat.le_refl _⟩
      · by_cases hp : has L (par L n) = true
        · have hr := h.rk_par hn hp
          have := ih (par L n) x (by omega) hx
          exact ⟨this.1, by omega⟩
        · rw [up_no hp] at hx; cases hx
    · rw [up_no hn] at hx; cases hx
theorem Inv.up_mem (h : Inv m L) {n x : Int} (hx : x ∈ upl L n) : has L x = true ∧ rk L x ≤ rk L n := h.up_rk (rk L n + 1) n x (by omega) hx
theorem Inv.up_nodup (h : Inv m L) : ∀ (f : Nat) (n : Int), rk L n < f → (upl L n).Nodup := by
  intro f
  induction f with
  | zero => intro n hf; omega
  | succ f ih =>
    intro n hf
    by_cases hn : has L n = true
    · rw [h.up_eq hn, List.nodup_cons]
      by_cases hp : has L (par L n) = true
      · have hr := h.rk_par hn hp
        exact ⟨fun e => by have := (h.up_mem e).2; omega, ih _ (by omega)⟩
      · rw [up_no hp]; simp
    · rw [up_no hn]; simp
theorem Inv.up_self (h : Inv m L) {n : Int} (hn : has L n = true) : n ∈ upl L n := by rw [h.up_eq hn]; simp
theorem Inv.up_trans (h : Inv m L) : ∀ (f : Nat) (n x y : Int), rk L n < f → x ∈ upl L n → y ∈ upl L x → y ∈ upl L n := by
  intro f
  induction f with
  | zero => intro n x y hf; omega
  | succ f ih =>
    intro n x y hf hx hy
    by_cases hn : has L n = true
    · rw [h.up_eq hn] at hx
      rcases List.mem_cons.1 hx with rfl | hx
      · exact hy
      · rw [h.up_eq hn]
        by_cases hp : has L (par L n) = true
        · have hr := h.rk_par hn hp
          exact List.mem_cons_of_mem _ (ih (par L n) x y (by omega) hx hy)
        · rw [up_no hp] at hx; cases hx
    · rw [up_no hn] at hx; cases hx
/-- Two of one way up: one of them is above the other. -/
theorem Inv.up_line (h : Inv m L) : ∀ (f : Nat) (n x y : Int), rk L n < f → x ∈ upl L n → y ∈ upl L n → y ∈ upl L x ∨ x ∈ upl L y := by
  intro f
  induction f with
  | zero => intro n x y hf; omega
  | succ f ih =>
    intro n x y hf hx hy
    by_cases hn : has L n = true
    · have hx' := hx
      have hy' := hy
      rw [h.up_eq hn] at hx hy
      rcases List.mem_cons.1 hx with rfl | hx
      · exact .inl hy'
      · rcases List.mem_cons.1 hy with rfl | hy
        · exact .inr hx'
        · by_cases hp : has L (par L n) = true
          · exact ih (par L n) x y (by have := h.rk_par hn hp; omega) hx hy
          · rw [up_no hp] at hx; cases hx
    · rw [up_no hn] at hx; cases hx
/-- In a node's subtree are just those on whose way up it lies. -/
theorem Inv.mem_dn (h : Inv m L) (t : Bool) : ∀ (f : Nat) (n : Int), L.length - rk L n < f → has L n = true → ∀ x, x ∈ dn L t n ↔ n ∈ upl L x := by
  intro f
  induction f with
  | zero => intro n hf; omega
  | succ f ih =>
    intro n hf hn x
    rw [h.dn_eq t hn, List.mem_cons, List.mem_flatMap]
    constructor
    · rintro (rfl | ⟨c, hc, hx⟩)
      · exact h.up_self hn
      · obtain ⟨h1, h2, h3⟩ := h.rk_odr hn hc
        have h4 := (ih c (by omega) h1 x).1 hx
        have h5 : n ∈ upl L c := by
          rw [h.up_eq h1, (h.chl_par (mem_odr.1 hc)).2]
          exact List.mem_cons_of_mem _ (h.up_self hn)
        exact h.up_trans (rk L x + 1) x c n (by omega) h4 h5
    · intro hx
      -- the child of n on x's way up
      have key : ∀ (g : Nat) (y : Int), rk L y < g → n ∈ upl L y → y = n ∨ ∃ c ∈ odr L t n, c ∈ upl L y := by
        intro g
        induction g with
        | zero => intro y hy; omega
        | succ g ihg =>
          intro y hy hny
          by_cases hyh : has L y = true
          · have hny' := hny
            rw [h.up_eq hyh] at hny
            rcases List.mem_cons.1 hny with rfl | hny
            · exact .inl rfl
            · by_cases hp : has L (par L y) = true
              · have hr := h.rk_par hyh hp
                rcases ihg (par L y) (by omega) hny with e | ⟨c, hc, hcy⟩
                · refine .inr ⟨y, mem_odr.2 (mem_chl.2 ?_), h.up_self hyh⟩
                  rw [← e]; exact h.mem_par hyh
                · exact .inr ⟨c, hc, by rw [h.up_eq hyh]; exact List.mem_cons_of_mem _ hcy⟩
              · rw [up_no hp] at hny; cases hny
          · rw [up_no hyh] at hny; cases hny
      rcases key (rk L x + 1) x (by omega) hx with e | ⟨c, hc, hcx⟩
      · exact .inl e
      · obtain ⟨h1, h2, h3⟩ := h.rk_odr hn hc
        exact .inr ⟨c, hc, (ih c (by omega) h1 x).2 hcx⟩
theorem Inv.dn_mem (h : Inv m L) (t : Bool) {n : Int} (hn : has L n = true) (x : Int) : x ∈ dn L t n ↔ n ∈ upl L x := h.mem_dn t (L.length - rk L n + 1) n (by omega) hn x
theorem Inv.odr_nodup (h : Inv m L) (t : Bool) (n : Int) : (odr L t n).Nodup := by
  unfold odr
  split
  · exact List.pairwise_reverse.2 ((h.chl_nodup n).imp (fun e => e.symm))
  · exact h.chl_nodup n
/-- Each node once. -/
theorem Inv.dn_nodup (h : Inv m L) (t : Bool) : ∀ (f : Nat) (n : Int), L.length - rk L n < f → has L n = true → (dn L t n).Nodup := by
  intro f
  induction f with
  | zero => intro n hf; omega
  | succ f ih =>
    intro n hf hn
    rw [h.dn_eq t hn, List.nodup_cons]
    refine ⟨fun e => ?_, ?_⟩
    · obtain ⟨c, hc, hx⟩ := List.mem_flatMap.1 e
      obtain ⟨h1, h2, h3⟩ := h.rk_odr hn hc
      have := (h.up_mem ((h.dn_mem t h1 n).1 hx)).2
      omega
    · have gen : ∀ l : List Int, l.Nodup → (∀ c ∈ l, c ∈ odr L t n) → (l.flatMap (dn L t)).Nodup := by
        intro l
        induction l with
        | nil => intro _ _; simp
        | cons c l ihl =>
          intro hl hm
          rw [List.nodup_cons] at hl
          rw [List.flatMap_cons, List.nodup_append]
          have hc := hm c (by simp)
          obtain ⟨h1, h2, h3⟩ := h.rk_odr hn hc
          refine ⟨ih c (by omega) h1, ihl hl.2 (fun d hd => hm d (by simp [hd])), fun a ha b hb e => ?_⟩
          subst e
          obtain ⟨d, hd, hb⟩ := List.mem_flatMap.1 hb
          have hd' := hm d (by simp [hd])
          obtain ⟨g1, g2, g3⟩ := h.rk_odr hn hd'
          have u1 := (h.dn_mem t h1 a).1 ha
          have u2 := (h.dn_mem t g1 a).1 hb
          have pc := (h.chl_par (mem_odr.1 hc)).2
          have pd := (h.chl_par (mem_odr.1 hd')).2
          have hcd : c ≠ d := fun e => hl.1 (e ▸ hd)
          rcases h.up_line (rk L a + 1) a c d (by omega) u1 u2 with e | e
          · rw [h.up_eq h1, pc] at e
            rcases List.mem_cons.1 e with e | e
            · exact hcd e.symm
            · have := (h.up_mem e).2; omega
          · rw [h.up_eq g1, pd] at e
            rcases List.mem_cons.1 e with e | e
            · exact hcd e
            · have := (h.up_mem e).2; omega
      exact gen _ (h.odr_nodup t n) (fun c hc => hc)
theorem Inv.len_of (h : Inv m L) {l : List Int} (hl : l.Nodup) (hm : ∀ x ∈ l, has L x = true) : l.length ≤ m := by
  have h1 : (l.map Int.toNat).Nodup := by
    apply List.Pairwise.map
    · intro a b hab
      exact hab
    · refine hl.imp_of_mem ?_
      intro a b ha hb hne e
      have := (h.has_rng (hm a ha)).1
      have := (h.has_rng (hm b hb)).1
      omega
  have h2 : l.map Int.toNat ⊆ List.range m := by
    intro k hk
    obtain ⟨a, ha, rfl⟩ := List.mem_map.1 hk
    have := h.has_rng (hm a ha)
    rw [List.mem_range]; omega
  have h4 := h1.length_le_of_subset h2
  simpa using h4
theorem Inv.dn_len (h : Inv m L) (t : Bool) {n : Int} (hn : has L n = true) : (dn L t n).length ≤ m :=
  h.len_of (h.dn_nodup t (L.length - rk L n + 1) n (by omega) hn) (fun x hx => by
    by_cases hxh : has L x = true
    · exact hxh
    · have := (h.dn_mem t hn x).1 hx
      rw [up_no hxh] at this; cases this)
theorem Inv.up_len (h : Inv m L) (n : Int) : (upl L n).length ≤ m := h.len_of (h.up_nodup (rk L n + 1) n (by omega)) (fun x hx => (h.up_mem hx).1)
/-- What is answered: none where none is there. -/
def dnl (L : List (Int × Int)) (t : Bool) (n : Int) : List Int := if has L n = true then dn L t n else []
/-- The subtree, children ahead of their parents. -/
def fall (L : List (Int × Int)) (n : Int) : List Int := (dnl L true n).reverse
theorem Inv.fall_eq (h : Inv m L) {n : Int} (hn : has L n = true) : fall L n = (chl L n).flatMap (fall L) ++ [n] := by
  unfold fall dnl
  rw [if_pos hn, h.dn_eq true hn, List.reverse_cons]
  congr 1
  have gen : ∀ l : List Int, (∀ c ∈ l, has L c = true) → (l.reverse.flatMap (dn L true)).reverse = l.flatMap (fun n => (if has L n = true then dn L true n else []).reverse) := by
    intro l
    induction l with
    | nil => intro _; rfl
    | cons c l ih =>
      intro hm
      rw [List.reverse_cons, List.flatMap_append, List.reverse_append, ih (fun d hd => hm d (by simp [hd]))]
      simp only [List.flatMap_cons, List.flatMap_nil, List.append_nil]
      rw [if_pos (hm c (by simp))]
  have : odr L true n = (chl L n).reverse := by simp [odr]
  rw [this]
  exact gen _ (fun c hc => (h.chl_par hc).1)
end
end Go.Proofs.Ytkmmpagflbnenaa.Kin

/- Cache, in plain lists: what the places of the sets know, and the document's list of puts. Own text; no program in sight. -/
import Derived.WalkKit
namespace Go.Proofs.Ytnebdabfandngaa.C
open Go.RowKit

structure Cap where
  obj : Int
  hi : Int
  lo : Int
deriving DecidableEq
structure En where
  c : Cap
  r : Int
deriving DecidableEq
structure Pl where
  put : Bool
  cap : Cap
  rights : Int
  epoch : Int
  age : Int
@[reducible] def z0 : Cap := ⟨0, 0, 0⟩
@[reducible] def e0 : En := ⟨z0, 0⟩
@[reducible] def pl0 : Pl := ⟨false, z0, 0, 0, 0⟩
def kn (epoch : Int) (p : Pl) : Bool := p.put && decide (p.epoch = epoch)
def en (p : Pl) : En := ⟨p.cap, p.rights⟩
def look (L : List En) (c : Cap) : Option Int := (L.find? fun e => decide (e.c = c)).map (·.r)
def knownR (L : List En) (c : Cap) : Nat → Int
  | 0 => -1
  | i + 1 => if (L.getD i e0).c = c then (i : Int) else knownR L c i
def firstR (L : List En) (h : Cap → Int) (s : Int) : Nat → Int
  | 0 => -1
  | i + 1 => if h (L.getD i e0).c = s ∧ firstR L h s i < 0 then (i : Int) else firstR L h s i
def countR (L : List En) (h : Cap → Int) (s : Int) : Nat → Nat
  | 0 => 0
  | i + 1 => if h (L.getD i e0).c = s then countR L h s i + 1 else countR L h s i
/-- The document's list behind a put, where there are sets. -/
def lcut (ways : Nat) (h : Cap → Int) (L : List En) (c : Cap) : List En :=
  if 0 ≤ knownR L c L.length then L.eraseIdx (knownR L c L.length).toNat
  else if ways ≤ countR L h (h c) L.length then L.eraseIdx (firstR L h (h c) L.length).toNat else L
def lput (ways : Nat) (h : Cap → Int) (L : List En) (c : Cap) (r : Int) : List En := lcut ways h L c ++ [⟨c, r⟩]
theorem knownR_lo (L : List En) (c : Cap) (i : Nat) : -1 ≤ knownR L c i ∧ knownR L c i < i := by
  induction i with
  | zero => simp [knownR]
  | succ i ih => rw [knownR]; split <;> omega
theorem knownR_is {L : List En} {c : Cap} {i : Nat} (h : 0 ≤ knownR L c i) : (L.getD (knownR L c i).toNat e0).c = c := by
  induction i with
  | zero => simp [knownR] at h
  | succ i ih =>
    rw [knownR] at h ⊢
    by_cases e : (L.getD i e0).c = c
    · rw [if_pos e]; exact e
    · rw [if_neg e] at h ⊢; exact ih h
theorem knownR_no {L : List En} {c : Cap} {i : Nat} (h : knownR L c i < 0) : ∀ j, j < i → (L.getD j e0).c ≠ c := by
  induction i with
  | zero => intro j hj; omega
  | succ i ih =>
    intro j hj
    rw [knownR] at h
    by_cases e : (L.getD i e0).c = c
    · rw [if_pos e] at h; omega
    · rw [if_neg e] at h
      by_cases hji : j = i
      · subst hji; exact e
      · exact ih h j (by omega)
theorem firstR_lo (L : List En) (h : Cap → Int) (s : Int) (i : Nat) : -1 ≤ firstR L h s i ∧ firstR L h s i < i := by
  induction i with
  | zero => simp [firstR]
  | succ i ih => rw [firstR]; split <;> omega
theorem firstR_is {L : List En} {h : Cap → Int} {s : Int} {i : Nat} (hp : 0 ≤ firstR L h s i) : h (L.getD (firstR L h s i).toNat e0).c = s ∧ ∀ j, j < (firstR L h s i).toNat → h (L.getD j e0).c ≠ s := by
  induction i with
  | zero => simp [firstR] at hp
  | succ i ih =>
    rw [firstR] at hp ⊢
    by_cases e : h (L.getD i e0).c = s ∧ firstR L h s i < 0
    · rw [if_pos e]
      refine ⟨e.1, ?_⟩
      have : ∀ k, firstR L h s k < 0 → ∀ j, j < k → h (L.getD j e0).c ≠ s := by
        intro k
        induction k with
        | zero => intro _ j hj; omega
        | succ k ihk =>
          intro hk j hj
          rw [firstR] at hk
          by_cases e2 : h (L.getD k e0).c = s ∧ firstR L h s k < 0
          · rw [if_pos e2] at hk; omega
          · rw [if_neg e2] at hk
            by_cases hjk : j = k
            · subst hjk; exact fun e3 => e2 ⟨e3, hk⟩
            · exact ihk hk j (by omega)
      exact this i e.2
    · rw [if_neg e] at hp ⊢; exact ih hp
theorem countR_le (L : List En) (h : Cap → Int) (s : Int) (i : Nat) : countR L h s i ≤ i := by
  induction i with
  | zero => exact Nat.le_refl _
  | succ i ih => rw [countR]; split <;> omega
theorem countR_pos {L : List En} {h : Cap → Int} {s : Int} {i : Nat} (hp : 0 < countR L h s i) : 0 ≤ firstR L h s i := by
  induction i with
  | zero => simp [countR] at hp
  | succ i ih =>
    rw [countR] at hp
    rw [firstR]
    by_cases e : h (L.getD i e0).c = s
    · by_cases e2 : firstR L h s i < 0
      · rw [if_pos ⟨e, e2⟩]; omega
      · rw [if_neg (fun h => e2 h.2)]; omega
    · rw [if_neg e] at hp
      rw [if_neg (fun h => e h.1)]; exact ih hp
theorem look_none {L : List En} {c : Cap} (h : ∀ e ∈ L, e.c ≠ c) : look L c = none := by
  unfold look
  rw [List.find?_eq_none.2 (fun e he => by simpa using h e he)]
  rfl
theorem look_some {L : List En} {e : En} (he : e ∈ L) (hu : ∀ a ∈ L, a.c = e.c → a = e) : look L e.c = some e.r := by
  unfold look
  obtain ⟨a, ha⟩ : ∃ a, L.find? (fun x => decide (x.c = e.c)) = some a := by
    cases hf : L.find? (fun x => decide (x.c = e.c)) with
    | some a => exact ⟨a, rfl⟩
    | none =>
      have := List.find?_eq_none.1 hf e he
      simp at this
  have h1 := List.find?_some ha
  have h2 := List.mem_of_find?_eq_some ha
  rw [ha, hu a h2 (by simpa using h1)]
  rfl

/-- What the places know is the list Q of their numbers, the oldest first. -/
structure Inv (sets ways : Nat) (h : Cap → Int) (pl : Nat → Pl) (epoch puts : Int) (Q : List Nat) : Prop where
  mem : ∀ q, q ∈ Q ↔ (q < 64 ∧ kn epoch (pl q) = true)
  in' : ∀ q, (pl q).put = true → q / 4 < sets ∧ q % 4 < ways
  sorted : Q.Pairwise fun a b => (pl a).age < (pl b).age
  home : ∀ q ∈ Q, h (pl q).cap = ((q / 4 : Nat) : Int)
  uniq : ∀ a ∈ Q, ∀ b ∈ Q, (pl a).cap = (pl b).cap → a = b
  old : ∀ q, (pl q).put = true → (pl q).epoch ≤ epoch ∧ (pl q).age ≤ puts
section
variable {sets ways : Nat} {h : Cap → Int} {pl : Nat → Pl} {epoch puts : Int} {Q : List Nat}
def lst (pl : Nat → Pl) (Q : List Nat) : List En := Q.map fun q => en (pl q)
theorem Inv.nodup (H : Inv sets ways h pl epoch puts Q) : Q.Nodup := H.sorted.imp (fun {a b} hab e => by subst e; omega)
theorem Inv.found (H : Inv sets ways h pl epoch puts Q) {q : Nat} (hq : q ∈ Q) : look (lst pl Q) (pl q).cap = some (pl q).rights := by
  refine look_some (e := en (pl q)) (List.mem_map.2 ⟨q, hq, rfl⟩) ?_
  intro a ha e
  obtain ⟨b, hb, rfl⟩ := List.mem_map.1 ha
  rw [H.uniq b hb q hq e]
theorem Inv.missed (_H : Inv sets ways h pl epoch puts Q) {c : Cap} (hc : ∀ q ∈ Q, (pl q).cap ≠ c) : look (lst pl Q) c = none := by
  refine look_none ?_
  intro a ha
  obtain ⟨b, hb, rfl⟩ := List.mem_map.1 ha
  exact hc b hb
theorem lst_getD {pl : Nat → Pl} {Q : List Nat} {k : Nat} (hk : k < Q.length) : ((lst pl Q).getD k e0) = en (pl Q[k]) := by
  unfold lst
  rw [List.getD_eq_getElem?_getD, List.getElem?_map, List.getElem?_eq_getElem hk]
  rfl
def upd {α : Type} (f : Nat → α) (j : Nat) (v : α) : Nat → α := fun i => if i = j then v else f i
theorem upd_same {α : Type} (f : Nat → α) (j : Nat) (v : α) : upd f j v j = v := by simp [upd]
theorem upd_else {α : Type} (f : Nat → α) {j i : Nat} (v : α) (h : i ≠ j) : upd f j v i = f i := by simp [upd, h]
/-- A place that may have been known is written anew: it stands behind all others. -/
theorem Inv.write (H : Inv sets ways h pl epoch puts Q) {R : List Nat} {q : Nat} {c : Cap} {r : Int} (hR : R.Sublist Q) (hm : ∀ x, x ∈ R ↔ x ∈ Q ∧ x ≠ q) (hq : q < 64) (hin : q / 4 < sets ∧ q % 4 < ways) (hh : h c = ((q / 4 : Nat) : Int)) (hc : ∀ x ∈ R, (pl x).cap ≠ c) :
    Inv sets ways h (upd pl q ⟨true, c, r, epoch, puts + 1⟩) epoch (puts + 1) (R ++ [q]) ∧ lst (upd pl q ⟨true, c, r, epoch, puts + 1⟩) (R ++ [q]) = lst pl R ++ [⟨c, r⟩] := by
  have e1 : ∀ x ∈ R, upd pl q ⟨true, c, r, epoch, puts + 1⟩ x = pl x := fun x hx => upd_else _ _ ((hm x).1 hx).2
  refine ⟨⟨fun x => ?_, fun x hx => ?_, ?_, fun x hx => ?_, fun a ha b hb e => ?_, fun x hx => ?_⟩, ?_⟩
  · by_cases hx : x = q
    · subst hx
      simp [upd_same, kn, hq]
    · rw [List.mem_append, hm, upd_else _ _ hx, H.mem]
      simp [hx]
  · by_cases e : x = q
    · rw [e]; exact hin
    · rw [upd_else _ _ e] at hx; exact H.in' x hx
  · rw [List.pairwise_append]
    refine ⟨(H.sorted.sublist hR).imp_of_mem (fun {a b} ha hb hab => by rw [e1 a ha, e1 b hb]; exact hab), List.pairwise_singleton _ _, fun a ha b hb => ?_⟩
    have e : b = q := by simpa using hb
    rw [e, e1 a ha, upd_same]
    have h1 := ((H.mem a).1 ((hm a).1 ha).1).2
    have := (H.old a (by simp [kn] at h1; exact h1.1)).2
    show (pl a).age < puts + 1
    omega
  · rcases List.mem_append.1 hx with hx | hx
    · rw [e1 x hx]; exact H.home x ((hm x).1 hx).1
    · have e : x = q := by simpa using hx
      rw [e, upd_same]; exact hh
  · rcases List.mem_append.1 ha with ha | ha <;> rcases List.mem_append.1 hb with hb | hb
    · rw [e1 a ha, e1 b hb] at e
      exact H.uniq a ((hm a).1 ha).1 b ((hm b).1 hb).1 e
    · have e2 : b = q := by simpa using hb
      rw [e1 a ha, e2, upd_same] at e
      exact absurd e (hc a ha)
    · have e2 : a = q := by simpa using ha
      rw [e1 b hb, e2, upd_same] at e
      exact absurd e.symm (hc b hb)
    · have e2 : a = q := by simpa using ha
      have e3 : b = q := by simpa using hb
      rw [e2, e3]
  · by_cases e : x = q
    · rw [e, upd_same]; exact ⟨Int.le_refl _, Int.le_refl _⟩
    · rw [upd_else _ _ e] at hx ⊢
      have := H.old x hx
      omega
  · unfold lst
    rw [List.map_append]
    congr 1
    · exact List.map_congr_left (fun x hx => by rw [e1 x hx])
    · simp [upd_same, en]
theorem mem_erased {Q : List Nat} (hn : Q.Nodup) {k q : Nat} (hk : Q[k]? = some q) (x : Nat) : x ∈ Q.eraseIdx k ↔ x ∈ Q ∧ x ≠ q := by
  rw [List.mem_eraseIdx_iff_getElem?]
  constructor
  · rintro ⟨i, hi, hx⟩
    refine ⟨List.mem_of_getElem? hx, fun e => ?_⟩
    subst e
    have h1 := (List.getElem?_eq_some_iff.1 hx)
    have h2 := (List.getElem?_eq_some_iff.1 hk)
    obtain ⟨l1, g1⟩ := h1
    obtain ⟨l2, g2⟩ := h2
    exact hi ((List.getElem_inj (h₀ := l1) (h₁ := l2) hn).1 (g1.trans g2.symm))
  · rintro ⟨hx, hne⟩
    obtain ⟨i, hi⟩ := List.getElem?_of_mem hx
    refine ⟨i, fun e => ?_, hi⟩
    subst e
    rw [hk] at hi
    exact hne (Option.some.inj hi).symm
theorem lst_erase (pl : Nat → Pl) (Q : List Nat) (k : Nat) : lst pl (Q.eraseIdx k) = (lst pl Q).eraseIdx k := by
  unfold lst
  apply List.ext_getElem?
  intro i
  rw [List.getElem?_map, List.getElem?_eraseIdx, List.getElem?_eraseIdx]
  split <;> rw [List.getElem?_map]
/-- The put, the capability being known at q. -/
theorem Inv.again (H : Inv sets ways h pl epoch puts Q) {q : Nat} (hq : q ∈ Q) {c : Cap} (hc : (pl q).cap = c) (r : Int) :
    ∃ Q', Inv sets ways h (upd pl q ⟨true, c, r, epoch, puts + 1⟩) epoch (puts + 1) Q' ∧ lst (upd pl q ⟨true, c, r, epoch, puts + 1⟩) Q' = lput ways h (lst pl Q) c r := by
  have hlen : (lst pl Q).length = Q.length := by simp [lst]
  obtain ⟨i, hi⟩ := List.getElem?_of_mem hq
  obtain ⟨hil, hie⟩ := List.getElem?_eq_some_iff.1 hi
  have hk : 0 ≤ knownR (lst pl Q) c (lst pl Q).length := by
    have h1 : ¬ knownR (lst pl Q) c (lst pl Q).length < 0 := fun hlt => by
      have := knownR_no hlt i (by omega)
      rw [lst_getD hil, hie] at this
      exact this hc
    omega
  obtain ⟨k, hkk⟩ : ∃ k : Nat, knownR (lst pl Q) c (lst pl Q).length = k := ⟨_, (Int.toNat_of_nonneg hk).symm⟩
  have hkl : k < Q.length := by have := (knownR_lo (lst pl Q) c (lst pl Q).length).2; omega
  have hkc := knownR_is hk
  rw [hkk, Int.toNat_natCast, lst_getD hkl] at hkc
  have hkq : Q[k] = q := H.uniq _ (List.getElem_mem hkl) q hq (by rw [hc]; exact hkc)
  have hkq' : Q[k]? = some q := by rw [List.getElem?_eq_getElem hkl, hkq]
  have hm := mem_erased H.nodup hkq'
  have hkn := ((H.mem q).1 hq)
  have hput : (pl q).put = true := by have := hkn.2; simp [kn] at this; exact this.1
  obtain ⟨h1, h2⟩ := H.write (R := Q.eraseIdx k) (q := q) (c := c) (r := r) (List.eraseIdx_sublist _ _) hm hkn.1 (H.in' q hput) (by rw [← hc]; exact H.home q hq) (fun x hx e => ((hm x).1 hx).2 (H.uniq x ((hm x).1 hx).1 q hq (e.trans hc.symm)))
  refine ⟨_, h1, ?_⟩
  rw [h2, lst_erase]
  unfold lput lcut
  rw [if_pos hk, hkk, Int.toNat_natCast]
/-- How many of a set's places are known. -/
def kcount (Q : List Nat) (s : Nat) : Nat → Nat
  | 0 => 0
  | i + 1 => if s * 4 + i ∈ Q then kcount Q s i + 1 else kcount Q s i
theorem kcount_all {Q : List Nat} {s : Nat} : ∀ {n : Nat}, (∀ i, i < n → s * 4 + i ∈ Q) → kcount Q s n = n
  | 0, _ => rfl
  | n + 1, h => by rw [kcount, if_pos (h n (by omega)), kcount_all (fun i hi => h i (by omega))]
theorem kcount_le (Q : List Nat) (s : Nat) : ∀ n, kcount Q s n ≤ n
  | 0 => Nat.le_refl _
  | n + 1 => by have := kcount_le Q s n; rw [kcount]; split <;> omega
theorem kcount_lt {Q : List Nat} {s i : Nat} (h : s * 4 + i ∉ Q) : ∀ {n : Nat}, i < n → kcount Q s n < n
  | n + 1, hi => by
    rw [kcount]
    by_cases e : i = n
    · subst e
      rw [if_neg h]
      have := kcount_le Q s i
      omega
    · have := kcount_lt h (n := n) (by omega)
      split <;> omega
theorem kcount_cons {Q : List Nat} {s q : Nat} (hq : q ∉ Q) : ∀ n, n ≤ 4 → kcount (q :: Q) s n = kcount Q s n + (if q / 4 = s ∧ q % 4 < n then 1 else 0)
  | 0, _ => by simp [kcount]
  | n + 1, hn => by
    have ih := kcount_cons (s := s) hq n (by omega)
    rw [kcount, kcount, ih]
    by_cases e : s * 4 + n = q
    · subst e
      have e1 : s * 4 + n ∉ Q := hq
      have h1 : (s * 4 + n) / 4 = s := by omega
      have h2 : (s * 4 + n) % 4 = n := by omega
      rw [if_pos (by simp), if_neg e1, h1, h2, if_neg (by omega), if_pos ⟨rfl, by omega⟩]
    · have e1 : (s * 4 + n ∈ q :: Q) ↔ s * 4 + n ∈ Q := by simp [e]
      have e2 : (q / 4 = s ∧ q % 4 < n + 1) ↔ (q / 4 = s ∧ q % 4 < n) := by
        constructor
        · rintro ⟨h1, h2⟩
          refine ⟨h1, ?_⟩
          have : q % 4 ≠ n := fun e3 => e (by omega)
          omega
        · rintro ⟨h1, h2⟩; exact ⟨h1, by omega⟩
      simp only [e1, e2]
      split <;> omega
theorem count_snoc {Q : List Nat} {s q : Nat} (hq : q ∉ Q) (n : Nat) (hn : n ≤ 4) : kcount (Q ++ [q]) s n = kcount Q s n + (if q / 4 = s ∧ q % 4 < n then 1 else 0) := by
  rw [← kcount_cons hq n hn]
  have : ∀ m, kcount (Q ++ [q]) s m = kcount (q :: Q) s m := by
    intro m
    induction m with
    | zero => rfl
    | succ m ih => rw [kcount, kcount, ih]; simp [or_comm]
  exact this n
theorem Inv.count (H : Inv sets ways h pl epoch puts Q) (hw : ways ≤ 4) (s : Nat) : ∀ i, i ≤ Q.length → countR (lst pl Q) h (s : Int) i = kcount (Q.take i) s ways
  | 0, _ => by
    rw [countR, List.take_zero]
    have : ∀ n, kcount [] s n = 0 := by
      intro n
      induction n with
      | zero => rfl
      | succ n ih => rw [kcount, if_neg (by simp), ih]
    rw [this]
  | i + 1, hi => by
    have hil : i < Q.length := by omega
    have hmem := List.getElem_mem hil
    rw [countR, H.count hw s i (by omega), lst_getD hil, List.take_add_one, List.getElem?_eq_getElem hil]
    have hnd : Q[i] ∉ Q.take i := by
      have h1 := H.nodup
      have h2 : Q = Q.take i ++ (Q[i] :: Q.drop (i + 1)) := by rw [← List.drop_eq_getElem_cons hil, List.take_append_drop]
      have h1' : (Q.take i ++ (Q[i] :: Q.drop (i + 1))).Nodup := by rw [← h2]; exact h1
      rw [List.nodup_append] at h1'
      exact fun hx => h1'.2.2 _ hx _ List.mem_cons_self rfl
    show _ = kcount (Q.take i ++ [Q[i]]) s ways
    rw [count_snoc hnd ways hw]
    have hh := H.home _ hmem
    have hp : (pl Q[i]).put = true := by have := ((H.mem _).1 hmem).2; simp [kn] at this; exact this.1
    have hin := H.in' _ hp
    show (if h (pl Q[i]).cap = (s : Int) then _ else _) = _
    rw [hh]
    by_cases e : Q[i] / 4 = s
    · rw [if_pos (by omega), if_pos ⟨e, hin.2⟩]
    · rw [if_neg (by omega), if_neg (fun h => e h.1)]; rfl
theorem Inv.unknown (_H : Inv sets ways h pl epoch puts Q) {c : Cap} (hc : ∀ q ∈ Q, (pl q).cap ≠ c) : ¬ 0 ≤ knownR (lst pl Q) c (lst pl Q).length := fun hk => by
  have hlen : (lst pl Q).length = Q.length := by simp [lst]
  have h1 := knownR_is hk
  have hkl : (knownR (lst pl Q) c (lst pl Q).length).toNat < Q.length := by have := (knownR_lo (lst pl Q) c (lst pl Q).length).2; omega
  rw [lst_getD hkl] at h1
  exact hc _ (List.getElem_mem hkl) h1
theorem Inv.none_home (H : Inv sets ways h pl epoch puts Q) {c : Cap} {s : Nat} (hs : h c = (s : Int)) (hn : ∀ i, i < ways → ¬ (kn epoch (pl (s * 4 + i)) = true ∧ (pl (s * 4 + i)).cap = c)) : ∀ q ∈ Q, (pl q).cap ≠ c := fun q hq e => by
  have h1 := H.home q hq
  rw [e, hs] at h1
  have hp := ((H.mem q).1 hq)
  have hin := H.in' q (by have := hp.2; simp [kn] at this; exact this.1)
  have e2 : s * 4 + q % 4 = q := by omega
  exact hn (q % 4) hin.2 (by rw [e2]; exact ⟨hp.2, e⟩)
/-- The put into a free place. -/
theorem Inv.free (H : Inv sets ways h pl epoch puts Q) (hw : ways ≤ 4) (hsets : sets ≤ 16) {c : Cap} {s i : Nat} (hs : h c = (s : Int)) (hss : s < sets) (hi : i < ways) (hc : ∀ q ∈ Q, (pl q).cap ≠ c) (hf : kn epoch (pl (s * 4 + i)) = false) (r : Int) :
    ∃ Q', Inv sets ways h (upd pl (s * 4 + i) ⟨true, c, r, epoch, puts + 1⟩) epoch (puts + 1) Q' ∧ lst (upd pl (s * 4 + i) ⟨true, c, r, epoch, puts + 1⟩) Q' = lput ways h (lst pl Q) c r := by
  have hlen : (lst pl Q).length = Q.length := by simp [lst]
  have hnq : s * 4 + i ∉ Q := fun hq => by rw [((H.mem _).1 hq).2] at hf; cases hf
  obtain ⟨h1, h2⟩ := H.write (R := Q) (q := s * 4 + i) (c := c) (r := r) (List.Sublist.refl _) (fun x => ⟨fun hx => ⟨hx, fun e => hnq (e ▸ hx)⟩, fun hx => hx.1⟩) (by omega) ⟨by omega, by omega⟩ (by rw [hs]; congr 1; omega) hc
  refine ⟨_, h1, ?_⟩
  rw [h2]
  unfold lput lcut
  rw [if_neg (H.unknown hc), hs, hlen, H.count hw s Q.length (Nat.le_refl _), List.take_length, if_neg (by have := kcount_lt hnq hi; omega)]
/-- The put into the oldest place of a full set. -/
theorem Inv.oldest (H : Inv sets ways h pl epoch puts Q) (hw : ways ≤ 4) (hw1 : 0 < ways) (hsets : sets ≤ 16) {c : Cap} {s b : Nat} (hs : h c = (s : Int)) (hss : s < sets) (hb : b < ways) (hc : ∀ q ∈ Q, (pl q).cap ≠ c) (hf : ∀ i, i < ways → kn epoch (pl (s * 4 + i)) = true) (hold : ∀ i, i < ways → (pl (s * 4 + b)).age ≤ (pl (s * 4 + i)).age) (r : Int) :
    ∃ Q', Inv sets ways h (upd pl (s * 4 + b) ⟨true, c, r, epoch, puts + 1⟩) epoch (puts + 1) Q' ∧ lst (upd pl (s * 4 + b) ⟨true, c, r, epoch, puts + 1⟩) Q' = lput ways h (lst pl Q) c r := by
  have hlen : (lst pl Q).length = Q.length := by simp [lst]
  have hall : ∀ i, i < ways → s * 4 + i ∈ Q := fun i hi => (H.mem _).2 ⟨by omega, hf i hi⟩
  have hcount : countR (lst pl Q) h (s : Int) (lst pl Q).length = ways := by
    rw [hlen, H.count hw s Q.length (Nat.le_refl _), List.take_length, kcount_all hall]
  have hf0 := countR_pos (L := lst pl Q) (h := h) (s := (s : Int)) (i := (lst pl Q).length) (by omega)
  obtain ⟨k, hkk⟩ : ∃ k : Nat, firstR (lst pl Q) h (s : Int) (lst pl Q).length = k := ⟨_, (Int.toNat_of_nonneg hf0).symm⟩
  have hkl : k < Q.length := by have := (firstR_lo (lst pl Q) h (s : Int) (lst pl Q).length).2; omega
  obtain ⟨hk1, hk2⟩ := firstR_is hf0
  rw [hkk, Int.toNat_natCast] at hk1 hk2
  rw [lst_getD hkl] at hk1
  have hkm := List.getElem_mem hkl
  have hkh := H.home _ hkm
  have hkq : Q[k] / 4 = s := by
    have : h (pl Q[k]).cap = (s : Int) := hk1
    omega
  have hkp : (pl Q[k]).put = true := by have := ((H.mem _).1 hkm).2; simp [kn] at this; exact this.1
  have hkin := H.in' _ hkp
  have hkb : Q[k] = s * 4 + b := by
    obtain ⟨j, hj⟩ := List.getElem?_of_mem (hall b hb)
    obtain ⟨hjl, hje⟩ := List.getElem?_eq_some_iff.1 hj
    by_cases hjk : j = k
    · subst hjk; exact hje
    · exfalso
      by_cases hlt : j < k
      · have := hk2 j hlt
        rw [lst_getD hjl, hje] at this
        refine this ?_
        have h3 := H.home _ (hall b hb)
        show h (pl (s * 4 + b)).cap = (s : Int)
        rw [h3]
        congr 1
        omega
      · have h4 := List.pairwise_iff_getElem.1 H.sorted k j hkl hjl (by omega)
        rw [hje] at h4
        have h5 := hold (Q[k] % 4) hkin.2
        rw [show s * 4 + Q[k] % 4 = Q[k] by omega] at h5
        omega
  have hkq' : Q[k]? = some (s * 4 + b) := by rw [List.getElem?_eq_getElem hkl, hkb]
  have hm := mem_erased H.nodup hkq'
  obtain ⟨h1, h2⟩ := H.write (R := Q.eraseIdx k) (q := s * 4 + b) (c := c) (r := r) (List.eraseIdx_sublist _ _) hm (by omega) ⟨by omega, by omega⟩ (by rw [hs]; congr 1; omega) (fun x hx => hc x ((hm x).1 hx).1)
  refine ⟨_, h1, ?_⟩
  rw [h2, lst_erase]
  unfold lput lcut
  rw [if_neg (H.unknown hc), hs, hcount, if_pos (Nat.le_refl _), hkk, Int.toNat_natCast]
/-- A new epoch: nothing is known. -/
theorem Inv.turn (H : Inv sets ways h pl epoch puts Q) : Inv sets ways h pl (epoch + 1) puts [] :=
  ⟨fun q => ⟨fun hq => (by cases hq), fun hk => (by
    have hk := hk.2
    simp [kn] at hk
    have h2 := (H.old q hk.1).1
    omega)⟩, H.in', List.Pairwise.nil, fun q hq => (by cases hq), fun a ha => (by cases ha), fun q hq => (by have := H.old q hq; omega)⟩
theorem Inv.start (sets ways : Nat) (h : Cap → Int) (epoch puts : Int) : Inv sets ways h (fun _ => pl0) epoch puts [] :=
  ⟨fun q => (by simp [kn]), fun q hq => (by cases hq), List.Pairwise.nil, fun q hq => (by cases hq), fun a ha => (by cases ha), fun q hq => (by cases hq)⟩
/-- Which of a set's places is the oldest. -/
def bestR (age : Nat → Int) : Nat → Nat
  | 0 => 0
  | i + 1 => if age i < age (bestR age i) then i else bestR age i
theorem bestR_lt (age : Nat → Int) : ∀ n, bestR age n < n ∨ bestR age n = 0
  | 0 => .inr rfl
  | n + 1 => by rw [bestR]; split <;> (have := bestR_lt age n; omega)
theorem bestR_le (age : Nat → Int) : ∀ n i, i < n → age (bestR age n) ≤ age i
  | n + 1, i, hi => by
    rw [bestR]
    by_cases e : i = n
    · subst e; split <;> omega
    · have := bestR_le age n i (by omega)
      split <;> omega
end
/-- What find finds, and what room gives: said of any function on places. -/
def hitP (epoch : Int) (c : Cap) (x : Pl) : Bool := kn epoch x && decide (x.cap = c)
def findP (epoch : Int) (c : Cap) (f : Nat → Pl) : Nat → Nat → Option Nat
  | _, 0 => none
  | i, k + 1 => if hitP epoch c (f i) then some i else findP epoch c f (i + 1) k
def roomP (epoch : Int) (f : Nat → Pl) : Nat → Nat → Nat → Nat
  | _, 0, b => b
  | i, k + 1, b => if kn epoch (f i) then roomP epoch f (i + 1) k (if (f i).age < (f b).age then i else b) else i
theorem findP_some {epoch : Int} {c : Cap} {f : Nat → Pl} : ∀ {k i j : Nat}, findP epoch c f i k = some j → hitP epoch c (f j) = true ∧ i ≤ j ∧ j < i + k
  | 0, i, j, h => by cases h
  | k + 1, i, j, h => by
    rw [findP] at h
    by_cases e : hitP epoch c (f i) = true
    · rw [if_pos e] at h
      have := Option.some.inj h
      subst this
      exact ⟨e, Nat.le_refl _, by omega⟩
    · rw [if_neg e] at h
      have := findP_some h
      exact ⟨this.1, by omega, by omega⟩
theorem findP_none {epoch : Int} {c : Cap} {f : Nat → Pl} : ∀ {k i : Nat}, findP epoch c f i k = none → ∀ j, i ≤ j → j < i + k → hitP epoch c (f j) = false
  | 0, i, _, j, h1, h2 => by omega
  | k + 1, i, h, j, h1, h2 => by
    rw [findP] at h
    by_cases e : hitP epoch c (f i) = true
    · rw [if_pos e] at h; cases h
    · rw [if_neg e] at h
      by_cases hj : j = i
      · subst hj; simpa using e
      · exact findP_none h j (by omega) (by omega)
theorem roomP_is {epoch : Int} {f : Nat → Pl} : ∀ {k i b : Nat}, (kn epoch (f (roomP epoch f i k b)) = false ∧ i ≤ roomP epoch f i k b ∧ roomP epoch f i k b < i + k) ∨
    ((∀ j, i ≤ j → j < i + k → kn epoch (f j) = true) ∧ (∀ j, i ≤ j → j < i + k → (f (roomP epoch f i k b)).age ≤ (f j).age) ∧ (f (roomP epoch f i k b)).age ≤ (f b).age)
  | 0, i, b => .inr ⟨fun j h1 h2 => by omega, fun j h1 h2 => by omega, Int.le_refl _⟩
  | k + 1, i, b => by
    by_cases e : kn epoch (f i) = true
    · have er : roomP epoch f i (k + 1) b = roomP epoch f (i + 1) k (if (f i).age < (f b).age then i else b) := by rw [roomP, if_pos e]
      have hb1 : (f (if (f i).age < (f b).age then i else b)).age ≤ (f i).age ∧ (f (if (f i).age < (f b).age then i else b)).age ≤ (f b).age := by split <;> omega
      rw [er]
      generalize (if (f i).age < (f b).age then i else b) = b' at hb1 ⊢
      rcases roomP_is (epoch := epoch) (f := f) (k := k) (i := i + 1) (b := b') with ⟨h1, h2, h3⟩ | ⟨h1, h2, h3⟩
      · exact .inl ⟨h1, by omega, by omega⟩
      · refine .inr ⟨fun j hj1 hj2 => ?_, fun j hj1 hj2 => ?_, ?_⟩
        · by_cases hj : j = i
          · subst hj; exact e
          · exact h1 j (by omega) (by omega)
        · by_cases hj : j = i
          · subst hj; omega
          · exact h2 j (by omega) (by omega)
        · omega
    · rw [roomP, if_neg e]
      exact .inl ⟨by simpa using e, Nat.le_refl _, by omega⟩
end Go.Proofs.Ytnebdabfandngaa.C

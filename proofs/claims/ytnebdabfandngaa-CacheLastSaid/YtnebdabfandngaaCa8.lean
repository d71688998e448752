/- The cache, told by the document's list. -/
import Derived.Test.YtnebdabfandngaaCa7
namespace Go.Proofs.Ytnebdabfandngaa.C
open Go.RowKit Go.Proofs.Ytnebdabfandngaa.Mem
theorem nodup_le : ∀ (n : Nat) (Q : List Nat), Q.Nodup → (∀ q ∈ Q, q < n) → Q.length ≤ n
  | 0, Q, _, h => by
    cases Q with
    | nil => exact Nat.le_refl _
    | cons a l => have := h a (by simp); omega
  | n + 1, Q, hn, h => by
    by_cases hm : n ∈ Q
    · have h1 := nodup_le n (Q.erase n) (hn.erase n) (fun q hq => by
        have h2 := (List.Nodup.mem_erase_iff hn).1 hq
        have h3 := h q h2.2
        omega)
      have h2 := List.length_erase_of_mem hm
      have h3 : 0 < Q.length := List.length_pos_of_mem hm
      omega
    · have h1 := nodup_le n Q hn (fun q hq => by
        have h2 := h q hq
        have h3 : q ≠ n := fun e => hm (e ▸ hq)
        omega)
      omega
structure Know (w : World) (p sets ways : Nat) (knob : Int) (L : List En) (epoch N hits misses : Int) (pl : Nat → Pl) (puts : Int) (Q : List Nat) : Prop where
  at' : CAt w p sets ways knob pl epoch puts hits misses
  inv : Inv sets ways (homeN sets knob) pl epoch puts Q
  lst' : lst pl Q = L
  lo : 0 ≤ puts
  hi : puts ≤ N
  e0 : 0 ≤ epoch
  e1 : epoch ≤ 255
def KAt (w : World) (p sets ways : Nat) (knob : Int) (L : List En) (epoch N hits misses : Int) : Prop := ∃ pl puts Q, Know w p sets ways knob L epoch N hits misses pl puts Q
section
variable {w w' : World} {p sets ways : Nat} {knob epoch N hits misses : Int} {L : List En}
theorem KAt.kept {S : Nat → Prop} (h : KAt w p sets ways knob L epoch N hits misses) (hk : Kept S w w') (hp : ¬ S p) : KAt w' p sets ways knob L epoch N hits misses := by
  obtain ⟨pl, puts, Q, h⟩ := h
  exact ⟨pl, puts, Q, h.at'.kept hk hp, h.inv, h.lst', h.lo, h.hi, h.e0, h.e1⟩
theorem KAt.below (h : KAt w p sets ways knob L epoch N hits misses) (hb : Below w.heap.size w w') : KAt w' p sets ways knob L epoch N hits misses := h.kept (S := fun _ => False) (Kept.of_below hb) (fun h => h)
theorem KAt.len (h : KAt w p sets ways knob L epoch N hits misses) : L.length ≤ 64 := by
  obtain ⟨pl, puts, Q, h⟩ := h
  rw [← h.lst']
  have := nodup_le 64 Q h.inv.nodup (fun q hq => ((h.inv.mem q).1 hq).1)
  simpa [lst] using this
theorem KAt.epochs (h : KAt w p sets ways knob L epoch N hits misses) : 0 ≤ epoch ∧ epoch ≤ 255 := by
  obtain ⟨pl, puts, Q, h⟩ := h
  exact ⟨h.e0, h.e1⟩
theorem KAt.lt (h : KAt w p sets ways knob L epoch N hits misses) : p < w.heap.size := by
  obtain ⟨pl, puts, Q, h⟩ := h
  exact h.at'.lt
theorem KAt.more (h : KAt w p sets ways knob L epoch N hits misses) {M : Int} (hm : N ≤ M) : KAt w p sets ways knob L epoch M hits misses := by
  obtain ⟨pl, puts, Q, h⟩ := h
  exact ⟨pl, puts, Q, h.at', h.inv, h.lst', h.lo, Int.le_trans h.hi hm, h.e0, h.e1⟩
theorem KAt.none (h : KAt w p 0 ways knob L epoch N hits misses) : L = [] := by
  obtain ⟨pl, puts, Q, h⟩ := h
  have : Q = [] := by
    cases hQ : Q with
    | nil => rfl
    | cons q l =>
      have hm := (h.inv.mem q).1 (by rw [hQ]; simp)
      have := (h.inv.in' q (by have := hm.2; simp [kn] at this; exact this.1)).1
      omega
  rw [← h.lst', this]
  rfl
end
theorem k_get (w : World) (p sets ways : Nat) (knob : Int) (L : List En) (epoch N hits misses : Int) (h : KAt w p sets ways knob L epoch N hits misses) (hw : ways ≤ 4) (hs : sets ≤ 16) (c : Cap) :
    Calls Try.prog 10 #[.pointer (some ⟨p, 0, none⟩), capV c] w fun e w' => e = .returned (lookV (look L c)) ∧ KAt w' p sets ways knob L epoch N (yesN (look L c) hits) (noN (look L c) misses) ∧ Kept (fun b => b = p) w w' := by
  rcases Nat.eq_zero_or_pos sets with rfl | hpos
  · have hL := h.none
    subst hL
    obtain ⟨pl, puts, Q, h⟩ := h
    refine (get_zero w p ways knob epoch puts hits misses pl h.at' c).mono ?_
    rintro e w' ⟨rfl, h1, h2⟩
    exact ⟨rfl, ⟨pl, puts, Q, h1, h.inv, h.lst', h.lo, h.hi, h.e0, h.e1⟩, h2⟩
  · obtain ⟨pl, puts, Q, h⟩ := h
    have hr := homeN_range hpos knob c
    obtain ⟨s, hss⟩ : ∃ s : Nat, homeN sets knob c = (s : Int) := ⟨_, (Int.toNat_of_nonneg hr.1).symm⟩
    have hs' : s < sets := by omega
    refine (get_any w p sets ways knob epoch puts hits misses pl h.at' hw hs c s hss hpos hs').mono ?_
    rintro e w' ⟨rfl, h1, h2⟩
    have hl : ∃ R, findP epoch c (nPl pl s) 0 ways = R ∧ (match R with | some i => look L c = some (nPl pl s i).rights | none => look L c = none) := by
      refine ⟨_, rfl, ?_⟩
      cases hR : findP epoch c (nPl pl s) 0 ways with
      | some i =>
        obtain ⟨g1, g2, g3⟩ := findP_some hR
        simp only [hitP, Bool.and_eq_true, decide_eq_true_eq] at g1
        have hq : s * 4 + i ∈ Q := (h.inv.mem _).2 ⟨by omega, g1.1⟩
        have := h.inv.found hq
        rw [h.lst'] at this
        show look L c = some (pl (s * 4 + i)).rights
        rw [← this, show (pl (s * 4 + i)).cap = c from g1.2]
      | none =>
        have := h.inv.missed (h.inv.none_home hss (fun i hi hh => by
          have := findP_none hR i (Nat.zero_le _) (by omega)
          simp only [hitP] at this
          rw [show kn epoch (nPl pl s i) = true from hh.1, show (nPl pl s i).cap = c from hh.2] at this
          simp at this))
        rw [h.lst'] at this
        exact this
    obtain ⟨R, hR, hlk⟩ := hl
    rw [hR] at h1 ⊢
    cases R with
    | some i =>
      rw [show look L c = some (nPl pl s i).rights from hlk]
      exact ⟨rfl, ⟨pl, puts, Q, h1, h.inv, h.lst', h.lo, h.hi, h.e0, h.e1⟩, h2⟩
    | none =>
      rw [show look L c = none from hlk]
      exact ⟨rfl, ⟨pl, puts, Q, h1, h.inv, h.lst', h.lo, h.hi, h.e0, h.e1⟩, h2⟩
/-- The list behind a put. -/
def putL (sets ways : Nat) (knob : Int) (L : List En) (c : Cap) (r : Int) : List En := if sets = 0 then L else lput ways (homeN sets knob) L c r
theorem k_put (w : World) (p sets ways : Nat) (knob : Int) (L : List En) (epoch N hits misses : Int) (h : KAt w p sets ways knob L epoch N hits misses) (hw : ways ≤ 4) (hw0 : 0 < ways) (hs : sets ≤ 16) (hN : N < 4000000000000000000) (c : Cap) (r : Int) :
    Calls Try.prog 12 #[.pointer (some ⟨p, 0, none⟩), capV c, .int .i64 r] w fun e w' => e = .returned (.tuple #[]) ∧ KAt w' p sets ways knob (putL sets ways knob L c r) epoch (N + 1) hits misses ∧ Kept (fun b => b = p) w w' := by
  rcases Nat.eq_zero_or_pos sets with rfl | hpos
  · obtain ⟨pl, puts, Q, h⟩ := h
    refine (put_zero w p ways knob epoch puts hits misses pl h.at' c r).mono ?_
    rintro e w' ⟨rfl, h1, h2⟩
    exact ⟨rfl, ⟨pl, puts, Q, h1, h.inv, by rw [putL, if_pos rfl]; exact h.lst', h.lo, by have := h.hi; omega, h.e0, h.e1⟩, h2⟩
  · obtain ⟨pl, puts, Q, h⟩ := h
    have hr := homeN_range hpos knob c
    obtain ⟨s, hss⟩ : ∃ s : Nat, homeN sets knob c = (s : Int) := ⟨_, (Int.toNat_of_nonneg hr.1).symm⟩
    have hs' : s < sets := by omega
    have hhi := h.hi
    refine (put_any w p sets ways knob epoch puts hits misses pl h.at' hw hw0 hs c r s hss hpos hs' h.lo (by omega)).mono ?_
    rintro e w' ⟨rfl, h1, h2⟩
    have key : ∃ Q', Inv sets ways (homeN sets knob) (upd pl (s * 4 + putAt epoch c (nPl pl s) ways) ⟨true, c, r, epoch, puts + 1⟩) epoch (puts + 1) Q' ∧ lst (upd pl (s * 4 + putAt epoch c (nPl pl s) ways) ⟨true, c, r, epoch, puts + 1⟩) Q' = lput ways (homeN sets knob) (lst pl Q) c r := by
      unfold putAt
      cases hR : findP epoch c (nPl pl s) 0 ways with
      | some i =>
        obtain ⟨g1, g2, g3⟩ := findP_some hR
        simp only [hitP, Bool.and_eq_true, decide_eq_true_eq] at g1
        exact h.inv.again ((h.inv.mem _).2 ⟨by omega, g1.1⟩) g1.2 r
      | none =>
        have hc : ∀ q ∈ Q, (pl q).cap ≠ c := h.inv.none_home hss (fun i hi hh => by
          have := findP_none hR i (Nat.zero_le _) (by omega)
          simp only [hitP] at this
          rw [show kn epoch (nPl pl s i) = true from hh.1, show (nPl pl s i).cap = c from hh.2] at this
          simp at this)
        show ∃ Q', Inv sets ways (homeN sets knob) (upd pl (s * 4 + roomP epoch (nPl pl s) 0 ways 0) ⟨true, c, r, epoch, puts + 1⟩) epoch (puts + 1) Q' ∧ lst (upd pl (s * 4 + roomP epoch (nPl pl s) 0 ways 0) ⟨true, c, r, epoch, puts + 1⟩) Q' = lput ways (homeN sets knob) (lst pl Q) c r
        have hlt := roomP_lt epoch (nPl pl s) ways (k := ways) (i := 0) (b := 0) hw0 (by omega)
        rcases roomP_is (epoch := epoch) (f := nPl pl s) (k := ways) (i := 0) (b := 0) with ⟨g1, g2, g3⟩ | ⟨g1, g2, g3⟩
        · exact h.inv.free hw hs hss hs' hlt hc g1 r
        · exact h.inv.oldest hw hw0 hs hss hs' hlt hc (fun i hi => g1 i (Nat.zero_le _) (by omega)) (fun i hi => g2 i (Nat.zero_le _) (by omega)) r
    obtain ⟨Q', g1, g2⟩ := key
    exact ⟨rfl, ⟨_, puts + 1, Q', h1, g1, by rw [putL, if_neg (by omega), g2, h.lst'], by have := h.lo; omega, by omega, h.e0, h.e1⟩, h2⟩
theorem k_turn (w : World) (p sets ways : Nat) (knob : Int) (L : List En) (epoch N hits misses : Int) (h : KAt w p sets ways knob L epoch N hits misses) :
    Calls Try.prog 14 #[.pointer (some ⟨p, 0, none⟩)] w fun e w' => e = .returned (.tuple #[]) ∧ KAt w' p sets ways knob [] (if epoch < 255 then epoch + 1 else 0) N hits misses ∧ Kept (fun b => b = p) w w' := by
  obtain ⟨pl, puts, Q, h⟩ := h
  have he0 := h.e0
  have he1 := h.e1
  by_cases hlt : epoch < 255
  · rw [if_pos hlt]
    refine (turn_next w p sets ways knob epoch puts hits misses pl h.at' he0 hlt).mono ?_
    rintro e w' ⟨rfl, h1, h2⟩
    exact ⟨rfl, ⟨pl, puts, [], h1, h.inv.turn, rfl, h.lo, h.hi, by omega, by omega⟩, h2⟩
  · rw [if_neg hlt]
    obtain rfl : epoch = 255 := by omega
    refine (turn_over w p sets ways knob puts hits misses pl h.at').mono ?_
    rintro e w' ⟨rfl, h1, h2⟩
    exact ⟨rfl, ⟨_, puts, [], h1, Inv.start _ _ _ _ _, rfl, h.lo, h.hi, by decide, by decide⟩, h2⟩
theorem k_new (w : World) (sets ways : Nat) (knob : Int) (h1 : sets ≤ 16) (h2 : 1 ≤ ways) (h3 : ways ≤ 4) (h4 : 0 ≤ knob) (h5 : knob ≤ 64) :
    Calls Try.prog 6 #[.int .i64 sets, .int .i64 ways, .int .i64 knob] w fun e w' => ∃ p, e = .returned (.tuple #[.pointer (some ⟨p, 0, none⟩), .int .i64 0]) ∧ KAt w' p sets ways knob [] 0 0 0 0 ∧ Below w.heap.size w w' ∧ w.heap.size ≤ p := by
  refine (new_any w sets ways knob h1 h2 h3 h4 h5).mono ?_
  rintro e w' ⟨p, rfl, g1, g2, g3⟩
  exact ⟨p, rfl, ⟨_, 0, [], g1, Inv.start _ _ _ _ _, rfl, Int.le_refl _, Int.le_refl _, by decide, by decide⟩, g2, g3⟩
theorem k_epoch (w : World) (p sets ways : Nat) (knob : Int) (L : List En) (epoch N hits misses : Int) (h : KAt w p sets ways knob L epoch N hits misses) :
    Calls Try.prog 17 #[.pointer (some ⟨p, 0, none⟩)] w fun e w' => e = .returned (.int .i64 epoch) ∧ w = w' := by
  obtain ⟨pl, puts, Q, h⟩ := h
  exact epoch_any w p sets ways knob epoch puts hits misses pl h.at'
theorem k_hits (w : World) (p sets ways : Nat) (knob : Int) (L : List En) (epoch N hits misses : Int) (h : KAt w p sets ways knob L epoch N hits misses) :
    Calls Try.prog 16 #[.pointer (some ⟨p, 0, none⟩)] w fun e w' => e = .returned (.tuple #[.int .i64 hits, .int .i64 misses]) ∧ ∃ n, w' = w.drewN n := by
  obtain ⟨pl, puts, Q, h⟩ := h
  exact hits_any w p sets ways knob epoch puts hits misses pl h.at'
end Go.Proofs.Ytnebdabfandngaa.C

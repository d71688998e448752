/- For every two numbers and every text all four functions of the program's package mask answer as the document's reference does; there is no condition beyond the given statement's own. -/
import Derived.Test.YtoegclilhchlmaaPMaskAllx2
namespace Go.Proofs.Ytoegclilhchlmaa.Pure
open Go.RowKit Go.Proofs.Ytoegclilhchlmaa.PMaskAll Go.Proofs.YtoegclilhchlmaaW.PrintWords Go.Proofs.YtoegclilhchlmaaW.PrintLast

/-- The letters of each mask, as both texts give them: by trial of all thirty-two. -/
theorem names_both : ∀ r : Fin 32, mask_Names.f 20 ((r.val : Nat) : Int) = sesameref03_Names.f 20 ((r.val : Nat) : Int) ∧ (mask_Names.f 20 ((r.val : Nat) : Int)).isSome = true := by decide +kernel

theorem names_at (r : Int) (h0 : 0 ≤ r) (h1 : r < 32) : ∃ b, ∀ k, 20 ≤ k → mask_Names.f k r = some b ∧ sesameref03_Names.f k r = some b := by
  obtain ⟨n, rfl⟩ : ∃ n : Nat, r = (n : Int) := ⟨r.toNat, by omega⟩
  obtain ⟨he, hs⟩ := names_both ⟨n, by omega⟩
  obtain ⟨b, hb⟩ := Option.isSome_iff_exists.1 hs
  refine ⟨b, fun k hk => ⟨at_rounds (mask_Names.mono _) hk hb, at_rounds (sesameref03_Names.mono _) hk ?_⟩⟩
  rw [← he]; exact hb

/-- Both readings of a text, from mask r on: one answer; found: its letters are the text; not found: 0 and the error. -/
theorem parse_both (s : ByteArray) (d : Nat) : ∀ (k : Nat) (r : Int), 0 ≤ r → r ≤ 32 → 32 - r = (d : Int) → 20 + d < k →
    ∃ x e, mask_Parse.l0 k s r = some (x, e) ∧ sesameref03_Parse.l0 k s r = some (x, e) ∧
      ((e = 0 ∧ r ≤ x ∧ x < 32 ∧ ∀ j b, 20 ≤ j → mask_Names.f j x = some b → b.toList = s.toList) ∨ (e = 22 ∧ x = 0)) := by
  induction d with
  | zero =>
    intro k r h0 h1 hd hk
    obtain ⟨k, rfl⟩ : ∃ m, k = m + 1 := ⟨k - 1, by omega⟩
    refine ⟨0, 22, ?_, ?_, .inr ⟨rfl, rfl⟩⟩
    · simp only [mask_Parse.l0]; rw [if_neg (by omega)]
    · simp only [sesameref03_Parse.l0]; rw [if_neg (by omega)]
  | succ d ih =>
    intro k r h0 h1 hd hk
    obtain ⟨k, rfl⟩ : ∃ m, k = m + 1 := ⟨k - 1, by omega⟩
    obtain ⟨b, hb⟩ := names_at r h0 (by omega)
    obtain ⟨hb1, hb2⟩ := hb k (by omega)
    have hw : wrap64 (r + 1) = r + 1 := by unfold wrap64; omega
    simp only [mask_Parse.l0, sesameref03_Parse.l0]
    rw [if_pos (by omega), if_pos (by omega), hb1, hb2]
    simp only [Option.bind_some]
    by_cases he : b.toList = s.toList
    · rw [if_pos he, if_pos he]
      refine ⟨r, 0, rfl, rfl, .inl ⟨rfl, Int.le_refl _, by omega, ?_⟩⟩
      intro j b' hj hb'
      rw [(hb j hj).1] at hb'
      obtain rfl := Option.some.inj hb'
      exact he
    · rw [if_neg he, if_neg he, hw]
      obtain ⟨x, e, e1, e2, h⟩ := ih k (r + 1) (by omega) (by omega) (by omega) (by omega)
      refine ⟨x, e, e1, e2, ?_⟩
      rcases h with ⟨h1, h2, h3⟩ | h
      · exact .inl ⟨h1, by omega, h3⟩
      · exact .inr h
theorem parse_at (s : ByteArray) (k : Nat) (hk : 60 ≤ k) : ∃ x e, mask_Parse.f k s = some (x, e) ∧ sesameref03_Parse.f k s = some (x, e) ∧
      ((e = 0 ∧ 0 ≤ x ∧ x < 32 ∧ ∀ j b, 20 ≤ j → mask_Names.f j x = some b → b.toList = s.toList) ∨ (e = 22 ∧ x = 0)) :=
  parse_both s 32 k 0 (by omega) (by omega) (by omega) (by omega)

theorem head_true : sesamelaw03_head.f 60 = some true := by decide +kernel

theorem valid_both (a : Int) : sesameref03_Valid.f a = mask_Valid.f a := rfl

theorem part_tried : ∀ a b : Fin 32, sesameref03_Part.f 40 ((a.val : Nat) : Int) ((b.val : Nat) : Int) = mask_Part.f ((a.val : Nat) : Int) ((b.val : Nat) : Int) := by decide +kernel

theorem valid_out (a : Int) (h : ¬ (0 ≤ a ∧ a < 32)) : mask_Valid.f a = some false := by
  unfold mask_Valid.f
  by_cases h1 : a ≥ 1
  · rw [if_pos h1, decide_eq_false (by omega)]
  · rw [if_neg h1]

theorem valid_some (a : Int) : ∃ t, mask_Valid.f a = some t := by
  unfold mask_Valid.f; split <;> exact ⟨_, rfl⟩

theorem part_at (a b : Int) (k : Nat) (hk : 40 ≤ k) : ∃ t, mask_Part.f a b = some t ∧ sesameref03_Part.f k a b = some t := by
  by_cases ha : 0 ≤ a ∧ a < 32
  · by_cases hb : 0 ≤ b ∧ b < 32
    · obtain ⟨n, rfl⟩ : ∃ n : Nat, a = (n : Int) := ⟨a.toNat, by omega⟩
      obtain ⟨m, rfl⟩ : ∃ n : Nat, b = (n : Int) := ⟨b.toNat, by omega⟩
      have he := part_tried ⟨n, by omega⟩ ⟨m, by omega⟩
      have hs : ∃ t, mask_Part.f (n : Int) (m : Int) = some t := by
        obtain ⟨t, ht⟩ := valid_some (n : Int)
        obtain ⟨u, hu⟩ := valid_some (m : Int)
        unfold mask_Part.f
        rw [ht, hu]
        cases t <;> cases u <;> simp
      obtain ⟨t, ht⟩ := hs
      exact ⟨t, ht, at_rounds (sesameref03_Part.mono _ _) hk (he.trans ht)⟩
    · obtain ⟨k, rfl⟩ : ∃ m, k = m + 1 := ⟨k - 1, by omega⟩
      obtain ⟨t, ht⟩ := valid_some a
      refine ⟨false, ?_, ?_⟩
      · unfold mask_Part.f
        rw [ht, valid_out b hb]
        cases t <;> simp
      · unfold sesameref03_Part.f
        rw [valid_both, valid_both, ht, valid_out b hb]
        cases t <;> simp [sesameref03_Part.j0]
  · obtain ⟨k, rfl⟩ : ∃ m, k = m + 1 := ⟨k - 1, by omega⟩
    refine ⟨false, ?_, ?_⟩
    · unfold mask_Part.f
      rw [valid_out a ha]
      simp
    · unfold sesameref03_Part.f
      rw [valid_both, valid_out a ha]
      simp [sesameref03_Part.j0]

theorem names_any (a : Int) (k : Nat) (hk : 20 ≤ k) : ∃ b, mask_Names.f k a = some b ∧ sesameref03_Names.f k a = some b := by
  by_cases ha : 0 ≤ a ∧ a < 32
  · obtain ⟨b, hb⟩ := names_at a ha.1 ha.2
    exact ⟨b, hb k hk⟩
  · refine ⟨⟨#[]⟩, ?_, ?_⟩
    · unfold mask_Names.f
      rw [if_neg (by omega), valid_out a ha]
      simp
    · unfold sesameref03_Names.f
      rw [if_neg (by omega), valid_both, valid_out a ha]
      simp

theorem MaskAll : sesamelaw03_MaskAll.Pure := by
  intro a b s _ _ _
  refine ⟨60, ?_⟩
  obtain ⟨x, e, p1, p2, _⟩ := parse_at s 60 (by omega)
  obtain ⟨v, hv⟩ := valid_some a
  obtain ⟨t, t1, t2⟩ := part_at a b 60 (by omega)
  obtain ⟨u, u1, u2⟩ := part_at b a 60 (by omega)
  obtain ⟨n, n1, n2⟩ := names_any a 60 (by omega)
  unfold sesamelaw03_MaskAll.f mask_Has.f
  rw [head_true, p1, p2, valid_both, hv, t1, t2, u1, u2, n1, n2]
  simp

end Go.Proofs.Ytoegclilhchlmaa.Pure

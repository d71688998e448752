/- Record: into; a reply's bytes cut or lengthened (written by gen_rcy.py). -/
import Derived.Test.YtfpkdbogapmhmaaRcR
namespace Go.Proofs.Ytfpkdbogapmhmaa.O
open Go.RowKit Go.Proofs.Ytfpkdbogapmhmaa.Mem
set_option linter.unusedVariables false
set_option linter.unusedSimpArgs false
set_option maxHeartbeats 4000000 in
theorem into_any (w : World) (n top : Int) (h0 : -9223372036854775808 ≤ n) (h1 : n ≤ 9223372036854775807) (ht : 0 < top) (ht1 : top ≤ 4611686018427387904) :
    Calls Try.prog 21 #[.int .i64 n, .int .i64 top] w fun e w' => e = .returned (.int .i64 (n % top)) ∧ w = w' := by
  have hne : ¬ top = 0 := by omega
  have q0 := Int.emod_nonneg n hne
  have q1 := Int.emod_lt_of_pos n ht
  by_cases hs : 0 ≤ n
  · have e : n.tmod top = n % top := Int.tmod_eq_emod_of_nonneg hs
    have hw : IntKind.i64.wrap (n % top) = n % top := by rw [IntKind.wrap_i64]; omega
    have hw2 : IntKind.i64.wrap (n.tmod top) = n % top := by rw [e]; exact hw
    have hl : ¬ (n % top < 0) := by omega
    have d1 : decide (n % top < 0) = false := decide_eq_false hl
    obtain ⟨m, hm⟩ : ∃ m, n % top = m := ⟨_, rfl⟩
    rw [hm] at e hw hw2 hl d1 q0 q1 ⊢
    clear hm
    go_enter Try.func21, Try.ntmps21
    go_wp2
    go_ret
    exact ⟨rfl, rfl⟩
  · obtain ⟨t, ht2⟩ : ∃ t, n.tmod top = t := ⟨_, rfl⟩
    have e : t = (if n % top = 0 then 0 else n % top - top) := by
      rw [← ht2, Int.tmod_eq_emod]
      have hd : top ∣ n ↔ n % top = 0 := Int.dvd_iff_emod_eq_zero
      have hna : ((top.natAbs : Nat) : Int) = top := by omega
      by_cases hz : n % top = 0
      · rw [if_pos hz, if_pos (Or.inr (hd.2 hz)), hz]; rfl
      · rw [if_neg hz, if_neg (fun h => h.elim (fun h => hs h) (fun h => hz (hd.1 h))), hna]
    by_cases hz : n % top = 0
    · rw [if_pos hz] at e
      rw [hz]
      subst e
      clear q0 q1 hz
      have hw2 : IntKind.i64.wrap 0 = 0 := by decide
      go_enter Try.func21, Try.ntmps21
      go_wp2
      go_ret
      exact ⟨rfl, rfl⟩
    · rw [if_neg hz] at e
      have hw : IntKind.i64.wrap t = t := by rw [IntKind.wrap_i64]; omega
      have hw3 : IntKind.i64.wrap (t + top) = t + top := by rw [IntKind.wrap_i64]; omega
      have hl : t < 0 := by omega
      have d1 : decide (t < 0) = true := decide_eq_true hl
      rw [show n % top = t + top by omega]
      clear e q0 q1 hz
      go_enter Try.func21, Try.ntmps21
      go_wp2
      go_ret
      exact ⟨rfl, rfl⟩
/-! The plain law: how long a reply is, and what of its bytes is a reply's. -/
theorem encR_len (op : Int) (x : Rp) : (encR op x).length = if x.code ≠ 0 then 2 else if op = 1 ∨ op = 3 then 26 else if op = 5 then 2 + x.da.length else if op = 9 then 4 else 2 := by
  unfold encR
  rw [List.length_append, le_len]
  split
  · rfl
  · split
    · simp [capB, wordB, le_len]
    · split
      · rfl
      · split
        · rw [le_len]
        · rfl
theorem encR_code {op : Int} {x y : Rp} {r s : List Int} (hx : 0 ≤ x.code ∧ x.code ≤ 65535) (hy : 0 ≤ y.code ∧ y.code ≤ 65535) (h : le 2 x.code ++ r = le 2 y.code ++ s) : x.code = y.code := by
  have h1 : (le 2 x.code ++ r).take 2 = (le 2 y.code ++ s).take 2 := by rw [h]
  rw [List.take_left' (le_len 2 _), List.take_left' (le_len 2 _)] at h1
  have h2 := congrArg val h1
  rwa [val_le 2 _ hx.1 (by omega), val_le 2 _ hy.1 (by omega)] at h2
theorem enc5 (o : Rp) (hc : o.code = 0) : encR 5 o = le 2 o.code ++ o.da := by
  unfold encR
  rw [if_neg (by omega), if_neg (by decide), if_pos rfl]
theorem cutR {op : Int} {o : Rp} (ho : toldR op o) (k : Nat) (hk : k < (encR op o).length) : (parseR op ((encR op o).take k)).isSome = true ↔ (op = 5 ∧ o.code = 0 ∧ 2 ≤ k) := by
  constructor
  · intro h
    obtain ⟨x, hx⟩ := Option.isSome_iff_exists.1 h
    obtain ⟨h1, h2⟩ := parseR_of _ _ _ hx
    have hl := congrArg List.length h2
    rw [List.length_take, Nat.min_eq_left (Nat.le_of_lt hk)] at hl
    rw [encR_len] at hl hk
    have hk2 : 2 ≤ k := by
      split at hl
      · omega
      · split at hl
        · omega
        · split at hl
          · omega
          · split at hl <;> omega
    have hc : x.code = o.code := by
      have h3 : (encR op x).take 2 = ((encR op o).take k).take 2 := by rw [h2]
      rw [List.take_take, Nat.min_eq_left hk2] at h3
      unfold encR at h3
      rw [List.take_left' (le_len 2 _), List.take_left' (le_len 2 _)] at h3
      have h4 := congrArg val h3
      rwa [val_le 2 _ h1.1.2.1.1 (by have := h1.1.2.1.2; omega), val_le 2 _ ho.1.2.1.1 (by have := ho.1.2.1.2; omega)] at h4
    rw [hc] at hl
    split at hl
    · rename_i hz; rw [if_pos hz] at hk; omega
    · rename_i hz
      rw [if_neg hz] at hk
      split at hl
      · rename_i h13; rw [if_pos h13] at hk; omega
      · rename_i h13
        rw [if_neg h13] at hk
        split at hl
        · rename_i h5; exact ⟨h5, by omega, hk2⟩
        · rename_i h5
          rw [if_neg h5] at hk
          split at hl
          · rename_i h9; rw [if_pos h9] at hk; omega
          · rename_i h9; rw [if_neg h9] at hk; omega
  · rintro ⟨rfl, hc, hk2⟩
    have hz : U64 0 := u64_0
    obtain ⟨⟨a1, a2, a3⟩, ⟨b1, b2, b3⟩, c1, c2, c3⟩ := ho
    have hu : untR 5 o = { o with da := [] } := by unfold untR; rw [if_neg (by omega), if_neg (by decide), if_pos rfl]
    rw [hu] at b1 b2 b3
    have hx : toldR 5 { o with da := o.da.take (k - 2) } := by
      refine ⟨⟨a1, a2, a3⟩, ?_, c1, c2, ?_⟩
      · unfold toldB
        have : untR 5 { o with da := o.da.take (k - 2) } = { o with da := [] } := by unfold untR; rw [if_neg (by simpa using hc), if_neg (by decide), if_pos rfl]
        rw [this]; exact ⟨b1, b2, b3⟩
      · show (o.da.take (k - 2)).length ≤ 1024
        rw [List.length_take]; omega
    have he : encR 5 { o with da := o.da.take (k - 2) } = (encR 5 o).take k := by
      rw [enc5 _ (show ({ o with da := o.da.take (k - 2) } : Rp).code = 0 from hc), enc5 o hc, List.take_append, le_len, show (le 2 o.code).take k = le 2 o.code from List.take_of_length_le (by rw [le_len]; exact hk2)]
    have hb := parseR_iff 5 _ _ (by show U64 o.hi; rw [b1.2.1]; exact hz) (by show U64 o.lo; rw [b1.2.2]; exact hz) hx he
    rw [hb]; rfl
theorem moreR {op : Int} {o : Rp} (ho : toldR op o) : (parseR op (encR op o ++ [0])).isSome = true ↔ (op = 5 ∧ o.code = 0 ∧ o.da.length < 1024) := by
  constructor
  · intro h
    obtain ⟨x, hx⟩ := Option.isSome_iff_exists.1 h
    obtain ⟨h1, h2⟩ := parseR_of _ _ _ hx
    have hl := congrArg List.length h2
    rw [List.length_append, List.length_singleton, encR_len, encR_len] at hl
    have hc : x.code = o.code := by
      have h3 : (encR op x).take 2 = (encR op o ++ [0]).take 2 := by rw [h2]
      unfold encR at h3
      rw [List.take_left' (le_len 2 _), List.append_assoc, List.take_left' (le_len 2 _)] at h3
      have h4 := congrArg val h3
      rwa [val_le 2 _ h1.1.2.1.1 (by have := h1.1.2.1.2; omega), val_le 2 _ ho.1.2.1.1 (by have := ho.1.2.1.2; omega)] at h4
    rw [hc] at hl
    by_cases hz : o.code ≠ 0
    · rw [if_pos hz, if_pos hz] at hl; omega
    · rw [if_neg hz, if_neg hz] at hl
      by_cases h13 : op = 1 ∨ op = 3
      · rw [if_pos h13, if_pos h13] at hl; omega
      · rw [if_neg h13, if_neg h13] at hl
        by_cases h5 : op = 5
        · rw [if_pos h5, if_pos h5] at hl
          have := h1.2.2.2.2
          exact ⟨h5, by omega, by omega⟩
        · rw [if_neg h5, if_neg h5] at hl
          by_cases h9 : op = 9
          · rw [if_pos h9] at hl; omega
          · rw [if_neg h9] at hl; omega
  · rintro ⟨rfl, hc, hk2⟩
    have hz : U64 0 := u64_0
    obtain ⟨⟨a1, a2, a3⟩, ⟨b1, b2, b3⟩, c1, c2, c3⟩ := ho
    have hu : untR 5 o = { o with da := [] } := by unfold untR; rw [if_neg (by omega), if_neg (by decide), if_pos rfl]
    rw [hu] at b1 b2 b3
    have hx : toldR 5 { o with da := o.da ++ [0] } := by
      refine ⟨⟨a1, a2, a3⟩, ?_, c1, c2, ?_⟩
      · unfold toldB
        have : untR 5 { o with da := o.da ++ [0] } = { o with da := [] } := by unfold untR; rw [if_neg (by simpa using hc), if_neg (by decide), if_pos rfl]
        rw [this]; exact ⟨b1, b2, b3⟩
      · show (o.da ++ [0]).length ≤ 1024
        rw [List.length_append, List.length_singleton]; omega
    have he : encR 5 { o with da := o.da ++ [0] } = encR 5 o ++ [0] := by
      rw [enc5 _ (show ({ o with da := o.da ++ [0] } : Rp).code = 0 from hc), enc5 o hc, List.append_assoc]
    have hb := parseR_iff 5 _ _ (by show U64 o.hi; rw [b1.2.1]; exact hz) (by show U64 o.lo; rw [b1.2.2]; exact hz) hx he
    rw [hb]; rfl
theorem wp_any {P : Program} {c : Code} {Q : Exit → Act → World → Prop} {a : Act} {W : World} (I : World → Prop) (h : I W) (k : ∀ W, I W → c.wp P Q a W) : c.wp P Q a W := k W h
end Go.Proofs.Ytfpkdbogapmhmaa.O

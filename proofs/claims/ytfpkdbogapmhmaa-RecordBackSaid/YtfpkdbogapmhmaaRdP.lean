/- Record: what the document guesses of bytes: plain law (written by gen_rdp.py). -/
import Derived.Test.YtfpkdbogapmhmaaRcN
import Derived.Test.YtfpkdbogapmhmaaRdA
namespace Go.Proofs.Ytfpkdbogapmhmaa.O
open Go.RowKit Go.Proofs.Ytfpkdbogapmhmaa.Mem
set_option linter.unusedVariables false
set_option linter.unusedSimpArgs false
theorem gv_app (xs ys : List Int) (a : Nat) : ∀ n : Nat, ∀ a : Nat, gv (xs ++ ys) (xs.length + a) n = gv ys a n
  | 0, _ => rfl
  | n + 1, a => by
    unfold gv
    rw [Nat.add_assoc, gv_app xs ys a n (a + 1), List.getD_eq_getElem?_getD, List.getD_eq_getElem?_getD, List.getElem?_append_right (by omega), show xs.length + a - xs.length = a by omega]
theorem gv_skip {xs : List Int} {k : Nat} (h : xs.length = k) (ys : List Int) (n m : Nat) (hm : k ≤ m) : gv (xs ++ ys) m n = gv ys (m - k) n := by
  subst h
  have := gv_app xs ys 0 n (m - xs.length)
  rwa [show xs.length + (m - xs.length) = m by omega] at this
theorem gv_le (r : List Int) : ∀ (n : Nat) (v : Int), 0 ≤ v → v < 256 ^ n → gv (le n v ++ r) 0 n = v
  | 0, v, h0, h1 => by rw [Int.pow_zero] at h1; show (0 : Int) = v; omega
  | n + 1, v, h0, h1 => by
    rw [Int.pow_succ] at h1
    have e : gv (le (n + 1) v ++ r) 1 n = gv (le n (v / 256) ++ r) 0 n := gv_skip (xs := [v % 256]) (k := 1) rfl _ n 1 (Nat.le_refl _)
    show (le (n + 1) v ++ r).getD 0 0 + 256 * gv (le (n + 1) v ++ r) 1 n = v
    rw [e, gv_le r n (v / 256) (by omega) (by omega)]
    show v % 256 + 256 * (v / 256) = v
    omega
theorem gv_le' (n : Nat) (v : Int) (h0 : 0 ≤ v) (h1 : v < 256 ^ n) : gv (le n v) 0 n = v := by
  have := gv_le [] n v h0 h1
  rwa [List.append_nil] at this
theorem wrapS {v : Int} (h0 : 0 ≤ v) (h1 : v ≤ 4611686018427387904) : IntKind.i64.wrap v = v := by rw [IntKind.wrap_i64]; omega
/-- The reply that the bytes may be. -/
def guessR (op : Int) (zs : List Int) : Rp :=
  if gv zs 0 2 ≠ 0 then { zr with code := gv zs 0 2 }
  else if op = 1 ∨ op = 3 then { zr with obj := IntKind.i64.wrap (gv zs 2 8), hi := gv zs 18 8, lo := gv zs 10 8 }
  else if op = 5 then { zr with da := zs.drop 2 }
  else if op = 9 then { zr with nu := gv zs 2 2 }
  else zr
theorem gv_capB (obj hi lo : Int) (r : List Int) (h0 : 0 ≤ obj) (h1 : obj ≤ 4611686018427387904) (h : U64 hi) (l : U64 lo) :
    gv (capB obj hi lo ++ r) 0 8 = obj ∧ gv (capB obj hi lo ++ r) 8 8 = lo ∧ gv (capB obj hi lo ++ r) 16 8 = hi := by
  unfold U64 at h l
  unfold capB wordB
  refine ⟨?_, ?_, ?_⟩
  · rw [List.append_assoc, gv_le _ 8 obj h0 (by omega)]
  · rw [List.append_assoc, gv_skip (le_len 8 obj) _ 8 8 (Nat.le_refl _), List.append_assoc, gv_le _ 8 lo l.1 (by omega)]
  · rw [List.append_assoc, gv_skip (le_len 8 obj) _ 8 16 (by omega), List.append_assoc, gv_skip (le_len 8 lo) _ 8 (16 - 8) (by omega), gv_le _ 8 hi h.1 (by omega)]
theorem guess_told (op : Int) (c : Rp) (hf : toldR op c) (h : U64 c.hi) (l : U64 c.lo) : guessR op (encR op c) = c := by
  obtain ⟨⟨ho, hc, hn⟩, ⟨hu, hd, hm⟩, hob, hnu, hdl⟩ := hf
  obtain ⟨code, obj, hi, lo, da, nu⟩ := c
  simp only at *
  unfold guessR encR
  simp only
  rw [gv_le _ 2 code hc.1 (by omega)]
  unfold untR at hu hd hm
  by_cases h0 : code = 0
  · subst h0
    simp only [ne_eq, not_true_eq_false, if_false, zr] at *
    by_cases h1 : op = 1 ∨ op = 3
    · rw [if_pos h1] at hd hm
      simp at hd hm
      subst hd hm
      rw [if_pos h1, if_pos h1]
      have hk := gv_capB obj hi lo [] hob.1 hob.2 h l
      rw [List.append_nil] at hk
      rw [gv_skip (le_len 2 0) _ 8 2 (by omega), gv_skip (le_len 2 0) _ 8 18 (by omega), gv_skip (le_len 2 0) _ 8 10 (by omega)]
      rw [show (2 : Nat) - 2 = 0 from rfl, show (18 : Nat) - 2 = 16 from rfl, show (10 : Nat) - 2 = 8 from rfl, hk.1, hk.2.1, hk.2.2, wrapS hob.1 hob.2]
    · rw [if_neg h1] at hu hd hm
      rw [if_neg h1, if_neg h1]
      by_cases h5 : op = 5
      · rw [if_pos h5] at hu hm
        simp at hu hm
        obtain ⟨rfl, rfl, rfl⟩ := hu
        subst hm
        rw [if_pos h5, if_pos h5, List.drop_left' (le_len 2 0)]
      · rw [if_neg h5] at hu hd hm
        rw [if_neg h5, if_neg h5]
        by_cases h9 : op = 9
        · rw [if_pos h9] at hu hd
          simp at hu hd
          obtain ⟨rfl, rfl, rfl⟩ := hu
          subst hd
          rw [if_pos h9, if_pos h9, gv_skip (le_len 2 0) _ 2 2 (by omega), show (2 : Nat) - 2 = 0 from rfl, gv_le' 2 nu hnu.1 (by omega)]
        · rw [if_neg h9] at hu hd hm
          rw [if_neg h9]
          simp at hu hd hm
          obtain ⟨rfl, rfl, rfl⟩ := hu
          subst hd hm
          rfl
  · rw [if_pos h0] at hu hd hm ⊢
    simp at hu hd hm
    obtain ⟨rfl, rfl, rfl⟩ := hu
    subst hd hm
    rfl
theorem gv8 {zs : List Int} (hB : Bytes zs) (a : Nat) : U64 (gv zs a 8) := by
  have := gv_lo hB 8 a
  unfold U64; omega
theorem guessR_facts (op : Int) {zs : List Int} (hB : Bytes zs) : U64 (guessR op zs).hi ∧ U64 (guessR op zs).lo ∧ Bytes (guessR op zs).da := by
  have z64 : U64 0 := by unfold U64; omega
  have bn : Bytes [] := fun z hz => by cases hz
  unfold guessR
  split
  · exact ⟨z64, z64, bn⟩
  · split
    · exact ⟨gv8 hB 18, gv8 hB 10, bn⟩
    · split
      · exact ⟨z64, z64, fun z hz => hB z (List.mem_of_mem_drop hz)⟩
      · split <;> exact ⟨z64, z64, bn⟩
theorem parseR_guess (op : Int) {zs : List Int} (hB : Bytes zs) : parseR op zs = if toldR op (guessR op zs) ∧ encR op (guessR op zs) = zs then some (guessR op zs) else none := by
  have hg := guessR_facts op hB
  split
  · rename_i h
    exact parseR_iff op zs _ hg.1 hg.2.1 h.1 h.2
  · rename_i h
    cases hp : parseR op zs with
    | none => rfl
    | some c =>
      exfalso
      obtain ⟨ht, he⟩ := parseR_of op zs c hp
      have hr : readR op zs = some c := by
        unfold parseR at hp
        cases hq : readR op zs with
        | none => rw [hq] at hp; cases hp
        | some d => rw [hq] at hp; simp only at hp; split at hp <;> first | exact hp | cases hp
      have hf := read_factsR hB hr
      have e : guessR op zs = c := by rw [← he]; exact guess_told op c ht hf.1 hf.2.1
      rw [e] at h
      exact h ⟨ht, he⟩
/-- The call that the bytes may be. -/
def guessC (zs : List Int) : Cl :=
  if gv zs 0 1 = 1 then { zc with op := 1, by' := gv zs 1 2, sz := sgn (gv zs 3 4) }
  else if gv zs 0 1 = 2 ∨ gv zs 0 1 = 4 ∨ gv zs 0 1 = 7 then { zc with op := gv zs 0 1, by' := gv zs 1 2, obj := IntKind.i64.wrap (gv zs 3 8), hi := gv zs 19 8, lo := gv zs 11 8 }
  else if gv zs 0 1 = 3 then { zc with op := 3, by' := gv zs 1 2, obj := IntKind.i64.wrap (gv zs 3 8), hi := gv zs 19 8, lo := gv zs 11 8, rt := gv zs 27 1 }
  else if gv zs 0 1 = 5 then { zc with op := 5, by' := gv zs 1 2, obj := IntKind.i64.wrap (gv zs 3 8), hi := gv zs 20 8, lo := gv zs 12 8, gv := decide (gv zs 11 1 = 1), off := sgn (gv zs 28 4), n := sgn (gv zs 32 4) }
  else if gv zs 0 1 = 6 then { zc with op := 6, by' := gv zs 1 2, obj := IntKind.i64.wrap (gv zs 3 8), hi := gv zs 20 8, lo := gv zs 12 8, gv := decide (gv zs 11 1 = 1), off := sgn (gv zs 28 4), da := zs.drop 32 }
  else if gv zs 0 1 = 8 then { zc with op := 8, by' := gv zs 1 2, ix := gv zs 3 2 }
  else if gv zs 0 1 = 9 then { zc with op := 9, by' := gv zs 1 2, gi := (List.range (gv zs 3 1).toNat).map fun i => gv zs (4 + 2 * i) 2 }
  else { zc with op := gv zs 0 1, by' := gv zs 1 2 }
theorem gv_gi (r : List Int) : ∀ l : List Int, (∀ g ∈ l, 0 ≤ g ∧ g ≤ 65535) → (List.range l.length).map (fun i => gv (giB l ++ r) (2 * i) 2) = l
  | [], _ => rfl
  | g :: l, h => by
    have hg := h g (by simp)
    rw [List.length_cons, List.range_succ_eq_map, List.map_cons, List.map_map]
    have e : giB (g :: l) ++ r = le 2 g ++ (giB l ++ r) := by show le 2 g ++ giB l ++ r = _; rw [List.append_assoc]
    rw [e, Nat.mul_zero, gv_le _ 2 g hg.1 (by omega)]
    congr 1
    refine Eq.trans (List.map_congr_left fun i _ => ?_) (gv_gi r l (fun x hx => h x (by simp [hx])))
    show gv (le 2 g ++ (giB l ++ r)) (2 * (i + 1)) 2 = _
    rw [gv_skip (le_len 2 g) _ 2 (2 * (i + 1)) (by omega), show 2 * (i + 1) - 2 = 2 * i by omega]
theorem gv_mvB (c : Cl) (r : List Int) (h0 : 0 ≤ c.obj) (h1 : c.obj ≤ 4611686018427387904) (h : U64 c.hi) (l : U64 c.lo) :
    gv (mvB c ++ r) 0 8 = c.obj ∧ gv (mvB c ++ r) 8 1 = b1 c.gv ∧ gv (mvB c ++ r) 9 8 = c.lo ∧ gv (mvB c ++ r) 17 8 = c.hi ∧ gv (mvB c ++ r) 25 4 = s32 c.off ∧ (∀ n, gv (mvB c ++ r) 29 n = gv r 0 n) := by
  unfold U64 at h l
  have hb : 0 ≤ b1 c.gv ∧ b1 c.gv < 256 := by cases c.gv <;> decide
  have e : mvB c ++ r = le 8 c.obj ++ (le 1 (b1 c.gv) ++ (le 8 c.lo ++ (le 8 c.hi ++ (le 4 (s32 c.off) ++ r)))) := by unfold mvB wordB; simp only [List.append_assoc]
  have l8 := le_len 8 c.obj
  have l1 := le_len 1 (b1 c.gv)
  have m8 := le_len 8 c.lo
  have n8 := le_len 8 c.hi
  have l4 := le_len 4 (s32 c.off)
  rw [e]
  refine ⟨gv_le _ 8 _ h0 (by omega), ?_, ?_, ?_, ?_, fun n => ?_⟩
  · rw [gv_skip l8 _ _ _ (by omega)]; exact gv_le _ 1 _ hb.1 (by omega)
  · rw [gv_skip l8 _ _ _ (by omega), gv_skip l1 _ _ _ (by omega)]; exact gv_le _ 8 _ l.1 (by omega)
  · rw [gv_skip l8 _ _ _ (by omega), gv_skip l1 _ _ _ (by omega), gv_skip m8 _ _ _ (by omega)]; exact gv_le _ 8 _ h.1 (by omega)
  · rw [gv_skip l8 _ _ _ (by omega), gv_skip l1 _ _ _ (by omega), gv_skip m8 _ _ _ (by omega), gv_skip n8 _ _ _ (by omega)]; exact gv_le _ 4 _ (s32_lo _) (by have := s32_hi c.off; omega)
  · rw [gv_skip l8 _ _ _ (by omega), gv_skip l1 _ _ _ (by omega), gv_skip m8 _ _ _ (by omega), gv_skip n8 _ _ _ (by omega), gv_skip l4 _ _ _ (by omega)]
theorem mvB_len (c : Cl) : (mvB c).length = 29 := by simp [mvB, wordB, le_len]
theorem gv_head (c : Cl) (ho : 0 ≤ c.op ∧ c.op ≤ 10) (hb : 0 ≤ c.by' ∧ c.by' ≤ 65535) : gv (enc c) 0 1 = c.op ∧ gv (enc c) 1 2 = c.by' ∧ (∀ m n, 3 ≤ m → gv (enc c) m n = gv (bodyB c) (m - 3) n) ∧ (∀ m, 3 ≤ m → (enc c).drop m = (bodyB c).drop (m - 3)) := by
  unfold enc
  refine ⟨?_, ?_, fun m n hm => ?_, fun m hm => ?_⟩
  · rw [List.append_assoc, gv_le _ 1 _ ho.1 (by omega)]
  · rw [List.append_assoc, gv_skip (le_len 1 c.op) _ 2 1 (by omega)]; exact gv_le _ 2 _ hb.1 (by omega)
  · rw [gv_skip (by rw [List.length_append, le_len, le_len]) _ n m hm]
  · rw [show m = 3 + (m - 3) by omega, ← List.drop_drop, List.drop_left' (by rw [List.length_append, le_len, le_len]), show 3 + (m - 3) - 3 = m - 3 by omega]
theorem guess_form (c : Cl) (hf : form c) (h : U64 c.hi) (l : U64 c.lo) : guessC (enc c) = c := by
  obtain ⟨⟨ho, hb, hsz, hoff, hn⟩, ⟨hob, hrt, hix, hgl, hdl⟩, hg, hp, hr⟩ := hf
  obtain ⟨g0, g1, g2, g3⟩ := gv_head c ⟨by omega, ho.2⟩ hb
  unfold guessC
  rw [g0, g1, g2 3 4 (by omega), g2 3 8 (by omega), g2 19 8 (by omega), g2 11 8 (by omega), g2 27 1 (by omega), g2 20 8 (by omega), g2 12 8 (by omega), g2 11 1 (by omega), g2 28 4 (by omega), g2 32 4 (by omega), g3 32 (by omega), g2 3 2 (by omega), g2 3 1 (by omega)]
  have g4 : ∀ i : Nat, gv (enc c) (4 + 2 * i) 2 = gv (bodyB c) (4 + 2 * i - 3) 2 := fun i => g2 _ _ (by omega)
  simp only [g4]
  clear g0 g1 g2 g3 g4
  obtain ⟨op, by', sz, obj, hi, lo, gv0, rt, off, n, da, ix, gi⟩ := c
  simp only at *
  unfold restC zc at hr
  simp only at hr
  have o10 : op = 1 ∨ op = 2 ∨ op = 3 ∨ op = 4 ∨ op = 5 ∨ op = 6 ∨ op = 7 ∨ op = 8 ∨ op = 9 ∨ op = 10 := by omega
  unfold bodyB zc
  have nl4 : ∀ v, gv (le 4 (s32 v)) 0 4 = s32 v := fun v => gv_le' 4 _ (s32_lo v) (by have := s32_hi v; omega)
  rcases o10 with rfl | rfl | rfl | rfl | rfl | rfl | rfl | rfl | rfl | rfl
  · simp at hr
    obtain ⟨rfl, rfl, rfl, rfl, rfl, rfl, rfl, rfl, rfl, rfl⟩ := hr
    simp [nl4, sgn_s32 hsz.1 hsz.2]
  · simp at hr
    obtain ⟨rfl, rfl, rfl, rfl, rfl, rfl, rfl, rfl⟩ := hr
    have := gv_capB obj hi lo [] hob.1 hob.2 h l
    rw [List.append_nil] at this
    simp [this, wrapS hob.1 hob.2]
  · simp at hr
    obtain ⟨rfl, rfl, rfl, rfl, rfl, rfl, rfl⟩ := hr
    have := gv_capB obj hi lo (le 1 rt) hob.1 hob.2 h l
    have h24 : (capB obj hi lo).length = 24 := by simp [capB, wordB, le_len]
    have e := gv_skip h24 (le 1 rt) 1 24 (Nat.le_refl _)
    rw [show (24 : Nat) - 24 = 0 from rfl, gv_le' 1 rt hrt.1 (by omega)] at e
    simp [this, wrapS hob.1 hob.2, e]
  · simp at hr
    obtain ⟨rfl, rfl, rfl, rfl, rfl, rfl, rfl, rfl⟩ := hr
    have := gv_capB obj hi lo [] hob.1 hob.2 h l
    rw [List.append_nil] at this
    simp [this, wrapS hob.1 hob.2]
  · simp at hr
    obtain ⟨rfl, rfl, rfl, rfl, rfl⟩ := hr
    have := gv_mvB ⟨5, by', 0, obj, hi, lo, gv0, 0, off, n, [], 0, []⟩ (le 4 (s32 n)) hob.1 hob.2 h l
    simp only at this
    have hk : decide (b1 gv0 = 1) = gv0 := by cases gv0 <;> decide
    simp [this, wrapS hob.1 hob.2, nl4, sgn_s32 hn.1 hn.2, sgn_s32 hoff.1 hoff.2, hk]
  · simp at hr
    obtain ⟨rfl, rfl, rfl, rfl, rfl⟩ := hr
    have := gv_mvB ⟨6, by', 0, obj, hi, lo, gv0, 0, off, 0, da, 0, []⟩ da hob.1 hob.2 h l
    simp only at this
    have hk : decide (b1 gv0 = 1) = gv0 := by cases gv0 <;> decide
    have hd := List.drop_left' (l₂ := da) (mvB_len ⟨6, by', 0, obj, hi, lo, gv0, 0, off, 0, da, 0, []⟩)
    simp [this, wrapS hob.1 hob.2, sgn_s32 hoff.1 hoff.2, hk, hd]
  · simp at hr
    obtain ⟨rfl, rfl, rfl, rfl, rfl, rfl, rfl, rfl⟩ := hr
    have := gv_capB obj hi lo [] hob.1 hob.2 h l
    rw [List.append_nil] at this
    simp [this, wrapS hob.1 hob.2]
  · simp at hr
    obtain ⟨rfl, rfl, rfl, rfl, rfl, rfl, rfl, rfl, rfl, rfl⟩ := hr
    have := gv_le' 2 ix hix.1 (by omega)
    simp [this]
  · simp at hr
    obtain ⟨rfl, rfl, rfl, rfl, rfl, rfl, rfl, rfl, rfl, rfl⟩ := hr
    have h1 := gv_le (giB gi) 1 (gi.length : Int) (by omega) (by omega)
    have h2 := gv_gi [] gi hg
    rw [List.append_nil] at h2
    have h3 : ∀ i : Nat, gv (le 1 (gi.length : Int) ++ giB gi) (4 + 2 * i - 3) 2 = gv (giB gi) (2 * i) 2 := fun i => by rw [gv_skip (le_len 1 _) _ 2 _ (by omega), show 4 + 2 * i - 3 - 1 = 2 * i by omega]
    simp
    rw [h1, Int.toNat_natCast]
    exact (List.map_congr_left fun i _ => h3 i).trans h2
  · simp at hr
    obtain ⟨rfl, rfl, rfl, rfl, rfl, rfl, rfl, rfl, rfl, rfl, rfl⟩ := hr
    simp
theorem guessC_facts {zs : List Int} (hB : Bytes zs) : U64 (guessC zs).hi ∧ U64 (guessC zs).lo ∧ Bytes (guessC zs).da := by
  have z64 : U64 0 := by unfold U64; omega
  have bn : Bytes [] := fun z hz => by cases hz
  unfold guessC
  split
  · exact ⟨z64, z64, bn⟩
  · split
    · exact ⟨gv8 hB 19, gv8 hB 11, bn⟩
    · split
      · exact ⟨gv8 hB 19, gv8 hB 11, bn⟩
      · split
        · exact ⟨gv8 hB 20, gv8 hB 12, bn⟩
        · split
          · exact ⟨gv8 hB 20, gv8 hB 12, fun z hz => hB z (List.mem_of_mem_drop hz)⟩
          · split
            · exact ⟨z64, z64, bn⟩
            · split <;> exact ⟨z64, z64, bn⟩
theorem parseC_guess {zs : List Int} (hB : Bytes zs) : parseC zs = if form (guessC zs) ∧ enc (guessC zs) = zs then some (guessC zs) else none := by
  have hg := guessC_facts hB
  split
  · rename_i h
    exact parse_iff zs _ hg.1 hg.2.1 h.1 h.2
  · rename_i h
    cases hp : parseC zs with
    | none => rfl
    | some c =>
      exfalso
      obtain ⟨ht, he⟩ := parse_of zs c hp
      have hr : readC zs = some c := by
        unfold parseC at hp
        cases hq : readC zs with
        | none => rw [hq] at hp; cases hp
        | some d => rw [hq] at hp; simp only at hp; split at hp <;> first | exact hp | cases hp
      have hf := read_facts hB hr
      have e : guessC zs = c := by rw [← he]; exact guess_form c ht hf.1 hf.2.1
      rw [e] at h
      exact h ⟨ht, he⟩
end Go.Proofs.Ytfpkdbogapmhmaa.O

/- Record: the tape (written by gen_rce.py). -/
import Derived.Test.YtfpkdbogapmhmaaRcD
namespace Go.Proofs.Ytfpkdbogapmhmaa.O
open Go.RowKit Go.Proofs.Ytfpkdbogapmhmaa.Mem
set_option linter.unusedVariables false
set_option linter.unusedSimpArgs false
/-- What bytes that end too early give up with. -/
def ENDED : List PanicEntry := [{ v := .iface 105 (.agg #[]), recovered := false }]
def TP {α : Type} (o : Option (α × List Int)) (val : α → Value) (r : Nat) (F : Nat → Prop) (w : World) (e : Ending) (w' : World) : Prop :=
  match o with
  | some x => e = .returned (val x.1) ∧ Rd 95 w' r x.2 F ∧ Kept (fun b => b = r) w w'
  | none => e = .panicked ENDED ∧ Kept (fun b => b = r) w w'
def tpV (r : Nat) : Value := .agg #[.pointer (some ⟨r, 0, none⟩)]
theorem num_facts {k : Nat} (hk : Wd k) (zs : List Int) : (zs.length < k → numE zs k = 17) ∧ (¬ zs.length < k → numE zs k = 0 ∧ numV zs k = val (zs.take k) ∧ numL zs k = zs.drop k) := by
  have h1 : ((k : Int) = 1 ∨ (k : Int) = 2 ∨ (k : Int) = 4 ∨ (k : Int) = 8) := by unfold Wd at hk; omega
  unfold numE numV numL
  constructor
  · intro h
    rw [if_neg (not_not_intro h1), if_pos (by omega)]
  · intro h
    rw [if_neg (not_not_intro h1), if_neg (by omega), if_neg (not_not_intro h1), if_neg (by omega), if_neg (not_not_intro h1), if_neg (by omega)]
    simp
set_option maxHeartbeats 4000000 in
set_option maxRecDepth 100000 in
theorem number_t (w : World) (r : Nat) (zs : List Int) (F : Nat → Prop) (h : Rd 95 w r zs F) (hB : Bytes zs) (k : Nat) (hk : Wd k) :
    Calls Try.prog 60 #[.agg #[.pointer (some ⟨r, 0, none⟩)], .int .i64 k] w fun e w' => TP (num k zs) (fun v => .int .i64 v) r F w e w' := by
  have hbx : Below w.heap.size w (w.alloc (.cells #[.pointer (some ⟨r, 0, none⟩)] 77)) := (Below.refl _ w).alloc (Nat.le_refl _) _
  have HN := Lib.hid (number_any _ r zs F (h.below hbx) hB k)
  obtain ⟨n1, n2⟩ := num_facts hk zs
  have hvl : Bytes (zs.take k) := fun z hz => hB z (List.mem_of_mem_take hz)
  have hlo := val_lo hvl
  have hkk : Hid (∀ w2, Kept (fun b => b = r) (w.alloc (.cells #[.pointer (some ⟨r, 0, none⟩)] 77)) w2 → Kept (fun b => b = r) w w2) := fun w2 k2 => ((Kept.refl _ w).alloc _).trans k2 (fun b hb => .inl hb)
  unfold num
  by_cases hl : zs.length < k
  · rw [if_pos hl]
    rw [n1 hl] at HN
    clear n1 n2 h hB hl hlo hvl hbx
    unfold TP
    go_enter Try.func60, Try.ntmps60
    go_wp2_with (first | (go_at_call 68; (with_reducible refine HN.out.mono ?_); rintro e w1 ⟨rfl, hr, hk1⟩; have HK := Lib.hid hk1; clear hr hk1) | fail)
    exact ⟨rfl, rfl, hkk.out _ HK.out⟩
  · rw [if_neg hl]
    obtain ⟨n3, n4, n5⟩ := n2 hl
    rw [n3, n4, n5] at HN
    obtain ⟨V, hV⟩ : ∃ V, val (zs.take k) = V := ⟨_, rfl⟩
    rw [hV] at HN hlo ⊢
    clear n1 n2 n3 n4 n5 h hB hl hvl hbx
    by_cases hg : V > 9223372036854775807
    · rw [if_pos hg]
      have d1 : decide (9223372036854775807 < V) = true := decide_eq_true hg
      clear hV
      unfold TP
      go_enter Try.func60, Try.ntmps60
      go_wp2_with (first | (go_at_call 68; (with_reducible refine HN.out.mono ?_); rintro e w1 ⟨rfl, hr, hk1⟩; have HK := Lib.hid hk1; clear hr hk1) | fail)
      exact ⟨rfl, rfl, hkk.out _ HK.out⟩
    · rw [if_neg hg]
      have d1 : decide (9223372036854775807 < V) = false := decide_eq_false hg
      have hw : IntKind.i64.wrap V = V := by rw [IntKind.wrap_i64]; omega
      clear hV
      unfold TP
      simp only
      go_enter Try.func60, Try.ntmps60
      go_wp2_with (first | (go_at_call 68; (with_reducible refine HN.out.mono ?_); rintro e w1 ⟨rfl, hr, hk1⟩; have HK := Lib.hid hk1; have HR := Lib.hid hr; clear hr hk1) | fail)
      go_ret
      exact ⟨rfl, HR.out, hkk.out _ HK.out⟩
theorem number_t' (w : World) (r : Nat) (zs : List Int) (F : Nat → Prop) (h : Rd 95 w r zs F) (hB : Bytes zs) (k : Nat) (hk : Wd k) (K : Int) (hK : (k : Int) = K) :
    Calls Try.prog 60 #[.agg #[.pointer (some ⟨r, 0, none⟩)], .int .i64 K] w fun e w' => TP (num k zs) (fun v => .int .i64 v) r F w e w' := hK ▸ number_t w r zs F h hB k hk
theorem num_bytes {k : Nat} {zs : List Int} {x : Int × List Int} (hB : Bytes zs) (h : num k zs = some x) : Bytes x.2 ∧ 0 ≤ x.1 ∧ x.1 < 256 ^ k ∧ x.1 ≤ 9223372036854775807 := by
  unfold num at h
  split at h
  · cases h
  · split at h
    · cases h
    · rename_i h1 h2
      obtain rfl := Option.some.inj h
      have hvl : Bytes (zs.take k) := fun z hz => hB z (List.mem_of_mem_take hz)
      exact ⟨fun z hz => hB z (List.mem_of_mem_drop hz), val_lo hvl, val_lt hvl (by rw [List.length_take]; omega), by omega⟩
theorem sgn_wrap {v : Int} (h0 : 0 ≤ v) (h1 : v < 4294967296) : IntKind.u32.wrap v = v ∧ IntKind.i32.wrap v = sgn v ∧ IntKind.i64.wrap (sgn v) = sgn v := by
  refine ⟨?_, ?_, ?_⟩
  · rw [IntKind.wrap_u32]; omega
  · rw [IntKind.wrap_i32]; unfold sgn; split <;> omega
  · rw [IntKind.wrap_i64]; unfold sgn; split <;> omega
set_option maxHeartbeats 4000000 in
set_option maxRecDepth 100000 in
theorem signed_t (w : World) (r : Nat) (zs : List Int) (F : Nat → Prop) (h : Rd 95 w r zs F) (hB : Bytes zs) :
    Calls Try.prog 61 #[.agg #[.pointer (some ⟨r, 0, none⟩)]] w fun e w' => TP (num 4 zs) (fun v => .int .i64 (sgn v)) r F w e w' := by
  have hbx : Below w.heap.size w (w.alloc (.cells #[.pointer (some ⟨r, 0, none⟩)] 77)) := (Below.refl _ w).alloc (Nat.le_refl _) _
  have HN := Lib.hid (number_t' _ r zs F (h.below hbx) hB 4 (by unfold Wd; omega) 4 rfl)
  have hnb := fun x => num_bytes (k := 4) (x := x) hB
  have hkk : Hid (∀ w2, Kept (fun b => b = r) (w.alloc (.cells #[.pointer (some ⟨r, 0, none⟩)] 77)) w2 → Kept (fun b => b = r) w w2) := fun w2 k2 => ((Kept.refl _ w).alloc _).trans k2 (fun b hb => .inl hb)
  clear h hB hbx
  rcases hn : num 4 zs with _ | ⟨V, rest⟩
  · rw [hn] at HN
    unfold TP at HN ⊢
    simp only at HN ⊢
    clear hnb hn
    go_enter Try.func61, Try.ntmps61
    go_wp2_with (first | (go_at_call 60; (with_reducible refine HN.out.mono ?_); rintro e w1 ⟨rfl, hk1⟩; have HK := Lib.hid hk1; clear hk1) | fail)
    exact ⟨rfl, rfl, hkk.out _ HK.out⟩
  · obtain ⟨_, v0, v1, _⟩ := hnb _ hn
    obtain ⟨hw1, hw2, hw3⟩ := sgn_wrap v0 v1
    rw [hn] at HN
    unfold TP at HN ⊢
    simp only at HN ⊢
    clear hnb hn v0 v1
    go_enter Try.func61, Try.ntmps61
    go_wp2_with (first | (go_at_call 60; (with_reducible refine HN.out.mono ?_); rintro e w1 ⟨rfl, hr, hk1⟩; have HK := Lib.hid hk1; have HR := Lib.hid hr; clear hr hk1) | fail)
    go_ret
    exact ⟨rfl, HR.out, hkk.out _ HK.out⟩

theorem box_2 {W : World} {p : Nat} {V0 U0 V U : Value} {t : TypeId} (prow : W.heap[p]? = some (.cells #[V0, U0] t)) : ((W.setCell ⟨p, 0, none⟩ V).setCell ⟨p, 1, none⟩ U).heap[p]? = some (.cells #[V, U] t) := by
  have h1 := heap_setCell_same _ p 0 _ _ V prow
  have h2 := heap_setCell_same _ p 1 _ _ U h1
  simpa using h2
theorem kept2 (W : World) (p : Nat) (a b : Value) : Kept (fun x => p ≤ x) W ((W.setCell ⟨p, 0, none⟩ a).setCell ⟨p, 1, none⟩ b) :=
  ((Kept.refl (fun x => p ≤ x) W).setCell (p := ⟨p, 0, none⟩) (.inl (Nat.le_refl _)) _).setCell (p := ⟨p, 1, none⟩) (.inl (Nat.le_refl _)) _
set_option maxHeartbeats 4000000 in
set_option maxRecDepth 100000 in
theorem tword_none (w : World) (r : Nat) (x0 x1 E : Int) (hE : E ≠ 0) (hr : r < w.heap.size) (hc : ∀ a, Below w.heap.size w a → Calls Try.prog 75 #[.pointer (some ⟨r, 0, none⟩)] a fun e w' => e = .returned (.tuple #[.agg #[.int .u64 x0, .int .u64 x1], .int .i64 E]) ∧ Kept (fun b => b = r) a w') :
    Calls Try.prog 70 #[.agg #[.pointer (some ⟨r, 0, none⟩)]] w fun e w' => e = .panicked ENDED ∧ Kept (fun b => b = r) w w' := by
  have hb1 : Below w.heap.size w ((w.alloc (.cells #[.pointer (some ⟨r, 0, none⟩)] 77)).alloc (.cells #[.int .u64 0, .int .u64 0] 24)) := ((Below.refl _ w).alloc (Nat.le_refl _) _).alloc (by simp) _
  have HN := Lib.hid (hc _ hb1)
  have HB := Lib.hid hb1
  have d1 : decide (E = 0) = false := decide_eq_false hE
  clear hc hb1 hr
  go_enter Try.func70, Try.ntmps70
  go_wp2_with (first | (go_at_call 75; (with_reducible refine HN.out.mono ?_); rintro e w1 ⟨rfl, hk1⟩; have HK := Lib.hid hk1; clear hk1) | fail)
  refine ⟨rfl, rfl, ?_⟩
  have k1 := ((Kept.of_below (S := fun b => b = r) HB.out).trans HK.out (fun b hb => .inl hb))
  exact k1.alloc _
set_option maxHeartbeats 4000000 in
set_option maxRecDepth 100000 in
theorem tword_some (w : World) (r : Nat) (zs : List Int) (F : Nat → Prop) (x0 x1 : Int) (hr : r < w.heap.size) (hc : ∀ a, Below w.heap.size w a → Calls Try.prog 75 #[.pointer (some ⟨r, 0, none⟩)] a fun e w' => e = .returned (.tuple #[.agg #[.int .u64 x0, .int .u64 x1], .int .i64 0]) ∧ Rd 95 w' r zs (fun b => F b ∧ b < w.heap.size) ∧ Kept (fun b => b = r) a w') :
    Calls Try.prog 70 #[.agg #[.pointer (some ⟨r, 0, none⟩)]] w fun e w' => e = .returned (.agg #[.int .u64 x0, .int .u64 x1]) ∧ Rd 95 w' r zs F ∧ Kept (fun b => b = r) w w' := by
  have hb1 : Below w.heap.size w ((w.alloc (.cells #[.pointer (some ⟨r, 0, none⟩)] 77)).alloc (.cells #[.int .u64 0, .int .u64 0] 24)) := ((Below.refl _ w).alloc (Nat.le_refl _) _).alloc (by simp) _
  have HN := Lib.hid (hc _ hb1)
  have HB := Lib.hid hb1
  have HR := Lib.hid hr
  have R1 : Hid (((w.alloc (.cells #[.pointer (some ⟨r, 0, none⟩)] 77)).alloc (.cells #[.int .u64 0, .int .u64 0] 24)).heap[w.heap.size + 1]? = some (.cells #[.int .u64 0, .int .u64 0] 24)) := row_new (by simp)
  obtain ⟨B, hB⟩ : ∃ B, w.heap.size = B := ⟨_, rfl⟩
  have HBB := Lib.hid hB
  clear hc hb1 hr
  go_enter Try.func70, Try.ntmps70
  go_wp2_with (first | (go_at_call 75; (with_reducible refine HN.out.mono ?_); rintro e w1 ⟨rfl, hr1, hk1⟩; have HK := Lib.hid hk1; have HR1 := Lib.hid hr1; have hrow := hk1.row R1.out (by have := HR.out; omega); rw [hB] at hrow; have y0 : w1.cell? ⟨B + 1, 0, none⟩ = some (.int .u64 0) := cell_row hrow rfl; have z0 : w1.frozen? ⟨B + 1, 0, none⟩ = false := free_row hrow; have y1 : w1.cell? ⟨B + 1, 1, none⟩ = some (.int .u64 0) := cell_row hrow rfl; have z1 : w1.frozen? ⟨B + 1, 1, none⟩ = false := free_row hrow; have PROW := Lib.hid hrow; have hlt := lt_of_row hrow; clear hrow hr1 hk1) | fail)
  refine bodyPost_ret (results_cell_row rfl _ _ (B + 1) 24 _ (0, 0) _ rfl (((Kept.refl (fun _ => False) _).alloc _).row (box_2 PROW.out) (fun h => h)) Try.underlying24 rfl info25) rfl ?_
  have FIN : Hid (∀ W3, Kept (fun b => B ≤ b) w1 W3 → Rd 95 W3 r zs F ∧ Kept (fun b => b = r) w W3) := fun W3 hk => ⟨(HR1.out.kept hk (fun b hb => by have := hb.2; omega)).mono (fun b hb => hb.1), ((Kept.of_below (S := fun b => b = r) HB.out).trans HK.out (fun x hx => .inl hx)).trans hk (fun x hx => .inr (by rw [HBB.out]; exact hx))⟩
  exact ⟨rfl, FIN.out _ (((kept2 _ (B + 1) _ _ ).mono (fun b hb => by omega)).alloc _)⟩
set_option maxHeartbeats 4000000 in
set_option maxRecDepth 100000 in
theorem tcap_none (w : World) (r : Nat) (x0 x1 x2 E : Int) (hE : E ≠ 0) (hr : r < w.heap.size) (hc : ∀ a, Below w.heap.size w a → Calls Try.prog 69 #[.pointer (some ⟨r, 0, none⟩)] a fun e w' => e = .returned (.tuple #[.agg #[.int .i64 x0, .int .u64 x1, .int .u64 x2], .int .i64 E]) ∧ Kept (fun b => b = r) a w') :
    Calls Try.prog 62 #[.agg #[.pointer (some ⟨r, 0, none⟩)]] w fun e w' => e = .panicked ENDED ∧ Kept (fun b => b = r) w w' := by
  have hb1 : Below w.heap.size w ((w.alloc (.cells #[.pointer (some ⟨r, 0, none⟩)] 77)).alloc (.cells #[.int .i64 0, .int .u64 0, .int .u64 0] 26)) := ((Below.refl _ w).alloc (Nat.le_refl _) _).alloc (by simp) _
  have HN := Lib.hid (hc _ hb1)
  have HB := Lib.hid hb1
  have d1 : decide (E = 0) = false := decide_eq_false hE
  clear hc hb1 hr
  go_enter Try.func62, Try.ntmps62
  go_wp2_with (first | (go_at_call 69; (with_reducible refine HN.out.mono ?_); rintro e w1 ⟨rfl, hk1⟩; have HK := Lib.hid hk1; clear hk1) | fail)
  refine ⟨rfl, rfl, ?_⟩
  have k1 := ((Kept.of_below (S := fun b => b = r) HB.out).trans HK.out (fun b hb => .inl hb))
  exact k1.alloc _
set_option maxHeartbeats 4000000 in
set_option maxRecDepth 100000 in
theorem tcap_some (w : World) (r : Nat) (zs : List Int) (F : Nat → Prop) (x0 x1 x2 : Int) (hr : r < w.heap.size) (hc : ∀ a, Below w.heap.size w a → Calls Try.prog 69 #[.pointer (some ⟨r, 0, none⟩)] a fun e w' => e = .returned (.tuple #[.agg #[.int .i64 x0, .int .u64 x1, .int .u64 x2], .int .i64 0]) ∧ Rd 95 w' r zs (fun b => F b ∧ b < w.heap.size) ∧ Kept (fun b => b = r) a w') :
    Calls Try.prog 62 #[.agg #[.pointer (some ⟨r, 0, none⟩)]] w fun e w' => e = .returned (.agg #[.int .i64 x0, .int .u64 x1, .int .u64 x2]) ∧ Rd 95 w' r zs F ∧ Kept (fun b => b = r) w w' := by
  have hb1 : Below w.heap.size w ((w.alloc (.cells #[.pointer (some ⟨r, 0, none⟩)] 77)).alloc (.cells #[.int .i64 0, .int .u64 0, .int .u64 0] 26)) := ((Below.refl _ w).alloc (Nat.le_refl _) _).alloc (by simp) _
  have HN := Lib.hid (hc _ hb1)
  have HB := Lib.hid hb1
  have HR := Lib.hid hr
  have R1 : Hid (((w.alloc (.cells #[.pointer (some ⟨r, 0, none⟩)] 77)).alloc (.cells #[.int .i64 0, .int .u64 0, .int .u64 0] 26)).heap[w.heap.size + 1]? = some (.cells #[.int .i64 0, .int .u64 0, .int .u64 0] 26)) := row_new (by simp)
  obtain ⟨B, hB⟩ : ∃ B, w.heap.size = B := ⟨_, rfl⟩
  have HBB := Lib.hid hB
  clear hc hb1 hr
  go_enter Try.func62, Try.ntmps62
  go_wp2_with (first | (go_at_call 69; (with_reducible refine HN.out.mono ?_); rintro e w1 ⟨rfl, hr1, hk1⟩; have HK := Lib.hid hk1; have HR1 := Lib.hid hr1; have hrow := hk1.row R1.out (by have := HR.out; omega); rw [hB] at hrow; have y0 : w1.cell? ⟨B + 1, 0, none⟩ = some (.int .i64 0) := cell_row hrow rfl; have z0 : w1.frozen? ⟨B + 1, 0, none⟩ = false := free_row hrow; have y1 : w1.cell? ⟨B + 1, 1, none⟩ = some (.int .u64 0) := cell_row hrow rfl; have z1 : w1.frozen? ⟨B + 1, 1, none⟩ = false := free_row hrow; have y2 : w1.cell? ⟨B + 1, 2, none⟩ = some (.int .u64 0) := cell_row hrow rfl; have z2 : w1.frozen? ⟨B + 1, 2, none⟩ = false := free_row hrow; have PROW := Lib.hid hrow; have hlt := lt_of_row hrow; clear hrow hr1 hk1) | fail)
  refine bodyPost_ret (results_cell_row rfl _ _ (B + 1) 26 _ (0, 0) _ rfl (((Kept.refl (fun _ => False) _).alloc _).row (box_three PROW.out) (fun h => h)) Try.underlying26 rfl info27) rfl ?_
  have FIN : Hid (∀ W3, Kept (fun b => B ≤ b) w1 W3 → Rd 95 W3 r zs F ∧ Kept (fun b => b = r) w W3) := fun W3 hk => ⟨(HR1.out.kept hk (fun b hb => by have := hb.2; omega)).mono (fun b hb => hb.1), ((Kept.of_below (S := fun b => b = r) HB.out).trans HK.out (fun x hx => .inl hx)).trans hk (fun x hx => .inr (by rw [HBB.out]; exact hx))⟩
  exact ⟨rfl, FIN.out _ (((kept3 _ (B + 1) _ _ _ ).mono (fun b hb => by omega)).alloc _)⟩
theorem cap_t (w : World) (r : Nat) (zs : List Int) (F : Nat → Prop) (h : Rd 95 w r zs F) (hB : Bytes zs) :
    Calls Try.prog 62 #[.agg #[.pointer (some ⟨r, 0, none⟩)]] w fun e w' => TP (capR zs) (fun x => .agg #[.int .i64 x.1, .int .u64 x.2.1, .int .u64 x.2.2]) r F w e w' := by
  unfold capR
  by_cases hl : zs.length < 24
  · rw [if_pos hl]
    refine tcap_none w r 0 0 0 17 (by decide) h.lt (fun a ha => ?_)
    exact (ka_bad a r zs F (h.below ha) hl).mono (fun e w' ⟨h1, h2⟩ => ⟨h1, Kept.of_below h2⟩)
  · rw [if_neg hl]
    by_cases hg : val (zs.take 8) > 4611686018427387904
    · rw [if_pos hg]
      refine tcap_none w r 0 0 0 5 (by decide) h.lt (fun a ha => ?_)
      exact (ka_great a r zs F (h.below ha) hl hB hg).mono (fun e w' ⟨h1, h2, h3⟩ => ⟨h1, h3⟩)
    · rw [if_neg hg]
      refine tcap_some w r _ F _ _ _ h.lt (fun a ha => ?_)
      exact ka_ok a r zs _ (h.tight.below ha) hl hB hg
theorem word_t (w : World) (r : Nat) (zs : List Int) (F : Nat → Prop) (h : Rd 95 w r zs F) (hB : Bytes zs) :
    Calls Try.prog 70 #[.agg #[.pointer (some ⟨r, 0, none⟩)]] w fun e w' => TP (wordR' zs) (fun x => .agg #[.int .u64 x.1, .int .u64 x.2]) r F w e w' := by
  unfold wordR'
  by_cases hl : zs.length < 16
  · rw [if_pos hl]
    refine tword_none w r 0 0 17 (by decide) h.lt (fun a ha => ?_)
    exact (word_bad a r zs F (h.below ha) hl).mono (fun e w' ⟨h1, h2⟩ => ⟨h1, Kept.of_below h2⟩)
  · rw [if_neg hl]
    refine tword_some w r _ F _ _ h.lt (fun a ha => ?_)
    exact word_ok a r zs _ (h.tight.below ha) (by omega) hB
set_option maxHeartbeats 4000000 in
set_option maxRecDepth 100000 in
theorem all_t (w : World) (r : Nat) (zs : List Int) (F : Nat → Prop) (h : Rd 95 w r zs F) (hb : zs.length ≤ 140737488355000) :
    Calls Try.prog 64 #[.agg #[.pointer (some ⟨r, 0, none⟩)]] w fun e w' => ∃ v, e = .returned v ∧ OB w' v zs ∧ Kept (fun b => b = r) w w' ∧ Fresh w v ∧ ∃ ys, Rd 95 w' r ys F := by
  have hr := h.lt
  have hbx : Below w.heap.size w (w.alloc (.cells #[.pointer (some ⟨r, 0, none⟩)] 77)) := (Below.refl _ w).alloc (Nat.le_refl _) _
  have HL := Lib.hid (fun a (ha : Below w.heap.size w a) => left_any a r zs F (h.below ha))
  have HO := Lib.hid (fun a (ha : Below w.heap.size w a) => row_ok a r zs F (h.below ha) zs.length (Nat.le_refl _) hb)
  have HE : Hid (zs.take zs.length = zs) := List.take_length
  rw [HE.out] at HO
  have HBX := Lib.hid hbx
  have HR := Lib.hid hr
  obtain ⟨B, hB⟩ : ∃ B, w.heap.size = B := ⟨_, rfl⟩
  have ST : Hid ((w.alloc (.cells #[.pointer (some ⟨r, 0, none⟩)] 77)).drew.heap[B]? = some (.cells #[.pointer (some ⟨r, 0, none⟩)] 77) ∧ Kept (fun b => b = r) w (w.alloc (.cells #[.pointer (some ⟨r, 0, none⟩)] 77)).drew) := ⟨row_new hB.symm, (Kept.of_below hbx).drew⟩
  obtain ⟨n, hn⟩ : ∃ n, zs.length = n := ⟨_, rfl⟩
  rw [hn] at HL HO
  clear h hb hr hbx hn
  go_enter Try.func64, Try.ntmps64
  go_wp2_with fail
  refine wp_region_noPanic ?_
  refine wp_region_held_drew (S := fun w' => w'.heap[B]? = some (.cells #[.pointer (some ⟨r, 0, none⟩)] 77) ∧ Kept (fun b => b = r) w w') (by kernel_rfl) (ST.out) (fun hHeld => ?_)
  refine wpAnyH_take (i := 0) (oi := { dst := some 6, op := Go.Op.fieldAddr 77 (Go.Operand.tmp 1) 0, type := 0, pos := "record.go:138", after := #[], guard := none }) (v := ?_) rfl (by kernel_rfl) (by kernel_rfl) (by kernel_rfl) (fun _ _ _ h => h) (Or.inl ⟨by rfl, ?hy0_1⟩) (by assumption) ?rest0_1
  case hy0_1 => (intro w hSw; go_simp; try with_reducible rfl)
  try simp only [Act.put, List.setIfInBounds_toArray, List.set_cons_zero, List.set_cons_succ]
  refine wpAnyH_take (i := 2) (oi := { dst := some 8, op := Go.Op.fieldAddr 77 (Go.Operand.tmp 1) 0, type := 0, pos := "record.go:138", after := #[], guard := none }) (v := ?_) rfl (by kernel_rfl) (by kernel_rfl) (by kernel_rfl) (fun _ _ _ h => h) (Or.inl ⟨by rfl, ?hy2_2⟩) (by assumption) ?rest2_2
  case hy2_2 => (intro w hSw; go_simp; try with_reducible rfl)
  try simp only [Act.put, List.setIfInBounds_toArray, List.set_cons_zero, List.set_cons_succ]
  refine wpAnyH_take (i := 1) (oi := { dst := some 7, op := Go.Op.load 74 (Go.Operand.tmp 6), type := 74, pos := "record.go:138", after := #[{ on := 0, ground := Go.Ground.data }], guard := none }) (v := ?_) rfl (by kernel_rfl) (by kernel_rfl) (by kernel_rfl) (fun _ _ _ h => h) (Or.inl ⟨by rfl, ?hy1_3⟩) (by assumption) ?rest1_3
  case hy1_3 => (intro w hSw; have z := cell_row (j := 0) hSw.1 rfl; go_simp; try with_reducible rfl)
  try simp only [Act.put, List.setIfInBounds_toArray, List.set_cons_zero, List.set_cons_succ]
  refine wpAnyH_take (i := 3) (oi := { dst := some 9, op := Go.Op.load 74 (Go.Operand.tmp 8), type := 74, pos := "record.go:138", after := #[{ on := 2, ground := Go.Ground.data }], guard := none }) (v := ?_) rfl (by kernel_rfl) (by kernel_rfl) (by kernel_rfl) (fun _ _ _ h => h) (Or.inl ⟨by rfl, ?hy3_4⟩) (by assumption) ?rest3_4
  case hy3_4 => (intro w hSw; have z := cell_row (j := 0) hSw.1 rfl; go_simp; try with_reducible rfl)
  try simp only [Act.put, List.setIfInBounds_toArray, List.set_cons_zero, List.set_cons_succ]
  refine wpAnyH_ready (rs := [4]) (by kernel_rfl) (by simp) ?_
  refine AllReadyH.cons (o := { dst := some 10, op := Go.Op.call { callee := Go.Callee.value (Go.Operand.func 72), args := #[Go.Operand.tmp 9], argTypes := #[74] }, type := 3, pos := "record.go:138", after := #[{ on := 3, ground := Go.Ground.data }], guard := none }) rfl (fun K hK => ?_) AllReadyH.nil
  go_simp
  go_at_call 72
  (refine (HL.out _ HBX.out.drew).mono ?_)
  rintro e w2 ⟨rfl, rfl⟩
  refine hK.out _ _ (hHeld) (fun hHeld2 => ?_)
  clear hK K hHeld
  have hHeld := hHeld2
  clear hHeld2
  try simp only [Act.put, List.setIfInBounds_toArray, List.set_cons_zero, List.set_cons_succ]
  refine wpAnyH_ready (rs := [5]) (by kernel_rfl) (by simp) ?_
  refine AllReadyH.cons (o := { dst := some 11, op := Go.Op.call { callee := Go.Callee.value (Go.Operand.func 71), args := #[Go.Operand.tmp 7, Go.Operand.tmp 10], argTypes := #[74, 3] }, type := 32, pos := "record.go:138", after := #[{ on := 1, ground := Go.Ground.data }, { on := 4, ground := Go.Ground.data }, { on := 4, ground := Go.Ground.chain }], guard := none }) rfl (fun K hK => ?_) AllReadyH.nil
  go_simp
  go_at_call 71
  (refine (HO.out _ HBX.out.drew).mono ?_)
  rintro e w3 ⟨A, cA, rfl, o3, r3, k3, f3⟩
  refine hK.out _ _ (⟨k3.row hHeld.1 (by have := HR.out; omega), hHeld.2.trans k3 (fun x hx => .inl hx)⟩) (fun hHeld2 => ?_)
  clear hK K hHeld
  have hHeld := hHeld2
  clear hHeld2
  try simp only [Act.put, List.setIfInBounds_toArray, List.set_cons_zero, List.set_cons_succ]
  refine wpAnyH_take (i := 6) (oi := { dst := some 5, op := Go.Op.move (Go.Operand.tmp 11), type := 32, pos := "record.go:138", after := #[{ on := 5, ground := Go.Ground.data }], guard := none }) (v := ?_) rfl (by kernel_rfl) (by kernel_rfl) (by kernel_rfl) (fun _ _ _ h => h) (Or.inl ⟨by rfl, ?hy6_5⟩) (by assumption) ?rest6_5
  case hy6_5 => (intro w hSw; go_simp; try with_reducible rfl)
  try simp only [Act.put, List.setIfInBounds_toArray, List.set_cons_zero, List.set_cons_succ]
  refine wpAnyH_take (i := 7) (oi := { dst := some 12, op := Go.Op.extract (Go.Operand.tmp 5) 0, type := 27, pos := "record.go:138", after := #[{ on := 6, ground := Go.Ground.data }], guard := none }) (v := ?_) rfl (by kernel_rfl) (by kernel_rfl) (by kernel_rfl) (fun _ _ _ h => h) (Or.inl ⟨by rfl, ?hy7_6⟩) (by assumption) ?rest7_6
  case hy7_6 => (intro w hSw; go_simp; try with_reducible rfl)
  try simp only [Act.put, List.setIfInBounds_toArray, List.set_cons_zero, List.set_cons_succ]
  refine wpAnyH_take (i := 8) (oi := { dst := some 13, op := Go.Op.extract (Go.Operand.tmp 5) 1, type := 31, pos := "record.go:138", after := #[{ on := 6, ground := Go.Ground.data }, { on := 9, ground := Go.Ground.gcOnly Go.Departure.lateStores }], guard := none }) (v := ?_) rfl (by kernel_rfl) (by kernel_rfl) (by kernel_rfl) (fun _ _ _ h => h) (Or.inl ⟨by rfl, ?hy8_7⟩) (by assumption) ?rest8_7
  case hy8_7 => (intro w hSw; go_simp; try with_reducible rfl)
  try simp only [Act.put, List.setIfInBounds_toArray, List.set_cons_zero, List.set_cons_succ]
  refine wpAnyH_take (i := 9) (oi := { dst := some 3, op := Go.Op.assign (Go.Operand.tmp 12), type := 27, pos := "record.go:138", after := #[{ on := 7, ground := Go.Ground.data }, { on := 5, ground := Go.Ground.chain }, { on := 0, ground := Go.Ground.phase }, { on := 1, ground := Go.Ground.phase }, { on := 2, ground := Go.Ground.phase }, { on := 3, ground := Go.Ground.phase }, { on := 4, ground := Go.Ground.phase }, { on := 5, ground := Go.Ground.phase }, { on := 6, ground := Go.Ground.phase }, { on := 7, ground := Go.Ground.phase }, { on := 8, ground := Go.Ground.textOnly Go.Departure.lateStores }], guard := none }) (v := ?_) rfl (by kernel_rfl) (by kernel_rfl) (by kernel_rfl) (fun _ _ _ h => h) (Or.inl ⟨by rfl, ?hy9_8⟩) (by assumption) ?rest9_8
  case hy9_8 => (intro w hSw; go_simp; try with_reducible rfl)
  try simp only [Act.put, List.setIfInBounds_toArray, List.set_cons_zero, List.set_cons_succ]
  refine wpAnyH_take (i := 10) (oi := { dst := some 4, op := Go.Op.assign (Go.Operand.tmp 13), type := 31, pos := "record.go:138", after := #[{ on := 8, ground := Go.Ground.data }, { on := 9, ground := Go.Ground.chain }, { on := 0, ground := Go.Ground.phase }, { on := 1, ground := Go.Ground.phase }, { on := 2, ground := Go.Ground.phase }, { on := 3, ground := Go.Ground.phase }, { on := 4, ground := Go.Ground.phase }, { on := 5, ground := Go.Ground.phase }, { on := 6, ground := Go.Ground.phase }, { on := 7, ground := Go.Ground.phase }, { on := 8, ground := Go.Ground.phase }, { on := 9, ground := Go.Ground.phase }], guard := none }) (v := ?_) rfl (by kernel_rfl) (by kernel_rfl) (by kernel_rfl) (fun _ _ _ h => h) (Or.inl ⟨by rfl, ?hy10_9⟩) (by assumption) ?rest10_9
  case hy10_9 => (intro w hSw; go_simp; try with_reducible rfl)
  try simp only [Act.put, List.setIfInBounds_toArray, List.set_cons_zero, List.set_cons_succ]
  refine wpAnyH_done (by kernel_rfl) ?_ _
  refine NoPanic.normal ?_
  try simp only [Act.put, List.setIfInBounds_toArray, List.set_cons_zero, List.set_cons_succ]
  go_wp2
  go_ret
  exact ⟨_, rfl, o3, hHeld.2, fun b e => Nat.le_trans HBX.out.size (f3 b e), _, r3⟩
end Go.Proofs.Ytfpkdbogapmhmaa.O

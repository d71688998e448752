/- A call of both readers. -/
import Derived.Test.YtolfmchgcelnmaaOc14
namespace Go.Proofs.Ytolfmchgcelnmaa.O
open Go.RowKit Go.Proofs.Ytolfmchgcelnmaa.Mem
set_option linter.unusedVariables false
/-- What is left behind a call. -/
def stepL (zs : List Int) (kind n most : Int) : List Int := if kind = 0 then numL zs n else if kind = 1 then intL zs n most else if kind = 2 then rowL zs n else if kind = 3 then wordR zs else if kind = 4 then kaR zs else zs
set_option maxHeartbeats 4000000 in
theorem stepNumber (w : World) (r q : Nat) (zs : List Int) (F G : Nat → Prop) (hr : Rd 82 w r zs F) (hq : Rd 64 w q zs G) (hd : ∀ b, F b → ¬ G b) (hB : Bytes zs) (hb : zs.length ≤ 140737488355000) (kind n most : Int) (hm : most ≤ 9223372036854775807) (hk : kind = 0) : Calls Try.prog 29 #[.pointer (some ⟨r, 0, none⟩), .pointer (some ⟨q, 0, none⟩), .agg #[.int .i64 kind, .int .i64 n, .int .i64 most]] w fun e w' => e = .returned (.bool true) ∧ Rd 82 w' r (numL zs n) F ∧ Rd 64 w' q (numL zs n) G ∧ Kept (fun b => b = r ∨ b = q) w w' := by
  subst hk
  have hbx := (Below.refl w.heap.size w).alloc (Nat.le_refl _) (.cells #[.int .i64 0, .int .i64 n, .int .i64 most] 67)
  have HR0 := Lib.hid (hr.below hbx)
  have HQ0 := Lib.hid (hq.below hbx)
  have brow := Lib.hid (heap_alloc_new w (.cells #[.int .i64 0, .int .i64 n, .int .i64 most] 67))
  have HBX := Lib.hid hbx
  have HBY := Lib.hid hB
  have hrq : Hid (r ≠ q) := by
    obtain ⟨A, c, h⟩ := hr
    obtain ⟨A', c', h'⟩ := hq
    intro e
    exact hd r h.hr (e ▸ h'.hr)
  have HD := Lib.hid hd
  have HFR : Hid (F r) := by obtain ⟨A, c, h⟩ := hr; exact h.hr
  have HGQ : Hid (G q) := by obtain ⟨A, c, h⟩ := hq; exact h.hr
  have hpr : Hid (w.heap.size ≠ r ∧ w.heap.size ≠ q) := ⟨by have := hr.lt; omega, by have := hq.lt; omega⟩
  clear hr hq hd hB hbx
  have HX := Lib.hid (number_any _ r zs F HR0.out HBY.out n)
  go_enter Try.func29, Try.ntmps29
  go_wp2_with fail
  (with_reducible refine HX.out.mono ?_)
  rintro e w1 ⟨rfl, g1, k1⟩
  have G1 := Lib.hid g1
  have K1 := Lib.hid k1
  have HQ1 := Lib.hid (HQ0.out.kept k1 (fun b hb e => HD.out r HFR.out (e ▸ hb)))
  have brow1 := Lib.hid (k1.row brow.out hpr.out.1)
  have b1 : w1.cell? ⟨w.heap.size, 1, none⟩ = some (.int .i64 n) := cell_row brow1.out rfl
  have b2 : w1.cell? ⟨w.heap.size, 2, none⟩ = some (.int .i64 most) := cell_row brow1.out rfl
  clear g1 k1 HX
  have HY := Lib.hid (rnumber_any w1 q zs G HQ1.out HBY.out n)
  go_wp2_with fail
  (with_reducible refine HY.out.mono ?_)
  rintro e w2 ⟨rfl, g2, k2⟩
  have G2 := Lib.hid g2
  have K2 := Lib.hid k2
  have FIN : Hid (∀ W3, Below w2.heap.size w2 W3 → Rd 82 W3 r (numL zs n) F ∧ Rd 64 W3 q (numL zs n) G ∧ Kept (fun b => b = r ∨ b = q) w W3) := fun W3 hb3 => ⟨(G1.out.kept K2.out (fun b hb e => HD.out b hb (e ▸ HGQ.out))).below hb3, G2.out.below hb3, (((Kept.of_below (S := fun b => b = r ∨ b = q) HBX.out).trans K1.out (fun x hx => .inl (.inl hx))).trans K2.out (fun x hx => .inl (.inr hx))).trans (Kept.of_below (S := fun _ => False) hb3) (fun x hx => hx.elim)⟩
  clear g2 k2 HY
  go_wp2_with fail
  go_ret
  exact ⟨rfl, FIN.out _ (Below.refl _ _)⟩
set_option maxHeartbeats 4000000 in
theorem stepInt (w : World) (r q : Nat) (zs : List Int) (F G : Nat → Prop) (hr : Rd 82 w r zs F) (hq : Rd 64 w q zs G) (hd : ∀ b, F b → ¬ G b) (hB : Bytes zs) (hb : zs.length ≤ 140737488355000) (kind n most : Int) (hm : most ≤ 9223372036854775807) (hk : kind = 1) : Calls Try.prog 29 #[.pointer (some ⟨r, 0, none⟩), .pointer (some ⟨q, 0, none⟩), .agg #[.int .i64 kind, .int .i64 n, .int .i64 most]] w fun e w' => e = .returned (.bool true) ∧ Rd 82 w' r (intL zs n most) F ∧ Rd 64 w' q (intL zs n most) G ∧ Kept (fun b => b = r ∨ b = q) w w' := by
  subst hk
  have hbx := (Below.refl w.heap.size w).alloc (Nat.le_refl _) (.cells #[.int .i64 1, .int .i64 n, .int .i64 most] 67)
  have HR0 := Lib.hid (hr.below hbx)
  have HQ0 := Lib.hid (hq.below hbx)
  have brow := Lib.hid (heap_alloc_new w (.cells #[.int .i64 1, .int .i64 n, .int .i64 most] 67))
  have HBX := Lib.hid hbx
  have HBY := Lib.hid hB
  have hrq : Hid (r ≠ q) := by
    obtain ⟨A, c, h⟩ := hr
    obtain ⟨A', c', h'⟩ := hq
    intro e
    exact hd r h.hr (e ▸ h'.hr)
  have HD := Lib.hid hd
  have HFR : Hid (F r) := by obtain ⟨A, c, h⟩ := hr; exact h.hr
  have HGQ : Hid (G q) := by obtain ⟨A, c, h⟩ := hq; exact h.hr
  have hpr : Hid (w.heap.size ≠ r ∧ w.heap.size ≠ q) := ⟨by have := hr.lt; omega, by have := hq.lt; omega⟩
  clear hr hq hd hB hbx
  have HX := Lib.hid (int_any _ r zs F HR0.out HBY.out n most hm)
  go_enter Try.func29, Try.ntmps29
  go_wp2_with fail
  (with_reducible refine HX.out.mono ?_)
  rintro e w1 ⟨rfl, g1, k1⟩
  have G1 := Lib.hid g1
  have K1 := Lib.hid k1
  have HQ1 := Lib.hid (HQ0.out.kept k1 (fun b hb e => HD.out r HFR.out (e ▸ hb)))
  have brow1 := Lib.hid (k1.row brow.out hpr.out.1)
  have b1 : w1.cell? ⟨w.heap.size, 1, none⟩ = some (.int .i64 n) := cell_row brow1.out rfl
  have b2 : w1.cell? ⟨w.heap.size, 2, none⟩ = some (.int .i64 most) := cell_row brow1.out rfl
  clear g1 k1 HX
  have HY := Lib.hid (rint_any w1 q zs G HQ1.out HBY.out n most hm)
  go_wp2_with fail
  (with_reducible refine HY.out.mono ?_)
  rintro e w2 ⟨rfl, g2, k2⟩
  have G2 := Lib.hid g2
  have K2 := Lib.hid k2
  have FIN : Hid (∀ W3, Below w2.heap.size w2 W3 → Rd 82 W3 r (intL zs n most) F ∧ Rd 64 W3 q (intL zs n most) G ∧ Kept (fun b => b = r ∨ b = q) w W3) := fun W3 hb3 => ⟨(G1.out.kept K2.out (fun b hb e => HD.out b hb (e ▸ HGQ.out))).below hb3, G2.out.below hb3, (((Kept.of_below (S := fun b => b = r ∨ b = q) HBX.out).trans K1.out (fun x hx => .inl (.inl hx))).trans K2.out (fun x hx => .inl (.inr hx))).trans (Kept.of_below (S := fun _ => False) hb3) (fun x hx => hx.elim)⟩
  clear g2 k2 HY
  go_wp2_with fail
  go_ret
  exact ⟨rfl, FIN.out _ (Below.refl _ _)⟩
set_option maxHeartbeats 4000000 in
theorem stepRow (w : World) (r q : Nat) (zs : List Int) (F G : Nat → Prop) (hr : Rd 82 w r zs F) (hq : Rd 64 w q zs G) (hd : ∀ b, F b → ¬ G b) (hB : Bytes zs) (hb : zs.length ≤ 140737488355000) (kind n most : Int) (hm : most ≤ 9223372036854775807) (hk : kind = 2) : Calls Try.prog 29 #[.pointer (some ⟨r, 0, none⟩), .pointer (some ⟨q, 0, none⟩), .agg #[.int .i64 kind, .int .i64 n, .int .i64 most]] w fun e w' => e = .returned (.bool true) ∧ Rd 82 w' r (rowL zs n) F ∧ Rd 64 w' q (rowL zs n) G ∧ Kept (fun b => b = r ∨ b = q) w w' := by
  subst hk
  have hbx := (Below.refl w.heap.size w).alloc (Nat.le_refl _) (.cells #[.int .i64 2, .int .i64 n, .int .i64 most] 67)
  have HR0 := Lib.hid (hr.below hbx)
  have HQ0 := Lib.hid (hq.below hbx)
  have brow := Lib.hid (heap_alloc_new w (.cells #[.int .i64 2, .int .i64 n, .int .i64 most] 67))
  have HBX := Lib.hid hbx
  have HBY := Lib.hid hB
  have hrq : Hid (r ≠ q) := by
    obtain ⟨A, c, h⟩ := hr
    obtain ⟨A', c', h'⟩ := hq
    intro e
    exact hd r h.hr (e ▸ h'.hr)
  have HD := Lib.hid hd
  have HFR : Hid (F r) := by obtain ⟨A, c, h⟩ := hr; exact h.hr
  have HGQ : Hid (G q) := by obtain ⟨A, c, h⟩ := hq; exact h.hr
  have hpr : Hid (w.heap.size ≠ r ∧ w.heap.size ≠ q) := ⟨by have := hr.lt; omega, by have := hq.lt; omega⟩
  clear hr hq hd hB hbx
  have HX := Lib.hid (row_any _ r zs F HR0.out n hb)
  go_enter Try.func29, Try.ntmps29
  go_wp2_with fail
  (with_reducible refine HX.out.mono ?_)
  rintro e w1 ⟨A1, c1, rfl, o1, g1, k1, f1⟩
  have F1 := Lib.hid f1
  have HQL := Lib.hid HQ0.out.lt
  have G1 := Lib.hid g1
  have K1 := Lib.hid k1
  have HQ1 := Lib.hid (HQ0.out.kept k1 (fun b hb e => HD.out r HFR.out (e ▸ hb)))
  have brow1 := Lib.hid (k1.row brow.out hpr.out.1)
  have b1 : w1.cell? ⟨w.heap.size, 1, none⟩ = some (.int .i64 n) := cell_row brow1.out rfl
  have b2 : w1.cell? ⟨w.heap.size, 2, none⟩ = some (.int .i64 most) := cell_row brow1.out rfl
  clear g1 k1 HX
  have O1 := Lib.hid o1
  clear o1 f1
  have HY := Lib.hid (rrow_any w1 q zs G HQ1.out n hb)
  have hq1 := Lib.hid HQ1.out.lt
  go_wp2_with fail
  (with_reducible refine HY.out.mono ?_)
  rintro e w2 ⟨A2, c2, rfl, o2, g2, k2, f2⟩
  have G2 := Lib.hid g2
  have K2 := Lib.hid k2
  have FIN : Hid (∀ W3, Below w2.heap.size w2 W3 → Rd 82 W3 r (rowL zs n) F ∧ Rd 64 W3 q (rowL zs n) G ∧ Kept (fun b => b = r ∨ b = q) w W3) := fun W3 hb3 => ⟨(G1.out.kept K2.out (fun b hb e => HD.out b hb (e ▸ HGQ.out))).below hb3, G2.out.below hb3, (((Kept.of_below (S := fun b => b = r ∨ b = q) HBX.out).trans K1.out (fun x hx => .inl (.inl hx))).trans K2.out (fun x hx => .inl (.inr hx))).trans (Kept.of_below (S := fun _ => False) hb3) (fun x hx => hx.elim)⟩
  have O1' := Lib.hid (own_kept O1.out K2.out (fun b hb e => by have h1 := F1.out b hb; have h2 := HQL.out; have h3 : b = q := e; omega))
  have HSM := Lib.hid (same_eq w2 _ _ (rowZ zs n) (show OB w2 _ _ from O1'.out).reads o2.reads)
  clear g2 k2 HY o2 f2
  go_wp2_with fail
  (with_reducible refine HSM.out.mono ?_)
  rintro e w3 ⟨rfl, rfl⟩
  go_wp2_with fail
  go_ret
  exact ⟨rfl, FIN.out _ (Below.refl _ _)⟩
set_option maxHeartbeats 4000000 in
theorem stepWord (w : World) (r q : Nat) (zs : List Int) (F G : Nat → Prop) (hr : Rd 82 w r zs F) (hq : Rd 64 w q zs G) (hd : ∀ b, F b → ¬ G b) (hB : Bytes zs) (hb : zs.length ≤ 140737488355000) (kind n most : Int) (hm : most ≤ 9223372036854775807) (hk : kind = 3) : Calls Try.prog 29 #[.pointer (some ⟨r, 0, none⟩), .pointer (some ⟨q, 0, none⟩), .agg #[.int .i64 kind, .int .i64 n, .int .i64 most]] w fun e w' => e = .returned (.bool true) ∧ Rd 82 w' r (wordR zs) F ∧ Rd 64 w' q (wordR zs) G ∧ Kept (fun b => b = r ∨ b = q) w w' := by
  subst hk
  have hbx := (Below.refl w.heap.size w).alloc (Nat.le_refl _) (.cells #[.int .i64 3, .int .i64 n, .int .i64 most] 67)
  have HR0 := Lib.hid (hr.below hbx)
  have HQ0 := Lib.hid (hq.below hbx)
  have brow := Lib.hid (heap_alloc_new w (.cells #[.int .i64 3, .int .i64 n, .int .i64 most] 67))
  have HBX := Lib.hid hbx
  have HBY := Lib.hid hB
  have hrq : Hid (r ≠ q) := by
    obtain ⟨A, c, h⟩ := hr
    obtain ⟨A', c', h'⟩ := hq
    intro e
    exact hd r h.hr (e ▸ h'.hr)
  have HD := Lib.hid hd
  have HFR : Hid (F r) := by obtain ⟨A, c, h⟩ := hr; exact h.hr
  have HGQ : Hid (G q) := by obtain ⟨A, c, h⟩ := hq; exact h.hr
  have hpr : Hid (w.heap.size ≠ r ∧ w.heap.size ≠ q) := ⟨by have := hr.lt; omega, by have := hq.lt; omega⟩
  clear hr hq hd hB hbx
  have HX := Lib.hid (word_all _ r zs F HR0.out HBY.out)
  go_enter Try.func29, Try.ntmps29
  go_wp2_with fail
  (with_reducible refine HX.out.mono ?_)
  rintro e w1 ⟨rfl, g1, k1⟩
  have G1 := Lib.hid g1
  have K1 := Lib.hid k1
  have HQ1 := Lib.hid (HQ0.out.kept k1 (fun b hb e => HD.out r HFR.out (e ▸ hb)))
  have brow1 := Lib.hid (k1.row brow.out hpr.out.1)
  have b1 : w1.cell? ⟨w.heap.size, 1, none⟩ = some (.int .i64 n) := cell_row brow1.out rfl
  have b2 : w1.cell? ⟨w.heap.size, 2, none⟩ = some (.int .i64 most) := cell_row brow1.out rfl
  clear g1 k1 HX
  have hb4 : Below w1.heap.size w1 (w1.alloc (.cells #[.int .u64 (wordH zs), .int .u64 (wordL zs)] 25)) := (Below.refl _ w1).alloc (Nat.le_refl _) _
  have HB4 := Lib.hid hb4
  have nrow := Lib.hid (heap_alloc_new w1 (.cells #[.int .u64 (wordH zs), .int .u64 (wordL zs)] 25))
  have HY := Lib.hid (rwd_all (w1.alloc (.cells #[.int .u64 (wordH zs), .int .u64 (wordL zs)] 25)) q zs G (HQ1.out.below hb4) HBY.out)
  have hq1 := Lib.hid HQ1.out.lt
  clear hb4
  go_wp2_with fail
  (with_reducible refine HY.out.mono ?_)
  rintro e w2 ⟨rfl, g2, k2⟩
  have G2 := Lib.hid g2
  have K2 := Lib.hid k2
  have nrow2 := k2.row nrow.out (by have := hq1.out; omega : ¬ w1.heap.size = q)
  have hnl := lt_of_row nrow2
  have n0 : w2.cell? ⟨w1.heap.size, 0, none⟩ = some (.int .u64 (wordH zs)) := cell_row nrow2 rfl
  have n1 : w2.cell? ⟨w1.heap.size, 1, none⟩ = some (.int .u64 (wordL zs)) := cell_row nrow2 rfl
  have FIN : Hid (∀ W3, Below w2.heap.size w2 W3 → Rd 82 W3 r (wordR zs) F ∧ Rd 64 W3 q (wordR zs) G ∧ Kept (fun b => b = r ∨ b = q) w W3) := fun W3 hb3 => by
    have a1 : Kept (fun b => b = r ∨ b = q) w w1 := (Kept.of_below (S := fun b => b = r ∨ b = q) HBX.out).trans K1.out (fun x hx => .inl (.inl hx))
    have a2 := a1.then_below HB4.out
    have a3 := a2.trans K2.out (fun x hx => .inl (.inr hx))
    exact ⟨((G1.out.below HB4.out).kept K2.out (fun b hb e => HD.out b hb (e ▸ HGQ.out))).below hb3, G2.out.below hb3, a3.then_below hb3⟩
  clear g2 k2 HY nrow2
  obtain ⟨s, hs⟩ : ∃ s, w1.heap.size = s := ⟨_, rfl⟩
  rw [hs] at n0 n1 hnl
  rw [hs]
  clear hs
  go_wp2_with fail
  go_ret
  exact ⟨rfl, FIN.out _ ((Below.refl _ _).alloc (Nat.le_refl _) _)⟩
set_option maxHeartbeats 4000000 in
theorem stepCap (w : World) (r q : Nat) (zs : List Int) (F G : Nat → Prop) (hr : Rd 82 w r zs F) (hq : Rd 64 w q zs G) (hd : ∀ b, F b → ¬ G b) (hB : Bytes zs) (hb : zs.length ≤ 140737488355000) (kind n most : Int) (hm : most ≤ 9223372036854775807) (hk : kind = 4) : Calls Try.prog 29 #[.pointer (some ⟨r, 0, none⟩), .pointer (some ⟨q, 0, none⟩), .agg #[.int .i64 kind, .int .i64 n, .int .i64 most]] w fun e w' => e = .returned (.bool true) ∧ Rd 82 w' r (kaR zs) F ∧ Rd 64 w' q (kaR zs) G ∧ Kept (fun b => b = r ∨ b = q) w w' := by
  subst hk
  have hbx := (Below.refl w.heap.size w).alloc (Nat.le_refl _) (.cells #[.int .i64 4, .int .i64 n, .int .i64 most] 67)
  have HR0 := Lib.hid (hr.below hbx)
  have HQ0 := Lib.hid (hq.below hbx)
  have brow := Lib.hid (heap_alloc_new w (.cells #[.int .i64 4, .int .i64 n, .int .i64 most] 67))
  have HBX := Lib.hid hbx
  have HBY := Lib.hid hB
  have hrq : Hid (r ≠ q) := by
    obtain ⟨A, c, h⟩ := hr
    obtain ⟨A', c', h'⟩ := hq
    intro e
    exact hd r h.hr (e ▸ h'.hr)
  have HD := Lib.hid hd
  have HFR : Hid (F r) := by obtain ⟨A, c, h⟩ := hr; exact h.hr
  have HGQ : Hid (G q) := by obtain ⟨A, c, h⟩ := hq; exact h.hr
  have hpr : Hid (w.heap.size ≠ r ∧ w.heap.size ≠ q) := ⟨by have := hr.lt; omega, by have := hq.lt; omega⟩
  clear hr hq hd hB hbx
  have HX := Lib.hid (ka_all _ r zs F HR0.out HBY.out)
  go_enter Try.func29, Try.ntmps29
  go_wp2_with fail
  (with_reducible refine HX.out.mono ?_)
  rintro e w1 ⟨rfl, g1, k1⟩
  have G1 := Lib.hid g1
  have K1 := Lib.hid k1
  have HQ1 := Lib.hid (HQ0.out.kept k1 (fun b hb e => HD.out r HFR.out (e ▸ hb)))
  have brow1 := Lib.hid (k1.row brow.out hpr.out.1)
  have b1 : w1.cell? ⟨w.heap.size, 1, none⟩ = some (.int .i64 n) := cell_row brow1.out rfl
  have b2 : w1.cell? ⟨w.heap.size, 2, none⟩ = some (.int .i64 most) := cell_row brow1.out rfl
  clear g1 k1 HX
  have hb4 : Below w1.heap.size w1 (w1.alloc (.cells #[.int .i64 (kaO zs), .int .u64 (kaH zs), .int .u64 (kaL zs)] 27)) := (Below.refl _ w1).alloc (Nat.le_refl _) _
  have HB4 := Lib.hid hb4
  have nrow := Lib.hid (heap_alloc_new w1 (.cells #[.int .i64 (kaO zs), .int .u64 (kaH zs), .int .u64 (kaL zs)] 27))
  have HY := Lib.hid (rka_all (w1.alloc (.cells #[.int .i64 (kaO zs), .int .u64 (kaH zs), .int .u64 (kaL zs)] 27)) q zs G (HQ1.out.below hb4) HBY.out)
  have hq1 := Lib.hid HQ1.out.lt
  clear hb4
  go_wp2_with fail
  (with_reducible refine HY.out.mono ?_)
  rintro e w2 ⟨rfl, g2, k2⟩
  have G2 := Lib.hid g2
  have K2 := Lib.hid k2
  have nrow2 := k2.row nrow.out (by have := hq1.out; omega : ¬ w1.heap.size = q)
  have hnl := lt_of_row nrow2
  have n0 : w2.cell? ⟨w1.heap.size, 0, none⟩ = some (.int .i64 (kaO zs)) := cell_row nrow2 rfl
  have n1 : w2.cell? ⟨w1.heap.size, 1, none⟩ = some (.int .u64 (kaH zs)) := cell_row nrow2 rfl
  have n2 : w2.cell? ⟨w1.heap.size, 2, none⟩ = some (.int .u64 (kaL zs)) := cell_row nrow2 rfl
  have FIN : Hid (∀ W3, Below w2.heap.size w2 W3 → Rd 82 W3 r (kaR zs) F ∧ Rd 64 W3 q (kaR zs) G ∧ Kept (fun b => b = r ∨ b = q) w W3) := fun W3 hb3 => by
    have a1 : Kept (fun b => b = r ∨ b = q) w w1 := (Kept.of_below (S := fun b => b = r ∨ b = q) HBX.out).trans K1.out (fun x hx => .inl (.inl hx))
    have a2 := a1.then_below HB4.out
    have a3 := a2.trans K2.out (fun x hx => .inl (.inr hx))
    exact ⟨((G1.out.below HB4.out).kept K2.out (fun b hb e => HD.out b hb (e ▸ HGQ.out))).below hb3, G2.out.below hb3, a3.then_below hb3⟩
  clear g2 k2 HY nrow2
  obtain ⟨s, hs⟩ : ∃ s, w1.heap.size = s := ⟨_, rfl⟩
  rw [hs] at n0 n1 n2 hnl
  rw [hs]
  clear hs
  go_wp2_with fail
  go_ret
  exact ⟨rfl, FIN.out _ ((Below.refl _ _).alloc (Nat.le_refl _) _)⟩
set_option maxHeartbeats 4000000 in
theorem stepOther (w : World) (r q : Nat) (kind n most : Int) (h0 : kind ≠ 0) (h1 : kind ≠ 1) (h2 : kind ≠ 2) (h3 : kind ≠ 3) (h4 : kind ≠ 4) : Calls Try.prog 29 #[.pointer (some ⟨r, 0, none⟩), .pointer (some ⟨q, 0, none⟩), .agg #[.int .i64 kind, .int .i64 n, .int .i64 most]] w fun e w' => e = .returned (.bool true) ∧ Below w.heap.size w w' := by
  have d0 : (kind == 0) = false := beq_eq_false_iff_ne.2 h0
  have d1 : (kind == 1) = false := beq_eq_false_iff_ne.2 h1
  have d2 : (kind == 2) = false := beq_eq_false_iff_ne.2 h2
  have d3 : (kind == 3) = false := beq_eq_false_iff_ne.2 h3
  have d4 : (kind == 4) = false := beq_eq_false_iff_ne.2 h4
  have hbx := (Below.refl w.heap.size w).alloc (Nat.le_refl _) (.cells #[.int .i64 kind, .int .i64 n, .int .i64 most] 67)
  clear h0 h1 h2 h3 h4
  go_enter Try.func29, Try.ntmps29
  go_wp2_with fail
  go_ret
  exact ⟨rfl, hbx⟩
theorem step_any (w : World) (r q : Nat) (zs : List Int) (F G : Nat → Prop) (hr : Rd 82 w r zs F) (hq : Rd 64 w q zs G) (hd : ∀ b, F b → ¬ G b) (hB : Bytes zs) (hb : zs.length ≤ 140737488355000) (kind n most : Int) (hm : most ≤ 9223372036854775807) : Calls Try.prog 29 #[.pointer (some ⟨r, 0, none⟩), .pointer (some ⟨q, 0, none⟩), .agg #[.int .i64 kind, .int .i64 n, .int .i64 most]] w fun e w' => e = .returned (.bool true) ∧ Rd 82 w' r (stepL zs kind n most) F ∧ Rd 64 w' q (stepL zs kind n most) G ∧ Kept (fun b => b = r ∨ b = q) w w' := by
  unfold stepL
  by_cases h0 : kind = 0
  · rw [if_pos h0]; exact stepNumber w r q zs F G hr hq hd hB hb kind n most hm h0
  rw [if_neg h0]
  by_cases h1 : kind = 1
  · rw [if_pos h1]; exact stepInt w r q zs F G hr hq hd hB hb kind n most hm h1
  rw [if_neg h1]
  by_cases h2 : kind = 2
  · rw [if_pos h2]; exact stepRow w r q zs F G hr hq hd hB hb kind n most hm h2
  rw [if_neg h2]
  by_cases h3 : kind = 3
  · rw [if_pos h3]; exact stepWord w r q zs F G hr hq hd hB hb kind n most hm h3
  rw [if_neg h3]
  by_cases h4 : kind = 4
  · rw [if_pos h4]; exact stepCap w r q zs F G hr hq hd hB hb kind n most hm h4
  rw [if_neg h4]
  refine (stepOther w r q kind n most h0 h1 h2 h3 h4).mono ?_
  rintro e w' ⟨rfl, hb⟩
  exact ⟨rfl, hr.below hb, hq.below hb, Kept.of_below hb⟩
end Go.Proofs.Ytolfmchgcelnmaa.O

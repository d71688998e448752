/- Root, Child, Cut. Own text; Ytkmmpagflbnenaa and the numbers between @..@ are the seat's. -/
import Derived.Test.YtkmmpagflbnenaaKinD
namespace Go.Proofs.Ytkmmpagflbnenaa.Kin
open Go.RowKit Go.Proofs.Ytkmmpagflbnenaa.Mem
set_option linter.unusedVariables false
def rootE (m : Nat) (L : List (Int × Int)) (n : Int) : Int := if inR m n = true then (if has L n = true then 19 else 0) else 20
def rootL (m : Nat) (L : List (Int × Int)) (n : Int) : List (Int × Int) := if inR m n = true then (if has L n = true then L else L ++ [(n, -1)]) else L
def childE (m : Nat) (L : List (Int × Int)) (q n : Int) : Int := if inR m n = true ∧ has L q = true then (if has L n = true then 19 else 0) else 20
def childL (m : Nat) (L : List (Int × Int)) (q n : Int) : List (Int × Int) := if inR m n = true ∧ has L q = true then (if has L n = true then L else L ++ [(n, q)]) else L
def cutE (L : List (Int × Int)) (n : Int) : Int := if has L n = true then (if chl L n = [] then 0 else 19) else 20
def cutL (L : List (Int × Int)) (n : Int) : List (Int × Int) := if has L n = true ∧ chl L n = [] then cut L n else L
theorem inR_nat {m : Nat} {n : Int} (h : inR m n = true) : ∃ k : Nat, n = k ∧ k < m := by
  simp [inR] at h
  exact ⟨n.toNat, by omega, by omega⟩
section
variable (w : World) (p g m : Nat) (L : List (Int × Int)) (V : Nat → Value) (F : Nat → Prop) (h : Kt w p g m L V F)
include h
set_option maxHeartbeats 4000000 in
theorem add_child (k q : Nat) (hk : k < m) (hq : q < m) (hn : has L k = false) (hp : has L q = true) : Calls Try.prog 50 #[.pointer (some ⟨p, 0, none⟩), .int .i64 k, .int .i64 q] w fun e w' => e = .returned (.int .i64 0) ∧ Kept F w w' ∧ ∃ V', Kt w' p g m (L ++ [((k : Int), (q : Int))]) V' (fun b => F b ∨ w.heap.size ≤ b) := by
  have c0 := h.c0
  have hm := h.hm
  have hqk : q ≠ k := fun e => by subst e; rw [hn] at hp; cases hp
  have HH := Lib.hid (has_any w p g m L V F h k)
  rw [hn] at HH
  have HA := Lib.hid (at_any w p g m k hk hm c0)
  obtain ⟨y0, y1, y2⟩ := h.cell hk
  have f0 := h.kg.free (k * 3)
  have f1 := h.kg.free (k * 3 + 1)
  have f2 := h.kg.free (k * 3 + 2)
  obtain ⟨k1, k2⟩ := h.kg.node hk true q
  obtain ⟨A, n, hV⟩ : ∃ A c, V q = .slice A (chl L q).length c := by obtain ⟨A, c, e, _⟩ := own_slice (h.kg.own.own q hq); exact ⟨A, c, e⟩
  have hl := chl_len w p g m L V F h q
  have KG1 := Lib.hid k1
  have KK1 := Lib.hid k2
  have HI := Lib.hid h.inv
  have HFg := Lib.hid h.kg.fg
  have HFv := Lib.hid h.kg.fv
  have HVQ : Hid (up V k (.slice none 0 0) q = .slice A (chl L q).length n) := by show _ = _; rw [up_other _ _ hqk]; exact hV
  have HV := Lib.hid hV
  have HN := Lib.hid hn
  have HP := Lib.hid hp
  have HSZ : Hid (w.heap.size = ((((w.setCell ⟨g, k * 3, none⟩ (.bool true)).setCell ⟨g, k * 3 + 1, none⟩ (.int .i64 q)).setCell ⟨g, k * 3 + 2, none⟩ (.slice none 0 0))).heap.size) := by show _ = _; simp
  clear h k1 k2 hn hp hV
  go_enter Try.func50, Try.ntmps50
  go_wp2_with fail
  (with_reducible refine HH.out.mono ?_)
  rintro e w1 ⟨rfl, rfl⟩
  go_wp2_with fail
  (with_reducible refine HA.out.mono ?_)
  rintro e w1 ⟨rfl, rfl⟩
  go_wp2_with fail
  clear HH HA y0 y1 y2 f0 f1 f2 c0
  generalize ((w.setCell ⟨g, k * 3, none⟩ (.bool true)).setCell ⟨g, k * 3 + 1, none⟩ (.int .i64 q)).setCell ⟨g, k * 3 + 2, none⟩ (.slice none 0 0) = W1 at *
  have c0 := KG1.out.c0
  (with_reducible refine (at_any W1 p g m q hq hm c0).mono ?_)
  rintro e w1 ⟨rfl, rfl⟩
  have y2 := (KG1.out.cell hq).2.2
  rw [HVQ.out] at y2
  have HO := Lib.hid (KG1.out.own.own q hq)
  simp only [up_other _ _ hqk] at HO
  rw [HV.out] at HO
  have HB : Hid (∀ k' b, k' < m → (up V k (.slice none 0 0) k').ownBlock = some b → F b ∧ b ≠ p ∧ b ≠ g) := KG1.out.fv
  have HSA : Hid (Below W1.heap.size W1 (W1.alloc (.cells #[.int .i64 k] 3))) := (Below.refl _ W1).alloc (Nat.le_refl _) _
  obtain ⟨N, hN⟩ : ∃ N, (chl L q).length = N := ⟨_, rfl⟩
  have HNN := Lib.hid hN
  rw [hN] at y2 HO HV HVQ hl
  clear hN
  go_wp2_with (at_builtin; refine list_app2 rfl (.tmp 29) (.tmp 31) 34 rfl 3 0 _ 1 8 Try.underlying34 info_int rfl (by decide) (by decide) (.slice A N n) N _ rfl (own_keeps HO.out ((Kept.refl _ _).alloc _)) (some ⟨W1.heap.size, 0, none⟩) 1 1 [.int .i64 k] rfl rfl (holds_new _ _ _ _ _ rfl) (by simp [Value.oneCell']) (by omega) (Nat.zero_le _) ?_; intro v9 w9 hown9 hwent9; (obtain ⟨A9, c9, rfl, _⟩ := own_slice hown9); have hK9 : Kept (fun b => (Value.slice A N n).ownBlock = some b) W1 w9 := ((Kept.refl _ W1).alloc _).trans hwent9.kept (fun b hb => .inl hb); have K9 := Lib.hid hK9; have f9 : w9.frozen? ⟨g, q * 3 + 2, none⟩ = false := (hK9.frozen (by have := KG1.out.lt; exact this.1) (fun e => by have h1 := HB.out q g hq (by rw [HVQ.out]; exact e); exact h1.2.2 rfl)).trans (KG1.out.free _); have y9 : w9.cell? ⟨g, q * 3 + 2, none⟩ = some (.slice A N n) := (hK9.cell (by have := KG1.out.lt; exact this.1) (fun e => by have h1 := HB.out q g hq (by rw [HVQ.out]; exact e); exact h1.2.2 rfl)).trans y2; have O9 := Lib.hid hown9; have WE9 := Lib.hid hwent9; clear hown9 hwent9 hK9)
  go_ret
  have hb9 : ∀ b, (Value.slice A9 (N + 1) c9).ownBlock = some b → (up V k (.slice none 0 0) q).ownBlock = some b ∨ W1.heap.size ≤ b := fun b hb => by
    rw [HVQ.out]
    rcases WE9.out.block with e | e
    · exact .inl (e ▸ hb)
    · have h1 := Option.some.inj (e.symm.trans hb)
      simp at h1
      exact .inr (by omega)
  obtain ⟨g1, g2⟩ := KG1.out.list hq (v' := .slice A9 (N + 1) c9) (zs' := chl L q ++ [(k : Int)]) (w1 := w9) (by
    have := O9.out
    rw [List.length_append, HNN.out, List.map_append]
    exact this) (by rw [HVQ.out]; exact K9.out) hb9
  refine ⟨rfl, (KK1.out.mono (fun b hb => hb ▸ HFg.out)).trans g2 (fun b hb => ?_), _, (g1.mono (fun b hb => by rw [HSZ.out]; exact hb)).congr (fun j hj => ?_), HI.out.add (by omega) (by omega) HN.out (.inr HP.out)⟩
  · rcases hb with e | e
    · exact .inl (e ▸ HFg.out)
    · exact .inl (KG1.out.fv q b hq e).1
  · simp only [has_app, par_app, chl_app]
    have hn := HN.out
    by_cases hjk : j = k
    · subst hjk
      rw [up_same, up_same, up_other _ _ (Ne.symm hqk), up_same, hn, if_neg (by simp), if_pos rfl, if_neg (by omega), HI.out.chl_no hn (by omega)]
      simp
    · have e1 : (((k : Int) == (j : Int)) : Bool) = false := by simp; omega
      rw [up_other _ _ hjk, up_other _ _ hjk, e1, Bool.or_false]
      refine ⟨rfl, ?_, ?_⟩
      · by_cases hj2 : has L j = true
        · rw [if_pos hj2]
        · rw [if_neg hj2, if_neg (show ¬ (k : Int) = (j : Int) by omega)]
          exact (par_no (by simpa using hj2)).symm
      · by_cases hjq : j = q
        · subst hjq
          rw [up_same, if_pos rfl]
        · rw [up_other _ _ hjq, up_other _ _ hjk, if_neg (show ¬ (q : Int) = (j : Int) by omega), List.append_nil]
set_option maxHeartbeats 1000000 in
theorem root_any (n : Int) : Calls Try.prog 27 #[.pointer (some ⟨p, 0, none⟩), .int .i64 n] w fun e w' => e = .returned (.int .i64 (rootE m L n)) ∧ Kept F w w' ∧ ∃ V', Kt w' p g m (rootL m L n) V' (fun b => F b ∨ w.heap.size ≤ b) := by
  have HN := Lib.hid (number_any w p g m n h.hm h.c0)
  unfold rootE rootL
  have same : Hid (Kept F w w ∧ ∃ V', Kt w p g m L V' (fun b => F b ∨ w.heap.size ≤ b)) := ⟨Kept.refl _ _, V, h.mono (fun b hb => .inl hb)⟩
  by_cases hr : inR m n = true
  · rw [if_pos hr, if_pos hr]
    rw [hr] at HN
    obtain ⟨k, rfl, hk⟩ := inR_nat hr
    by_cases hn : has L (k : Int) = true
    · rw [if_pos hn, if_pos hn]
      have HA := Lib.hid (add_there w p g m L V F h k (-1) hn)
      clear h hr hn
      go_enter Try.func27, Try.ntmps27
      go_wp2_with fail
      (with_reducible refine HN.out.mono ?_)
      rintro e w1 ⟨rfl, rfl⟩
      go_wp2_with fail
      (with_reducible refine HA.out.mono ?_)
      rintro e w1 ⟨rfl, rfl⟩
      go_wp2
      go_ret
      exact ⟨rfl, same.out⟩
    · rw [if_neg hn, if_neg hn]
      have HA := Lib.hid (add_root w p g m L V F h k hk (by simpa using hn))
      clear h hr hn
      go_enter Try.func27, Try.ntmps27
      go_wp2_with fail
      (with_reducible refine HN.out.mono ?_)
      rintro e w1 ⟨rfl, rfl⟩
      go_wp2_with fail
      (with_reducible refine HA.out.mono ?_)
      rintro e w1 ⟨rfl, hx⟩
      have HX := Lib.hid hx
      clear hx
      go_wp2
      go_ret
      exact ⟨rfl, HX.out⟩
  · rw [if_neg hr, if_neg hr]
    rw [show inR m n = false by simpa using hr] at HN
    clear h hr
    go_enter Try.func27, Try.ntmps27
    go_wp2_with fail
    (with_reducible refine HN.out.mono ?_)
    rintro e w1 ⟨rfl, rfl⟩
    go_wp2
    go_ret
    exact ⟨rfl, same.out⟩
set_option maxHeartbeats 1000000 in
theorem child_any (q n : Int) : Calls Try.prog 28 #[.pointer (some ⟨p, 0, none⟩), .int .i64 q, .int .i64 n] w fun e w' => e = .returned (.int .i64 (childE m L q n)) ∧ Kept F w w' ∧ ∃ V', Kt w' p g m (childL m L q n) V' (fun b => F b ∨ w.heap.size ≤ b) := by
  have HN := Lib.hid (number_any w p g m n h.hm h.c0)
  have HQ := Lib.hid (has_any w p g m L V F h q)
  unfold childE childL
  have same : Hid (Kept F w w ∧ ∃ V', Kt w p g m L V' (fun b => F b ∨ w.heap.size ≤ b)) := ⟨Kept.refl _ _, V, h.mono (fun b hb => .inl hb)⟩
  by_cases hr : inR m n = true
  · rw [hr] at HN
    by_cases hp : has L q = true
    · rw [hp] at HQ
      have hc : inR m n = true ∧ has L q = true := ⟨hr, hp⟩
      rw [if_pos hc, if_pos hc]
      obtain ⟨k, rfl, hk⟩ := inR_nat hr
      have hqr := h.inv.has_rng hp
      obtain ⟨q', rfl⟩ : ∃ q' : Nat, q = q' := ⟨q.toNat, by omega⟩
      by_cases hn : has L (k : Int) = true
      · rw [if_pos hn, if_pos hn]
        have HA := Lib.hid (add_there w p g m L V F h k q' hn)
        clear h hr hn hp hqr
        go_enter Try.func28, Try.ntmps28
        go_wp2_with fail
        (with_reducible refine HN.out.mono ?_)
        rintro e w1 ⟨rfl, rfl⟩
        go_wp2_with fail
        (with_reducible refine HQ.out.mono ?_)
        rintro e w1 ⟨rfl, rfl⟩
        go_wp2_with fail
        (with_reducible refine HA.out.mono ?_)
        rintro e w1 ⟨rfl, rfl⟩
        go_wp2
        go_ret
        exact ⟨rfl, same.out⟩
      · rw [if_neg hn, if_neg hn]
        have HA := Lib.hid (add_child w p g m L V F h k q' hk (by omega) (by simpa using hn) hp)
        clear h hr hn hp hqr
        go_enter Try.func28, Try.ntmps28
        go_wp2_with fail
        (with_reducible refine HN.out.mono ?_)
        rintro e w1 ⟨rfl, rfl⟩
        go_wp2_with fail
        (with_reducible refine HQ.out.mono ?_)
        rintro e w1 ⟨rfl, rfl⟩
        go_wp2_with fail
        (with_reducible refine HA.out.mono ?_)
        rintro e w1 ⟨rfl, hx⟩
        have HX := Lib.hid hx
        clear hx
        go_wp2
        go_ret
        exact ⟨rfl, HX.out⟩
    · rw [if_neg (fun e => hp e.2), if_neg (fun e => hp e.2)]
      rw [show has L q = false by simpa using hp] at HQ
      clear h hr hp
      go_enter Try.func28, Try.ntmps28
      go_wp2_with fail
      (with_reducible refine HN.out.mono ?_)
      rintro e w1 ⟨rfl, rfl⟩
      go_wp2_with fail
      (with_reducible refine HQ.out.mono ?_)
      rintro e w1 ⟨rfl, rfl⟩
      go_wp2
      go_ret
      exact ⟨rfl, same.out⟩
  · rw [if_neg (fun e => hr e.1), if_neg (fun e => hr e.1)]
    rw [show inR m n = false by simpa using hr] at HN
    clear h hr
    go_enter Try.func28, Try.ntmps28
    go_wp2_with fail
    (with_reducible refine HN.out.mono ?_)
    rintro e w1 ⟨rfl, rfl⟩
    go_wp2
    go_ret
    exact ⟨rfl, same.out⟩
end
end Go.Proofs.Ytkmmpagflbnenaa.Kin

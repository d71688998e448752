/- Nodes that are written, lists that change; Children, add. Own text; Ytkmmpagflbnenaa and the numbers between @..@ are the seat's. -/
import Derived.Test.YtkmmpagflbnenaaKinC
namespace Go.Proofs.Ytkmmpagflbnenaa.Kin
open Go.RowKit Go.Proofs.Ytkmmpagflbnenaa.Mem
set_option linter.unusedVariables false
def up {α : Type} (f : Nat → α) (k : Nat) (a : α) : Nat → α := fun j => if j = k then a else f j
theorem up_same {α : Type} (f : Nat → α) (k : Nat) (a : α) : up f k a k = a := if_pos rfl
theorem up_other {α : Type} (f : Nat → α) {k j : Nat} (a : α) (h : j ≠ k) : up f k a j = f j := if_neg h
section
variable {w w1 : World} {p g m : Nat} {hs : Nat → Bool} {ps : Nat → Int} {cs : Nat → List Int} {V : Nat → Value} {F : Nat → Prop}
theorem set3_at {cur : Array Value} {k m : Nat} (hk : k < m) (hsz : ∀ j, j < m * 3 → ∃ v, cur[j]? = some v) (a b c : Value) (j i : Nat) (hj : j < m) (hi : i < 3) :
    (((cur.setIfInBounds (k * 3) a).setIfInBounds (k * 3 + 1) b).setIfInBounds (k * 3 + 2) c)[j * 3 + i]? = if j = k then some (if i = 0 then a else if i = 1 then b else c) else cur[j * 3 + i]? := by
  have s0 : k * 3 + 2 < cur.size := by obtain ⟨v, hv⟩ := hsz (k * 3 + 2) (by omega); exact (Array.getElem?_eq_some_iff.1 hv).1
  by_cases hjk : j = k
  · subst hjk
    rw [if_pos rfl]
    rw [Array.getElem?_setIfInBounds, Array.getElem?_setIfInBounds, Array.getElem?_setIfInBounds]
    rcases (by omega : i = 0 ∨ i = 1 ∨ i = 2) with rfl | rfl | rfl
    · rw [if_neg (by omega), if_neg (by omega), if_pos (by omega), if_pos (by omega)]; rfl
    · rw [if_neg (by omega), if_pos (by omega), if_pos (by simp; omega)]; rfl
    · rw [if_pos (by omega), if_pos (by simp; omega)]; rfl
  · rw [if_neg hjk, Array.getElem?_setIfInBounds, if_neg (by omega), Array.getElem?_setIfInBounds, if_neg (by omega), Array.getElem?_setIfInBounds, if_neg (by omega)]
/-- A node is written over. -/
theorem Kg.node (h : Kg w p g m hs ps cs V F) {k : Nat} (hk : k < m) (b : Bool) (q : Int) :
    Kg (((w.setCell ⟨g, k * 3, none⟩ (.bool b)).setCell ⟨g, k * 3 + 1, none⟩ (.int .i64 q)).setCell ⟨g, k * 3 + 2, none⟩ (.slice none 0 0)) p g m (up hs k b) (up ps k q) (up cs k []) (up V k (.slice none 0 0)) F ∧
    Kept (fun b => b = g) w (((w.setCell ⟨g, k * 3, none⟩ (.bool b)).setCell ⟨g, k * 3 + 1, none⟩ (.int .i64 q)).setCell ⟨g, k * 3 + 2, none⟩ (.slice none 0 0)) := by
  obtain ⟨cur, h1, h2⟩ := h.row
  have k3 : Kept (fun b => b = g) w (((w.setCell ⟨g, k * 3, none⟩ (.bool b)).setCell ⟨g, k * 3 + 1, none⟩ (.int .i64 q)).setCell ⟨g, k * 3 + 2, none⟩ (.slice none 0 0)) :=
    (((Kept.refl (fun b => b = g) w).setCell (p := ⟨g, k * 3, none⟩) (.inl rfl) _).setCell (p := ⟨g, k * 3 + 1, none⟩) (.inl rfl) _).setCell (p := ⟨g, k * 3 + 2, none⟩) (.inl rfl) _
  have hrow := heap_setCell_same _ g (k * 3 + 2) _ _ (.slice none 0 0) (heap_setCell_same _ g (k * 3 + 1) _ _ (.int .i64 q) (heap_setCell_same w g (k * 3) _ _ (.bool b) h1))
  have hsz : ∀ j, j < m * 3 → ∃ v, cur[j]? = some v := fun j hj => by
    obtain ⟨a1, a2, a3⟩ := h2 (j / 3) (by omega)
    rcases (by omega : j = j / 3 * 3 ∨ j = j / 3 * 3 + 1 ∨ j = j / 3 * 3 + 2) with e | e | e
    · exact ⟨_, by rw [e]; exact a1⟩
    · exact ⟨_, by rw [e]; exact a2⟩
    · exact ⟨_, by rw [e]; exact a3⟩
  refine ⟨⟨k3.row h.box h.pg, ⟨_, hrow, fun j hj => ?_⟩, ⟨fun j hj => ?_, fun i j b hi hj e1 e2 => ?_⟩, h.pg, h.fp, h.fg, fun j b hj hb => ?_, h.hm⟩, k3⟩
  · obtain ⟨a1, a2, a3⟩ := h2 j hj
    have e0 := set3_at hk hsz (.bool b) (.int .i64 q) (.slice none 0 0) j 0 hj (by omega)
    have e1 := set3_at hk hsz (.bool b) (.int .i64 q) (.slice none 0 0) j 1 hj (by omega)
    have e2 := set3_at hk hsz (.bool b) (.int .i64 q) (.slice none 0 0) j 2 hj (by omega)
    simp only [Nat.add_zero] at e0
    rw [e0, e1, e2]
    by_cases hjk : j = k
    · subst hjk
      simp [up]
    · simp only [if_neg hjk, up, a1, a2, a3, and_self]
  · by_cases hjk : j = k
    · subst hjk
      simp only [up_same]
      exact World.ownsRow_nil _ _ _ _
    · simp only [up_other _ _ hjk]
      exact own_kept (h.own.own j hj) k3 (fun b' hb' e => (h.fv j b' hj hb').2.2 e)
  · by_cases hik : i = k
    · rw [hik, up_same] at e1; simp [Value.ownBlock] at e1
    · by_cases hjk : j = k
      · rw [hjk, up_same] at e2; simp [Value.ownBlock] at e2
      · rw [up_other _ _ hik] at e1
        rw [up_other _ _ hjk] at e2
        exact h.own.far i j b hi hj e1 e2
  · by_cases hjk : j = k
    · rw [hjk, up_same] at hb; simp [Value.ownBlock] at hb
    · rw [up_other _ _ hjk] at hb
      exact h.fv j b hj hb
/-- A list has changed (by a call or append), and is laid into its node. -/
theorem Kg.list (h : Kg w p g m hs ps cs V F) {q : Nat} (hq : q < m) {v' : Value} {zs' : List Int} (hown : w1.ownsRow 0 3 1 v' zs'.length (zs'.map i64)) (hk : Kept (fun b => (V q).ownBlock = some b) w w1) (hb : ∀ b, v'.ownBlock = some b → (V q).ownBlock = some b ∨ w.heap.size ≤ b) :
    Kg (w1.setCell ⟨g, q * 3 + 2, none⟩ v') p g m hs ps (up cs q zs') (up V q v') (fun b => F b ∨ w.heap.size ≤ b) ∧ Kept (fun b => b = g ∨ (V q).ownBlock = some b) w (w1.setCell ⟨g, q * 3 + 2, none⟩ v') := by
  obtain ⟨cur, h1, h2⟩ := h.row
  have hlt := h.lt
  have g1 := hk.row h1 (fun e => (h.fv q g hq e).2.2 rfl)
  have p1 := hk.row h.box (fun e => (h.fv q p hq e).2.1 rfl)
  have ks : Kept (fun b => b = g) w1 (w1.setCell ⟨g, q * 3 + 2, none⟩ v') := (Kept.refl (fun b => b = g) w1).setCell (p := ⟨g, q * 3 + 2, none⟩) (.inl rfl) _
  have hvg : ∀ b, v'.ownBlock = some b → b ≠ g ∧ b ≠ p := fun b e => by
    rcases hb b e with e1 | e1
    · have := h.fv q b hq e1; exact ⟨this.2.2, this.2.1⟩
    · omega
  have hrow := heap_setCell_same w1 g (q * 3 + 2) _ _ v' g1
  have s0 : q * 3 + 2 < cur.size := (Array.getElem?_eq_some_iff.1 (h2 q hq).2.2).1
  refine ⟨⟨ks.row p1 h.pg, ⟨_, hrow, fun j hj => ?_⟩, ⟨fun j hj => ?_, fun i j b hi hj e1 e2 => ?_⟩, h.pg, .inl h.fp, .inl h.fg, fun j b hj e => ?_, h.hm⟩, ?_⟩
  · obtain ⟨a1, a2, a3⟩ := h2 j hj
    rw [Array.getElem?_setIfInBounds, if_neg (by omega), Array.getElem?_setIfInBounds, if_neg (by omega), Array.getElem?_setIfInBounds]
    refine ⟨a1, a2, ?_⟩
    by_cases hjq : j = q
    · subst hjq
      rw [if_pos rfl, if_pos s0, up_same]
    · rw [if_neg (by omega), up_other _ _ hjq]; exact a3
  · by_cases hjq : j = q
    · subst hjq
      simp only [up_same]
      exact own_kept hown ks (fun b' hb' e => (hvg b' hb').1 e)
    · simp only [up_other _ _ hjq]
      refine own_kept (own_kept (h.own.own j hj) hk (fun b' hb' e => hjq (h.own.far j q b' hj hq hb' e))) ks (fun b' hb' e => (h.fv j b' hj hb').2.2 e)
  · by_cases hiq : i = q
    · by_cases hjq : j = q
      · rw [hiq, hjq]
      · rw [hiq, up_same] at e1
        rw [up_other _ _ hjq] at e2
        rcases hb b e1 with e3 | e3
        · exact absurd (h.own.far j q b hj hq e2 e3) hjq
        · have := own_lt (h.own.own j hj) b e2; omega
    · by_cases hjq : j = q
      · rw [up_other _ _ hiq] at e1
        rw [hjq, up_same] at e2
        rcases hb b e2 with e3 | e3
        · exact absurd (h.own.far i q b hi hq e1 e3) hiq
        · have := own_lt (h.own.own i hi) b e1; omega
      · rw [up_other _ _ hiq] at e1
        rw [up_other _ _ hjq] at e2
        exact h.own.far i j b hi hj e1 e2
  · by_cases hjq : j = q
    · rw [hjq, up_same] at e
      refine ⟨?_, (hvg b e).2, (hvg b e).1⟩
      rcases hb b e with e1 | e1
      · exact .inl (h.fv q b hq e1).1
      · exact .inr e1
    · rw [up_other _ _ hjq] at e
      exact ⟨.inl (h.fv j b hj e).1, (h.fv j b hj e).2⟩
  · exact (hk.mono (fun x hx => .inr hx)).trans ks (fun x hx => .inl (.inl hx))
end
section
variable (w : World) (p g m : Nat) (L : List (Int × Int)) (V : Nat → Value) (F : Nat → Prop) (h : Kt w p g m L V F)
include h
theorem chl_len (n : Int) : (chl L n).length ≤ 1024 := by
  have h1 := h.inv.len
  have h2 := h.hm
  unfold chl
  rw [List.length_map]
  have := List.length_filter_le (fun x : Int × Int => x.2 == n) L
  omega
set_option maxHeartbeats 1000000 in
theorem children_any (n : Int) : Calls Try.prog 13 #[.pointer (some ⟨p, 0, none⟩), .int .i64 n] w fun e w' => ∃ A c, e = .returned (.slice A (kids L n).length c) ∧ w'.ownsRow 0 3 1 (.slice A (kids L n).length c) (kids L n).length ((kids L n).map i64) ∧ Below w.heap.size w w' ∧ Fresh w (.slice A (kids L n).length c) := by
  have c0 := h.c0
  have hm := h.hm
  have HH := Lib.hid (has_any w p g m L V F h n)
  unfold kids
  cases e3 : has L n with
  | true =>
    have hr := h.inv.has_rng e3
    obtain ⟨k, rfl⟩ : ∃ k : Nat, n = k := ⟨n.toNat, by omega⟩
    have hk : k < m := by omega
    obtain ⟨_, _, y2⟩ := h.cell hk
    have HA := Lib.hid (at_any w p g m k hk hm c0)
    have hl := chl_len w p g m L V F h k
    have HC := Lib.hid (clone_any w (V k) _ (chl L k) (h.kg.own.own k hk) (by omega))
    rw [e3] at HH
    obtain ⟨v, hv⟩ : ∃ v, V k = v := ⟨_, rfl⟩
    rw [hv] at y2 HC
    simp only [if_true]
    clear h hr e3 hv
    go_enter Try.func13, Try.ntmps13
    go_wp2_with fail
    (with_reducible refine HH.out.mono ?_)
    rintro e w1 ⟨rfl, rfl⟩
    go_wp2_with fail
    (with_reducible refine HA.out.mono ?_)
    rintro e w1 ⟨rfl, rfl⟩
    go_wp2_with fail
    (with_reducible refine HC.out.mono ?_)
    rintro e w1 ⟨A, c, rfl, o1, b1, f1⟩
    have O1 := Lib.hid o1
    have B1 := Lib.hid b1
    clear o1 b1
    go_wp2
    go_ret
    exact ⟨A, c, rfl, O1.out, B1.out, f1⟩
  | false =>
    rw [e3] at HH
    simp only [Bool.false_eq_true, if_false]
    clear h e3
    go_enter Try.func13, Try.ntmps13
    go_wp2_with fail
    (with_reducible refine HH.out.mono ?_)
    rintro e w1 ⟨rfl, rfl⟩
    go_wp2
    go_ret
    exact ⟨none, 0, rfl, World.ownsRow_nil _ _ _ _, Below.refl _ _, fun b hb => by simp [Value.ownBlock] at hb⟩
theorem add_there (n q : Int) (hn : has L n = true) : Calls Try.prog 50 #[.pointer (some ⟨p, 0, none⟩), .int .i64 n, .int .i64 q] w fun e w' => e = .returned (.int .i64 19) ∧ w = w' := by
  have HH := Lib.hid (has_any w p g m L V F h n)
  rw [hn] at HH
  clear h hn
  go_enter Try.func50, Try.ntmps50
  go_wp2_with fail
  (with_reducible refine HH.out.mono ?_)
  rintro e w1 ⟨rfl, rfl⟩
  go_wp2
  go_ret
  exact ⟨rfl, rfl⟩
set_option maxHeartbeats 2000000 in
theorem add_root (k : Nat) (hk : k < m) (hn : has L k = false) : Calls Try.prog 50 #[.pointer (some ⟨p, 0, none⟩), .int .i64 k, .int .i64 (-1)] w fun e w' => e = .returned (.int .i64 0) ∧ Kept F w w' ∧ ∃ V', Kt w' p g m (L ++ [((k : Int), -1)]) V' (fun b => F b ∨ w.heap.size ≤ b) := by
  have c0 := h.c0
  have hm := h.hm
  have HH := Lib.hid (has_any w p g m L V F h k)
  rw [hn] at HH
  have HA := Lib.hid (at_any w p g m k hk hm c0)
  obtain ⟨y0, y1, y2⟩ := h.cell hk
  have f0 := h.kg.free (k * 3)
  have f1 := h.kg.free (k * 3 + 1)
  have f2 := h.kg.free (k * 3 + 2)
  obtain ⟨k1, k2⟩ := h.kg.node hk true (-1)
  have FIN : Hid (Kept F w (((w.setCell ⟨g, k * 3, none⟩ (.bool true)).setCell ⟨g, k * 3 + 1, none⟩ (.int .i64 (-1))).setCell ⟨g, k * 3 + 2, none⟩ (.slice none 0 0)) ∧ ∃ V', Kt (((w.setCell ⟨g, k * 3, none⟩ (.bool true)).setCell ⟨g, k * 3 + 1, none⟩ (.int .i64 (-1))).setCell ⟨g, k * 3 + 2, none⟩ (.slice none 0 0)) p g m (L ++ [((k : Int), -1)]) V' (fun b => F b ∨ w.heap.size ≤ b)) := by
    refine ⟨k2.mono (fun b hb => hb ▸ h.kg.fg), _, (k1.mono (fun b hb => .inl hb)).congr (fun j hj => ?_), h.inv.add (by omega) (by omega) hn (.inl rfl)⟩
    simp only [up, has_app, par_app, chl_app]
    by_cases hjk : j = k
    · subst hjk
      rw [if_pos rfl, if_pos rfl, if_pos rfl, hn, if_neg (by simp), if_pos rfl, if_neg (by omega), h.inv.chl_no hn (by omega)]
      simp
    · rw [if_neg hjk, if_neg hjk, if_neg hjk, if_neg (show ¬ (-1 : Int) = (j : Int) by omega)]
      have e1 : (((k : Int) == (j : Int)) : Bool) = false := by simp; omega
      refine ⟨by rw [e1, Bool.or_false], ?_, by simp⟩
      by_cases hj2 : has L j = true
      · rw [if_pos hj2]
      · rw [if_neg hj2, if_neg (show ¬ (k : Int) = (j : Int) by omega)]
        exact (par_no (by simpa using hj2)).symm
  clear h k1 k2 hn
  go_enter Try.func50, Try.ntmps50
  go_wp2_with fail
  (with_reducible refine HH.out.mono ?_)
  rintro e w1 ⟨rfl, rfl⟩
  go_wp2_with fail
  (with_reducible refine HA.out.mono ?_)
  rintro e w1 ⟨rfl, rfl⟩
  go_wp2
  go_ret
  exact ⟨rfl, FIN.out⟩
end
end Go.Proofs.Ytkmmpagflbnenaa.Kin

/- ArenaZeroed: pages that each hold one byte all over; Give of one page. -/
import Derived.Test.YtbhpikagjcojbaaAr12
namespace Go.Proofs.Ytbhpikagjcojbaa.Ar
open Go.RowKit Go.Proofs.Ytbhpikagjcojbaa.Mem
def upd {α : Type} (f : Nat → α) (j : Nat) (v : α) : Nat → α := fun i => if i = j then v else f i
def flat (n : Nat) (f : Nat → Int) : List Int := (List.range (n * 64)).map fun i => f (i / 64)
def onF (n : Nat) (g : Nat → Bool) : List Bool := (List.range n).map g
theorem flat_len (n : Nat) (f : Nat → Int) : (flat n f).length = n * 64 := by simp [flat]
theorem flat_get {n : Nat} {f : Nat → Int} {i : Nat} (hi : i < n * 64) : (flat n f)[i]? = some (f (i / 64)) := by
  unfold flat
  rw [List.getElem?_map, List.getElem?_range hi]
  rfl
theorem onF_get {n : Nat} {g : Nat → Bool} {j : Nat} (hj : j < n) : (onF n g)[j]? = some (g j) := by
  unfold onF
  rw [List.getElem?_map, List.getElem?_range hj]
  rfl
theorem onF_getD {n : Nat} {g : Nat → Bool} {j : Nat} (hj : j < n) : (onF n g).getD j false = g j := by
  rw [List.getD_eq_getElem?_getD, onF_get hj]
  rfl
theorem onF_set {n : Nat} {g : Nat → Bool} {j : Nat} (b : Bool) (hj : j < n) : (onF n g).set j b = onF n (upd g j b) := by
  apply List.ext_getElem?
  intro i
  rw [List.getElem?_set]
  by_cases hi : i < n
  · rw [onF_get hi, onF_get hi]
    by_cases h : j = i
    · subst h
      rw [if_pos rfl, if_pos (by simpa [onF] using hj)]
      simp [upd]
    · rw [if_neg h]
      simp [upd, Ne.symm h]
  · rw [if_neg (by omega), List.getElem?_eq_none (by simp [onF]; omega), List.getElem?_eq_none (by simp [onF]; omega)]
theorem laid_flat {n : Nat} {f : Nat → Int} {j : Nat} (v : Int) (hj : j < n) : laid (flat n f) (j * 64) (List.replicate 64 v) = flat n (upd f j v) := by
  apply List.ext_getElem?
  intro i
  unfold laid
  rw [List.length_replicate]
  by_cases hi : i < n * 64
  · rw [flat_get hi]
    by_cases h1 : i < j * 64
    · rw [List.getElem?_append_left (by simp [flat_len]; omega), List.getElem?_append_left (by simp [flat_len]; omega), List.getElem?_take, if_pos h1, flat_get hi]
      have : i / 64 ≠ j := by omega
      simp [upd, this]
    · by_cases h2 : i < j * 64 + 64
      · rw [List.getElem?_append_left (by simp [flat_len]; omega), List.getElem?_append_right (by simp [flat_len]; omega), List.getElem?_replicate, List.length_take, flat_len, if_pos (by omega)]
        have : i / 64 = j := by omega
        simp [upd, this]
      · rw [List.getElem?_append_right (by simp [flat_len]; omega), List.getElem?_drop, List.length_append, List.length_take, flat_len, List.length_replicate, show j * 64 + 64 + (i - (min (j * 64) (n * 64) + 64)) = i by omega, flat_get hi]
        have : i / 64 ≠ j := by omega
        simp [upd, this]
  · rw [List.getElem?_eq_none (by simp [flat_len]; omega), List.getElem?_eq_none (by rw [flat_len]; omega)]
theorem page_flat {n : Nat} {f : Nat → Int} {j : Nat} (hj : j < n) : ((flat n f).drop (j * 64 + 0)).take 64 = List.replicate 64 (f j) := by
  apply List.ext_getElem?
  intro i
  rw [List.getElem?_take]
  by_cases hi : i < 64
  · rw [if_pos hi, List.getElem?_drop, flat_get (by omega), List.getElem?_replicate, if_pos hi]
    congr 2
    omega
  · rw [if_neg hi, List.getElem?_eq_none (by simp; omega)]
theorem none_onF (n : Nat) : List.replicate n false = onF n (fun _ => false) := by
  unfold onF
  rw [List.map_const', List.length_range]
theorem zero_flat (n : Nat) : List.replicate (n * 64) 0 = flat n (fun _ => 0) := by
  unfold flat
  rw [List.map_const', List.length_range]
theorem isB_onF {n : Nat} {g : Nat → Bool} {j : Nat} (hj : j < n) : isB (onF n g) (j : Int) = g j := by
  unfold isB
  have e : (onF n g).length = n := by simp [onF]
  rw [e, Int.toNat_natCast, onF_getD hj]
  simp [hj]
/-- What a Take does: what is given out was free, rises, is taken and zeroed; all else is as it was. -/
structure Took (g : Nat → Bool) (f : Nat → Int) (k r : Nat) (out : List Int) (g' : Nat → Bool) (f' : Nat → Int) : Prop where
  given : ∀ z ∈ out, ∃ j : Nat, z = (j : Int) ∧ j < k ∧ g j = false ∧ g' j = true ∧ f' j = 0
  rest : ∀ j, g j = true → g' j = true ∧ f' j = f j
  late : ∀ j, k ≤ j → g' j = g j ∧ f' j = f j
  rise : ∀ (i : Nat) a b, out[i]? = some a → out[i + 1]? = some b → a < b
theorem trun_took (r n : Nat) (g : Nat → Bool) (f : Nat → Int) : ∀ k, k ≤ n → ∃ out g' f', trun r (onF n g) (flat n f) k = ⟨out, onF n g', flat n f'⟩ ∧ Took g f k r out g' f'
  | 0, _ => ⟨[], g, f, rfl, fun z hz => (by cases hz), fun j h => ⟨h, rfl⟩, fun j _ => ⟨rfl, rfl⟩, fun i a b h => (by simp at h)⟩
  | k + 1, hk => by
    obtain ⟨out, g', f', e, h⟩ := trun_took r n g f k (by omega)
    rw [trun, e, tstep]
    by_cases h1 : out.length = r
    · rw [if_pos h1]
      exact ⟨out, g', f', rfl, fun z hz => by obtain ⟨j, a1, a2, a3⟩ := h.given z hz; exact ⟨j, a1, by omega, a3⟩, h.rest, fun j hj => h.late j (by omega), h.rise⟩
    · rw [if_neg h1, onF_getD (by omega)]
      cases hg : g' k with
      | true =>
        rw [if_pos rfl]
        exact ⟨out, g', f', rfl, fun z hz => by obtain ⟨j, a1, a2, a3⟩ := h.given z hz; exact ⟨j, a1, by omega, a3⟩, h.rest, fun j hj => h.late j (by omega), h.rise⟩
      | false =>
        rw [if_neg (by decide)]
        have hgk : g k = false := by rw [← (h.late k (Nat.le_refl _)).1]; exact hg
        refine ⟨out ++ [(k : Int)], upd g' k true, upd f' k 0, ?_, ?_, ?_, ?_, ?_⟩
        · simp only [Run.mk.injEq]
          exact ⟨trivial, onF_set true (by omega), laid_flat 0 (by omega)⟩
        · intro z hz
          rcases List.mem_append.1 hz with hz | hz
          · obtain ⟨j, a1, a2, a3, a4, a5⟩ := h.given z hz
            have : j ≠ k := by omega
            exact ⟨j, a1, by omega, a3, by simp [upd, this, a4], by simp [upd, this, a5]⟩
          · rw [List.mem_singleton.1 hz]
            exact ⟨k, rfl, by omega, hgk, by simp [upd], by simp [upd]⟩
        · intro j hj
          have : j ≠ k := fun e => by rw [e, hgk] at hj; cases hj
          simpa [upd, this] using h.rest j hj
        · intro j hj
          have : j ≠ k := by omega
          simpa [upd, this] using h.late j (by omega)
        · intro i a b ha hb
          by_cases hi : i + 1 < out.length
          · rw [List.getElem?_append_left (by omega)] at ha hb
            exact h.rise i a b ha hb
          · have hb' := (List.getElem?_eq_some_iff.1 hb).1
            rw [List.length_append] at hb'
            simp at hb'
            have hio : i + 1 = out.length := by omega
            rw [List.getElem?_append_left (by omega)] at ha
            rw [List.getElem?_append_right (by omega), hio] at hb
            simp at hb
            obtain ⟨j, a1, a2, _⟩ := h.given a (List.mem_of_getElem? ha)
            omega
set_option maxHeartbeats 1000000 in
theorem index_nil (w : World) (A : Option Addr) (c : Nat) (x : Int) : Calls Try.prog 37 #[.slice A 0 c, .int .i64 x] w fun e w' => e = .returned (.int .i64 (-1)) ∧ w = w' := by
  go_enter Try.func37, Try.ntmps37
  go_wp2
  refine wp_loop_rounds 1 ?_
  rw [rounds_succ]
  go_wp2
  go_ret
  exact ⟨rfl, rfl⟩
set_option maxHeartbeats 1000000 in
theorem contains_nil (w : World) (A : Option Addr) (c : Nat) (x : Int) : Calls Try.prog 34 #[.slice A 0 c, .int .i64 x] w fun e w' => e = .returned (.bool false) ∧ w = w' := by
  go_enter Try.func34, Try.ntmps34
  go_wp2_with (go_at_call 37; (with_reducible refine (index_nil _ _ _ _).mono ?_); rintro e w1 ⟨rfl, rfl⟩)
  go_ret
  exact ⟨rfl, rfl⟩
theorem At.gave {w : World} {p a t n : Nat} {on : List Bool} {bs : List Int} (h : At w p a t n on bs) (j : Nat) : At (w.setCell ⟨t, j, none⟩ (.bool false)) p a t n (on.set j false) bs := by
  have hk : Kept (fun b => b = t) w (w.setCell ⟨t, j, none⟩ (.bool false)) := (Kept.refl (fun b => b = t) w).setCell (.inl rfl) _
  refine ⟨hk.row h.row h.far.2.1, hk.row h.pages h.far.2.2, ?_, by rw [List.length_set]; exact h.len, h.size, h.far, h.few⟩
  have := heap_setCell_same w t j _ _ (Value.bool false) h.taken
  rw [this, List.map_set]
  simp
set_option maxHeartbeats 4000000 in
set_option maxRecDepth 100000 in
theorem give_off (w : World) (p a t n : Nat) (on : List Bool) (bs : List Int) (G j c : Nat) (h : At w p a t n on bs) (hG : w.cell? ⟨G, 0, none⟩ = some (.int .i64 j)) (hb : isB on j = false) :
    Calls Try.prog 21 #[.pointer (some ⟨p, 0, none⟩), .slice (some ⟨G, 0, none⟩) 1 c] w fun e w' => e = .returned (.int .i64 20) ∧ w = w' := by
  have HIS := Lib.hid (is_any w p a t n on bs j h)
  rw [hb] at HIS
  clear h hb
  go_enter Try.func21, Try.ntmps21
  go_wp2_with fail
  refine wp_loop_rounds 1 ?_
  rw [rounds_succ]
  go_wp2_with (go_at_call 33; (with_reducible refine HIS.out.mono ?_); rintro e w1 ⟨rfl, rfl⟩)
  go_ret
  exact ⟨rfl, rfl⟩
set_option maxHeartbeats 4000000 in
set_option maxRecDepth 100000 in
theorem give_on (w : World) (p a t n : Nat) (on : List Bool) (bs : List Int) (G j c : Nat) (h : At w p a t n on bs) (hj : j < n) (hG : w.cell? ⟨G, 0, none⟩ = some (.int .i64 j)) (hb : isB on j = true) :
    Calls Try.prog 21 #[.pointer (some ⟨p, 0, none⟩), .slice (some ⟨G, 0, none⟩) 1 c] w fun e w' => e = .returned (.int .i64 0) ∧ At w' p a t n (on.set j false) bs ∧ Kept (fun b => b = t) w w' := by
  have HIS := Lib.hid (is_any w p a t n on bs j h)
  rw [hb] at HIS
  obtain ⟨c0, c1, ct, _, hp, _, htl⟩ := h.cells
  obtain ⟨bj, hbj⟩ : ∃ bj, on[j]? = some bj := ⟨_, List.getElem?_eq_getElem (by rw [h.len]; exact hj)⟩
  have k0 := ct j bj hbj
  have f0 : w.frozen? ⟨t, j, none⟩ = false := free_row h.taken
  have HA := Lib.hid (h.gave j)
  clear ct hbj h hb
  go_enter Try.func21, Try.ntmps21
  go_wp2_with fail
  refine wp_loop_rounds 2 ?_
  rw [rounds_succ]
  go_wp2_with (first | (go_at_call 33; (with_reducible refine HIS.out.mono ?_); rintro e w1 ⟨rfl, rfl⟩) | (go_at_call 34; (with_reducible refine (contains_nil _ _ _ _).mono ?_); rintro e w1 ⟨rfl, rfl⟩))
  rw [rounds_succ]
  go_wp2_with fail
  refine wp_loop_rounds 2 ?_
  rw [rounds_succ]
  go_wp2_with fail
  rw [rounds_succ]
  go_wp2_with fail
  go_ret
  exact ⟨rfl, HA.out, (Kept.refl (fun b => b = t) w).setCell (p := ⟨t, j, none⟩) (.inl rfl) _⟩
end Go.Proofs.Ytbhpikagjcojbaa.Ar

/- ArenaKeeps: what the calls come to. -/
import Derived.Test.YtbhpikagjcojbaaAr11
namespace Go.Proofs.Ytbhpikagjcojbaa.Ar
open Go.RowKit Go.Proofs.Ytbhpikagjcojbaa.Mem
def ints (s n : Nat) : List Int := (List.range n).map fun (i : Nat) => ((s + i : Nat) : Int)
theorem ints_len (s n : Nat) : (ints s n).length = n := by simp [ints]
theorem ints_succ (s n : Nat) : ints s (n + 1) = ints s n ++ [((s + n : Nat) : Int)] := by simp [ints, List.range_succ]
theorem ints_zero (s : Nat) : ints s 0 = [] := rfl
def onC (c N : Nat) : List Bool := List.replicate c true ++ List.replicate (N - c) false
theorem onC_get {c N j : Nat} (hj : j < N) (hc : c ≤ N) : (onC c N).getD j false = decide (j < c) := by
  unfold onC
  rw [List.getD_eq_getElem?_getD]
  by_cases h : j < c
  · rw [List.getElem?_append_left (by simpa using h), List.getElem?_replicate, if_pos h]
    simp [h]
  · rw [List.getElem?_append_right (by simpa using Nat.le_of_not_lt h), List.getElem?_replicate, List.length_replicate, if_pos (by omega)]
    simp [h]
theorem onC_set {c N : Nat} (hc : c < N) : (onC c N).set c true = onC (c + 1) N := by
  unfold onC
  rw [List.set_append_right _ _ (by simp), List.length_replicate, Nat.sub_self, show N - c = (N - (c + 1)) + 1 by omega, List.replicate_succ, List.set_cons_zero, List.replicate_succ', List.append_assoc]
  rfl
def Z (N : Nat) : List Int := List.replicate (N * 64) 0
theorem laid_Z {N j : Nat} (hj : j < N) : laid (Z N) (j * 64) zeros = Z N := by
  refine laid_same _ _ _ ?_
  unfold Z zeros
  rw [List.drop_replicate, List.take_replicate, List.length_replicate, Nat.min_eq_left (by omega)]
theorem tk_onC {c N : Nat} (hc : c ≤ N) : ∀ j, j ≤ N → tk (onC c N) j = ints 0 (min j c)
  | 0, _ => by simp [tk, ints]
  | j + 1, hj => by
    have ih := tk_onC hc j (by omega)
    rw [tk, onC_get (by omega) hc, ih]
    by_cases h : j < c
    · rw [if_pos (by simpa using h), Nat.min_eq_left (by omega), Nat.min_eq_left (by omega), ints_succ]
      simp
    · rw [if_neg (by simpa using h), Nat.min_eq_right (by omega), Nat.min_eq_right (by omega)]
theorem free_onC {c N : Nat} (hc : c ≤ N) : freeN (onC c N) N = (N : Int) - c := by
  unfold freeN
  rw [tk_onC hc N (Nat.le_refl _), Nat.min_eq_right hc, ints_len]
theorem trun_lo {m c N : Nat} (hm : 0 < m) (hc : c ≤ N) : ∀ j, j ≤ c → trun m (onC c N) (Z N) j = ⟨[], onC c N, Z N⟩
  | 0, _ => rfl
  | j + 1, hj => by
    rw [trun, trun_lo hm hc j (by omega), tstep, if_neg (by simp; omega), if_pos (by rw [onC_get (by omega) hc]; simp; omega)]
theorem trun_hi {m c N : Nat} (hm : 0 < m) (hN : c + m ≤ N) : ∀ d, d ≤ m → trun m (onC c N) (Z N) (c + d) = ⟨ints c d, onC (c + d) N, Z N⟩
  | 0, _ => trun_lo hm (by omega) c (Nat.le_refl _)
  | d + 1, hd => by
    have ih := trun_hi hm hN d (by omega)
    rw [← Nat.add_assoc, trun, ih, tstep, if_neg (by rw [ints_len]; omega), if_neg (by rw [onC_get (by omega) (by omega)]; simp)]
    simp only [Run.mk.injEq]
    exact ⟨(ints_succ c d).symm, onC_set (by omega), laid_Z (by omega)⟩
theorem trun_all {m c N : Nat} (hm : 0 < m) (hN : c + m ≤ N) : trun m (onC c N) (Z N) N = ⟨ints c m, onC (c + m) N, Z N⟩ := by
  have h1 := trun_hi hm hN m (Nat.le_refl _)
  have h2 := trun_stop (m := m) (on := onC c N) (bs := Z N) (k := c + m) (by rw [h1]; exact ints_len c m) (N - (c + m))
  rw [show c + m + (N - (c + m)) = N by omega] at h2
  rw [h2, h1]
theorem take_onC (w : World) (p a t N c m : Nat) (hm : 0 < m) (hN : c + m ≤ N) (h : At w p a t N (onC c N) (Z N)) :
    Calls Try.prog 10 #[.pointer (some ⟨p, 0, none⟩), .int .i64 (m : Int)] w fun e w' => ∃ A d, e = .returned (.tuple #[.slice A m d, .int .i64 0]) ∧ w'.ownsRow 0 3 1 (.slice A m d) m ((ints c m).map (Value.int .i64)) ∧ At w' p a t N (onC (c + m) N) (Z N) ∧ Kept (fun b => b = a ∨ b = t) w w' ∧ Fresh w (.slice A m d) := by
  have := take_in w p a t N _ _ m h (by rw [free_onC (by omega)]; omega)
  rw [trun_all hm hN] at this
  simp only [ints_len] at this
  exact this
theorem taken_onC (w : World) (p a t N c : Nat) (hN : c ≤ N) (bs : List Int) (h : At w p a t N (onC c N) bs) :
    Calls Try.prog 11 #[.pointer (some ⟨p, 0, none⟩)] w fun e w' => ∃ A d, e = .returned (.slice A c d) ∧ w'.ownsRow 0 3 1 (.slice A c d) c ((ints 0 c).map (Value.int .i64)) ∧ Below w.heap.size w w' ∧ Fresh w (.slice A c d) := by
  have := taken_any w p a t N _ _ h
  rw [tk_onC hN N (Nat.le_refl _), Nat.min_eq_right hN, ints_len] at this
  exact this
theorem onC_none (N : Nat) : List.replicate N false = onC 0 N := by simp [onC]
theorem isB_all {N j : Nat} (hj : j < N) : isB (onC N N) (j : Int) = true := by
  unfold isB
  have e : (onC N N).length = N := by simp [onC]
  rw [e, Int.toNat_natCast, onC_get hj (Nat.le_refl _)]
  simp [hj]
def sel {α : Type} (a b c d : α) : Nat → α
  | 0 => a
  | 1 => b
  | 2 => c
  | _ => d
theorem four_cases {k : Nat} (h : k < 4) : k = 0 ∨ k = 1 ∨ k = 2 ∨ k = 3 := by omega
theorem three_cases {k : Nat} (h : k < 3) : k = 0 ∨ k = 1 ∨ k = 2 := by omega
theorem rows_congr {e : TypeId} {sz : Nat} {w : World} {K : Nat} {V V' : Nat → Value} {N N' : Nat → Nat} {xs xs' : Nat → List Value} (h : Mem.Rows e sz w K V N xs) (hV : ∀ k, k < K → V' k = V k) (hN : ∀ k, k < K → N' k = N k) (hx : ∀ k, k < K → xs' k = xs k) : Mem.Rows e sz w K V' N' xs' :=
  ⟨fun k hk => by rw [hV k hk, hN k hk, hx k hk]; exact h.own k hk, fun i j b hi hj h1 h2 => h.far i j b hi hj (by rw [← hV i hi]; exact h1) (by rw [← hV j hj]; exact h2)⟩
/-- The three lists that the law makes for itself. -/
structure Own3 (W : World) (v0 v1 v2 : Value) (n0 n1 n2 : Nat) (z0 z1 z2 : List Int) (w : World) : Prop where
  rows : Mem.Rows 3 1 w 3 (sel v0 v1 v2 v2) (sel n0 n1 n2 n2) (sel (z0.map (Value.int .i64)) (z1.map (Value.int .i64)) (z2.map (Value.int .i64)) (z2.map (Value.int .i64)))
  fresh : ∀ k b, k < 3 → (sel v0 v1 v2 v2 k).ownBlock = some b → W.heap.size ≤ b
  below : Below W.heap.size W w
section
variable {W w w' : World} {v0 v1 v2 v' : Value} {n0 n1 n2 : Nat} {z0 z1 z2 : List Int} {x : Int}
theorem own3_start (W : World) : Own3 W (.slice none 0 0) (.slice none 0 0) (.slice none 0 0) 0 0 0 [] [] [] W :=
  ⟨⟨fun k hk => by rcases three_cases hk with rfl | rfl | rfl <;> exact World.ownsRow_nil _ _ _ _, fun i j b hi hj h1 h2 => by rcases three_cases hi with rfl | rfl | rfl <;> simp [sel, Value.ownBlock] at h1⟩, fun k b hk h1 => by rcases three_cases hk with rfl | rfl | rfl <;> simp [sel, Value.ownBlock] at h1, Below.refl _ _⟩
theorem Own3.box (h : Own3 W v0 v1 v2 n0 n1 n2 z0 z1 z2 w) (hb : Below w.heap.size w w') : Own3 W v0 v1 v2 n0 n1 n2 z0 z1 z2 w' :=
  ⟨h.rows.kept (S := fun _ => False) (Kept.of_below hb) (fun _ _ _ _ hf => hf), h.fresh, h.below.trans (hb.mono h.below.size)⟩
theorem Own3.grow (h : Own3 W v0 v1 v2 n0 n1 n2 z0 z1 z2 w) {k : Nat} (hk : k < 3) (hown : w'.ownsRow 0 3 1 v' (sel n0 n1 n2 n2 k + 1) ((sel (z0.map (Value.int .i64)) (z1.map (Value.int .i64)) (z2.map (Value.int .i64)) (z2.map (Value.int .i64)) k) ++ [.int .i64 x])) (hw : Went w w' (sel v0 v1 v2 v2 k) v' (sel n0 n1 n2 n2 k) 1) :
    Mem.Rows 3 1 w' 3 (fun j => if j = k then v' else sel v0 v1 v2 v2 j) (fun j => if j = k then sel n0 n1 n2 n2 k + 1 else sel n0 n1 n2 n2 j) (fun j => if j = k then sel (z0.map (Value.int .i64)) (z1.map (Value.int .i64)) (z2.map (Value.int .i64)) (z2.map (Value.int .i64)) k ++ [.int .i64 x] else sel (z0.map (Value.int .i64)) (z1.map (Value.int .i64)) (z2.map (Value.int .i64)) (z2.map (Value.int .i64)) j) ∧
      (∀ j b, j < 3 → (if j = k then v' else sel v0 v1 v2 v2 j).ownBlock = some b → W.heap.size ≤ b) ∧ Below W.heap.size W w' := by
  refine ⟨((Pair.start h.rows).grow (by omega) hk hown hw).l, fun j b hj e => ?_, h.below.trans (hw.kept.below (fun b hb => h.fresh k b hk hb) h.below.size)⟩
  by_cases hjk : j = k
  · rw [if_pos hjk] at e
    rcases hw.block with e1 | e1
    · exact h.fresh k b hk (e1 ▸ e)
    · have := Option.some.inj (e1.symm.trans e)
      have := h.below.size
      omega
  · rw [if_neg hjk] at e
    exact h.fresh j b hj e
theorem Own3.grow0 (h : Own3 W v0 v1 v2 n0 n1 n2 z0 z1 z2 w) (hown : w'.ownsRow 0 3 1 v' (n0 + 1) (z0.map (Value.int .i64) ++ [.int .i64 x])) (hw : Went w w' v0 v' n0 1) : Own3 W v' v1 v2 (n0 + 1) n1 n2 (z0 ++ [x]) z1 z2 w' := by
  obtain ⟨h1, h2, h3⟩ := h.grow (k := 0) (by omega) hown hw
  refine ⟨rows_congr h1 ?_ ?_ ?_, fun j b hj e => h2 j b hj (by rcases three_cases hj with rfl | rfl | rfl <;> exact e), h3⟩ <;> (intro j hj; rcases three_cases hj with rfl | rfl | rfl <;> simp [sel])
theorem Own3.grow1 (h : Own3 W v0 v1 v2 n0 n1 n2 z0 z1 z2 w) (hown : w'.ownsRow 0 3 1 v' (n1 + 1) (z1.map (Value.int .i64) ++ [.int .i64 x])) (hw : Went w w' v1 v' n1 1) : Own3 W v0 v' v2 n0 (n1 + 1) n2 z0 (z1 ++ [x]) z2 w' := by
  obtain ⟨h1, h2, h3⟩ := h.grow (k := 1) (by omega) hown hw
  refine ⟨rows_congr h1 ?_ ?_ ?_, fun j b hj e => h2 j b hj (by rcases three_cases hj with rfl | rfl | rfl <;> exact e), h3⟩ <;> (intro j hj; rcases three_cases hj with rfl | rfl | rfl <;> simp [sel])
theorem Own3.grow2 (h : Own3 W v0 v1 v2 n0 n1 n2 z0 z1 z2 w) (hown : w'.ownsRow 0 3 1 v' (n2 + 1) (z2.map (Value.int .i64) ++ [.int .i64 x])) (hw : Went w w' v2 v' n2 1) : Own3 W v0 v1 v' n0 n1 (n2 + 1) z0 z1 (z2 ++ [x]) w' := by
  obtain ⟨h1, h2, h3⟩ := h.grow (k := 2) (by omega) hown hw
  refine ⟨rows_congr h1 ?_ ?_ ?_, fun j b hj e => h2 j b hj (by rcases three_cases hj with rfl | rfl | rfl <;> exact e), h3⟩ <;> (intro j hj; rcases three_cases hj with rfl | rfl | rfl <;> simp [sel])
theorem Own3.o0 (h : Own3 W v0 v1 v2 n0 n1 n2 z0 z1 z2 w) : w.ownsRow 0 3 1 v0 n0 (z0.map (Value.int .i64)) := h.rows.own 0 (by omega)
theorem Own3.o1 (h : Own3 W v0 v1 v2 n0 n1 n2 z0 z1 z2 w) : w.ownsRow 0 3 1 v1 n1 (z1.map (Value.int .i64)) := h.rows.own 1 (by omega)
theorem Own3.o2 (h : Own3 W v0 v1 v2 n0 n1 n2 z0 z1 z2 w) : w.ownsRow 0 3 1 v2 n2 (z2.map (Value.int .i64)) := h.rows.own 2 (by omega)
end
end Go.Proofs.Ytbhpikagjcojbaa.Ar

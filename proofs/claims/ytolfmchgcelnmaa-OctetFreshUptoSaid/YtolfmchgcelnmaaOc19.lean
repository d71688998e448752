/- Items in a row; OctetBack: the first half of the walk. -/
import Derived.Test.YtolfmchgcelnmaaOc18
namespace Go.Proofs.Ytolfmchgcelnmaa.O
open Go.RowKit Go.Proofs.Ytolfmchgcelnmaa.Mem
structure It where
  k : Int
  v : Int
  obj : Int
  hi : Int
  lo : Int
  A : Option Addr
  n : Nat
  c : Nat
  zs : List Int
def itL (x : It) : List Value := [.int .i64 x.k, .int .u64 x.v, .int .i64 x.obj, .int .u64 x.hi, .int .u64 x.lo, .slice x.A x.n x.c]
def itC (l : List It) : List Value := l.flatMap itL
def it0 : It := ⟨3, 72623859790382856, 0, 0, 0, none, 0, 0, []⟩
theorem itC_len (l : List It) : (itC l).length = l.length * 6 := by
  induction l with
  | nil => rfl
  | cons c l ih => rw [itC, List.flatMap_cons, List.length_append, ← itC, ih]; simp [itL]; omega
theorem itC_at : ∀ (l : List It) (i : Nat) (j : Nat), i < l.length → j < 6 → (itC l)[i * 6 + j]? = (itL (l.getD i it0))[j]?
  | [], i, j, h, _ => by simp at h
  | c :: l, 0, j, _, hj => by
    simp only [itC, List.flatMap_cons, Nat.zero_mul, Nat.zero_add, List.getD_cons_zero]
    rw [List.getElem?_append_left (by simp [itL]; omega)]
  | c :: l, i + 1, j, h, hj => by
    simp only [itC, List.flatMap_cons, List.getD_cons_succ]
    rw [List.getElem?_append_right (by simp [itL]; omega)]
    have := itC_at l i j (by simpa using h) hj
    rw [← this]
    simp only [itC]
    congr 1
    simp [itL]; omega
theorem itC_one (l : List It) : ∀ u ∈ itC l, u.oneCell' = true := by
  intro u hu
  obtain ⟨c, _, hc⟩ := List.mem_flatMap.1 hu
  simp [itL] at hc
  rcases hc with rfl | rfl | rfl | rfl | rfl | rfl <;> rfl
/-- What is known of an item. -/
structure Good (w : World) (x : It) : Prop where
  k0 : -9223372036854775808 ≤ x.k
  k1 : x.k ≤ 9223372036854775807
  v0 : 0 ≤ x.v
  v1 : x.v < 18446744073709551616
  hh : U64 x.hi
  hl : U64 x.lo
  hn : x.zs.length = x.n
  hB : Bytes x.zs
  hr : RB w (.slice x.A x.n x.c) x.zs
theorem Good.below {w w' : World} {x : It} (h : Good w x) (hb : Below w.heap.size w w') : Good w' x := ⟨h.k0, h.k1, h.v0, h.v1, h.hh, h.hl, h.hn, h.hB, h.hr.below hb⟩
theorem good0 (w : World) : Good w it0 := ⟨by decide, by decide, by decide, by decide, ⟨by decide, by decide⟩, ⟨by decide, by decide⟩, rfl, (fun z hz => by cases hz), ⟨none, 0, rfl, Nat.le_refl _, Nat.zero_le _, (fun h => by cases h)⟩⟩
def msk (x : It) : It := { x with obj := bits .and .i64 x.obj 4611686018427387903 }
theorem and62 (a : Int) : 0 ≤ bits .and .i64 a 4611686018427387903 ∧ bits .and .i64 a 4611686018427387903 ≤ 4611686018427387904 := by
  show 0 ≤ IntKind.i64.wrap ((BitVec.ofInt 64 a &&& BitVec.ofInt 64 4611686018427387903).toNat : Int) ∧ IntKind.i64.wrap ((BitVec.ofInt 64 a &&& BitVec.ofInt 64 4611686018427387903).toNat : Int) ≤ 4611686018427387904
  have h : (BitVec.ofInt 64 a &&& BitVec.ofInt 64 4611686018427387903).toNat ≤ 4611686018427387903 := by
    rw [BitVec.toNat_and]
    exact Nat.and_le_right
  generalize (BitVec.ofInt 64 a &&& BitVec.ofInt 64 4611686018427387903).toNat = X at *
  rw [IntKind.wrap_i64]
  omega
/-- A row of items in memory. -/
def Row6 (w : World) (g N : Nat) (f : Nat → It) : Prop := ∃ cur : Array Value, w.heap[g]? = some (.cells cur 73 (0, 0)) ∧ ∀ i, i < N → ∀ j u, (itL (f i))[j]? = some u → cur[i * 6 + j]? = some u
theorem Row6.cell {w : World} {g N : Nat} {f : Nat → It} (h : Row6 w g N f) {i : Nat} (hi : i < N) (j : Nat) (u : Value) (hu : (itL (f i))[j]? = some u) : w.cell? ⟨g, i * 6 + j, none⟩ = some u := by
  obtain ⟨cur, h1, h2⟩ := h
  exact cell_row h1 (h2 i hi j u hu)
theorem Row6.free {w : World} {g N : Nat} {f : Nat → It} (h : Row6 w g N f) (j : Nat) : w.frozen? ⟨g, j, none⟩ = false := by
  obtain ⟨cur, h1, h2⟩ := h
  exact free_row h1
theorem Row6.kept {S : Nat → Prop} {w w' : World} {g N : Nat} {f : Nat → It} (h : Row6 w g N f) (hk : Kept S w w') (hg : ¬ S g) : Row6 w' g N f := by
  obtain ⟨cur, h1, h2⟩ := h
  exact ⟨cur, hk.row h1 hg, h2⟩
def mskN (f : Nat → It) (i : Nat) : Nat → It := fun j => if j < i then msk (f j) else f j
theorem Row6.msk {w : World} {g N : Nat} {f : Nat → It} {i : Nat} (h : Row6 w g N (mskN f i)) (hi : i < N) : Row6 (w.setCell ⟨g, i * 6 + 2, none⟩ (.int .i64 (bits .and .i64 (f i).obj 4611686018427387903))) g N (mskN f (i + 1)) := by
  obtain ⟨cur, h1, h2⟩ := h
  refine ⟨_, heap_setCell_same w g (i * 6 + 2) _ _ _ h1, fun a ha j u hu => ?_⟩
  have hj : j < 6 := by have := (List.getElem?_eq_some_iff.1 hu).1; simpa [itL] using this
  have hs : i * 6 + 2 < cur.size := by
    have := h2 i hi 2 (.int .i64 (mskN f i i).obj) rfl
    exact (Array.getElem?_eq_some_iff.1 this).1
  by_cases e : a = i
  · subst e
    have e1 : mskN f (a + 1) a = O.msk (f a) := by unfold mskN; rw [if_pos (by omega)]
    have e2 : mskN f a a = f a := by unfold mskN; rw [if_neg (by omega)]
    rw [e1] at hu
    have h3 := h2 a ha
    rw [e2] at h3
    by_cases ej : j = 2
    · subst ej
      have : u = .int .i64 (bits .and .i64 (f a).obj 4611686018427387903) := by simpa [itL, O.msk] using hu.symm
      subst this
      simp [hs]
    · have hu' : (itL (f a))[j]? = some u := by
        rw [← hu]
        match j, hj, ej with
        | 0, _, _ => rfl
        | 1, _, _ => rfl
        | 3, _, _ => rfl
        | 4, _, _ => rfl
        | 5, _, _ => rfl
      have := h3 j u hu'
      rw [Array.getElem?_setIfInBounds_ne (by omega)]
      exact this
  · have e1 : mskN f (i + 1) a = mskN f i a := by unfold mskN; by_cases h : a < i <;> simp [h, show (a < i + 1) = (a < i) from propext ⟨fun _ => by omega, fun _ => by omega⟩]
    rw [e1] at hu
    have := h2 a ha j u hu
    rw [Array.getElem?_setIfInBounds_ne (by omega)]
    exact this
/-- The bytes of the first items. -/
def itB (x : It) : List Int := layB x.k x.v x.obj x.hi x.lo x.zs
def bytesTo (f : Nat → It) : Nat → List Int
  | 0 => []
  | i + 1 => bytesTo f i ++ itB (f i)
def cost (f : Nat → It) : Nat → Nat
  | 0 => 0
  | i + 1 => cost f i + ((f i).zs.length + 1)
theorem itB_len (x : It) : (itB x).length ≤ 24 * (x.zs.length + 1) := by
  unfold itB layB
  split
  · rw [le_len]; omega
  split
  · rw [le_len]; omega
  split
  · rw [le_len]; omega
  split
  · rw [le_len]; omega
  split
  · rw [wordB, List.length_append, le_len, le_len]; omega
  split
  · rw [capB_len]; omega
  · omega
theorem bytesTo_len (f : Nat → It) : ∀ i, (bytesTo f i).length ≤ 24 * cost f i
  | 0 => Nat.zero_le _
  | i + 1 => by
    rw [bytesTo, cost, List.length_append]
    have := bytesTo_len f i
    have := itB_len (f i)
    omega
theorem cost_le (f : Nat → It) : ∀ {i n : Nat}, i ≤ n → cost f i ≤ cost f n
  | i, 0, h => by obtain rfl : i = 0 := by omega
                  exact Nat.le_refl _
  | i, n + 1, h => by
    by_cases e : i = n + 1
    · subst e; exact Nat.le_refl _
    · have := cost_le f (i := i) (n := n) (by omega)
      rw [cost]; omega
theorem cost_at (f : Nat → It) {i n : Nat} (h : i < n) : cost f i + ((f i).zs.length + 1) ≤ cost f n := cost_le f (i := i + 1) h
theorem info73 : (Try.prog.info? 73).map (fun i => (i.zero, i.size, i.bytes)) = some (some (.agg #[.int .i64 0, .int .u64 0, .int .i64 0, .int .u64 0, .int .u64 0, .slice none 0 0]), 6, 64) := by kernel_rfl
end Go.Proofs.Ytolfmchgcelnmaa.O

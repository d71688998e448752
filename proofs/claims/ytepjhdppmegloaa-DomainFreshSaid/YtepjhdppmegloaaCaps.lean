/- Lists of capabilities in memory, and the program's list. -/
import Derived.Test.YtepjhdppmegloaaProg
import Derived.Test.YtepjhdppmegloaaMem
import Derived.Test.YtepjhdppmegloaaWEqStruct
import Derived.Outline
import Derived.Lib.Hide
import Derived.IntWalk
namespace Go.Proofs.Ytepjhdppmegloaa.Caps
open Go.RowKit Go.Proofs.Ytepjhdppmegloaa.Mem
open Go.Proofs.YtepjhdppmegloaaW.PrintWords (eqA_of eqf_cons eqf_last)

structure Cap where
  obj : Int
  hi : Int
  lo : Int
deriving DecidableEq
@[reducible] def z0 : Cap := ⟨0, 0, 0⟩
def capC (c : Cap) : List Value := [.int .i64 c.obj, .int .u64 c.hi, .int .u64 c.lo]
@[reducible] def capV (c : Cap) : Value := .agg #[.int .i64 c.obj, .int .u64 c.hi, .int .u64 c.lo]
def capsC (l : List Cap) : List Value := l.flatMap capC
theorem capsC_length (l : List Cap) : (capsC l).length = l.length * 3 := by
  induction l with
  | nil => rfl
  | cons c l ih => rw [capsC, List.flatMap_cons, List.length_append, ← capsC, ih]; simp [capC]; omega
theorem capsC_at : ∀ (l : List Cap) (i : Nat) (j : Nat), i < l.length → j < 3 → (capsC l)[i * 3 + j]? = (capC (l.getD i z0))[j]?
  | [], i, j, h, _ => by simp at h
  | c :: l, 0, j, _, hj => by
    simp only [capsC, List.flatMap_cons, Nat.zero_mul, Nat.zero_add, List.getD_cons_zero]
    rw [List.getElem?_append_left (by simp [capC]; omega)]
  | c :: l, i + 1, j, h, hj => by
    simp only [capsC, List.flatMap_cons, List.getD_cons_succ]
    rw [List.getElem?_append_right (by simp [capC]; omega)]
    have := capsC_at l i j (by simpa using h) hj
    rw [← this]
    simp only [capsC]
    congr 1
    simp [capC]; omega

theorem info37 : (Try.prog.info? 37).map (fun i => (i.zero, i.size, i.bytes)) = some (some (.agg #[.int .i64 0, .int .u64 0, .int .u64 0]), 3, 24) := by kernel_rfl

/-- The program's list at block p: its bound, its capabilities; all it leads to lies in F. -/
def ListAt (T : Nat) (w : World) (p : Nat) (most : Int) (l : List Cap) (F : Nat → Prop) : Prop :=
  ∃ v, w.heap[p]? = some (.cells #[.int .i64 most, v] T (0, 0)) ∧ w.ownsRow 0 37 3 v l.length (capsC l) ∧ F p ∧ ∀ k, v.ownBlock = some k → F k ∧ k ≠ p

theorem ListAt.kept {T : Nat} {S : Nat → Prop} {w w' : World} {p : Nat} {most : Int} {l : List Cap} {F : Nat → Prop} (h : ListAt T w p most l F) (hk : Kept S w w') (hS : ∀ k, F k → ¬ S k) : ListAt T w' p most l F := by
  obtain ⟨v, h1, h2, h3, h4⟩ := h
  exact ⟨v, hk.row h1 (hS p h3), own_kept h2 hk (fun k hv => hS k (h4 k hv).1), h3, h4⟩

theorem ListAt.alloc {T : Nat} {w : World} {p : Nat} {most : Int} {l : List Cap} {F : Nat → Prop} (h : ListAt T w p most l F) (o : Obj) : ListAt T (w.alloc o) p most l F :=
  h.kept ((Kept.refl (fun _ => False) w).alloc o) (fun _ _ h => h)

set_option maxHeartbeats 1000000 in
theorem len_any {T : Nat} (w : World) (p : Nat) (most : Int) (l : List Cap) (F : Nat → Prop) (h : ListAt T w p most l F) :
    Calls Try.prog 13 #[.pointer (some ⟨p, 0, none⟩)] w fun e w' => e = .returned (.int .i64 l.length) ∧ w = w' := by
  obtain ⟨v, h1, h2, h3, h4⟩ := h
  obtain ⟨A, c, rfl, hc⟩ := own_slice h2
  have c1 : w.cell? ⟨p, 1, none⟩ = some (.slice A l.length c) := cell_row h1 rfl
  go_enter Try.func13, Try.ntmps13
  go_wp2
  go_ret
  exact ⟨rfl, rfl⟩
def hasB (l : List Cap) (i : Int) : Bool := decide (0 ≤ i) && decide (i < (l.length : Int))
set_option maxHeartbeats 1000000 in
theorem has_any {T : Nat} (w : World) (p : Nat) (most : Int) (l : List Cap) (F : Nat → Prop) (i : Int) (h : ListAt T w p most l F) :
    Calls Try.prog 23 #[.pointer (some ⟨p, 0, none⟩), .int .i64 i] w fun e w' => e = .returned (.bool (hasB l i)) ∧ w = w' := by
  obtain ⟨v, h1, h2, h3, h4⟩ := h
  obtain ⟨A, c, rfl, hc⟩ := own_slice h2
  have c1 : w.cell? ⟨p, 1, none⟩ = some (.slice A l.length c) := cell_row h1 rfl
  go_enter Try.func23, Try.ntmps23
  go_wp2
  · go_ret
    exact ⟨by have : 0 ≤ i := by assumption
              simp [hasB, this], rfl⟩
  · go_ret
    exact ⟨by have : ¬ 0 ≤ i := by omega
              simp [hasB, this], rfl⟩

/-- What At answers. -/
def atV (l : List Cap) (i : Int) : Value := if hasB l i then .tuple #[capV (l.getD i.toNat z0), .int .i64 0] else .tuple #[capV z0, .int .i64 15]
set_option maxHeartbeats 1000000 in
theorem at_in {T : Nat} (w : World) (p : Nat) (most : Int) (l : List Cap) (F : Nat → Prop) (i : Int) (h : ListAt T w p most l F) (hi : hasB l i = true) :
    Calls Try.prog 16 #[.pointer (some ⟨p, 0, none⟩), .int .i64 i] w fun e w' => e = .returned (.tuple #[capV (l.getD i.toNat z0), .int .i64 0]) ∧ Below w.heap.size w w' := by
  have hL := h
  obtain ⟨v, h1, h2, h3, h4⟩ := h
  have hi' : 0 ≤ i ∧ i < l.length := by simpa [hasB] using hi
  obtain ⟨i0, i1⟩ := hi'
  obtain ⟨g, c, cur, rfl, hg, hc, _, _, _, hcell⟩ := own_form h2 (by omega)
  have c1 : w.cell? ⟨p, 1, none⟩ = some (.slice (some ⟨g, 0, none⟩) l.length c) := cell_row h1 rfl
  have hp := lt_of_row h1
  have hgl := lt_of_row hg
  obtain ⟨x, hx⟩ : ∃ x, l.getD i.toNat z0 = x := ⟨_, rfl⟩
  have k0 : w.cell? ⟨g, i.toNat * 3, none⟩ = some (.int .i64 (l.getD i.toNat z0).obj) := hcell _ _ (capsC_at l i.toNat 0 (by omega) (by omega))
  have k1 : w.cell? ⟨g, i.toNat * 3 + 1, none⟩ = some (.int .u64 (l.getD i.toNat z0).hi) := hcell _ _ (capsC_at l i.toNat 1 (by omega) (by omega))
  have k2 : w.cell? ⟨g, i.toNat * 3 + 2, none⟩ = some (.int .u64 (l.getD i.toNat z0).lo) := hcell _ _ (capsC_at l i.toNat 2 (by omega) (by omega))
  rw [hx] at k0 k1 k2 ⊢
  clear hx
  go_enter Try.func16, Try.ntmps16
  go_wp2_with (go_at_call 23; refine (has_any _ p most l F i (hL.alloc _)).mono ?_; rintro e w1 ⟨rfl, rfl⟩)
  refine bodyPost_ret (v := .tuple #[capV x, .int .i64 0]) (by simp [results, go_sem, capV]) rfl ⟨rfl, ?_⟩
  exact (Below.refl _ _).alloc (Nat.le_refl _) _
set_option maxHeartbeats 1000000 in
theorem at_out {T : Nat} (w : World) (p : Nat) (most : Int) (l : List Cap) (F : Nat → Prop) (i : Int) (h : ListAt T w p most l F) (hi : hasB l i = false) :
    Calls Try.prog 16 #[.pointer (some ⟨p, 0, none⟩), .int .i64 i] w fun e w' => e = .returned (.tuple #[capV z0, .int .i64 15]) ∧ Below w.heap.size w w' := by
  have hL := h
  go_enter Try.func16, Try.ntmps16
  go_wp2_with (go_at_call 23; refine (has_any _ p most l F i (hL.alloc _)).mono ?_; rintro e w1 ⟨rfl, rfl⟩)
  refine bodyPost_ret (v := .tuple #[capV z0, .int .i64 15]) (by simp [results, go_sem, capV]) rfl ⟨rfl, ?_⟩
  exact (Below.refl _ _).alloc (Nat.le_refl _) _
def Fresh (w : World) (v : Value) : Prop := ∀ k, v.ownBlock = some k → w.heap.size ≤ k
/-- A new list of capabilities is handed back; nothing elder has changed. -/
def GivesCaps (l : List Cap) (w : World) (e : Ending) (w' : World) : Prop :=
  ∃ v, e = .returned v ∧ w'.ownsRow 0 37 3 v l.length (capsC l) ∧ Below w.heap.size w w' ∧ Fresh w v

theorem capsC_one (l : List Cap) : ∀ u ∈ capsC l, u.oneCell' = true := by
  intro u hu
  obtain ⟨c, _, hc⟩ := List.mem_flatMap.1 hu
  simp [capC] at hc
  rcases hc with rfl | rfl | rfl <;> rfl

theorem own_holds {w : World} {base : Nat} {A : Option Addr} {e : TypeId} {size n c : Nat} {xs : List Value} (h : w.ownsRow base e size (.slice A n c) n xs) : Holds w A xs := by
  intro hp
  have hn : 0 < n := by
    rcases Nat.eq_zero_or_pos n with h0 | h0
    · have := h.1; subst h0; omega
    · exact h0
  obtain ⟨g, c', cur, he, _, _, _, _, _, hcell⟩ := own_form h hn
  obtain ⟨rfl, _, _⟩ : A = some ⟨g, 0, none⟩ ∧ n = n ∧ c = c' := by simpa using he
  refine ⟨_, rfl, fun j u hu => ?_⟩
  have e2 : (⟨g, 0, none⟩ : Addr).add j = ⟨g, j, none⟩ := by unfold Addr.add; split <;> simp_all
  rw [e2]; exact hcell j u hu

set_option maxHeartbeats 1000000 in
theorem all_any {T : Nat} (w : World) (p : Nat) (most : Int) (l : List Cap) (F : Nat → Prop) (h : ListAt T w p most l F) (hb : l.length ≤ 1000000) :
    Calls Try.prog 15 #[.pointer (some ⟨p, 0, none⟩)] w (GivesCaps l w) := by
  obtain ⟨v, h1, h2, h3, h4⟩ := h
  obtain ⟨A, c, rfl, hc⟩ := own_slice h2
  have hh := Lib.hid (own_holds h2)
  have c1 : w.cell? ⟨p, 1, none⟩ = some (.slice A l.length c) := cell_row h1 rfl
  clear h4
  go_enter Try.func15, Try.ntmps15
  go_wp2_with (at_builtin; refine list_app rfl (.const (.slice none 0 0)) (.tmp 15) 43 rfl 37 0 _ 3 24 Try.underlying43 info37 rfl (by decide) (by decide) (.slice none 0 0) 0 [] rfl (World.ownsRow_nil _ _ _ _) A l.length l.length (capsC l) rfl (capsC_length l) hh.out (capsC_one l) (by omega) (Nat.zero_le _) ?_; intro v1 w1 hown1 hgrow1 hat1 _)
  go_ret
  refine ⟨v1, rfl, by simpa using hown1, ⟨hgrow1.os, hgrow1.tape, hgrow1.output, hgrow1.size, fun k hk => hgrow1.block k hk (by simp [Value.ownBlock])⟩, ?_⟩
  intro k hk
  rcases hat1 with h | h
  · rw [hk] at h; cases h
  · rw [hk] at h; have := Option.some.inj h; omega

def capEq (a b : Cap) : Bool := (a.obj == b.obj) && ((a.hi == b.hi) && (a.lo == b.lo))
theorem capEq_iff (a b : Cap) : capEq a b = true ↔ a = b := by
  cases a; cases b; simp [capEq]
theorem eqWord (d : Nat) (w : World) (x0 y0 x1 y1 : Int) :
    (Op.equalIn (d + 2) 35 (.agg #[.int .u64 x0, .int .u64 x1]) (.agg #[.int .u64 y0, .int .u64 y1])).run Try.prog w = .ok (x0 == y0 && (x1 == y1)) w := by
  refine eqA_of Try.underlying35 (by kernel_rfl) ?_
  refine eqf_cons (by rfl) (by go_simp; rfl) (by go_simp; rfl) (by go_simp) ?_
  exact eqf_last (by rfl) (by go_simp; rfl) (by go_simp; rfl) (by go_simp)
theorem eqCap (w : World) (x0 y0 x1 y1 x2 y2 : Int) :
    (Op.equalIn 10000 37 (.agg #[.int .i64 x0, .int .u64 x1, .int .u64 x2]) (.agg #[.int .i64 y0, .int .u64 y1, .int .u64 y2])).run Try.prog w = .ok (capEq ⟨x0, x1, x2⟩ ⟨y0, y1, y2⟩) w := by
  refine eqA_of (d := 9999) Try.underlying37 (by kernel_rfl) ?_
  refine eqf_cons (by rfl) (by go_simp; rfl) (by go_simp; rfl) (by go_simp) ?_
  exact eqf_last (by rfl) (by go_simp) (by go_simp) (eqWord 9997 w _ _ _ _)

/-- A slice that holds capabilities, wherever it lies. -/
def ReadsCaps (w : World) (v : Value) (l : List Cap) : Prop :=
  ∃ A c, v = .slice A l.length c ∧ l.length ≤ maxLen ∧ (0 < l.length → ∃ g o, A = some ⟨g, o, none⟩ ∧ ∀ j u, (capsC l)[j]? = some u → w.cell? ⟨g, o + j, none⟩ = some u)
theorem reads_of_own {w : World} {base : Nat} {v : Value} {l : List Cap} (h : w.ownsRow base 37 3 v l.length (capsC l)) : ReadsCaps w v l := by
  obtain ⟨A, c, rfl, _⟩ := own_slice h
  refine ⟨A, c, rfl, own_max h, fun hp => ?_⟩
  obtain ⟨g, c', cur, he, _, _, _, _, _, hcell⟩ := own_form h hp
  obtain ⟨rfl, _⟩ : A = some ⟨g, 0, none⟩ ∧ c = c' := by simpa using he
  exact ⟨g, 0, rfl, fun j u hu => by rw [Nat.zero_add]; exact hcell j u hu⟩
def sameB (a b : List Cap) : Bool := decide (a = b)

theorem sameB_len {a b : List Cap} (h : a.length ≠ b.length) : sameB a b = false := decide_eq_false (fun e => h (by rw [e]))
theorem sameB_all {a b : List Cap} (hl : a.length = b.length) (h : ∀ i, i < a.length → capEq (a.getD i z0) (b.getD i z0) = true) : sameB a b = true := by
  refine decide_eq_true (List.ext_getElem hl (fun i h1 h2 => ?_))
  have := (capEq_iff _ _).1 (h i h1)
  simpa [List.getD, h1, h2] using this
theorem sameB_not {a b : List Cap} {i : Nat} (h : capEq (a.getD i z0) (b.getD i z0) = false) : sameB a b = false :=
  decide_eq_false (fun e => by rw [e, (capEq_iff _ _).2 rfl] at h; cases h)
/-- The first i are alike. -/
def alikeUpto (a b : List Cap) (i : Nat) : Prop := ∀ j, j < i → capEq (a.getD j z0) (b.getD j z0) = true

theorem alike_snoc {a b : List Cap} {i : Nat} (h : alikeUpto a b i) (hi : capEq (a.getD i z0) (b.getD i z0) = true) : alikeUpto a b (i + 1) := by
  intro j hj
  rcases Nat.lt_or_ge j i with h1 | h1
  · exact h j h1
  · obtain rfl : j = i := by omega
    exact hi

set_option maxHeartbeats 4000000 in
theorem same_any (w : World) (u v : Value) (a b : List Cap) (ha : ReadsCaps w u a) (hb : ReadsCaps w v b) :
    Calls Try.prog 14 #[u, v] w fun e w' => e = .returned (.bool (sameB a b)) ∧ ∃ n, w' = w.drewN n := by
  obtain ⟨A, c, rfl, hal, hA⟩ := ha
  obtain ⟨B, d, rfl, hbl, hB⟩ := hb
  unfold maxLen at hal hbl
  obtain ⟨n, hn⟩ : ∃ n, a.length = n := ⟨_, rfl⟩
  obtain ⟨m, hm⟩ : ∃ n, b.length = n := ⟨_, rfl⟩
  rw [hn] at hal hA ⊢
  rw [hm] at hbl hB ⊢
  by_cases hlen : n = m
  · subst hlen
    have HN := Lib.hid hn
    have HM := Lib.hid hm
    have HA := Lib.hid hA
    have HB := Lib.hid hB
    have heq := eqCap
    clear hn hm hA hB
    go_enter Try.func14, Try.ntmps14
    go_wp2
    go_loopw [5] (fun vi wr => ∃ i : Nat, i ≤ n ∧ vi = .int .i64 i ∧ Hid (alikeUpto a b i) ∧ Hid (∃ q, wr = w.drewN q)) (fun vi _ => n - (intOf vi).toNat)
    case atStart => exact ⟨0, Nat.zero_le _, rfl, Lib.hid (fun j hj => absurd hj (Nat.not_lt_zero _)), Lib.hid ⟨0, rfl⟩⟩
    case round =>
      obtain ⟨i, hi, rfl, HS, HW⟩ := hrel
      obtain ⟨q, rfl⟩ := HW.out
      clear HW
      by_cases hlt : i < n
      · obtain ⟨g, o, rfl, hcA⟩ := HA.out (by omega)
        obtain ⟨g', o', rfl, hcB⟩ := HB.out (by omega)
        have ka0 : w.cell? ⟨g, o + i * 3, none⟩ = some (.int .i64 (a.getD i z0).obj) := hcA _ _ (capsC_at a i 0 (by rw [HN.out]; exact hlt) (by omega))
        have ka1 : w.cell? ⟨g, o + i * 3 + 1, none⟩ = some (.int .u64 (a.getD i z0).hi) := by rw [Nat.add_assoc]; exact hcA _ _ (capsC_at a i 1 (by rw [HN.out]; exact hlt) (by omega))
        have ka2 : w.cell? ⟨g, o + i * 3 + 2, none⟩ = some (.int .u64 (a.getD i z0).lo) := by rw [Nat.add_assoc]; exact hcA _ _ (capsC_at a i 2 (by rw [HN.out]; exact hlt) (by omega))
        have kb0 : w.cell? ⟨g', o' + i * 3, none⟩ = some (.int .i64 (b.getD i z0).obj) := hcB _ _ (capsC_at b i 0 (by rw [HM.out]; exact hlt) (by omega))
        have kb1 : w.cell? ⟨g', o' + i * 3 + 1, none⟩ = some (.int .u64 (b.getD i z0).hi) := by rw [Nat.add_assoc]; exact hcB _ _ (capsC_at b i 1 (by rw [HM.out]; exact hlt) (by omega))
        have kb2 : w.cell? ⟨g', o' + i * 3 + 2, none⟩ = some (.int .u64 (b.getD i z0).lo) := by rw [Nat.add_assoc]; exact hcB _ _ (capsC_at b i 2 (by rw [HM.out]; exact hlt) (by omega))
        obtain ⟨xa, hxa⟩ : ∃ x, a.getD i z0 = x := ⟨_, rfl⟩
        obtain ⟨xb, hxb⟩ : ∃ x, b.getD i z0 = x := ⟨_, rfl⟩
        rw [hxa] at ka0 ka1 ka2
        rw [hxb] at kb0 kb1 kb2
        have HXA := Lib.hid hxa
        have HXB := Lib.hid hxb
        clear hcA hcB hxa hxb
        by_cases hq : capEq ⟨xa.obj, xa.hi, xa.lo⟩ ⟨xb.obj, xb.hi, xb.lo⟩ = true
        · go_wp2
          go_quiet (fail)
          go_wp2
          go_roundw
          case rel => exact ⟨i + 1, by omega, by go_num, Lib.hid (alike_snoc HS.out (by rw [HXA.out, HXB.out]; exact hq)), Lib.hid ⟨q + nq, rfl⟩⟩
          case measure => simp [intOf]; omega
        · have hqf : capEq ⟨xa.obj, xa.hi, xa.lo⟩ ⟨xb.obj, xb.hi, xb.lo⟩ = false := by simpa using hq
          clear hq
          go_wp2
          go_quiet (fail)
          go_wp2
          go_ret
          exact ⟨ret_bool rfl (sameB_not (i := i) (by rw [HXA.out, HXB.out]; exact hqf)), q + nq, by rw [World.drewN_drewN]⟩
      · have : i = n := by omega
        subst this
        go_wp2
        go_ret
        exact ⟨ret_bool rfl (sameB_all (HN.out.trans HM.out.symm) (fun j hj => HS.out j (by rw [HN.out] at hj; exact hj))), q, rfl⟩
  · have hne : ((n : Int) == (m : Int)) = false := by simpa using (by omega : ¬ (n : Int) = m)
    have e := Lib.hid (sameB_len (a := a) (b := b) (by rw [hn, hm]; exact hlen))
    clear hA hB hn hm
    go_enter Try.func14, Try.ntmps14
    go_wp2
    go_ret
    exact ⟨ret_bool rfl e.out, 0, rfl⟩

/-- The list has become l'. -/
def Now (T : Nat) (w : World) (p : Nat) (most : Int) (F : Nat → Prop) (l' : List Cap) (w' : World) : Prop :=
  ∃ F', ListAt T w' p most l' F' ∧ (∀ k, F' k → F k ∨ w.heap.size ≤ k) ∧ Kept F w w'
theorem Now.same {T : Nat} {w w' : World} {p : Nat} {most : Int} {F : Nat → Prop} {l : List Cap} (h : ListAt T w p most l F) (hb : Below w.heap.size w w') : Now T w p most F l w' := by
  obtain ⟨v, h1, h2, h3, h4⟩ := h
  have hk : Kept (fun _ => False) w w' := Kept.of_below hb
  exact ⟨F, ⟨v, hk.row h1 (fun h => h), own_kept h2 hk (fun _ _ h => h), h3, h4⟩, fun k hk => .inl hk, Kept.of_below hb⟩

theorem now_stored {T : Nat} {w w1 : World} {p : Nat} {most : Int} {F : Nat → Prop} {l' : List Cap} {v0 v1 : Value} (r1 : w1.heap[p]? = some (.cells #[.int .i64 most, v0] T (0, 0))) (hown : w1.ownsRow 0 37 3 v1 l'.length (capsC l'))
    (hk : Kept F w w1) (hp : F p) (hat : ∀ k, v1.ownBlock = some k → (F k ∧ k ≠ p) ∨ w.heap.size ≤ k) (hpl : p < w.heap.size) : Now T w p most F l' (w1.setCell ⟨p, 1, none⟩ v1) := by
  have hne : ∀ k, v1.ownBlock = some k → k ≠ p := fun k h => (hat k h).elim (·.2) (fun h => by omega)
  refine ⟨fun k => F k ∨ w.heap.size ≤ k, ⟨v1, ?_, ?_, .inl hp, fun k h => ⟨(hat k h).imp (·.1) id, hne k h⟩⟩, fun _ h => h, hk.setCell (.inl hp) v1⟩
  · exact heap_setCell_same w1 p 1 _ _ v1 r1
  · exact own_kept hown ((Kept.refl (fun k => k = p) w1).setCell (.inl rfl) v1) hne

set_option maxHeartbeats 4000000 in
theorem add_full (w : World) (p : Nat) (most : Int) (l : List Cap) (F : Nat → Prop) (x : Cap) (h : ListAt 58 w p most l F) (hf : most ≤ (l.length : Int)) :
    Calls Try.prog 11 #[.pointer (some ⟨p, 0, none⟩), capV x] w fun e w' => e = .returned (.int .i64 14) ∧ Now 58 w p most F l w' := by
  have hL := h
  obtain ⟨v, h1, h2, h3, h4⟩ := h
  obtain ⟨A, c, rfl, hc⟩ := own_slice h2
  have c0 : w.cell? ⟨p, 0, none⟩ = some (.int .i64 most) := cell_row h1 rfl
  have c1 : w.cell? ⟨p, 1, none⟩ = some (.slice A l.length c) := cell_row h1 rfl
  have hp := lt_of_row h1
  go_enter Try.func11, Try.ntmps11
  go_wp2
  go_quiet (fail)
  go_wp2
  go_ret
  exact ⟨rfl, Now.same hL ((((Kept.refl (fun _ => False) w).alloc _).drewN _).below (fun _ h => h.elim) (Nat.le_refl _))⟩
set_option maxHeartbeats 4000000 in
theorem add_room (w : World) (p : Nat) (most : Int) (l : List Cap) (F : Nat → Prop) (x : Cap) (h : ListAt 58 w p most l F) (hf : (l.length : Int) < most) (hb : l.length ≤ 1000000) :
    Calls Try.prog 11 #[.pointer (some ⟨p, 0, none⟩), capV x] w fun e w' => e = .returned (.int .i64 0) ∧ Now 58 w p most F (l ++ [x]) w' := by
  have hL := h
  obtain ⟨v, h1, h2, h3, h4⟩ := h
  obtain ⟨A, c, rfl, hc⟩ := own_slice h2
  have c0 : w.cell? ⟨p, 0, none⟩ = some (.int .i64 most) := cell_row h1 rfl
  have c1 : w.cell? ⟨p, 1, none⟩ = some (.slice A l.length c) := cell_row h1 rfl
  have hp := lt_of_row h1
  go_enter Try.func11, Try.ntmps11
  go_wp2
  go_quiet (fail)
  go_wp2
  have hKK := Lib.hid (fun (o1 o2 : Obj) n => (((Kept.refl (fun _ => False) w).alloc o1).drewN n).alloc o2)
  have h22 := Lib.hid h2
  have h11 := Lib.hid h1
  have h44 := Lib.hid h4
  clear h1 h2 h4
  go_region_law (refine step_app rfl (.tmp 19) (.tmp 21) 43 rfl 37 0 _ 3 24 Try.underlying43 info37 rfl (by decide) (by decide) (.slice A l.length c) l.length (capsC l) rfl (own_keeps h22.out (hKK.out _ _ _)) _ 1 1 (capC x) rfl rfl (holds_new _ _ _ _ _ (by simp)) (by simp [capC, Value.oneCell']) (by omega) (Nat.zero_le _) ?_; intro v1 w1 hown1 hgrow1 hat1 _; obtain ⟨A1, c1', rfl, _⟩ := own_slice hown1; have r1 := Lib.hid (row_grown (no_keeps h11.out (hKK.out _ _ _)) hgrow1 (fun e => (h44.out p e).2 rfl)); have e1 := cell_row (j := 1) r1.out rfl; have f1 := free_row (j := 1) r1.out)
  all_goals
    go_wp2
    go_ret
    refine ⟨rfl, now_stored r1.out (by simpa [capsC, List.flatMap_append] using hown1) ((Kept.of_below (((hKK.out _ _ _).below (B := w.heap.size) (fun _ h => h.elim) (Nat.le_refl _)))).grown hgrow1 (fun k hk => .inl (h44.out k hk).1)) h3 ?_ hp⟩
    intro k hk
    rcases hat1 with h | h
    · exact .inl (h44.out k (h ▸ hk))
    · right
      have := Option.some.inj (hk.symm.trans h)
      rw [this]; simp; omega

theorem row3 {w : World} {g : Nat} {a b c : Value} {t : TypeId} (h : w.heap[g]? = some (.cells #[a, b, c] t (0, 0))) :
    w.cell? ⟨g, 0, none⟩ = some a ∧ w.cell? ⟨g, 1, none⟩ = some b ∧ w.cell? ⟨g, 2, none⟩ = some c ∧ w.frozen? ⟨g, 0, none⟩ = false ∧ w.frozen? ⟨g, 1, none⟩ = false ∧ w.frozen? ⟨g, 2, none⟩ = false :=
  ⟨cell_row h rfl, cell_row h rfl, cell_row h rfl, free_row h, free_row h, free_row h⟩
theorem capsC_take (l : List Cap) (n : Nat) : capsC (l.take n) = (capsC l).take (n * 3) := by
  induction l generalizing n with
  | nil => simp [capsC]
  | cons c l ih =>
    cases n with
    | zero => simp [capsC]
    | succ n =>
      rw [List.take_succ_cons]
      show capC c ++ capsC (l.take n) = (capC c ++ capsC l).take ((n + 1) * 3)
      rw [ih, List.take_append, List.take_of_length_le (by simp [capC]; omega : (capC c).length ≤ (n + 1) * 3)]
      congr 2
      simp [capC]; omega
theorem capsC_append (a b : List Cap) : capsC (a ++ b) = capsC a ++ capsC b := List.flatMap_append
theorem capsC_drop (l : List Cap) (n : Nat) : capsC (l.drop n) = (capsC l).drop (n * 3) := by
  have h := capsC_append (l.take n) (l.drop n)
  rw [List.take_append_drop, capsC_take] at h
  by_cases hn : n ≤ l.length
  · have e := congrArg (List.drop (n * 3)) h
    rw [List.drop_append_of_le_length (by rw [List.length_take, capsC_length]; omega), List.drop_of_length_le (by rw [List.length_take]; omega : ((capsC l).take (n * 3)).length ≤ n * 3), List.nil_append] at e
    exact e.symm
  · rw [List.drop_of_length_le (by omega : l.length ≤ n), List.drop_of_length_le (by rw [capsC_length]; omega)]
    rfl

set_option maxHeartbeats 4000000 in
theorem remove_out (w : World) (p : Nat) (most : Int) (l : List Cap) (F : Nat → Prop) (i : Int) (h : ListAt 58 w p most l F) (hi : hasB l i = false) :
    Calls Try.prog 12 #[.pointer (some ⟨p, 0, none⟩), .int .i64 i] w fun e w' => e = .returned (.tuple #[capV z0, .int .i64 15]) ∧ Now 58 w p most F l w' := by
  have hL := Lib.hid h
  clear h
  go_enter Try.func12, Try.ntmps12
  go_wp2_with (go_at_call 16; refine (at_out (T := 58) _ p most l F i (hL.out.alloc _) hi).mono ?_; rintro e w1 ⟨rfl, hb1⟩; obtain ⟨q0, q1, q2, q3, q4, q5⟩ := row3 ((hb1.block w.heap.size (by simp)).trans (heap_alloc_new w _)); have hwl : w.heap.size < w1.heap.size := Nat.lt_of_lt_of_le (by simp) hb1.size; have hK := Lib.hid ((((Kept.refl (fun _ => False) w).alloc (Obj.cells #[Value.int IntKind.i64 0, Value.int IntKind.u64 0, Value.int IntKind.u64 0] 37)).then_below hb1)))
  refine bodyPost_ret (v := .tuple #[capV z0, .int .i64 15]) (by simp [results, go_sem, q0, q1, q2, hwl]) rfl ⟨rfl, Now.same hL.out ?_⟩
  exact Kept.below (((((hK.out.mono (T := fun k => w.heap.size ≤ k) (fun _ h => h.elim)).setCell (.inl (Nat.le_refl _)) _).setCell (.inl (Nat.le_refl _)) _).setCell (.inl (Nat.le_refl _)) _).alloc _) (fun _ h => h) (Nat.le_refl _)


set_option maxHeartbeats 4000000 in
theorem remove_in (w : World) (p : Nat) (most : Int) (l : List Cap) (F : Nat → Prop) (i : Int) (h : ListAt 58 w p most l F) (hi : hasB l i = true) :
    Calls Try.prog 12 #[.pointer (some ⟨p, 0, none⟩), .int .i64 i] w fun e w' => e = .returned (.tuple #[capV (l.getD i.toNat z0), .int .i64 0]) ∧ Now 58 w p most F (l.take i.toNat ++ l.drop (i.toNat + 1)) w' := by
  have hL := Lib.hid h
  have hi' : 0 ≤ i ∧ i < l.length := by simpa [hasB] using hi
  obtain ⟨i0, i1⟩ := hi'
  obtain ⟨v, h1, h2, h3, h4⟩ := h
  obtain ⟨g, c, cur, rfl, hg, hc, hcm, hcs, htk, hcell⟩ := own_form h2 (by omega)
  have hp := lt_of_row h1
  have hgl := lt_of_row hg
  have hgp := (h4 g rfl).2
  have h11 := Lib.hid h1
  have h22 := Lib.hid h2
  have h44 := Lib.hid h4
  have hgg := Lib.hid hg
  have htt := Lib.hid htk
  have hcc := Lib.hid hcs
  clear h1 h2 h4 hg htk hcs hcell
  obtain ⟨x, hx⟩ : ∃ x, l.getD i.toNat z0 = x := ⟨_, rfl⟩
  have hx' := Lib.hid hx
  have hat := Lib.hid (fun w' (h : ListAt 58 w' p most l F) => at_in (T := 58) w' p most l F i h hi)
  rw [hx] at hat ⊢
  clear hx hi
  obtain ⟨j, hj⟩ : ∃ j : Nat, i = (j : Int) := ⟨i.toNat, by omega⟩
  subst hj
  have hjl : j < l.length := by omega
  have hjc : ¬ c = j := by omega
  have hjle : j ≤ l.length := by omega
  have hjle1 : j + 1 ≤ l.length := by omega
  have hjle2 : (j : Int) + 1 ≤ (l.length : Int) := by omega
  unfold maxLen at hcm
  go_enter Try.func12, Try.ntmps12
  go_wp2_with (go_at_call 16; refine (hat.out _ (hL.out.alloc _)).mono ?_; rintro e w1 ⟨rfl, hb1⟩; have c1 : w1.cell? ⟨p, 1, none⟩ = some (.slice (some ⟨g, 0, none⟩) l.length c) := cell_row (no_keeps h11.out (((Kept.refl _ w).alloc _).then_below hb1)) rfl; have hpl : p < w1.heap.size := Nat.lt_of_lt_of_le hp (Nat.le_trans (by simp) hb1.size))
  have hw1 : IntKind.i64.wrap ((j : Int) + 1) = (j : Int) + 1 := IntWalk.i64_in _ (by omega)
  have hn1 : ((j : Int) + 1).toNat = j + 1 := by omega
  have hn0 : (0 : Int) ≤ (j : Int) + 1 := by omega
  obtain ⟨sp, hsp⟩ : ∃ sp, (if c = j + 1 then some (⟨g, 0, none⟩ : Addr) else some ⟨g, (j + 1) * 3, none⟩) = sp := ⟨_, rfl⟩
  have HS : Hid (∀ w', Kept (fun _ => False) w w' → Holds w' sp (capsC (l.drop (j + 1)))) := by
    intro w' hk hpos
    rw [capsC_length, List.length_drop] at hpos
    rw [if_neg (by omega)] at hsp
    subst hsp
    refine ⟨_, rfl, fun q u hu => ?_⟩
    rw [capsC_drop, List.getElem?_drop] at hu
    have e2 : (⟨g, (j + 1) * 3, none⟩ : Addr).add q = ⟨g, (j + 1) * 3 + q, none⟩ := by unfold Addr.add; split <;> simp_all
    rw [e2]
    rw [← htt.out, List.getElem?_take] at hu
    split at hu
    · exact cell_row (no_keeps hgg.out hk) (by simpa using hu)
    · cases hu
  have hK1 := Lib.hid ((((Kept.refl (fun _ => False) w).alloc (Obj.cells #[Value.int IntKind.i64 0, Value.int IntKind.u64 0, Value.int IntKind.u64 0] 37)).then_below hb1))
  have hK2 := Lib.hid ((hK1.out.alloc (Obj.cells #[Value.int IntKind.i64 x.obj, Value.int IntKind.u64 x.hi, Value.int IntKind.u64 x.lo] 37)).drew)
  have hlen : Hid ((capsC (l.drop (j + 1))).length = Nat.min (l.length - (j + 1)) (l.length - j) * 3) := by
    show _ = min _ _ * 3
    rw [capsC_length, List.length_drop, Nat.min_eq_left (by omega)]
  have hfit : Hid (j * 3 + (capsC (l.drop (j + 1))).length ≤ cur.size) := by
    show _ ≤ _
    rw [capsC_length, List.length_drop, hcc.out]; omega
  have hold := Lib.hid ((hb1.block w.heap.size (by simp)).trans (heap_alloc_new w _))
  have hszw := Lib.hid hb1.size
  have hwl : w.heap.size < w1.heap.size := Nat.lt_of_lt_of_le (by simp) hb1.size
  clear hb1
  go_region_law (refine step_copy rfl (.tmp 23) (.tmp 30) 43 43 rfl 37 3 Try.underlying43 (by kernel_rfl) (by decide) _ _ _ _ _ _ rfl rfl g (j * 3) cur 37 (no_keeps hgg.out hK2.out) (capsC (l.drop (j + 1))) hlen.out (fun _ => rfl) (HS.out _ hK2.out) hfit.out (capsC_one _) ?_; intro w2 hg2 hgr2 hsz2; have G2 := Lib.hid hg2; have Z2 := Lib.hid hsz2; clear hg2 hsz2; have P2 := Lib.hid (row_grown (no_keeps h11.out hK2.out) hgr2 (by simpa using hgp)); have c2 : w2.cell? ⟨p, 1, none⟩ = some (.slice (some ⟨g, 0, none⟩) l.length c) := cell_row P2.out rfl; have f2 : w2.frozen? ⟨p, 1, none⟩ = false := free_row P2.out)
  all_goals
    have O2 := Lib.hid (row_grown (no_keeps hold.out (((Kept.refl _ w1).alloc (Obj.cells #[Value.int IntKind.i64 x.obj, Value.int IntKind.u64 x.hi, Value.int IntKind.u64 x.lo] 37)).drew)) hgr2 (by simp; omega))
    have X1 : (w1.alloc (Obj.cells #[Value.int IntKind.i64 x.obj, Value.int IntKind.u64 x.hi, Value.int IntKind.u64 x.lo] 37)).drew.heap[w1.heap.size]? = some (Obj.cells #[Value.int IntKind.i64 x.obj, Value.int IntKind.u64 x.hi, Value.int IntKind.u64 x.lo] 37 (0, 0)) := heap_alloc_new w1 _
    have X2 := Lib.hid (row_grown X1 hgr2 (by simp; omega))
    clear X1
    obtain ⟨q0, q1, q2, q3, q4, q5⟩ := row3 O2.out
    obtain ⟨t0, t1, t2, t3, t4, t5⟩ := row3 X2.out
    clear hw1 hn1 hn0 hsp
    go_wp2
    go_region
    go_wp2
    have hpw : ¬ p = w.heap.size := by omega
    have hgw : ¬ g = w.heap.size := by omega
    have hnek : ∀ k, (Value.slice (some ⟨g, 0, none⟩) (l.length - 1) c).ownBlock = some k → k = g := fun k hk => by simpa [Value.ownBlock, eq_comm] using hk
    refine bodyPost_ret (v := .tuple #[capV x, .int .i64 0]) (by simp [results, go_sem, q0, q1, q2]) rfl ⟨rfl, ?_⟩
    refine ⟨fun k => F k ∨ w.heap.size ≤ k, ⟨.slice (some ⟨g, 0, none⟩) (l.length - 1) c, ?_, ?_, .inl h3, ?_⟩, fun _ h => h, ?_⟩
    · exact (((((Kept.refl (fun k => k = w.heap.size) _).setCell (.inl rfl) _).setCell (.inl rfl) _).setCell (.inl rfl) _).drew).row (heap_setCell_same w2 p 1 _ _ _ P2.out) hpw
    · refine own_kept (S := fun k => k = p ∨ k = w.heap.size) ?_ ((((((Kept.refl _ w2).setCell (.inl (.inl rfl)) _).setCell (.inl (.inr rfl)) _).setCell (.inl (.inr rfl)) _).setCell (.inl (.inr rfl)) _).drew) (fun k hk h => by have := hnek k hk; rcases h with h | h <;> omega)
      have e : (l.take (j : Int).toNat ++ l.drop ((j : Int).toNat + 1)).length = l.length - 1 := by simp; omega
      rw [e]
      refine ⟨by rw [capsC_length, e], .inr ⟨g, c, _, rfl, Nat.zero_le _, G2.out, by omega, by unfold maxLen; omega, ?_, ?_⟩⟩
      · have := hfit.out
        simp only [List.size_toArray, List.length_append, List.length_take, List.length_drop, Array.length_toList]
        rw [hcc.out] at this ⊢
        omega
      · rw [List.append_assoc, ← List.append_assoc, List.take_append_of_le_length, List.take_of_length_le]
        · rw [capsC_append, Int.toNat_natCast, capsC_take, ← htt.out, List.take_take, Nat.min_eq_left (by omega)]
        · rw [List.length_append, List.length_take, capsC_length, List.length_drop]; omega
        · have hcl : cur.toList.length = c * 3 := by have := hcc.out; simpa using this
          rw [List.length_append, List.length_take, capsC_length, List.length_drop, hcl]; omega
    · intro k hk
      obtain rfl := hnek k hk
      exact ⟨.inl (h44.out k rfl).1, (h44.out k rfl).2⟩
    · exact (((((((hK2.out.mono (T := F) (fun _ h => h.elim)).grown hgr2 (fun k hk => .inl (by obtain rfl := Option.some.inj hk; exact (h44.out g rfl).1))).setCell (.inl h3) _).setCell (.inr (Nat.le_refl _)) _).setCell (.inr (Nat.le_refl _)) _).setCell (.inr (Nat.le_refl _)) _).drew)

end Go.Proofs.Ytepjhdppmegloaa.Caps

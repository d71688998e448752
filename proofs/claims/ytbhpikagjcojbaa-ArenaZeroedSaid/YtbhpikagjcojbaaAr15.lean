/- ArenaZeroed: the walk. -/
import Derived.Test.YtbhpikagjcojbaaAr14
import Derived.Deep.CutBlock
import Derived.Deep.DeepCutAuto
namespace Go.Proofs.Ytbhpikagjcojbaa.Ar
open Go.RowKit Go.Proofs.Ytbhpikagjcojbaa.Mem
theorem take_first (w : World) (p a t N m : Nat) (hN : m ≤ N) (h : At w p a t N (onC 0 N) (Z N)) :
    Calls Try.prog 10 #[.pointer (some ⟨p, 0, none⟩), .int .i64 (m : Int)] w fun e w' => ∃ A d, e = .returned (.tuple #[.slice A m d, .int .i64 0]) ∧ w'.ownsRow 0 3 1 (.slice A m d) m ((ints 0 m).map (Value.int .i64)) ∧ At w' p a t N (onC m N) (Z N) ∧ Kept (fun b => b = a ∨ b = t) w w' ∧ Fresh w (.slice A m d) := by
  rcases Nat.eq_zero_or_pos m with rfl | hm
  · have := take_in w p a t N _ _ 0 h (by rw [free_onC (by omega)]; omega)
    have e : trun 0 (onC 0 N) (Z N) N = ⟨[], onC 0 N, Z N⟩ := by
      have := trun_stop (m := 0) (on := onC 0 N) (bs := Z N) (k := 0) rfl N
      rwa [Nat.zero_add] at this
    rw [e] at this
    exact this
  · have := take_onC w p a t N 0 m hm (by omega) h
    rwa [Nat.zero_add] at this
theorem onC_F (m n : Nat) (h : m ≤ n) : onC m n = onF n (fun j => decide (j < m)) := by
  apply List.ext_getElem?
  intro i
  by_cases hi : i < n
  · have h1 := onC_get hi h
    rw [onF_get hi]
    have h2 : i < (onC m n).length := by simp [onC]; omega
    rw [List.getD_eq_getElem?_getD, List.getElem?_eq_getElem h2] at h1
    rw [List.getElem?_eq_getElem h2]
    simpa using h1
  · rw [List.getElem?_eq_none (by simp [onC]; omega), List.getElem?_eq_none (by simp [onF]; omega)]
set_option maxHeartbeats 1000000 in
theorem read_off (w : World) (p a t n : Nat) (on : List Bool) (bs : List Int) (i off k : Int) (h : At w p a t n on bs) (hb : isB on i = false) :
    Calls Try.prog 16 #[.pointer (some ⟨p, 0, none⟩), .int .i64 i, .int .i64 off, .int .i64 k] w fun e w' => e = .returned (.tuple #[.slice none 0 0, .int .i64 20]) ∧ w = w' := by
  have HP := Lib.hid (place_any w p a t n on bs i off k h)
  unfold placeE at HP
  rw [hb, if_neg (by decide)] at HP
  clear h hb
  go_enter Try.func16, Try.ntmps16
  go_wp2_with (go_at_call 24; (with_reducible refine HP.out.mono ?_); rintro e w1 ⟨rfl, rfl⟩)
  go_ret2
  exact ⟨rfl, rfl⟩
set_option maxHeartbeats 1000000 in
theorem take_many (w : World) (p a t n : Nat) (on : List Bool) (bs : List Int) (m : Int) (h : At w p a t n on bs) (hm : freeN on n < m) (h0 : 0 ≤ freeN on n) :
    Calls Try.prog 10 #[.pointer (some ⟨p, 0, none⟩), .int .i64 m] w fun e w' => e = .returned (.tuple #[.slice none 0 0, .int .i64 8]) ∧ Below w.heap.size w w' := by
  have HFR := Lib.hid (free_any w p a t n on bs h)
  obtain ⟨f, hf⟩ : ∃ f, freeN on n = f := ⟨_, rfl⟩
  rw [hf] at HFR hm h0
  clear hf h
  go_enter Try.func10, Try.ntmps10
  go_wp2_with (go_at_call 20; (with_reducible refine HFR.out.mono ?_); rintro e w1 ⟨rfl, b1⟩)
  go_ret2
  exact ⟨rfl, b1⟩
theorem freeN_range (on : List Bool) (n : Nat) : 0 ≤ freeN on n ∧ freeN on n ≤ n := by
  have := tk_len on n
  unfold freeN
  omega

theorem num_quiet (w : World) (n : Nat) (e : Int) : Calls Try.prog 8 #[.int .i64 e] (w.drewN n) fun x w'' => x = .returned (.int .i64 e) ∧ ∃ m, w'' = w.drewN m := (num_any _ e).mono (by rintro x w' ⟨rfl, rfl⟩; exact ⟨rfl, n, rfl⟩)
theorem old_start (L : List Int) (z : Int) : true = true ↔ z ∉ L.take 0 := by simp
theorem old_off {L M : List Int} {i z : Int} (hM : M = L ++ [z]) (h : false = true ↔ i ∉ L) : false = true ↔ i ∉ M := by
  subst hM
  simp only [Bool.false_eq_true, false_iff, Decidable.not_not, List.mem_append] at h ⊢
  exact .inl h
theorem old_hit {L M : List Int} {i : Int} (hM : M = L ++ [i]) : false = true ↔ i ∉ M := by
  subst hM
  simp
theorem old_on {L M : List Int} {i z : Int} (hM : M = L ++ [z]) (hz : z ≠ i) (h : i ∉ L) : true = true ↔ i ∉ M := by
  subst hM
  simp only [true_iff, List.mem_append, List.mem_singleton]
  rintro (h1 | h1)
  · exact h h1
  · exact hz h1.symm
theorem below_drewN (w : World) (k : Nat) : Below w.heap.size w (w.drewN k) := ⟨rfl, rfl, rfl, Nat.le_refl _, fun _ _ => rfl⟩
structure Wst (w : World) (p a t n m : Nat) (vl : Value) (D : Nat) (g : Nat → Bool) (f : Nat → Int) (dl : List Int) (wr : World) : Prop where
  at' : At wr p a t n (onF n g) (flat n f)
  own : wr.ownsRow 0 3 1 vl m ((ints 0 m).map (Value.int .i64))
  data : wr.heap[D]? = some (.cells (dl.map byteC).toArray 5 (0, 0))
  len : dl.length = 64
  below : Below w.heap.size w wr
theorem Wst.cell {w : World} {p a t n m D : Nat} {vl : Value} {g : Nat → Bool} {f : Nat → Int} {dl : List Int} {wr : World} (h : Wst w p a t n m vl D g f dl wr) {j : Nat} (hj : j < 64) : wr.cell? ⟨D, j, none⟩ = some (.int .u8 (dl.getD j 0)) ∧ wr.frozen? ⟨D, j, none⟩ = false := by
  refine ⟨cell_row h.data ?_, free_row h.data⟩
  rw [List.getElem?_toArray, List.getElem?_map, List.getD_eq_getElem?_getD, List.getElem?_eq_getElem (by rw [h.len]; exact hj)]
  rfl
theorem ints_at {s n i : Nat} (h : i < n) : (ints s n)[i]? = some ((s + i : Nat) : Int) := by
  unfold ints
  rw [List.getElem?_map, List.getElem?_range h]
  rfl
theorem Wst.num {w : World} {p a t n m D : Nat} {A : Option Addr} {d : Nat} {g : Nat → Bool} {f : Nat → Int} {dl : List Int} {wr : World} (h : Wst w p a t n m (.slice A m d) D g f dl wr) {i : Nat} (hi : i < m) : ∃ gl, A = some ⟨gl, 0, none⟩ ∧ m ≤ d ∧ d ≤ 9223372036854775807 ∧ ∀ k, k < m → wr.cell? ⟨gl, k, none⟩ = some (.int .i64 k) := by
  obtain ⟨gl, c', cu, e, _, h1, h2, _, _, hcell⟩ := own_form h.own (by omega)
  obtain ⟨rfl, rfl⟩ : A = some ⟨gl, 0, none⟩ ∧ d = c' := by simpa using e
  exact ⟨gl, rfl, h1, by unfold maxLen at h2; omega, fun k hk => hcell k _ (by rw [List.getElem?_map, ints_at hk, Nat.zero_add]; rfl)⟩
theorem Wst.store {w : World} {p a t n m D : Nat} {vl : Value} {g : Nat → Bool} {f : Nat → Int} {dl : List Int} {wr : World} (h : Wst w p a t n m vl D g f dl wr) (hD : w.heap.size ≤ D ∧ D ≠ p ∧ D ≠ a ∧ D ≠ t) (hl : ∀ b, vl.ownBlock = some b → b ≠ D) (j : Nat) (v : Int) : Wst w p a t n m vl D g f (dl.set j v) (wr.setCell ⟨D, j, none⟩ (.int .u8 v)) := by
  have hk : Kept (fun b => b = D) wr (wr.setCell ⟨D, j, none⟩ (.int .u8 v)) := (Kept.refl (fun b => b = D) wr).setCell (.inl rfl) _
  refine ⟨h.at'.kept hk (fun e => hD.2.1 e.symm) (fun e => hD.2.2.1 e.symm) (fun e => hD.2.2.2 e.symm), own_kept h.own hk (fun b hb e => hl b hb e), ?_, by rw [List.length_set]; exact h.len, h.below.trans (hk.below (fun b hb => by rw [hb]; exact hD.1) h.below.size)⟩
  rw [heap_setCell_same wr D j _ _ (.int .u8 v) h.data, List.map_set]
  simp [byteC]
@[reducible] def vx (x : Int) (i : Nat) : Int := bits BinOp.xor IntKind.u8 x (i : Int)
theorem take_set_next {dl : List Int} {j : Nat} {v : Int} (h : dl.take j = List.replicate j v) (hj : j < dl.length) : (dl.set j v).take (j + 1) = List.replicate (j + 1) v := by
  rw [List.take_add_one, List.take_set_of_le (Nat.le_refl _), h, List.getElem?_set_self hj, List.replicate_succ']
  rfl
theorem Wst.write {w : World} {p a t n m D : Nat} {vl : Value} {g : Nat → Bool} {f : Nat → Int} {wr : World} {v : Int} (h : Wst w p a t n m vl D g f (List.replicate 64 v) wr) (hD : w.heap.size ≤ D ∧ D ≠ p ∧ D ≠ a ∧ D ≠ t) (hla : ∀ b, vl.ownBlock = some b → b ≠ a) (ha : w.heap.size ≤ a) {i : Nat} (hi : i < n) (hg : g i = true) :
    Calls Try.prog 15 #[.pointer (some ⟨p, 0, none⟩), .int .i64 i, .int .i64 0, .slice (some ⟨D, 0, none⟩) 64 64] wr fun e w' => e = .returned (.int .i64 0) ∧ Wst w p a t n m vl D g (upd f i v) (List.replicate 64 v) w' := by
  have hp : placeE (onF n g) (i : Int) ((0 : Nat) : Int) ((64 : Nat) : Int) = 0 := by
    unfold placeE
    rw [if_pos (by rw [isB_onF hi]; exact hg), if_neg (by omega)]
  have hh : Holds wr (some ⟨D, 0, none⟩) ((List.replicate 64 v).map byteC) := fun _ => ⟨_, rfl, fun j u hu => by
    have e2 : (⟨D, 0, none⟩ : Addr).add j = ⟨D, j, none⟩ := by unfold Addr.add; split <;> simp_all
    rw [e2]
    exact cell_row h.data (by rw [List.getElem?_toArray]; exact hu)⟩
  refine (write_in wr p a t n _ _ i 0 64 (some ⟨D, 0, none⟩) 64 (List.replicate 64 v) h.at' hi hp (by decide) (by simp) hh).mono ?_
  rintro e w' ⟨rfl, h1, hk⟩
  rw [Nat.add_zero, laid_flat v hi] at h1
  exact ⟨rfl, h1, own_kept h.own hk (fun b hb e => hla b hb e), hk.row h.data (fun e => hD.2.2.1 e), by simp, h.below.trans (hk.below (fun b hb => by rw [hb]; exact ha) h.below.size)⟩
def cnt (g : Nat → Bool) : Nat → Nat
  | 0 => 0
  | k + 1 => cnt g k + (if g k then 1 else 0)
theorem cnt_far (g : Nat → Bool) (j : Nat) : ∀ k, k ≤ j → cnt (upd g j false) k = cnt g k
  | 0, _ => rfl
  | k + 1, h => by
    have : k ≠ j := by omega
    rw [cnt, cnt, cnt_far g j k (by omega)]
    simp [upd, this]
theorem cnt_upd (g : Nat → Bool) (j : Nat) (hg : g j = true) : ∀ k, j < k → cnt (upd g j false) k + 1 = cnt g k
  | 0, h => by omega
  | k + 1, h => by
    rw [cnt, cnt]
    by_cases hk : k = j
    · subst hk
      rw [cnt_far g k k (Nat.le_refl _)]
      simp [upd, hg]
    · have := cnt_upd g j hg k (by omega)
      simp only [upd, if_neg hk] at this ⊢
      omega
/-- What holds while pages are given back. -/
structure Gst (w : World) (p a t n m : Nat) (vl : Value) (g : Nat → Bool) (f : Nat → Int) (vg : Value) (k : Nat) (gone : List Int) (wr : World) : Prop where
  at' : At wr p a t n (onF n g) (flat n f)
  own : wr.ownsRow 0 3 1 vl m ((ints 0 m).map (Value.int .i64))
  list : wr.ownsRow 0 3 1 vg k (gone.map (Value.int .i64))
  far : ∀ b, vg.ownBlock = some b → p < b ∧ a < b ∧ t < b ∧ w.heap.size ≤ b ∧ vl.ownBlock ≠ some b
  count : k + cnt g m = m
  low : ∀ j, j < m → (g j = true ↔ (j : Int) ∉ gone)
  high : ∀ j, m ≤ j → g j = false
  below : Below w.heap.size w wr
theorem Gst.box {w : World} {p a t n m k : Nat} {vl vg : Value} {g : Nat → Bool} {f : Nat → Int} {gone : List Int} {wr w' : World} (h : Gst w p a t n m vl g f vg k gone wr) (hb : Below wr.heap.size wr w') : Gst w p a t n m vl g f vg k gone w' :=
  ⟨h.at'.below hb, own_keeps h.own (Kept.of_below hb), own_keeps h.list (Kept.of_below hb), h.far, h.count, h.low, h.high, h.below.trans (hb.mono h.below.size)⟩
theorem Gst.num {w : World} {p a t n m k : Nat} {A : Option Addr} {d : Nat} {vg : Value} {g : Nat → Bool} {f : Nat → Int} {gone : List Int} {wr : World} (h : Gst w p a t n m (.slice A m d) g f vg k gone wr) {i : Nat} (hi : i < m) : ∃ gl, A = some ⟨gl, 0, none⟩ ∧ m ≤ d ∧ d ≤ 9223372036854775807 ∧ ∀ k, k < m → wr.cell? ⟨gl, k, none⟩ = some (.int .i64 k) := by
  obtain ⟨gl, c', cu, e, _, h1, h2, _, _, hcell⟩ := own_form h.own (by omega)
  obtain ⟨rfl, rfl⟩ : A = some ⟨gl, 0, none⟩ ∧ d = c' := by simpa using e
  exact ⟨gl, rfl, h1, by unfold maxLen at h2; omega, fun k hk => hcell k _ (by rw [List.getElem?_map, ints_at hk, Nat.zero_add]; rfl)⟩
/-- A page was given back, and its number is laid behind the others. -/
theorem Gst.gave {w : World} {p a t n m k : Nat} {vl vg vg' : Value} {g : Nat → Bool} {f : Nat → Int} {gone : List Int} {wr w1 w2 : World} (h : Gst w p a t n m vl g f vg k gone wr) {r : Nat} (hr : r < m) (hmn : m ≤ n) (hg : g r = true) (htw : w.heap.size ≤ t) (hlt : vl.ownBlock ≠ some t) (h1 : At w1 p a t n ((onF n g).set r false) (flat n f)) (hk : Kept (fun b => b = t) wr w1)
    (hown : w2.ownsRow 0 3 1 vg' (k + 1) (gone.map (Value.int .i64) ++ [.int .i64 (r : Int)])) (hw : Went (w1.alloc (.cells #[.int .i64 (r : Int)] 3)) w2 vg vg' k 1) : Gst w p a t n m vl (upd g r false) f vg' (k + 1) (gone ++ [(r : Int)]) w2 := by
  have hb := (Below.refl _ w1).alloc (Nat.le_refl _) (.cells #[.int .i64 (r : Int)] 3)
  have h2 := h1.below hb
  rw [onF_set false (by omega)] at h2
  have hsz := hk.size
  refine ⟨h2.kept hw.kept (fun e => by have := h.far p e; omega) (fun e => by have := h.far a e; omega) (fun e => by have := h.far t e; omega), own_kept (own_keeps (own_kept h.own hk (fun b hb e => hlt (e ▸ hb))) (Kept.of_below hb)) hw.kept (fun b hb e => (h.far b e).2.2.2.2 hb), by simpa using hown, fun b hbb => ?_, ?_, fun j hj => ?_, fun j hj => ?_, ?_⟩
  · rcases hw.block with e | e
    · exact h.far b (e ▸ hbb)
    · have e1 := Option.some.inj (e.symm.trans hbb)
      obtain ⟨_, _, _, _, c1, c2, c3⟩ := h1.cells
      have c4 := h.below.size
      simp at e1
      refine ⟨by omega, by omega, by omega, by omega, fun e2 => ?_⟩
      have := own_lt h.own b e2
      omega
  · have := cnt_upd g r hg m hr
    have := h.count
    omega
  · by_cases hjr : j = r
    · subst hjr
      simp [upd]
    · have h3 : ¬ ((j : Int) = (r : Int)) := by omega
      simp only [upd, if_neg hjr, List.mem_append, List.mem_singleton, h3, or_false]
      exact h.low j hj
  · have : j ≠ r := by omega
    simp only [upd, if_neg this]
    exact h.high j hj
  · exact (h.below.trans (hk.below (fun b hb => by rw [hb]; exact htw) h.below.size)).trans (((hb.mono (Nat.le_trans h.below.size hsz))).trans (hw.kept.below (fun b hb => (h.far b hb).2.2.2.1) (by simp; have := h.below.size; omega)))
theorem conv_lit (w w' : World) (zs : List Int) (cs : Array Value) (n : Nat) (hn : zs.length = n) (hc : cs.toList = zs.map byteC) (hw : w'.heap[w.heap.size]? = some (.cells cs 5 (0, 0))) : (convert 36 9 (.slice (some ⟨w.heap.size, 0, none⟩) n n)).run Try.prog w' = .ok (.string (strOfNums zs)) w' :=
  run_convert_bytes_arg w' 36 5 Try.underlying36 Try.underlying5 w.heap.size 0 n n zs hn (fun i hi => by
    rw [Nat.zero_add]
    refine cell_row hw ?_
    rw [← Array.getElem?_toList, hc, List.getElem?_map, List.getD_eq_getElem?_getD, List.getElem?_eq_getElem (by omega)]
    rfl) 9 Try.underlying9
/-- What holds behind the second Take. -/
structure Rst (w : World) (p a t n m : Nat) (vl : Value) (g' : Nat → Bool) (f' : Nat → Int) (vg : Value) (k : Nat) (gone : List Int) (vo : Value) (ko : Nat) (out : List Int) (wr : World) : Prop where
  at' : At wr p a t n (onF n g') (flat n f')
  own : wr.ownsRow 0 3 1 vl m ((ints 0 m).map (Value.int .i64))
  list : wr.ownsRow 0 3 1 vg k (gone.map (Value.int .i64))
  outs : wr.ownsRow 0 3 1 vo ko (out.map (Value.int .i64))
  below : Below w.heap.size w wr
theorem Rst.box {w : World} {p a t n m k ko : Nat} {vl vg vo : Value} {g' : Nat → Bool} {f' : Nat → Int} {gone out : List Int} {wr w' : World} (h : Rst w p a t n m vl g' f' vg k gone vo ko out wr) (hb : Below wr.heap.size wr w') : Rst w p a t n m vl g' f' vg k gone vo ko out w' :=
  ⟨h.at'.below hb, own_keeps h.own (Kept.of_below hb), own_keeps h.list (Kept.of_below hb), own_keeps h.outs (Kept.of_below hb), h.below.trans (hb.mono h.below.size)⟩
theorem row_num {wr : World} {A : Option Addr} {m d : Nat} {zs : List Int} (h : wr.ownsRow 0 3 1 (.slice A m d) m (zs.map (Value.int .i64))) (hp : 0 < m) : ∃ gl, A = some ⟨gl, 0, none⟩ ∧ m ≤ d ∧ d ≤ 9223372036854775807 ∧ ∀ k z, zs[k]? = some z → wr.cell? ⟨gl, k, none⟩ = some (.int .i64 z) := by
  obtain ⟨gl, c', cu, e, _, h1, h2, _, _, hcell⟩ := own_form h hp
  obtain ⟨rfl, rfl⟩ : A = some ⟨gl, 0, none⟩ ∧ d = c' := by simpa using e
  exact ⟨gl, rfl, h1, by unfold maxLen at h2; omega, fun k z hz => hcell k _ (by rw [List.getElem?_map, hz]; rfl)⟩
theorem Rst.read {w : World} {p a t n m k ko : Nat} {vl vg vo : Value} {g' : Nat → Bool} {f' : Nat → Int} {gone out : List Int} {wr : World} (h : Rst w p a t n m vl g' f' vg k gone vo ko out wr) {j : Nat} (hj : j < n) (hg : g' j = true) :
    Calls Try.prog 16 #[.pointer (some ⟨p, 0, none⟩), .int .i64 j, .int .i64 0, .int .i64 64] wr fun e w' => ∃ A c', e = .returned (.tuple #[.slice A 64 c', .int .i64 0]) ∧ w'.ownsRow 0 5 1 (.slice A 64 c') 64 ((List.replicate 64 (f' j)).map byteC) ∧ Below wr.heap.size wr w' := by
  have hp : placeE (onF n g') (j : Int) ((0 : Nat) : Int) ((64 : Nat) : Int) = 0 := by
    unfold placeE
    rw [if_pos (by rw [isB_onF hj]; exact hg), if_neg (by omega)]
  have := read_in wr p a t n _ _ j 0 64 h.at' hj hp (by decide)
  rw [page_flat hj] at this
  refine this.mono ?_
  rintro e w' ⟨A, c', h1, h2, h3, _⟩
  exact ⟨A, c', h1, h2, h3⟩
set_option maxHeartbeats 4000000 in
set_option maxRecDepth 100000 in
theorem law_zeroed (w : World) (n0 first again : Int) (vb : Value) (bk : List Int) (hv : ReadsInts w vb bk) (x : Int) : Calls Try.prog 5 #[.int .i64 n0, .int .i64 first, vb, .int .i64 again, .int .u8 x] w fun e w' => e = .returned (.bool true) ∧ Below w.heap.size w w' := by
  obtain ⟨AB, cB, rfl, mB, fB⟩ := hv
  obtain ⟨nb, eb⟩ : ∃ nb, bk.length = nb := ⟨_, rfl⟩
  have HBK := Lib.hid fB
  rw [eb] at HBK mB ⊢
  have EB := Lib.hid eb
  unfold maxLen at mB
  clear fB eb
  have HI := Lib.hid (fun w => rest_any w n0 257 (by decide) (by decide))
  have q0 := restI_lo n0 (top := 257) (by decide)
  have q1 := restI_hi n0 (top := 257) (by decide)
  obtain ⟨ni, hn⟩ : ∃ q, restI n0 257 = q := ⟨_, rfl⟩
  rw [hn] at HI q0 q1
  obtain ⟨n, rfl⟩ : ∃ q : Nat, ni = (q : Int) := ⟨ni.toNat, by omega⟩
  have hn256 : n ≤ 256 := by omega
  clear hn q0 q1
  have HI2 := Lib.hid (fun w => rest_any w first ((n : Int) + 1) (by omega) (by omega))
  have q0 := restI_lo first (top := (n : Int) + 1) (by omega)
  have q1 := restI_hi first (top := (n : Int) + 1) (by omega)
  obtain ⟨mi, hm⟩ : ∃ q, restI first ((n : Int) + 1) = q := ⟨_, rfl⟩
  rw [hm] at HI2 q0 q1
  obtain ⟨m, rfl⟩ : ∃ q : Nat, mi = (q : Int) := ⟨mi.toNat, by omega⟩
  have hmn : m ≤ n := by omega
  clear hm q0 q1
  have HNEW : Hid (Calls Try.prog 7 #[.int .i64 n] w fun e w' => ∃ p a t, e = .returned (.tuple #[.pointer (some ⟨p, 0, none⟩), .int .i64 0]) ∧ At w' p a t n (onC 0 n) (Z n) ∧ Below w.heap.size w w' ∧ w.heap.size ≤ p ∧ w.heap.size ≤ a ∧ w.heap.size ≤ t) := by
    have := new_in w n hn256
    rw [onC_none] at this
    exact this
  have HNUM := Lib.hid num_any
  obtain ⟨Y, hY⟩ : ∃ Y, (List.replicate 64 (byteC 0)).toArray = Y := ⟨_, rfl⟩
  have hmk : ∀ w, (Instr.makeSlice 36 (.int .i64 64) (.int .i64 64)).run Try.prog w = .ok (.slice (some ⟨w.heap.size, 0, none⟩) 64 64) (w.alloc (.cells Y 5)) := fun w => by
    obtain ⟨i, hi, hz', hsize, hby⟩ := info_parts info5
    have := run_make (P := Try.prog) w 36 5 i _ Try.underlying36 hi hz' .i64 .i64 64 64 (by omega) (by omega) (by rw [hby]; omega) (by omega)
    rw [this, hsize, made_same (v := .int .u8 0) _ (fun j hj => by simp [Value.cells] at hj; subst hj; rfl) (by simp [Value.cells]), ← hY]
    rfl
  have HY := Lib.hid hY
  clear hY
  go_enter Try.func5, Try.ntmps5
  go_wp2_with (go_at_call 6; (with_reducible refine (HI.out _).mono ?_); rintro e w1 ⟨rfl, rfl⟩)
  (with_reducible refine HNEW.out.mono ?_)
  rintro e w1 ⟨p, a, t, rfl, h1, b1, hp, ha, ht⟩
  have HA1 := Lib.hid h1
  have HB1 := Lib.hid b1
  clear h1 b1 HNEW HI
  go_wp2_with (first | (go_at_call 8; (with_reducible refine (HNUM.out _ _).mono ?_); rintro e w2 ⟨rfl, rfl⟩) | (go_at_call 9; (with_reducible refine (alive_any _).mono ?_); rintro e w2 ⟨rfl, b2⟩; have HA2 := Lib.hid (HA1.out.below b2); have HB2 := Lib.hid (HB1.out.trans (b2.mono HB1.out.size)); clear b2) | (go_at_call 6; (with_reducible refine (HI2.out _).mono ?_); rintro e w2 ⟨rfl, rfl⟩))
  (with_reducible refine (take_first w2 p a t n m hmn HA2.out).mono ?_)
  rintro e w3 ⟨Al, dl, rfl, ol, h3, k3, fl⟩
  obtain ⟨_, _, _, _, hpl2, hal2, htl2⟩ := HA2.out.cells
  have HA3 := Lib.hid h3
  have OL3 := Lib.hid ol
  have FL := Lib.hid (show ∀ b, (Value.slice Al m dl).ownBlock = some b → p < b ∧ a < b ∧ t < b from fun b hb => by have := fl b hb; omega)
  have HB3 : Hid (Below w.heap.size w w3) := HB2.out.trans (k3.below (fun b hb => by rcases hb with rfl | rfl <;> omega) HB2.out.size)
  have HFR := Lib.hid (free_any w3 p a t n _ _ h3)
  rw [free_onC hmn] at HFR
  have hsum : (m : Int) + ((n : Int) - (m : Int)) = (n : Int) := by omega
  clear h3 ol fl k3 HA1 HB1 HA2 HB2 HI2
  go_wp2_with (first | (go_at_call 8; (with_reducible refine (HNUM.out _ _).mono ?_); rintro e w2 ⟨rfl, rfl⟩) | (go_at_call 20; (with_reducible refine HFR.out.mono ?_); rintro e w4 ⟨rfl, b4⟩; have HA4 := Lib.hid (HA3.out.below b4); have OL4 := Lib.hid (own_keeps OL3.out (Kept.of_below b4)); have HB4 := Lib.hid (HB3.out.trans (b4.mono HB3.out.size)); clear b4))
  obtain ⟨D, hD⟩ : ∃ D, w4.heap.size = D := ⟨_, rfl⟩
  have hDp : w.heap.size ≤ D ∧ D ≠ p ∧ D ≠ a ∧ D ≠ t := by
    obtain ⟨_, _, _, _, h1, h2, h3⟩ := HA4.out.cells
    have := HB4.out.size
    omega
  have HLD := Lib.hid (show ∀ b, (Value.slice Al m dl).ownBlock = some b → b ≠ D from fun b hb => by have := own_lt OL4.out b hb; omega)
  have W0 : Hid (Wst w p a t n m (.slice Al m dl) D (fun j => decide (j < m)) (fun _ => 0) (List.replicate 64 0) (w4.alloc (.cells Y 5))) := by
    have hb := (Below.refl _ w4).alloc (Nat.le_refl _) (.cells Y 5)
    refine ⟨?_, own_keeps OL4.out (Kept.of_below hb), ?_, by simp, HB4.out.trans (hb.mono HB4.out.size)⟩
    · rw [← onC_F m n hmn, ← zero_flat]
      exact HA4.out.below hb
    · rw [List.map_replicate, HY.out, ← hD]
      exact heap_alloc_new w4 _
  rw [hD]
  clear HA3 OL3 HB3 HFR HA4 OL4 HB4 hD hpl2 hal2 htl2
  go_loopw [17] (fun v17 wr => ∃ (i : Nat) (f : Nat → Int) (dd : List Int), i ≤ m ∧ v17 = .int .i64 i ∧ Hid (∀ j, f j = if j < i then vx x j else 0) ∧ Hid (Wst w p a t n m (.slice Al m dl) D (fun j => decide (j < m)) f dd wr)) (fun v17 _ => m - (intOf v17).toNat)
  case atStart => exact ⟨0, _, _, Nat.zero_le _, rfl, (fun j => by rw [if_neg (by omega)]), W0⟩
  case round =>
    clear W0
    obtain ⟨i, f, dd, hi, rfl, HF, HW⟩ := hrel
    by_cases hlt : i < m
    · obtain ⟨gl, rfl, hmd, hdm, hnum⟩ := HW.out.num hlt
      go_wp2_with fail
      go_loopw [18] (fun v18 wr => ∃ (j : Nat) (de : List Int), j ≤ 64 ∧ v18 = .int .i64 j ∧ Hid (de.take j = List.replicate j (vx x i)) ∧ Hid (Wst w p a t n m (.slice (some ⟨gl, 0, none⟩) m dl) D (fun j => decide (j < m)) f de wr)) (fun v18 _ => 64 - (intOf v18).toNat)
      case atStart => exact ⟨0, dd, Nat.zero_le _, rfl, rfl, HW⟩
      case round =>
        clear HW hnum
        obtain ⟨j, de, hj, rfl, HT, HW⟩ := hrel
        obtain ⟨gl', e, _, _, hnum⟩ := HW.out.num hlt
        obtain rfl : gl = gl' := by simpa using e
        have y0 := hnum i hlt
        clear hnum e
        by_cases hlt2 : j < 64
        · obtain ⟨q0, f0⟩ := HW.out.cell hlt2
          go_wp2_with fail
          exact ⟨⟨j + 1, de.set j (vx x i), by omega, by simp, take_set_next HT.out (by rw [HW.out.len]; exact hlt2), HW.out.store hDp HLD.out j _⟩, by simp [intOf]; omega⟩
        · have : j = 64 := by omega
          subst this
          have hde : de = List.replicate 64 (vx x i) := by
            have := HT.out
            rwa [List.take_of_length_le (by rw [HW.out.len]; exact Nat.le_refl _)] at this
          subst hde
          have HWR := Lib.hid (HW.out.write (i := i) hDp (fun b hb e => by have := FL.out b hb; omega) ha (by omega) (by simpa using hlt))
          clear HT
          go_wp2_with (first | (go_at_call 15; (with_reducible refine HWR.out.mono ?_); rintro e w5 ⟨rfl, W5⟩; have HW5 := Lib.hid W5; clear W5) | (go_at_call 8; (with_reducible refine (HNUM.out _ _).mono ?_); rintro e w2 ⟨rfl, rfl⟩))
          refine ⟨⟨i + 1, _, _, by omega, by simp, (fun j => by
            by_cases h1 : j = i
            · subst h1
              simp [upd]
            · simp only [upd, if_neg h1]
              rw [HF.out j]
              by_cases h2 : j < i
              · rw [if_pos h2, if_pos (by omega)]
              · rw [if_neg h2, if_neg (by omega)]), HW5⟩, by simp [intOf]; omega⟩
    · obtain rfl : m = i := by omega
      clear hlt hi
      have HG0 : Hid (Gst w p a t n m (.slice Al m dl) (fun j => decide (j < m)) f (.slice none 0 0) 0 [] wr) :=
        ⟨HW.out.at', HW.out.own, World.ownsRow_nil _ _ _ _, fun b hb => by simp [Value.ownBlock] at hb, by
          have : ∀ k, k ≤ m → cnt (fun j => decide (j < m)) k = k := fun k => by
            induction k with
            | zero => intro _; rfl
            | succ k ih => intro hk; rw [cnt, ih (by omega)]; simp; omega
          rw [this m (Nat.le_refl _)]; omega, fun j hj => by simp [hj], fun j hj => by simp; omega, HW.out.below⟩
      have HFF := Lib.hid HF.out
      have hat3 := HW.out.at'.cells
      have HLT := Lib.hid (show (Value.slice Al m dl).ownBlock ≠ some t from fun e => by have := FL.out t e; omega)
      clear HW HF hat3 HLD hDp
      go_upto_block 4 with fail
      go_cut [19] (fun v19 wr => ∃ (k : Nat) (A : Option Addr) (c : Nat) (g : Nat → Bool) (gone : List Int), v19 = .slice A k c ∧ Hid (Gst w p a t n m (.slice Al m dl) g f (.slice A k c) k gone wr))
      case first =>
        go_wp2_with fail
        go_loopw [19, 20] (fun v19 v20 wr => ∃ (i k : Nat) (A : Option Addr) (c : Nat) (g : Nat → Bool) (gone : List Int), i ≤ nb ∧ v20 = .int .i64 i ∧ v19 = .slice A k c ∧ Hid (Gst w p a t n m (.slice Al m dl) g f (.slice A k c) k gone wr)) (fun _ v20 _ => nb - (intOf v20).toNat)
        case atStart => exact ⟨0, 0, none, 0, _, [], Nat.zero_le _, rfl, rfl, HG0⟩
        case round =>
          clear HG0
          obtain ⟨i, k, A, c, g, gone, hi, rfl, rfl, HG⟩ := hrel
          by_cases hm0 : 0 < m
          · have hm0' : (0 : Int) < (m : Int) := by omega
            by_cases hlt : i < nb
            · obtain ⟨z, hz⟩ : ∃ z, bk[i]? = some z := ⟨_, List.getElem?_eq_getElem (by rw [EB.out]; exact hlt)⟩
              obtain ⟨gB, oB, rfl, hcB⟩ := HBK.out (by omega)
              have k0 := hcB i z hz
              have y0 := (HG.out.below.cell (World.block_lt_of_cell? w _ k0)).trans k0
              have hr0 := restI_lo z (top := (m : Int)) hm0'
              have hr1 := restI_hi z (top := (m : Int)) hm0'
              have HRS := Lib.hid (fun w => rest_any w z (m : Int) hm0' (by omega))
              obtain ⟨ri, hri⟩ : ∃ r, restI z (m : Int) = r := ⟨_, rfl⟩
              rw [hri] at HRS hr0 hr1
              obtain ⟨r, rfl⟩ : ∃ r : Nat, ri = (r : Int) := ⟨ri.toNat, by omega⟩
              have hrm : r < m := by omega
              obtain ⟨gl, rfl, hmd, hdm, hnum⟩ := HG.out.num hrm
              have y1 := hnum r hrm
              have hkm : k ≤ m := by have := HG.out.count; omega
              clear hcB hz k0 hri hr0 hr1 hnum
              have hbx := (Below.refl _ wr).alloc (Nat.le_refl _) (.cells #[.int .i64 (r : Int)] 3)
              have HGX := Lib.hid (HG.out.box hbx)
              have hcell : (wr.alloc (.cells #[.int .i64 (r : Int)] 3)).cell? ⟨wr.heap.size, 0, none⟩ = some (.int .i64 r) := cell_row (heap_alloc_new wr _) rfl
              cases hgr : g r
              · have HGV := Lib.hid (give_off _ p a t n _ _ wr.heap.size r 1 HGX.out.at' hcell (by rw [isB_onF (by omega)]; exact hgr))
                clear hbx hcell hgr
                go_wp2_with (first | (go_at_call 6; (with_reducible refine (HRS.out _).mono ?_); rintro e w5 ⟨rfl, rfl⟩) | (go_at_call 21; (with_reducible refine HGV.out.mono ?_); rintro e w5 ⟨rfl, rfl⟩) | (go_at_call 8; (with_reducible refine (HNUM.out _ _).mono ?_); rintro e w2 ⟨rfl, rfl⟩))
                exact ⟨⟨i + 1, k, A, c, g, gone, by omega, by simp, rfl, HGX⟩, by simp [intOf]; omega⟩
              · have HGV := Lib.hid (give_on _ p a t n _ _ wr.heap.size r 1 HGX.out.at' (by omega) hcell (by rw [isB_onF (by omega)]; exact hgr))
                have HGR := Lib.hid hgr
                clear hbx hcell hgr
                go_wp2_with (first | (go_at_call 6; (with_reducible refine (HRS.out _).mono ?_); rintro e w5 ⟨rfl, rfl⟩) | (go_at_call 21; (with_reducible refine HGV.out.mono ?_); rintro e w5 ⟨rfl, ha5, hk5⟩; have HA5 := Lib.hid ha5; have HK5 := Lib.hid hk5; have HL5 := Lib.hid (own_kept HGX.out.list hk5 (fun b hb e => by have := HGX.out.far b hb; omega)); clear ha5 hk5) | (go_at_call 8; (with_reducible refine (HNUM.out _ _).mono ?_); rintro e w2 ⟨rfl, rfl⟩) | (at_builtin; refine list_app2 rfl (.tmp 130) (.tmp 132) 29 rfl 3 0 _ 1 8 Try.underlying29 info3 rfl (by decide) (by decide) (.slice A k c) k _ rfl (own_keeps HL5.out ((Kept.refl _ _).alloc _)) (some ⟨w5.heap.size, 0, none⟩) 1 1 [.int .i64 r] rfl rfl (holds_new _ _ _ _ _ rfl) (by simp [Value.oneCell']) (by omega) (Nat.zero_le _) ?_; intro v9 w9 hown9 hwent9))
                have HG9 := Lib.hid (HGX.out.gave hrm hmn HGR.out ht HLT.out HA5.out HK5.out hown9 hwent9)
                obtain ⟨A9, c9, rfl, _⟩ := own_slice hown9
                exact ⟨⟨i + 1, k + 1, A9, c9, _, _, by omega, by simp, rfl, HG9⟩, by simp [intOf]; omega⟩
            · have : i = nb := by omega
              subst this
              go_wp2
              go_meet
              exact ⟨k, A, c, g, gone, rfl, HG⟩
          · have : m = 0 := by omega
            subst this
            by_cases hlt : i < nb
            · go_wp2
              go_meet
              exact ⟨k, A, c, g, gone, rfl, HG⟩
            · have : i = nb := by omega
              subst this
              go_wp2
              go_meet
              exact ⟨k, A, c, g, gone, rfl, HG⟩
      case rest =>
        clear HG0
        obtain ⟨k, A, c, g, gone, rfl, HG⟩ := hcut
        have hfr := freeN_range (onF n g) n
        have HFR2 := Lib.hid (free_any wc p a t n _ _ HG.out.at')
        obtain ⟨F, hF⟩ : ∃ F, freeN (onF n g) n = F := ⟨_, rfl⟩
        rw [hF] at HFR2 hfr
        have HFE := Lib.hid hF
        obtain ⟨hf0, hfn⟩ := hfr
        have hr0 := restI_lo again (top := F + 1) (by omega)
        have hr1 := restI_hi again (top := F + 1) (by omega)
        have HRS := Lib.hid (fun w => rest_any w again (F + 1) (by omega) (by omega))
        obtain ⟨ri, hri⟩ : ∃ r, restI again (F + 1) = r := ⟨_, rfl⟩
        rw [hri] at HRS hr0 hr1
        obtain ⟨r, rfl⟩ : ∃ r : Nat, ri = (r : Int) := ⟨ri.toNat, by omega⟩
        obtain ⟨out, g', f', hrun, htook⟩ := trun_took r n g f n (Nat.le_refl _)
        have HTOOK := Lib.hid htook
        have HRUN := Lib.hid hrun
        have hrF : (r : Int) ≤ F := by omega
        clear hri hr0 hr1 htook hrun hF
        go_wp2_with (first | (go_at_call 20; (with_reducible refine HFR2.out.mono ?_); rintro e w5 ⟨rfl, b5⟩; have HG5 := Lib.hid (HG.out.box b5); clear b5) | (go_at_call 6; (with_reducible refine (HRS.out _).mono ?_); rintro e w6 ⟨rfl, rfl⟩))
        have HTK2 := take_in w5 p a t n _ _ r HG5.out.at' (by rw [HFE.out]; exact hrF)
        rw [HRUN.out] at HTK2
        (refine HTK2.mono ?_)
        rintro e w6 ⟨Ao, co, rfl, oo, h6, k6, fo⟩
        obtain ⟨ko, hko⟩ : ∃ ko, out.length = ko := ⟨_, rfl⟩
        simp only at oo fo h6
        rw [hko] at oo fo
        have hko256 : ko ≤ 256 := by
          have h7 := trun_len r (onF n g) (flat n f) n
          rw [HRUN.out] at h7
          simp only at h7
          omega
        have HR6 : Hid (Rst w p a t n m (.slice Al m dl) g' f' (.slice A k c) k gone (.slice Ao ko co) ko out w6) :=
          ⟨h6, own_kept HG5.out.own k6 (fun b hb e => by have := FL.out b hb; rcases e with rfl | rfl <;> omega), own_kept HG5.out.list k6 (fun b hb e => by have := HG5.out.far b hb; rcases e with rfl | rfl <;> omega), oo, HG5.out.below.trans (k6.below (fun b hb => by rcases hb with rfl | rfl <;> omega) HG5.out.below.size)⟩
        have HKO := Lib.hid hko
        have HCNT := Lib.hid (show k ≤ m from by have := HG.out.count; omega)
        have HLOW := Lib.hid HG.out.low
        rw [hko]
        clear HTK2 oo h6 k6 fo hko HG5 HG HFR2 HRS
        obtain ⟨T, hT⟩ : ∃ T, (tk (onF n g') n).length = T := ⟨_, rfl⟩
        have hTn : T ≤ n := by rw [← hT]; exact tk_len _ _
        have hsum2 : (T : Int) + ((n : Int) - (T : Int)) = (n : Int) := by omega
        have HTN : Hid (∀ w', At w' p a t n (onF n g') (flat n f') → Calls Try.prog 11 #[.pointer (some ⟨p, 0, none⟩)] w' fun e w2 => ∃ A c, e = .returned (.slice A T c) ∧ Below w'.heap.size w' w2) := fun w' h' => by
          refine (taken_any w' p a t n _ _ h').mono ?_
          rw [hT]
          rintro e w2 ⟨A, c, h1, _, h3, _⟩
          exact ⟨A, c, h1, h3⟩
        have HFN : Hid (∀ w', At w' p a t n (onF n g') (flat n f') → Calls Try.prog 20 #[.pointer (some ⟨p, 0, none⟩)] w' fun e w2 => e = .returned (.int .i64 ((n : Int) - (T : Int))) ∧ Below w'.heap.size w' w2) := fun w' h' => by
          have := free_any w' p a t n _ _ h'
          unfold freeN at this
          rwa [hT] at this
        have HTT := Lib.hid hT
        clear hT
        go_wp2_with (first | (go_at_call 8; (with_reducible refine (HNUM.out _ _).mono ?_); rintro e w2 ⟨rfl, rfl⟩) | (go_at_call 11; (refine (HTN.out w6 HR6.out.at').mono ?_); rintro e w7 ⟨A7, c7, rfl, b7⟩; have HR7 := Lib.hid (HR6.out.box b7); clear b7) | (go_at_call 20; (refine (HFN.out w7 HR7.out.at').mono ?_); rintro e w8 ⟨rfl, b8⟩; have HR8 := Lib.hid (HR7.out.box b8); clear b8))
        clear HTN HR6 HR7
        obtain ⟨S0, hS0⟩ : ∃ S0, strOfNums (List.replicate 64 0) = S0 := ⟨_, rfl⟩
        have HCV : Hid (∀ w0 : World, (convert 36 9 (.slice (some ⟨w0.heap.size, 0, none⟩) 64 64)).run Try.prog (w0.alloc (.cells Y 5)) = .ok (.string S0) (w0.alloc (.cells Y 5))) := fun w0 => by
          rw [← hS0, ← HY.out]
          exact conv_lit w0 _ (List.replicate 64 0) _ 64 (by simp) (by simp) (heap_alloc_new w0 _)
        have HCV2 : Hid (∀ w0 : World, (convert 36 9 (.slice (some ⟨w0.heap.size, 0, none⟩) 64 64)).run Try.prog (w0.alloc (.cells Y 5)).drew = .ok (.string S0) (w0.alloc (.cells Y 5)).drew) := fun w0 => by
          rw [← hS0, ← HY.out]
          exact conv_lit w0 _ (List.replicate 64 0) _ 64 (by simp) (by simp) (heap_alloc_new w0 _)
        have hcvm := HCV.out
        have hcvd := HCV2.out
        go_loopw [24] (fun v24 wr => ∃ i : Nat, i ≤ ko ∧ v24 = .int .i64 i ∧ Hid (Rst w p a t n m (.slice Al m dl) g' f' (.slice A k c) k gone (.slice Ao ko co) ko out wr)) (fun v24 _ => ko - (intOf v24).toNat)
        case atStart => exact ⟨0, Nat.zero_le _, rfl, HR8⟩
        case round =>
          clear HR8
          obtain ⟨i, hi, rfl, HR⟩ := hrel
          by_cases hlt : i < ko
          · obtain ⟨z, hz⟩ : ∃ z, out[i]? = some z := ⟨_, List.getElem?_eq_getElem (by rw [HKO.out]; exact hlt)⟩
            obtain ⟨go, rfl, hgc, hgm, hnum⟩ := row_num HR.out.outs (by omega)
            have y0 := hnum i z hz
            obtain ⟨j, rfl, hjn, _, hgj, hfj⟩ := HTOOK.out.given z (List.mem_of_getElem? hz)
            have HRD := Lib.hid (HR.out.read hjn hgj)
            rw [hfj] at HRD
            have hgol := World.block_lt_of_cell? wr _ y0
            have HNU := Lib.hid hnum
            have HZ := Lib.hid hz
            clear hnum hz hgj hfj
            go_upto_region 32 with (go_at_call 16; (with_reducible refine HRD.out.mono ?_); rintro e wd ⟨Ab, cb, rfl, ob, bd⟩; have OB := Lib.hid ob; have HRd := Lib.hid (HR.out.box bd); have y00 := (bd.cell hgol).trans y0; have BD := Lib.hid bd; clear ob bd)
            have HST : Hid (∀ w', Below wd.heap.size wd w' → (w'.cell? ⟨go, i, none⟩ = some (.int .i64 j) ∧ (convert 36 9 (.slice Ab 64 cb)).run Try.prog w' = .ok (.string S0) w' ∧ Below wd.heap.size wd w')) := fun w' hb => by
              have cv := conv_own (own_keeps OB.out (Kept.of_below hb)) (by decide)
              rw [hS0] at cv
              exact ⟨(hb.cell (World.block_lt_of_cell? wd _ y00)).trans y00, cv, hb⟩
            have b0 : Below wd.heap.size wd wd.drew := (Below.refl _ _).drew
            have b1 : Below wd.heap.size wd (wd.alloc (.cells Y 5)) := (Below.refl _ _).alloc (Nat.le_refl _) _
            have b2 : Below wd.heap.size wd (wd.alloc (.cells Y 5)).drew := b1.drew
            have ST0 := Lib.hid (HST.out _ b0)
            have ST1 := Lib.hid (HST.out _ b1)
            have ST2 := Lib.hid (HST.out _ b2)
            have B0 := Lib.hid b0
            have B2 := Lib.hid b2
            clear b0 b1 b2
            rcases Nat.eq_zero_or_pos i with rfl | hpos
            · skip
              have hm2 := hcvd wd
              have hm3 := hcvm wd
              have hm4 := hcvm wd.drew
              clear hcvd hcvm
              refine wp_region_held_drew (S := (fun w' => w'.cell? ⟨go, 0, none⟩ = some (.int .i64 j) ∧ (convert 36 9 (.slice Ab 64 cb)).run Try.prog w' = .ok (.string S0) w' ∧ Below wd.heap.size wd w')) (by kernel_rfl) (ST0.out) (fun hHeld => ?_)
              refine wpAnyH_take (i := 0) (oi := { dst := some 172, op := Op.move (Operand.tmp 26), type := 24, pos := "outright.go:49", after := #[], guard := none }) (v := ?_) rfl (by kernel_rfl) (by kernel_rfl) (by kernel_rfl) (fun _ _ _ h => h) (Or.inl ⟨by rfl, ?hy0_1⟩) (by assumption) ?rest0_1
              case hy0_1 => (intro w hSw; (try dsimp only at hSw); go_split_ands; go_simp; try with_reducible rfl)
              try simp only [Act.put, List.setIfInBounds_toArray, List.set_cons_zero, List.set_cons_succ]
              refine wpAnyH_ready (rs := [1]) (by kernel_rfl) (by simp) ?_
              refine AllReadyH.cons (o := { dst := some 173, op := Op.call { callee := Callee.value (Operand.func 8), args := #[Operand.tmp 172], argTypes := #[24] }, type := 3, pos := "outright.go:49", after := #[{ on := 0, ground := Ground.data }], guard := none }) rfl (fun K hK => ?_) AllReadyH.nil
              go_simp; (go_at_call 8; (with_reducible refine (HNUM.out _ _).mono ?_); rintro e w1 ⟨rfl, rfl⟩)
              refine hK.out _ _ (ST0.out) (fun hHeld2 => ?_)
              clear hK K hHeld
              have hHeld := hHeld2
              clear hHeld2
              try simp only [Act.put, List.setIfInBounds_toArray, List.set_cons_zero, List.set_cons_succ]
              refine wpAnyH_take (i := 2) (oi := { dst := some 174, op := Op.binOp BinOp.neq 3 (Operand.tmp 173) (Operand.const (Value.int IntKind.i64 0)) 3, type := 4, pos := "outright.go:49", after := #[{ on := 1, ground := Ground.data }], guard := none }) (v := ?_) rfl (by kernel_rfl) (by kernel_rfl) (by kernel_rfl) (fun _ _ _ h => h) (Or.inl ⟨by rfl, ?hy2_2⟩) (by assumption) ?rest2_2
              case hy2_2 => (intro w hSw; (try dsimp only at hSw); go_split_ands; go_simp; try with_reducible rfl)
              try simp only [Act.put, List.setIfInBounds_toArray, List.set_cons_zero, List.set_cons_succ]
              refine wpAnyH_take (i := 3) (oi := { dst := some 175, op := Op.move (Operand.tmp 174), type := 4, pos := "outright.go:49", after := #[{ on := 2, ground := Ground.data }, { on := 1, ground := Ground.chain }], guard := none }) (v := ?_) rfl (by kernel_rfl) (by kernel_rfl) (by kernel_rfl) (fun _ _ _ h => h) (Or.inl ⟨by rfl, ?hy3_3⟩) (by assumption) ?rest3_3
              case hy3_3 => (intro w hSw; (try dsimp only at hSw); go_split_ands; go_simp; try with_reducible rfl)
              try simp only [Act.put, List.setIfInBounds_toArray, List.set_cons_zero, List.set_cons_succ]
              refine wpAnyH_take (i := 4) (oi := { dst := some 176, op := Op.move (Operand.tmp 25), type := 36, pos := "outright.go:49", after := #[{ on := 3, ground := Ground.guard }], guard := some (3, false) }) (v := ?_) rfl (by kernel_rfl) (by kernel_rfl) (by kernel_rfl) (fun _ _ _ h => h) (Or.inl ⟨by rfl, ?hy4_4⟩) (by assumption) ?rest4_4
              case hy4_4 => (intro w hSw; (try dsimp only at hSw); go_split_ands; go_simp; try with_reducible rfl)
              try simp only [Act.put, List.setIfInBounds_toArray, List.set_cons_zero, List.set_cons_succ]
              refine wpAnyH_take (i := 5) (oi := { dst := some 177, op := Op.convert 36 9 (Operand.tmp 176), type := 9, pos := "outright.go:49", after := #[{ on := 4, ground := Ground.data }, { on := 3, ground := Ground.guard }], guard := some (3, false) }) (v := ?_) rfl (by kernel_rfl) (by kernel_rfl) (by kernel_rfl) (fun _ _ _ h => h) (Or.inl ⟨by rfl, ?hy5_5⟩) (by assumption) ?rest5_5
              case hy5_5 => (intro w hSw; (try dsimp only at hSw); go_split_ands; go_simp; try with_reducible rfl)
              try simp only [Act.put, List.setIfInBounds_toArray, List.set_cons_zero, List.set_cons_succ]
              refine wpAnyH_ready (rs := [6]) (by kernel_rfl) (by simp) ?_
              refine AllReadyH.cons (o := { dst := some 178, op := Op.makeSlice 36 (Operand.const (Value.int IntKind.i64 64)) (Operand.const (Value.int IntKind.i64 64)), type := 36, pos := "outright.go:49", after := #[{ on := 3, ground := Ground.guard }], guard := some (3, false) }) rfl (fun K hK => ?_) AllReadyH.nil
              go_simp
              refine hK.out _ _ (ST2.out) (fun hHeld2 => ?_)
              clear hK K hHeld
              have hHeld := hHeld2
              clear hHeld2
              try simp only [Act.put, List.setIfInBounds_toArray, List.set_cons_zero, List.set_cons_succ]
              refine wpAnyH_ready (rs := [7]) (by kernel_rfl) (by simp) ?_
              refine AllReadyH.cons (o := { dst := some 179, op := Op.convert 36 9 (Operand.tmp 178), type := 9, pos := "outright.go:49", after := #[{ on := 6, ground := Ground.data }, { on := 3, ground := Ground.guard }], guard := some (3, false) }) rfl (fun K hK => ?_) AllReadyH.nil
              go_simp
              refine hK.out _ _ (ST2.out) (fun hHeld2 => ?_)
              clear hK K hHeld
              have hHeld := hHeld2
              clear hHeld2
              try simp only [Act.put, List.setIfInBounds_toArray, List.set_cons_zero, List.set_cons_succ]
              refine wpAnyH_take (i := 8) (oi := { dst := some 180, op := Op.binOp BinOp.neq 9 (Operand.tmp 177) (Operand.tmp 179) 9, type := 4, pos := "outright.go:49", after := #[{ on := 5, ground := Ground.data }, { on := 7, ground := Ground.data }, { on := 3, ground := Ground.guard }], guard := some (3, false) }) (v := ?_) rfl (by kernel_rfl) (by kernel_rfl) (by kernel_rfl) (fun _ _ _ h => h) (Or.inl ⟨by rfl, ?hy8_6⟩) (by assumption) ?rest8_6
              case hy8_6 => (intro w hSw; (try dsimp only at hSw); go_split_ands; go_simp; try with_reducible rfl)
              try simp only [Act.put, List.setIfInBounds_toArray, List.set_cons_zero, List.set_cons_succ]
              refine wpAnyH_take (i := 9) (oi := { dst := some 181, op := Op.pick (Operand.tmp 175) (Operand.const (Value.bool true)) (Operand.tmp 180), type := 4, pos := "outright.go:49", after := #[{ on := 3, ground := Ground.data }, { on := 8, ground := Ground.data }], guard := none }) (v := ?_) rfl (by kernel_rfl) (by kernel_rfl) (by kernel_rfl) (fun _ _ _ h => h) (Or.inl ⟨by rfl, ?hy9_7⟩) (by assumption) ?rest9_7
              case hy9_7 => (intro w hSw; (try dsimp only at hSw); go_split_ands; go_simp; try with_reducible rfl)
              try simp only [Act.put, List.setIfInBounds_toArray, List.set_cons_zero, List.set_cons_succ]
              refine wpAnyH_take (i := 10) (oi := { dst := some 182, op := Op.move (Operand.tmp 181), type := 4, pos := "outright.go:49", after := #[{ on := 9, ground := Ground.data }, { on := 3, ground := Ground.chain }], guard := none }) (v := ?_) rfl (by kernel_rfl) (by kernel_rfl) (by kernel_rfl) (fun _ _ _ h => h) (Or.inl ⟨by rfl, ?hy10_8⟩) (by assumption) ?rest10_8
              case hy10_8 => (intro w hSw; (try dsimp only at hSw); go_split_ands; go_simp; try with_reducible rfl)
              try simp only [Act.put, List.setIfInBounds_toArray, List.set_cons_zero, List.set_cons_succ]
              refine wpAnyH_take (i := 11) (oi := { dst := some 183, op := Op.move (Operand.tmp 24), type := 3, pos := "outright.go:49", after := #[{ on := 10, ground := Ground.guard }], guard := some (10, false) }) (v := ?_) rfl (by kernel_rfl) (by kernel_rfl) (by kernel_rfl) (fun _ _ _ h => h) (Or.inl ⟨by rfl, ?hy11_9⟩) (by assumption) ?rest11_9
              case hy11_9 => (intro w hSw; (try dsimp only at hSw); go_split_ands; go_simp; try with_reducible rfl)
              try simp only [Act.put, List.setIfInBounds_toArray, List.set_cons_zero, List.set_cons_succ]
              refine wpAnyH_take (i := 12) (oi := { dst := some 184, op := Op.binOp BinOp.gtr 3 (Operand.tmp 183) (Operand.const (Value.int IntKind.i64 0)) 3, type := 4, pos := "outright.go:49", after := #[{ on := 11, ground := Ground.data }, { on := 10, ground := Ground.guard }], guard := some (10, false) }) (v := ?_) rfl (by kernel_rfl) (by kernel_rfl) (by kernel_rfl) (fun _ _ _ h => h) (Or.inl ⟨by rfl, ?hy12_10⟩) (by assumption) ?rest12_10
              case hy12_10 => (intro w hSw; (try dsimp only at hSw); go_split_ands; go_simp; try with_reducible rfl)
              try simp only [Act.put, List.setIfInBounds_toArray, List.set_cons_zero, List.set_cons_succ]
              refine wpAnyH_take (i := 13) (oi := { dst := some 185, op := Op.move (Operand.tmp 184), type := 4, pos := "outright.go:49", after := #[{ on := 12, ground := Ground.data }, { on := 10, ground := Ground.chain }, { on := 10, ground := Ground.guard }], guard := some (10, false) }) (v := ?_) rfl (by kernel_rfl) (by kernel_rfl) (by kernel_rfl) (fun _ _ _ h => h) (Or.inl ⟨by rfl, ?hy13_11⟩) (by assumption) ?rest13_11
              case hy13_11 => (intro w hSw; (try dsimp only at hSw); go_split_ands; go_simp; try with_reducible rfl)
              try simp only [Act.put, List.setIfInBounds_toArray, List.set_cons_zero, List.set_cons_succ]
              refine wpAnyH_take (i := 14) (oi := { dst := some 186, op := Op.move (Operand.tmp 22), type := 29, pos := "outright.go:49", after := #[{ on := 13, ground := Ground.guard }], guard := some (13, true) }) (v := undef) rfl (by kernel_rfl) (by kernel_rfl) (by kernel_rfl) (fun _ _ _ h => h) (Or.inr ⟨by rfl, rfl⟩) (by assumption) ?_
              try simp only [Act.put, List.setIfInBounds_toArray, List.set_cons_zero, List.set_cons_succ]
              refine wpAnyH_take (i := 15) (oi := { dst := some 187, op := Op.move (Operand.tmp 24), type := 3, pos := "outright.go:49", after := #[{ on := 13, ground := Ground.guard }], guard := some (13, true) }) (v := undef) rfl (by kernel_rfl) (by kernel_rfl) (by kernel_rfl) (fun _ _ _ h => h) (Or.inr ⟨by rfl, rfl⟩) (by assumption) ?_
              try simp only [Act.put, List.setIfInBounds_toArray, List.set_cons_zero, List.set_cons_succ]
              refine wpAnyH_take (i := 16) (oi := { dst := some 188, op := Op.binOp BinOp.sub 3 (Operand.tmp 187) (Operand.const (Value.int IntKind.i64 1)) 3, type := 3, pos := "outright.go:49", after := #[{ on := 15, ground := Ground.data }, { on := 13, ground := Ground.guard }], guard := some (13, true) }) (v := undef) rfl (by kernel_rfl) (by kernel_rfl) (by kernel_rfl) (fun _ _ _ h => h) (Or.inr ⟨by rfl, rfl⟩) (by assumption) ?_
              try simp only [Act.put, List.setIfInBounds_toArray, List.set_cons_zero, List.set_cons_succ]
              refine wpAnyH_take (i := 17) (oi := { dst := some 189, op := Op.indexAddr 29 (Operand.tmp 186) (Operand.tmp 188), type := 0, pos := "outright.go:49", after := #[{ on := 14, ground := Ground.data }, { on := 16, ground := Ground.data }, { on := 13, ground := Ground.guard }], guard := some (13, true) }) (v := undef) rfl (by kernel_rfl) (by kernel_rfl) (by kernel_rfl) (fun _ _ _ h => h) (Or.inr ⟨by rfl, rfl⟩) (by assumption) ?_
              try simp only [Act.put, List.setIfInBounds_toArray, List.set_cons_zero, List.set_cons_succ]
              refine wpAnyH_take (i := 18) (oi := { dst := some 190, op := Op.load 3 (Operand.tmp 189), type := 3, pos := "outright.go:49", after := #[{ on := 17, ground := Ground.data }, { on := 13, ground := Ground.guard }], guard := some (13, true) }) (v := undef) rfl (by kernel_rfl) (by kernel_rfl) (by kernel_rfl) (fun _ _ _ h => h) (Or.inr ⟨by rfl, rfl⟩) (by assumption) ?_
              try simp only [Act.put, List.setIfInBounds_toArray, List.set_cons_zero, List.set_cons_succ]
              refine wpAnyH_take (i := 19) (oi := { dst := some 191, op := Op.move (Operand.tmp 22), type := 29, pos := "outright.go:49", after := #[{ on := 13, ground := Ground.guard }], guard := some (13, true) }) (v := undef) rfl (by kernel_rfl) (by kernel_rfl) (by kernel_rfl) (fun _ _ _ h => h) (Or.inr ⟨by rfl, rfl⟩) (by assumption) ?_
              try simp only [Act.put, List.setIfInBounds_toArray, List.set_cons_zero, List.set_cons_succ]
              refine wpAnyH_take (i := 20) (oi := { dst := some 192, op := Op.move (Operand.tmp 24), type := 3, pos := "outright.go:49", after := #[{ on := 13, ground := Ground.guard }], guard := some (13, true) }) (v := undef) rfl (by kernel_rfl) (by kernel_rfl) (by kernel_rfl) (fun _ _ _ h => h) (Or.inr ⟨by rfl, rfl⟩) (by assumption) ?_
              try simp only [Act.put, List.setIfInBounds_toArray, List.set_cons_zero, List.set_cons_succ]
              refine wpAnyH_take (i := 21) (oi := { dst := some 193, op := Op.indexAddr 29 (Operand.tmp 191) (Operand.tmp 192), type := 0, pos := "outright.go:49", after := #[{ on := 19, ground := Ground.data }, { on := 20, ground := Ground.data }, { on := 13, ground := Ground.guard }], guard := some (13, true) }) (v := undef) rfl (by kernel_rfl) (by kernel_rfl) (by kernel_rfl) (fun _ _ _ h => h) (Or.inr ⟨by rfl, rfl⟩) (by assumption) ?_
              try simp only [Act.put, List.setIfInBounds_toArray, List.set_cons_zero, List.set_cons_succ]
              refine wpAnyH_take (i := 22) (oi := { dst := some 194, op := Op.load 3 (Operand.tmp 193), type := 3, pos := "outright.go:49", after := #[{ on := 21, ground := Ground.data }, { on := 13, ground := Ground.guard }], guard := some (13, true) }) (v := undef) rfl (by kernel_rfl) (by kernel_rfl) (by kernel_rfl) (fun _ _ _ h => h) (Or.inr ⟨by rfl, rfl⟩) (by assumption) ?_
              try simp only [Act.put, List.setIfInBounds_toArray, List.set_cons_zero, List.set_cons_succ]
              refine wpAnyH_take (i := 23) (oi := { dst := some 195, op := Op.binOp BinOp.geq 3 (Operand.tmp 190) (Operand.tmp 194) 3, type := 4, pos := "outright.go:49", after := #[{ on := 18, ground := Ground.data }, { on := 22, ground := Ground.data }, { on := 13, ground := Ground.guard }], guard := some (13, true) }) (v := undef) rfl (by kernel_rfl) (by kernel_rfl) (by kernel_rfl) (fun _ _ _ h => h) (Or.inr ⟨by rfl, rfl⟩) (by assumption) ?_
              try simp only [Act.put, List.setIfInBounds_toArray, List.set_cons_zero, List.set_cons_succ]
              refine wpAnyH_take (i := 24) (oi := { dst := some 196, op := Op.pick (Operand.tmp 185) (Operand.tmp 195) (Operand.const (Value.bool false)), type := 4, pos := "outright.go:49", after := #[{ on := 13, ground := Ground.data }, { on := 23, ground := Ground.data }, { on := 10, ground := Ground.guard }], guard := some (10, false) }) (v := ?_) rfl (by kernel_rfl) (by kernel_rfl) (by kernel_rfl) (fun _ _ _ h => h) (Or.inl ⟨by rfl, ?hy24_12⟩) (by assumption) ?rest24_12
              case hy24_12 => (intro w hSw; (try dsimp only at hSw); go_split_ands; go_simp; try with_reducible rfl)
              try simp only [Act.put, List.setIfInBounds_toArray, List.set_cons_zero, List.set_cons_succ]
              refine wpAnyH_take (i := 25) (oi := { dst := some 197, op := Op.pick (Operand.tmp 182) (Operand.const (Value.bool true)) (Operand.tmp 196), type := 4, pos := "outright.go:49", after := #[{ on := 10, ground := Ground.data }, { on := 24, ground := Ground.data }], guard := none }) (v := ?_) rfl (by kernel_rfl) (by kernel_rfl) (by kernel_rfl) (fun _ _ _ h => h) (Or.inl ⟨by rfl, ?hy25_13⟩) (by assumption) ?rest25_13
              case hy25_13 => (intro w hSw; (try dsimp only at hSw); go_split_ands; go_simp; try with_reducible rfl)
              try simp only [Act.put, List.setIfInBounds_toArray, List.set_cons_zero, List.set_cons_succ]
              refine wpAnyH_done (by kernel_rfl) ?_ _
              clear hm2 hm3 hm4 hHeld
              have HR9 := Lib.hid (HRd.out.box B2.out)
              go_wp2
              exact ⟨⟨0 + 1, by omega, rfl, HR9⟩, by simp [intOf]; omega⟩
            · obtain ⟨z', hz'⟩ : ∃ z', out[i - 1]? = some z' := ⟨_, List.getElem?_eq_getElem (by rw [HKO.out]; omega)⟩
              have y1 := HNU.out (i - 1) z' hz'
              obtain ⟨j', rfl, _, _, _, _⟩ := HTOOK.out.given z' (List.mem_of_getElem? hz')
              have hjj := HTOOK.out.rise (i - 1) j' j hz' (by rw [Nat.sub_add_cancel hpos]; exact HZ.out)
              have y01 := (BD.out.cell hgol).trans y1
              have SU0 := Lib.hid (⟨((B0.out).cell (World.block_lt_of_cell? wd _ y01)).trans y01, ST0.out⟩ : wd.drew.cell? ⟨go, i - 1, none⟩ = some (.int .i64 j') ∧ _)
              have SU2 := Lib.hid (⟨((B2.out).cell (World.block_lt_of_cell? wd _ y01)).trans y01, ST2.out⟩ : (wd.alloc (.cells Y 5)).drew.cell? ⟨go, i - 1, none⟩ = some (.int .i64 j') ∧ _)
              have hi1 : IntKind.i64.wrap ((i : Int) - 1) = (i : Int) - 1 := IntWalk.i64_in _ (by omega)
              have hi2 : (0 : Int) ≤ (i : Int) - 1 := by omega
              have hi3 : ((i : Int) - 1).toNat = i - 1 := by omega
              have hi4 : (i : Int) - 1 < (ko : Int) := by omega
              have hi5 : (0 : Int) < (i : Int) := by omega
              have hi7 : (1 : Int) ≤ (i : Int) := by omega
              have hi6 : ¬ ((j : Int) ≤ (j' : Int)) := by omega
              clear hz' y1 y01 hjj
              have hm2 := hcvd wd
              have hm3 := hcvm wd
              have hm4 := hcvm wd.drew
              clear hcvd hcvm
              refine wp_region_held_drew (S := (fun w' => w'.cell? ⟨go, i - 1, none⟩ = some (.int .i64 j') ∧ w'.cell? ⟨go, i, none⟩ = some (.int .i64 j) ∧ (convert 36 9 (.slice Ab 64 cb)).run Try.prog w' = .ok (.string S0) w' ∧ Below wd.heap.size wd w')) (by kernel_rfl) (SU0.out) (fun hHeld => ?_)
              refine wpAnyH_take (i := 0) (oi := { dst := some 172, op := Op.move (Operand.tmp 26), type := 24, pos := "outright.go:49", after := #[], guard := none }) (v := ?_) rfl (by kernel_rfl) (by kernel_rfl) (by kernel_rfl) (fun _ _ _ h => h) (Or.inl ⟨by rfl, ?hy0_14⟩) (by assumption) ?rest0_14
              case hy0_14 => (intro w hSw; (try dsimp only at hSw); go_split_ands; go_simp; try with_reducible rfl)
              try simp only [Act.put, List.setIfInBounds_toArray, List.set_cons_zero, List.set_cons_succ]
              refine wpAnyH_ready (rs := [1]) (by kernel_rfl) (by simp) ?_
              refine AllReadyH.cons (o := { dst := some 173, op := Op.call { callee := Callee.value (Operand.func 8), args := #[Operand.tmp 172], argTypes := #[24] }, type := 3, pos := "outright.go:49", after := #[{ on := 0, ground := Ground.data }], guard := none }) rfl (fun K hK => ?_) AllReadyH.nil
              go_simp; (go_at_call 8; (with_reducible refine (HNUM.out _ _).mono ?_); rintro e w1 ⟨rfl, rfl⟩)
              refine hK.out _ _ (SU0.out) (fun hHeld2 => ?_)
              clear hK K hHeld
              have hHeld := hHeld2
              clear hHeld2
              try simp only [Act.put, List.setIfInBounds_toArray, List.set_cons_zero, List.set_cons_succ]
              refine wpAnyH_take (i := 2) (oi := { dst := some 174, op := Op.binOp BinOp.neq 3 (Operand.tmp 173) (Operand.const (Value.int IntKind.i64 0)) 3, type := 4, pos := "outright.go:49", after := #[{ on := 1, ground := Ground.data }], guard := none }) (v := ?_) rfl (by kernel_rfl) (by kernel_rfl) (by kernel_rfl) (fun _ _ _ h => h) (Or.inl ⟨by rfl, ?hy2_15⟩) (by assumption) ?rest2_15
              case hy2_15 => (intro w hSw; (try dsimp only at hSw); go_split_ands; go_simp; try with_reducible rfl)
              try simp only [Act.put, List.setIfInBounds_toArray, List.set_cons_zero, List.set_cons_succ]
              refine wpAnyH_take (i := 3) (oi := { dst := some 175, op := Op.move (Operand.tmp 174), type := 4, pos := "outright.go:49", after := #[{ on := 2, ground := Ground.data }, { on := 1, ground := Ground.chain }], guard := none }) (v := ?_) rfl (by kernel_rfl) (by kernel_rfl) (by kernel_rfl) (fun _ _ _ h => h) (Or.inl ⟨by rfl, ?hy3_16⟩) (by assumption) ?rest3_16
              case hy3_16 => (intro w hSw; (try dsimp only at hSw); go_split_ands; go_simp; try with_reducible rfl)
              try simp only [Act.put, List.setIfInBounds_toArray, List.set_cons_zero, List.set_cons_succ]
              refine wpAnyH_take (i := 4) (oi := { dst := some 176, op := Op.move (Operand.tmp 25), type := 36, pos := "outright.go:49", after := #[{ on := 3, ground := Ground.guard }], guard := some (3, false) }) (v := ?_) rfl (by kernel_rfl) (by kernel_rfl) (by kernel_rfl) (fun _ _ _ h => h) (Or.inl ⟨by rfl, ?hy4_17⟩) (by assumption) ?rest4_17
              case hy4_17 => (intro w hSw; (try dsimp only at hSw); go_split_ands; go_simp; try with_reducible rfl)
              try simp only [Act.put, List.setIfInBounds_toArray, List.set_cons_zero, List.set_cons_succ]
              refine wpAnyH_take (i := 5) (oi := { dst := some 177, op := Op.convert 36 9 (Operand.tmp 176), type := 9, pos := "outright.go:49", after := #[{ on := 4, ground := Ground.data }, { on := 3, ground := Ground.guard }], guard := some (3, false) }) (v := ?_) rfl (by kernel_rfl) (by kernel_rfl) (by kernel_rfl) (fun _ _ _ h => h) (Or.inl ⟨by rfl, ?hy5_18⟩) (by assumption) ?rest5_18
              case hy5_18 => (intro w hSw; (try dsimp only at hSw); go_split_ands; go_simp; try with_reducible rfl)
              try simp only [Act.put, List.setIfInBounds_toArray, List.set_cons_zero, List.set_cons_succ]
              refine wpAnyH_ready (rs := [6]) (by kernel_rfl) (by simp) ?_
              refine AllReadyH.cons (o := { dst := some 178, op := Op.makeSlice 36 (Operand.const (Value.int IntKind.i64 64)) (Operand.const (Value.int IntKind.i64 64)), type := 36, pos := "outright.go:49", after := #[{ on := 3, ground := Ground.guard }], guard := some (3, false) }) rfl (fun K hK => ?_) AllReadyH.nil
              go_simp
              refine hK.out _ _ (SU2.out) (fun hHeld2 => ?_)
              clear hK K hHeld
              have hHeld := hHeld2
              clear hHeld2
              try simp only [Act.put, List.setIfInBounds_toArray, List.set_cons_zero, List.set_cons_succ]
              refine wpAnyH_ready (rs := [7]) (by kernel_rfl) (by simp) ?_
              refine AllReadyH.cons (o := { dst := some 179, op := Op.convert 36 9 (Operand.tmp 178), type := 9, pos := "outright.go:49", after := #[{ on := 6, ground := Ground.data }, { on := 3, ground := Ground.guard }], guard := some (3, false) }) rfl (fun K hK => ?_) AllReadyH.nil
              go_simp
              refine hK.out _ _ (SU2.out) (fun hHeld2 => ?_)
              clear hK K hHeld
              have hHeld := hHeld2
              clear hHeld2
              try simp only [Act.put, List.setIfInBounds_toArray, List.set_cons_zero, List.set_cons_succ]
              refine wpAnyH_take (i := 8) (oi := { dst := some 180, op := Op.binOp BinOp.neq 9 (Operand.tmp 177) (Operand.tmp 179) 9, type := 4, pos := "outright.go:49", after := #[{ on := 5, ground := Ground.data }, { on := 7, ground := Ground.data }, { on := 3, ground := Ground.guard }], guard := some (3, false) }) (v := ?_) rfl (by kernel_rfl) (by kernel_rfl) (by kernel_rfl) (fun _ _ _ h => h) (Or.inl ⟨by rfl, ?hy8_19⟩) (by assumption) ?rest8_19
              case hy8_19 => (intro w hSw; (try dsimp only at hSw); go_split_ands; go_simp; try with_reducible rfl)
              try simp only [Act.put, List.setIfInBounds_toArray, List.set_cons_zero, List.set_cons_succ]
              refine wpAnyH_take (i := 9) (oi := { dst := some 181, op := Op.pick (Operand.tmp 175) (Operand.const (Value.bool true)) (Operand.tmp 180), type := 4, pos := "outright.go:49", after := #[{ on := 3, ground := Ground.data }, { on := 8, ground := Ground.data }], guard := none }) (v := ?_) rfl (by kernel_rfl) (by kernel_rfl) (by kernel_rfl) (fun _ _ _ h => h) (Or.inl ⟨by rfl, ?hy9_20⟩) (by assumption) ?rest9_20
              case hy9_20 => (intro w hSw; (try dsimp only at hSw); go_split_ands; go_simp; try with_reducible rfl)
              try simp only [Act.put, List.setIfInBounds_toArray, List.set_cons_zero, List.set_cons_succ]
              refine wpAnyH_take (i := 10) (oi := { dst := some 182, op := Op.move (Operand.tmp 181), type := 4, pos := "outright.go:49", after := #[{ on := 9, ground := Ground.data }, { on := 3, ground := Ground.chain }], guard := none }) (v := ?_) rfl (by kernel_rfl) (by kernel_rfl) (by kernel_rfl) (fun _ _ _ h => h) (Or.inl ⟨by rfl, ?hy10_21⟩) (by assumption) ?rest10_21
              case hy10_21 => (intro w hSw; (try dsimp only at hSw); go_split_ands; go_simp; try with_reducible rfl)
              try simp only [Act.put, List.setIfInBounds_toArray, List.set_cons_zero, List.set_cons_succ]
              refine wpAnyH_take (i := 11) (oi := { dst := some 183, op := Op.move (Operand.tmp 24), type := 3, pos := "outright.go:49", after := #[{ on := 10, ground := Ground.guard }], guard := some (10, false) }) (v := ?_) rfl (by kernel_rfl) (by kernel_rfl) (by kernel_rfl) (fun _ _ _ h => h) (Or.inl ⟨by rfl, ?hy11_22⟩) (by assumption) ?rest11_22
              case hy11_22 => (intro w hSw; (try dsimp only at hSw); go_split_ands; go_simp; try with_reducible rfl)
              try simp only [Act.put, List.setIfInBounds_toArray, List.set_cons_zero, List.set_cons_succ]
              refine wpAnyH_take (i := 12) (oi := { dst := some 184, op := Op.binOp BinOp.gtr 3 (Operand.tmp 183) (Operand.const (Value.int IntKind.i64 0)) 3, type := 4, pos := "outright.go:49", after := #[{ on := 11, ground := Ground.data }, { on := 10, ground := Ground.guard }], guard := some (10, false) }) (v := ?_) rfl (by kernel_rfl) (by kernel_rfl) (by kernel_rfl) (fun _ _ _ h => h) (Or.inl ⟨by rfl, ?hy12_23⟩) (by assumption) ?rest12_23
              case hy12_23 => (intro w hSw; (try dsimp only at hSw); go_split_ands; go_simp; try with_reducible rfl)
              try simp only [Act.put, List.setIfInBounds_toArray, List.set_cons_zero, List.set_cons_succ]
              refine wpAnyH_take (i := 13) (oi := { dst := some 185, op := Op.move (Operand.tmp 184), type := 4, pos := "outright.go:49", after := #[{ on := 12, ground := Ground.data }, { on := 10, ground := Ground.chain }, { on := 10, ground := Ground.guard }], guard := some (10, false) }) (v := ?_) rfl (by kernel_rfl) (by kernel_rfl) (by kernel_rfl) (fun _ _ _ h => h) (Or.inl ⟨by rfl, ?hy13_24⟩) (by assumption) ?rest13_24
              case hy13_24 => (intro w hSw; (try dsimp only at hSw); go_split_ands; go_simp; try with_reducible rfl)
              try simp only [Act.put, List.setIfInBounds_toArray, List.set_cons_zero, List.set_cons_succ]
              refine wpAnyH_take (i := 14) (oi := { dst := some 186, op := Op.move (Operand.tmp 22), type := 29, pos := "outright.go:49", after := #[{ on := 13, ground := Ground.guard }], guard := some (13, true) }) (v := ?_) rfl (by kernel_rfl) (by kernel_rfl) (by kernel_rfl) (fun _ _ _ h => h) (Or.inl ⟨by rfl, ?hy14_25⟩) (by assumption) ?rest14_25
              case hy14_25 => (intro w hSw; (try dsimp only at hSw); go_split_ands; go_simp; try with_reducible rfl)
              try simp only [Act.put, List.setIfInBounds_toArray, List.set_cons_zero, List.set_cons_succ]
              refine wpAnyH_take (i := 15) (oi := { dst := some 187, op := Op.move (Operand.tmp 24), type := 3, pos := "outright.go:49", after := #[{ on := 13, ground := Ground.guard }], guard := some (13, true) }) (v := ?_) rfl (by kernel_rfl) (by kernel_rfl) (by kernel_rfl) (fun _ _ _ h => h) (Or.inl ⟨by rfl, ?hy15_26⟩) (by assumption) ?rest15_26
              case hy15_26 => (intro w hSw; (try dsimp only at hSw); go_split_ands; go_simp; try with_reducible rfl)
              try simp only [Act.put, List.setIfInBounds_toArray, List.set_cons_zero, List.set_cons_succ]
              refine wpAnyH_take (i := 16) (oi := { dst := some 188, op := Op.binOp BinOp.sub 3 (Operand.tmp 187) (Operand.const (Value.int IntKind.i64 1)) 3, type := 3, pos := "outright.go:49", after := #[{ on := 15, ground := Ground.data }, { on := 13, ground := Ground.guard }], guard := some (13, true) }) (v := ?_) rfl (by kernel_rfl) (by kernel_rfl) (by kernel_rfl) (fun _ _ _ h => h) (Or.inl ⟨by rfl, ?hy16_27⟩) (by assumption) ?rest16_27
              case hy16_27 => (intro w hSw; (try dsimp only at hSw); go_split_ands; go_simp; try with_reducible rfl)
              try simp only [Act.put, List.setIfInBounds_toArray, List.set_cons_zero, List.set_cons_succ]
              refine wpAnyH_take (i := 17) (oi := { dst := some 189, op := Op.indexAddr 29 (Operand.tmp 186) (Operand.tmp 188), type := 0, pos := "outright.go:49", after := #[{ on := 14, ground := Ground.data }, { on := 16, ground := Ground.data }, { on := 13, ground := Ground.guard }], guard := some (13, true) }) (v := ?_) rfl (by kernel_rfl) (by kernel_rfl) (by kernel_rfl) (fun _ _ _ h => h) (Or.inl ⟨by rfl, ?hy17_28⟩) (by assumption) ?rest17_28
              case hy17_28 => (intro w hSw; (try dsimp only at hSw); go_split_ands; go_simp; try with_reducible rfl)
              try simp only [Act.put, List.setIfInBounds_toArray, List.set_cons_zero, List.set_cons_succ]
              refine wpAnyH_take (i := 18) (oi := { dst := some 190, op := Op.load 3 (Operand.tmp 189), type := 3, pos := "outright.go:49", after := #[{ on := 17, ground := Ground.data }, { on := 13, ground := Ground.guard }], guard := some (13, true) }) (v := ?_) rfl (by kernel_rfl) (by kernel_rfl) (by kernel_rfl) (fun _ _ _ h => h) (Or.inl ⟨by rfl, ?hy18_29⟩) (by assumption) ?rest18_29
              case hy18_29 => (intro w hSw; (try dsimp only at hSw); go_split_ands; go_simp; try with_reducible rfl)
              try simp only [Act.put, List.setIfInBounds_toArray, List.set_cons_zero, List.set_cons_succ]
              refine wpAnyH_take (i := 19) (oi := { dst := some 191, op := Op.move (Operand.tmp 22), type := 29, pos := "outright.go:49", after := #[{ on := 13, ground := Ground.guard }], guard := some (13, true) }) (v := ?_) rfl (by kernel_rfl) (by kernel_rfl) (by kernel_rfl) (fun _ _ _ h => h) (Or.inl ⟨by rfl, ?hy19_30⟩) (by assumption) ?rest19_30
              case hy19_30 => (intro w hSw; (try dsimp only at hSw); go_split_ands; go_simp; try with_reducible rfl)
              try simp only [Act.put, List.setIfInBounds_toArray, List.set_cons_zero, List.set_cons_succ]
              refine wpAnyH_take (i := 20) (oi := { dst := some 192, op := Op.move (Operand.tmp 24), type := 3, pos := "outright.go:49", after := #[{ on := 13, ground := Ground.guard }], guard := some (13, true) }) (v := ?_) rfl (by kernel_rfl) (by kernel_rfl) (by kernel_rfl) (fun _ _ _ h => h) (Or.inl ⟨by rfl, ?hy20_31⟩) (by assumption) ?rest20_31
              case hy20_31 => (intro w hSw; (try dsimp only at hSw); go_split_ands; go_simp; try with_reducible rfl)
              try simp only [Act.put, List.setIfInBounds_toArray, List.set_cons_zero, List.set_cons_succ]
              refine wpAnyH_take (i := 21) (oi := { dst := some 193, op := Op.indexAddr 29 (Operand.tmp 191) (Operand.tmp 192), type := 0, pos := "outright.go:49", after := #[{ on := 19, ground := Ground.data }, { on := 20, ground := Ground.data }, { on := 13, ground := Ground.guard }], guard := some (13, true) }) (v := ?_) rfl (by kernel_rfl) (by kernel_rfl) (by kernel_rfl) (fun _ _ _ h => h) (Or.inl ⟨by rfl, ?hy21_32⟩) (by assumption) ?rest21_32
              case hy21_32 => (intro w hSw; (try dsimp only at hSw); go_split_ands; go_simp; try with_reducible rfl)
              try simp only [Act.put, List.setIfInBounds_toArray, List.set_cons_zero, List.set_cons_succ]
              refine wpAnyH_take (i := 22) (oi := { dst := some 194, op := Op.load 3 (Operand.tmp 193), type := 3, pos := "outright.go:49", after := #[{ on := 21, ground := Ground.data }, { on := 13, ground := Ground.guard }], guard := some (13, true) }) (v := ?_) rfl (by kernel_rfl) (by kernel_rfl) (by kernel_rfl) (fun _ _ _ h => h) (Or.inl ⟨by rfl, ?hy22_33⟩) (by assumption) ?rest22_33
              case hy22_33 => (intro w hSw; (try dsimp only at hSw); go_split_ands; go_simp; try with_reducible rfl)
              try simp only [Act.put, List.setIfInBounds_toArray, List.set_cons_zero, List.set_cons_succ]
              refine wpAnyH_take (i := 23) (oi := { dst := some 195, op := Op.binOp BinOp.geq 3 (Operand.tmp 190) (Operand.tmp 194) 3, type := 4, pos := "outright.go:49", after := #[{ on := 18, ground := Ground.data }, { on := 22, ground := Ground.data }, { on := 13, ground := Ground.guard }], guard := some (13, true) }) (v := ?_) rfl (by kernel_rfl) (by kernel_rfl) (by kernel_rfl) (fun _ _ _ h => h) (Or.inl ⟨by rfl, ?hy23_34⟩) (by assumption) ?rest23_34
              case hy23_34 => (intro w hSw; (try dsimp only at hSw); go_split_ands; go_simp; try with_reducible rfl)
              try simp only [Act.put, List.setIfInBounds_toArray, List.set_cons_zero, List.set_cons_succ]
              refine wpAnyH_take (i := 24) (oi := { dst := some 196, op := Op.pick (Operand.tmp 185) (Operand.tmp 195) (Operand.const (Value.bool false)), type := 4, pos := "outright.go:49", after := #[{ on := 13, ground := Ground.data }, { on := 23, ground := Ground.data }, { on := 10, ground := Ground.guard }], guard := some (10, false) }) (v := ?_) rfl (by kernel_rfl) (by kernel_rfl) (by kernel_rfl) (fun _ _ _ h => h) (Or.inl ⟨by rfl, ?hy24_35⟩) (by assumption) ?rest24_35
              case hy24_35 => (intro w hSw; (try dsimp only at hSw); go_split_ands; go_simp; try with_reducible rfl)
              try simp only [Act.put, List.setIfInBounds_toArray, List.set_cons_zero, List.set_cons_succ]
              refine wpAnyH_take (i := 25) (oi := { dst := some 197, op := Op.pick (Operand.tmp 182) (Operand.const (Value.bool true)) (Operand.tmp 196), type := 4, pos := "outright.go:49", after := #[{ on := 10, ground := Ground.data }, { on := 24, ground := Ground.data }], guard := none }) (v := ?_) rfl (by kernel_rfl) (by kernel_rfl) (by kernel_rfl) (fun _ _ _ h => h) (Or.inl ⟨by rfl, ?hy25_36⟩) (by assumption) ?rest25_36
              case hy25_36 => (intro w hSw; (try dsimp only at hSw); go_split_ands; go_simp; try with_reducible rfl)
              try simp only [Act.put, List.setIfInBounds_toArray, List.set_cons_zero, List.set_cons_succ]
              refine wpAnyH_done (by kernel_rfl) ?_ _
              clear hm2 hm3 hm4 hHeld
              have HR9 := Lib.hid (HRd.out.box B2.out)
              go_wp2
              exact ⟨⟨i + 1, by omega, by simp, HR9⟩, by simp [intOf]; omega⟩
          · have : ko = i := by omega
            subst this
            clear hcvm hcvd
            clear hi hlt
            go_wp2_with fail
            go_loopw [27] (fun v27 w9 => ∃ i : Nat, i ≤ m ∧ v27 = .int .i64 i ∧ Hid (Rst w p a t n m (.slice Al m dl) g' f' (.slice A k c) k gone (.slice Ao ko co) ko out w9)) (fun v27 _ => m - (intOf v27).toNat)
            case atStart => exact ⟨0, Nat.zero_le _, rfl, HR⟩
            case round =>
              clear HR
              obtain ⟨i, hi, rfl, HR⟩ := hrel
              by_cases hlt : i < m
              · obtain ⟨gl, rfl, hmd, hdm, _⟩ := row_num HR.out.own (by omega)
                have hlen : gone.length = k := by have := HR.out.list.1; simpa using this
                have HLEN := Lib.hid hlen
                clear hlen
                go_wp2_with fail
                go_loopw [28, 29] (fun v28 v29 w9 => ∃ (q : Nat) (b : Bool), q ≤ k ∧ v28 = .bool b ∧ v29 = .int .i64 q ∧ Hid (b = true ↔ (i : Int) ∉ gone.take q) ∧ Hid (Rst w p a t n m (.slice (some ⟨gl, 0, none⟩) m dl) g' f' (.slice A k c) k gone (.slice Ao ko co) ko out w9)) (fun _ v29 _ => k - (intOf v29).toNat)
                case atStart => exact ⟨0, true, Nat.zero_le _, rfl, rfl, old_start _ _, HR⟩
                case round =>
                  clear HR
                  obtain ⟨q, b, hq, rfl, rfl, HB, HR⟩ := hrel
                  by_cases hqk : q < k
                  · obtain ⟨z, hz⟩ : ∃ z, gone[q]? = some z := ⟨_, List.getElem?_eq_getElem (by rw [HLEN.out]; exact hqk)⟩
                    obtain ⟨gg, rfl, hkc, hcm, hnum⟩ := row_num HR.out.list (by omega)
                    have y0 := hnum q z hz
                    have htk : gone.take (q + 1) = gone.take q ++ [z] := by rw [List.take_add_one, hz]; rfl
                    have HTK := Lib.hid htk
                    obtain ⟨gl', e, _, _, hnuml⟩ := row_num HR.out.own (by omega)
                    obtain rfl : gl = gl' := by simpa using e
                    have y1 := hnuml i i (by rw [ints_at hlt, Nat.zero_add])
                    clear hnum hnuml htk hz e
                    cases b
                    · go_wp2_with fail
                      go_quiet (fail)
                      have HR9 := Lib.hid (HR.out.box (below_drewN _ nq))
                      go_wp2_with fail
                      exact ⟨⟨q + 1, false, by omega, rfl, by simp, old_off HTK.out HB.out, HR9⟩, by simp [intOf]; omega⟩
                    · by_cases hzi : z = (i : Int)
                      · subst hzi
                        go_wp2_with fail
                        go_quiet (fail)
                        have HR9 := Lib.hid (HR.out.box (below_drewN _ nq))
                        go_wp2_with fail
                        exact ⟨⟨q + 1, false, by omega, rfl, by simp, old_hit HTK.out, HR9⟩, by simp [intOf]; omega⟩
                      · have hzi2 : (z != (i : Int)) = true := bne_iff_ne.2 hzi
                        go_wp2_with fail
                        go_quiet (fail)
                        have HR9 := Lib.hid (HR.out.box (below_drewN _ nq))
                        go_wp2_with fail
                        exact ⟨⟨q + 1, true, by omega, rfl, by simp, old_on HTK.out hzi (by have := HB.out; simpa using this), HR9⟩, by simp [intOf]; omega⟩
                  · have : k = q := by omega
                    subst this
                    have htk : gone.take k = gone := List.take_of_length_le (by rw [HLEN.out]; exact Nat.le_refl _)
                    rw [htk] at HB
                    clear htk hq hqk
                    have hw8 : IntKind.u8.wrap (i : Int) = (i : Int) := IntWalk.u8_in _ (by omega)
                    obtain ⟨gl', e, _, _, hnuml⟩ := row_num HR.out.own (by omega)
                    obtain rfl : gl = gl' := by simpa using e
                    have y1 := hnuml i i (by rw [ints_at hlt, Nat.zero_add])
                    have hgl := World.block_lt_of_cell? wr _ y1
                    clear hnuml e
                    cases b
                    · have HRD : Hid (Calls Try.prog 16 #[.pointer (some ⟨p, 0, none⟩), .int .i64 i, .int .i64 0, .int .i64 64] wr fun e w' => ∃ A L c z, e = .returned (.tuple #[.slice A L c, .int .i64 z]) ∧ Below wr.heap.size wr w') := by
                        cases hg' : g' i
                        · refine (read_off wr p a t n _ _ i 0 64 HR.out.at' (by rw [isB_onF (by omega)]; exact hg')).mono ?_
                          rintro e w' ⟨rfl, rfl⟩
                          exact ⟨_, _, _, _, rfl, Below.refl _ _⟩
                        · refine (HR.out.read (by omega) hg').mono ?_
                          rintro e w' ⟨A, c', h1, _, h3⟩
                          exact ⟨_, _, _, _, h1, h3⟩
                      go_upto_region 43 with (go_at_call 16; (with_reducible refine HRD.out.mono ?_); rintro e wd ⟨Ab, Lb, cb, zb, rfl, bd⟩; have HRd := Lib.hid (HR.out.box bd); have y2 := (bd.cell hgl).trans y1; clear bd)
                      go_quiet (fail)
                      have HR9 := Lib.hid (HRd.out.box (below_drewN _ nq))
                      go_wp2_with fail
                      exact ⟨⟨i + 1, by omega, by simp, HR9⟩, by simp [intOf]; omega⟩
                    · have hgi : g i = true := (HLOW.out i hlt).2 (by have := HB.out; simpa using this)
                      obtain ⟨hg', hf'⟩ := HTOOK.out.rest i hgi
                      have HRD := Lib.hid (HR.out.read (show i < n by omega) hg')
                      rw [hf', HFF.out i, if_pos hlt] at HRD
                      clear hgi hg' hf'
                      go_upto_region 43 with (go_at_call 16; (with_reducible refine HRD.out.mono ?_); rintro e wd ⟨Ab, cb, rfl, ob, bd⟩; have OB := Lib.hid ob; have HRd := Lib.hid (HR.out.box bd); have y2 := (bd.cell hgl).trans y1; clear ob bd)
                      obtain ⟨gb, cb', cu, e, _, hcb1, hcb2, _, _, hcell⟩ := own_form OB.out (by decide)
                      obtain ⟨rfl, rfl⟩ : Ab = some ⟨gb, 0, none⟩ ∧ cb = cb' := by simpa using e
                      unfold maxLen at hcb2
                      have k0 : wd.cell? ⟨gb, 0, none⟩ = some (.int .u8 (bits BinOp.xor IntKind.u8 x (i : Int))) := hcell 0 _ rfl
                      have k63 : wd.cell? ⟨gb, 63, none⟩ = some (.int .u8 (bits BinOp.xor IntKind.u8 x (i : Int))) := hcell 63 _ rfl
                      clear hcell e
                      go_quiet ((go_at_call 8; exact num_quiet _ _ _))
                      have HR9 := Lib.hid (HRd.out.box (below_drewN _ nq))
                      go_wp2_with fail
                      exact ⟨⟨i + 1, by omega, by simp, HR9⟩, by simp [intOf]; omega⟩
              · have : m = i := by omega
                subst this
                obtain ⟨U, hU⟩ : ∃ U : Nat, (n : Int) - (T : Int) = (U : Int) := ⟨n - T, by omega⟩
                have hU256 : U ≤ 256 := by omega
                have HFR3 := HFN.out wr HR.out.at'
                rw [hU] at HFR3
                have HTM : Hid (∀ w', At w' p a t n (onF n g') (flat n f') → Calls Try.prog 10 #[.pointer (some ⟨p, 0, none⟩), .int .i64 ((U : Int) + 1)] w' fun e w2 => e = .returned (.tuple #[.slice none 0 0, .int .i64 8]) ∧ Below w'.heap.size w' w2) := fun w' h' => by
                  have e1 : freeN (onF n g') n = (U : Int) := by unfold freeN; rw [HTT.out, hU]
                  exact take_many w' p a t n _ _ ((U : Int) + 1) h' (by rw [e1]; omega) (by rw [e1]; omega)
                have HFR4 := Lib.hid HFR3
                clear hU HFR3 HFN hsum2
                go_wp2_with (first | (go_at_call 20; (with_reducible refine HFR4.out.mono ?_); rintro e w8 ⟨rfl, b8⟩; have HR8 := Lib.hid (HR.out.box b8); clear b8) | (go_at_call 10; (with_reducible refine (HTM.out _ HR8.out.at').mono ?_); rintro e w9 ⟨rfl, b9⟩; have HR9 := Lib.hid (HR8.out.box b9); clear b9) | (go_at_call 8; (with_reducible refine (HNUM.out _ _).mono ?_); rintro e w2 ⟨rfl, rfl⟩))
                go_ret
                exact ⟨rfl, HR9.out.below⟩
end Go.Proofs.Ytbhpikagjcojbaa.Ar

/- DomainFresh: the two lists, and the places. -/
import Derived.Test.YtepjhdppmegloaaKeep
import Derived.Test.YtepjhdppmegloaaMark
namespace Go.Proofs.Ytepjhdppmegloaa.Caps
open Go.RowKit Go.Proofs.Ytepjhdppmegloaa.Mem
theorem info3 : (Try.prog.info? 3).map (fun i => (i.zero, i.size, i.bytes)) = some (some (.int .i64 0), 1, 8) := by kernel_rfl
/-- The list that is added to, and the one that stays empty. -/
def Adds (w : World) (l : List Cap) (wr : World) : Prop :=
  One 58 (fun b => b < w.heap.size ∨ b = w.heap.size + 1) wr w.heap.size 32 l ∧ wr.heap[w.heap.size + 1]? = some (rowL 58 32) ∧ Below w.heap.size w wr
section
variable {w wr w' : World} {l m : List Cap}
theorem Adds.below (h : Adds w l wr) (hb : Below wr.heap.size wr w') : Adds w l w' := ⟨h.1.below hb, (hb.block _ (lt_of_row h.2.1)).trans h.2.1, h.2.2.trans (hb.mono h.2.2.size)⟩
theorem adds_add (h : Adds w l wr) (x : Cap) (hl : l.length < 32) : Calls Try.prog 11 #[.pointer (some ⟨w.heap.size, 0, none⟩), capV x] wr fun e w' => e = .returned (.int .i64 0) ∧ Adds w (l ++ [x]) w' :=
  (one_add_yes h.1 x (by omega) (by omega)).mono fun _ _ ⟨he, ho, ha⟩ => ⟨he, ho, ha.row h.2.1 (.inr rfl), h.2.2.trans (ha.below (fun _ hk => .inl hk) h.2.2.size)⟩
theorem adds_len (h : Adds w l wr) : Calls Try.prog 13 #[.pointer (some ⟨w.heap.size, 0, none⟩)] wr fun e w' => e = .returned (.int .i64 l.length) ∧ wr = w' := one_len h.1
theorem adds_start (b : Below ((w.alloc (rowL 58 32)).alloc (rowL 58 32)).heap.size ((w.alloc (rowL 58 32)).alloc (rowL 58 32)) w') : Adds w [] w' := by
  have h0 : ((w.alloc (rowL 58 32)).alloc (rowL 58 32)).heap[w.heap.size]? = some (rowL 58 32) := no_keeps (heap_alloc_new w _) ((Kept.refl _ _).alloc _)
  have h1 : ((w.alloc (rowL 58 32)).alloc (rowL 58 32)).heap[w.heap.size + 1]? = some (rowL 58 32) := by simpa using heap_alloc_new (w.alloc (rowL 58 32)) (rowL 58 32)
  have hs : ((w.alloc (rowL 58 32)).alloc (rowL 58 32)).heap.size = w.heap.size + 2 := by simp
  refine Adds.below (wr := (w.alloc (rowL 58 32)).alloc (rowL 58 32)) ⟨(one_fresh h0).more (fun k hk => .inl ?_) (fun k hk => ?_), h1, ((Below.refl _ w).alloc (Nat.le_refl _) _).alloc (by simp) _⟩ b
  · rw [hs]; omega
  · rw [hs]; omega
/-- Both lists and the places that are handed in, with the room behind them; nothing elder has changed. -/
structure Base (w : World) (m : List Cap) (zs : List Int) (g c : Nat) (wr : World) : Prop where
  d : One 58 (fun b => b = g) wr w.heap.size 32 m
  o : wr.heap[w.heap.size + 1]? = some (rowL 58 32)
  room : wr.ownsRow 0 3 1 (.slice (some ⟨g, 0, none⟩) (zs.length + 3) c) (zs.length + 3) ((zs ++ [901, 902, 903]).map (Value.int .i64))
  elder : Below w.heap.size w wr
  far : w.heap.size + 1 < g
theorem Base.below {zs : List Int} {g c : Nat} (h : Base w m zs g c wr) (hb : Below wr.heap.size wr w') : Base w m zs g c w' :=
  ⟨h.d.below hb, (hb.block _ (lt_of_row h.o)).trans h.o, own_keeps h.room (Kept.of_below hb), h.elder.trans (hb.mono h.elder.size), h.far⟩
theorem base_start {W3 : World} {zs : List Int} {g c : Nat} (h : Adds w m W3) (hb : Below W3.heap.size W3 wr) (hr : wr.ownsRow 0 3 1 (.slice (some ⟨g, 0, none⟩) (zs.length + 3) c) (zs.length + 3) ((zs ++ [901, 902, 903]).map (Value.int .i64))) (hg : W3.heap.size ≤ g) : Base w m zs g c wr :=
  ⟨h.1.widen hb (fun k hk => ⟨.inr (by omega), by rw [hk]; exact own_lt hr g rfl⟩), (hb.block _ (lt_of_row h.2.1)).trans h.2.1, hr, h.2.2.trans (hb.mono h.2.2.size), Nat.lt_of_lt_of_le (lt_of_row h.2.1) hg⟩
theorem Base.cells {zs : List Int} {g c : Nat} (h : Base w m zs g c wr) : zs.length + 3 ≤ c ∧ c ≤ maxLen ∧ g < wr.heap.size ∧ (∀ (j : Nat) z, zs[j]? = some z → wr.cell? ⟨g, j, none⟩ = some (.int .i64 z)) ∧ wr.cell? ⟨g, zs.length, none⟩ = some (.int .i64 901) ∧ wr.cell? ⟨g, zs.length + 1, none⟩ = some (.int .i64 902) ∧ wr.cell? ⟨g, zs.length + 2, none⟩ = some (.int .i64 903) := by
  obtain ⟨g', c', cur, e, hg, hc, hcm, _, _, hcell⟩ := own_form h.room (by omega)
  obtain ⟨rfl, rfl⟩ : g = g' ∧ c = c' := by simpa using e
  have f : ∀ (j : Nat) z, (zs ++ [901, 902, 903])[j]? = some z → wr.cell? ⟨g, j, none⟩ = some (.int .i64 z) := fun j z hz => hcell j _ (by rw [List.getElem?_map, hz]; rfl)
  refine ⟨hc, hcm, lt_of_row hg, fun j z hz => f j z ?_, f _ _ ?_, f _ _ ?_, f _ _ ?_⟩
  · rw [List.getElem?_append_left (List.getElem?_eq_some_iff.1 hz).1]; exact hz
  · simp
  · rw [List.getElem?_append_right (by omega)]; simp
  · rw [List.getElem?_append_right (by omega)]; simp
theorem Base.reads {zs : List Int} {g c n : Nat} (h : Base w m zs g c wr) (hn : zs.length = n) : ReadsInts wr (.slice (some ⟨g, 0, none⟩) n c) zs := by
  subst hn
  obtain ⟨h1, h2, _, h3, _⟩ := h.cells
  exact ⟨_, c, rfl, by omega, fun _ => ⟨g, 0, rfl, fun j u hu => by rw [Nat.zero_add]; exact h3 j u hu⟩⟩
/-- One place is written over. -/
theorem Base.store {zs : List Int} {g c : Nat} (h : Base w m zs g c wr) {i : Nat} (hi : i < zs.length) (y : Int) : Base w m (zs.set i y) g c (wr.setCell ⟨g, i, none⟩ (.int .i64 y)) := by
  have hk : Kept (fun b => b = g) wr (wr.setCell ⟨g, i, none⟩ (.int .i64 y)) := (Kept.refl (fun b => b = g) wr).setCell (.inl rfl) _
  have ha : Away (fun b => b ≠ g) wr (wr.setCell ⟨g, i, none⟩ (.int .i64 y)) := hk.mono (fun x hx hn => hn hx)
  have hfar := h.far
  refine ⟨h.d.kept (Y := fun b => b ≠ g) ha (fun k hk _ => hk), hk.row h.o (by omega), ?_, h.elder.trans (hk.below (fun k hk => by omega) h.elder.size), h.far⟩
  obtain ⟨hlen, ho⟩ := h.room
  rw [List.length_set]
  refine ⟨by simp, ?_⟩
  rcases ho with ⟨ho, _⟩ | ⟨g', c', cur, e, hb, hg, hnc, hcm, hcs, ht⟩
  · simp at ho
  · obtain ⟨rfl, rfl⟩ : g = g' ∧ c = c' := by simpa using e
    refine .inr ⟨g, c, _, rfl, hb, heap_setCell_same wr g i _ _ (.int .i64 y) hg, hnc, hcm, by simpa using hcs, ?_⟩
    rw [Array.toList_setIfInBounds, List.take_set, ht, ← List.set_append_left _ _ hi, List.map_set]
end

def sel {α : Type} (a b c d : α) : Nat → α
  | 0 => a
  | 1 => b
  | 2 => c
  | _ => d
theorem four_cases {k : Nat} (h : k < 4) : k = 0 ∨ k = 1 ∨ k = 2 ∨ k = 3 := by omega
/-- Four rows that were made one behind the other. -/
theorem four_rows {w0 wa wb wp wq wl : World} {va vb vp vq : Value} {n k : Nat} {x y : List Value} (oa : wa.ownsRow 0 37 3 va n x) (ba : Below w0.heap.size w0 wa) (fa : Fresh w0 va) (ob : wb.ownsRow 0 37 3 vb n x) (bb : Below wa.heap.size wa wb) (fb : Fresh wa vb)
    (op : wp.ownsRow 0 37 3 vp k y) (bp : Below wb.heap.size wb wp) (fp : Fresh wb vp) (oq : wq.ownsRow 0 37 3 vq k y) (bq : Below wp.heap.size wp wq) (fq : Fresh wp vq) (bl : Below wq.heap.size wq wl) :
    Mem.Rows 37 3 wl 4 (sel va vb vp vq) (sel n n k k) (sel x x y y) ∧ ∀ b, Touch 4 (sel va vb vp vq) b → w0.heap.size ≤ b ∧ b < wq.heap.size := by
  have r0 : ∀ b, va.ownBlock = some b → w0.heap.size ≤ b ∧ b < wa.heap.size := fun b hb => ⟨fa b hb, own_lt oa b hb⟩
  have r1 : ∀ b, vb.ownBlock = some b → wa.heap.size ≤ b ∧ b < wb.heap.size := fun b hb => ⟨fb b hb, own_lt ob b hb⟩
  have r2 : ∀ b, vp.ownBlock = some b → wb.heap.size ≤ b ∧ b < wp.heap.size := fun b hb => ⟨fp b hb, own_lt op b hb⟩
  have r3 : ∀ b, vq.ownBlock = some b → wp.heap.size ≤ b ∧ b < wq.heap.size := fun b hb => ⟨fq b hb, own_lt oq b hb⟩
  have s0 := ba.size
  have s1 := bb.size
  have s2 := bp.size
  have s3 := bq.size
  have kq : Below wq.heap.size wq wl := bl
  have kp : Below wp.heap.size wp wl := bq.trans (kq.mono s3)
  have kb : Below wb.heap.size wb wl := bp.trans (kp.mono s2)
  have ka : Below wa.heap.size wa wl := bb.trans (kb.mono s1)
  refine ⟨⟨fun j hj => ?_, fun i j b hi hj h1 h2 => ?_⟩, ?_⟩
  · rcases four_cases hj with rfl | rfl | rfl | rfl
    · exact own_keeps oa (Kept.of_below ka)
    · exact own_keeps ob (Kept.of_below kb)
    · exact own_keeps op (Kept.of_below kp)
    · exact own_keeps oq (Kept.of_below kq)
  · rcases four_cases hi with rfl | rfl | rfl | rfl <;> rcases four_cases hj with rfl | rfl | rfl | rfl
    all_goals first | rfl | skip
    all_goals simp only [sel] at h1 h2
    all_goals first | (have e1 := r0 b h1) | (have e1 := r1 b h1) | (have e1 := r2 b h1) | (have e1 := r3 b h1)
    all_goals first | (have e2 := r0 b h2) | (have e2 := r1 b h2) | (have e2 := r2 b h2) | (have e2 := r3 b h2)
    all_goals omega
  · rintro b ⟨j, hj, hb⟩
    rcases four_cases hj with rfl | rfl | rfl | rfl
    · have := r0 b hb; omega
    · have := r1 b hb; omega
    · have := r2 b hb; omega
    · have := r3 b hb; omega
theorem pickE_ok {m : List Cap} {zs : List Int} (h : ∀ z ∈ zs, hasB m z = true) (hl : zs.length ≤ 32) : pickE 32 m zs = 0 := by
  unfold pickE
  rw [if_pos (List.all_eq_true.2 h), if_neg (by omega)]
theorem len_none {w : World} {p : Nat} (h : w.heap[p]? = some (rowL 58 32)) : Calls Try.prog 13 #[.pointer (some ⟨p, 0, none⟩)] w fun e w' => e = .returned (.int .i64 0) ∧ w = w' := len_any (T := 58) w p 32 [] _ (listAt_new h)
theorem base_all {w wr : World} {m : List Cap} {zs : List Int} {g c n : Nat} (h : Base w m zs g c wr) (hn : m.length = n) (h32 : n ≤ 32) : Calls Try.prog 15 #[.pointer (some ⟨w.heap.size, 0, none⟩)] wr fun e w' => ∃ A c', e = .returned (.slice A n c') ∧ w'.ownsRow 0 37 3 (.slice A n c') n (capsC m) ∧ Below wr.heap.size wr w' ∧ Fresh wr (.slice A n c') := by
  subst hn
  refine (one_all h.d (by omega)).mono ?_
  rintro e w' ⟨v, rfl, h1, h2, h3⟩
  obtain ⟨A, c', rfl, _⟩ := own_slice h1
  exact ⟨A, c', rfl, h1, h2, h3⟩
theorem base_pick {w wr : World} {m : List Cap} {zs : List Int} {g c k : Nat} (h : Base w m zs g c wr) (hk : zs.length = k) (h32 : k ≤ 32) (hz : ∀ z ∈ zs, hasB m z = true) : Calls Try.prog 17 #[.pointer (some ⟨w.heap.size, 0, none⟩), .slice (some ⟨g, 0, none⟩) k c] wr fun e w' => ∃ A c', e = .returned (.tuple #[.slice A k c', .int .i64 0]) ∧ w'.ownsRow 0 37 3 (.slice A k c') k (capsC (picked m zs)) ∧ Below wr.heap.size wr w' ∧ Fresh wr (.slice A k c') := by
  refine (one_pick_yes h.d _ zs (h.reads hk) (by omega) (pickE_ok hz (by omega))).mono ?_
  rintro e w' ⟨v, rfl, h1, h2, h3⟩
  have e : (picked m zs).length = k := by unfold picked; rw [List.length_map, hk]
  rw [e] at h1
  obtain ⟨A, c', rfl, _⟩ := own_slice h1
  exact ⟨A, c', rfl, h1, h2, h3⟩
theorem same_own {wr : World} {u v : Value} {n : Nat} {l : List Cap} (hn : l.length = n) (hu : wr.ownsRow 0 37 3 u n (capsC l)) (hv : wr.ownsRow 0 37 3 v n (capsC l)) : Calls Try.prog 14 #[u, v] wr fun e w' => e = .returned (.bool true) ∧ Below wr.heap.size wr w' := by
  subst hn
  have := same_below wr u v l l (reads_of_own hu) (reads_of_own hv)
  rwa [sameB_self] at this
end Go.Proofs.Ytepjhdppmegloaa.Caps

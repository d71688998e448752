/- Under: a range with a way out. Own text; Ytkmmpagflbnenaa and the numbers between @..@ are the seat's. -/
import Derived.Test.YtkmmpagflbnenaaWaF
namespace Go.Proofs.Ytkmmpagflbnenaa.Kin
open Go.RowKit Go.Proofs.Ytkmmpagflbnenaa.Mem Go.Shelf
set_option linter.unusedVariables false
attribute [local go_sem] Oper.semAt_some
theorem kpM_b {M : World → Nat → Prop} {B : Nat} (hM : ∀ (W : World) (l g : Nat) (o' : Obj), B ≤ l → M (W.putObj l o') g → M W g) (W : World) (l : Nat) (o o' : Obj) (hl : B ≤ l) (h : W.heap[l]? = some o) (hc : o.isCells = false) (_ : o.isWalk = false) : KpM M W (W.putObj l o') :=
  ⟨by simp, fun g x hx hxc hm => ⟨(World.putObj_heap_other (fun e => by subst e; rw [h] at hx; cases hx; rw [hc] at hxc; cases hxc)).trans hx, fun e => hm (hM W l g o' hl e)⟩⟩
theorem run_loadVar_one {ty : TypeId} {w : World} {a : Addr} {v : Value} (hag : (isAgg ty).run Try.prog w = .ok false w) (hc : w.cell? a = some v) : (loadVar ty a).run Try.prog w = .ok v w := by
  simp [loadVar, Sem.run_bind, hag, go_sem, hc]
theorem results_box {fn : Func} {p : Tmp} {ty : TypeId} {w : World} {B : Nat} {v : Value} (h : fn.results = #[.cell p ty]) (tmps : Array Value) (hp : tmps.getD p undef = .pointer (some ⟨B, 0, none⟩)) (hag : (isAgg ty).run Try.prog w = .ok false w) (hc : w.cell? ⟨B, 0, none⟩ = some v) : (results fn tmps).run Try.prog w = .ok v w := by
  have h1 := run_loadVar_one hag hc
  simp only [results, h]
  have hp' : tmps[p]?.getD undef = .pointer (some ⟨B, 0, none⟩) := by simpa using hp
  simp [hp', asAddr, h1]
theorem results_box2 {fn : Func} {p q : Tmp} {ty uy : TypeId} {w : World} {B C : Nat} {v u : Value} (h : fn.results = #[.cell p ty, .cell q uy]) (tmps : Array Value) (hp : tmps.getD p undef = .pointer (some ⟨B, 0, none⟩)) (hq : tmps.getD q undef = .pointer (some ⟨C, 0, none⟩)) (hag : (isAgg ty).run Try.prog w = .ok false w) (hag2 : (isAgg uy).run Try.prog w = .ok false w) (hc : w.cell? ⟨B, 0, none⟩ = some v) (hd : w.cell? ⟨C, 0, none⟩ = some u) : (results fn tmps).run Try.prog w = .ok (.tuple #[v, u]) w := by
  have h1 := run_loadVar_one hag hc
  have h2 := run_loadVar_one hag2 hd
  simp only [results, h]
  have hp' : tmps[p]?.getD undef = .pointer (some ⟨B, 0, none⟩) := by simpa using hp
  have hq' : tmps[q]?.getD undef = .pointer (some ⟨C, 0, none⟩) := by simpa using hq
  simp [Sem.run_bind, hp', hq', asAddr, h1, h2, Result.andThen]
/-- An iterator over a closure over boxes. -/
structure Itr (w : World) (Bx gf b1 b2 p : Nat) (n : Int) : Prop where
  c0 : w.cell? ⟨Bx, 0, none⟩ = some (.func (.func gf) #[] #[.pointer (some ⟨b1, 0, none⟩), .pointer (some ⟨b2, 0, none⟩)])
  c1 : w.cell? ⟨b1, 0, none⟩ = some (.pointer (some ⟨p, 0, none⟩))
  c2 : w.cell? ⟨b2, 0, none⟩ = some (.int .i64 n)
theorem Itr.below {w w' : World} {Bx gf b1 b2 p : Nat} {n : Int} (h : Itr w Bx gf b1 b2 p n) (hb : Below w.heap.size w w') : Itr w' Bx gf b1 b2 p n := ⟨(hb.cell (World.block_lt_of_cell? w _ h.c0)).trans h.c0, (hb.cell (World.block_lt_of_cell? w _ h.c1)).trans h.c1, (hb.cell (World.block_lt_of_cell? w _ h.c2)).trans h.c2⟩
theorem itr_new (w : World) (gf p : Nat) (n : Int) : Below w.heap.size w (((w.alloc (.cells #[.pointer (some ⟨p, 0, none⟩)] 23)).alloc (.cells #[.int .i64 n] 3)).alloc (.cells #[.func (.func gf) #[] #[.pointer (some ⟨w.heap.size, 0, none⟩), .pointer (some ⟨w.heap.size + 1, 0, none⟩)]] 81)) ∧
    Itr (((w.alloc (.cells #[.pointer (some ⟨p, 0, none⟩)] 23)).alloc (.cells #[.int .i64 n] 3)).alloc (.cells #[.func (.func gf) #[] #[.pointer (some ⟨w.heap.size, 0, none⟩), .pointer (some ⟨w.heap.size + 1, 0, none⟩)]] 81)) (w.heap.size + 2) gf w.heap.size (w.heap.size + 1) p n := by
  have h1 := Boxed.new w 23 (.pointer (some ⟨p, 0, none⟩))
  have h2 := Boxed.new (w.alloc (.cells #[.pointer (some ⟨p, 0, none⟩)] 23)) 3 (.int .i64 n)
  have h3 := Boxed.new ((w.alloc (.cells #[.pointer (some ⟨p, 0, none⟩)] 23)).alloc (.cells #[.int .i64 n] 3)) 81 (.func (.func gf) #[] #[.pointer (some ⟨w.heap.size, 0, none⟩), .pointer (some ⟨w.heap.size + 1, 0, none⟩)])
  refine ⟨(((Below.refl _ w).alloc (Nat.le_refl _) _).alloc (by simp) _).alloc (by simp; omega) _, ⟨?_, ?_, ?_⟩⟩
  · have := h3.cell; simpa using this
  · exact ((h1.alloc _).alloc _).cell
  · have := (h2.alloc (.cells #[.func (.func gf) #[] #[.pointer (some ⟨w.heap.size, 0, none⟩), .pointer (some ⟨w.heap.size + 1, 0, none⟩)]] 81)).cell; simpa using this
theorem up_ready (w : World) (p : Nat) (n : Int) : Calls Try.prog 24 #[.pointer (some ⟨p, 0, none⟩), .int .i64 n] w fun e w' => ∃ Bx b1 b2, e = .returned (.func (.func 54) #[] #[.pointer (some ⟨Bx, 0, none⟩)]) ∧ Below w.heap.size w w' ∧ Itr w' Bx 48 b1 b2 p n ∧ w.heap.size ≤ Bx ∧ w.heap.size ≤ b1 ∧ w.heap.size ≤ b2 := by
  refine (up_it w p n).mono ?_
  rintro e w' ⟨rfl, rfl⟩
  have := itr_new w 48 p n
  exact ⟨_, _, _, rfl, this.1, this.2, by omega, by omega, by omega⟩
theorem down_ready (w : World) (p : Nat) (n : Int) : Calls Try.prog 23 #[.pointer (some ⟨p, 0, none⟩), .int .i64 n] w fun e w' => ∃ Bx b1 b2, e = .returned (.func (.func 54) #[] #[.pointer (some ⟨Bx, 0, none⟩)]) ∧ Below w.heap.size w w' ∧ Itr w' Bx 47 b1 b2 p n ∧ w.heap.size ≤ Bx ∧ w.heap.size ≤ b1 ∧ w.heap.size ≤ b2 := by
  refine (down_it w p n).mono ?_
  rintro e w' ⟨rfl, rfl⟩
  have := itr_new w 47 p n
  exact ⟨_, _, _, rfl, this.1, this.2, by omega, by omega, by omega⟩
set_option maxRecDepth 100000 in
set_option maxHeartbeats 4000000 in
theorem under_any (w : World) (p g m : Nat) (L : List (Int × Int)) (V : Nat → Value) (F : Nat → Prop) (h : Kt w p g m L V F) (a n : Int) : Calls Try.prog 20 #[.pointer (some ⟨p, 0, none⟩), .int .i64 a, .int .i64 n] w fun e w' => e = .returned (.bool (decide (a ∈ upl L n))) ∧ Below w.heap.size w w' := by
  have hb2 : Below w.heap.size w ((w.alloc (.cells #[.int .i64 a] 3)).alloc (.cells #[.bool false] 4)) := ((Below.refl _ w).alloc (Nat.le_refl _) _).alloc (by simp) _
  have BA := (Boxed.new w 3 (.int .i64 a)).alloc (.cells #[.bool false] 4)
  have BR := Boxed.new (w.alloc (.cells #[.int .i64 a] 3)) 4 (.bool false)
  rw [World.size_alloc] at BR
  have HT := Lib.hid (up_ready ((w.alloc (.cells #[.int .i64 a] 3)).alloc (.cells #[.bool false] 4)) p n)
  have hul := h.inv.up_len n
  have hm := h.hm
  refine (callsIn_wide (n := 8)).1 ?_
  refine callsIn_of_wp_marks Try.func20 rfl trivial ?_ rfl
  simp only [Try.ntmps20, List.size_toArray, List.length_cons, List.length_nil, Nat.reduceAdd, Nat.reduceSub, Array.replicate_succ, Array.replicate_zero, List.push_toArray, List.append_toArray, List.nil_append, List.cons_append]
  gi_wp2
  refine ⟨trivial, ?_⟩
  gi_at_call 24
  refine (callsIn_wide.2 HT.out).mono ?_
  rintro e w1 ⟨Bx, b1, b2, rfl, bl, it, _⟩
  have hsz := bl.size
  simp at hsz
  have hB1 : Below w.heap.size w w1 := hb2.trans (bl.mono hb2.size)
  have cA : w1.cell? ⟨w.heap.size, 0, none⟩ = some (.int .i64 a) := (bl.cell (by simp; omega)).trans BA.cell
  have cR : Boxed w1 (w.heap.size + 1) 4 (.bool false) := (bl.block (w.heap.size + 1) (by simp)).trans BR
  have ST := told1_up w1 Bx _ (upl L n) (by omega) (fun _ x => x = w.heap.size + 1) (fun W x _ e => by subst e; omega) it.c0 (up1_gives w1 p g m L V F (h.below hB1) n b1 b2 it.c1 it.c2) 7 (by decide)
  have hs1 : w.heap.size ≤ w1.heap.size := hB1.size
  clear HT bl hb2 BA BR h hsz
  gi_wp2
  refine wpIn_rangeFunc_ownF (n := 8) rfl (by decide) (gf := 54) (lb := #[.pointer (some ⟨Bx, 0, none⟩)]) rfl trivial (enters_of Try.func54 (by kernel_rfl) rfl) ST KpM.trans (kpM_b (fun _ _ _ _ _ e => e)) (Below.refl _ _) (fun _ => rfl)
    (fun pre W => (W.cell? ⟨w.heap.size, 0, none⟩ = some (.int .i64 a) ∧ Boxed W (w.heap.size + 1) 4 (.bool false)) ∧ Below w.heap.size w W ∧ ∀ x ∈ pre, x ≠ a)
    (fun c pre W => Boxed W (w.heap.size + 1) 4 (.bool true) ∧ Below w.heap.size w W ∧ (c = .ret ∧ a ∈ pre))
    ?hI ?hIx ⟨⟨cA, cR⟩, hB1, (fun x hx => by cases hx)⟩
    (fun x => { tmps := #[.pointer (some ⟨p, 0, none⟩), .int .i64 a, .int .i64 n, undef, .pointer (some ⟨w.heap.size, 0, none⟩), undef, .pointer (some ⟨w.heap.size + 1, 0, none⟩), .int .i64 x, .pointer (some ⟨p, 0, none⟩), .int .i64 n, .func (.func 54) #[] #[.pointer (some ⟨Bx, 0, none⟩)], .int .i64 x, undef, undef, undef], defers := [] }) ?assign ?body ?done ?stop
  case hI => exact OwnFrom.and (Own.from (fun s A B row hs hg hr => ⟨cell_kept hs.1 hg hr, boxed_own _ _ (fun _ => .bool false) s A B row hs.2 hg hr⟩) _) (OwnFrom.and (ownFrom_below (Nat.le_refl _) hs1) (ownFrom_pure _ _))
  case hIx => exact fun c => OwnFrom.and (Own.from (fun s A B row hs hg hr => boxed_own _ _ (fun _ => .bool true) s A B row hs hg hr) _) (OwnFrom.and (ownFrom_below (Nat.le_refl _) hs1) (ownFrom_pure _ _))
  case assign =>
    intro l x W K hK
    gi_wp2
    exact hK
  case body =>
    rintro l pre x W ⟨⟨hc, hr⟩, hb, hp⟩ _
    have hrc := hr.cell
    have hrf := hr.frozen
    by_cases hx : x = a
    · subst hx
      gi_wp2
      exact ⟨KeepsOthers.setCell _ _ _, hr.set _, hb.setCell (p := ⟨w.heap.size + 1, 0, none⟩) (by simp) _, rfl, by simp⟩
    · gi_wp2
      exact ⟨KeepsOthers.refl _, ⟨Nat.le_refl _, fun g o h1 _ h3 => ⟨h1, h3⟩⟩, ⟨hc, hr⟩, hb, fun y hy => by
        rcases List.mem_append.1 hy with e | e
        · exact hp y e
        · rw [List.mem_singleton.1 e]; exact hx⟩
  case done =>
    rintro D xs W hD rfl ⟨⟨hc, hr⟩, hb, hp⟩ hK
    have hrc := hr.cell
    have hrf := hr.frozen
    gi_wp2
    have hK2 := (KeepsOthers.setCell W ⟨w.heap.size + 1, 0, none⟩ (.bool false)).same D _ hK rfl
    refine ⟨by simp, .inl ⟨_, _, rfl, run_takeDeferred hK2, ?_⟩⟩
    have hr2 := hr.set (.bool false)
    have hb2 := hb.setCell (p := ⟨w.heap.size + 1, 0, none⟩) (by simp) (.bool false)
    refine ⟨_, results_box rfl _ rfl (Try.isAgg4 _) (cell_kept hr2.cell (grownBy_putObj' _ D (.deferred none)) (fun r e => by cases e; exact ⟨_, hK2, rfl⟩)), ?_, ?_⟩
    · rw [decide_eq_false (fun e => hp a e rfl)]
    · exact hb2.trans (belowK_b (w := w) (Nat.le_refl _) _ D _ _ (by omega) hK2 rfl rfl)
  case stop =>
    rintro D c pre W hD hS ⟨hr, hb, rfl, ha⟩ hK
    have hrc := hr.cell
    have hrf := hr.frozen
    gi_wp2
    refine ⟨by simp, .inl ⟨_, _, rfl, run_takeDeferred hK, ?_⟩⟩
    refine ⟨_, results_box rfl _ rfl (Try.isAgg4 _) (cell_kept hr.cell (grownBy_putObj' _ D (.deferred none)) (fun r e => by cases e; exact ⟨_, hK, rfl⟩)), ?_, ?_⟩
    · rw [decide_eq_true (hS.subset ha)]
    · exact hb.trans (belowK_b (w := w) (Nat.le_refl _) _ D _ _ (by omega) hK rfl rfl)
end Go.Proofs.Ytkmmpagflbnenaa.Kin

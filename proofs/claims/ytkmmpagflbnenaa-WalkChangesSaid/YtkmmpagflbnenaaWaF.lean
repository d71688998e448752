/- The iterator: a list that is made when the range begins. Own text; Ytkmmpagflbnenaa and the numbers between @..@ are the seat's. -/
import Derived.Test.YtkmmpagflbnenaaWaE
import Derived.RangeFuncNested
import Derived.RangeFuncBound
import Derived.RangeFuncCalls
import Derived.RangeFuncLeaves
import Derived.Shelf.Abstract
import Derived.Shelf.RegionOpen
import Derived.OwnWalkIn
import Derived.TacticsInMore
import Derived.LoopNIn
import Derived.LoopIn
namespace Go.Proofs.Ytkmmpagflbnenaa.Kin
open Go.RowKit Go.Proofs.Ytkmmpagflbnenaa.Mem Go.Shelf
set_option linter.unusedVariables false
attribute [local go_sem] Oper.semAt_some
/-- What a round keeps: each block of cells but those that M names; and M takes none of them. -/
def KpM (M : World → Nat → Prop) (A B : World) : Prop := A.heap.size ≤ B.heap.size ∧ ∀ g o, A.heap[g]? = some o → o.isCells = true → ¬ M A g → B.heap[g]? = some o ∧ ¬ M B g
theorem KpM.trans {M : World → Nat → Prop} {A B C : World} (h : KpM M A B) (k : KpM M B C) : KpM M A C := ⟨Nat.le_trans h.1 k.1, fun g o h1 h2 h3 => k.2 g o (h.2 g o h1 h2 h3).1 h2 (h.2 g o h1 h2 h3).2⟩
theorem grown_below {A B : World} (h : Below A.heap.size A B) : A.grownBy B none := ⟨h.os, h.tape, h.output, h.size, fun k hk _ => h.block k hk⟩
/-- The closure hands out a list that is new. -/
def Gives (w : World) (g : Nat) (lb : Array Value) (zs : List Int) : Prop := ∀ W, Below w.heap.size w W → Calls Try.prog g lb W fun e W' => ∃ A c, e = .returned (.slice A zs.length c) ∧ W'.ownsRow 0 3 1 (.slice A zs.length c) zs.length (zs.map i64) ∧ Below W.heap.size W W' ∧ Fresh W (.slice A zs.length c)
set_option maxRecDepth 100000 in
set_option maxHeartbeats 2000000 in
theorem told1_down (w : World) (Bx : Nat) (lb : Array Value) (zs : List Int) (hlen : zs.length ≤ 100000) (M : World → Nat → Prop) (hM : ∀ W g, Below w.heap.size w W → M W g → g < w.heap.size)
    (hBx : w.cell? ⟨Bx, 0, none⟩ = some (.func (.func 47) #[] lb)) (hgives : Gives w 47 lb zs) (n : Nat) (hn : 1 ≤ n) :
    SeqStopsK Fence.wide n Try.prog 54 #[.pointer (some ⟨Bx, 0, none⟩)] (fun x : Int => #[.int .i64 x]) (KpM M) (fun ys => ys = zs) (fun pre => pre <+: zs) zs.length w := by
  intro l J Jx W hW hJ hJx hY h0
  have hBW : W.cell? ⟨Bx, 0, none⟩ = some (.func (.func 47) #[] lb) := (hW.cell (World.block_lt_of_cell? w _ hBx)).trans hBx
  have HG := Lib.hid (hgives W hW)
  have HM := Lib.hid hM
  obtain ⟨N, hN⟩ : ∃ N, zs.length = N := ⟨_, rfl⟩
  have HN := Lib.hid hN
  rw [hN] at hlen HG hY
  clear hgives hM hBx hN
  refine callsIn_of_wp Try.func54 rfl trivial ?_ rfl
  simp only [Try.ntmps54, List.size_toArray, List.length_cons, List.length_nil, Nat.reduceAdd, Nat.reduceSub, Array.replicate_succ, Array.replicate_zero, List.push_toArray, List.append_toArray, List.nil_append, List.cons_append]
  gi_wp2
  refine ⟨trivial, ?_⟩
  gi_at_call 47
  refine (callsIn_wide.2 HG.out).mono ?_
  rintro e W1 ⟨A, c, rfl, o1, b1, f1⟩
  have hJ1 : J (zs.take 0) W1 := hJ _ W W1 none h0 (grown_below b1) (fun r e => by cases e)
  have O1 := Lib.hid o1
  have F1 := Lib.hid f1
  have NM : Hid (∀ b, (Value.slice A N c).ownBlock = some b → ¬ M W1 b) := fun b hb e => by
    have h1 := HM.out W1 b (hW.trans (b1.mono hW.size)) e
    have h2 := f1 b hb
    have h3 := hW.size
    omega
  have HC : Hid (0 < N → ∃ g cur, A = some ⟨g, 0, none⟩ ∧ W1.heap[g]? = some (.cells cur 3 (0, 0)) ∧ ∀ (j : Nat) z, zs[j]? = some z → cur[j]? = some (.int .i64 z)) := fun hp => by
    obtain ⟨g, c', cur, e, hg, _, _, _, _, hcell⟩ := own_form o1 hp
    obtain ⟨rfl, _⟩ : A = some ⟨g, 0, none⟩ ∧ c = c' := by simpa using e
    refine ⟨g, cur, rfl, hg, fun j z hz => ?_⟩
    have := hcell j (i64 z) (by rw [List.getElem?_map, hz]; rfl)
    rwa [cell_of_row W1 g j cur 3 (0, 0) hg] at this
  clear o1 f1 HG b1 hJ h0 hBW
  gi_wp2
  gi_loopw [8] (fun v8 wr => ∃ i : Nat, i ≤ N ∧ v8 = .int .i64 i ∧ J (zs.take i) wr ∧ Hid (∀ g, A = some ⟨g, 0, none⟩ → 0 < N → wr.heap[g]? = W1.heap[g]? ∧ ¬ M wr g)) (fun v8 _ => N - (intOf v8).toNat)
  case atStart => exact ⟨0, Nat.zero_le _, rfl, hJ1, fun g e _ => ⟨rfl, NM.out g (by rw [e]; rfl)⟩⟩
  case round =>
    clear hJ1
    obtain ⟨i, hi, rfl, hJs, HK⟩ := hrel
    by_cases hlt : i < N
    · obtain ⟨z, hz⟩ : ∃ z, zs[i]? = some z := ⟨_, List.getElem?_eq_getElem (by rw [HN.out]; exact hlt)⟩
      obtain ⟨g, cur, rfl, hgc, hcell⟩ := HC.out (by omega)
      obtain ⟨hk1, hk2⟩ := HK.out g rfl (by omega)
      have hgr : wr.heap[g]? = some (.cells cur 3 (0, 0)) := hk1.trans hgc
      have y0 : wr.cell? ⟨g, i, none⟩ = some (.int .i64 z) := cell_row hgr (hcell i z hz)
      have hT : zs.take (i + 1) = zs.take i ++ [z] := by
        obtain ⟨h1, rfl⟩ := List.getElem?_eq_some_iff.1 hz
        exact List.take_succ_eq_append_getElem h1
      obtain ⟨fn, tmps, assign, body, hy, hR⟩ := hY (zs.take i) z wr hJs (by rw [List.length_take, HN.out]; omega)
      rw [← hT] at hR
      have HGR := Lib.hid hgr
      have HGC := Lib.hid hgc
      have HK2 := Lib.hid hk2
      clear hcell hz hT hgr hgc hk1 hk2
      gi_wp2
      refine hR.mono ?_
      rintro e W3 (⟨rfl, hJ3, hk3⟩ | ⟨rfl, hJx3⟩)
      · have HK3 : Hid (∀ g', some (⟨g, 0, none⟩ : Addr) = some ⟨g', 0, none⟩ → 0 < N → W3.heap[g']? = W1.heap[g']? ∧ ¬ M W3 g') := fun g' e _ => by
          obtain rfl : g = g' := by simpa using e
          have := hk3.2 g _ HGR.out rfl HK2.out
          exact ⟨this.1.trans HGC.out.symm, this.2⟩
        clear hk3 hR hy
        gi_wp2
        go_roundw
        case rel => exact ⟨i + 1, by omega, by simp, hJ3, HK3⟩
        case measure => simp [intOf]; omega
      · clear hR hy
        gi_wp2
        refine bodyPost_ret (results_none rfl _ _ _) rfl ?_
        exact ⟨⟨_, rfl⟩, .inr ⟨_, List.take_prefix _ _, hJx3⟩⟩
    · obtain rfl : i = N := by omega
      rw [List.take_of_length_le (by rw [HN.out]; exact Nat.le_refl _)] at hJs
      gi_wp2
      go_end0
      exact ⟨⟨_, rfl⟩, .inl ⟨_, rfl, hJs⟩⟩
set_option maxRecDepth 100000 in
set_option maxHeartbeats 2000000 in
theorem told1_up (w : World) (Bx : Nat) (lb : Array Value) (zs : List Int) (hlen : zs.length ≤ 100000) (M : World → Nat → Prop) (hM : ∀ W g, Below w.heap.size w W → M W g → g < w.heap.size)
    (hBx : w.cell? ⟨Bx, 0, none⟩ = some (.func (.func 48) #[] lb)) (hgives : Gives w 48 lb zs) (n : Nat) (hn : 1 ≤ n) :
    SeqStopsK Fence.wide n Try.prog 54 #[.pointer (some ⟨Bx, 0, none⟩)] (fun x : Int => #[.int .i64 x]) (KpM M) (fun ys => ys = zs) (fun pre => pre <+: zs) zs.length w := by
  intro l J Jx W hW hJ hJx hY h0
  have hBW : W.cell? ⟨Bx, 0, none⟩ = some (.func (.func 48) #[] lb) := (hW.cell (World.block_lt_of_cell? w _ hBx)).trans hBx
  have HG := Lib.hid (hgives W hW)
  have HM := Lib.hid hM
  obtain ⟨N, hN⟩ : ∃ N, zs.length = N := ⟨_, rfl⟩
  have HN := Lib.hid hN
  rw [hN] at hlen HG hY
  clear hgives hM hBx hN
  refine callsIn_of_wp Try.func54 rfl trivial ?_ rfl
  simp only [Try.ntmps54, List.size_toArray, List.length_cons, List.length_nil, Nat.reduceAdd, Nat.reduceSub, Array.replicate_succ, Array.replicate_zero, List.push_toArray, List.append_toArray, List.nil_append, List.cons_append]
  gi_wp2
  refine ⟨trivial, ?_⟩
  gi_at_call 48
  refine (callsIn_wide.2 HG.out).mono ?_
  rintro e W1 ⟨A, c, rfl, o1, b1, f1⟩
  have hJ1 : J (zs.take 0) W1 := hJ _ W W1 none h0 (grown_below b1) (fun r e => by cases e)
  have O1 := Lib.hid o1
  have F1 := Lib.hid f1
  have NM : Hid (∀ b, (Value.slice A N c).ownBlock = some b → ¬ M W1 b) := fun b hb e => by
    have h1 := HM.out W1 b (hW.trans (b1.mono hW.size)) e
    have h2 := f1 b hb
    have h3 := hW.size
    omega
  have HC : Hid (0 < N → ∃ g cur, A = some ⟨g, 0, none⟩ ∧ W1.heap[g]? = some (.cells cur 3 (0, 0)) ∧ ∀ (j : Nat) z, zs[j]? = some z → cur[j]? = some (.int .i64 z)) := fun hp => by
    obtain ⟨g, c', cur, e, hg, _, _, _, _, hcell⟩ := own_form o1 hp
    obtain ⟨rfl, _⟩ : A = some ⟨g, 0, none⟩ ∧ c = c' := by simpa using e
    refine ⟨g, cur, rfl, hg, fun j z hz => ?_⟩
    have := hcell j (i64 z) (by rw [List.getElem?_map, hz]; rfl)
    rwa [cell_of_row W1 g j cur 3 (0, 0) hg] at this
  clear o1 f1 HG b1 hJ h0 hBW
  gi_wp2
  gi_loopw [8] (fun v8 wr => ∃ i : Nat, i ≤ N ∧ v8 = .int .i64 i ∧ J (zs.take i) wr ∧ Hid (∀ g, A = some ⟨g, 0, none⟩ → 0 < N → wr.heap[g]? = W1.heap[g]? ∧ ¬ M wr g)) (fun v8 _ => N - (intOf v8).toNat)
  case atStart => exact ⟨0, Nat.zero_le _, rfl, hJ1, fun g e _ => ⟨rfl, NM.out g (by rw [e]; rfl)⟩⟩
  case round =>
    clear hJ1
    obtain ⟨i, hi, rfl, hJs, HK⟩ := hrel
    by_cases hlt : i < N
    · obtain ⟨z, hz⟩ : ∃ z, zs[i]? = some z := ⟨_, List.getElem?_eq_getElem (by rw [HN.out]; exact hlt)⟩
      obtain ⟨g, cur, rfl, hgc, hcell⟩ := HC.out (by omega)
      obtain ⟨hk1, hk2⟩ := HK.out g rfl (by omega)
      have hgr : wr.heap[g]? = some (.cells cur 3 (0, 0)) := hk1.trans hgc
      have y0 : wr.cell? ⟨g, i, none⟩ = some (.int .i64 z) := cell_row hgr (hcell i z hz)
      have hT : zs.take (i + 1) = zs.take i ++ [z] := by
        obtain ⟨h1, rfl⟩ := List.getElem?_eq_some_iff.1 hz
        exact List.take_succ_eq_append_getElem h1
      obtain ⟨fn, tmps, assign, body, hy, hR⟩ := hY (zs.take i) z wr hJs (by rw [List.length_take, HN.out]; omega)
      rw [← hT] at hR
      have HGR := Lib.hid hgr
      have HGC := Lib.hid hgc
      have HK2 := Lib.hid hk2
      clear hcell hz hT hgr hgc hk1 hk2
      gi_wp2
      refine hR.mono ?_
      rintro e W3 (⟨rfl, hJ3, hk3⟩ | ⟨rfl, hJx3⟩)
      · have HK3 : Hid (∀ g', some (⟨g, 0, none⟩ : Addr) = some ⟨g', 0, none⟩ → 0 < N → W3.heap[g']? = W1.heap[g']? ∧ ¬ M W3 g') := fun g' e _ => by
          obtain rfl : g = g' := by simpa using e
          have := hk3.2 g _ HGR.out rfl HK2.out
          exact ⟨this.1.trans HGC.out.symm, this.2⟩
        clear hk3 hR hy
        gi_wp2
        go_roundw
        case rel => exact ⟨i + 1, by omega, by simp, hJ3, HK3⟩
        case measure => simp [intOf]; omega
      · clear hR hy
        gi_wp2
        refine bodyPost_ret (results_none rfl _ _ _) rfl ?_
        exact ⟨⟨_, rfl⟩, .inr ⟨_, List.take_prefix _ _, hJx3⟩⟩
    · obtain rfl : i = N := by omega
      rw [List.take_of_length_le (by rw [HN.out]; exact Nat.le_refl _)] at hJs
      gi_wp2
      go_end0
      exact ⟨⟨_, rfl⟩, .inl ⟨_, rfl, hJs⟩⟩
theorem down1_gives (w : World) (p g m : Nat) (L : List (Int × Int)) (V : Nat → Value) (F : Nat → Prop) (h : Kt w p g m L V F) (n : Int) (b1 b2 : Nat) (h1 : w.cell? ⟨b1, 0, none⟩ = some (.pointer (some ⟨p, 0, none⟩))) (h2 : w.cell? ⟨b2, 0, none⟩ = some (.int .i64 n)) : Gives w 47 #[.pointer (some ⟨b1, 0, none⟩), .pointer (some ⟨b2, 0, none⟩)] (dnl L false n) := by
  intro W hW
  have HX := Lib.hid (down_any W p g m L V F (h.below hW) n false)
  have y1 := (hW.cell (World.block_lt_of_cell? w _ h1)).trans h1
  have y2 := (hW.cell (World.block_lt_of_cell? w _ h2)).trans h2
  obtain ⟨l, hl⟩ : ∃ l, dnl L false n = l := ⟨_, rfl⟩
  rw [hl] at HX ⊢
  obtain ⟨N, hN⟩ : ∃ N, l.length = N := ⟨_, rfl⟩
  rw [hN] at HX ⊢
  clear h h1 h2 hl hN hW
  go_enter Try.func47, Try.ntmps47
  go_wp2_with fail
  (with_reducible refine HX.out.mono ?_)
  rintro e w1 ⟨A, c, rfl, o1, b1, f1⟩
  have O1 := Lib.hid o1
  have B1 := Lib.hid b1
  have F1 := Lib.hid f1
  clear o1 b1 f1 HX
  go_wp2_with fail
  go_ret
  exact ⟨A, c, rfl, O1.out, B1.out, F1.out⟩
theorem up1_gives (w : World) (p g m : Nat) (L : List (Int × Int)) (V : Nat → Value) (F : Nat → Prop) (h : Kt w p g m L V F) (n : Int) (b1 b2 : Nat) (h1 : w.cell? ⟨b1, 0, none⟩ = some (.pointer (some ⟨p, 0, none⟩))) (h2 : w.cell? ⟨b2, 0, none⟩ = some (.int .i64 n)) : Gives w 48 #[.pointer (some ⟨b1, 0, none⟩), .pointer (some ⟨b2, 0, none⟩)] (upl L n) := by
  intro W hW
  have HX := Lib.hid (up_any W p g m L V F (h.below hW) n)
  have y1 := (hW.cell (World.block_lt_of_cell? w _ h1)).trans h1
  have y2 := (hW.cell (World.block_lt_of_cell? w _ h2)).trans h2
  obtain ⟨l, hl⟩ : ∃ l, upl L n = l := ⟨_, rfl⟩
  rw [hl] at HX ⊢
  obtain ⟨N, hN⟩ : ∃ N, l.length = N := ⟨_, rfl⟩
  rw [hN] at HX ⊢
  clear h h1 h2 hl hN hW
  go_enter Try.func48, Try.ntmps48
  go_wp2_with fail
  (with_reducible refine HX.out.mono ?_)
  rintro e w1 ⟨A, c, rfl, o1, b1, f1⟩
  have O1 := Lib.hid o1
  have B1 := Lib.hid b1
  have F1 := Lib.hid f1
  clear o1 b1 f1 HX
  go_wp2_with fail
  go_ret
  exact ⟨A, c, rfl, O1.out, B1.out, F1.out⟩
/-- What Down and Up hand out: a closure over three new boxes. -/
theorem down_it (w : World) (p : Nat) (n : Int) : Calls Try.prog 23 #[.pointer (some ⟨p, 0, none⟩), .int .i64 n] w fun e w' => e = .returned (.func (.func 54) #[] #[.pointer (some ⟨w.heap.size + 2, 0, none⟩)]) ∧ w' = ((w.alloc (.cells #[.pointer (some ⟨p, 0, none⟩)] 23)).alloc (.cells #[.int .i64 n] 3)).alloc (.cells #[.func (.func 47) #[] #[.pointer (some ⟨w.heap.size, 0, none⟩), .pointer (some ⟨w.heap.size + 1, 0, none⟩)]] 81) := by
  have HT : Hid (∀ (a b : Nat) w, Calls Try.prog 46 #[.func (.func 47) #[] #[.pointer (some ⟨a, 0, none⟩), .pointer (some ⟨b, 0, none⟩)]] w fun e w' => e = .returned (.func (.func 54) #[] #[.pointer (some ⟨w.heap.size, 0, none⟩)]) ∧ w' = w.alloc (.cells #[.func (.func 47) #[] #[.pointer (some ⟨a, 0, none⟩), .pointer (some ⟨b, 0, none⟩)]] 81)) := fun a b w => by
    go_enter Try.func46, Try.ntmps46
    go_wp2
    go_ret
    exact ⟨rfl, rfl⟩
  go_enter Try.func23, Try.ntmps23
  go_wp2_with fail
  (with_reducible refine (HT.out _ _ _).mono ?_)
  rintro e w1 ⟨rfl, rfl⟩
  go_wp2_with fail
  go_ret
  exact ⟨by simp, rfl⟩
theorem up_it (w : World) (p : Nat) (n : Int) : Calls Try.prog 24 #[.pointer (some ⟨p, 0, none⟩), .int .i64 n] w fun e w' => e = .returned (.func (.func 54) #[] #[.pointer (some ⟨w.heap.size + 2, 0, none⟩)]) ∧ w' = ((w.alloc (.cells #[.pointer (some ⟨p, 0, none⟩)] 23)).alloc (.cells #[.int .i64 n] 3)).alloc (.cells #[.func (.func 48) #[] #[.pointer (some ⟨w.heap.size, 0, none⟩), .pointer (some ⟨w.heap.size + 1, 0, none⟩)]] 81) := by
  have HT : Hid (∀ (a b : Nat) w, Calls Try.prog 46 #[.func (.func 48) #[] #[.pointer (some ⟨a, 0, none⟩), .pointer (some ⟨b, 0, none⟩)]] w fun e w' => e = .returned (.func (.func 54) #[] #[.pointer (some ⟨w.heap.size, 0, none⟩)]) ∧ w' = w.alloc (.cells #[.func (.func 48) #[] #[.pointer (some ⟨a, 0, none⟩), .pointer (some ⟨b, 0, none⟩)]] 81)) := fun a b w => by
    go_enter Try.func46, Try.ntmps46
    go_wp2
    go_ret
    exact ⟨rfl, rfl⟩
  go_enter Try.func24, Try.ntmps24
  go_wp2_with fail
  (with_reducible refine (HT.out _ _ _).mono ?_)
  rintro e w1 ⟨rfl, rfl⟩
  go_wp2_with fail
  go_ret
  exact ⟨by simp, rfl⟩
end Go.Proofs.Ytkmmpagflbnenaa.Kin

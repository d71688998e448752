/- down: a subtree by a stack. Own text; Ytkmmpagflbnenaa and the numbers between @..@ are the seat's. -/
import Derived.Test.YtkmmpagflbnenaaWforest
import Derived.Test.YtkmmpagflbnenaaWaA
namespace Go.Proofs.Ytkmmpagflbnenaa.Kin
open Go.RowKit Go.Proofs.Ytkmmpagflbnenaa.Mem
set_option linter.unusedVariables false
theorem own_pop {w : World} {A : Option Addr} {n c : Nat} {xs : List Int} {x : Int} (h : w.ownsRow 0 3 1 (.slice A (n + 1) c) (n + 1) ((xs ++ [x]).map i64)) : w.ownsRow 0 3 1 (.slice A n c) n (xs.map i64) := by
  have hl : xs.length = n := by have := h.1; simp at this; omega
  rcases h.2 with ⟨h1, h2⟩ | ⟨g, cap, cur, h1, hb, hg, h3, h4, h5, h6⟩
  · omega
  · obtain ⟨rfl, rfl⟩ : A = some ⟨g, 0, none⟩ ∧ c = cap := by simpa using h1
    refine ⟨by simp [hl], .inr ⟨g, c, cur, rfl, hb, hg, by omega, h4, h5, ?_⟩⟩
    rw [Nat.mul_one] at h6 ⊢
    have := congrArg (List.take n) h6
    rw [List.take_take, Nat.min_eq_left (by omega), List.map_append, List.take_left' (by rw [List.length_map]; exact hl)] at this
    exact this
def lenV : Value → Nat
  | .slice _ n _ => n
  | _ => 0
theorem kids_has {L : List (Int × Int)} {x : Int} (h : has L x = true) : kids L x = chl L x := if_pos h
theorem chl_le {m : Nat} {L : List (Int × Int)} (h : Inv m L) (x : Int) : (chl L x).length ≤ m := by
  unfold chl
  rw [List.length_map]
  exact Nat.le_trans (List.length_filter_le _ _) h.len
/-- Where the stack stands. -/
structure Stk (L : List (Int × Int)) (t : Bool) (n : Int) (xs os : List Int) : Prop where
  eq : xs ++ os.reverse.flatMap (dn L t) = dn L t n
  mem : ∀ x ∈ os, has L x = true
theorem Stk.next {m : Nat} {L : List (Int × Int)} (hi : Inv m L) {t : Bool} {n x : Int} {xs os : List Int} (h : Stk L t n xs (os ++ [x])) : Stk L t n (xs ++ [x]) (os ++ (odr L t x).reverse) := by
  have hx := h.mem x (by simp)
  refine ⟨?_, fun y hy => ?_⟩
  · have := h.eq
    rw [List.reverse_append, List.flatMap_append] at this
    rw [List.reverse_append, List.flatMap_append, List.reverse_reverse, ← this]
    simp only [List.reverse_cons, List.reverse_nil, List.nil_append, List.flatMap_cons, List.flatMap_nil, List.append_nil]
    rw [hi.dn_eq t hx]
    simp
  · rcases List.mem_append.1 hy with e | e
    · exact h.mem y (by simp [e])
    · exact (hi.chl_par (mem_odr.1 (List.mem_reverse.1 e))).1
theorem Stk.len {m : Nat} {L : List (Int × Int)} (hi : Inv m L) {t : Bool} {n : Int} (hn : has L n = true) {xs os : List Int} (h : Stk L t n xs os) : xs.length + os.length ≤ m := by
  have h1 := hi.dn_len t hn
  rw [← h.eq, List.length_append] at h1
  have h2 : ∀ l : List Int, (∀ x ∈ l, has L x = true) → l.length ≤ (l.flatMap (dn L t)).length := by
    intro l
    induction l with
    | nil => intro _; simp
    | cons c l ih =>
      intro hm
      have := ih (fun x hx => hm x (by simp [hx]))
      rw [List.flatMap_cons, List.length_append, hi.dn_eq t (hm c (by simp)), List.length_cons, List.length_cons]
      omega
  have := h2 os.reverse (fun x hx => h.mem x (List.mem_reverse.1 hx))
  rw [List.length_reverse] at this
  omega
theorem stk_fin {w w3 w5 w6 : World} {B3 C6 : Option Addr} {gg e d3 k l q e6 : Nat} {xs : List Value} (B35 : Below w3.heap.size w3 w5) (O3 : w3.ownsRow 0 3 1 (.slice B3 k d3) k xs) (hg : gg < w3.heap.size) (hg2 : w.heap.size ≤ gg) (dis : ∀ b, (Value.slice B3 k d3).ownBlock = some b → w.heap.size ≤ b ∧ b ≠ gg) (BW3 : Below w.heap.size w w3)
    (W6 : Went w5 w6 (.slice (some ⟨gg, 0, none⟩) l e) (.slice C6 (l + q) e6) l q) :
    w6.ownsRow 0 3 1 (.slice B3 k d3) k xs ∧ (∀ b, (Value.slice B3 k d3).ownBlock = some b → w.heap.size ≤ b ∧ ¬ (Value.slice C6 (l + q) e6).ownBlock = some b) ∧ (∀ b, (Value.slice C6 (l + q) e6).ownBlock = some b → w.heap.size ≤ b) ∧ Below w.heap.size w w6 := by
  have hgb : ∀ b, (Value.slice (some ⟨gg, 0, none⟩) l e).ownBlock = some b → b = gg := fun b hb => (Option.some.inj hb).symm
  have s5 := B35.size
  have s3 := BW3.size
  have b5 : Below w.heap.size w w5 := BW3.trans (B35.mono s3)
  refine ⟨own_kept (own_keeps O3 (Kept.of_below B35)) W6.kept (fun b hb e => (dis b hb).2 (hgb b e)), fun b hb => ⟨(dis b hb).1, fun e => ?_⟩, fun b e => ?_, b5.trans (W6.kept.below (fun b hb => by rw [hgb b hb]; exact hg2) b5.size)⟩
  · rcases W6.block with h | h
    · exact (dis b hb).2 (hgb b (h ▸ e))
    · have h1 := Option.some.inj (h.symm.trans e)
      have := own_lt O3 b hb
      omega
  · rcases W6.block with h | h
    · rw [hgb b (h ▸ e)]; exact hg2
    · have h1 := Option.some.inj (h.symm.trans e)
      omega
section
variable (w : World) (p g m : Nat) (L : List (Int × Int)) (V : Nat → Value) (F : Nat → Prop) (h : Kt w p g m L V F)
include h
set_option maxHeartbeats 4000000 in
theorem down_any (n : Int) (t : Bool) : Calls Try.prog 41 #[.pointer (some ⟨p, 0, none⟩), .int .i64 n, .bool t] w fun e w' => ∃ A c, e = .returned (.slice A (dnl L t n).length c) ∧ w'.ownsRow 0 3 1 (.slice A (dnl L t n).length c) (dnl L t n).length ((dnl L t n).map i64) ∧ Below w.heap.size w w' ∧ Fresh w (.slice A (dnl L t n).length c) := by
  have HH := Lib.hid (has_any w p g m L V F h n)
  have hm := h.hm
  unfold dnl
  by_cases hn : has L n = true
  case neg =>
    rw [if_neg hn]
    rw [show has L n = false by simpa using hn] at HH
    clear h hn
    go_enter Try.func41, Try.ntmps41
    go_wp2_with fail
    (with_reducible refine HH.out.mono ?_)
    rintro e w1 ⟨rfl, rfl⟩
    go_wp2_with fail
    go_ret
    exact ⟨none, 0, rfl, World.ownsRow_nil _ _ _ _, Below.refl _ _, fun b hb => by simp [Value.ownBlock] at hb⟩
  rw [if_pos hn]
  rw [hn] at HH
  have HI := Lib.hid h.inv
  have HC : Hid (∀ x w', has L x = true → Below w.heap.size w w' → Calls Try.prog 13 #[.pointer (some ⟨p, 0, none⟩), .int .i64 x] w' fun e w'' => ∃ A c, e = .returned (.slice A (chl L x).length c) ∧ w''.ownsRow 0 3 1 (.slice A (chl L x).length c) (chl L x).length ((chl L x).map i64) ∧ Below w'.heap.size w' w'' ∧ Fresh w' (.slice A (chl L x).length c)) := fun x w' hx hb => by
    have := children_any w' p g m L V F (h.below hb) x
    rwa [kids_has hx] at this
  have HNH := Lib.hid hn
  have S0 : Hid (Stk L t n [] [n]) := ⟨by simp, fun x hx => by obtain rfl := List.mem_singleton.1 hx; exact hn⟩
  have HB0 : Hid (Below w.heap.size w (w.alloc (.cells #[.int .i64 n] 3))) := (Below.refl _ w).alloc (Nat.le_refl _) _
  have O0 : Hid ((w.alloc (.cells #[.int .i64 n] 3)).ownsRow 0 3 1 (.slice (some ⟨w.heap.size, 0, none⟩) 1 1) 1 ([n].map i64)) := ⟨rfl, .inr ⟨w.heap.size, 1, #[.int .i64 n], rfl, Nat.zero_le _, heap_alloc_new w _, Nat.le_refl _, by decide, rfl, by simp [i64]⟩⟩
  have X0 : Hid ((w.alloc (.cells #[.int .i64 n] 3)).ownsRow 0 3 1 (.slice none 0 0) 0 (([] : List Int).map i64)) := World.ownsRow_nil _ _ _ _
  clear h hn
  go_enter Try.func41, Try.ntmps41
  go_wp2_with fail
  (with_reducible refine HH.out.mono ?_)
  rintro e w1 ⟨rfl, rfl⟩
  clear HH
  go_wp2_with fail
  go_loopw [7, 8] (fun v7 v8 wr => ∃ (xs os : List Int) (k l : Nat) (B C : Option Addr) (d e : Nat), k + l ≤ m ∧ v7 = .slice B k d ∧ v8 = .slice C l e ∧ Hid (xs.length = k) ∧ Hid (os.length = l) ∧ Hid (wr.ownsRow 0 3 1 (.slice B k d) k (xs.map i64)) ∧ Hid (wr.ownsRow 0 3 1 (.slice C l e) l (os.map i64)) ∧ Hid (Stk L t n xs os) ∧ Hid (∀ b, (Value.slice B k d).ownBlock = some b → w.heap.size ≤ b ∧ ¬ (Value.slice C l e).ownBlock = some b) ∧ Hid (∀ b, (Value.slice C l e).ownBlock = some b → w.heap.size ≤ b) ∧ Hid (Below w.heap.size w wr)) (fun v7 _ _ => m + 1 - lenV v7)
  case atStart => exact ⟨[], [n], 0, 1, none, some ⟨w.heap.size, 0, none⟩, 0, 1, (by have := S0.out.len HI.out HNH.out; simpa using this), rfl, rfl, rfl, rfl, X0, O0, S0, (fun b hb => by simp [Value.ownBlock] at hb), (fun b hb => Nat.le_of_eq (Option.some.inj hb)), HB0⟩
  case round =>
    clear S0 HB0 O0 X0
    obtain ⟨xs, os, k, l, B, C, d, e, hkl, rfl, rfl, HX, HO, OX, OO, HS, DX, DO, HW⟩ := hrel
    cases l with
    | zero =>
      have ho : os = [] := List.length_eq_zero_iff.1 HO.out
      have hx : Hid (xs = dn L t n) := by
        have := HS.out.eq
        rw [ho] at this
        show xs = _
        simpa using this
      have hk : Hid ((dn L t n).length = k) := by rw [← hx.out]; exact HX.out
      clear ho
      go_wp2_with fail
      go_ret
      refine ⟨B, d, by rw [hk.out]; rfl, ?_, HW.out, fun b hb => (DX.out b (by rw [hk.out] at hb; exact hb)).1⟩
      rw [hk.out, ← hx.out]
      exact OX.out
    | succ l =>
      obtain ⟨os', x, rfl⟩ : ∃ os' x, os = os' ++ [x] := by
        rcases List.eq_nil_or_concat os with e | ⟨os', x, e⟩
        · have := HO.out; rw [e] at this; cases this
        · exact ⟨os', x, by rw [e]; simp⟩
      have HO' : Hid (os'.length = l) := by
        have := HO.out
        rw [List.length_append] at this
        show _ = _
        simpa using this
      obtain ⟨C', e', hce, hle⟩ := own_slice OO.out
      obtain ⟨rfl, rfl⟩ : C = C' ∧ e = e' := by simpa using hce
      have hem := own_max OO.out
      obtain ⟨gg, c', cur, hcg, _, _, hcm, _, _, hcell⟩ := own_form OO.out (by omega)
      obtain ⟨rfl, rfl⟩ : C = some ⟨gg, 0, none⟩ ∧ e = c' := by simpa using hcg
      have y0 : wr.cell? ⟨gg, l, none⟩ = some (.int .i64 x) := hcell l (i64 x) (by rw [List.map_append, List.getElem?_append_right (by rw [List.length_map, HO'.out]; exact Nat.le_refl _), List.length_map, HO'.out, Nat.sub_self]; rfl)
      have HXH := Lib.hid (HS.out.mem x (by simp))
      have S1 := Lib.hid (HS.out.next HI.out)
      have L1 := Lib.hid (S1.out.len HI.out HNH.out)
      have HP := Lib.hid (own_pop OO.out)
      have HG : Hid (w.heap.size ≤ gg) := DO.out gg rfl
      have HGL : Hid (gg < wr.heap.size) := World.block_lt_of_cell? wr _ y0
      clear hce hcg hcell OO hem hcm
      go_wp2_with (at_builtin; refine list_app2 rfl (.tmp 31) (.tmp 33) 34 rfl 3 0 _ 1 8 Try.underlying34 info_int rfl (by decide) (by decide) (.slice B k d) k _ rfl (own_keeps OX.out ((Kept.refl _ _).alloc _)) (some ⟨wr.heap.size, 0, none⟩) 1 1 [i64 x] rfl rfl (holds_new _ _ _ _ _ rfl) (by simp [Value.oneCell', i64]) (by omega) (Nat.zero_le _) ?_; intro v3 w3 hown3 hwent3; (obtain ⟨B3, d3, rfl, _⟩ := own_slice hown3); have O3 := Lib.hid hown3; have W3 := Lib.hid hwent3; clear hown3 hwent3)
      have K3 : Hid (Kept (fun b => (Value.slice B k d).ownBlock = some b) wr w3) := ((Kept.refl _ _).alloc _).trans W3.out.kept (fun b hb => .inl hb)
      have BW3 : Hid (Below w.heap.size w w3) := HW.out.trans (K3.out.below (fun b hb => (DX.out b hb).1) HW.out.size)
      have OP3 : Hid (w3.ownsRow 0 3 1 (.slice (some ⟨gg, 0, none⟩) l e) l (os'.map i64)) := own_kept HP.out K3.out (fun b hb e => (DX.out b e).2 hb)
      have HG3 : Hid (gg < w3.heap.size) := Nat.lt_of_lt_of_le HGL.out K3.out.size
      have DIS : Hid (∀ b, (Value.slice B3 (k + 1) d3).ownBlock = some b → w.heap.size ≤ b ∧ b ≠ gg) := fun b hb => by
        rcases W3.out.block with e | e
        · have := DX.out b (e ▸ hb)
          exact ⟨this.1, fun e2 => this.2 (by rw [e2]; rfl)⟩
        · have h1 := Option.some.inj (e.symm.trans hb)
          have h2 := HW.out.size
          have h3 := HGL.out
          simp at h1
          exact ⟨by omega, by omega⟩
      have CX := Lib.hid (HC.out x w3 HXH.out BW3.out)
      have hq2 := chl_le HI.out x
      obtain ⟨q, hq⟩ : ∃ q, (chl L x).length = q := ⟨_, rfl⟩
      rw [hq] at CX hq2
      have HQ := Lib.hid hq
      clear hq W3 HP K3
      (with_reducible refine CX.out.mono ?_)
      rintro e4 w4 ⟨A4, c4, rfl, o4, b4, f4⟩
      have O4 := Lib.hid o4
      have B4 := Lib.hid b4
      have F4 := Lib.hid f4
      clear o4 b4 f4 CX
      cases t with
      | false =>
        have RV := Lib.hid (reverse_any w4 _ _ _ O4.out)
        go_wp2_with fail
        (with_reducible refine RV.out.mono ?_)
        rintro e5 w5 ⟨rfl, o5, k5⟩
        have O5 := Lib.hid o5
        have B35 : Below w3.heap.size w3 w5 := B4.out.trans (k5.below (fun b hb => F4.out b hb) B4.out.size)
        have HL2 : k + 1 + (l + q) ≤ m := by
          have := L1.out
          rw [List.length_append, List.length_append, HX.out, HO'.out, List.length_reverse] at this
          have h2 : (odr L false x).length = q := by unfold odr; simpa using HQ.out
          rw [h2] at this
          exact this
        obtain ⟨QQ, hQQ⟩ : ∃ QQ, (chl L x).reverse = QQ := ⟨_, rfl⟩
        have HQQ : QQ.length = q := by rw [← hQQ, List.length_reverse]; exact HQ.out
        have S6 : Stk L false n (xs ++ [x]) (os' ++ QQ) := by rw [← hQQ]; exact S1.out
        rw [hQQ] at O5
        clear o5 k5 RV hQQ
        go_wp2_with (at_builtin; refine list_app2 rfl (.tmp 42) (.tmp 43) 34 rfl 3 0 _ 1 8 Try.underlying34 info_int rfl (by decide) (by decide) (.slice (some ⟨gg, 0, none⟩) l e) l _ rfl (own_keeps OP3.out (Kept.of_below B35)) A4 q c4 (QQ.map i64) rfl (by rw [List.length_map, Nat.mul_one]; exact HQQ) (holds_own O5.out) one64 (by omega) (Nat.zero_le _) ?_; intro v6 w6 hown6 hwent6; (obtain ⟨C6, e6, rfl, _⟩ := own_slice hown6); have O6 := Lib.hid hown6; have W6 := Lib.hid hwent6; clear hown6 hwent6)
        obtain ⟨f1, f2, f3, f4⟩ := stk_fin B35 O3.out HG3.out HG.out DIS.out BW3.out W6.out
        exact ⟨⟨xs ++ [x], os' ++ QQ, k + 1, l + q, B3, C6, d3, e6, HL2, rfl, rfl, by show _ = _; rw [List.length_append, HX.out]; rfl, by show _ = _; rw [List.length_append, HO'.out, HQQ], (by show World.ownsRow _ _ _ _ _ _ _; rw [List.map_append]; exact f1), by show World.ownsRow _ _ _ _ _ _ _; rw [List.map_append]; exact O6.out, by show Stk _ _ _ _ _; exact S6, f2, f3, f4⟩, by simp [lenV]; omega⟩
      | true =>
        obtain ⟨QQ, hQQ⟩ : ∃ QQ, chl L x = QQ := ⟨_, rfl⟩
        have HQQ : QQ.length = q := by rw [← hQQ]; exact HQ.out
        have B35 : Below w3.heap.size w3 w4 := B4.out
        have O5 := O4
        have HL2 : k + 1 + (l + q) ≤ m := by
          have := L1.out
          rw [List.length_append, List.length_append, HX.out, HO'.out, List.length_reverse] at this
          have h2 : (odr L true x).length = q := by unfold odr; simpa using HQ.out
          rw [h2] at this
          exact this
        have S6 : Stk L true n (xs ++ [x]) (os' ++ QQ) := by
          have := S1.out
          rw [show (odr L true x).reverse = QQ by unfold odr; simpa using hQQ] at this
          exact this
        rw [hQQ] at O5
        clear hQQ
        go_wp2_with (at_builtin; refine list_app2 rfl (.tmp 42) (.tmp 43) 34 rfl 3 0 _ 1 8 Try.underlying34 info_int rfl (by decide) (by decide) (.slice (some ⟨gg, 0, none⟩) l e) l _ rfl (own_keeps OP3.out (Kept.of_below B35)) A4 q c4 (QQ.map i64) rfl (by rw [List.length_map, Nat.mul_one]; exact HQQ) (holds_own O5.out) one64 (by omega) (Nat.zero_le _) ?_; intro v6 w6 hown6 hwent6; (obtain ⟨C6, e6, rfl, _⟩ := own_slice hown6); have O6 := Lib.hid hown6; have W6 := Lib.hid hwent6; clear hown6 hwent6)
        obtain ⟨f1, f2, f3, f4⟩ := stk_fin B35 O3.out HG3.out HG.out DIS.out BW3.out W6.out
        exact ⟨⟨xs ++ [x], os' ++ QQ, k + 1, l + q, B3, C6, d3, e6, HL2, rfl, rfl, by show _ = _; rw [List.length_append, HX.out]; rfl, by show _ = _; rw [List.length_append, HO'.out, HQQ], (by show World.ownsRow _ _ _ _ _ _ _; rw [List.map_append]; exact f1), by show World.ownsRow _ _ _ _ _ _ _; rw [List.map_append]; exact O6.out, by show Stk _ _ _ _ _; exact S6, f2, f3, f4⟩, by simp [lenV]; omega⟩
end
end Go.Proofs.Ytkmmpagflbnenaa.Kin

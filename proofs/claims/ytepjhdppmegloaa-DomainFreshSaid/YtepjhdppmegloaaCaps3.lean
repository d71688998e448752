/- The reference's list. -/
import Derived.Test.YtepjhdppmegloaaCaps2
namespace Go.Proofs.Ytepjhdppmegloaa.Caps
open Go.RowKit Go.Proofs.Ytepjhdppmegloaa.Mem

set_option maxHeartbeats 1000000 in
theorem refAt_in {T : Nat} (w : World) (p : Nat) (most : Int) (l : List Cap) (F : Nat → Prop) (i : Int) (h : ListAt T w p most l F) (hi : hasB l i = true) :
    Calls Try.prog 21 #[.pointer (some ⟨p, 0, none⟩), .int .i64 i] w fun e w' => e = .returned (.tuple #[capV (l.getD i.toNat z0), .int .i64 0]) ∧ Below w.heap.size w w' := by
  have hL := h
  obtain ⟨v, h1, h2, h3, h4⟩ := h
  have hi' : 0 ≤ i ∧ i < l.length := by simpa [hasB] using hi
  obtain ⟨i0, i1⟩ := hi'
  obtain ⟨g, c, cur, rfl, hg, hc, _, _, _, hcell⟩ := own_form h2 (by omega)
  have c1 : w.cell? ⟨p, 1, none⟩ = some (.slice (some ⟨g, 0, none⟩) l.length c) := cell_row h1 rfl
  have hp := lt_of_row h1
  have hgl := lt_of_row hg
  obtain ⟨x, hx⟩ : ∃ x, l.getD i.toNat z0 = x := ⟨_, rfl⟩
  have k0 : w.cell? ⟨g, i.toNat * 3, none⟩ = some (.int .i64 (l.getD i.toNat z0).obj) := hcell _ _ (capsC_at l i.toNat 0 (by omega) (by omega))
  have k1 : w.cell? ⟨g, i.toNat * 3 + 1, none⟩ = some (.int .u64 (l.getD i.toNat z0).hi) := hcell _ _ (capsC_at l i.toNat 1 (by omega) (by omega))
  have k2 : w.cell? ⟨g, i.toNat * 3 + 2, none⟩ = some (.int .u64 (l.getD i.toNat z0).lo) := hcell _ _ (capsC_at l i.toNat 2 (by omega) (by omega))
  rw [hx] at k0 k1 k2 ⊢
  clear hx
  go_enter Try.func21, Try.ntmps21
  go_wp2
  refine bodyPost_ret (v := .tuple #[capV x, .int .i64 0]) (by simp [results, go_sem, capV]) rfl ⟨rfl, ?_⟩
  exact (Below.refl _ _).alloc (Nat.le_refl _) _
set_option maxHeartbeats 1000000 in
theorem refAt_out {T : Nat} (w : World) (p : Nat) (most : Int) (l : List Cap) (F : Nat → Prop) (i : Int) (h : ListAt T w p most l F) (hi : hasB l i = false) :
    Calls Try.prog 21 #[.pointer (some ⟨p, 0, none⟩), .int .i64 i] w fun e w' => e = .returned (.tuple #[capV z0, .int .i64 15]) ∧ Below w.heap.size w w' := by
  have hi' : ¬ (0 ≤ i ∧ i < (l.length : Int)) := fun h => by simp [hasB, h.1, h.2] at hi
  obtain ⟨v, h1, h2, h3, h4⟩ := h
  obtain ⟨A, c, rfl, hc⟩ := own_slice h2
  have c1 : w.cell? ⟨p, 1, none⟩ = some (.slice A l.length c) := cell_row h1 rfl
  have hp := lt_of_row h1
  by_cases hn : i < 0
  · go_enter Try.func21, Try.ntmps21
    go_wp2
    refine bodyPost_ret (v := .tuple #[capV z0, .int .i64 15]) (by simp [results, go_sem, capV]) rfl ⟨rfl, ?_⟩
    exact (Below.refl _ _).alloc (Nat.le_refl _) _
  · have hge : (l.length : Int) ≤ i := by omega
    go_enter Try.func21, Try.ntmps21
    go_wp2
    refine bodyPost_ret (v := .tuple #[capV z0, .int .i64 15]) (by simp [results, go_sem, capV]) rfl ⟨rfl, ?_⟩
    exact (Below.refl _ _).alloc (Nat.le_refl _) _

set_option maxHeartbeats 4000000 in
theorem refAdd_full (w : World) (p : Nat) (most : Int) (l : List Cap) (F : Nat → Prop) (x : Cap) (h : ListAt 60 w p most l F) (hf : (l.length : Int) = most) :
    Calls Try.prog 19 #[.pointer (some ⟨p, 0, none⟩), capV x] w fun e w' => e = .returned (.int .i64 14) ∧ Now 60 w p most F l w' := by
  have hL := h
  obtain ⟨v, h1, h2, h3, h4⟩ := h
  obtain ⟨A, c, rfl, hc⟩ := own_slice h2
  have c0 : w.cell? ⟨p, 0, none⟩ = some (.int .i64 most) := cell_row h1 rfl
  have c1 : w.cell? ⟨p, 1, none⟩ = some (.slice A l.length c) := cell_row h1 rfl
  have hp := lt_of_row h1
  have hfb : ((l.length : Int) == most) = true := by simpa using hf
  clear hf
  go_enter Try.func19, Try.ntmps19
  go_wp2
  go_quiet (fail)
  go_wp2
  go_ret
  exact ⟨rfl, Now.same hL ((((Kept.refl (fun _ => False) w).alloc _).drewN _).below (fun _ h => h.elim) (Nat.le_refl _))⟩
set_option maxHeartbeats 4000000 in
theorem refAdd_room (w : World) (p : Nat) (most : Int) (l : List Cap) (F : Nat → Prop) (x : Cap) (h : ListAt 60 w p most l F) (hf : (l.length : Int) ≠ most) (hb : l.length ≤ 1000000) :
    Calls Try.prog 19 #[.pointer (some ⟨p, 0, none⟩), capV x] w fun e w' => e = .returned (.int .i64 0) ∧ Now 60 w p most F (l ++ [x]) w' := by
  have hL := h
  obtain ⟨v, h1, h2, h3, h4⟩ := h
  obtain ⟨A, c, rfl, hc⟩ := own_slice h2
  have c0 : w.cell? ⟨p, 0, none⟩ = some (.int .i64 most) := cell_row h1 rfl
  have c1 : w.cell? ⟨p, 1, none⟩ = some (.slice A l.length c) := cell_row h1 rfl
  have hp := lt_of_row h1
  have hfb : ((l.length : Int) == most) = false := by simpa using hf
  clear hf
  go_enter Try.func19, Try.ntmps19
  go_wp2
  go_quiet (fail)
  go_wp2
  have hKK := Lib.hid (fun (o1 o2 : Obj) n => (((Kept.refl (fun _ => False) w).alloc o1).drewN n).alloc o2)
  have h22 := Lib.hid h2
  have h11 := Lib.hid h1
  have h44 := Lib.hid h4
  clear h1 h2 h4
  go_region_law (refine step_app rfl (.tmp 19) (.tmp 21) 43 rfl 37 0 _ 3 24 Try.underlying43 info37 rfl (by decide) (by decide) (.slice A l.length c) l.length (capsC l) rfl (own_keeps h22.out (hKK.out _ _ _)) _ 1 1 (capC x) rfl rfl (holds_new _ _ _ _ _ (by simp)) (by simp [capC, Value.oneCell']) (by omega) (Nat.zero_le _) ?_; intro v1 w1 hown1 hgrow1 hat1 _; obtain ⟨A1, c1', rfl, _⟩ := own_slice hown1; have r1 := Lib.hid (row_grown (no_keeps h11.out (hKK.out _ _ _)) hgrow1 (fun e => (h44.out p e).2 rfl)); have e1 := cell_row (j := 1) r1.out rfl; have f1 := free_row (j := 1) r1.out)
  all_goals
    go_wp2
    go_ret
    refine ⟨rfl, now_stored r1.out (by simpa [capsC, List.flatMap_append] using hown1) ((Kept.of_below (((hKK.out _ _ _).below (B := w.heap.size) (fun _ h => h.elim) (Nat.le_refl _)))).grown hgrow1 (fun k hk => .inl (h44.out k hk).1)) h3 ?_ hp⟩
    intro k hk
    rcases hat1 with h | h
    · exact .inl (h44.out k (h ▸ hk))
    · right
      have := Option.some.inj (hk.symm.trans h)
      rw [this]; simp; omega

set_option maxHeartbeats 4000000 in
theorem refRemove_out (w : World) (p : Nat) (most : Int) (l : List Cap) (F : Nat → Prop) (i : Int) (h : ListAt 60 w p most l F) (hi : hasB l i = false) :
    Calls Try.prog 20 #[.pointer (some ⟨p, 0, none⟩), .int .i64 i] w fun e w' => e = .returned (.tuple #[capV z0, .int .i64 15]) ∧ Now 60 w p most F l w' := by
  have hL := Lib.hid h
  clear h
  go_enter Try.func20, Try.ntmps20
  go_wp2_with (go_at_call 21; refine (refAt_out (T := 60) _ p most l F i (hL.out.alloc _) hi).mono ?_; rintro e w1 ⟨rfl, hb1⟩; obtain ⟨q0, q1, q2, q3, q4, q5⟩ := row3 ((hb1.block w.heap.size (by simp)).trans (heap_alloc_new w _)); have hwl : w.heap.size < w1.heap.size := Nat.lt_of_lt_of_le (by simp) hb1.size; have hK := Lib.hid ((((Kept.refl (fun _ => False) w).alloc (Obj.cells #[Value.int IntKind.i64 0, Value.int IntKind.u64 0, Value.int IntKind.u64 0] 37)).then_below hb1)))
  refine bodyPost_ret (v := .tuple #[capV z0, .int .i64 15]) (by simp [results, go_sem, q0, q1, q2, hwl]) rfl ⟨rfl, Now.same hL.out ?_⟩
  exact Kept.below (((((hK.out.mono (T := fun k => w.heap.size ≤ k) (fun _ h => h.elim)).setCell (.inl (Nat.le_refl _)) _).setCell (.inl (Nat.le_refl _)) _).setCell (.inl (Nat.le_refl _)) _).alloc _) (fun _ h => h) (Nat.le_refl _)



theorem info_caps : (Try.prog.info? 37).map (fun i => (i.zero, i.size, i.bytes)) = some (some (.agg #[.int .i64 0, .int .u64 0, .int .u64 0]), 3, 24) := info37
theorem own_block1 {v : Value} {n : Nat} (h : v.ownBlock = (Value.slice none 0 0).ownBlock ∨ v.ownBlock = some n) : ∀ k, v.ownBlock = some k → k = n := by
  intro k hk
  rcases h with h | h
  · rw [hk] at h; simp [Value.ownBlock] at h
  · rw [hk] at h; exact Option.some.inj h
set_option maxHeartbeats 4000000 in
theorem refRemove_in (w : World) (p : Nat) (most : Int) (l : List Cap) (F : Nat → Prop) (i : Int) (h : ListAt 60 w p most l F) (hi : hasB l i = true) (hb : l.length ≤ 1000000) :
    Calls Try.prog 20 #[.pointer (some ⟨p, 0, none⟩), .int .i64 i] w fun e w' => e = .returned (.tuple #[capV (l.getD i.toNat z0), .int .i64 0]) ∧ Now 60 w p most F (l.take i.toNat ++ l.drop (i.toNat + 1)) w' := by
  have hL := Lib.hid h
  have hi' : 0 ≤ i ∧ i < l.length := by simpa [hasB] using hi
  obtain ⟨i0, i1⟩ := hi'
  obtain ⟨v, h1, h2, h3, h4⟩ := h
  obtain ⟨g, c, cur, rfl, hg, hc, hcm, hcs, htk, hcell⟩ := own_form h2 (by omega)
  have hp := lt_of_row h1
  have hgl := lt_of_row hg
  have hgp := (h4 g rfl).2
  have h11 := Lib.hid h1
  have h22 := Lib.hid h2
  have h44 := Lib.hid h4
  have hgg := Lib.hid hg
  have htt := Lib.hid htk
  have hcc := Lib.hid hcs
  clear h1 h2 h4 hg htk hcs hcell
  obtain ⟨x, hx⟩ : ∃ x, l.getD i.toNat z0 = x := ⟨_, rfl⟩
  have hx' := Lib.hid hx
  have hat := Lib.hid (fun w' (h : ListAt 60 w' p most l F) => refAt_in (T := 60) w' p most l F i h hi)
  rw [hx] at hat ⊢
  clear hx hi
  obtain ⟨j, hj⟩ : ∃ j : Nat, i = (j : Int) := ⟨i.toNat, by omega⟩
  subst hj
  have hjl : j < l.length := by omega
  have hjc : ¬ c = j := by omega
  have hjle : j ≤ l.length := by omega
  have hjle1 : j + 1 ≤ l.length := by omega
  have hjcap : j ≤ c := by omega
  have hjle2 : (j : Int) + 1 ≤ (l.length : Int) := by omega
  unfold maxLen at hcm
  obtain ⟨sp, hsp⟩ : ∃ sp, (if c = j + 1 then some (⟨g, 0, none⟩ : Addr) else some ⟨g, (j + 1) * 3, none⟩) = sp := ⟨_, rfl⟩
  have HS : Hid (∀ w', Kept (fun _ => False) w w' → Holds w' sp (capsC (l.drop (j + 1)))) := by
    intro w' hk hpos
    rw [capsC_length, List.length_drop] at hpos
    rw [if_neg (by omega)] at hsp
    subst hsp
    refine ⟨_, rfl, fun q u hu => ?_⟩
    rw [capsC_drop, List.getElem?_drop] at hu
    have e2 : (⟨g, (j + 1) * 3, none⟩ : Addr).add q = ⟨g, (j + 1) * 3 + q, none⟩ := by unfold Addr.add; split <;> simp_all
    rw [e2]
    rw [← htt.out, List.getElem?_take] at hu
    split at hu
    · exact cell_row (no_keeps hgg.out hk) (by simpa using hu)
    · cases hu
  have HS1 : Hid (∀ w', Kept (fun _ => False) w w' → Holds w' (some ⟨g, 0, none⟩) (capsC (l.take j))) := by
    intro w' hk hpos
    refine ⟨_, rfl, fun q u hu => ?_⟩
    have e2 : (⟨g, 0, none⟩ : Addr).add q = ⟨g, q, none⟩ := by unfold Addr.add; split <;> simp_all
    rw [e2]
    rw [capsC_take, List.getElem?_take] at hu
    split at hu
    · rw [← htt.out, List.getElem?_take] at hu
      split at hu
      · exact cell_row (no_keeps hgg.out hk) (by simpa using hu)
      · cases hu
    · cases hu
  have hlen1 : Hid ((capsC (l.take j)).length = j * 3) := by
    show _ = _
    rw [capsC_length, List.length_take, Nat.min_eq_left (by omega)]
  have hlen2 : Hid ((capsC (l.drop (j + 1))).length = (l.length - (j + 1)) * 3) := by
    show _ = _
    rw [capsC_length, List.length_drop]
  go_enter Try.func20, Try.ntmps20
  go_wp2_with (first | (go_at_call 21; refine (hat.out _ (hL.out.alloc _)).mono ?_; rintro e w1 ⟨rfl, hb1⟩; have c1 : w1.cell? ⟨p, 1, none⟩ = some (.slice (some ⟨g, 0, none⟩) l.length c) := cell_row (no_keeps h11.out (((Kept.refl _ w).alloc _).then_below hb1)) rfl; have hpl : p < w1.heap.size := Nat.lt_of_lt_of_le hp (Nat.le_trans (by simp) hb1.size); have hK1 := Lib.hid ((((Kept.refl (fun _ => False) w).alloc (Obj.cells #[Value.int IntKind.i64 0, Value.int IntKind.u64 0, Value.int IntKind.u64 0] 37)).then_below hb1)); have hold := Lib.hid ((hb1.block w.heap.size (by simp)).trans (heap_alloc_new w _)); have hwl : w.heap.size < w1.heap.size := Nat.lt_of_lt_of_le (by simp) hb1.size; clear hb1) | (at_builtin; refine list_app rfl (.tmp 19) (.tmp 25) 43 rfl 37 0 _ 3 24 Try.underlying43 info37 rfl (by decide) (by decide) (.slice none 0 0) 0 [] rfl (World.ownsRow_nil _ _ _ _) (some ⟨g, 0, none⟩) j c (capsC (l.take j)) rfl hlen1.out (HS1.out _ ((hK1.out.alloc _))) (capsC_one _) (by omega) (Nat.zero_le _) ?_; intro v1 w2 hown1 hgrow1 hat1 _; simp only [Nat.zero_add, List.nil_append] at hown1 hat1; have HG1 := Lib.hid hgrow1; have HA1 := Lib.hid hat1; have HO1 := Lib.hid hown1; have K2 := Lib.hid (((hK1.out.alloc _)).grown hgrow1 (fun k hk => by simp [Value.ownBlock] at hk)); have hsz2 : w1.heap.size < w2.heap.size := Nat.lt_of_lt_of_le (by simp) hgrow1.size; have c2 : w2.cell? ⟨p, 1, none⟩ = some (.slice (some ⟨g, 0, none⟩) l.length c) := cell_row (no_keeps h11.out K2.out) rfl; clear hown1 hgrow1 hat1; obtain ⟨A1, c1', rfl, _⟩ := own_slice HO1.out) | (at_builtin; refine list_app rfl (.tmp 28) (.tmp 35) 43 rfl 37 0 _ 3 24 Try.underlying43 info37 rfl (by decide) (by decide) (.slice A1 j c1') j _ rfl HO1.out sp _ _ (capsC (l.drop (j + 1))) rfl hlen2.out (HS.out _ K2.out) (capsC_one _) (by omega) (Nat.zero_le _) ?_; intro v3 w3 hown3 hgrow3 hat3 _; have HO3 := Lib.hid hown3; have HG3 := Lib.hid hgrow3; have HA3 := Lib.hid hat3; have P3 := Lib.hid (row_grown (no_keeps h11.out K2.out) hgrow3 (fun e => by rcases HA1.out with h | h <;> rw [h] at e <;> simp [Value.ownBlock] at e; omega)); have c3 : w3.cell? ⟨p, 1, none⟩ = some (.slice (some ⟨g, 0, none⟩) l.length c) := cell_row P3.out rfl; have f3 : w3.frozen? ⟨p, 1, none⟩ = false := free_row P3.out; have HN1 := Lib.hid (own_block1 HA1.out); have O3 := Lib.hid (row_grown (row_grown (no_keeps hold.out ((Kept.refl _ w1).alloc (Obj.cells #[Value.int IntKind.i64 x.obj, Value.int IntKind.u64 x.hi, Value.int IntKind.u64 x.lo] 37))) HG1.out (by simp [Value.ownBlock])) hgrow3 (fun e => absurd (HN1.out _ e) (by simp; omega))); have X3 := Lib.hid (row_grown (row_grown (heap_alloc_new w1 (Obj.cells #[Value.int IntKind.i64 x.obj, Value.int IntKind.u64 x.hi, Value.int IntKind.u64 x.lo] 37)) HG1.out (by simp [Value.ownBlock])) hgrow3 (fun e => absurd (HN1.out _ e) (by simp))); obtain ⟨q0, q1, q2, q3, q4, q5⟩ := row3 O3.out; obtain ⟨t0, t1, t2, t3, t4, t5⟩ := row3 X3.out; obtain ⟨A3, c3', rfl, _⟩ := own_slice hown3; clear hown3 hgrow3 hat3))
  have hpw : ¬ p = w.heap.size := by omega
  refine bodyPost_ret (v := .tuple #[capV x, .int .i64 0]) (by simp [results, go_sem, q0, q1, q2]) rfl ⟨rfl, ?_⟩
  have hn3 : ∀ k, (Value.slice A3 (j + (l.length - (j + 1))) c3').ownBlock = some k → w.heap.size < k ∧ k ≠ p := by
    intro k hk
    rcases HA3.out with h | h
    · have := HN1.out k (h ▸ hk)
      simp at this; omega
    · have := Option.some.inj (hk.symm.trans h)
      omega
  have hgs := HG3.out.size
  refine ⟨fun k => F k ∨ w.heap.size ≤ k, ⟨.slice A3 (j + (l.length - (j + 1))) c3', ?_, ?_, .inl h3, fun k hk => ⟨.inr (Nat.le_of_lt (hn3 k hk).1), (hn3 k hk).2⟩⟩, fun _ h => h, ?_⟩
  · exact ((((Kept.refl (fun k => k = w.heap.size) _).setCell (.inl rfl) _).setCell (.inl rfl) _).setCell (.inl rfl) _).row (heap_setCell_same w3 p 1 _ _ _ P3.out) hpw
  · refine own_kept (S := fun k => k = p ∨ k = w.heap.size) ?_ (((((Kept.refl _ w3).setCell (.inl (.inl rfl)) _).setCell (.inl (.inr rfl)) _).setCell (.inl (.inr rfl)) _).setCell (.inl (.inr rfl)) _) (fun k hk h => by have := hn3 k hk; rcases h with h | h <;> omega)
    have e : (l.take (j : Int).toNat ++ l.drop ((j : Int).toNat + 1)).length = j + (l.length - (j + 1)) := by simp; omega
    rw [e, capsC_append]
    exact HO3.out
  · exact ((((((K2.out.mono (T := F) (fun _ h => h.elim)).grown HG3.out (fun k hk => .inr (by have := HN1.out k hk; simp at this; omega))).setCell (.inl h3) _).setCell (.inr (Nat.le_refl _)) _).setCell (.inr (Nat.le_refl _)) _).setCell (.inr (Nat.le_refl _)) _)

end Go.Proofs.Ytepjhdppmegloaa.Caps

/- Lists of numbers: Clone, Index, Delete. Own text; Ytkmmpagflbnenaa and the numbers between @..@ are the seat's. -/
import Derived.Test.YtkmmpagflbnenaaKinA
import Derived.StillTailTactics
import Derived.Laws.OwnMore
namespace Go.Proofs.Ytkmmpagflbnenaa.Kin
open Go.RowKit Go.Proofs.Ytkmmpagflbnenaa.Mem
set_option linter.unusedVariables false
def Fresh (w : World) (v : Value) : Prop := ∀ b, v.ownBlock = some b → w.heap.size ≤ b
theorem one64 {zs : List Int} : ∀ u ∈ zs.map i64, u.oneCell' = true := fun u hu => by obtain ⟨_, _, rfl⟩ := List.mem_map.1 hu; rfl
theorem holds_own {w : World} {A : Option Addr} {n c : Nat} {zs : List Int} (h : w.ownsRow 0 3 1 (.slice A n c) n (zs.map i64)) : Holds w A (zs.map i64) := fun hp => by
  have hn : 0 < n := by have := h.1; simp at this hp; omega
  obtain ⟨g, c', cur, e, _, _, _, _, _, hcell⟩ := own_form h hn
  obtain ⟨rfl, _⟩ : A = some ⟨g, 0, none⟩ ∧ c = c' := by simpa using e
  refine ⟨_, rfl, fun j u hu => ?_⟩
  have e2 : (⟨g, 0, none⟩ : Addr).add j = ⟨g, j, none⟩ := by unfold Addr.add; split <;> simp_all
  rw [e2]; exact hcell j u hu
section
variable {P : Program} {ops : Array Oper} {rest : List Oper} {o : Oper} {a : Act} {Q : Exit → Act → World → Prop} {w : World}
/-- append that fits, from whatever source, the row's own cells too. -/
theorem list_app_fits (hgd : o.guard = none) (s x : Operand) (t : TypeId) (ho : o.op = .call { callee := .builtin .append, args := #[s, x], argTypes := #[t, t] })
    (e : TypeId) (base : Nat) (z : Value) (size bytes : Nat) (ht : P.underlying t = some (.slice e)) (hinfo : (P.info? e).map (fun i => (i.zero, i.size, i.bytes)) = some (some z, size, bytes)) (hsz : 0 < size)
    (g n cap : Nat) (xs : List Value) (hs : a.eval s = .slice (some ⟨g, 0, none⟩) n cap) (hown : w.ownsRow base e size (.slice (some ⟨g, 0, none⟩) n cap) n xs)
    (sp : Option Addr) (m c : Nat) (news : List Value) (hx : a.eval x = .slice sp m c) (hl : news.length = m * size) (hsrc : Holds w sp news) (h1 : ∀ u ∈ news, u.oneCell' = true) (hfit : n + m ≤ cap)
    (h : ∀ w', w'.ownsRow base e size (.slice (some ⟨g, 0, none⟩) (n + m) cap) (n + m) (xs ++ news) → w.grownBy w' (some g) → wpList P ops Q rest (a.put o.dst (.slice (some ⟨g, 0, none⟩) (n + m) cap)) w') : wpList P ops Q (o :: rest) a w := by
  refine wpList_plain hgd fun K hK => ?_
  obtain ⟨i, hi, hz, hsize, hby⟩ := info_parts hinfo
  have key : ∃ w', (Builtin.append_ #[t, t] o.type #[.slice (some ⟨g, 0, none⟩) n cap, .slice sp m c]).run P w = .ok (.slice (some ⟨g, 0, none⟩) (n + m) cap) w' ∧ w'.ownsRow base e size (.slice (some ⟨g, 0, none⟩) (n + m) cap) (n + m) (xs ++ news) ∧ w.grownBy w' (some g) := by
    by_cases hm : m = 0
    · subst hm
      obtain rfl : news = [] := List.eq_nil_of_length_eq_zero (by simpa using hl)
      refine ⟨w, ?_, by simpa using hown, ⟨rfl, rfl, rfl, Nat.le_refl _, fun _ _ _ => rfl⟩⟩
      refine run_append_nothing w t t o.type e i ht hi (some ⟨g, 0, none⟩) n cap (by omega) _ ?_
      cases sp with
      | none => exact Src.ofNil w ht c
      | some ad => exact Src.ofSlice w ht ad 0 c [] (by simp) (by intro j u h; simp at h) (by simp)
    · obtain ⟨ad, rfl, hnews⟩ := hsrc (by rw [hl]; exact Nat.mul_pos (by omega) hsz)
      exact run_append_fits (P := P) w base t o.type e i size ht hi hsize g n cap xs hown ad m c news hl hnews h1 hfit
  obtain ⟨w', hr, h2, h3⟩ := key
  unfold Oper.wp execOp
  simp only [ho, resolve, invoke, builtin, Sem.run_bind, Sem.run_pure, Result.andThen_ok, List.map_toArray, List.map_cons, List.map_nil, hs, hx]
  rw [hr]
  exact hK _ _ (h w' h2 h3)
end
theorem run_clear1 (w : World) (ty : TypeId) (g off : Nat) (cur : Array Value) (t : TypeId) (hg : w.heap[g]? = some (.cells cur t (0, 0))) (hfit : off + 1 ≤ cur.size) (c : Nat) :
    (Builtin.clear_ #[34] ty #[.slice (some ⟨g, off, none⟩) 1 c]).run Try.prog w = .ok (.tuple #[]) (w.setRow g (cur.toList.take off ++ [i64 0] ++ cur.toList.drop (off + 1)).toArray) := by
  have hv : ∀ w, (zeroValue 3).run Try.prog w = .ok (.int .i64 0) w := fun w => by
    obtain ⟨i, hi, hz, _, _⟩ := info_parts info_int
    simp [zeroValue, typeInfo, hi, hz]
  have hst := run_storeCells_at Try.prog g off t [i64 0] 0 cur w hg (by simpa using hfit) (by intro v hv'; obtain rfl := List.mem_singleton.1 hv'; rfl)
  have hzc : (Builtin.zeroCells (Value.int .i64 0).cells 1).toList = [i64 0] := by simp [Builtin.zeroCells, Value.cells, i64]
  simp only [Nat.add_zero, List.length_singleton] at hst
  obtain ⟨R, hR⟩ : ∃ R, [i64 0] = R := ⟨_, rfl⟩
  rw [hR] at hst hzc ⊢
  simp [Builtin.clear_, run_underlying Try.underlying34, hv, hzc, hst]
section
variable {ops : Array Oper} {rest : List Oper} {o : Oper} {a : Act} {w : World} {Q : Exit → Act → World → Prop}
theorem list_clear1 (hgd : o.guard = none) (x : Operand) (ho : o.op = .call { callee := .builtin .clear, args := #[x], argTypes := #[34] }) (g off : Nat) (cur : Array Value) (t : TypeId) (hg : w.heap[g]? = some (.cells cur t (0, 0))) (hfit : off + 1 ≤ cur.size) (c len : Nat) (hx : a.eval x = .slice (some ⟨g, off, none⟩) len c) (hlen : len = 1)
    (h : ∀ w', w'.heap[g]? = some (.cells (cur.toList.take off ++ [i64 0] ++ cur.toList.drop (off + 1)).toArray t (0, 0)) → w.grownBy w' (some g) → w'.heap.size = w.heap.size → wpList Try.prog ops Q rest (a.put o.dst (.tuple #[])) w') : wpList Try.prog ops Q (o :: rest) a w := by
  subst hlen
  refine wpList_plain hgd fun K hK => ?_
  have hr := run_clear1 w o.type g off cur t hg hfit c
  unfold Oper.wp execOp
  simp only [ho, resolve, invoke, builtin, Sem.run_bind, Sem.run_pure, Result.andThen_ok, List.map_toArray, List.map_cons, List.map_nil, hx]
  rw [hr]
  exact hK _ _ (h _ (setRow_heap w g cur _ t _ hg) ⟨rfl, rfl, rfl, by simp [World.setRow], fun k _ hk => setRow_other w g k _ (fun e => hk (by rw [e]))⟩ (by simp [World.setRow]))
end
set_option maxHeartbeats 4000000 in
theorem clone_any (w : World) (v : Value) (n : Nat) (zs : List Int) (hown : w.ownsRow 0 3 1 v n (zs.map i64)) (hb : n ≤ 1000000) :
    Calls Try.prog 40 #[v] w fun e w' => ∃ A c, e = .returned (.slice A n c) ∧ w'.ownsRow 0 3 1 (.slice A n c) n (zs.map i64) ∧ Below w.heap.size w w' ∧ Fresh w (.slice A n c) := by
  obtain ⟨A, c, rfl, hnc⟩ := own_slice hown
  cases A with
  | none =>
    have hn : n = 0 := by
      rcases hown.2 with ⟨h1, h2⟩ | ⟨g, c', cur, h1, _⟩
      · simp at h1; exact h1.1
      · simp at h1
    subst hn
    have hc : c = 0 := by
      rcases hown.2 with ⟨h1, h2⟩ | ⟨g, c', cur, h1, _⟩
      · simpa using h1
      · simp at h1
    subst hc
    have hnil : ∀ w, (binOp .eql 34 (.slice none 0 0) (.slice none 0 0)).run Try.prog w = .ok (.bool true) w := fun w => by
      rw [show binOp .eql 34 (.slice none 0 0) (.slice none 0 0) = (do return .bool (← Op.equal 34 (.slice none 0 0) (.slice none 0 0))) from rfl]
      simp [run_equal_slice_nil w 34 3 none 0 0 Try.underlying34]
    have HO := Lib.hid hown
    clear hown
    go_enter Try.func40, Try.ntmps40
    go_wp2
    go_ret
    exact ⟨none, 0, rfl, HO.out, Below.refl _ _, fun b hb => by simp [Value.ownBlock] at hb⟩
  | some ad =>
    have hnil : ∀ w, (binOp .eql 34 (.slice (some ad) n c) (.slice none 0 0)).run Try.prog w = .ok (.bool false) w := fun w => by
      rw [show binOp .eql 34 (.slice (some ad) n c) (.slice none 0 0) = (do return .bool (← Op.equal 34 (.slice (some ad) n c) (.slice none 0 0))) from rfl]
      simp [run_equal_slice_nil w 34 3 (some ad) n c Try.underlying34]
    have HL : Hid ((zs.map i64).length = n * 1) := hown.1
    have HS := Lib.hid (holds_own (own_keeps hown ((Kept.refl _ w).alloc (.cells #[] 3))))
    clear hown
    go_enter Try.func40, Try.ntmps40
    go_wp2_with (at_builtin; refine list_app2 rfl (.tmp 5) (.tmp 6) 34 rfl 3 0 _ 1 8 Try.underlying34 info_int rfl (by decide) (by decide) (.slice (some ⟨w.heap.size, 0, none⟩) 0 0) 0 [] rfl (World.ownsRow_made w #[] 0 (Nat.zero_le _) (Nat.zero_le _) rfl) (some ad) n c (zs.map i64) rfl HL.out HS.out one64 (by omega) (Nat.zero_le _) ?_)
    intro v9 w9 hown9 hwent9
    obtain ⟨A9, c9, rfl, _⟩ := own_slice hown9
    go_wp2
    go_ret
    have hb9 : Below w.heap.size w w9 := ((Below.refl _ w).alloc (Nat.le_refl _) (.cells #[] 3)).trans (hwent9.kept.below (B := w.heap.size) (fun k hk => Nat.le_of_eq (by simpa [Value.ownBlock] using hk)) (by simp))
    refine ⟨A9, c9, by simp, by simpa using hown9, hb9, fun k hk => ?_⟩
    rcases hwent9.block with h | h
    · have := h.symm.trans (by simpa using hk)
      simp [Value.ownBlock] at this
      omega
    · have := Option.some.inj (h.symm.trans (by simpa using hk))
      simp at this
      omega
set_option maxHeartbeats 1000000 in
theorem index_any (w : World) (v : Value) (n : Nat) (A B : List Int) (x : Int) (hown : w.ownsRow 0 3 1 v n ((A ++ x :: B).map i64)) (hA : x ∉ A) (hb : n ≤ 1000000) :
    Calls Try.prog 44 #[v, .int .i64 x] w fun e w' => e = .returned (.int .i64 A.length) ∧ w = w' := by
  obtain ⟨Ad, c, rfl, hnc⟩ := own_slice hown
  have hl : A.length + 1 + B.length = n := by have := hown.1; simp at this; omega
  obtain ⟨g, c', cur, e, _, _, _, _, _, hcell⟩ := own_form hown (by omega)
  obtain ⟨rfl, rfl⟩ : Ad = some ⟨g, 0, none⟩ ∧ c = c' := by simpa using e
  have HC : Hid (∀ (j : Nat) z, (A ++ x :: B)[j]? = some z → w.cell? ⟨g, j, none⟩ = some (.int .i64 z)) := fun j z hz => hcell j (i64 z) (by rw [List.getElem?_map, hz]; rfl)
  have HA := Lib.hid hA
  clear hown e hcell hA
  obtain ⟨a, ha⟩ : ∃ a, A.length = a := ⟨_, rfl⟩
  have HL := Lib.hid ha
  rw [ha] at hl ⊢
  clear ha
  go_enter Try.func44, Try.ntmps44
  go_wp2
  go_loopw [8] (fun v8 wr => ∃ i : Nat, i ≤ a ∧ v8 = .int .i64 i ∧ wr = w) (fun v8 _ => a - (intOf v8).toNat)
  case atStart => exact ⟨0, Nat.zero_le _, rfl, rfl⟩
  case round =>
    obtain ⟨i, hi, rfl, rfl⟩ := hrel
    by_cases hlt : i < a
    · obtain ⟨z, hz⟩ : ∃ z, A[i]? = some z := ⟨_, List.getElem?_eq_getElem (by rw [HL.out]; exact hlt)⟩
      have y0 := HC.out i z (by rw [List.getElem?_append_left (by rw [HL.out]; exact hlt)]; exact hz)
      have hne : ¬ x = z := fun e => HA.out (e ▸ List.mem_of_getElem? hz)
      clear hz
      go_wp2
      exact ⟨⟨i + 1, by omega, by simp, trivial⟩, by simp [intOf]; omega⟩
    · have : i = a := by omega
      subst this
      have y0 := HC.out i x (by rw [List.getElem?_append_right (by rw [HL.out]; exact Nat.le_refl _), HL.out, Nat.sub_self]; rfl)
      go_wp2
      go_ret
      exact ⟨rfl, rfl⟩
end Go.Proofs.Ytkmmpagflbnenaa.Kin

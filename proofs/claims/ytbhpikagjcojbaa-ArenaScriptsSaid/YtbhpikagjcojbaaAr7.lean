/- The law's own helpers: num, rest, numbers, grown, full. -/
import Derived.Test.YtbhpikagjcojbaaAr6
namespace Go.Proofs.Ytbhpikagjcojbaa.Ar
open Go.RowKit Go.Proofs.Ytbhpikagjcojbaa.Mem
theorem num_any (w : World) (e : Int) : Calls Try.prog 8 #[.int .i64 e] w fun x w' => x = .returned (.int .i64 e) ∧ w = w' := by
  go_enter Try.func8, Try.ntmps8
  go_wp2
  go_ret
  exact ⟨rfl, rfl⟩
def restI (n top : Int) : Int := if n.tmod top < 0 then n.tmod top + top else n.tmod top
theorem restI_lo (n : Int) {top : Int} (h : 0 < top) : 0 ≤ restI n top := by
  unfold restI
  have h1 := Int.tmod_lt_of_pos n h
  have h2 := Int.lt_tmod_of_pos n h
  split <;> omega
theorem restI_hi (n : Int) {top : Int} (h : 0 < top) : restI n top < top := by
  unfold restI
  have h1 := Int.tmod_lt_of_pos n h
  split <;> omega
theorem rest_any (w : World) (n top : Int) (h : 0 < top) (h2 : top ≤ 1000000) : Calls Try.prog 6 #[.int .i64 n, .int .i64 top] w fun e w' => e = .returned (.int .i64 (restI n top)) ∧ w = w' := by
  have e1 := Int.tmod_lt_of_pos n h
  have e2 := Int.lt_tmod_of_pos n h
  unfold restI
  obtain ⟨m, hm⟩ : ∃ m, n.tmod top = m := ⟨_, rfl⟩
  have hw : IntKind.i64.wrap (n.tmod top) = m := by rw [hm]; exact IntWalk.i64_in _ (by omega)
  rw [hm] at e1 e2 ⊢
  by_cases hneg : m < 0
  · rw [if_pos hneg]
    go_enter Try.func6, Try.ntmps6
    go_wp2
    go_ret
    exact ⟨rfl, rfl⟩
  · rw [if_neg hneg]
    go_enter Try.func6, Try.ntmps6
    go_wp2
    go_ret
    exact ⟨rfl, rfl⟩
/-- Numbers that lie somewhere. -/
def ReadsInts (w : World) (v : Value) (zs : List Int) : Prop :=
  ∃ A c, v = .slice A zs.length c ∧ zs.length ≤ maxLen ∧ (0 < zs.length → ∃ g o, A = some ⟨g, o, none⟩ ∧ ∀ j u, zs[j]? = some u → w.cell? ⟨g, o + j, none⟩ = some (.int .i64 u))
theorem ReadsInts.below {w w' : World} {v : Value} {l : List Int} (h : ReadsInts w v l) (hb : Below w.heap.size w w') : ReadsInts w' v l := by
  obtain ⟨A, c, h1, h2, h3⟩ := h
  refine ⟨A, c, h1, h2, fun hne => ?_⟩
  obtain ⟨b, o, e, h4⟩ := h3 hne
  exact ⟨b, o, e, fun j u hu => (hb.cell (World.block_lt_of_cell? w _ (h4 j u hu))).trans (h4 j u hu)⟩
theorem reads_own {w : World} {base : Nat} {v : Value} {n : Nat} {zs : List Int} (hn : zs.length = n) (h : w.ownsRow base 3 1 v n (zs.map (Value.int .i64))) : ReadsInts w v zs := by
  subst hn
  obtain ⟨A, c, rfl, _⟩ := own_slice h
  refine ⟨A, c, rfl, own_max h, fun hp => ?_⟩
  obtain ⟨g, c', cur, e, _, _, _, _, _, hcell⟩ := own_form h hp
  obtain ⟨rfl, rfl⟩ : A = some ⟨g, 0, none⟩ ∧ c = c' := by simpa using e
  exact ⟨g, 0, rfl, fun j u hu => by rw [Nat.zero_add]; exact hcell j _ (by rw [List.getElem?_map, hu]; rfl)⟩
theorem reads_new {w : World} (zs : List Int) (n : Nat) (hn : zs.length = n) (hl : n ≤ maxLen) (cs : Array Value) (hc : cs.toList = zs.map (Value.int .i64)) : ReadsInts (w.alloc (.cells cs 3)) (.slice (some ⟨w.heap.size, 0, none⟩) n n) zs := by
  subst hn
  refine ⟨_, _, rfl, hl, fun _ => ⟨_, _, rfl, fun j u hu => ?_⟩⟩
  rw [Nat.zero_add]
  refine cell_row (heap_alloc_new w _) ?_
  rw [← Array.getElem?_toList, hc, List.getElem?_map, hu]
  rfl
set_option maxHeartbeats 1000000 in
theorem numbers_same (w : World) (u v : Value) (zs : List Int) (hu : ReadsInts w u zs) (hv : ReadsInts w v zs) : Calls Try.prog 13 #[u, v] w fun e w' => e = .returned (.bool true) ∧ Below w.heap.size w w' := by
  obtain ⟨A, c, rfl, hm, hA⟩ := hu
  obtain ⟨B, d, rfl, _, hB⟩ := hv
  obtain ⟨n, hn⟩ : ∃ n, zs.length = n := ⟨_, rfl⟩
  rw [hn] at hm hA hB ⊢
  have HN := Lib.hid hn
  have HA := Lib.hid hA
  have HB := Lib.hid hB
  unfold maxLen at hm
  clear hA hB hn
  go_enter Try.func13, Try.ntmps13
  go_wp2
  go_loopw [5] (fun v5 wr => ∃ i : Nat, i ≤ n ∧ v5 = .int .i64 i ∧ ∃ q, wr = w.drewN q) (fun v5 _ => n - (intOf v5).toNat)
  case atStart => exact ⟨0, Nat.zero_le _, rfl, 0, rfl⟩
  case round =>
    obtain ⟨i, hi, rfl, q, rfl⟩ := hrel
    by_cases hlt : i < n
    · obtain ⟨z, hz⟩ : ∃ z, zs[i]? = some z := ⟨_, List.getElem?_eq_getElem (by rw [HN.out]; exact hlt)⟩
      obtain ⟨g, o, rfl, h1⟩ := HA.out (by omega)
      obtain ⟨g2, o2, rfl, h2⟩ := HB.out (by omega)
      have y0 := h1 i z hz
      have y1 := h2 i z hz
      clear h1 h2 hz
      go_wp2_with fail
      go_quiet (fail)
      go_wp2
      exact ⟨⟨i + 1, by omega, by simp, _, rfl⟩, by simp [intOf]; omega⟩
    · have : i = n := by omega
      subst this
      go_wp2
      go_ret
      exact ⟨rfl, ⟨rfl, rfl, rfl, Nat.le_refl _, fun _ _ => rfl⟩⟩
/-- All of them are the same number. -/
def AllAre (w : World) (v : Value) (n : Nat) (m : Int) : Prop :=
  ∃ A c, v = .slice A n c ∧ n ≤ maxLen ∧ (0 < n → ∃ g, A = some ⟨g, 0, none⟩ ∧ ∀ j, j < n → w.cell? ⟨g, j, none⟩ = some (.int .i64 m))
set_option maxHeartbeats 1000000 in
theorem full_any (w : World) (v : Value) (n : Nat) (m : Int) (h : AllAre w v n m) : Calls Try.prog 23 #[v, .int .i64 m] w fun e w' => e = .returned (.bool true) ∧ w = w' := by
  obtain ⟨A, c, rfl, hm, hA⟩ := h
  have HA := Lib.hid hA
  unfold maxLen at hm
  clear hA
  go_enter Try.func23, Try.ntmps23
  go_wp2
  go_loopw [5] (fun v5 wr => ∃ i : Nat, i ≤ n ∧ v5 = .int .i64 i ∧ wr = w) (fun v5 _ => n - (intOf v5).toNat)
  case atStart => exact ⟨0, Nat.zero_le _, rfl, rfl⟩
  case round =>
    obtain ⟨i, hi, rfl, rfl⟩ := hrel
    by_cases hlt : i < n
    · obtain ⟨g, rfl, h1⟩ := HA.out (by omega)
      have y0 := h1 i hlt
      clear h1
      go_wp2
      exact ⟨⟨i + 1, by omega, by simp, trivial⟩, by simp [intOf]; omega⟩
    · have : i = n := by omega
      subst this
      go_wp2
      go_ret
      exact ⟨rfl, rfl⟩
set_option maxHeartbeats 1000000 in
/-- A row and what grew of it by eighty marks. -/
theorem grown_any (w : World) (v : Value) (n : Nat) (xs : List Value) (m : Int) (h : w.ownsRow 0 3 1 v n xs) (hn : n ≤ 1000000) : Calls Try.prog 22 #[v, .int .i64 m] w fun e w' => ∃ A c, e = .returned (.slice A (n + 80) c) ∧ Pair 3 1 w' 1 (fun _ => v) (fun _ => n) (fun _ => xs) (fun _ => .slice A (n + 80) c) (fun _ => n + 80) (fun _ => xs ++ List.replicate 80 (.int .i64 m)) ∧ Kept (fun b => v.ownBlock = some b) w w' ∧ (∀ b, (Value.slice A (n + 80) c).ownBlock = some b → v.ownBlock = some b ∨ w.heap.size ≤ b) := by
  obtain ⟨A0, c0, rfl, _⟩ := own_slice h
  have HP : Hid (Pair 3 1 w 1 (fun _ => Value.slice A0 n c0) (fun _ => n) (fun _ => xs) (fun _ => Value.slice A0 n c0) (fun _ => n) (fun _ => xs)) := Pair.start ⟨fun _ _ => h, fun j k b hj hk _ _ => by omega⟩
  clear h
  go_enter Try.func22, Try.ntmps22
  go_wp2
  go_loopw [0, 5] (fun v0 v5 wr => ∃ (i : Nat) (A : Option Addr) (c : Nat), i ≤ 80 ∧ v5 = .int .i64 i ∧ v0 = .slice A (n + i) c ∧ Hid (Pair 3 1 wr 1 (fun _ => Value.slice A0 n c0) (fun _ => n) (fun _ => xs) (fun _ => .slice A (n + i) c) (fun _ => n + i) (fun _ => xs ++ List.replicate i (.int .i64 m))) ∧ Hid (Kept (fun b => (Value.slice A0 n c0).ownBlock = some b) w wr) ∧ Hid (∀ b, (Value.slice A (n + i) c).ownBlock = some b → (Value.slice A0 n c0).ownBlock = some b ∨ w.heap.size ≤ b)) (fun _ v5 _ => 80 - (intOf v5).toNat)
  case atStart => exact ⟨0, A0, c0, Nat.zero_le _, rfl, rfl, by simpa using HP, Kept.refl _ _, fun b hb => .inl hb⟩
  case round =>
    clear HP
    obtain ⟨i, A, c, hi, rfl, rfl, HP, HK, HB⟩ := hrel
    by_cases hlt : i < 80
    · have HO := Lib.hid (HP.out.l.own 0 (by omega))
      go_wp2_with (at_builtin; refine list_app2 rfl (.tmp 10) (.tmp 12) 29 rfl 3 0 _ 1 8 Try.underlying29 info3 rfl (by decide) (by decide) (.slice A (n + i) c) (n + i) _ rfl (own_keeps HO.out ((Kept.refl _ _).alloc _)) (some ⟨wr.heap.size, 0, none⟩) 1 1 [.int .i64 m] rfl rfl (holds_new _ _ _ _ _ rfl) (by simp [Value.oneCell']) (by omega) (Nat.zero_le _) ?_; intro v9 w9 hown9 hwent9)
      obtain ⟨A9, c9, rfl, _⟩ := own_slice hown9
      have hp := (HP.out.kept (S := fun _ => False) (Kept.of_below ((Below.refl _ wr).alloc (Nat.le_refl _) (.cells #[.int .i64 m] 3))) (fun _ _ _ _ h => h) (fun _ _ _ _ h => h)).grow (by omega) (k := 0) (by omega) hown9 hwent9
      refine ⟨⟨i + 1, A9, c9, by omega, by simp, rfl, ?_, ?_, ?_⟩, by simp [intOf]; omega⟩
      · refine hp.congr (fun _ hk => by rw [if_pos (by omega)]; rfl) (fun _ hk => by rw [if_pos (by omega)]; rfl) (fun _ hk => ?_)
        rw [if_pos (by omega), List.replicate_succ', List.append_assoc]
      · exact ((HK.out.alloc _).trans hwent9.kept (fun b hb => HB.out b hb))
      · intro b hb
        rcases hwent9.block with e | e
        · exact HB.out b (e ▸ hb)
        · have h1 := Option.some.inj (e.symm.trans hb)
          have h2 := HK.out.size
          simp at h1
          exact .inr (by omega)
    · have : i = 80 := by omega
      subst this
      go_wp2
      go_ret
      exact ⟨A, c, rfl, HP.out, HK.out, HB.out⟩
end Go.Proofs.Ytbhpikagjcojbaa.Ar

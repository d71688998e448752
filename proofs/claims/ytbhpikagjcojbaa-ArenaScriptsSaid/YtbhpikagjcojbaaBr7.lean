/- Two arenas beside one another; copied, grown of any size; holds. -/
import Derived.Test.YtbhpikagjcojbaaBr6
import Derived.Test.YtbhpikagjcojbaaAr13
namespace Go.Proofs.Ytbhpikagjcojbaa.Ar
open Go.RowKit Go.Proofs.Ytbhpikagjcojbaa.Mem
set_option linter.unusedVariables false
set_option maxHeartbeats 1000000 in
theorem grown_big (w : World) (v : Value) (n : Nat) (xs : List Value) (m : Int) (h : w.ownsRow 0 3 1 v n xs) (hn : n * 8 ≤ 140737488351232) : Calls Try.prog 22 #[v, .int .i64 m] w fun e w' => ∃ A c, e = .returned (.slice A (n + 80) c) ∧ Pair 3 1 w' 1 (fun _ => v) (fun _ => n) (fun _ => xs) (fun _ => .slice A (n + 80) c) (fun _ => n + 80) (fun _ => xs ++ List.replicate 80 (.int .i64 m)) ∧ Kept (fun b => v.ownBlock = some b) w w' ∧ (∀ b, (Value.slice A (n + 80) c).ownBlock = some b → v.ownBlock = some b ∨ w.heap.size ≤ b) := by
  obtain ⟨A0, c0, rfl, _⟩ := own_slice h
  have HP : Hid (Pair 3 1 w 1 (fun _ => Value.slice A0 n c0) (fun _ => n) (fun _ => xs) (fun _ => Value.slice A0 n c0) (fun _ => n) (fun _ => xs)) := Pair.start ⟨fun _ _ => h, fun j k b hj hk _ _ => by omega⟩
  clear h
  go_enter Try.func22, Try.ntmps22
  go_wp2
  go_loopw [0, 5] (fun v0 v5 wr => ∃ (i : Nat) (A : Option Addr) (c : Nat), i ≤ 80 ∧ v5 = .int .i64 i ∧ v0 = .slice A (n + i) c ∧ Hid (Pair 3 1 wr 1 (fun _ => Value.slice A0 n c0) (fun _ => n) (fun _ => xs) (fun _ => .slice A (n + i) c) (fun _ => n + i) (fun _ => xs ++ List.replicate i (.int .i64 m))) ∧ Hid (Kept (fun b => (Value.slice A0 n c0).ownBlock = some b) w wr) ∧ Hid (∀ b, (Value.slice A (n + i) c).ownBlock = some b → (Value.slice A0 n c0).ownBlock = some b ∨ w.heap.size ≤ b)) (fun _ v5 _ => 80 - (intOf v5).toNat)
  case atStart => exact ⟨0, A0, c0, Nat.zero_le _, rfl, rfl, by simpa using HP, Kept.refl _ _, fun b hb => .inl hb⟩
  case round =>
    clear HP
    obtain ⟨i, A, c, hi, rfl, rfl, HP, HK, HB⟩ := hrel
    by_cases hlt : i < 80
    · have HO := Lib.hid (HP.out.l.own 0 (by omega))
      go_wp2_with (at_builtin; refine list_app2 rfl (.tmp 10) (.tmp 12) 29 rfl 3 0 _ 1 8 Try.underlying29 info3 rfl (by decide) (by decide) (.slice A (n + i) c) (n + i) _ rfl (own_keeps HO.out ((Kept.refl _ _).alloc _)) (some ⟨wr.heap.size, 0, none⟩) 1 1 [.int .i64 m] rfl rfl (holds_new _ _ _ _ _ rfl) (by simp [Value.oneCell']) (by omega) (Nat.zero_le _) ?_; intro v9 w9 hown9 hwent9)
      obtain ⟨A9, c9, rfl, _⟩ := own_slice hown9
      have hp := (HP.out.kept (S := fun _ => False) (Kept.of_below ((Below.refl _ wr).alloc (Nat.le_refl _) (.cells #[.int .i64 m] 3))) (fun _ _ _ _ h => h) (fun _ _ _ _ h => h)).grow (by omega) (k := 0) (by omega) hown9 hwent9
      refine ⟨⟨i + 1, A9, c9, by omega, by simp, rfl, ?_, ?_, ?_⟩, by simp [intOf]; omega⟩
      · refine hp.congr (fun _ hk => by rw [if_pos (by omega)]; rfl) (fun _ hk => by rw [if_pos (by omega)]; rfl) (fun _ hk => ?_)
        rw [if_pos (by omega), List.replicate_succ', List.append_assoc]
      · exact ((HK.out.alloc _).trans hwent9.kept (fun b hb => HB.out b hb))
      · intro b hb
        rcases hwent9.block with e | e
        · exact HB.out b (e ▸ hb)
        · have h1 := Option.some.inj (e.symm.trans hb)
          have h2 := HK.out.size
          simp at h1
          exact .inr (by omega)
    · have : i = 80 := by omega
      subst this
      go_wp2
      go_ret
      exact ⟨A, c, rfl, HP.out, HK.out, HB.out⟩
set_option maxHeartbeats 1000000 in
theorem copied_any (w : World) (A : Option Addr) (c : Nat) (zs : List Int) (h : ReadsInts w (.slice A zs.length c) zs) (hb : zs.length * 8 ≤ 140737488351232) :
    Calls Try.prog 27 #[.slice A zs.length c] w fun e w' => ∃ A c, e = .returned (.slice A zs.length c) ∧ w'.ownsRow 0 3 1 (.slice A zs.length c) zs.length (zs.map (Value.int .i64)) ∧ Below w.heap.size w w' ∧ Fresh w (.slice A zs.length c) := by
  have HS : Hid (Holds w A (zs.map (Value.int .i64))) := fun hp => by
    rw [List.length_map] at hp
    obtain ⟨g, o, rfl⟩ := reads_some h hp
    refine ⟨_, rfl, fun j u hu => ?_⟩
    rw [List.getElem?_map, Option.map_eq_some_iff] at hu
    obtain ⟨z, hz, rfl⟩ := hu
    rw [Addr.add_mid]
    exact reads_at h hz
  clear h
  obtain ⟨n, hn⟩ : ∃ n, zs.length = n := ⟨_, rfl⟩
  have HL : Hid ((zs.map (Value.int .i64)).length = n * 1) := by show _ = _; simp [hn]
  rw [hn] at hb ⊢
  clear hn
  go_enter Try.func27, Try.ntmps27
  go_wp2_with (at_builtin; refine list_app2 rfl (.tmp 4) (.tmp 5) 29 rfl 3 0 _ 1 8 Try.underlying29 info3 rfl (by decide) (by decide) (.slice none 0 0) 0 [] rfl (World.ownsRow_nil _ _ _ _) A n c (zs.map (Value.int .i64)) rfl HL.out HS.out (fun u hu => by obtain ⟨_, _, rfl⟩ := List.mem_map.1 hu; rfl) (by omega) (Nat.zero_le _) ?_)
  intro v9 w9 hown9 hwent9
  obtain ⟨A9, c9, rfl, _⟩ := own_slice hown9
  go_wp2
  go_ret
  refine ⟨A9, c9, by simp, by simpa using hown9, hwent9.kept.below (fun k hk => by simp [Value.ownBlock] at hk) (Nat.le_refl _), fun k hk => ?_⟩
  rcases hwent9.block with h | h
  · have := h.symm.trans (by simpa using hk)
    simp [Value.ownBlock] at this
  · have := Option.some.inj (h.symm.trans (by simpa using hk))
    omega
/-- Two arenas beside one another, both new since w; the program's may be a call ahead. -/
structure Two (w wr : World) (p a t r P n : Nat) (on : List Bool) (bs : List Int) (on' : List Bool) (bs' : List Int) : Prop where
  l : At wr p a t n on bs
  d : Ra wr r P n on' bs'
  new : w.heap.size ≤ p ∧ w.heap.size ≤ a ∧ w.heap.size ≤ t ∧ w.heap.size ≤ r ∧ w.heap.size ≤ P
  far : r ≠ p ∧ r ≠ a ∧ r ≠ t ∧ P ≠ p ∧ P ≠ a ∧ P ≠ t
  bel : Below w.heap.size w wr
section
variable {w wr w' : World} {p a t r P n : Nat} {on on' on2 : List Bool} {bs bs' bs2 : List Int}
theorem Two.below (h : Two w wr p a t r P n on bs on' bs') (hb : Below wr.heap.size wr w') : Two w w' p a t r P n on bs on' bs' := ⟨h.l.below hb, h.d.below hb, h.new, h.far, h.bel.trans (hb.mono h.bel.size)⟩
/-- What lies in neither is written. -/
theorem Two.kept {S : Nat → Prop} (h : Two w wr p a t r P n on bs on' bs') (hk : Kept S wr w') (hS : ∀ b, S b → w.heap.size ≤ b ∧ b ≠ p ∧ b ≠ a ∧ b ≠ t ∧ b ≠ r ∧ b ≠ P) : Two w w' p a t r P n on bs on' bs' :=
  ⟨h.l.kept hk (fun e => (hS _ e).2.1 rfl) (fun e => (hS _ e).2.2.1 rfl) (fun e => (hS _ e).2.2.2.1 rfl), h.d.kept hk (fun e => (hS _ e).2.2.2.2.1 rfl) (fun e => (hS _ e).2.2.2.2.2 rfl), h.new, h.far, h.bel.trans (hk.below (fun b e => (hS b e).1) h.bel.size)⟩
theorem Two.ahead (h : Two w wr p a t r P n on bs on' bs') (hA : At w' p a t n on2 bs2) (hk : Kept (fun b => b = a ∨ b = t) wr w') : Two w w' p a t r P n on2 bs2 on' bs' :=
  ⟨hA, h.d.kept hk (by have := h.far; omega) (by have := h.far; omega), h.new, h.far, h.bel.trans (hk.below (fun b hb => by have := h.new; omega) h.bel.size)⟩
theorem Two.behind (h : Two w wr p a t r P n on bs on' bs') (hR : Ra w' r P n on2 bs2) (hk : Kept (fun b => b = P) wr w') : Two w w' p a t r P n on bs on2 bs2 :=
  ⟨h.l.kept hk (by have := h.far; omega) (by have := h.far; omega) (by have := h.far; omega), hR, h.new, h.far, h.bel.trans (hk.below (fun b hb => by have := h.new; omega) h.bel.size)⟩
theorem Two.lt (h : Two w wr p a t r P n on bs on' bs') : p < wr.heap.size ∧ a < wr.heap.size ∧ t < wr.heap.size ∧ r < wr.heap.size ∧ P < wr.heap.size := by
  have h1 := h.l.cells
  have h2 := h.d.cells
  exact ⟨h1.2.2.2.2.1, h1.2.2.2.2.2.1, h1.2.2.2.2.2.2, h2.2.2.2.1, h2.2.2.2.2⟩
end
theorem tk_mem (on : List Bool) : ∀ k x, x ∈ tk on k → ∃ j : Nat, x = j ∧ j < k ∧ on.getD j false = true
  | 0, x, h => by simp [tk] at h
  | k + 1, x, h => by
    unfold tk at h
    split at h
    · next hk =>
      rcases List.mem_append.1 h with h | h
      · obtain ⟨j, e, hj, ho⟩ := tk_mem on k x h
        exact ⟨j, e, by omega, ho⟩
      · exact ⟨k, by simpa using h, by omega, hk⟩
    · obtain ⟨j, e, hj, ho⟩ := tk_mem on k x h
      exact ⟨j, e, by omega, ho⟩
theorem tk_place {on : List Bool} {n : Nat} {x : Int} (hn : on.length = n) (h : x ∈ tk on n) : placeE on x 0 64 = 0 := by
  obtain ⟨j, rfl, hj, ho⟩ := tk_mem on n x h
  have : isB on (j : Int) = true := by
    unfold isB
    rw [Int.toNat_natCast, ho, hn]
    simp; omega
  unfold placeE
  rw [this, if_pos rfl, if_neg (by omega)]
theorem tk_read {on : List Bool} {bs : List Int} {n : Nat} {x : Int} (hn : on.length = n) (hb : bs.length = n * 64) (h : x ∈ tk on n) : (readZ on bs x 0 64).length = 64 := by
  have hp := tk_place hn h
  obtain ⟨j, rfl, hj, ho⟩ := tk_mem on n x h
  unfold readZ
  rw [if_pos hp, List.length_take, List.length_drop, hb]
  simp
  omega
set_option maxHeartbeats 4000000 in
theorem holds_any (w wz : World) (p a t r P n : Nat) (on : List Bool) (bs : List Int) (h : Two w wz p a t r P n on bs on bs) :
    Calls Try.prog 19 #[.pointer (some ⟨p, 0, none⟩), .pointer (some ⟨r, 0, none⟩)] wz fun e w' => e = .returned (.bool true) ∧ Below wz.heap.size wz w' := by
  have HT := Lib.hid h
  have HC := Lib.hid (rtaken_any wz r P n on bs h.d)
  have hon := Lib.hid h.l.len
  have hbs := Lib.hid h.l.size
  obtain ⟨L, hL⟩ : ∃ L, tk on n = L := ⟨_, rfl⟩
  have HL := Lib.hid hL
  have hLn : L.length ≤ 256 := by rw [← hL]; exact Nat.le_trans (tk_len on n) h.l.few
  rw [hL] at HC
  obtain ⟨N, hN⟩ : ∃ N, L.length = N := ⟨_, rfl⟩
  have HN := Lib.hid hN
  rw [hN] at HC hLn
  obtain ⟨f, hf⟩ : ∃ f, freeN on n = f := ⟨_, rfl⟩
  have HF := Lib.hid hf
  have HNUM := Lib.hid num_any
  clear h hL hN hf
  go_enter Try.func19, Try.ntmps19
  go_wp2_with fail
  (with_reducible refine HC.out.mono ?_)
  rintro e w1 ⟨A1, c1, rfl, o1, b1, f1⟩
  have O1 := Lib.hid o1
  have B1 := Lib.hid b1
  have T1 := Lib.hid (HT.out.below b1)
  have HC2 := Lib.hid (taken_any w1 p a t n on bs T1.out.l)
  rw [HL.out, HN.out] at HC2
  clear o1 b1 f1 HC
  go_wp2_with fail
  (with_reducible refine HC2.out.mono ?_)
  rintro e w2 ⟨A2, c2, rfl, o2, b2, f2⟩
  have T2 := Lib.hid (T1.out.below b2)
  have B2 := Lib.hid (B1.out.trans (b2.mono B1.out.size))
  have O1' := Lib.hid (own_keeps O1.out (Kept.of_below b2))
  have NS := Lib.hid (numbers_same w2 _ _ L (reads_own HN.out o2) (reads_own HN.out O1'.out))
  clear o2 b2 f2 HC2 O1 B1 T1
  go_wp2_with fail
  (with_reducible refine NS.out.mono ?_)
  rintro e w3 ⟨rfl, b3⟩
  have T3 := Lib.hid (T2.out.below b3)
  have B3 := Lib.hid (B2.out.trans (b3.mono B2.out.size))
  have O3 := Lib.hid (own_keeps O1'.out (Kept.of_below b3))
  have FR := Lib.hid (free_any w3 p a t n on bs T3.out.l)
  rw [HF.out] at FR
  clear b3 NS O1' B2 T2
  go_wp2_with fail
  (with_reducible refine FR.out.mono ?_)
  rintro e w4 ⟨rfl, b4⟩
  have T4 := Lib.hid (T3.out.below b4)
  have B4 := Lib.hid (B3.out.trans (b4.mono B3.out.size))
  have O4 := Lib.hid (own_keeps O3.out (Kept.of_below b4))
  have FR2 := Lib.hid (rfree_any w4 r P n on bs T4.out.d)
  rw [HF.out] at FR2
  clear b4 FR O3 B3 T3
  have hff : (f != f) = false := by simp
  go_wp2_with fail
  (with_reducible refine FR2.out.mono ?_)
  rintro e w5 ⟨rfl, b5⟩
  have T5 := Lib.hid (T4.out.below b5)
  have B5 := Lib.hid (B4.out.trans (b5.mono B4.out.size))
  have O5 := Lib.hid (own_keeps O4.out (Kept.of_below b5))
  clear b5 FR2 O4 B4 T4
  go_wp2_with fail
  go_loopw [6] (fun v6 wr => ∃ i : Nat, i ≤ N ∧ v6 = .int .i64 i ∧ Hid (Two w wr p a t r P n on bs on bs) ∧ Hid (wr.ownsRow 0 3 1 (.slice A1 N c1) N (L.map (Value.int .i64))) ∧ Hid (Below wz.heap.size wz wr)) (fun v6 _ => N - (intOf v6).toNat)
  case atStart => exact ⟨0, Nat.zero_le _, rfl, T5, O5, B5⟩
  case round =>
    clear T5 O5 B5
    obtain ⟨i, hi, rfl, T5, O5, B5⟩ := hrel
    by_cases hlt : i < N
    · obtain ⟨x, hx⟩ : ∃ x, L[i]? = some x := ⟨_, List.getElem?_eq_getElem (by rw [HN.out]; exact hlt)⟩
      have hm : x ∈ tk on n := by rw [HL.out]; exact List.mem_of_getElem? hx
      have RD := Lib.hid (read_any wr p a t n on bs x 0 64 T5.out.l)
      have hlen := tk_read hon.out hbs.out hm
      rw [tk_place hon.out hm] at RD
      obtain ⟨Z, hZ⟩ : ∃ Z, readZ on bs x 0 64 = Z := ⟨_, rfl⟩
      rw [hZ] at RD hlen
      rw [hlen] at RD
      have HZ := Lib.hid hZ
      have HPl := Lib.hid (tk_place hon.out hm)
      have HLen := Lib.hid hlen
      have hrd := reads_own HN.out O5.out
      rw [show (.slice A1 N c1 : Value) = .slice A1 L.length c1 by rw [HN.out]] at hrd
      obtain ⟨g1, o1, rfl⟩ := reads_some hrd (by rw [HN.out]; omega)
      have y0 := reads_at hrd hx
      have HX := Lib.hid hx
      clear hm hZ hlen hrd hx
      go_wp2_with fail
      (with_reducible refine RD.out.mono ?_)
      rintro e w6 ⟨A6, c6, rfl, o6, b6, f6⟩
      have T6 := Lib.hid (T5.out.below b6)
      have B6 := Lib.hid (B5.out.trans (b6.mono B5.out.size))
      have O6 := Lib.hid (own_keeps O5.out (Kept.of_below b6))
      have P6 := Lib.hid o6
      have RD2 := Lib.hid (rread_any w6 r P n on bs x 0 64 T6.out.d)
      rw [HZ.out, HPl.out, HLen.out] at RD2
      have hrd := reads_own HN.out O6.out
      rw [show (.slice (some ⟨g1, o1, none⟩) N c1 : Value) = .slice (some ⟨g1, o1, none⟩) L.length c1 by rw [HN.out]] at hrd
      have y1 := reads_at hrd HX.out
      clear hrd o6 b6 f6 RD T5 O5 B5 y0
      go_wp2_with fail
      (with_reducible refine RD2.out.mono ?_)
      rintro e w7 ⟨A7, c7, rfl, o7, b7, f7⟩
      have T7 := Lib.hid (T6.out.below b7)
      have B7 := Lib.hid (B6.out.trans (b7.mono B6.out.size))
      have O7 := Lib.hid (own_keeps O6.out (Kept.of_below b7))
      have cv1 := conv_own (own_keeps P6.out (Kept.of_below b7)) (by decide)
      have cv2 := conv_own o7 (by decide)
      obtain ⟨S, hS⟩ : ∃ S, strOfNums Z = S := ⟨_, rfl⟩
      rw [hS] at cv1 cv2
      clear o7 b7 f7 RD2 T6 O6 B6 y1 P6 hS
      go_wp2_with (go_at_call 8; (with_reducible refine (HNUM.out _ _).mono ?_); rintro e w8 ⟨rfl, rfl⟩)
      exact ⟨⟨i + 1, by omega, by simp, T7, O7, B7⟩, by simp [intOf]; omega⟩
    · have hNi : N = i := by omega
      go_wp2
      go_ret
      exact ⟨rfl, B5.out⟩
end Go.Proofs.Ytbhpikagjcojbaa.Ar

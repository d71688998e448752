/- ProcsRise: the walk. Own text; Ytpkgiemigbjfeaa and the numbers between @..@ are the seat's. -/
import Derived.Test.YtpkgiemigbjfeaaPrK
import Derived.Deep.CutBlock
import Derived.Deep.DeepCutAuto
namespace Go.Proofs.Ytpkgiemigbjfeaa.Kin
open Go.RowKit Go.Proofs.Ytpkgiemigbjfeaa.Mem
set_option linter.unusedVariables false
/-- The program's record alone, all of it new. -/
def So (w wr : World) (p m : Nat) (next : Int) (l : List Int) : Prop := Pt 54 wr p m next l (fun b => w.heap.size ≤ b) ∧ Below w.heap.size w wr
section
variable {w wr w' : World} {p m : Nat} {next n' : Int} {l l' : List Int}
theorem So.below (h : So w wr p m next l) (hb : Below wr.heap.size wr w') : So w w' p m next l := ⟨h.1.below hb, h.2.trans (hb.mono h.2.size)⟩
theorem So.on (h : So w wr p m next l) (hk : Kept (fun b => w.heap.size ≤ b) wr w') (hp : Pt 54 w' p m n' l' (fun b => w.heap.size ≤ b ∨ wr.heap.size ≤ b)) : So w w' p m n' l' :=
  ⟨hp.mono (fun b hb => by have := h.2.size; rcases hb with e | e <;> omega), h.2.trans (hk.below (fun b hb => hb) h.2.size)⟩
theorem So.spawn (h : So w wr p m next l) : Calls Try.prog 10 #[.pointer (some ⟨p, 0, none⟩)] wr fun e w' => e = .returned (.tuple #[.int .i64 (spN m next l), .int .i64 (spE m next l)]) ∧ So w w' p m (spX m next l) (spL m next l) :=
  (spawn_any wr p m next l _ h.1).mono (fun e w' x => ⟨x.1, h.on x.2.1 x.2.2⟩)
theorem So.exit (h : So w wr p m next l) (n : Int) : Calls Try.prog 12 #[.pointer (some ⟨p, 0, none⟩), .int .i64 n] wr fun e w' => e = .returned (.int .i64 (exE l n)) ∧ So w w' p m next (del l n) :=
  (exit_any wr p m next l _ h.1 n).mono (fun e w' x => ⟨x.1, h.on x.2.1 x.2.2⟩)
theorem So.setnext (h : So w wr p m next l) (n : Int) : Calls Try.prog 14 #[.pointer (some ⟨p, 0, none⟩), .int .i64 n] wr fun e w' => e = .returned (.int .i64 (seE l n)) ∧ So w w' p m (seX next l n) l :=
  (setnext_any wr p m next l _ h.1 n).mono (fun e w' x => ⟨x.1, h.on x.2.1 (x.2.2.mono (fun b hb => .inl hb))⟩)
theorem So.live (h : So w wr p m next l) (n : Int) : Calls Try.prog 17 #[.pointer (some ⟨p, 0, none⟩), .int .i64 n] wr fun e w' => e = .returned (.bool (isB l n)) ∧ wr = w' := live_any wr p m next l _ h.1 n
theorem So.nxt (h : So w wr p m next l) : Calls Try.prog 19 #[.pointer (some ⟨p, 0, none⟩)] wr fun e w' => e = .returned (.int .i64 next) ∧ wr = w' := next_any wr p m next l _ h.1
theorem So.numbers (h : So w wr p m next l) : Calls Try.prog 18 #[.pointer (some ⟨p, 0, none⟩)] wr fun e w' => ∃ A c, e = .returned (.slice A l.length c) ∧ w'.ownsRow 0 3 1 (.slice A l.length c) l.length (l.map i64) ∧ Below wr.heap.size wr w' ∧ Fresh wr (.slice A l.length c) := numbers_any wr p m next l _ h.1
end
theorem isB_del (l : List Int) (x : Int) : isB (del l x) x = false := by
  simp only [isB, decide_eq_false_iff_not]
  exact fun e => (mem_del.1 e).2 rfl
theorem isB_snoc (l : List Int) (x : Int) : isB (l ++ [x]) x = true := by simp [isB]
set_option maxHeartbeats 8000000 in
set_option maxRecDepth 100000 in
theorem law_rise (w : World) (n0 : Int) (vs : Value) (zs : List Int) (hs : ReadsInts w vs zs) :
    Calls Try.prog 4 #[.int .i64 n0, vs] w fun e w' => e = .returned (.bool true) ∧ Below w.heap.size w w' := by
  obtain ⟨As, cs, rfl, hs2, hs3⟩ := hs
  unfold maxLen at hs2
  have HS3 := Lib.hid hs3
  clear hs3
  have e1 : n0.tmod 32 < 32 := Int.tmod_lt_of_pos n0 (by decide)
  have e2 : -32 < n0.tmod 32 := Int.lt_tmod_of_pos n0 (by decide)
  obtain ⟨R, hR⟩ : ∃ R, n0.tmod 32 = R := ⟨_, rfl⟩
  have hw : IntKind.i64.wrap (n0.tmod 32) = R := by rw [hR]; exact IntWalk.i64_in _ (by omega)
  rw [hR] at e1 e2
  obtain ⟨m, hm⟩ : ∃ m : Nat, 1 + R % 32 = m := ⟨(1 + R % 32).toNat, by omega⟩
  have hm1 : 1 ≤ m := by omega
  have hm2 : m ≤ 32 := by omega
  have HX := Lib.hid (new_in w m hm1 hm2)
  go_enter Try.func4, Try.ntmps4
  go_wp2_with fail
  (with_reducible refine HX.out.mono ?_)
  rintro e w1 ⟨p, rfl, b1, k1⟩
  have HS : Hid (So w w1 p m 1 [0]) := ⟨k1, b1⟩
  clear HX b1 k1 hw hR
  have HM := Lib.hid hm
  clear hm e1 e2
  have HX := Lib.hid (alive_any w1)
  go_wp2_with (first | (go_at_call 8; (refine (num_any _ _).mono ?_); rintro e w9 ⟨rfl, rfl⟩) | fail)
  (with_reducible refine HX.out.mono ?_)
  rintro e w2 ⟨rfl, b2⟩
  have H2 := Lib.hid (HS.out.below b2)
  clear HX b2 HS
  go_wp2_with fail
  go_loopw [8, 9, 10] (fun v8 v9 v10 wr => ∃ (i : Nat) (next : Int) (l : List Int), i ≤ zs.length ∧ v10 = .int .i64 i ∧ v8 = .int .i64 next ∧ v9 = .int .i64 (l.length : Nat) ∧ Hid (So w wr p m next l)) (fun _ _ v10 _ => zs.length - (intOf v10).toNat)
  case atStart => exact ⟨0, 1, [0], Nat.zero_le _, rfl, rfl, rfl, H2⟩
  case round =>
    clear H2
    obtain ⟨i, next, l, hi, rfl, rfl, rfl, HS⟩ := hrel
    by_cases hlt : i < zs.length
    · obtain ⟨x, hx⟩ : ∃ x, zs[i]? = some x := ⟨_, List.getElem?_eq_getElem hlt⟩
      obtain ⟨gs, ss, rfl, hcell⟩ := HS3.out (by omega)
      have hgs : Hid (gs < w.heap.size) := World.block_lt_of_cell? w _ (hcell i x hx)
      have Y0 : Hid (∀ wq, Below w.heap.size w wq → wq.cell? ⟨gs, ss + i, none⟩ = some (.int .i64 x)) := fun wq hb => (hb.cell (show (⟨gs, ss + i, none⟩ : Addr).block < w.heap.size from hgs.out)).trans (hcell i x hx)
      have HX := Lib.hid (HS.out.spawn)
      have INV := Lib.hid HS.out.1.inv
      clear hcell hx
      go_wp2_with fail
      (with_reducible refine HX.out.mono ?_)
      rintro e w4 ⟨rfl, s4⟩
      have S4 := Lib.hid s4
      clear s4 HX HS
      have INV1 := Lib.hid INV.out.spawn
      have y0 := Y0.out _ S4.out.2
      have hlm := INV.out.len
      have hn0 := INV.out.n0
      by_cases hfl : fullB m next l = true
      · have hf' : m ≤ l.length ∨ 65535 < next := by simpa [fullB] using hfl
        unfold spN spE spX spL at *
        simp only [if_pos hfl] at *
        obtain ⟨l1, hl1⟩ : ∃ l1, l = l1 := ⟨_, rfl⟩
        subst hl1
        have HX := Lib.hid (S4.out.live x)
        have HE := Lib.hid (S4.out.exit x)
        have NE := Lib.hid (isB_del l x)
        obtain ⟨L1, hL1⟩ : ∃ L1, l.length = L1 := ⟨_, rfl⟩
        have HLN := Lib.hid hL1
        rw [hL1] at hf' hlm ⊢
        clear hfl hL1 INV
        by_cases hml : L1 = m
        · have hml' : (L1 : Int) = (m : Int) := by omega
          clear hf'
          go_wp2_with (first | (go_at_call 8; (refine (num_any _ _).mono ?_); rintro e w9 ⟨rfl, rfl⟩) | fail)
          unfold exE at *
          by_cases hb : isB l x = true
          · skip
            rw [if_pos hb] at HE
            rw [hb] at HX
            have HD := Lib.hid (del_len (INV1.out.srt) hb)
            clear hb
            (with_reducible refine HX.out.mono ?_)
            rintro e w9 ⟨rfl, rfl⟩
            go_wp2_with fail
            (with_reducible refine HE.out.mono ?_)
            rintro e w5 ⟨rfl, s5⟩
            have S5 := Lib.hid s5
            clear s5 HX HE S4 y0
            have y0 := Y0.out _ S5.out.2
            have HX := Lib.hid (S5.out.live x)
            rw [NE.out] at HX
            have HL := Lib.hid (S5.out.numbers)
            obtain ⟨M, hM⟩ : ∃ M, (del l x).length = M := ⟨_, rfl⟩
            have HMM := Lib.hid hM
            rw [hM] at HL
            rw [hM] at HD
            have hkm : M + 1 = L1 := by rw [← HLN.out]; exact HD.out
            subst hkm
            clear HD
            clear hM
            go_wp2_with (first | (go_at_call 8; (refine (num_any _ _).mono ?_); rintro e w9 ⟨rfl, rfl⟩) | fail)
            (with_reducible refine HX.out.mono ?_)
            rintro e w9 ⟨rfl, rfl⟩
            go_wp2_with fail
            (with_reducible refine HL.out.mono ?_)
            rintro e w6 ⟨A6, c6, rfl, _, b6, _⟩
            have S6 := Lib.hid (S5.out.below b6)
            have HN := Lib.hid (S6.out.nxt)
            clear b6 HL HX S5
            go_wp2_with fail
            (with_reducible refine HN.out.mono ?_)
            rintro e w9 ⟨rfl, rfl⟩
            go_wp2_with fail
            exact ⟨⟨i + 1, next, del l x, by omega, by simp, by rfl, by first | (rw [HMM.out]; done) | (rw [HMM.out]; congr 1; omega), S6⟩, by simp [intOf]; omega⟩
          · skip
            rw [if_neg hb] at HE
            have hb' : isB l x = false := by simpa using hb
            rw [hb'] at HX
            have HD : Hid (del l x = l) := del_not hb'
            clear hb hb'
            (with_reducible refine HX.out.mono ?_)
            rintro e w9 ⟨rfl, rfl⟩
            go_wp2_with fail
            (with_reducible refine HE.out.mono ?_)
            rintro e w5 ⟨rfl, s5⟩
            have S5 := Lib.hid s5
            clear s5 HX HE S4 y0
            have y0 := Y0.out _ S5.out.2
            have HX := Lib.hid (S5.out.live x)
            rw [NE.out] at HX
            have HL := Lib.hid (S5.out.numbers)
            obtain ⟨M, hM⟩ : ∃ M, (del l x).length = M := ⟨_, rfl⟩
            have HMM := Lib.hid hM
            rw [hM] at HL
            have hlen : M = L1 := by rw [← HLN.out, ← hM, HD.out]
            subst hlen
            clear HD
            clear hM
            go_wp2_with (first | (go_at_call 8; (refine (num_any _ _).mono ?_); rintro e w9 ⟨rfl, rfl⟩) | fail)
            (with_reducible refine HX.out.mono ?_)
            rintro e w9 ⟨rfl, rfl⟩
            go_wp2_with fail
            (with_reducible refine HL.out.mono ?_)
            rintro e w6 ⟨A6, c6, rfl, _, b6, _⟩
            have S6 := Lib.hid (S5.out.below b6)
            have HN := Lib.hid (S6.out.nxt)
            clear b6 HL HX S5
            go_wp2_with fail
            (with_reducible refine HN.out.mono ?_)
            rintro e w9 ⟨rfl, rfl⟩
            go_wp2_with fail
            exact ⟨⟨i + 1, next, del l x, by omega, by simp, by rfl, by first | (rw [HMM.out]; done) | (rw [HMM.out]; congr 1; omega), S6⟩, by simp [intOf]; omega⟩
        · have hml' : ¬ (L1 : Int) = (m : Int) := by omega
          have hnx : 65535 < next := by omega
          clear hf'
          go_wp2_with (first | (go_at_call 8; (refine (num_any _ _).mono ?_); rintro e w9 ⟨rfl, rfl⟩) | fail)
          unfold exE at *
          by_cases hb : isB l x = true
          · skip
            rw [if_pos hb] at HE
            rw [hb] at HX
            have HD := Lib.hid (del_len (INV1.out.srt) hb)
            clear hb
            (with_reducible refine HX.out.mono ?_)
            rintro e w9 ⟨rfl, rfl⟩
            go_wp2_with fail
            (with_reducible refine HE.out.mono ?_)
            rintro e w5 ⟨rfl, s5⟩
            have S5 := Lib.hid s5
            clear s5 HX HE S4 y0
            have y0 := Y0.out _ S5.out.2
            have HX := Lib.hid (S5.out.live x)
            rw [NE.out] at HX
            have HL := Lib.hid (S5.out.numbers)
            obtain ⟨M, hM⟩ : ∃ M, (del l x).length = M := ⟨_, rfl⟩
            have HMM := Lib.hid hM
            rw [hM] at HL
            rw [hM] at HD
            have hkm : M + 1 = L1 := by rw [← HLN.out]; exact HD.out
            subst hkm
            clear HD
            clear hM
            go_wp2_with (first | (go_at_call 8; (refine (num_any _ _).mono ?_); rintro e w9 ⟨rfl, rfl⟩) | fail)
            (with_reducible refine HX.out.mono ?_)
            rintro e w9 ⟨rfl, rfl⟩
            go_wp2_with fail
            (with_reducible refine HL.out.mono ?_)
            rintro e w6 ⟨A6, c6, rfl, _, b6, _⟩
            have S6 := Lib.hid (S5.out.below b6)
            have HN := Lib.hid (S6.out.nxt)
            clear b6 HL HX S5
            go_wp2_with fail
            (with_reducible refine HN.out.mono ?_)
            rintro e w9 ⟨rfl, rfl⟩
            go_wp2_with fail
            exact ⟨⟨i + 1, next, del l x, by omega, by simp, by rfl, by first | (rw [HMM.out]; done) | (rw [HMM.out]; congr 1; omega), S6⟩, by simp [intOf]; omega⟩
          · skip
            rw [if_neg hb] at HE
            have hb' : isB l x = false := by simpa using hb
            rw [hb'] at HX
            have HD : Hid (del l x = l) := del_not hb'
            clear hb hb'
            (with_reducible refine HX.out.mono ?_)
            rintro e w9 ⟨rfl, rfl⟩
            go_wp2_with fail
            (with_reducible refine HE.out.mono ?_)
            rintro e w5 ⟨rfl, s5⟩
            have S5 := Lib.hid s5
            clear s5 HX HE S4 y0
            have y0 := Y0.out _ S5.out.2
            have HX := Lib.hid (S5.out.live x)
            rw [NE.out] at HX
            have HL := Lib.hid (S5.out.numbers)
            obtain ⟨M, hM⟩ : ∃ M, (del l x).length = M := ⟨_, rfl⟩
            have HMM := Lib.hid hM
            rw [hM] at HL
            have hlen : M = L1 := by rw [← HLN.out, ← hM, HD.out]
            subst hlen
            clear HD
            clear hM
            go_wp2_with (first | (go_at_call 8; (refine (num_any _ _).mono ?_); rintro e w9 ⟨rfl, rfl⟩) | fail)
            (with_reducible refine HX.out.mono ?_)
            rintro e w9 ⟨rfl, rfl⟩
            go_wp2_with fail
            (with_reducible refine HL.out.mono ?_)
            rintro e w6 ⟨A6, c6, rfl, _, b6, _⟩
            have S6 := Lib.hid (S5.out.below b6)
            have HN := Lib.hid (S6.out.nxt)
            clear b6 HL HX S5
            go_wp2_with fail
            (with_reducible refine HN.out.mono ?_)
            rintro e w9 ⟨rfl, rfl⟩
            go_wp2_with fail
            exact ⟨⟨i + 1, next, del l x, by omega, by simp, by rfl, by first | (rw [HMM.out]; done) | (rw [HMM.out]; congr 1; omega), S6⟩, by simp [intOf]; omega⟩
      · have hf' : ¬ (m ≤ l.length ∨ 65535 < next) := by simpa [fullB] using hfl
        unfold spN spE spX spL at *
        simp only [if_neg hfl] at *
        have HY := Lib.hid (S4.out.live next)
        rw [isB_snoc] at HY
        obtain ⟨l1, hl1⟩ : ∃ l1, l ++ [next] = l1 := ⟨_, rfl⟩
        obtain ⟨K, hK⟩ : ∃ K, l.length = K := ⟨_, rfl⟩
        have hlen : l1.length = K + 1 := by rw [← hl1, List.length_append, hK]; rfl
        rw [hl1] at S4 INV1
        rw [hK] at hf' hlm ⊢
        have HX := Lib.hid (S4.out.live x)
        have HE := Lib.hid (S4.out.exit x)
        have NE := Lib.hid (isB_del l1 x)
        obtain ⟨L1, hL1⟩ : ∃ L1, K + 1 = L1 := ⟨_, rfl⟩
        have HLN : Hid (l1.length = L1) := by rw [← hL1]; exact hlen
        have hml : ¬ (K : Int) = (m : Int) := by omega
        have hkm : K < m := by omega
        have hnx : ¬ 65535 < next := by omega
        have hKL : (K : Int) + 1 = (L1 : Int) := by omega
        clear INV hfl hf' hK hlen hl1 hL1
        go_wp2_with (first | (go_at_call 8; (refine (num_any _ _).mono ?_); rintro e w9 ⟨rfl, rfl⟩) | fail)
        (with_reducible refine HY.out.mono ?_)
        rintro e w9 ⟨rfl, rfl⟩
        clear HY
        go_wp2_with fail
        unfold exE at *
        by_cases hb : isB l1 x = true
        · skip
          rw [if_pos hb] at HE
          rw [hb] at HX
          have HD := Lib.hid (del_len (INV1.out.srt) hb)
          clear hb
          (with_reducible refine HX.out.mono ?_)
          rintro e w9 ⟨rfl, rfl⟩
          go_wp2_with fail
          (with_reducible refine HE.out.mono ?_)
          rintro e w5 ⟨rfl, s5⟩
          have S5 := Lib.hid s5
          clear s5 HX HE S4 y0
          have y0 := Y0.out _ S5.out.2
          have HX := Lib.hid (S5.out.live x)
          rw [NE.out] at HX
          have HL := Lib.hid (S5.out.numbers)
          obtain ⟨M, hM⟩ : ∃ M, (del l1 x).length = M := ⟨_, rfl⟩
          have HMM := Lib.hid hM
          rw [hM] at HL
          rw [hM] at HD
          have hkm : M + 1 = L1 := by rw [← HLN.out]; exact HD.out
          subst hkm
          clear HD
          clear hM
          go_wp2_with (first | (go_at_call 8; (refine (num_any _ _).mono ?_); rintro e w9 ⟨rfl, rfl⟩) | fail)
          (with_reducible refine HX.out.mono ?_)
          rintro e w9 ⟨rfl, rfl⟩
          go_wp2_with fail
          (with_reducible refine HL.out.mono ?_)
          rintro e w6 ⟨A6, c6, rfl, _, b6, _⟩
          have S6 := Lib.hid (S5.out.below b6)
          have HN := Lib.hid (S6.out.nxt)
          clear b6 HL HX S5
          go_wp2_with fail
          (with_reducible refine HN.out.mono ?_)
          rintro e w9 ⟨rfl, rfl⟩
          go_wp2_with fail
          exact ⟨⟨i + 1, next + 1, del l1 x, by omega, by simp, by rfl, by first | (rw [HMM.out]; done) | (rw [HMM.out]; congr 1; omega), S6⟩, by simp [intOf]; omega⟩
        · skip
          rw [if_neg hb] at HE
          have hb' : isB l1 x = false := by simpa using hb
          rw [hb'] at HX
          have HD : Hid (del l1 x = l1) := del_not hb'
          clear hb hb'
          (with_reducible refine HX.out.mono ?_)
          rintro e w9 ⟨rfl, rfl⟩
          go_wp2_with fail
          (with_reducible refine HE.out.mono ?_)
          rintro e w5 ⟨rfl, s5⟩
          have S5 := Lib.hid s5
          clear s5 HX HE S4 y0
          have y0 := Y0.out _ S5.out.2
          have HX := Lib.hid (S5.out.live x)
          rw [NE.out] at HX
          have HL := Lib.hid (S5.out.numbers)
          obtain ⟨M, hM⟩ : ∃ M, (del l1 x).length = M := ⟨_, rfl⟩
          have HMM := Lib.hid hM
          rw [hM] at HL
          have hlen : M = L1 := by rw [← HLN.out, ← hM, HD.out]
          subst hlen
          clear HD
          clear hM
          go_wp2_with (first | (go_at_call 8; (refine (num_any _ _).mono ?_); rintro e w9 ⟨rfl, rfl⟩) | fail)
          (with_reducible refine HX.out.mono ?_)
          rintro e w9 ⟨rfl, rfl⟩
          go_wp2_with fail
          (with_reducible refine HL.out.mono ?_)
          rintro e w6 ⟨A6, c6, rfl, _, b6, _⟩
          have S6 := Lib.hid (S5.out.below b6)
          have HN := Lib.hid (S6.out.nxt)
          clear b6 HL HX S5
          go_wp2_with fail
          (with_reducible refine HN.out.mono ?_)
          rintro e w9 ⟨rfl, rfl⟩
          go_wp2_with fail
          exact ⟨⟨i + 1, next + 1, del l1 x, by omega, by simp, by rfl, by first | (rw [HMM.out]; done) | (rw [HMM.out]; congr 1; omega), S6⟩, by simp [intOf]; omega⟩
    · have : i = zs.length := by omega
      subst this
      clear hlt hi
      have HX := Lib.hid (HS.out.setnext (-1))
      rw [show seE l (-1) = 5 by simp [seE, badB], show seX next l (-1) = next by simp [seX, badB]] at HX
      go_wp2_with fail
      (with_reducible refine HX.out.mono ?_)
      rintro e w4 ⟨rfl, s4⟩
      have HY := Lib.hid (s4.setnext 65537)
      rw [show seE l 65537 = 5 by simp [seE, badB], show seX next l 65537 = next by simp [seX, badB]] at HY
      clear HX HS s4
      go_wp2_with (first | (go_at_call 8; (refine (num_any _ _).mono ?_); rintro e w9 ⟨rfl, rfl⟩) | fail)
      (with_reducible refine HY.out.mono ?_)
      rintro e w5 ⟨rfl, s5⟩
      have S5 := Lib.hid s5
      clear HY s5
      go_wp2_with (first | (go_at_call 8; (refine (num_any _ _).mono ?_); rintro e w9 ⟨rfl, rfl⟩) | fail)
      go_ret
      exact ⟨rfl, S5.out.2⟩
theorem trod_rints {H : Type} {enc : TypeId × Value → H} {w : World} {base : Nat} {sp : Nat → Bool} {held : Bool} {fuel : Nat} {l : List Value} {y : DataW H × List MemPlace} (h : DataW.trod enc Try.prog w base sp held fuel 42 l = some y) : ∃ u zs, l = [u] ∧ ReadsInts w u zs := by
  obtain ⟨u, ps, e, ⟨A, c, e2, h1, h2, h3⟩, _⟩ := Open.trod_ints Try.underlying42 Try.underlying3 cells_int h
  exact ⟨u, ps, e, A, c, e2, Nat.le_trans h1 h2, h3⟩
end Go.Proofs.Ytpkgiemigbjfeaa.Kin

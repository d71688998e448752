/- ProcsLoads: the walk. Own text; Ytpkgiemigbjfeaa and the numbers between @..@ are the seat's. -/
import Derived.Test.YtpkgiemigbjfeaaPrL
import Derived.Test.YtpkgiemigbjfeaaKinM
namespace Go.Proofs.Ytpkgiemigbjfeaa.Kin
open Go.RowKit Go.Proofs.Ytpkgiemigbjfeaa.Mem
set_option linter.unusedVariables false
/-- The program's record and the numbers that are wanted, beside one another. -/
structure Ld (w wr : World) (p : Nat) (v : Value) (next : Int) (l q : List Int) : Prop where
  pt : ∃ F, Pt 54 wr p 32 next l F ∧ ∀ b, F b → w.heap.size ≤ b ∧ b < wr.heap.size ∧ ¬ v.ownBlock = some b
  own : wr.ownsRow 0 3 1 v q.length (q.map i64)
  blk : ∀ b, v.ownBlock = some b → w.heap.size ≤ b
  bel : Below w.heap.size w wr
section
variable {w wr w' : World} {p : Nat} {v v' : Value} {next n' : Int} {l l' q q' : List Int}
theorem Ld.below (h : Ld w wr p v next l q) (hb : Below wr.heap.size wr w') : Ld w w' p v next l q := by
  obtain ⟨F, h1, h2⟩ := h.pt
  exact ⟨⟨F, h1.below hb, fun b hf => ⟨(h2 b hf).1, Nat.lt_of_lt_of_le (h2 b hf).2.1 hb.size, (h2 b hf).2.2⟩⟩, own_keeps h.own (Kept.of_below hb), h.blk, h.bel.trans (hb.mono h.bel.size)⟩
theorem Ld.on {f : Nat} {ar : Array Value} {E : Ending} (h : Ld w wr p v next l q) (hc : ∀ F, Pt 54 wr p 32 next l F → Calls Try.prog f ar wr fun e w' => e = E ∧ Kept F wr w' ∧ Pt 54 w' p 32 n' l' (fun b => F b ∨ wr.heap.size ≤ b)) :
    Calls Try.prog f ar wr fun e w' => e = E ∧ Ld w w' p v n' l' q := by
  obtain ⟨F, h1, h2⟩ := h.pt
  refine (hc F h1).mono ?_
  rintro e w' ⟨rfl, hk, h3⟩
  refine ⟨rfl, ⟨_, h3.tight, fun b hb => ?_⟩, own_kept h.own hk (fun b hb hf => (h2 b hf).2.2 hb), h.blk, h.bel.trans (hk.below (fun b hb => (h2 b hb).1) h.bel.size)⟩
  obtain ⟨h4, h5⟩ := hb
  rcases h4 with h4 | h4
  · exact ⟨(h2 b h4).1, h5, (h2 b h4).2.2⟩
  · exact ⟨Nat.le_trans h.bel.size h4, h5, fun e => by have := own_lt h.own b e; omega⟩
theorem Ld.want (h : Ld w wr p v next l q) (hk : Kept (fun b => v.ownBlock = some b) wr w') (ho : w'.ownsRow 0 3 1 v' q'.length (q'.map i64)) (hb : ∀ b, v'.ownBlock = some b → v.ownBlock = some b ∨ wr.heap.size ≤ b) : Ld w w' p v' next l q' := by
  obtain ⟨F, h1, h2⟩ := h.pt
  refine ⟨⟨F, h1.kept hk (fun b hf => (h2 b hf).2.2), fun b hf => ⟨(h2 b hf).1, Nat.lt_of_lt_of_le (h2 b hf).2.1 hk.size, fun e => ?_⟩⟩, ho, fun b e => ?_, h.bel.trans (hk.below (fun b hb => h.blk b hb) h.bel.size)⟩
  · rcases hb b e with e | e
    · exact (h2 b hf).2.2 e
    · have := (h2 b hf).2.1; omega
  · rcases hb b e with e | e
    · exact h.blk b e
    · exact Nat.le_trans h.bel.size e
theorem Ld.setnext (h : Ld w wr p v next l q) (n : Int) : Calls Try.prog 14 #[.pointer (some ⟨p, 0, none⟩), .int .i64 n] wr fun e w' => e = .returned (.int .i64 (seE l n)) ∧ Ld w w' p v (seX next l n) l q :=
  h.on (fun F h => (setnext_any wr p 32 next l F h n).mono (fun e w' x => ⟨x.1, x.2.1, x.2.2.mono (fun b hb => .inl hb)⟩))
theorem Ld.spawn (h : Ld w wr p v next l q) : Calls Try.prog 10 #[.pointer (some ⟨p, 0, none⟩)] wr fun e w' => e = .returned (.tuple #[.int .i64 (spN 32 next l), .int .i64 (spE 32 next l)]) ∧ Ld w w' p v (spX 32 next l) (spL 32 next l) q := h.on (fun F h => spawn_any wr p 32 next l F h)
theorem Ld.numbers (h : Ld w wr p v next l q) : Calls Try.prog 18 #[.pointer (some ⟨p, 0, none⟩)] wr fun e w' => ∃ A c, e = .returned (.slice A l.length c) ∧ w'.ownsRow 0 3 1 (.slice A l.length c) l.length (l.map i64) ∧ Below wr.heap.size wr w' ∧ Fresh wr (.slice A l.length c) := by
  obtain ⟨F, h1, h2⟩ := h.pt
  exact numbers_any wr p 32 next l F h1
theorem Ld.nxt (h : Ld w wr p v next l q) : Calls Try.prog 19 #[.pointer (some ⟨p, 0, none⟩)] wr fun e w' => e = .returned (.int .i64 next) ∧ wr = w' := by
  obtain ⟨F, h1, h2⟩ := h.pt
  exact next_any wr p 32 next l F h1
end
/-- Where the loop stands. -/
structure LF (i : Nat) (a : Int) (l : List Int) : Prop where
  len : l.length = i
  lo : -1 ≤ a
  hi : a < 2000 * i
  top : ∀ y ∈ l, y ≤ a
  mem : a = -1 ∨ a ∈ l
theorem LF.next {i : Nat} {a : Int} {l : List Int} (h : LF i a l) {r : Int} (h1 : 0 ≤ r) (h2 : r < 2000) : LF (i + 1) (a + 1 + r) (l ++ [a + 1 + r]) := by
  have := h.lo
  have := h.hi
  refine ⟨by rw [List.length_append, h.len]; rfl, by omega, by omega, fun y hy => ?_, .inr (by simp)⟩
  rcases List.mem_append.1 hy with e | e
  · have := h.top y e; omega
  · obtain rfl := List.mem_singleton.1 e; omega
theorem LF.ok {i : Nat} {a : Int} {l : List Int} (h : LF i a l) {z : Int} (h1 : a < z) (h2 : z ≤ 65536) : ¬ badB l z = true := by
  have := h.lo
  simp only [badB, decide_eq_true_eq]
  rintro (e | e | ⟨y, hy, e⟩)
  · omega
  · omega
  · have := h.top y hy; omega
theorem LF.bad {i : Nat} {a : Int} {l : List Int} (h : LF i a l) : badB l a = true := by
  simp only [badB, decide_eq_true_eq]
  rcases h.mem with e | e
  · exact .inl (by omega)
  · exact .inr (.inr ⟨a, e, Int.le_refl _⟩)
theorem apart2 (w5 w6 w7 : World) (i : Nat) (l : List Int) (hl : l.length = i) (hi : i ≤ 32) (A Aa Ab : Option Addr) (c ca cb : Nat)
    (ow : w5.ownsRow 0 3 1 (.slice A i c) i (l.map i64)) (oa : w6.ownsRow 0 3 1 (.slice Aa i ca) i (l.map i64)) (ba : Below w5.heap.size w5 w6) (fa : Fresh w5 (.slice Aa i ca))
    (ob : w7.ownsRow 0 3 1 (.slice Ab i cb) i (l.map i64)) (bb : Below w6.heap.size w6 w7) (fb : Fresh w6 (.slice Ab i cb)) :
    Calls Try.prog 20 #[.slice (some ⟨w7.heap.size, 0, none⟩) 2 2, .slice (some ⟨w7.heap.size + 1, 0, none⟩) 2 2] ((w7.alloc (.cells #[.slice Aa i ca, .slice Ab i cb] 42)).alloc (.cells #[.slice A i c, .slice A i c] 42)) fun e w' => e = .returned (.bool true) ∧ Below w5.heap.size w5 w' := by
  obtain ⟨W, hW⟩ : ∃ W, (w7.alloc (.cells #[.slice Aa i ca, .slice Ab i cb] 42)).alloc (.cells #[.slice A i c, .slice A i c] 42) = W := ⟨_, rfl⟩
  have b7 : Below w7.heap.size w7 W := by rw [← hW]; exact ((Below.refl _ w7).alloc (Nat.le_refl _) _).alloc (by simp) _
  have rG : W.heap[w7.heap.size]? = some (.cells #[.slice Aa i ca, .slice Ab i cb] 42) := by
    rw [← hW]
    exact (((Below.refl _ (w7.alloc (.cells #[.slice Aa i ca, .slice Ab i cb] 42))).alloc (Nat.le_refl _) _).block _ (by simp)).trans (heap_alloc_new w7 _)
  have rH : W.heap[w7.heap.size + 1]? = some (.cells #[.slice A i c, .slice A i c] 42) := by
    rw [← hW]
    have := heap_alloc_new (w7.alloc (.cells #[.slice Aa i ca, .slice Ab i cb] 42)) (.cells #[.slice A i c, .slice A i c] 42)
    simpa using this
  rw [hW]
  clear hW
  have s56 := ba.size
  have s67 := bb.size
  have ow7 := own_keeps (own_keeps (own_keeps ow (Kept.of_below ba)) (Kept.of_below bb)) (Kept.of_below b7)
  have oa7 := own_keeps (own_keeps oa (Kept.of_below bb)) (Kept.of_below b7)
  have ob7 := own_keeps ob (Kept.of_below b7)
  have la : ∀ b, (Value.slice Aa i ca).ownBlock = some b → w5.heap.size ≤ b ∧ b < w6.heap.size := fun b hb => ⟨fa b hb, own_lt oa b hb⟩
  have lb : ∀ b, (Value.slice Ab i cb).ownBlock = some b → w6.heap.size ≤ b ∧ b < w7.heap.size := fun b hb => ⟨fb b hb, own_lt ob b hb⟩
  refine (apart_any W 2 (by decide) (fun k => if k = 0 then .slice Aa i ca else .slice Ab i cb) (fun _ => .slice A i c) (fun _ => i) (fun _ => l) ⟨fun k hk => ?_, fun k j b hk hj h1 h2 => ?_⟩ (fun _ _ => hl) (fun _ _ => reads_own hl ow7) (fun _ _ => by omega) w7.heap.size 0 2 (w7.heap.size + 1) 0 2 (fun k hk => ?_) (fun k hk => ?_) (fun k hk e => ?_) (lt_of_row rG)).mono ?_
  · rcases k with _ | k
    · exact oa7
    · exact ob7
  · rcases k with _ | k <;> rcases j with _ | j
    · rfl
    · have := la b h1; have := lb b h2; omega
    · have := lb b h1; have := la b h2; omega
    · omega
  · rcases k with _ | _ | k
    · exact cell_row rG rfl
    · exact cell_row rG rfl
    · omega
  · rcases k with _ | _ | k
    · exact cell_row rH rfl
    · exact cell_row rH rfl
    · omega
  · rcases k with _ | k
    · have := la _ e; omega
    · have := lb _ e; omega
  · rintro e w' ⟨rfl, hk⟩
    have h57 : Below w5.heap.size w5 W := (ba.trans (bb.mono s56)).trans (b7.mono (by omega))
    refine ⟨rfl, h57.trans (hk.below (fun b hb => ?_) h57.size)⟩
    obtain ⟨k, hk, e⟩ := hb
    rcases k with _ | k
    · exact (la b e).1
    · have := (lb b e).1; omega
set_option maxHeartbeats 8000000 in
set_option maxRecDepth 100000 in
theorem law_loads (w : World) (vs : Value) (zs : List Int) (last : Int) (hs : ReadsInts w vs zs) :
    Calls Try.prog 5 #[vs, .int .i64 last] w fun e w' => e = .returned (.bool true) ∧ Below w.heap.size w w' := by
  obtain ⟨As, cs, rfl, hs2, hs3⟩ := hs
  unfold maxLen at hs2
  have HS3 := Lib.hid hs3
  clear hs3
  have HX := Lib.hid (new_in w 32 (by decide) (by decide))
  rw [show ((32 : Nat) : Int) = 32 from rfl] at HX
  go_enter Try.func5, Try.ntmps5
  go_wp2_with fail
  (with_reducible refine HX.out.mono ?_)
  rintro e w1 ⟨p, rfl, b1, k1⟩
  have HS : Hid (So w w1 p 32 1 [0]) := ⟨k1, b1⟩
  clear HX b1 k1
  have HX := Lib.hid (alive_any w1)
  go_wp2_with (first | (go_at_call 8; (refine (num_any _ _).mono ?_); rintro e w9 ⟨rfl, rfl⟩) | fail)
  (with_reducible refine HX.out.mono ?_)
  rintro e w2 ⟨rfl, b2⟩
  have H2 := Lib.hid (HS.out.below b2)
  clear HX b2 HS
  have HX := Lib.hid (H2.out.exit 0)
  rw [show exE [0] 0 = 0 by decide, show del [0] 0 = [] by decide] at HX
  go_wp2_with fail
  (with_reducible refine HX.out.mono ?_)
  rintro e w3 ⟨rfl, s3⟩
  have L3 : Hid (Ld w w3 p (.slice none 0 0) 1 [] []) := ⟨⟨_, s3.1.tight, fun b hb => ⟨hb.1, hb.2, fun e => by simp [Value.ownBlock] at e⟩⟩, World.ownsRow_nil _ _ _ _, fun b e => by simp [Value.ownBlock] at e, s3.2⟩
  clear s3 HX H2
  go_wp2_with (first | (go_at_call 8; (refine (num_any _ _).mono ?_); rintro e w9 ⟨rfl, rfl⟩) | fail)
  go_loopw [7, 8, 9] (fun v7 v8 v9 wr => ∃ (i : Nat) (a next : Int) (l : List Int) (A : Option Addr) (c : Nat), i ≤ zs.length ∧ i ≤ 32 ∧ -1 ≤ a ∧ a < 2000 * i ∧ v7 = .slice A i c ∧ v8 = .int .i64 a ∧ v9 = .int .i64 i ∧ Hid (LF i a l) ∧ Hid (Ld w wr p (.slice A i c) next l l)) (fun _ _ v9 _ => zs.length - (intOf v9).toNat)
  case atStart => exact ⟨0, -1, 1, [], none, 0, Nat.zero_le _, by omega, by omega, by omega, rfl, rfl, rfl, ⟨rfl, by omega, by omega, (fun y hy => nomatch hy), .inl rfl⟩, L3⟩
  case round =>
    clear L3
    obtain ⟨i, a, next, l, A, c, hi, hi2, ha1, ha2, rfl, rfl, rfl, HF, HL⟩ := hrel
    by_cases hlt : i < zs.length ∧ i < 32
    · obtain ⟨hlt, h32⟩ := hlt
      obtain ⟨x, hx⟩ : ∃ x, zs[i]? = some x := ⟨_, List.getElem?_eq_getElem hlt⟩
      obtain ⟨gs, ss, rfl, hcell⟩ := HS3.out (by omega)
      have hgs : Hid (gs < w.heap.size) := World.block_lt_of_cell? w _ (hcell i x hx)
      have y0 : wr.cell? ⟨gs, ss + i, none⟩ = some (.int .i64 x) := (HL.out.bel.cell (show (⟨gs, ss + i, none⟩ : Addr).block < w.heap.size from hgs.out)).trans (hcell i x hx)
      have e1 : x.tmod 2000 < 2000 := Int.tmod_lt_of_pos x (by decide)
      have e2 : -2000 < x.tmod 2000 := Int.lt_tmod_of_pos x (by decide)
      obtain ⟨R, hR⟩ : ∃ R, x.tmod 2000 = R := ⟨_, rfl⟩
      have hw : IntKind.i64.wrap (x.tmod 2000) = R := by rw [hR]; exact IntWalk.i64_in _ (by omega)
      rw [hR] at e1 e2
      have hi3 : (i : Int) < 32 := by omega
      clear hcell hx
      go_wp2_with fail
      obtain ⟨b, hb⟩ : ∃ b, a + 1 + R % 2000 = b := ⟨_, rfl⟩
      have hba : a < b := by omega
      have hbb : b ≤ 65535 := by omega
      have hbi : b < 2000 * ((i + 1 : Nat) : Int) := by omega
      have HF2 : Hid (LF (i + 1) b (l ++ [b])) := by rw [← hb]; exact HF.out.next (by omega) (by omega)
      have HX := Lib.hid (HL.out.setnext b)
      rw [show seE l b = 0 by unfold seE; rw [if_neg (HF.out.ok hba (by omega))], show seX next l b = b by unfold seX; rw [if_neg (HF.out.ok hba (by omega))]] at HX
      have HFB : Hid (¬ fullB 32 b l = true) := by
        show ¬ _
        simp only [fullB, decide_eq_true_eq]
        rw [HF.out.len]
        omega
      have HLN := Lib.hid HF.out.len
      clear HF HL
      rw [hb]
      (with_reducible refine HX.out.mono ?_)
      rintro e w4 ⟨rfl, l4⟩
      have HY := Lib.hid l4.spawn
      unfold spN spE spX spL at HY
      simp only [if_neg HFB.out] at HY
      clear l4 HX hR hw hb HFB
      go_wp2_with (first | (go_at_call 8; (refine (num_any _ _).mono ?_); rintro e w9 ⟨rfl, rfl⟩) | fail)
      (with_reducible refine HY.out.mono ?_)
      rintro e w5 ⟨rfl, l5⟩
      have L5 := Lib.hid l5
      have O5 : Hid (w5.ownsRow 0 3 1 (.slice A i c) i (l.map i64)) := by have := l5.own; rwa [HLN.out] at this
      clear l5 HY
      go_wp2_with (first | (go_at_call 8; (refine (num_any _ _).mono ?_); rintro e w9 ⟨rfl, rfl⟩) | (at_builtin; refine list_app2 rfl (.tmp 75) (.tmp 77) 42 rfl 3 0 _ 1 8 Try.underlying42 info_int rfl (by decide) (by decide) (.slice A i c) i _ rfl (own_keeps O5.out ((Kept.refl _ _).alloc _)) (some ⟨w5.heap.size, 0, none⟩) 1 1 [i64 b] rfl rfl (holds_new _ _ _ _ _ rfl) (by simp [Value.oneCell', i64]) (by omega) (Nat.zero_le _) ?_; intro v9 w9 hown9 hwent9; (obtain ⟨A9, c9, rfl, _⟩ := own_slice hown9); have O9 := Lib.hid hown9; have W9 := Lib.hid hwent9; clear hown9 hwent9))
      have hlen : (l ++ [b]).length = i + 1 := by rw [List.length_append, HLN.out]; rfl
      have L9 : Hid (Ld w w9 p (.slice A9 (i + 1) c9) (b + 1) (l ++ [b]) (l ++ [b])) := L5.out.want (((Kept.refl _ _).alloc _).trans W9.out.kept (fun b hb => .inl hb)) (by rw [hlen, List.map_append]; exact O9.out) (fun x hx => by
        rcases W9.out.block with e | e
        · exact .inl (e ▸ hx)
        · have h1 := Option.some.inj (e.symm.trans hx)
          simp at h1
          exact .inr (by omega))
      exact ⟨⟨i + 1, b, b + 1, l ++ [b], A9, c9, by omega, by omega, by omega, hbi, rfl, rfl, by simp, HF2, L9⟩, by simp [intOf]; omega⟩
    · by_cases h32 : i < 32
      · have hiz : ¬ i < zs.length := fun e => hlt ⟨e, h32⟩
        clear hlt
        have e3 : last.tmod 1000 < 1000 := Int.tmod_lt_of_pos last (by decide)
        have e4 : -1000 < last.tmod 1000 := Int.lt_tmod_of_pos last (by decide)
        obtain ⟨R, hR⟩ : ∃ R, last.tmod 1000 = R := ⟨_, rfl⟩
        have hw : IntKind.i64.wrap (last.tmod 1000) = R := by rw [hR]; exact IntWalk.i64_in _ (by omega)
        rw [hR] at e3 e4
        have hll : Hid (l.length ≤ 32) := by rw [HF.out.len]; exact hi2
        obtain ⟨b, hb⟩ : ∃ b, a + 1 + R % 1000 = b := ⟨_, rfl⟩
        have hba : a < b := by omega
        have hbb : b ≤ 65536 := by omega
        have HX := Lib.hid (HL.out.setnext b)
        rw [show seE l b = 0 by unfold seE; rw [if_neg (HF.out.ok hba hbb)], show seX next l b = b by unfold seX; rw [if_neg (HF.out.ok hba hbb)]] at HX
        have HLN := Lib.hid HF.out.len
        have HB := Lib.hid HF.out.bad
        clear HF HL
        go_wp2_with fail
        (with_reducible refine HX.out.mono ?_)
        rintro e w4 ⟨rfl, l4⟩
        have HY := Lib.hid (l4.setnext a)
        rw [show seE l a = 5 by unfold seE; rw [if_pos HB.out], show seX b l a = b by unfold seX; rw [if_pos HB.out]] at HY
        clear l4 HX hR hw hb
        go_wp2_with (first | (go_at_call 8; (refine (num_any _ _).mono ?_); rintro e w9 ⟨rfl, rfl⟩) | fail)
        (with_reducible refine HY.out.mono ?_)
        rintro e w5 ⟨rfl, l5⟩
        have HX := Lib.hid (l5.numbers)
        rw [HLN.out] at HX
        have L5 := Lib.hid l5
        clear l5 HY
        go_wp2_with (first | (go_at_call 8; (refine (num_any _ _).mono ?_); rintro e w9 ⟨rfl, rfl⟩) | fail)
        (with_reducible refine HX.out.mono ?_)
        rintro e w6 ⟨Aa, ca, rfl, oa, ba, fa⟩
        have L6 := Lib.hid (L5.out.below ba)
        have HY := Lib.hid (L6.out.numbers)
        rw [HLN.out] at HY
        have OA := Lib.hid oa
        have BA := Lib.hid ba
        have FA := Lib.hid fa
        clear oa ba fa HX
        go_wp2_with fail
        (with_reducible refine HY.out.mono ?_)
        rintro e w7 ⟨Ab, cb, rfl, ob, bb, fb⟩
        have L7 := Lib.hid (L6.out.below bb)
        have HX := Lib.hid (L7.out.nxt)
        have OB := Lib.hid ob
        have BB := Lib.hid bb
        have FB := Lib.hid fb
        clear ob bb fb HY
        go_wp2_with fail
        (with_reducible refine HX.out.mono ?_)
        rintro e w9 ⟨rfl, rfl⟩
        clear HX
        go_wp2_with fail
        have HX := Lib.hid (apart2 w5 w6 w7 i l HLN.out hi2 A Aa Ab c ca cb (by have := L5.out.own; rwa [HLN.out] at this) OA.out BA.out FA.out OB.out BB.out FB.out)
        clear OA BA FA OB BB FB L6 L7
        go_wp2_with fail
        (with_reducible refine HX.out.mono ?_)
        rintro e w8 ⟨rfl, b8⟩
        have L8 := Lib.hid (L5.out.below b8)
        clear b8 L5 HX
        have HY := Lib.hid (L8.out.numbers)
        rw [HLN.out] at HY
        go_wp2_with fail
        (with_reducible refine HY.out.mono ?_)
        rintro e w9 ⟨Ac, cc, rfl, oc, bc, _⟩
        have L9 := Lib.hid (L8.out.below bc)
        have NS := Lib.hid (numbers_same w9 _ _ l (reads_own HLN.out oc) (reads_own HLN.out (by have := L9.out.own; rwa [HLN.out] at this : w9.ownsRow 0 3 1 (.slice A i c) i (l.map i64))))
        clear oc bc HY L8
        go_wp2_with fail
        (with_reducible refine NS.out.mono ?_)
        rintro e w10 ⟨rfl, b10⟩
        have L10 := Lib.hid (L9.out.below b10)
        clear b10 NS L9
        go_wp2_with fail
        go_ret
        exact ⟨rfl, L10.out.bel⟩
      · have h32' : ¬ (i : Int) < 32 := by omega
        clear hlt
        by_cases hiz : i < zs.length
        · skip
          have e3 : last.tmod 1000 < 1000 := Int.tmod_lt_of_pos last (by decide)
          have e4 : -1000 < last.tmod 1000 := Int.lt_tmod_of_pos last (by decide)
          obtain ⟨R, hR⟩ : ∃ R, last.tmod 1000 = R := ⟨_, rfl⟩
          have hw : IntKind.i64.wrap (last.tmod 1000) = R := by rw [hR]; exact IntWalk.i64_in _ (by omega)
          rw [hR] at e3 e4
          have hll : Hid (l.length ≤ 32) := by rw [HF.out.len]; exact hi2
          obtain ⟨b, hb⟩ : ∃ b, a + 1 + R % 1000 = b := ⟨_, rfl⟩
          have hba : a < b := by omega
          have hbb : b ≤ 65536 := by omega
          have HX := Lib.hid (HL.out.setnext b)
          rw [show seE l b = 0 by unfold seE; rw [if_neg (HF.out.ok hba hbb)], show seX next l b = b by unfold seX; rw [if_neg (HF.out.ok hba hbb)]] at HX
          have HLN := Lib.hid HF.out.len
          have HB := Lib.hid HF.out.bad
          clear HF HL
          go_wp2_with fail
          (with_reducible refine HX.out.mono ?_)
          rintro e w4 ⟨rfl, l4⟩
          have HY := Lib.hid (l4.setnext a)
          rw [show seE l a = 5 by unfold seE; rw [if_pos HB.out], show seX b l a = b by unfold seX; rw [if_pos HB.out]] at HY
          clear l4 HX hR hw hb
          go_wp2_with (first | (go_at_call 8; (refine (num_any _ _).mono ?_); rintro e w9 ⟨rfl, rfl⟩) | fail)
          (with_reducible refine HY.out.mono ?_)
          rintro e w5 ⟨rfl, l5⟩
          have HX := Lib.hid (l5.numbers)
          rw [HLN.out] at HX
          have L5 := Lib.hid l5
          clear l5 HY
          go_wp2_with (first | (go_at_call 8; (refine (num_any _ _).mono ?_); rintro e w9 ⟨rfl, rfl⟩) | fail)
          (with_reducible refine HX.out.mono ?_)
          rintro e w6 ⟨Aa, ca, rfl, oa, ba, fa⟩
          have L6 := Lib.hid (L5.out.below ba)
          have HY := Lib.hid (L6.out.numbers)
          rw [HLN.out] at HY
          have OA := Lib.hid oa
          have BA := Lib.hid ba
          have FA := Lib.hid fa
          clear oa ba fa HX
          go_wp2_with fail
          (with_reducible refine HY.out.mono ?_)
          rintro e w7 ⟨Ab, cb, rfl, ob, bb, fb⟩
          have L7 := Lib.hid (L6.out.below bb)
          have HX := Lib.hid (L7.out.nxt)
          have OB := Lib.hid ob
          have BB := Lib.hid bb
          have FB := Lib.hid fb
          clear ob bb fb HY
          go_wp2_with fail
          (with_reducible refine HX.out.mono ?_)
          rintro e w9 ⟨rfl, rfl⟩
          clear HX
          go_wp2_with fail
          have HX := Lib.hid (apart2 w5 w6 w7 i l HLN.out hi2 A Aa Ab c ca cb (by have := L5.out.own; rwa [HLN.out] at this) OA.out BA.out FA.out OB.out BB.out FB.out)
          clear OA BA FA OB BB FB L6 L7
          go_wp2_with fail
          (with_reducible refine HX.out.mono ?_)
          rintro e w8 ⟨rfl, b8⟩
          have L8 := Lib.hid (L5.out.below b8)
          clear b8 L5 HX
          have HY := Lib.hid (L8.out.numbers)
          rw [HLN.out] at HY
          go_wp2_with fail
          (with_reducible refine HY.out.mono ?_)
          rintro e w9 ⟨Ac, cc, rfl, oc, bc, _⟩
          have L9 := Lib.hid (L8.out.below bc)
          have NS := Lib.hid (numbers_same w9 _ _ l (reads_own HLN.out oc) (reads_own HLN.out (by have := L9.out.own; rwa [HLN.out] at this : w9.ownsRow 0 3 1 (.slice A i c) i (l.map i64))))
          clear oc bc HY L8
          go_wp2_with fail
          (with_reducible refine NS.out.mono ?_)
          rintro e w10 ⟨rfl, b10⟩
          have L10 := Lib.hid (L9.out.below b10)
          clear b10 NS L9
          go_wp2_with fail
          go_ret
          exact ⟨rfl, L10.out.bel⟩
        · skip
          have e3 : last.tmod 1000 < 1000 := Int.tmod_lt_of_pos last (by decide)
          have e4 : -1000 < last.tmod 1000 := Int.lt_tmod_of_pos last (by decide)
          obtain ⟨R, hR⟩ : ∃ R, last.tmod 1000 = R := ⟨_, rfl⟩
          have hw : IntKind.i64.wrap (last.tmod 1000) = R := by rw [hR]; exact IntWalk.i64_in _ (by omega)
          rw [hR] at e3 e4
          have hll : Hid (l.length ≤ 32) := by rw [HF.out.len]; exact hi2
          obtain ⟨b, hb⟩ : ∃ b, a + 1 + R % 1000 = b := ⟨_, rfl⟩
          have hba : a < b := by omega
          have hbb : b ≤ 65536 := by omega
          have HX := Lib.hid (HL.out.setnext b)
          rw [show seE l b = 0 by unfold seE; rw [if_neg (HF.out.ok hba hbb)], show seX next l b = b by unfold seX; rw [if_neg (HF.out.ok hba hbb)]] at HX
          have HLN := Lib.hid HF.out.len
          have HB := Lib.hid HF.out.bad
          clear HF HL
          go_wp2_with fail
          (with_reducible refine HX.out.mono ?_)
          rintro e w4 ⟨rfl, l4⟩
          have HY := Lib.hid (l4.setnext a)
          rw [show seE l a = 5 by unfold seE; rw [if_pos HB.out], show seX b l a = b by unfold seX; rw [if_pos HB.out]] at HY
          clear l4 HX hR hw hb
          go_wp2_with (first | (go_at_call 8; (refine (num_any _ _).mono ?_); rintro e w9 ⟨rfl, rfl⟩) | fail)
          (with_reducible refine HY.out.mono ?_)
          rintro e w5 ⟨rfl, l5⟩
          have HX := Lib.hid (l5.numbers)
          rw [HLN.out] at HX
          have L5 := Lib.hid l5
          clear l5 HY
          go_wp2_with (first | (go_at_call 8; (refine (num_any _ _).mono ?_); rintro e w9 ⟨rfl, rfl⟩) | fail)
          (with_reducible refine HX.out.mono ?_)
          rintro e w6 ⟨Aa, ca, rfl, oa, ba, fa⟩
          have L6 := Lib.hid (L5.out.below ba)
          have HY := Lib.hid (L6.out.numbers)
          rw [HLN.out] at HY
          have OA := Lib.hid oa
          have BA := Lib.hid ba
          have FA := Lib.hid fa
          clear oa ba fa HX
          go_wp2_with fail
          (with_reducible refine HY.out.mono ?_)
          rintro e w7 ⟨Ab, cb, rfl, ob, bb, fb⟩
          have L7 := Lib.hid (L6.out.below bb)
          have HX := Lib.hid (L7.out.nxt)
          have OB := Lib.hid ob
          have BB := Lib.hid bb
          have FB := Lib.hid fb
          clear ob bb fb HY
          go_wp2_with fail
          (with_reducible refine HX.out.mono ?_)
          rintro e w9 ⟨rfl, rfl⟩
          clear HX
          go_wp2_with fail
          have HX := Lib.hid (apart2 w5 w6 w7 i l HLN.out hi2 A Aa Ab c ca cb (by have := L5.out.own; rwa [HLN.out] at this) OA.out BA.out FA.out OB.out BB.out FB.out)
          clear OA BA FA OB BB FB L6 L7
          go_wp2_with fail
          (with_reducible refine HX.out.mono ?_)
          rintro e w8 ⟨rfl, b8⟩
          have L8 := Lib.hid (L5.out.below b8)
          clear b8 L5 HX
          have HY := Lib.hid (L8.out.numbers)
          rw [HLN.out] at HY
          go_wp2_with fail
          (with_reducible refine HY.out.mono ?_)
          rintro e w9 ⟨Ac, cc, rfl, oc, bc, _⟩
          have L9 := Lib.hid (L8.out.below bc)
          have NS := Lib.hid (numbers_same w9 _ _ l (reads_own HLN.out oc) (reads_own HLN.out (by have := L9.out.own; rwa [HLN.out] at this : w9.ownsRow 0 3 1 (.slice A i c) i (l.map i64))))
          clear oc bc HY L8
          go_wp2_with fail
          (with_reducible refine NS.out.mono ?_)
          rintro e w10 ⟨rfl, b10⟩
          have L10 := Lib.hid (L9.out.below b10)
          clear b10 NS L9
          go_wp2_with fail
          go_ret
          exact ⟨rfl, L10.out.bel⟩
end Go.Proofs.Ytpkgiemigbjfeaa.Kin

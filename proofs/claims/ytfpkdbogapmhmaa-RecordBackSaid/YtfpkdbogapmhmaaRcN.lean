/- Record: ParseAnswer reads a reply (written by hand, out of RcJ). -/
import Derived.Test.YtfpkdbogapmhmaaRcM
import Derived.Test.YtfpkdbogapmhmaaRcJ
namespace Go.Proofs.Ytfpkdbogapmhmaa.O
open Go.RowKit Go.Proofs.Ytfpkdbogapmhmaa.Mem
set_option linter.unusedVariables false
set_option linter.unusedSimpArgs false
theorem read_factsR {op : Int} {zs : List Int} {c : Rp} (hB : Bytes zs) (h : readR op zs = some c) : U64 c.hi ∧ U64 c.lo ∧ Bytes c.da := by
  have z64 : U64 0 := by unfold U64; omega
  have bn : Bytes [] := fun z hz => by cases hz
  unfold readR at h
  obtain ⟨a, ha, h⟩ := Option.bind_eq_some_iff.1 h
  have h1 := (num_bytes hB ha).1
  unfold zr at h
  simp only at h
  split at h
  · obtain rfl := Option.some.inj h; exact ⟨z64, z64, bn⟩
  · split at h
    · obtain ⟨x, hx, rfl⟩ := Option.map_eq_some_iff.1 h
      have := cap_bytes h1 hx
      exact ⟨this.2.1, this.2.2, bn⟩
    · split at h
      · obtain rfl := Option.some.inj h; exact ⟨z64, z64, h1⟩
      · split at h
        · obtain ⟨x, hx, rfl⟩ := Option.map_eq_some_iff.1 h
          exact ⟨z64, z64, bn⟩
        · obtain rfl := Option.some.inj h; exact ⟨z64, z64, bn⟩
theorem encR_bytes {op : Int} {c : Rp} (h : Bytes c.da) : Bytes (encR op c) := by
  have bn : Bytes [] := fun z hz => by cases hz
  refine app_bytes (le_bytes _ _) ?_
  split
  · exact bn
  · split
    · exact cap_bytes' _ _ _
    · split
      · exact h
      · split
        · exact le_bytes _ _
        · exact bn
theorem ansO_bytes {op : Int} {c : Rp} (h : Bytes c.da) : Bytes (ansO op c) := by
  unfold ansO
  split
  · exact encR_bytes h
  · exact fun z hz => by cases hz
/-- What ParseAnswer answers. -/
def PA (o : Option Rp) (w : World) (e : Ending) (w' : World) : Prop :=
  ∃ D, e = .returned (.tuple #[rv (o.getD zr) D, .int .i64 (if o.isSome then 0 else 1)]) ∧ OB w' D (o.getD zr).da ∧ Fresh w D ∧ Below w.heap.size w w'
theorem pa_none {op : Int} {zs : List Int} {w W : World} (h : parseR op zs = none) (hb : Below w.heap.size w W) : PA (parseR op zs) w (.returned (.tuple #[.agg #[.int .i64 0, .int .i64 0, .int .u64 0, .int .u64 0, .slice none 0 0, .int .i64 0], .int .i64 1])) W := by
  rw [h]
  exact ⟨.slice none 0 0, rfl, OB.nil _, fresh_nil _, hb⟩
set_option maxHeartbeats 4000000 in
set_option maxRecDepth 100000 in
theorem parseA_any (w : World) (op : Int) (v : Value) (zs : List Int) (hb : zs.length ≤ 140737488351300) (hB : Bytes zs) (h : RB w v zs) : Calls Try.prog 18 #[.int .i64 op, v] w fun e w' => PA (parseR op zs) w e w' := by
  suffices ∀ R : Ending → World → Prop, (∀ e w', PA (parseR op zs) w e w' → R e w') → Calls Try.prog 18 #[.int .i64 op, v] w R from this _ (fun _ _ h => h)
  intro R HR
  replace HR := Lib.hid HR
  have HBZ := Lib.hid hB
  have HV := Lib.hid h
  have HLN := Lib.hid hb
  obtain ⟨B, hBe⟩ : ∃ B, w.heap.size = B := ⟨_, rfl⟩
  have hbx : Below w.heap.size w ((w.alloc (.cells #[.int .i64 0, .int .i64 0, .int .u64 0, .int .u64 0, .slice none 0 0, .int .i64 0] 45)).alloc (.cells #[.int .i64 0] 31)) := ((Below.refl _ w).alloc (Nat.le_refl _) _).alloc (by simp) _
  have HBX := Lib.hid hbx
  have HSZ : Hid (((w.alloc (.cells #[.int .i64 0, .int .i64 0, .int .u64 0, .int .u64 0, .slice none 0 0, .int .i64 0] 45)).alloc (.cells #[.int .i64 0] 31)).heap.size = B + 2) := Lib.hid (by simp [hBe])
  have HP : Hid (((w.alloc (.cells #[.int .i64 0, .int .i64 0, .int .u64 0, .int .u64 0, .slice none 0 0, .int .i64 0] 45)).alloc (.cells #[.int .i64 0] 31)).heap[B]? = some (.cells #[.int .i64 0, .int .i64 0, .int .u64 0, .int .u64 0, .slice none 0 0, .int .i64 0] 45)) := Lib.hid (row_on ((Below.refl _ _).alloc (Nat.le_refl _) _) (row_new hBe.symm))
  have HQ : Hid (((w.alloc (.cells #[.int .i64 0, .int .i64 0, .int .u64 0, .int .u64 0, .slice none 0 0, .int .i64 0] 45)).alloc (.cells #[.int .i64 0] 31)).heap[B + 1]? = some (.cells #[.int .i64 0] 31)) := Lib.hid (row_new (by simp [hBe]))
  have hmf : ∀ (fn : Fn) (first cap : Array Value) (w : World), (Instr.makeFunc fn first cap).run Try.prog w = .ok (.func fn first cap) w := fun _ _ _ _ => rfl
  have HBE := Lib.hid hBe
  have hrd := Lib.hid (reader_any _ v zs (by omega) (h.below hbx))
  clear hb hB h hbx
  go_enter_defers Try.func18, Try.ntmps18
  go_wp2_with (first | (go_at_call 38; (with_reducible refine hrd.out.mono ?_); rintro e w3 ⟨r, rfl, hb3, hr3, hd3⟩; have HB3 := Lib.hid hb3; have HR3 := Lib.hid hr3; have HCT := Lib.hid (reply_t w3 r op zs _ (hd3 (fun b => ((w.alloc (.cells #[.int .i64 0, .int .i64 0, .int .u64 0, .int .u64 0, .slice none 0 0, .int .i64 0] 45)).alloc (.cells #[.int .i64 0] 31)).heap.size ≤ b) (fun b h => h)) HBZ.out HLN.out); clear hb3 hr3 hd3) | fail)
  generalize (w.alloc (.cells #[.int .i64 0, .int .i64 0, .int .u64 0, .int .u64 0, .slice none 0 0, .int .i64 0] 45)).alloc (.cells #[.int .i64 0] 31) = w2 at *
  refine HCT.out.mono ?_
  rintro e w4 hcp
  have HRR : Hid (B + 2 ≤ r) := Lib.hid (by rw [← HSZ.out]; exact HR3.out)
  rcases hrc : readR op zs with _ | c <;> rw [hrc] at hcp <;> unfold QP at hcp <;> simp only at hcp
  · obtain ⟨rfl, hk⟩ := hcp
    have hP4 := hk.row (row_on HB3.out HP.out) (show B ≠ r from by have := HRR.out; omega)
    have hQ4 := hk.row (row_on HB3.out HQ.out) (show B + 1 ≠ r from by have := HRR.out; omega)
    have HP4 := Lib.hid hP4
    have HQ4 := Lib.hid hQ4
    have HK4 : Hid (Below w.heap.size w w4) := Lib.hid ((HBX.out.trans (HB3.out.mono HBX.out.size)).trans (hk.below (B := w.heap.size) (fun x hx => by have h1 := HRR.out; have h2 := HBE.out; have h3 : x = r := hx; omega) (Nat.le_trans HBX.out.size HB3.out.size)))
    have HPC : Hid (parseR op zs = none) := Lib.hid (by unfold parseR; rw [hrc])
    clear hP4 hQ4 hk hrc
    go_wp2
    refine leaves_cons (f := 45) (args := #[.pointer (some ⟨B, 0, none⟩), .pointer (some ⟨B + 1, 0, none⟩)]) (by simp) (by simp [go_sem]) ?_
    refine (catch_r B (B + 1) w4 _ 0 HP4.out rfl HQ4.out (by omega)).mono ?_
    rintro e u' w'' ⟨rfl, rfl, rfl⟩
    have KK := fin_rows (new := #[.int .i64 0, .int .i64 0, .int .u64 0, .int .u64 0, .slice none 0 0, .int .i64 0]) (e := .int .i64 1) HP4.out HQ4.out
    refine ⟨_, res_two rfl _ _ B (B + 1) _ _ rfl rfl (run_loadVar_row _ B 45 45 _ (0, 0) _ KK.1 Try.underlying45 rfl info45) (load31 KK.2.1), HR.out _ _ ?_⟩
    exact pa_none HPC.out (HK4.out.trans (KK.2.2.below (B := w.heap.size) (fun x hx => by have h2 := HBE.out; rcases hx with h3 | h3 <;> omega) HK4.out.size))
  · obtain ⟨⟨D, rfl, hD, fD⟩, hk⟩ := hcp
    obtain ⟨hu1, hu2, hda⟩ := read_factsR HBZ.out hrc
    obtain ⟨A1, n1, c1, rfl⟩ : ∃ A n c, D = .slice A n c := by obtain ⟨A, c, e, _⟩ := own_slice hD; exact ⟨_, _, _, e⟩
    have HP4 := Lib.hid (hk.row (row_on HB3.out HP.out) (show B ≠ r from by have := HRR.out; omega))
    have HQ4 := Lib.hid (hk.row (row_on HB3.out HQ.out) (show B + 1 ≠ r from by have := HRR.out; omega))
    have HK4 : Hid (Below w.heap.size w w4) := Lib.hid ((HBX.out.trans (HB3.out.mono HBX.out.size)).trans (hk.below (B := w.heap.size) (fun x hx => by have h1 := HRR.out; have h2 := HBE.out; have h3 : x = r := hx; omega) (Nat.le_trans HBX.out.size HB3.out.size)))
    have HS3 : Hid (B + 2 ≤ w3.heap.size) := Lib.hid (by rw [← HSZ.out]; exact HB3.out.size)
    have hP5 := setRow_heap w4 B _ (rcells c (.slice A1 n1 c1)) 45 (0, 0) HP4.out
    have hQ5 : (w4.setRow B (rcells c (.slice A1 n1 c1))).heap[B + 1]? = some (.cells #[.int .i64 0] 31) := (setRow_other w4 B (B + 1) _ (by omega)).trans HQ4.out
    have k5 : Kept (fun b => b = B) w4 (w4.setRow B (rcells c (.slice A1 n1 c1))) := (Kept.refl (fun b => b = B) w4).setRow (.inl rfl) _
    have HK5 : Hid (Below w.heap.size w (w4.setRow B (rcells c (.slice A1 n1 c1)))) := Lib.hid (HK4.out.trans (k5.below (B := w.heap.size) (fun x hx => by have h2 := HBE.out; have h3 : x = B := hx; omega) HK4.out.size))
    have HD5 : Hid (OB (w4.setRow B (rcells c (.slice A1 n1 c1))) (.slice A1 n1 c1) c.da) := Lib.hid (own_kept hD k5 (fun b hb e => by have h1 := fD b hb; have h2 := HS3.out; omega))
    have HFD : Hid (Fresh w (.slice A1 n1 c1) ∧ (∀ b, (Value.slice A1 n1 c1).ownBlock = some b → B + 2 ≤ b)) := Lib.hid ⟨fun b hb => by have h1 := fD b hb; have h2 := HS3.out; have h3 := HBE.out; omega, fun b hb => Nat.le_trans HS3.out (fD b hb)⟩
    have HY := Lib.hid (answer_any _ op c _ HD5.out.reads hu1 hu2)
    have HPR := Lib.hid hrc
    have HDA := Lib.hid hda
    have HV5 := Lib.hid (HV.out.below HK5.out)
    have HP5 := Lib.hid hP5
    have HQ5 := Lib.hid hQ5
    have HP4' := Lib.hid HP4.out
    clear hD fD hk hrc hu1 hu2 hda hP5 hQ5 k5 HCT hrd
    by_cases hf : toldR op c
    · have e1 : ansE op c = 0 := if_pos hf
      have e2 : ansO op c = encR op c := if_pos hf
      rw [e1, e2] at HY
      by_cases hz : encR op c = zs
      · have HPC : Hid (parseR op zs = some c) := Lib.hid (by unfold parseR; rw [HPR.out]; exact if_pos ⟨hf, hz⟩)
        have hd : decide (encR op c = zs) = true := decide_eq_true hz
        have HEB := Lib.hid (encR_bytes (op := op) HDA.out)
        have HD0 := Lib.hid hd
        clear e1 e2 hf hz hd
        go_wp2_with (first | (refine wpList_store_row rfl 45 (.tmp 4) (.tmp 13) rfl B 45 #[.int .i64 0, .int .i64 0, .int .u64 0, .int .u64 0, .slice none 0 0, .int .i64 0] (rcells c (.slice A1 n1 c1)) rfl rfl HP4.out info45 rfl (by simp [rcells, Value.oneCell']) ?_) | (refine wpList_load_row rfl 45 (.tmp 4) rfl B 45 (rcells c (.slice A1 n1 c1)) (0, 0) _ rfl HP5.out Try.underlying45 rfl info45 ?_) | (go_at_call 15; refine HY.out.mono ?_; rintro e w6 ⟨vb, rfl, ob, hb6, fb⟩; have HOB := Lib.hid ob; have HB6 := Lib.hid hb6; have HP6 := Lib.hid (row_on hb6 HP5.out); have HQ6 := Lib.hid (row_on hb6 HQ5.out); have HW6 := Lib.hid (HK5.out.trans (hb6.mono HK5.out.size)); have KK := Lib.hid (fin_rows (new := (rcells c (.slice A1 n1 c1))) (e := .int .i64 0) HP6.out HQ6.out).2.2; have KR := Lib.hid (fin_rows (new := (rcells c (.slice A1 n1 c1))) (e := .int .i64 0) HP6.out HQ6.out).1; have KC := Lib.hid (fin_rows (new := (rcells c (.slice A1 n1 c1))) (e := .int .i64 0) HP6.out HQ6.out).2.1; have HEQ := Lib.hid (equal_any w6 vb v _ zs ob.reads (HV5.out.below hb6) HEB.out HBZ.out); (try rw [HD0.out] at HEQ); clear ob hb6 fb) | (go_at_call 40; (with_reducible refine HEQ.out.mono ?_); rintro e w7 ⟨rfl, rfl⟩) | (refine wpList_load_row rfl 45 (.tmp 4) rfl B 45 (rcells c (.slice A1 n1 c1)) (0, 0) _ rfl HP6.out Try.underlying45 rfl info45 ?_) | (refine wpList_store_row rfl 45 (.tmp 4) (.tmp 29) rfl B 45 (rcells c (.slice A1 n1 c1)) (rcells c (.slice A1 n1 c1)) rfl rfl HP6.out info45 rfl (by simp [rcells, Value.oneCell']) ?_; have hq7 : (w6.setRow B (rcells c (.slice A1 n1 c1))).heap[B + 1]? = some (.cells #[.int .i64 0] 31) := (setRow_other w6 B (B + 1) _ (by omega)).trans HQ6.out; have y7 := cell_row (j := 0) hq7 rfl; have z7 := free_row (j := 0) hq7; clear hq7) | fail)
        refine leaves_cons (f := 45) (args := #[.pointer (some ⟨B, 0, none⟩), .pointer (some ⟨B + 1, 0, none⟩)]) (by simp) (by simp [go_sem]) ?_
        refine (idle_r B (B + 1) _).mono ?_
        rintro e u' w'' ⟨rfl, rfl, rfl⟩
        refine ⟨_, res_two rfl _ _ B (B + 1) _ _ rfl rfl (run_loadVar_row _ B 45 45 _ (0, 0) _ KR.out Try.underlying45 rfl info45) (load31 KC.out), HR.out _ _ ?_⟩
        rw [HPC.out]
        exact ⟨_, rfl, own_kept (own_keeps HD5.out (Kept.of_below HB6.out)) KK.out (fun b hb e => by have h1 := HFD.out.2 b hb; rcases e with e | e <;> omega), HFD.out.1, HW6.out.trans (KK.out.below (B := w.heap.size) (fun x hx => by have h2 := HBE.out; rcases hx with h3 | h3 <;> omega) HW6.out.size)⟩
      · have HPC : Hid (parseR op zs = none) := Lib.hid (by unfold parseR; rw [HPR.out]; exact if_neg (fun h => hz h.2))
        have hd : decide (encR op c = zs) = false := decide_eq_false hz
        have HEB := Lib.hid (encR_bytes (op := op) HDA.out)
        have HD0 := Lib.hid hd
        clear e1 e2 hf hz hd
        go_wp2_with (first | (refine wpList_store_row rfl 45 (.tmp 4) (.tmp 13) rfl B 45 #[.int .i64 0, .int .i64 0, .int .u64 0, .int .u64 0, .slice none 0 0, .int .i64 0] (rcells c (.slice A1 n1 c1)) rfl rfl HP4.out info45 rfl (by simp [rcells, Value.oneCell']) ?_) | (refine wpList_load_row rfl 45 (.tmp 4) rfl B 45 (rcells c (.slice A1 n1 c1)) (0, 0) _ rfl HP5.out Try.underlying45 rfl info45 ?_) | (go_at_call 15; refine HY.out.mono ?_; rintro e w6 ⟨vb, rfl, ob, hb6, fb⟩; have HOB := Lib.hid ob; have HB6 := Lib.hid hb6; have HP6 := Lib.hid (row_on hb6 HP5.out); have HQ6 := Lib.hid (row_on hb6 HQ5.out); have HW6 := Lib.hid (HK5.out.trans (hb6.mono HK5.out.size)); have KK := Lib.hid (fin_rows (new := #[.int .i64 0, .int .i64 0, .int .u64 0, .int .u64 0, .slice none 0 0, .int .i64 0]) (e := .int .i64 1) HP6.out HQ6.out).2.2; have KR := Lib.hid (fin_rows (new := #[.int .i64 0, .int .i64 0, .int .u64 0, .int .u64 0, .slice none 0 0, .int .i64 0]) (e := .int .i64 1) HP6.out HQ6.out).1; have KC := Lib.hid (fin_rows (new := #[.int .i64 0, .int .i64 0, .int .u64 0, .int .u64 0, .slice none 0 0, .int .i64 0]) (e := .int .i64 1) HP6.out HQ6.out).2.1; have HEQ := Lib.hid (equal_any w6 vb v _ zs ob.reads (HV5.out.below hb6) HEB.out HBZ.out); (try rw [HD0.out] at HEQ); clear ob hb6 fb) | (go_at_call 40; (with_reducible refine HEQ.out.mono ?_); rintro e w7 ⟨rfl, rfl⟩) | (refine wpList_store_row rfl 45 (.tmp 4) (.tmp 28) rfl B 45 (rcells c (.slice A1 n1 c1)) #[.int .i64 0, .int .i64 0, .int .u64 0, .int .u64 0, .slice none 0 0, .int .i64 0] rfl rfl HP6.out info45 rfl (by simp [Value.oneCell']) ?_; have hq7 : (w6.setRow B #[.int .i64 0, .int .i64 0, .int .u64 0, .int .u64 0, .slice none 0 0, .int .i64 0]).heap[B + 1]? = some (.cells #[.int .i64 0] 31) := (setRow_other w6 B (B + 1) _ (by omega)).trans HQ6.out; have y7 := cell_row (j := 0) hq7 rfl; have z7 := free_row (j := 0) hq7; clear hq7) | fail)
        refine leaves_cons (f := 45) (args := #[.pointer (some ⟨B, 0, none⟩), .pointer (some ⟨B + 1, 0, none⟩)]) (by simp) (by simp [go_sem]) ?_
        refine (idle_r B (B + 1) _).mono ?_
        rintro e u' w'' ⟨rfl, rfl, rfl⟩
        refine ⟨_, res_two rfl _ _ B (B + 1) _ _ rfl rfl (run_loadVar_row _ B 45 45 _ (0, 0) _ KR.out Try.underlying45 rfl info45) (load31 KC.out), HR.out _ _ ?_⟩
        exact pa_none HPC.out (HW6.out.trans (KK.out.below (B := w.heap.size) (fun x hx => by have h2 := HBE.out; rcases hx with h3 | h3 <;> omega) HW6.out.size))
    · have e1 : ansE op c = 1 := if_neg hf
      rw [e1] at HY
      have HPC : Hid (parseR op zs = none) := Lib.hid (by unfold parseR; rw [HPR.out]; exact if_neg (fun h => hf h.1))
      have HEB := Lib.hid (ansO_bytes (op := op) HDA.out)
      clear e1 hf
      go_wp2_with (first | (refine wpList_store_row rfl 45 (.tmp 4) (.tmp 13) rfl B 45 #[.int .i64 0, .int .i64 0, .int .u64 0, .int .u64 0, .slice none 0 0, .int .i64 0] (rcells c (.slice A1 n1 c1)) rfl rfl HP4.out info45 rfl (by simp [rcells, Value.oneCell']) ?_) | (refine wpList_load_row rfl 45 (.tmp 4) rfl B 45 (rcells c (.slice A1 n1 c1)) (0, 0) _ rfl HP5.out Try.underlying45 rfl info45 ?_) | (go_at_call 15; refine HY.out.mono ?_; rintro e w6 ⟨vb, rfl, ob, hb6, fb⟩; have HOB := Lib.hid ob; have HB6 := Lib.hid hb6; have HP6 := Lib.hid (row_on hb6 HP5.out); have HQ6 := Lib.hid (row_on hb6 HQ5.out); have HW6 := Lib.hid (HK5.out.trans (hb6.mono HK5.out.size)); have KK := Lib.hid (fin_rows (new := #[.int .i64 0, .int .i64 0, .int .u64 0, .int .u64 0, .slice none 0 0, .int .i64 0]) (e := .int .i64 1) HP6.out HQ6.out).2.2; have KR := Lib.hid (fin_rows (new := #[.int .i64 0, .int .i64 0, .int .u64 0, .int .u64 0, .slice none 0 0, .int .i64 0]) (e := .int .i64 1) HP6.out HQ6.out).1; have KC := Lib.hid (fin_rows (new := #[.int .i64 0, .int .i64 0, .int .u64 0, .int .u64 0, .slice none 0 0, .int .i64 0]) (e := .int .i64 1) HP6.out HQ6.out).2.1; have HEQ := Lib.hid (equal_any w6 vb v _ zs ob.reads (HV5.out.below hb6) HEB.out HBZ.out); (try rw [HD0.out] at HEQ); clear ob hb6 fb) | (go_at_call 40; (with_reducible refine HEQ.out.mono ?_); rintro e w7 ⟨rfl, rfl⟩) | (refine wpList_store_row rfl 45 (.tmp 4) (.tmp 28) rfl B 45 (rcells c (.slice A1 n1 c1)) #[.int .i64 0, .int .i64 0, .int .u64 0, .int .u64 0, .slice none 0 0, .int .i64 0] rfl rfl HP6.out info45 rfl (by simp [Value.oneCell']) ?_; have hq7 : (w6.setRow B #[.int .i64 0, .int .i64 0, .int .u64 0, .int .u64 0, .slice none 0 0, .int .i64 0]).heap[B + 1]? = some (.cells #[.int .i64 0] 31) := (setRow_other w6 B (B + 1) _ (by omega)).trans HQ6.out; have y7 := cell_row (j := 0) hq7 rfl; have z7 := free_row (j := 0) hq7; clear hq7) | fail)
      refine leaves_cons (f := 45) (args := #[.pointer (some ⟨B, 0, none⟩), .pointer (some ⟨B + 1, 0, none⟩)]) (by simp) (by simp [go_sem]) ?_
      refine (idle_r B (B + 1) _).mono ?_
      rintro e u' w'' ⟨rfl, rfl, rfl⟩
      refine ⟨_, res_two rfl _ _ B (B + 1) _ _ rfl rfl (run_loadVar_row _ B 45 45 _ (0, 0) _ KR.out Try.underlying45 rfl info45) (load31 KC.out), HR.out _ _ ?_⟩
      exact pa_none HPC.out (HW6.out.trans (KK.out.below (B := w.heap.size) (fun x hx => by have h2 := HBE.out; rcases hx with h3 | h3 <;> omega) HW6.out.size))
end Go.Proofs.Ytfpkdbogapmhmaa.O

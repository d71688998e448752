/- Record: Parse reads a call (written by gen_rcj.py). -/
import Derived.Test.YtfpkdbogapmhmaaRcH
import Derived.Test.YtfpkdbogapmhmaaRcI
namespace Go.Proofs.Ytfpkdbogapmhmaa.O
open Go.RowKit Go.Proofs.Ytfpkdbogapmhmaa.Mem
set_option linter.unusedVariables false
set_option linter.unusedSimpArgs false
/-! The plain side: what is read is of bytes. -/
theorem num_some {k : Nat} {zs : List Int} {x : Int × List Int} (h : num k zs = some x) : x.2 = zs.drop k := by
  unfold num at h
  split at h
  · cases h
  · split at h
    · cases h
    · obtain rfl := Option.some.inj h; rfl
theorem read_facts {zs : List Int} {c : Cl} (hB : Bytes zs) (h : readC zs = some c) : U64 c.hi ∧ U64 c.lo ∧ Bytes c.da := by
  have z64 : U64 0 := by unfold U64; omega
  have bn : Bytes [] := fun z hz => by cases hz
  unfold readC at h
  obtain ⟨a, ha, h⟩ := Option.bind_eq_some_iff.1 h
  obtain ⟨b, hb, h⟩ := Option.bind_eq_some_iff.1 h
  have h1 := (num_bytes hB ha).1
  have h2 := (num_bytes h1 hb).1
  unfold bodyR zc at h
  simp only at h
  split at h
  · obtain ⟨x, hx, rfl⟩ := Option.map_eq_some_iff.1 h
    exact ⟨z64, z64, bn⟩
  · split at h
    · obtain ⟨x, hx, rfl⟩ := Option.map_eq_some_iff.1 h
      have := cap_bytes h2 hx
      exact ⟨this.2.1, this.2.2, bn⟩
    · split at h
      · obtain ⟨x, hx, h⟩ := Option.bind_eq_some_iff.1 h
        obtain ⟨y, hy, rfl⟩ := Option.map_eq_some_iff.1 h
        have := cap_bytes h2 hx
        exact ⟨this.2.1, this.2.2, bn⟩
      · split at h
        · obtain ⟨x, hx, h⟩ := Option.bind_eq_some_iff.1 h
          obtain ⟨y, hy, rfl⟩ := Option.map_eq_some_iff.1 h
          have := mv_facts h2 hx
          exact ⟨this.2.1, this.2.2.1, by show Bytes x.1.da; rw [this.2.2.2.1]; exact bn⟩
        · split at h
          · obtain ⟨x, hx, rfl⟩ := Option.map_eq_some_iff.1 h
            have := mv_facts h2 hx
            exact ⟨this.2.1, this.2.2.1, this.1⟩
          · split at h
            · obtain ⟨x, hx, rfl⟩ := Option.map_eq_some_iff.1 h
              exact ⟨z64, z64, bn⟩
            · split at h
              · obtain ⟨x, hx, h⟩ := Option.bind_eq_some_iff.1 h
                obtain ⟨g, hg, rfl⟩ := Option.map_eq_some_iff.1 h
                exact ⟨z64, z64, bn⟩
              · obtain rfl := Option.some.inj h
                exact ⟨z64, z64, bn⟩
theorem app_bytes {a b : List Int} (ha : Bytes a) (hb : Bytes b) : Bytes (a ++ b) := fun z hz => (List.mem_append.1 hz).elim (ha z) (hb z)
theorem gi_bytes (l : List Int) : Bytes (giB l) := fun z hz => by
  unfold giB at hz
  obtain ⟨x, _, hx⟩ := List.mem_flatMap.1 hz
  exact le_bytes 2 x z hx
theorem word_bytes' (hi lo : Int) : Bytes (wordB hi lo) := app_bytes (le_bytes _ _) (le_bytes _ _)
theorem cap_bytes' (o hi lo : Int) : Bytes (capB o hi lo) := app_bytes (le_bytes _ _) (word_bytes' _ _)
theorem mv_bytes' (c : Cl) : Bytes (mvB c) := app_bytes (app_bytes (app_bytes (le_bytes _ _) (le_bytes _ _)) (word_bytes' _ _)) (le_bytes _ _)
theorem enc_bytes {c : Cl} (h : Bytes c.da) : Bytes (enc c) := by
  have bn : Bytes [] := fun z hz => by cases hz
  refine app_bytes (app_bytes (le_bytes _ _) (le_bytes _ _)) ?_
  unfold bodyB
  split
  · exact le_bytes _ _
  · split
    · exact cap_bytes' _ _ _
    · split
      · exact app_bytes (cap_bytes' _ _ _) (le_bytes _ _)
      · split
        · exact app_bytes (mv_bytes' _) (le_bytes _ _)
        · split
          · exact app_bytes (mv_bytes' _) h
          · split
            · exact le_bytes _ _
            · split
              · exact app_bytes (le_bytes _ _) (gi_bytes _)
              · exact bn
theorem encO_bytes {c : Cl} (h : Bytes c.da) : Bytes (encO c) := by
  unfold encO
  split
  · exact enc_bytes h
  · exact fun z hz => by cases hz
/-- A whole row, read. -/
theorem wpList_load_row {P : Program} {ops : Array Oper} {rest : List Oper} {op : Oper} {a : Act} {w : World} {Q : Exit → Act → World → Prop} (hgd : op.guard = none) (ty : TypeId) (x : Operand) (ho : op.op = .load ty x)
    (g : Nat) (t : TypeId) (cs : Array Value) (fr : Nat × Nat) (d : TypeDesc) (hx : a.eval x = .pointer (some ⟨g, 0, none⟩)) (hg : w.heap[g]? = some (.cells cs t fr))
    (hu : P.underlying ty = some d) (hd : (match d with | .struct _ | .array _ _ => true | _ => false) = true) (hi : (P.info? ty).map (·.size) = some cs.size)
    (h : wpList P ops Q rest (a.put op.dst (.agg cs)) w) : wpList P ops Q (op :: rest) a w :=
  wpList_plain hgd fun _ hK => by
    unfold Oper.wp execOp
    simp only [ho, hx, Instr.loadAt, Instr.sureAddr, Sem.run_bind, Sem.run_pure, Result.andThen_ok, run_loadVar_row w g t ty cs fr d hg hu hd hi]
    exact hK _ _ h
/-- What Parse answers. -/
def PP (o : Option Cl) (w : World) (e : Ending) (w' : World) : Prop :=
  ∃ D G, e = .returned (.tuple #[cv (o.getD zc) D G, .int .i64 (if o.isSome then 0 else 1)]) ∧ OB w' D (o.getD zc).da ∧ OI w' G (o.getD zc).gi ∧ Fresh w D ∧ Fresh w G ∧ Below w.heap.size w w'
theorem load31 {w : World} {q : Nat} {x : Int} (h : w.cell? ⟨q, 0, none⟩ = some (.int .i64 x)) : (loadVar 31 ⟨q, 0, none⟩).run Try.prog w = .ok (.int .i64 x) w := by
  simp [go_sem, loadVar, h]
theorem fin_rows {w6 : World} {B : Nat} {old new : Array Value} {t : TypeId} {x : Value} {e : Value} (hP : w6.heap[B]? = some (.cells old t)) (hQ : w6.heap[B + 1]? = some (.cells #[x] 31)) :
    ((w6.setRow B new).setCell ⟨B + 1, 0, none⟩ e).heap[B]? = some (.cells new t) ∧ ((w6.setRow B new).setCell ⟨B + 1, 0, none⟩ e).cell? ⟨B + 1, 0, none⟩ = some e ∧ Kept (fun b => b = B ∨ b = B + 1) w6 ((w6.setRow B new).setCell ⟨B + 1, 0, none⟩ e) := by
  have h1 := setRow_heap w6 B old new t (0, 0) hP
  have h2 : (w6.setRow B new).heap[B + 1]? = some (.cells #[x] 31) := (setRow_other w6 B (B + 1) _ (by omega)).trans hQ
  refine ⟨((Kept.refl (fun b => b = B + 1) _).setCell (p := ⟨B + 1, 0, none⟩) (.inl rfl) e).row h1 (by omega), cell_row (heap_setCell_same _ (B + 1) 0 _ _ e h2) rfl, ((Kept.refl (fun b => b = B ∨ b = B + 1) w6).setRow (g := B) (.inl (.inl rfl)) new).setCell (p := ⟨B + 1, 0, none⟩) (.inl (.inr rfl)) e⟩
theorem pp_none {zs : List Int} {w W : World} (h : parseC zs = none) (hb : Below w.heap.size w W) : PP (parseC zs) w (.returned (.tuple #[.agg #[.int .i64 0, .int .i64 0, .int .i64 0, .int .i64 0, .int .u64 0, .int .u64 0, .bool false, .int .i64 0, .int .i64 0, .int .i64 0, .slice none 0 0, .int .i64 0, .slice none 0 0], .int .i64 1])) W := by
  rw [h]
  exact ⟨.slice none 0 0, .slice none 0 0, rfl, OB.nil _, OI.nil _, fresh_nil _, fresh_nil _, hb⟩

set_option maxHeartbeats 4000000 in
set_option maxRecDepth 100000 in
theorem parse_any (w : World) (v : Value) (zs : List Int) (hb : zs.length ≤ 140737488351300) (hB : Bytes zs) (h : RB w v zs) : Calls Try.prog 13 #[v] w fun e w' => PP (parseC zs) w e w' := by
  suffices ∀ R : Ending → World → Prop, (∀ e w', PP (parseC zs) w e w' → R e w') → Calls Try.prog 13 #[v] w R from this _ (fun _ _ h => h)
  intro R HR
  replace HR := Lib.hid HR
  have HBZ := Lib.hid hB
  have HV := Lib.hid h
  have HLN := Lib.hid hb
  obtain ⟨B, hBe⟩ : ∃ B, w.heap.size = B := ⟨_, rfl⟩
  have hbx : Below w.heap.size w ((w.alloc (.cells #[.int .i64 0, .int .i64 0, .int .i64 0, .int .i64 0, .int .u64 0, .int .u64 0, .bool false, .int .i64 0, .int .i64 0, .int .i64 0, .slice none 0 0, .int .i64 0, .slice none 0 0] 30)).alloc (.cells #[.int .i64 0] 31)) := ((Below.refl _ w).alloc (Nat.le_refl _) _).alloc (by simp) _
  have HBX := Lib.hid hbx
  have HSZ : Hid (((w.alloc (.cells #[.int .i64 0, .int .i64 0, .int .i64 0, .int .i64 0, .int .u64 0, .int .u64 0, .bool false, .int .i64 0, .int .i64 0, .int .i64 0, .slice none 0 0, .int .i64 0, .slice none 0 0] 30)).alloc (.cells #[.int .i64 0] 31)).heap.size = B + 2) := Lib.hid (by simp [hBe])
  have HP : Hid (((w.alloc (.cells #[.int .i64 0, .int .i64 0, .int .i64 0, .int .i64 0, .int .u64 0, .int .u64 0, .bool false, .int .i64 0, .int .i64 0, .int .i64 0, .slice none 0 0, .int .i64 0, .slice none 0 0] 30)).alloc (.cells #[.int .i64 0] 31)).heap[B]? = some (.cells #[.int .i64 0, .int .i64 0, .int .i64 0, .int .i64 0, .int .u64 0, .int .u64 0, .bool false, .int .i64 0, .int .i64 0, .int .i64 0, .slice none 0 0, .int .i64 0, .slice none 0 0] 30)) := Lib.hid (row_on ((Below.refl _ _).alloc (Nat.le_refl _) _) (row_new hBe.symm))
  have HQ : Hid (((w.alloc (.cells #[.int .i64 0, .int .i64 0, .int .i64 0, .int .i64 0, .int .u64 0, .int .u64 0, .bool false, .int .i64 0, .int .i64 0, .int .i64 0, .slice none 0 0, .int .i64 0, .slice none 0 0] 30)).alloc (.cells #[.int .i64 0] 31)).heap[B + 1]? = some (.cells #[.int .i64 0] 31)) := Lib.hid (row_new (by simp [hBe]))
  have hmf : ∀ (fn : Fn) (first cap : Array Value) (w : World), (Instr.makeFunc fn first cap).run Try.prog w = .ok (.func fn first cap) w := fun _ _ _ _ => rfl
  have HBE := Lib.hid hBe
  have hrd := Lib.hid (reader_any _ v zs (by omega) (h.below hbx))
  clear hb hB h hbx
  go_enter_defers Try.func13, Try.ntmps13
  go_wp2_with (first | (go_at_call 38; (with_reducible refine hrd.out.mono ?_); rintro e w3 ⟨r, rfl, hb3, hr3, hd3⟩; have HB3 := Lib.hid hb3; have HR3 := Lib.hid hr3; have HCT := Lib.hid (call_t w3 r zs _ (hd3 (fun b => ((w.alloc (.cells #[.int .i64 0, .int .i64 0, .int .i64 0, .int .i64 0, .int .u64 0, .int .u64 0, .bool false, .int .i64 0, .int .i64 0, .int .i64 0, .slice none 0 0, .int .i64 0, .slice none 0 0] 30)).alloc (.cells #[.int .i64 0] 31)).heap.size ≤ b) (fun b h => h)) HBZ.out HLN.out); clear hb3 hr3 hd3) | fail)
  generalize (w.alloc (.cells #[.int .i64 0, .int .i64 0, .int .i64 0, .int .i64 0, .int .u64 0, .int .u64 0, .bool false, .int .i64 0, .int .i64 0, .int .i64 0, .slice none 0 0, .int .i64 0, .slice none 0 0] 30)).alloc (.cells #[.int .i64 0] 31) = w2 at *
  refine HCT.out.mono ?_
  rintro e w4 hcp
  have HRR : Hid (B + 2 ≤ r) := Lib.hid (by rw [← HSZ.out]; exact HR3.out)
  rcases hrc : readC zs with _ | c <;> rw [hrc] at hcp <;> unfold CP at hcp <;> simp only at hcp
  · obtain ⟨rfl, hk⟩ := hcp
    have hP4 := hk.row (row_on HB3.out HP.out) (show B ≠ r from by have := HRR.out; omega)
    have hQ4 := hk.row (row_on HB3.out HQ.out) (show B + 1 ≠ r from by have := HRR.out; omega)
    have HP4 := Lib.hid hP4
    have HQ4 := Lib.hid hQ4
    have HK4 : Hid (Below w.heap.size w w4) := Lib.hid ((HBX.out.trans (HB3.out.mono HBX.out.size)).trans (hk.below (B := w.heap.size) (fun x hx => by have h1 := HRR.out; have h2 := HBE.out; have h3 : x = r := hx; omega) (Nat.le_trans HBX.out.size HB3.out.size)))
    have HPC : Hid (parseC zs = none) := Lib.hid (by unfold parseC; rw [hrc])
    clear hP4 hQ4 hk hrc
    go_wp2
    refine leaves_cons (f := 37) (args := #[.pointer (some ⟨B, 0, none⟩), .pointer (some ⟨B + 1, 0, none⟩)]) (by simp) (by simp [go_sem]) ?_
    refine (catch_p B (B + 1) w4 _ 0 HP4.out rfl HQ4.out (by omega)).mono ?_
    rintro e u' w'' ⟨rfl, rfl, rfl⟩
    have KK := fin_rows (new := #[.int .i64 0, .int .i64 0, .int .i64 0, .int .i64 0, .int .u64 0, .int .u64 0, .bool false, .int .i64 0, .int .i64 0, .int .i64 0, .slice none 0 0, .int .i64 0, .slice none 0 0]) (e := .int .i64 1) HP4.out HQ4.out
    refine ⟨_, res_two rfl _ _ B (B + 1) _ _ rfl rfl (run_loadVar_row _ B 30 30 _ (0, 0) _ KK.1 Try.underlying30 rfl info30) (load31 KK.2.1), HR.out _ _ ?_⟩
    exact pp_none HPC.out (HK4.out.trans (KK.2.2.below (B := w.heap.size) (fun x hx => by have h2 := HBE.out; rcases hx with h3 | h3 <;> omega) HK4.out.size))
  · obtain ⟨⟨D, G, rfl, hD, hG, fD, fG⟩, hk⟩ := hcp
    obtain ⟨hu1, hu2, hda⟩ := read_facts HBZ.out hrc
    obtain ⟨A1, n1, c1, rfl⟩ : ∃ A n c, D = .slice A n c := by obtain ⟨A, c, e, _⟩ := own_slice hD; exact ⟨_, _, _, e⟩
    obtain ⟨A2, n2, c2, rfl⟩ : ∃ A n c, G = .slice A n c := by obtain ⟨A, c, e, _⟩ := own_slice hG; exact ⟨_, _, _, e⟩
    have HP4 := Lib.hid (hk.row (row_on HB3.out HP.out) (show B ≠ r from by have := HRR.out; omega))
    have HQ4 := Lib.hid (hk.row (row_on HB3.out HQ.out) (show B + 1 ≠ r from by have := HRR.out; omega))
    have HK4 : Hid (Below w.heap.size w w4) := Lib.hid ((HBX.out.trans (HB3.out.mono HBX.out.size)).trans (hk.below (B := w.heap.size) (fun x hx => by have h1 := HRR.out; have h2 := HBE.out; have h3 : x = r := hx; omega) (Nat.le_trans HBX.out.size HB3.out.size)))
    have HS3 : Hid (B + 2 ≤ w3.heap.size) := Lib.hid (by rw [← HSZ.out]; exact HB3.out.size)
    have hP5 := setRow_heap w4 B _ (cells c (.slice A1 n1 c1) (.slice A2 n2 c2)) 30 (0, 0) HP4.out
    have hQ5 : (w4.setRow B (cells c (.slice A1 n1 c1) (.slice A2 n2 c2))).heap[B + 1]? = some (.cells #[.int .i64 0] 31) := (setRow_other w4 B (B + 1) _ (by omega)).trans HQ4.out
    have k5 : Kept (fun b => b = B) w4 (w4.setRow B (cells c (.slice A1 n1 c1) (.slice A2 n2 c2))) := (Kept.refl (fun b => b = B) w4).setRow (.inl rfl) _
    have HK5 : Hid (Below w.heap.size w (w4.setRow B (cells c (.slice A1 n1 c1) (.slice A2 n2 c2)))) := Lib.hid (HK4.out.trans (k5.below (B := w.heap.size) (fun x hx => by have h2 := HBE.out; have h3 : x = B := hx; omega) HK4.out.size))
    have HD5 : Hid (OB (w4.setRow B (cells c (.slice A1 n1 c1) (.slice A2 n2 c2))) (.slice A1 n1 c1) c.da) := Lib.hid (own_kept hD k5 (fun b hb e => by have h1 := fD b hb; have h2 := HS3.out; omega))
    have HG5 : Hid (OI (w4.setRow B (cells c (.slice A1 n1 c1) (.slice A2 n2 c2))) (.slice A2 n2 c2) c.gi) := Lib.hid (hG.kept k5 (fun b hb e => by have h1 := fG b hb; have h2 := HS3.out; omega))
    have HFD : Hid (Fresh w (.slice A1 n1 c1) ∧ Fresh w (.slice A2 n2 c2) ∧ (∀ b, (Value.slice A1 n1 c1).ownBlock = some b → B + 2 ≤ b) ∧ (∀ b, (Value.slice A2 n2 c2).ownBlock = some b → B + 2 ≤ b)) := Lib.hid ⟨fun b hb => by have h1 := fD b hb; have h2 := HS3.out; have h3 := HBE.out; omega, fun b hb => by have h1 := fG b hb; have h2 := HS3.out; have h3 := HBE.out; omega, fun b hb => Nat.le_trans HS3.out (fD b hb), fun b hb => Nat.le_trans HS3.out (fG b hb)⟩
    have HY := Lib.hid (bytes_any _ c _ _ HD5.out.reads HG5.out.reads (by obtain ⟨A, k, e, h1, h2, _⟩ := HG5.out.reads; unfold maxLen at h2; omega) hu1 hu2)
    have HPR := Lib.hid hrc
    have HDA := Lib.hid hda
    have HV5 := Lib.hid (HV.out.below HK5.out)
    have HP5 := Lib.hid hP5
    have HQ5 := Lib.hid hQ5
    have HP4' := Lib.hid HP4.out
    clear hD hG fD fG hk hrc hu1 hu2 hda hP5 hQ5 k5 HCT hrd
    by_cases hf : form c
    · have e1 : encE c = 0 := if_pos hf
      have e2 : encO c = enc c := if_pos hf
      rw [e1, e2] at HY
      by_cases hz : enc c = zs
      · have HPC : Hid (parseC zs = some c) := Lib.hid (by unfold parseC; rw [HPR.out]; exact if_pos ⟨hf, hz⟩)
        have hd : decide (enc c = zs) = true := decide_eq_true hz
        have HEB := Lib.hid (enc_bytes HDA.out)
        have HD0 := Lib.hid hd
        clear e1 e2 hf hz hd
        go_wp2_with (first | (refine wpList_store_row rfl 30 (.tmp 2) (.tmp 10) rfl B 30 #[.int .i64 0, .int .i64 0, .int .i64 0, .int .i64 0, .int .u64 0, .int .u64 0, .bool false, .int .i64 0, .int .i64 0, .int .i64 0, .slice none 0 0, .int .i64 0, .slice none 0 0] (cells c (.slice A1 n1 c1) (.slice A2 n2 c2)) rfl rfl HP4.out info30 rfl (by simp [cells, Value.oneCell']) ?_) | (refine wpList_load_row rfl 30 (.tmp 2) rfl B 30 (cells c (.slice A1 n1 c1) (.slice A2 n2 c2)) (0, 0) _ rfl HP5.out Try.underlying30 rfl info30 ?_) | (go_at_call 9; refine HY.out.mono ?_; rintro e w6 ⟨vb, rfl, ob, hb6, fb⟩; have HOB := Lib.hid ob; have HB6 := Lib.hid hb6; have HP6 := Lib.hid (row_on hb6 HP5.out); have HQ6 := Lib.hid (row_on hb6 HQ5.out); have HW6 := Lib.hid (HK5.out.trans (hb6.mono HK5.out.size)); have KK := Lib.hid (fin_rows (new := (cells c (.slice A1 n1 c1) (.slice A2 n2 c2))) (e := .int .i64 0) HP6.out HQ6.out).2.2; have KR := Lib.hid (fin_rows (new := (cells c (.slice A1 n1 c1) (.slice A2 n2 c2))) (e := .int .i64 0) HP6.out HQ6.out).1; have KC := Lib.hid (fin_rows (new := (cells c (.slice A1 n1 c1) (.slice A2 n2 c2))) (e := .int .i64 0) HP6.out HQ6.out).2.1; have HEQ := Lib.hid (equal_any w6 vb v _ zs ob.reads (HV5.out.below hb6) HEB.out HBZ.out); (try rw [HD0.out] at HEQ); clear ob hb6 fb) | (go_at_call 40; (with_reducible refine HEQ.out.mono ?_); rintro e w7 ⟨rfl, rfl⟩) | (refine wpList_load_row rfl 30 (.tmp 2) rfl B 30 (cells c (.slice A1 n1 c1) (.slice A2 n2 c2)) (0, 0) _ rfl HP6.out Try.underlying30 rfl info30 ?_) | (refine wpList_store_row rfl 30 (.tmp 2) (.tmp 25) rfl B 30 (cells c (.slice A1 n1 c1) (.slice A2 n2 c2)) (cells c (.slice A1 n1 c1) (.slice A2 n2 c2)) rfl rfl HP6.out info30 rfl (by simp [cells, Value.oneCell']) ?_; have hq7 : (w6.setRow B (cells c (.slice A1 n1 c1) (.slice A2 n2 c2))).heap[B + 1]? = some (.cells #[.int .i64 0] 31) := (setRow_other w6 B (B + 1) _ (by omega)).trans HQ6.out; have y7 := cell_row (j := 0) hq7 rfl; have z7 := free_row (j := 0) hq7; clear hq7) | fail)
        refine leaves_cons (f := 37) (args := #[.pointer (some ⟨B, 0, none⟩), .pointer (some ⟨B + 1, 0, none⟩)]) (by simp) (by simp [go_sem]) ?_
        refine (idle_p B (B + 1) _).mono ?_
        rintro e u' w'' ⟨rfl, rfl, rfl⟩
        refine ⟨_, res_two rfl _ _ B (B + 1) _ _ rfl rfl (run_loadVar_row _ B 30 30 _ (0, 0) _ KR.out Try.underlying30 rfl info30) (load31 KC.out), HR.out _ _ ?_⟩
        rw [HPC.out]
        exact ⟨_, _, rfl, own_kept (own_keeps HD5.out (Kept.of_below HB6.out)) KK.out (fun b hb e => by have h1 := HFD.out.2.2.1 b hb; rcases e with e | e <;> omega), OI.kept (own_keeps HG5.out (Kept.of_below HB6.out)) KK.out (fun b hb e => by have h1 := HFD.out.2.2.2 b hb; rcases e with e | e <;> omega), HFD.out.1, HFD.out.2.1, HW6.out.trans (KK.out.below (B := w.heap.size) (fun x hx => by have h2 := HBE.out; rcases hx with h3 | h3 <;> omega) HW6.out.size)⟩
      · have HPC : Hid (parseC zs = none) := Lib.hid (by unfold parseC; rw [HPR.out]; exact if_neg (fun h => hz h.2))
        have hd : decide (enc c = zs) = false := decide_eq_false hz
        have HEB := Lib.hid (enc_bytes HDA.out)
        have HD0 := Lib.hid hd
        clear e1 e2 hf hz hd
        go_wp2_with (first | (refine wpList_store_row rfl 30 (.tmp 2) (.tmp 10) rfl B 30 #[.int .i64 0, .int .i64 0, .int .i64 0, .int .i64 0, .int .u64 0, .int .u64 0, .bool false, .int .i64 0, .int .i64 0, .int .i64 0, .slice none 0 0, .int .i64 0, .slice none 0 0] (cells c (.slice A1 n1 c1) (.slice A2 n2 c2)) rfl rfl HP4.out info30 rfl (by simp [cells, Value.oneCell']) ?_) | (refine wpList_load_row rfl 30 (.tmp 2) rfl B 30 (cells c (.slice A1 n1 c1) (.slice A2 n2 c2)) (0, 0) _ rfl HP5.out Try.underlying30 rfl info30 ?_) | (go_at_call 9; refine HY.out.mono ?_; rintro e w6 ⟨vb, rfl, ob, hb6, fb⟩; have HOB := Lib.hid ob; have HB6 := Lib.hid hb6; have HP6 := Lib.hid (row_on hb6 HP5.out); have HQ6 := Lib.hid (row_on hb6 HQ5.out); have HW6 := Lib.hid (HK5.out.trans (hb6.mono HK5.out.size)); have KK := Lib.hid (fin_rows (new := #[.int .i64 0, .int .i64 0, .int .i64 0, .int .i64 0, .int .u64 0, .int .u64 0, .bool false, .int .i64 0, .int .i64 0, .int .i64 0, .slice none 0 0, .int .i64 0, .slice none 0 0]) (e := .int .i64 1) HP6.out HQ6.out).2.2; have KR := Lib.hid (fin_rows (new := #[.int .i64 0, .int .i64 0, .int .i64 0, .int .i64 0, .int .u64 0, .int .u64 0, .bool false, .int .i64 0, .int .i64 0, .int .i64 0, .slice none 0 0, .int .i64 0, .slice none 0 0]) (e := .int .i64 1) HP6.out HQ6.out).1; have KC := Lib.hid (fin_rows (new := #[.int .i64 0, .int .i64 0, .int .i64 0, .int .i64 0, .int .u64 0, .int .u64 0, .bool false, .int .i64 0, .int .i64 0, .int .i64 0, .slice none 0 0, .int .i64 0, .slice none 0 0]) (e := .int .i64 1) HP6.out HQ6.out).2.1; have HEQ := Lib.hid (equal_any w6 vb v _ zs ob.reads (HV5.out.below hb6) HEB.out HBZ.out); (try rw [HD0.out] at HEQ); clear ob hb6 fb) | (go_at_call 40; (with_reducible refine HEQ.out.mono ?_); rintro e w7 ⟨rfl, rfl⟩) | (refine wpList_store_row rfl 30 (.tmp 2) (.tmp 24) rfl B 30 (cells c (.slice A1 n1 c1) (.slice A2 n2 c2)) #[.int .i64 0, .int .i64 0, .int .i64 0, .int .i64 0, .int .u64 0, .int .u64 0, .bool false, .int .i64 0, .int .i64 0, .int .i64 0, .slice none 0 0, .int .i64 0, .slice none 0 0] rfl rfl HP6.out info30 rfl (by simp [Value.oneCell']) ?_; have hq7 : (w6.setRow B #[.int .i64 0, .int .i64 0, .int .i64 0, .int .i64 0, .int .u64 0, .int .u64 0, .bool false, .int .i64 0, .int .i64 0, .int .i64 0, .slice none 0 0, .int .i64 0, .slice none 0 0]).heap[B + 1]? = some (.cells #[.int .i64 0] 31) := (setRow_other w6 B (B + 1) _ (by omega)).trans HQ6.out; have y7 := cell_row (j := 0) hq7 rfl; have z7 := free_row (j := 0) hq7; clear hq7) | fail)
        refine leaves_cons (f := 37) (args := #[.pointer (some ⟨B, 0, none⟩), .pointer (some ⟨B + 1, 0, none⟩)]) (by simp) (by simp [go_sem]) ?_
        refine (idle_p B (B + 1) _).mono ?_
        rintro e u' w'' ⟨rfl, rfl, rfl⟩
        refine ⟨_, res_two rfl _ _ B (B + 1) _ _ rfl rfl (run_loadVar_row _ B 30 30 _ (0, 0) _ KR.out Try.underlying30 rfl info30) (load31 KC.out), HR.out _ _ ?_⟩
        exact pp_none HPC.out (HW6.out.trans (KK.out.below (B := w.heap.size) (fun x hx => by have h2 := HBE.out; rcases hx with h3 | h3 <;> omega) HW6.out.size))
    · have e1 : encE c = 1 := if_neg hf
      rw [e1] at HY
      have HPC : Hid (parseC zs = none) := Lib.hid (by unfold parseC; rw [HPR.out]; exact if_neg (fun h => hf h.1))
      have HEB := Lib.hid (encO_bytes HDA.out)
      clear e1 hf
      go_wp2_with (first | (refine wpList_store_row rfl 30 (.tmp 2) (.tmp 10) rfl B 30 #[.int .i64 0, .int .i64 0, .int .i64 0, .int .i64 0, .int .u64 0, .int .u64 0, .bool false, .int .i64 0, .int .i64 0, .int .i64 0, .slice none 0 0, .int .i64 0, .slice none 0 0] (cells c (.slice A1 n1 c1) (.slice A2 n2 c2)) rfl rfl HP4.out info30 rfl (by simp [cells, Value.oneCell']) ?_) | (refine wpList_load_row rfl 30 (.tmp 2) rfl B 30 (cells c (.slice A1 n1 c1) (.slice A2 n2 c2)) (0, 0) _ rfl HP5.out Try.underlying30 rfl info30 ?_) | (go_at_call 9; refine HY.out.mono ?_; rintro e w6 ⟨vb, rfl, ob, hb6, fb⟩; have HOB := Lib.hid ob; have HB6 := Lib.hid hb6; have HP6 := Lib.hid (row_on hb6 HP5.out); have HQ6 := Lib.hid (row_on hb6 HQ5.out); have HW6 := Lib.hid (HK5.out.trans (hb6.mono HK5.out.size)); have KK := Lib.hid (fin_rows (new := #[.int .i64 0, .int .i64 0, .int .i64 0, .int .i64 0, .int .u64 0, .int .u64 0, .bool false, .int .i64 0, .int .i64 0, .int .i64 0, .slice none 0 0, .int .i64 0, .slice none 0 0]) (e := .int .i64 1) HP6.out HQ6.out).2.2; have KR := Lib.hid (fin_rows (new := #[.int .i64 0, .int .i64 0, .int .i64 0, .int .i64 0, .int .u64 0, .int .u64 0, .bool false, .int .i64 0, .int .i64 0, .int .i64 0, .slice none 0 0, .int .i64 0, .slice none 0 0]) (e := .int .i64 1) HP6.out HQ6.out).1; have KC := Lib.hid (fin_rows (new := #[.int .i64 0, .int .i64 0, .int .i64 0, .int .i64 0, .int .u64 0, .int .u64 0, .bool false, .int .i64 0, .int .i64 0, .int .i64 0, .slice none 0 0, .int .i64 0, .slice none 0 0]) (e := .int .i64 1) HP6.out HQ6.out).2.1; have HEQ := Lib.hid (equal_any w6 vb v _ zs ob.reads (HV5.out.below hb6) HEB.out HBZ.out); (try rw [HD0.out] at HEQ); clear ob hb6 fb) | (go_at_call 40; (with_reducible refine HEQ.out.mono ?_); rintro e w7 ⟨rfl, rfl⟩) | (refine wpList_store_row rfl 30 (.tmp 2) (.tmp 24) rfl B 30 (cells c (.slice A1 n1 c1) (.slice A2 n2 c2)) #[.int .i64 0, .int .i64 0, .int .i64 0, .int .i64 0, .int .u64 0, .int .u64 0, .bool false, .int .i64 0, .int .i64 0, .int .i64 0, .slice none 0 0, .int .i64 0, .slice none 0 0] rfl rfl HP6.out info30 rfl (by simp [Value.oneCell']) ?_; have hq7 : (w6.setRow B #[.int .i64 0, .int .i64 0, .int .i64 0, .int .i64 0, .int .u64 0, .int .u64 0, .bool false, .int .i64 0, .int .i64 0, .int .i64 0, .slice none 0 0, .int .i64 0, .slice none 0 0]).heap[B + 1]? = some (.cells #[.int .i64 0] 31) := (setRow_other w6 B (B + 1) _ (by omega)).trans HQ6.out; have y7 := cell_row (j := 0) hq7 rfl; have z7 := free_row (j := 0) hq7; clear hq7) | fail)
      refine leaves_cons (f := 37) (args := #[.pointer (some ⟨B, 0, none⟩), .pointer (some ⟨B + 1, 0, none⟩)]) (by simp) (by simp [go_sem]) ?_
      refine (idle_p B (B + 1) _).mono ?_
      rintro e u' w'' ⟨rfl, rfl, rfl⟩
      refine ⟨_, res_two rfl _ _ B (B + 1) _ _ rfl rfl (run_loadVar_row _ B 30 30 _ (0, 0) _ KR.out Try.underlying30 rfl info30) (load31 KC.out), HR.out _ _ ?_⟩
      exact pp_none HPC.out (HW6.out.trans (KK.out.below (B := w.heap.size) (fun x hx => by have h2 := HBE.out; rcases hx with h3 | h3 <;> omega) HW6.out.size))
end Go.Proofs.Ytfpkdbogapmhmaa.O

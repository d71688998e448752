/- Record: the document's guess of a call (written by gen_rdf.py). -/
import Derived.Test.YtfpkdbogapmhmaaRdD
namespace Go.Proofs.Ytfpkdbogapmhmaa.O
open Go.RowKit Go.Proofs.Ytfpkdbogapmhmaa.Mem
set_option linter.unusedVariables false
set_option linter.unusedSimpArgs false
theorem GI.far {w W W' : World} {R C : Array Value} {ty : TypeId} {S : Nat → Prop} (h : GI w R ty C W) (k : Kept S W W') (hS : ∀ b, S b → w.heap.size + 2 ≤ b) : GI w R ty C W' :=
  ⟨(k.block _ (lt_of_row h.res) (fun e => by have := hS _ e; omega)).trans h.res, (k.block _ (lt_of_row h.box) (fun e => by have := hS _ e; omega)).trans h.box, h.below.trans (k.below (fun x hx => by have := hS _ hx; omega) h.below.size), Nat.le_trans h.size k.size⟩
theorem oi_at {w W W' : World} {D : Value} {l : List Int} (k : Kept (fun b => b = w.heap.size ∨ b = w.heap.size + 1) W W') (hD : OI W D l) (hf : ∀ b, D.ownBlock = some b → w.heap.size + 2 ≤ b) : OI W' D l :=
  own_kept hD k (fun b hb e => by have h1 := hf b hb; rcases e with e | e <;> omega)
theorem nil_far (n : Nat) : ∀ b, (Value.slice none 0 0).ownBlock = some b → n ≤ b := fun b e => by simp [Value.ownBlock] at e
theorem ones_c {w : World} {D G : Value} {c : Cl} {da gi : List Int} (h : OB w D da) (k : OI w G gi) : (cells c D G).all (·.oneCell') = true := by
  obtain ⟨A, n, rfl, _⟩ := own_slice h
  obtain ⟨A2, n2, rfl, _⟩ := own_slice k
  simp [cells, Value.oneCell']
theorem sgn64 {x : Int} (h0 : 0 ≤ x) (h1 : x < 4294967296) : IntKind.i64.wrap x = x := by rw [IntKind.wrap_i64]; omega
set_option maxHeartbeats 4000000 in
set_option maxRecDepth 100000 in
theorem guess_any (w : World) (v : Value) (zs : List Int) (hb : zs.length ≤ 140737488351300) (hB : Bytes zs) (h : RB w v zs) :
    Calls Try.prog 36 #[v] w fun e w' => ∃ D G, e = .returned (cv (guessC zs) D G) ∧ OB w' D (guessC zs).da ∧ OI w' G (guessC zs).gi ∧ Below w.heap.size w w' ∧ Fresh w D ∧ Fresh w G := by
  suffices ∀ R : Ending → World → Prop, (∀ e w', (∃ D G, e = .returned (cv (guessC zs) D G) ∧ OB w' D (guessC zs).da ∧ OI w' G (guessC zs).gi ∧ Below w.heap.size w w' ∧ Fresh w D ∧ Fresh w G) → R e w') → Calls Try.prog 36 #[v] w R from this _ (fun _ _ h => h)
  intro R HR
  replace HR := Lib.hid HR
  have HBZ := Lib.hid hB
  have HLN := Lib.hid hb
  obtain ⟨A, c, rfl, h1, h2, h3⟩ := h
  obtain ⟨m, hm⟩ : ∃ m, zs.length = m := ⟨_, rfl⟩
  rw [hm] at h1 h3 ⊢
  unfold maxLen at h2
  have HV : Hid (RB w (.slice A m c) zs) := Lib.hid ⟨A, c, by rw [hm], by rw [hm]; exact h1, h2, by rw [hm]; exact h3⟩
  have HM := Lib.hid hm
  have HA3 : Hid (0 < m → ∃ g o, A = some ⟨g, o, none⟩) := Lib.hid (fun hp => by obtain ⟨g, o, e, _⟩ := h3 hp; exact ⟨g, o, e⟩)
  have HBX := Lib.hid (show Below w.heap.size w ((w.alloc (.cells #[.int .i64 0, .int .i64 0, .int .i64 0, .int .i64 0, .int .u64 0, .int .u64 0, .bool false, .int .i64 0, .int .i64 0, .int .i64 0, .slice none 0 0, .int .i64 0, .slice none 0 0] 30)).alloc (.cells #[.int .i64 0, .int .i64 0, .int .i64 0, .int .i64 0, .int .u64 0, .int .u64 0, .bool false, .int .i64 0, .int .i64 0, .int .i64 0, .slice none 0 0, .int .i64 0, .slice none 0 0] 30)) from ((Below.refl _ w).alloc (Nat.le_refl _) _).alloc (by simp) _)
  have HG0 : Hid (GI w #[.int .i64 0, .int .i64 0, .int .i64 0, .int .i64 0, .int .u64 0, .int .u64 0, .bool false, .int .i64 0, .int .i64 0, .int .i64 0, .slice none 0 0, .int .i64 0, .slice none 0 0] 30 #[.int .i64 0, .int .i64 0, .int .i64 0, .int .i64 0, .int .u64 0, .int .u64 0, .bool false, .int .i64 0, .int .i64 0, .int .i64 0, .slice none 0 0, .int .i64 0, .slice none 0 0] ((w.alloc (.cells #[.int .i64 0, .int .i64 0, .int .i64 0, .int .i64 0, .int .u64 0, .int .u64 0, .bool false, .int .i64 0, .int .i64 0, .int .i64 0, .slice none 0 0, .int .i64 0, .slice none 0 0] 30)).alloc (.cells #[.int .i64 0, .int .i64 0, .int .i64 0, .int .i64 0, .int .u64 0, .int .u64 0, .bool false, .int .i64 0, .int .i64 0, .int .i64 0, .slice none 0 0, .int .i64 0, .slice none 0 0] 30))) := Lib.hid ⟨row_on ((Below.refl _ _).alloc (Nat.le_refl _) _) (row_new rfl), row_new (by simp), HBX.out, by simp⟩
  have G1 := Lib.hid (get_any (w.alloc (.cells #[.int .i64 0, .int .i64 0, .int .i64 0, .int .i64 0, .int .u64 0, .int .u64 0, .bool false, .int .i64 0, .int .i64 0, .int .i64 0, .slice none 0 0, .int .i64 0, .slice none 0 0] 30)) (.slice A m c) zs 0 1 (HV.out.below ((Below.refl _ w).alloc (Nat.le_refl _) _)) hB (by omega) (by omega) 0 1 rfl rfl)
  have G2 := Lib.hid (get_any (w.alloc (.cells #[.int .i64 0, .int .i64 0, .int .i64 0, .int .i64 0, .int .u64 0, .int .u64 0, .bool false, .int .i64 0, .int .i64 0, .int .i64 0, .slice none 0 0, .int .i64 0, .slice none 0 0] 30)) (.slice A m c) zs 1 2 (HV.out.below ((Below.refl _ w).alloc (Nat.le_refl _) _)) hB (by omega) (by omega) 1 2 rfl rfl)
  have hc1 := gv_lo hB 1 0
  have hc2 := gv_lo hB 2 1
  obtain ⟨op, hop⟩ : ∃ x, gv zs 0 1 = x := ⟨_, rfl⟩
  obtain ⟨by0, hby⟩ : ∃ x, gv zs 1 2 = x := ⟨_, rfl⟩
  rw [hop] at hc1 G1
  rw [hby] at hc2 G2
  rw [show IntKind.i64.wrap op = op by rw [IntKind.wrap_i64]; omega] at G1
  rw [show IntKind.i64.wrap by0 = by0 by rw [IntKind.wrap_i64]; omega] at G2
  have HOP := Lib.hid hop
  have HBY := Lib.hid hby
  obtain ⟨K, hK⟩ : ∃ K, guessC zs = K := ⟨_, rfl⟩
  have HGE := Lib.hid hK
  rw [hK] at HR
  have HG1 : Hid (GI w #[.int .i64 0, .int .i64 0, .int .i64 0, .int .i64 0, .int .u64 0, .int .u64 0, .bool false, .int .i64 0, .int .i64 0, .int .i64 0, .slice none 0 0, .int .i64 0, .slice none 0 0] 30 #[.int .i64 op, .int .i64 by0, .int .i64 0, .int .i64 0, .int .u64 0, .int .u64 0, .bool false, .int .i64 0, .int .i64 0, .int .i64 0, .slice none 0 0, .int .i64 0, .slice none 0 0] (((w.alloc (.cells #[.int .i64 0, .int .i64 0, .int .i64 0, .int .i64 0, .int .u64 0, .int .u64 0, .bool false, .int .i64 0, .int .i64 0, .int .i64 0, .slice none 0 0, .int .i64 0, .slice none 0 0] 30)).alloc (.cells #[.int .i64 0, .int .i64 0, .int .i64 0, .int .i64 0, .int .u64 0, .int .u64 0, .bool false, .int .i64 0, .int .i64 0, .int .i64 0, .slice none 0 0, .int .i64 0, .slice none 0 0] 30)).setRow (w.heap.size + 1) #[.int .i64 op, .int .i64 by0, .int .i64 0, .int .i64 0, .int .u64 0, .int .u64 0, .bool false, .int .i64 0, .int .i64 0, .int .i64 0, .slice none 0 0, .int .i64 0, .slice none 0 0])) := Lib.hid (HG0.out.row _)
  clear h3 hm hB hb hop hby hK hc1 hc2
  go_enter Try.func36, Try.ntmps36
  go_upto_block 0 with (first | (go_at_call 43; first | ((with_reducible refine G1.out.mono ?_); rintro e w1 ⟨rfl, rfl⟩) | ((with_reducible refine G2.out.mono ?_); rintro e w1 ⟨rfl, rfl⟩)) | (refine wpList_store_row rfl 30 (.tmp 3) (.tmp 9) rfl (w.heap.size + 1) 30 #[.int .i64 0, .int .i64 0, .int .i64 0, .int .i64 0, .int .u64 0, .int .u64 0, .bool false, .int .i64 0, .int .i64 0, .int .i64 0, .slice none 0 0, .int .i64 0, .slice none 0 0] #[.int .i64 op, .int .i64 by0, .int .i64 0, .int .i64 0, .int .u64 0, .int .u64 0, .bool false, .int .i64 0, .int .i64 0, .int .i64 0, .slice none 0 0, .int .i64 0, .slice none 0 0] rfl rfl HG0.out.box info30 rfl (by simp [Value.oneCell']) ?_; have y0 := cell_row (j := 0) HG1.out.box rfl) | fail)
  clear y0 G1 G2 HG0 HBX
  generalize ((w.alloc (.cells #[.int .i64 0, .int .i64 0, .int .i64 0, .int .i64 0, .int .u64 0, .int .u64 0, .bool false, .int .i64 0, .int .i64 0, .int .i64 0, .slice none 0 0, .int .i64 0, .slice none 0 0] 30)).alloc (.cells #[.int .i64 0, .int .i64 0, .int .i64 0, .int .i64 0, .int .u64 0, .int .u64 0, .bool false, .int .i64 0, .int .i64 0, .int .i64 0, .slice none 0 0, .int .i64 0, .slice none 0 0] 30)).setRow (w.heap.size + 1) #[.int .i64 op, .int .i64 by0, .int .i64 0, .int .i64 0, .int .u64 0, .int .u64 0, .bool false, .int .i64 0, .int .i64 0, .int .i64 0, .slice none 0 0, .int .i64 0, .slice none 0 0] = W1 at *
  go_cut [4] from 12 to 91 (fun v4 wc => ∃ D G, Hid (OB wc D K.da) ∧ Hid (∀ b, D.ownBlock = some b → w.heap.size + 2 ≤ b) ∧ Hid (OI wc G K.gi) ∧ Hid (∀ b, G.ownBlock = some b → w.heap.size + 2 ≤ b) ∧ Hid (GI w #[.int .i64 0, .int .i64 0, .int .i64 0, .int .i64 0, .int .u64 0, .int .u64 0, .bool false, .int .i64 0, .int .i64 0, .int .i64 0, .slice none 0 0, .int .i64 0, .slice none 0 0] 30 (cells K D G) wc))
  case first =>
    by_cases h1 : op = 1
    · subst h1
      have hn_x := gv_lo HBZ.out 4 3
      obtain ⟨x, h_x⟩ : ∃ y, gv zs 3 4 = y := ⟨_, rfl⟩
      rw [h_x] at hn_x
      have HX_x := Lib.hid h_x
      have HL_x := Lib.hid hn_x
      clear h_x hn_x
      obtain ⟨sx, hs_x⟩ : ∃ y, sgn x = y := ⟨_, rfl⟩
      have HS_x := Lib.hid hs_x
      clear hs_x
      have hg' : guessC zs = { zc with op := 1, by' := by0, sz := sx } := by unfold guessC; rw [HOP.out]; simp [HBY.out, HX_x.out, HS_x.out]
      rw [HGE.out] at hg'
      subst hg'
      have p_x := get_any W1 (.slice A m c) zs 3 4 (HV.out.below HG1.out.below) HBZ.out (by omega) (by omega) 3 4 rfl rfl
      rw [HX_x.out, show IntKind.i64.wrap x = x by have := HL_x.out; rw [IntKind.wrap_i64]; omega] at p_x
      have P_x := Lib.hid p_x
      clear p_x
      have P_sx := Lib.hid (minus_any W1 x (by have := HL_x.out; omega) (by have := HL_x.out; omega))
      rw [HS_x.out] at P_sx
      have y2 := cell_row (j := 2) HG1.out.box rfl
      have z2 := free_row (j := 2) HG1.out.box
      go_wp2_with (first | (go_at_call 43; (with_reducible refine P_x.out.mono ?_); rintro e w' ⟨rfl, rfl⟩) | (go_at_call 59; (with_reducible refine P_sx.out.mono ?_); rintro e w' ⟨rfl, rfl⟩) | fail)
      have HG2 := Lib.hid (HG1.out.set1 2 (.int .i64 sx))
      go_meet
      exact ⟨.slice none 0 0, .slice none 0 0, Lib.hid (OB.nil _), Lib.hid (nil_far _), Lib.hid (OI.nil _), Lib.hid (nil_far _), HG2⟩
    by_cases h2 : op = 2
    · subst h2
      have hn_obj := gv_lo HBZ.out 8 3
      obtain ⟨obj, h_obj⟩ : ∃ y, gv zs 3 8 = y := ⟨_, rfl⟩
      rw [h_obj] at hn_obj
      have HX_obj := Lib.hid h_obj
      have HL_obj := Lib.hid hn_obj
      clear h_obj hn_obj
      have hn_lo := gv_lo HBZ.out 8 11
      obtain ⟨lo, h_lo⟩ : ∃ y, gv zs 11 8 = y := ⟨_, rfl⟩
      rw [h_lo] at hn_lo
      have HX_lo := Lib.hid h_lo
      have HL_lo := Lib.hid hn_lo
      clear h_lo hn_lo
      have hn_hi := gv_lo HBZ.out 8 19
      obtain ⟨hi, h_hi⟩ : ∃ y, gv zs 19 8 = y := ⟨_, rfl⟩
      rw [h_hi] at hn_hi
      have HX_hi := Lib.hid h_hi
      have HL_hi := Lib.hid hn_hi
      clear h_hi hn_hi
      obtain ⟨ob, h_ob⟩ : ∃ y, IntKind.i64.wrap obj = y := ⟨_, rfl⟩
      have HW_obj := Lib.hid h_ob
      clear h_ob
      have hg' : guessC zs = { zc with op := 2, by' := by0, obj := ob, hi := hi, lo := lo } := by unfold guessC; rw [HOP.out]; simp [HBY.out, HX_obj.out, HX_lo.out, HX_hi.out, HW_obj.out]
      rw [HGE.out] at hg'
      subst hg'
      have p_obj := get_any W1 (.slice A m c) zs 3 8 (HV.out.below HG1.out.below) HBZ.out (by omega) (by omega) 3 8 rfl rfl
      rw [HX_obj.out, HW_obj.out] at p_obj
      have P_obj := Lib.hid p_obj
      clear p_obj
      have p2 := dword_any W1 (.slice A m c) zs 11 (HV.out.below HG1.out.below) HBZ.out (by omega) 11 rfl
      rw [show (11 : Nat) + 8 = 19 from rfl, HX_hi.out, HX_lo.out] at p2
      have P2 := Lib.hid p2
      clear p2
      go_upto_region 10 with (first | (go_at_call 43; (with_reducible refine P_obj.out.mono ?_); rintro e w' ⟨rfl, rfl⟩) | (go_at_call 44; (with_reducible refine P2.out.mono ?_); rintro e W2 ⟨rfl, hb4⟩; have HG2 := Lib.hid (HG1.out.on hb4); have y3 := cell_row (j := 3) HG2.out.box rfl; have z3 := free_row (j := 3) HG2.out.box; have y4 := cell_row (j := 4) HG2.out.box rfl; have z4 := free_row (j := 4) HG2.out.box; have y5 := cell_row (j := 5) HG2.out.box rfl; have z5 := free_row (j := 5) HG2.out.box; clear hb4) | fail)
      have HG3 : Hid (GI w #[.int .i64 0, .int .i64 0, .int .i64 0, .int .i64 0, .int .u64 0, .int .u64 0, .bool false, .int .i64 0, .int .i64 0, .int .i64 0, .slice none 0 0, .int .i64 0, .slice none 0 0] 30 #[.int .i64 2, .int .i64 by0, .int .i64 0, .int .i64 ob, .int .u64 hi, .int .u64 lo, .bool false, .int .i64 0, .int .i64 0, .int .i64 0, .slice none 0 0, .int .i64 0, .slice none 0 0] (((W2.setCell ⟨w.heap.size + 1, 3, none⟩ (.int .i64 ob)).setCell ⟨w.heap.size + 1, 4, none⟩ (.int .u64 hi)).setCell ⟨w.heap.size + 1, 5, none⟩ (.int .u64 lo))) := Lib.hid (((HG2.out.set1 3 _).set1 4 _).set1 5 _)
      clear y3 y4 y5 z3 z4 z5
      generalize ((W2.setCell ⟨w.heap.size + 1, 3, none⟩ (.int .i64 ob)).setCell ⟨w.heap.size + 1, 4, none⟩ (.int .u64 hi)).setCell ⟨w.heap.size + 1, 5, none⟩ (.int .u64 lo) = W3 at HG3 ⊢
      clear HG1 HG2 P_obj P2
      have y0 := cell_row (j := 0) HG3.out.box rfl
      have z0 := free_row (j := 0) HG3.out.box
      go_wp2
      go_meet
      exact ⟨.slice none 0 0, .slice none 0 0, Lib.hid (OB.nil _), Lib.hid (nil_far _), Lib.hid (OI.nil _), Lib.hid (nil_far _), HG3⟩
    by_cases h4 : op = 4
    · subst h4
      have hn_obj := gv_lo HBZ.out 8 3
      obtain ⟨obj, h_obj⟩ : ∃ y, gv zs 3 8 = y := ⟨_, rfl⟩
      rw [h_obj] at hn_obj
      have HX_obj := Lib.hid h_obj
      have HL_obj := Lib.hid hn_obj
      clear h_obj hn_obj
      have hn_lo := gv_lo HBZ.out 8 11
      obtain ⟨lo, h_lo⟩ : ∃ y, gv zs 11 8 = y := ⟨_, rfl⟩
      rw [h_lo] at hn_lo
      have HX_lo := Lib.hid h_lo
      have HL_lo := Lib.hid hn_lo
      clear h_lo hn_lo
      have hn_hi := gv_lo HBZ.out 8 19
      obtain ⟨hi, h_hi⟩ : ∃ y, gv zs 19 8 = y := ⟨_, rfl⟩
      rw [h_hi] at hn_hi
      have HX_hi := Lib.hid h_hi
      have HL_hi := Lib.hid hn_hi
      clear h_hi hn_hi
      obtain ⟨ob, h_ob⟩ : ∃ y, IntKind.i64.wrap obj = y := ⟨_, rfl⟩
      have HW_obj := Lib.hid h_ob
      clear h_ob
      have hg' : guessC zs = { zc with op := 4, by' := by0, obj := ob, hi := hi, lo := lo } := by unfold guessC; rw [HOP.out]; simp [HBY.out, HX_obj.out, HX_lo.out, HX_hi.out, HW_obj.out]
      rw [HGE.out] at hg'
      subst hg'
      have p_obj := get_any W1 (.slice A m c) zs 3 8 (HV.out.below HG1.out.below) HBZ.out (by omega) (by omega) 3 8 rfl rfl
      rw [HX_obj.out, HW_obj.out] at p_obj
      have P_obj := Lib.hid p_obj
      clear p_obj
      have p2 := dword_any W1 (.slice A m c) zs 11 (HV.out.below HG1.out.below) HBZ.out (by omega) 11 rfl
      rw [show (11 : Nat) + 8 = 19 from rfl, HX_hi.out, HX_lo.out] at p2
      have P2 := Lib.hid p2
      clear p2
      go_upto_region 10 with (first | (go_at_call 43; (with_reducible refine P_obj.out.mono ?_); rintro e w' ⟨rfl, rfl⟩) | (go_at_call 44; (with_reducible refine P2.out.mono ?_); rintro e W2 ⟨rfl, hb4⟩; have HG2 := Lib.hid (HG1.out.on hb4); have y3 := cell_row (j := 3) HG2.out.box rfl; have z3 := free_row (j := 3) HG2.out.box; have y4 := cell_row (j := 4) HG2.out.box rfl; have z4 := free_row (j := 4) HG2.out.box; have y5 := cell_row (j := 5) HG2.out.box rfl; have z5 := free_row (j := 5) HG2.out.box; clear hb4) | fail)
      have HG3 : Hid (GI w #[.int .i64 0, .int .i64 0, .int .i64 0, .int .i64 0, .int .u64 0, .int .u64 0, .bool false, .int .i64 0, .int .i64 0, .int .i64 0, .slice none 0 0, .int .i64 0, .slice none 0 0] 30 #[.int .i64 4, .int .i64 by0, .int .i64 0, .int .i64 ob, .int .u64 hi, .int .u64 lo, .bool false, .int .i64 0, .int .i64 0, .int .i64 0, .slice none 0 0, .int .i64 0, .slice none 0 0] (((W2.setCell ⟨w.heap.size + 1, 3, none⟩ (.int .i64 ob)).setCell ⟨w.heap.size + 1, 4, none⟩ (.int .u64 hi)).setCell ⟨w.heap.size + 1, 5, none⟩ (.int .u64 lo))) := Lib.hid (((HG2.out.set1 3 _).set1 4 _).set1 5 _)
      clear y3 y4 y5 z3 z4 z5
      generalize ((W2.setCell ⟨w.heap.size + 1, 3, none⟩ (.int .i64 ob)).setCell ⟨w.heap.size + 1, 4, none⟩ (.int .u64 hi)).setCell ⟨w.heap.size + 1, 5, none⟩ (.int .u64 lo) = W3 at HG3 ⊢
      clear HG1 HG2 P_obj P2
      have y0 := cell_row (j := 0) HG3.out.box rfl
      have z0 := free_row (j := 0) HG3.out.box
      go_wp2
      go_meet
      exact ⟨.slice none 0 0, .slice none 0 0, Lib.hid (OB.nil _), Lib.hid (nil_far _), Lib.hid (OI.nil _), Lib.hid (nil_far _), HG3⟩
    by_cases h7 : op = 7
    · subst h7
      have hn_obj := gv_lo HBZ.out 8 3
      obtain ⟨obj, h_obj⟩ : ∃ y, gv zs 3 8 = y := ⟨_, rfl⟩
      rw [h_obj] at hn_obj
      have HX_obj := Lib.hid h_obj
      have HL_obj := Lib.hid hn_obj
      clear h_obj hn_obj
      have hn_lo := gv_lo HBZ.out 8 11
      obtain ⟨lo, h_lo⟩ : ∃ y, gv zs 11 8 = y := ⟨_, rfl⟩
      rw [h_lo] at hn_lo
      have HX_lo := Lib.hid h_lo
      have HL_lo := Lib.hid hn_lo
      clear h_lo hn_lo
      have hn_hi := gv_lo HBZ.out 8 19
      obtain ⟨hi, h_hi⟩ : ∃ y, gv zs 19 8 = y := ⟨_, rfl⟩
      rw [h_hi] at hn_hi
      have HX_hi := Lib.hid h_hi
      have HL_hi := Lib.hid hn_hi
      clear h_hi hn_hi
      obtain ⟨ob, h_ob⟩ : ∃ y, IntKind.i64.wrap obj = y := ⟨_, rfl⟩
      have HW_obj := Lib.hid h_ob
      clear h_ob
      have hg' : guessC zs = { zc with op := 7, by' := by0, obj := ob, hi := hi, lo := lo } := by unfold guessC; rw [HOP.out]; simp [HBY.out, HX_obj.out, HX_lo.out, HX_hi.out, HW_obj.out]
      rw [HGE.out] at hg'
      subst hg'
      have p_obj := get_any W1 (.slice A m c) zs 3 8 (HV.out.below HG1.out.below) HBZ.out (by omega) (by omega) 3 8 rfl rfl
      rw [HX_obj.out, HW_obj.out] at p_obj
      have P_obj := Lib.hid p_obj
      clear p_obj
      have p2 := dword_any W1 (.slice A m c) zs 11 (HV.out.below HG1.out.below) HBZ.out (by omega) 11 rfl
      rw [show (11 : Nat) + 8 = 19 from rfl, HX_hi.out, HX_lo.out] at p2
      have P2 := Lib.hid p2
      clear p2
      go_upto_region 10 with (first | (go_at_call 43; (with_reducible refine P_obj.out.mono ?_); rintro e w' ⟨rfl, rfl⟩) | (go_at_call 44; (with_reducible refine P2.out.mono ?_); rintro e W2 ⟨rfl, hb4⟩; have HG2 := Lib.hid (HG1.out.on hb4); have y3 := cell_row (j := 3) HG2.out.box rfl; have z3 := free_row (j := 3) HG2.out.box; have y4 := cell_row (j := 4) HG2.out.box rfl; have z4 := free_row (j := 4) HG2.out.box; have y5 := cell_row (j := 5) HG2.out.box rfl; have z5 := free_row (j := 5) HG2.out.box; clear hb4) | fail)
      have HG3 : Hid (GI w #[.int .i64 0, .int .i64 0, .int .i64 0, .int .i64 0, .int .u64 0, .int .u64 0, .bool false, .int .i64 0, .int .i64 0, .int .i64 0, .slice none 0 0, .int .i64 0, .slice none 0 0] 30 #[.int .i64 7, .int .i64 by0, .int .i64 0, .int .i64 ob, .int .u64 hi, .int .u64 lo, .bool false, .int .i64 0, .int .i64 0, .int .i64 0, .slice none 0 0, .int .i64 0, .slice none 0 0] (((W2.setCell ⟨w.heap.size + 1, 3, none⟩ (.int .i64 ob)).setCell ⟨w.heap.size + 1, 4, none⟩ (.int .u64 hi)).setCell ⟨w.heap.size + 1, 5, none⟩ (.int .u64 lo))) := Lib.hid (((HG2.out.set1 3 _).set1 4 _).set1 5 _)
      clear y3 y4 y5 z3 z4 z5
      generalize ((W2.setCell ⟨w.heap.size + 1, 3, none⟩ (.int .i64 ob)).setCell ⟨w.heap.size + 1, 4, none⟩ (.int .u64 hi)).setCell ⟨w.heap.size + 1, 5, none⟩ (.int .u64 lo) = W3 at HG3 ⊢
      clear HG1 HG2 P_obj P2
      have y0 := cell_row (j := 0) HG3.out.box rfl
      have z0 := free_row (j := 0) HG3.out.box
      go_wp2
      go_meet
      exact ⟨.slice none 0 0, .slice none 0 0, Lib.hid (OB.nil _), Lib.hid (nil_far _), Lib.hid (OI.nil _), Lib.hid (nil_far _), HG3⟩
    by_cases h3 : op = 3
    · subst h3
      have hn_obj := gv_lo HBZ.out 8 3
      obtain ⟨obj, h_obj⟩ : ∃ y, gv zs 3 8 = y := ⟨_, rfl⟩
      rw [h_obj] at hn_obj
      have HX_obj := Lib.hid h_obj
      have HL_obj := Lib.hid hn_obj
      clear h_obj hn_obj
      have hn_lo := gv_lo HBZ.out 8 11
      obtain ⟨lo, h_lo⟩ : ∃ y, gv zs 11 8 = y := ⟨_, rfl⟩
      rw [h_lo] at hn_lo
      have HX_lo := Lib.hid h_lo
      have HL_lo := Lib.hid hn_lo
      clear h_lo hn_lo
      have hn_hi := gv_lo HBZ.out 8 19
      obtain ⟨hi, h_hi⟩ : ∃ y, gv zs 19 8 = y := ⟨_, rfl⟩
      rw [h_hi] at hn_hi
      have HX_hi := Lib.hid h_hi
      have HL_hi := Lib.hid hn_hi
      clear h_hi hn_hi
      obtain ⟨ob, h_ob⟩ : ∃ y, IntKind.i64.wrap obj = y := ⟨_, rfl⟩
      have HW_obj := Lib.hid h_ob
      clear h_ob
      have hn_rt := gv_lo HBZ.out 1 27
      obtain ⟨rt, h_rt⟩ : ∃ y, gv zs 27 1 = y := ⟨_, rfl⟩
      rw [h_rt] at hn_rt
      have HX_rt := Lib.hid h_rt
      have HL_rt := Lib.hid hn_rt
      clear h_rt hn_rt
      have hg' : guessC zs = { zc with op := 3, by' := by0, obj := ob, hi := hi, lo := lo, rt := rt } := by unfold guessC; rw [HOP.out]; simp [HBY.out, HX_obj.out, HX_lo.out, HX_hi.out, HW_obj.out, HX_rt.out]
      rw [HGE.out] at hg'
      subst hg'
      have p_obj := get_any W1 (.slice A m c) zs 3 8 (HV.out.below HG1.out.below) HBZ.out (by omega) (by omega) 3 8 rfl rfl
      rw [HX_obj.out, HW_obj.out] at p_obj
      have P_obj := Lib.hid p_obj
      clear p_obj
      have p2 := dword_any W1 (.slice A m c) zs 11 (HV.out.below HG1.out.below) HBZ.out (by omega) 11 rfl
      rw [show (11 : Nat) + 8 = 19 from rfl, HX_hi.out, HX_lo.out] at p2
      have P2 := Lib.hid p2
      clear p2
      go_upto_region 10 with (first | (go_at_call 43; (with_reducible refine P_obj.out.mono ?_); rintro e w' ⟨rfl, rfl⟩) | (go_at_call 44; (with_reducible refine P2.out.mono ?_); rintro e W2 ⟨rfl, hb4⟩; have HG2 := Lib.hid (HG1.out.on hb4); have y3 := cell_row (j := 3) HG2.out.box rfl; have z3 := free_row (j := 3) HG2.out.box; have y4 := cell_row (j := 4) HG2.out.box rfl; have z4 := free_row (j := 4) HG2.out.box; have y5 := cell_row (j := 5) HG2.out.box rfl; have z5 := free_row (j := 5) HG2.out.box; clear hb4) | fail)
      have HG3 : Hid (GI w #[.int .i64 0, .int .i64 0, .int .i64 0, .int .i64 0, .int .u64 0, .int .u64 0, .bool false, .int .i64 0, .int .i64 0, .int .i64 0, .slice none 0 0, .int .i64 0, .slice none 0 0] 30 #[.int .i64 3, .int .i64 by0, .int .i64 0, .int .i64 ob, .int .u64 hi, .int .u64 lo, .bool false, .int .i64 0, .int .i64 0, .int .i64 0, .slice none 0 0, .int .i64 0, .slice none 0 0] (((W2.setCell ⟨w.heap.size + 1, 3, none⟩ (.int .i64 ob)).setCell ⟨w.heap.size + 1, 4, none⟩ (.int .u64 hi)).setCell ⟨w.heap.size + 1, 5, none⟩ (.int .u64 lo))) := Lib.hid (((HG2.out.set1 3 _).set1 4 _).set1 5 _)
      clear y3 y4 y5 z3 z4 z5
      generalize ((W2.setCell ⟨w.heap.size + 1, 3, none⟩ (.int .i64 ob)).setCell ⟨w.heap.size + 1, 4, none⟩ (.int .u64 hi)).setCell ⟨w.heap.size + 1, 5, none⟩ (.int .u64 lo) = W3 at HG3 ⊢
      clear HG1 HG2 P_obj P2
      have y0 := cell_row (j := 0) HG3.out.box rfl
      have z0 := free_row (j := 0) HG3.out.box
      have p_rt := get_any W3 (.slice A m c) zs 27 1 (HV.out.below HG3.out.below) HBZ.out (by omega) (by omega) 27 1 rfl rfl
      rw [HX_rt.out, show IntKind.i64.wrap rt = rt by have := HL_rt.out; rw [IntKind.wrap_i64]; omega] at p_rt
      have P_rt := Lib.hid p_rt
      clear p_rt
      have y7 := cell_row (j := 7) HG3.out.box rfl
      have z7 := free_row (j := 7) HG3.out.box
      go_wp2_with (first | (go_at_call 43; (with_reducible refine P_rt.out.mono ?_); rintro e w' ⟨rfl, rfl⟩) | fail)
      have HG4 := Lib.hid (HG3.out.set1 7 (.int .i64 rt))
      go_meet
      exact ⟨.slice none 0 0, .slice none 0 0, Lib.hid (OB.nil _), Lib.hid (nil_far _), Lib.hid (OI.nil _), Lib.hid (nil_far _), HG4⟩
    by_cases h5 : op = 5
    · subst h5
      have hn_obj := gv_lo HBZ.out 8 3
      obtain ⟨obj, h_obj⟩ : ∃ y, gv zs 3 8 = y := ⟨_, rfl⟩
      rw [h_obj] at hn_obj
      have HX_obj := Lib.hid h_obj
      have HL_obj := Lib.hid hn_obj
      clear h_obj hn_obj
      have hn_lo := gv_lo HBZ.out 8 12
      obtain ⟨lo, h_lo⟩ : ∃ y, gv zs 12 8 = y := ⟨_, rfl⟩
      rw [h_lo] at hn_lo
      have HX_lo := Lib.hid h_lo
      have HL_lo := Lib.hid hn_lo
      clear h_lo hn_lo
      have hn_hi := gv_lo HBZ.out 8 20
      obtain ⟨hi, h_hi⟩ : ∃ y, gv zs 20 8 = y := ⟨_, rfl⟩
      rw [h_hi] at hn_hi
      have HX_hi := Lib.hid h_hi
      have HL_hi := Lib.hid hn_hi
      clear h_hi hn_hi
      obtain ⟨ob, h_ob⟩ : ∃ y, IntKind.i64.wrap obj = y := ⟨_, rfl⟩
      have HW_obj := Lib.hid h_ob
      clear h_ob
      have hn_g1 := gv_lo HBZ.out 1 11
      obtain ⟨g1, h_g1⟩ : ∃ y, gv zs 11 1 = y := ⟨_, rfl⟩
      rw [h_g1] at hn_g1
      have HX_g1 := Lib.hid h_g1
      have HL_g1 := Lib.hid hn_g1
      clear h_g1 hn_g1
      have hn_of := gv_lo HBZ.out 4 28
      obtain ⟨of, h_of⟩ : ∃ y, gv zs 28 4 = y := ⟨_, rfl⟩
      rw [h_of] at hn_of
      have HX_of := Lib.hid h_of
      have HL_of := Lib.hid hn_of
      clear h_of hn_of
      obtain ⟨sof, hs_of⟩ : ∃ y, sgn of = y := ⟨_, rfl⟩
      have HS_of := Lib.hid hs_of
      clear hs_of
      have hn_nn := gv_lo HBZ.out 4 32
      obtain ⟨nn, h_nn⟩ : ∃ y, gv zs 32 4 = y := ⟨_, rfl⟩
      rw [h_nn] at hn_nn
      have HX_nn := Lib.hid h_nn
      have HL_nn := Lib.hid hn_nn
      clear h_nn hn_nn
      obtain ⟨snn, hs_nn⟩ : ∃ y, sgn nn = y := ⟨_, rfl⟩
      have HS_nn := Lib.hid hs_nn
      clear hs_nn
      obtain ⟨tb, htb⟩ : ∃ b, decide (g1 = 1) = b := ⟨_, rfl⟩
      have HTB := Lib.hid htb
      clear htb
      have hg' : guessC zs = { zc with op := 5, by' := by0, obj := ob, hi := hi, lo := lo, gv := tb, off := sof, n := snn } := by unfold guessC; rw [HOP.out]; simp [HBY.out, HX_obj.out, HX_lo.out, HX_hi.out, HW_obj.out, HX_g1.out, HX_of.out, HS_of.out, HX_nn.out, HS_nn.out, HTB.out]
      rw [HGE.out] at hg'
      subst hg'
      have p_obj := get_any W1 (.slice A m c) zs 3 8 (HV.out.below HG1.out.below) HBZ.out (by omega) (by omega) 3 8 rfl rfl
      rw [HX_obj.out, HW_obj.out] at p_obj
      have P_obj := Lib.hid p_obj
      clear p_obj
      have p2 := dword_any W1 (.slice A m c) zs 12 (HV.out.below HG1.out.below) HBZ.out (by omega) 12 rfl
      rw [show (12 : Nat) + 8 = 20 from rfl, HX_hi.out, HX_lo.out] at p2
      have P2 := Lib.hid p2
      clear p2
      go_upto_region 15 with (first | (go_at_call 43; (with_reducible refine P_obj.out.mono ?_); rintro e w' ⟨rfl, rfl⟩) | (go_at_call 44; (with_reducible refine P2.out.mono ?_); rintro e W2 ⟨rfl, hb4⟩; have HG2 := Lib.hid (HG1.out.on hb4); have y3 := cell_row (j := 3) HG2.out.box rfl; have z3 := free_row (j := 3) HG2.out.box; have y4 := cell_row (j := 4) HG2.out.box rfl; have z4 := free_row (j := 4) HG2.out.box; have y5 := cell_row (j := 5) HG2.out.box rfl; have z5 := free_row (j := 5) HG2.out.box; clear hb4) | fail)
      have HG3 : Hid (GI w #[.int .i64 0, .int .i64 0, .int .i64 0, .int .i64 0, .int .u64 0, .int .u64 0, .bool false, .int .i64 0, .int .i64 0, .int .i64 0, .slice none 0 0, .int .i64 0, .slice none 0 0] 30 #[.int .i64 5, .int .i64 by0, .int .i64 0, .int .i64 ob, .int .u64 hi, .int .u64 lo, .bool false, .int .i64 0, .int .i64 0, .int .i64 0, .slice none 0 0, .int .i64 0, .slice none 0 0] (((W2.setCell ⟨w.heap.size + 1, 3, none⟩ (.int .i64 ob)).setCell ⟨w.heap.size + 1, 4, none⟩ (.int .u64 hi)).setCell ⟨w.heap.size + 1, 5, none⟩ (.int .u64 lo))) := Lib.hid (((HG2.out.set1 3 _).set1 4 _).set1 5 _)
      clear y3 y4 y5 z3 z4 z5
      generalize ((W2.setCell ⟨w.heap.size + 1, 3, none⟩ (.int .i64 ob)).setCell ⟨w.heap.size + 1, 4, none⟩ (.int .u64 hi)).setCell ⟨w.heap.size + 1, 5, none⟩ (.int .u64 lo) = W3 at HG3 ⊢
      clear HG1 HG2 P_obj P2
      have p_g1 := get_any W3 (.slice A m c) zs 11 1 (HV.out.below HG3.out.below) HBZ.out (by omega) (by omega) 11 1 rfl rfl
      rw [HX_g1.out, show IntKind.i64.wrap g1 = g1 by have := HL_g1.out; rw [IntKind.wrap_i64]; omega] at p_g1
      have P_g1 := Lib.hid p_g1
      clear p_g1
      have y6 := cell_row (j := 6) HG3.out.box rfl
      have z6 := free_row (j := 6) HG3.out.box
      have hcut2 : ∃ v : Bool, (g1 = 1 ∧ tb = true) ∨ (¬ g1 = 1 ∧ tb = false) := ⟨true, by have := HTB.out; by_cases h : g1 = 1; exact .inl ⟨h, by rw [← this]; exact decide_eq_true h⟩; exact .inr ⟨h, by rw [← this]; exact decide_eq_false h⟩⟩
      clear HTB
      obtain ⟨_, hcut2⟩ := hcut2
      rcases hcut2 with ⟨hg1, rfl⟩ | ⟨hg1, rfl⟩
      · skip
        have hq : (g1 == 1) = true := by simpa using hg1
        subst hg1
        go_upto_region 16 with (first | (go_at_call 43; (with_reducible refine P_g1.out.mono ?_); rintro e w' ⟨rfl, rfl⟩) | fail)
        have HG4 := Lib.hid (HG3.out.set1 6 (.bool true))
        replace HG4 : Hid (GI w #[.int .i64 0, .int .i64 0, .int .i64 0, .int .i64 0, .int .u64 0, .int .u64 0, .bool false, .int .i64 0, .int .i64 0, .int .i64 0, .slice none 0 0, .int .i64 0, .slice none 0 0] 30 #[.int .i64 5, .int .i64 by0, .int .i64 0, .int .i64 ob, .int .u64 hi, .int .u64 lo, .bool true, .int .i64 0, .int .i64 0, .int .i64 0, .slice none 0 0, .int .i64 0, .slice none 0 0] (W3.setCell ⟨w.heap.size + 1, 6, none⟩ (.bool true))) := HG4
        generalize W3.setCell ⟨w.heap.size + 1, 6, none⟩ (.bool true) = W4 at HG4 ⊢
        clear HG3
        clear y6 z6
        clear P_g1
        have p_of := get_any W4 (.slice A m c) zs 28 4 (HV.out.below HG4.out.below) HBZ.out (by omega) (by omega) 28 4 rfl rfl
        rw [HX_of.out, show IntKind.i64.wrap of = of by have := HL_of.out; rw [IntKind.wrap_i64]; omega] at p_of
        have P_of := Lib.hid p_of
        clear p_of
        have P_sof := Lib.hid (minus_any W4 of (by have := HL_of.out; omega) (by have := HL_of.out; omega))
        rw [HS_of.out] at P_sof
        have y8 := cell_row (j := 8) HG4.out.box rfl
        have z8 := free_row (j := 8) HG4.out.box
        go_upto_region 17 with (first | (go_at_call 43; (with_reducible refine P_of.out.mono ?_); rintro e w' ⟨rfl, rfl⟩) | (go_at_call 59; (with_reducible refine P_sof.out.mono ?_); rintro e w' ⟨rfl, rfl⟩) | fail)
        have HG5 := Lib.hid (HG4.out.set1 8 (.int .i64 sof))
        replace HG5 : Hid (GI w #[.int .i64 0, .int .i64 0, .int .i64 0, .int .i64 0, .int .u64 0, .int .u64 0, .bool false, .int .i64 0, .int .i64 0, .int .i64 0, .slice none 0 0, .int .i64 0, .slice none 0 0] 30 #[.int .i64 5, .int .i64 by0, .int .i64 0, .int .i64 ob, .int .u64 hi, .int .u64 lo, .bool true, .int .i64 0, .int .i64 sof, .int .i64 0, .slice none 0 0, .int .i64 0, .slice none 0 0] (W4.setCell ⟨w.heap.size + 1, 8, none⟩ (.int .i64 sof))) := HG5
        generalize W4.setCell ⟨w.heap.size + 1, 8, none⟩ (.int .i64 sof) = W5 at HG5 ⊢
        clear HG4
        clear y8 z8
        clear P_of P_sof
        have y0 := cell_row (j := 0) HG5.out.box rfl
        have z0 := free_row (j := 0) HG5.out.box
        have p_nn := get_any W5 (.slice A m c) zs 32 4 (HV.out.below HG5.out.below) HBZ.out (by omega) (by omega) 32 4 rfl rfl
        rw [HX_nn.out, show IntKind.i64.wrap nn = nn by have := HL_nn.out; rw [IntKind.wrap_i64]; omega] at p_nn
        have P_nn := Lib.hid p_nn
        clear p_nn
        have P_snn := Lib.hid (minus_any W5 nn (by have := HL_nn.out; omega) (by have := HL_nn.out; omega))
        rw [HS_nn.out] at P_snn
        have y9 := cell_row (j := 9) HG5.out.box rfl
        have z9 := free_row (j := 9) HG5.out.box
        go_wp2_with (first | (go_at_call 43; (with_reducible refine P_nn.out.mono ?_); rintro e w' ⟨rfl, rfl⟩) | (go_at_call 59; (with_reducible refine P_snn.out.mono ?_); rintro e w' ⟨rfl, rfl⟩) | fail)
        have HG6 := Lib.hid (HG5.out.set1 9 (.int .i64 snn))
        go_meet
        exact ⟨.slice none 0 0, .slice none 0 0, Lib.hid (OB.nil _), Lib.hid (nil_far _), Lib.hid (OI.nil _), Lib.hid (nil_far _), HG6⟩
      · skip
        have hq : (g1 == 1) = false := by simpa using hg1
        go_upto_region 16 with (first | (go_at_call 43; (with_reducible refine P_g1.out.mono ?_); rintro e w' ⟨rfl, rfl⟩) | fail)
        have HG4 := Lib.hid (HG3.out.set1 6 (.bool false))
        replace HG4 : Hid (GI w #[.int .i64 0, .int .i64 0, .int .i64 0, .int .i64 0, .int .u64 0, .int .u64 0, .bool false, .int .i64 0, .int .i64 0, .int .i64 0, .slice none 0 0, .int .i64 0, .slice none 0 0] 30 #[.int .i64 5, .int .i64 by0, .int .i64 0, .int .i64 ob, .int .u64 hi, .int .u64 lo, .bool false, .int .i64 0, .int .i64 0, .int .i64 0, .slice none 0 0, .int .i64 0, .slice none 0 0] (W3.setCell ⟨w.heap.size + 1, 6, none⟩ (.bool false))) := HG4
        generalize W3.setCell ⟨w.heap.size + 1, 6, none⟩ (.bool false) = W4 at HG4 ⊢
        clear HG3
        clear y6 z6
        clear P_g1
        have p_of := get_any W4 (.slice A m c) zs 28 4 (HV.out.below HG4.out.below) HBZ.out (by omega) (by omega) 28 4 rfl rfl
        rw [HX_of.out, show IntKind.i64.wrap of = of by have := HL_of.out; rw [IntKind.wrap_i64]; omega] at p_of
        have P_of := Lib.hid p_of
        clear p_of
        have P_sof := Lib.hid (minus_any W4 of (by have := HL_of.out; omega) (by have := HL_of.out; omega))
        rw [HS_of.out] at P_sof
        have y8 := cell_row (j := 8) HG4.out.box rfl
        have z8 := free_row (j := 8) HG4.out.box
        go_upto_region 17 with (first | (go_at_call 43; (with_reducible refine P_of.out.mono ?_); rintro e w' ⟨rfl, rfl⟩) | (go_at_call 59; (with_reducible refine P_sof.out.mono ?_); rintro e w' ⟨rfl, rfl⟩) | fail)
        have HG5 := Lib.hid (HG4.out.set1 8 (.int .i64 sof))
        replace HG5 : Hid (GI w #[.int .i64 0, .int .i64 0, .int .i64 0, .int .i64 0, .int .u64 0, .int .u64 0, .bool false, .int .i64 0, .int .i64 0, .int .i64 0, .slice none 0 0, .int .i64 0, .slice none 0 0] 30 #[.int .i64 5, .int .i64 by0, .int .i64 0, .int .i64 ob, .int .u64 hi, .int .u64 lo, .bool false, .int .i64 0, .int .i64 sof, .int .i64 0, .slice none 0 0, .int .i64 0, .slice none 0 0] (W4.setCell ⟨w.heap.size + 1, 8, none⟩ (.int .i64 sof))) := HG5
        generalize W4.setCell ⟨w.heap.size + 1, 8, none⟩ (.int .i64 sof) = W5 at HG5 ⊢
        clear HG4
        clear y8 z8
        clear P_of P_sof
        have y0 := cell_row (j := 0) HG5.out.box rfl
        have z0 := free_row (j := 0) HG5.out.box
        have p_nn := get_any W5 (.slice A m c) zs 32 4 (HV.out.below HG5.out.below) HBZ.out (by omega) (by omega) 32 4 rfl rfl
        rw [HX_nn.out, show IntKind.i64.wrap nn = nn by have := HL_nn.out; rw [IntKind.wrap_i64]; omega] at p_nn
        have P_nn := Lib.hid p_nn
        clear p_nn
        have P_snn := Lib.hid (minus_any W5 nn (by have := HL_nn.out; omega) (by have := HL_nn.out; omega))
        rw [HS_nn.out] at P_snn
        have y9 := cell_row (j := 9) HG5.out.box rfl
        have z9 := free_row (j := 9) HG5.out.box
        go_wp2_with (first | (go_at_call 43; (with_reducible refine P_nn.out.mono ?_); rintro e w' ⟨rfl, rfl⟩) | (go_at_call 59; (with_reducible refine P_snn.out.mono ?_); rintro e w' ⟨rfl, rfl⟩) | fail)
        have HG6 := Lib.hid (HG5.out.set1 9 (.int .i64 snn))
        go_meet
        exact ⟨.slice none 0 0, .slice none 0 0, Lib.hid (OB.nil _), Lib.hid (nil_far _), Lib.hid (OI.nil _), Lib.hid (nil_far _), HG6⟩
    by_cases h6 : op = 6
    · subst h6
      have hn_obj := gv_lo HBZ.out 8 3
      obtain ⟨obj, h_obj⟩ : ∃ y, gv zs 3 8 = y := ⟨_, rfl⟩
      rw [h_obj] at hn_obj
      have HX_obj := Lib.hid h_obj
      have HL_obj := Lib.hid hn_obj
      clear h_obj hn_obj
      have hn_lo := gv_lo HBZ.out 8 12
      obtain ⟨lo, h_lo⟩ : ∃ y, gv zs 12 8 = y := ⟨_, rfl⟩
      rw [h_lo] at hn_lo
      have HX_lo := Lib.hid h_lo
      have HL_lo := Lib.hid hn_lo
      clear h_lo hn_lo
      have hn_hi := gv_lo HBZ.out 8 20
      obtain ⟨hi, h_hi⟩ : ∃ y, gv zs 20 8 = y := ⟨_, rfl⟩
      rw [h_hi] at hn_hi
      have HX_hi := Lib.hid h_hi
      have HL_hi := Lib.hid hn_hi
      clear h_hi hn_hi
      obtain ⟨ob, h_ob⟩ : ∃ y, IntKind.i64.wrap obj = y := ⟨_, rfl⟩
      have HW_obj := Lib.hid h_ob
      clear h_ob
      have hn_g1 := gv_lo HBZ.out 1 11
      obtain ⟨g1, h_g1⟩ : ∃ y, gv zs 11 1 = y := ⟨_, rfl⟩
      rw [h_g1] at hn_g1
      have HX_g1 := Lib.hid h_g1
      have HL_g1 := Lib.hid hn_g1
      clear h_g1 hn_g1
      have hn_of := gv_lo HBZ.out 4 28
      obtain ⟨of, h_of⟩ : ∃ y, gv zs 28 4 = y := ⟨_, rfl⟩
      rw [h_of] at hn_of
      have HX_of := Lib.hid h_of
      have HL_of := Lib.hid hn_of
      clear h_of hn_of
      obtain ⟨sof, hs_of⟩ : ∃ y, sgn of = y := ⟨_, rfl⟩
      have HS_of := Lib.hid hs_of
      clear hs_of
      obtain ⟨tb, htb⟩ : ∃ b, decide (g1 = 1) = b := ⟨_, rfl⟩
      have HTB := Lib.hid htb
      clear htb
      obtain ⟨ys, hys⟩ : ∃ ys, zs.drop 32 = ys := ⟨_, rfl⟩
      have HYS := Lib.hid hys
      have hg' : guessC zs = { zc with op := 6, by' := by0, obj := ob, hi := hi, lo := lo, gv := tb, off := sof, da := ys } := by unfold guessC; rw [HOP.out]; simp [HBY.out, HX_obj.out, HX_lo.out, HX_hi.out, HW_obj.out, HX_g1.out, HX_of.out, HS_of.out, HTB.out, hys]
      clear hys
      rw [HGE.out] at hg'
      subst hg'
      have p_obj := get_any W1 (.slice A m c) zs 3 8 (HV.out.below HG1.out.below) HBZ.out (by omega) (by omega) 3 8 rfl rfl
      rw [HX_obj.out, HW_obj.out] at p_obj
      have P_obj := Lib.hid p_obj
      clear p_obj
      have p2 := dword_any W1 (.slice A m c) zs 12 (HV.out.below HG1.out.below) HBZ.out (by omega) 12 rfl
      rw [show (12 : Nat) + 8 = 20 from rfl, HX_hi.out, HX_lo.out] at p2
      have P2 := Lib.hid p2
      clear p2
      go_upto_region 15 with (first | (go_at_call 43; (with_reducible refine P_obj.out.mono ?_); rintro e w' ⟨rfl, rfl⟩) | (go_at_call 44; (with_reducible refine P2.out.mono ?_); rintro e W2 ⟨rfl, hb4⟩; have HG2 := Lib.hid (HG1.out.on hb4); have y3 := cell_row (j := 3) HG2.out.box rfl; have z3 := free_row (j := 3) HG2.out.box; have y4 := cell_row (j := 4) HG2.out.box rfl; have z4 := free_row (j := 4) HG2.out.box; have y5 := cell_row (j := 5) HG2.out.box rfl; have z5 := free_row (j := 5) HG2.out.box; clear hb4) | fail)
      have HG3 : Hid (GI w #[.int .i64 0, .int .i64 0, .int .i64 0, .int .i64 0, .int .u64 0, .int .u64 0, .bool false, .int .i64 0, .int .i64 0, .int .i64 0, .slice none 0 0, .int .i64 0, .slice none 0 0] 30 #[.int .i64 6, .int .i64 by0, .int .i64 0, .int .i64 ob, .int .u64 hi, .int .u64 lo, .bool false, .int .i64 0, .int .i64 0, .int .i64 0, .slice none 0 0, .int .i64 0, .slice none 0 0] (((W2.setCell ⟨w.heap.size + 1, 3, none⟩ (.int .i64 ob)).setCell ⟨w.heap.size + 1, 4, none⟩ (.int .u64 hi)).setCell ⟨w.heap.size + 1, 5, none⟩ (.int .u64 lo))) := Lib.hid (((HG2.out.set1 3 _).set1 4 _).set1 5 _)
      clear y3 y4 y5 z3 z4 z5
      generalize ((W2.setCell ⟨w.heap.size + 1, 3, none⟩ (.int .i64 ob)).setCell ⟨w.heap.size + 1, 4, none⟩ (.int .u64 hi)).setCell ⟨w.heap.size + 1, 5, none⟩ (.int .u64 lo) = W3 at HG3 ⊢
      clear HG1 HG2 P_obj P2
      have p_g1 := get_any W3 (.slice A m c) zs 11 1 (HV.out.below HG3.out.below) HBZ.out (by omega) (by omega) 11 1 rfl rfl
      rw [HX_g1.out, show IntKind.i64.wrap g1 = g1 by have := HL_g1.out; rw [IntKind.wrap_i64]; omega] at p_g1
      have P_g1 := Lib.hid p_g1
      clear p_g1
      have y6 := cell_row (j := 6) HG3.out.box rfl
      have z6 := free_row (j := 6) HG3.out.box
      have hcut2 : ∃ v : Bool, (g1 = 1 ∧ tb = true) ∨ (¬ g1 = 1 ∧ tb = false) := ⟨true, by have := HTB.out; by_cases h : g1 = 1; exact .inl ⟨h, by rw [← this]; exact decide_eq_true h⟩; exact .inr ⟨h, by rw [← this]; exact decide_eq_false h⟩⟩
      clear HTB
      obtain ⟨_, hcut2⟩ := hcut2
      rcases hcut2 with ⟨hg1, rfl⟩ | ⟨hg1, rfl⟩
      · skip
        have hq : (g1 == 1) = true := by simpa using hg1
        subst hg1
        go_upto_region 16 with (first | (go_at_call 43; (with_reducible refine P_g1.out.mono ?_); rintro e w' ⟨rfl, rfl⟩) | fail)
        have HG4 := Lib.hid (HG3.out.set1 6 (.bool true))
        replace HG4 : Hid (GI w #[.int .i64 0, .int .i64 0, .int .i64 0, .int .i64 0, .int .u64 0, .int .u64 0, .bool false, .int .i64 0, .int .i64 0, .int .i64 0, .slice none 0 0, .int .i64 0, .slice none 0 0] 30 #[.int .i64 6, .int .i64 by0, .int .i64 0, .int .i64 ob, .int .u64 hi, .int .u64 lo, .bool true, .int .i64 0, .int .i64 0, .int .i64 0, .slice none 0 0, .int .i64 0, .slice none 0 0] (W3.setCell ⟨w.heap.size + 1, 6, none⟩ (.bool true))) := HG4
        generalize W3.setCell ⟨w.heap.size + 1, 6, none⟩ (.bool true) = W4 at HG4 ⊢
        clear HG3
        clear y6 z6
        clear P_g1
        have p_of := get_any W4 (.slice A m c) zs 28 4 (HV.out.below HG4.out.below) HBZ.out (by omega) (by omega) 28 4 rfl rfl
        rw [HX_of.out, show IntKind.i64.wrap of = of by have := HL_of.out; rw [IntKind.wrap_i64]; omega] at p_of
        have P_of := Lib.hid p_of
        clear p_of
        have P_sof := Lib.hid (minus_any W4 of (by have := HL_of.out; omega) (by have := HL_of.out; omega))
        rw [HS_of.out] at P_sof
        have y8 := cell_row (j := 8) HG4.out.box rfl
        have z8 := free_row (j := 8) HG4.out.box
        go_upto_region 17 with (first | (go_at_call 43; (with_reducible refine P_of.out.mono ?_); rintro e w' ⟨rfl, rfl⟩) | (go_at_call 59; (with_reducible refine P_sof.out.mono ?_); rintro e w' ⟨rfl, rfl⟩) | fail)
        have HG5 := Lib.hid (HG4.out.set1 8 (.int .i64 sof))
        replace HG5 : Hid (GI w #[.int .i64 0, .int .i64 0, .int .i64 0, .int .i64 0, .int .u64 0, .int .u64 0, .bool false, .int .i64 0, .int .i64 0, .int .i64 0, .slice none 0 0, .int .i64 0, .slice none 0 0] 30 #[.int .i64 6, .int .i64 by0, .int .i64 0, .int .i64 ob, .int .u64 hi, .int .u64 lo, .bool true, .int .i64 0, .int .i64 sof, .int .i64 0, .slice none 0 0, .int .i64 0, .slice none 0 0] (W4.setCell ⟨w.heap.size + 1, 8, none⟩ (.int .i64 sof))) := HG5
        generalize W4.setCell ⟨w.heap.size + 1, 8, none⟩ (.int .i64 sof) = W5 at HG5 ⊢
        clear HG4
        clear y8 z8
        clear P_of P_sof
        have y0 := cell_row (j := 0) HG5.out.box rfl
        have z0 := free_row (j := 0) HG5.out.box
        by_cases hl : 32 < m
        rotate_left
        · have hl' : ¬ (32 : Int) < (m : Int) := by omega
          obtain rfl : ys = [] := by rw [← HYS.out]; exact List.drop_eq_nil_of_le (by rw [HM.out]; omega)
          go_wp2
          go_meet
          exact ⟨.slice none 0 0, .slice none 0 0, Lib.hid (OB.nil _), Lib.hid (nil_far _), Lib.hid (OI.nil _), Lib.hid (nil_far _), HG5⟩
        have hl' : (32 : Int) < (m : Int) := by omega
        obtain ⟨g, o, rfl⟩ := HA3.out (by omega)
        have HDR := Lib.hid ((HV.out.below HG5.out.below).dropK 32)
        have hdl : (zs.drop 32).length = m - 32 := by rw [List.length_drop, HM.out]
        rw [hdl] at HDR
        have HDL := Lib.hid hdl
        rw [HYS.out] at HDR HDL
        have hln := HLN.out
        rw [HM.out] at hln
        clear hdl
        have hc0 : ¬ c = 32 := by omega
        have hm1 : (32 : Int) ≤ (m : Int) := by omega
        have hm2 : (m : Int) ≤ (c : Int) := by omega
        have hm3 : 32 ≤ m := by omega
        have y10 := cell_row (j := 10) HG5.out.box rfl
        go_wp2_with fail
        go_still_tail 4, (by kernel_rfl)
        change wpList _ _ _ _ _ W5.drew
        have HGd : Hid (GI w #[.int .i64 0, .int .i64 0, .int .i64 0, .int .i64 0, .int .u64 0, .int .u64 0, .bool false, .int .i64 0, .int .i64 0, .int .i64 0, .slice none 0 0, .int .i64 0, .slice none 0 0] 30 #[.int .i64 6, .int .i64 by0, .int .i64 0, .int .i64 ob, .int .u64 hi, .int .u64 lo, .bool true, .int .i64 0, .int .i64 sof, .int .i64 0, .slice none 0 0, .int .i64 0, .slice none 0 0] W5.drew) := Lib.hid ⟨HG5.out.res, HG5.out.box, HG5.out.below.drew, HG5.out.size⟩
        have HDR2 : Hid (RB W5.drew (.slice (some ⟨g, o + 32, none⟩) (m - 32) (c - 32)) ys) := Lib.hid (HDR.out.below ((Below.refl _ W5).drew))
        generalize W5.drew = Wd at HGd HDR2 ⊢
        clear y0 z0 y10 HG5 HDR
        go_wp2_with (first | (at_builtin; refine list_app2 rfl (.tmp 63) (.tmp 65) 27 rfl 5 0 _ 1 1 Try.underlying27 info5 rfl (by decide) (by decide) (.slice none 0 0) 0 [] rfl (OB.nil Wd) (some ⟨g, o + 32, none⟩) (m - 32) (c - 32) (ys.map byteC) rfl (by rw [List.length_map, HDL.out, Nat.mul_one]) ((RB.holds HDR2.out).2) one8 (by omega) (Nat.zero_le _) ?_; intro v9 w9 hw1 hw2; obtain ⟨o9, b9, f9⟩ := app_r (w0 := Wd) (zs := []) (ys := ys) HDL.out (Below.refl _ _) (fresh_nil _) hw1 hw2; have HO9 := Lib.hid o9; have HF9 := Lib.hid f9; have HG9 := Lib.hid (HGd.out.on b9); obtain ⟨A9, n9, k9, rfl⟩ : ∃ A n c, v9 = .slice A n c := (by obtain ⟨A, c, e, _⟩ := own_slice o9; exact ⟨_, _, _, e⟩); have y9 := cell_row (j := 10) HG9.out.box rfl; have z9 := free_row (j := 10) HG9.out.box; clear hw1 hw2 o9 b9 f9) | fail)
        go_meet
        exact ⟨.slice A9 n9 k9, .slice none 0 0, Lib.hid (ob_at ((Kept.refl _ _).setCell (.inl (.inr rfl)) _) HO9.out (fun b hb => Nat.le_trans HGd.out.size (HF9.out b hb))), Lib.hid (fun b hb => Nat.le_trans HGd.out.size (HF9.out b hb)), Lib.hid (OI.nil _), Lib.hid (nil_far _), Lib.hid (HG9.out.set1 10 _)⟩
      · skip
        have hq : (g1 == 1) = false := by simpa using hg1
        go_upto_region 16 with (first | (go_at_call 43; (with_reducible refine P_g1.out.mono ?_); rintro e w' ⟨rfl, rfl⟩) | fail)
        have HG4 := Lib.hid (HG3.out.set1 6 (.bool false))
        replace HG4 : Hid (GI w #[.int .i64 0, .int .i64 0, .int .i64 0, .int .i64 0, .int .u64 0, .int .u64 0, .bool false, .int .i64 0, .int .i64 0, .int .i64 0, .slice none 0 0, .int .i64 0, .slice none 0 0] 30 #[.int .i64 6, .int .i64 by0, .int .i64 0, .int .i64 ob, .int .u64 hi, .int .u64 lo, .bool false, .int .i64 0, .int .i64 0, .int .i64 0, .slice none 0 0, .int .i64 0, .slice none 0 0] (W3.setCell ⟨w.heap.size + 1, 6, none⟩ (.bool false))) := HG4
        generalize W3.setCell ⟨w.heap.size + 1, 6, none⟩ (.bool false) = W4 at HG4 ⊢
        clear HG3
        clear y6 z6
        clear P_g1
        have p_of := get_any W4 (.slice A m c) zs 28 4 (HV.out.below HG4.out.below) HBZ.out (by omega) (by omega) 28 4 rfl rfl
        rw [HX_of.out, show IntKind.i64.wrap of = of by have := HL_of.out; rw [IntKind.wrap_i64]; omega] at p_of
        have P_of := Lib.hid p_of
        clear p_of
        have P_sof := Lib.hid (minus_any W4 of (by have := HL_of.out; omega) (by have := HL_of.out; omega))
        rw [HS_of.out] at P_sof
        have y8 := cell_row (j := 8) HG4.out.box rfl
        have z8 := free_row (j := 8) HG4.out.box
        go_upto_region 17 with (first | (go_at_call 43; (with_reducible refine P_of.out.mono ?_); rintro e w' ⟨rfl, rfl⟩) | (go_at_call 59; (with_reducible refine P_sof.out.mono ?_); rintro e w' ⟨rfl, rfl⟩) | fail)
        have HG5 := Lib.hid (HG4.out.set1 8 (.int .i64 sof))
        replace HG5 : Hid (GI w #[.int .i64 0, .int .i64 0, .int .i64 0, .int .i64 0, .int .u64 0, .int .u64 0, .bool false, .int .i64 0, .int .i64 0, .int .i64 0, .slice none 0 0, .int .i64 0, .slice none 0 0] 30 #[.int .i64 6, .int .i64 by0, .int .i64 0, .int .i64 ob, .int .u64 hi, .int .u64 lo, .bool false, .int .i64 0, .int .i64 sof, .int .i64 0, .slice none 0 0, .int .i64 0, .slice none 0 0] (W4.setCell ⟨w.heap.size + 1, 8, none⟩ (.int .i64 sof))) := HG5
        generalize W4.setCell ⟨w.heap.size + 1, 8, none⟩ (.int .i64 sof) = W5 at HG5 ⊢
        clear HG4
        clear y8 z8
        clear P_of P_sof
        have y0 := cell_row (j := 0) HG5.out.box rfl
        have z0 := free_row (j := 0) HG5.out.box
        by_cases hl : 32 < m
        rotate_left
        · have hl' : ¬ (32 : Int) < (m : Int) := by omega
          obtain rfl : ys = [] := by rw [← HYS.out]; exact List.drop_eq_nil_of_le (by rw [HM.out]; omega)
          go_wp2
          go_meet
          exact ⟨.slice none 0 0, .slice none 0 0, Lib.hid (OB.nil _), Lib.hid (nil_far _), Lib.hid (OI.nil _), Lib.hid (nil_far _), HG5⟩
        have hl' : (32 : Int) < (m : Int) := by omega
        obtain ⟨g, o, rfl⟩ := HA3.out (by omega)
        have HDR := Lib.hid ((HV.out.below HG5.out.below).dropK 32)
        have hdl : (zs.drop 32).length = m - 32 := by rw [List.length_drop, HM.out]
        rw [hdl] at HDR
        have HDL := Lib.hid hdl
        rw [HYS.out] at HDR HDL
        have hln := HLN.out
        rw [HM.out] at hln
        clear hdl
        have hc0 : ¬ c = 32 := by omega
        have hm1 : (32 : Int) ≤ (m : Int) := by omega
        have hm2 : (m : Int) ≤ (c : Int) := by omega
        have hm3 : 32 ≤ m := by omega
        have y10 := cell_row (j := 10) HG5.out.box rfl
        go_wp2_with fail
        go_still_tail 4, (by kernel_rfl)
        change wpList _ _ _ _ _ W5.drew
        have HGd : Hid (GI w #[.int .i64 0, .int .i64 0, .int .i64 0, .int .i64 0, .int .u64 0, .int .u64 0, .bool false, .int .i64 0, .int .i64 0, .int .i64 0, .slice none 0 0, .int .i64 0, .slice none 0 0] 30 #[.int .i64 6, .int .i64 by0, .int .i64 0, .int .i64 ob, .int .u64 hi, .int .u64 lo, .bool false, .int .i64 0, .int .i64 sof, .int .i64 0, .slice none 0 0, .int .i64 0, .slice none 0 0] W5.drew) := Lib.hid ⟨HG5.out.res, HG5.out.box, HG5.out.below.drew, HG5.out.size⟩
        have HDR2 : Hid (RB W5.drew (.slice (some ⟨g, o + 32, none⟩) (m - 32) (c - 32)) ys) := Lib.hid (HDR.out.below ((Below.refl _ W5).drew))
        generalize W5.drew = Wd at HGd HDR2 ⊢
        clear y0 z0 y10 HG5 HDR
        go_wp2_with (first | (at_builtin; refine list_app2 rfl (.tmp 63) (.tmp 65) 27 rfl 5 0 _ 1 1 Try.underlying27 info5 rfl (by decide) (by decide) (.slice none 0 0) 0 [] rfl (OB.nil Wd) (some ⟨g, o + 32, none⟩) (m - 32) (c - 32) (ys.map byteC) rfl (by rw [List.length_map, HDL.out, Nat.mul_one]) ((RB.holds HDR2.out).2) one8 (by omega) (Nat.zero_le _) ?_; intro v9 w9 hw1 hw2; obtain ⟨o9, b9, f9⟩ := app_r (w0 := Wd) (zs := []) (ys := ys) HDL.out (Below.refl _ _) (fresh_nil _) hw1 hw2; have HO9 := Lib.hid o9; have HF9 := Lib.hid f9; have HG9 := Lib.hid (HGd.out.on b9); obtain ⟨A9, n9, k9, rfl⟩ : ∃ A n c, v9 = .slice A n c := (by obtain ⟨A, c, e, _⟩ := own_slice o9; exact ⟨_, _, _, e⟩); have y9 := cell_row (j := 10) HG9.out.box rfl; have z9 := free_row (j := 10) HG9.out.box; clear hw1 hw2 o9 b9 f9) | fail)
        go_meet
        exact ⟨.slice A9 n9 k9, .slice none 0 0, Lib.hid (ob_at ((Kept.refl _ _).setCell (.inl (.inr rfl)) _) HO9.out (fun b hb => Nat.le_trans HGd.out.size (HF9.out b hb))), Lib.hid (fun b hb => Nat.le_trans HGd.out.size (HF9.out b hb)), Lib.hid (OI.nil _), Lib.hid (nil_far _), Lib.hid (HG9.out.set1 10 _)⟩
    by_cases h8 : op = 8
    · subst h8
      have hn_x := gv_lo HBZ.out 2 3
      obtain ⟨x, h_x⟩ : ∃ y, gv zs 3 2 = y := ⟨_, rfl⟩
      rw [h_x] at hn_x
      have HX_x := Lib.hid h_x
      have HL_x := Lib.hid hn_x
      clear h_x hn_x
      have hg' : guessC zs = { zc with op := 8, by' := by0, ix := x } := by unfold guessC; rw [HOP.out]; simp [HBY.out, HX_x.out]
      rw [HGE.out] at hg'
      subst hg'
      have p_x := get_any W1 (.slice A m c) zs 3 2 (HV.out.below HG1.out.below) HBZ.out (by omega) (by omega) 3 2 rfl rfl
      rw [HX_x.out, show IntKind.i64.wrap x = x by have := HL_x.out; rw [IntKind.wrap_i64]; omega] at p_x
      have P_x := Lib.hid p_x
      clear p_x
      have y11 := cell_row (j := 11) HG1.out.box rfl
      have z11 := free_row (j := 11) HG1.out.box
      go_wp2_with (first | (go_at_call 43; (with_reducible refine P_x.out.mono ?_); rintro e w' ⟨rfl, rfl⟩) | fail)
      have HG2 := Lib.hid (HG1.out.set1 11 (.int .i64 x))
      go_meet
      exact ⟨.slice none 0 0, .slice none 0 0, Lib.hid (OB.nil _), Lib.hid (nil_far _), Lib.hid (OI.nil _), Lib.hid (nil_far _), HG2⟩
    by_cases h9 : op = 9
    · subst h9
      have hn_x := gv_lo HBZ.out 1 3
      obtain ⟨x, h_x⟩ : ∃ y, gv zs 3 1 = y := ⟨_, rfl⟩
      rw [h_x] at hn_x
      have HX_x := Lib.hid h_x
      have HL_x := Lib.hid hn_x
      clear h_x hn_x
      obtain ⟨n, rfl⟩ : ∃ n : Nat, x = (n : Int) := ⟨x.toNat, by have := HL_x.out; omega⟩
      have hnn : n < 256 := by have := HL_x.out; omega
      have hg' : guessC zs = { zc with op := 9, by' := by0, gi := (List.range n).map fun i => gv zs (4 + 2 * i) 2 } := by unfold guessC; rw [HOP.out]; simp [HBY.out, HX_x.out]
      rw [HGE.out] at hg'
      subst hg'
      clear HL_x
      go_wp2_with fail
      go_loopw [4] (fun v4 we => ∃ (k : Nat) (Ag : Option Addr) (cg : Nat), k ≤ n ∧ v4 = .int .i64 (k : Int) ∧ Hid (OI we (.slice Ag k cg) ((List.range k).map fun i => gv zs (4 + 2 * i) 2)) ∧ Hid (∀ b, (Value.slice Ag k cg).ownBlock = some b → w.heap.size + 2 ≤ b) ∧ Hid (GI w #[.int .i64 0, .int .i64 0, .int .i64 0, .int .i64 0, .int .u64 0, .int .u64 0, .bool false, .int .i64 0, .int .i64 0, .int .i64 0, .slice none 0 0, .int .i64 0, .slice none 0 0] 30 #[.int .i64 9, .int .i64 by0, .int .i64 0, .int .i64 0, .int .u64 0, .int .u64 0, .bool false, .int .i64 0, .int .i64 0, .int .i64 0, .slice none 0 0, .int .i64 0, .slice Ag k cg] we)) (fun v4 _ => n - (intOf v4).toNat)
      case atStart => exact ⟨0, none, 0, Nat.zero_le _, rfl, Lib.hid (OI.nil _), Lib.hid (nil_far _), HG1⟩
      case round =>
        obtain ⟨k, Ag, cg, hk, rfl, HO, HF, HG⟩ := hrel
        have pc := get_any wr (.slice A m c) zs 3 1 (HV.out.below HG.out.below) HBZ.out (by omega) (by omega) 3 1 rfl rfl
        rw [HX_x.out, show IntKind.i64.wrap (n : Int) = (n : Int) by rw [IntKind.wrap_i64]; omega] at pc
        have PC := Lib.hid pc
        clear pc
        by_cases hlt : k < n
        · have hlt' : (k : Int) < (n : Int) := by omega
          have hw1 : IntKind.i64.wrap (2 * (k : Int)) = 2 * (k : Int) := by rw [IntKind.wrap_i64]; omega
          have hw2 : IntKind.i64.wrap (4 + 2 * (k : Int)) = 4 + 2 * (k : Int) := by rw [IntKind.wrap_i64]; omega
          have hw3 : IntKind.i64.wrap ((k : Int) + 1) = (k : Int) + 1 := by rw [IntKind.wrap_i64]; omega
          have pg := get_any wr.drew (.slice A m c) zs (4 + 2 * k) 2 (HV.out.below HG.out.below.drew) HBZ.out (by omega) (by omega) (4 + 2 * (k : Int)) 2 (by omega) rfl
          have hu := gv_lo HBZ.out 2 (4 + 2 * k)
          obtain ⟨u, hue⟩ : ∃ u, gv zs (4 + 2 * k) 2 = u := ⟨_, rfl⟩
          have HUE := Lib.hid hue
          rw [hue] at pg hu
          rw [show IntKind.i64.wrap u = u by rw [IntKind.wrap_i64]; omega] at pg
          have PG := Lib.hid pg
          have y12 := cell_row (j := 12) HG.out.box rfl
          clear pg hue hu
          go_wp2_with (first | (go_at_call 43; (with_reducible refine PC.out.mono ?_); rintro e w' ⟨rfl, rfl⟩) | fail)
          have HGd : Hid (GI w #[.int .i64 0, .int .i64 0, .int .i64 0, .int .i64 0, .int .u64 0, .int .u64 0, .bool false, .int .i64 0, .int .i64 0, .int .i64 0, .slice none 0 0, .int .i64 0, .slice none 0 0] 30 #[.int .i64 9, .int .i64 by0, .int .i64 0, .int .i64 0, .int .u64 0, .int .u64 0, .bool false, .int .i64 0, .int .i64 0, .int .i64 0, .slice none 0 0, .int .i64 0, .slice Ag k cg] wr.drew) := Lib.hid ⟨HG.out.res, HG.out.box, HG.out.below.drew, HG.out.size⟩
          have HOd : Hid (OI wr.drew (.slice Ag k cg) ((List.range k).map fun i => gv zs (4 + 2 * i) 2)) := Lib.hid (own_keeps HO.out (Kept.of_below (Below.refl _ wr).drew))
          clear PC y12 HG HO
          generalize hwd : wr.drew = Wd at HGd HOd PG
          have hbl : Below Wd.heap.size Wd (Wd.alloc (.cells #[.int .i64 u] 3)) := (Below.refl _ _).alloc (Nat.le_refl _) _
          have HGe := Lib.hid (HGd.out.on hbl)
          have HOe : Hid (OI (Wd.alloc (.cells #[.int .i64 u] 3)) (.slice Ag k cg) ((List.range k).map fun i => gv zs (4 + 2 * i) 2)) := Lib.hid (own_keeps HOd.out (Kept.of_below hbl))
          obtain ⟨ls, hls⟩ : ∃ ls, ((List.range k).map fun i => gv zs (4 + 2 * i) 2) = ls := ⟨_, rfl⟩
          have hlk : ls.length = k := by rw [← hls]; simp
          rw [hls] at HOe
          have HLS := Lib.hid hls
          have HLK := Lib.hid hlk
          have HOf : Hid ((Wd.alloc (.cells #[.int .i64 u] 3)).ownsRow 0 3 1 (.slice Ag k cg) k (ls.map numC)) := Lib.hid (by have := HOe.out; unfold OI at this; rw [hlk] at this; exact this)
          clear hbl HOd hls hlk
          refine wp_region_noPanic ?_
          refine wp_region_held_drew (S := fun _ => True) (by kernel_rfl) (trivial) (fun hHeld => ?_)
          rw [hwd]
          refine wpAnyH_take (i := 0) (oi := { dst := some 81, op := Go.Op.fieldAddr 30 (Go.Operand.tmp 3) 10, type := 0, pos := "ref.go:189", after := #[], guard := none }) (v := ?_) rfl (by kernel_rfl) (by kernel_rfl) (by kernel_rfl) (fun _ _ _ h => h) (Or.inl ⟨by rfl, ?hy0_1⟩) (by assumption) ?rest0_1
          case hy0_1 => (intro w hSw; go_simp; try with_reducible rfl)
          try simp only [Act.put, List.setIfInBounds_toArray, List.set_cons_zero, List.set_cons_succ]
          refine wpAnyH_take (i := 2) (oi := { dst := some 83, op := Go.Op.move (Go.Operand.tmp 0), type := 27, pos := "ref.go:189", after := #[], guard := none }) (v := ?_) rfl (by kernel_rfl) (by kernel_rfl) (by kernel_rfl) (fun _ _ _ h => h) (Or.inl ⟨by rfl, ?hy2_2⟩) (by assumption) ?rest2_2
          case hy2_2 => (intro w hSw; go_simp; try with_reducible rfl)
          try simp only [Act.put, List.setIfInBounds_toArray, List.set_cons_zero, List.set_cons_succ]
          refine wpAnyH_take (i := 3) (oi := { dst := some 84, op := Go.Op.move (Go.Operand.tmp 4), type := 3, pos := "ref.go:189", after := #[], guard := none }) (v := ?_) rfl (by kernel_rfl) (by kernel_rfl) (by kernel_rfl) (fun _ _ _ h => h) (Or.inl ⟨by rfl, ?hy3_3⟩) (by assumption) ?rest3_3
          case hy3_3 => (intro w hSw; go_simp; try with_reducible rfl)
          try simp only [Act.put, List.setIfInBounds_toArray, List.set_cons_zero, List.set_cons_succ]
          refine wpAnyH_take (i := 4) (oi := { dst := some 85, op := Go.Op.binOp Go.BinOp.mul 3 (Go.Operand.const (Go.Value.int Go.IntKind.i64 2)) (Go.Operand.tmp 84) 3, type := 3, pos := "ref.go:189", after := #[{ on := 3, ground := Go.Ground.data }], guard := none }) (v := ?_) rfl (by kernel_rfl) (by kernel_rfl) (by kernel_rfl) (fun _ _ _ h => h) (Or.inl ⟨by rfl, ?hy4_4⟩) (by assumption) ?rest4_4
          case hy4_4 => (intro w hSw; go_simp; try with_reducible rfl)
          try simp only [Act.put, List.setIfInBounds_toArray, List.set_cons_zero, List.set_cons_succ]
          refine wpAnyH_take (i := 5) (oi := { dst := some 86, op := Go.Op.binOp Go.BinOp.add 3 (Go.Operand.const (Go.Value.int Go.IntKind.i64 4)) (Go.Operand.tmp 85) 3, type := 3, pos := "ref.go:189", after := #[{ on := 4, ground := Go.Ground.data }], guard := none }) (v := ?_) rfl (by kernel_rfl) (by kernel_rfl) (by kernel_rfl) (fun _ _ _ h => h) (Or.inl ⟨by rfl, ?hy5_5⟩) (by assumption) ?rest5_5
          case hy5_5 => (intro w hSw; go_simp; try with_reducible rfl)
          try simp only [Act.put, List.setIfInBounds_toArray, List.set_cons_zero, List.set_cons_succ]
          refine wpAnyH_ready (rs := [1, 6]) (by kernel_rfl) (by simp) ?_
          refine AllReadyH.cons (o := { dst := some 82, op := Go.Op.load 28 (Go.Operand.tmp 81), type := 28, pos := "ref.go:189", after := #[{ on := 0, ground := Go.Ground.data }], guard := none }) rfl (fun K hK => ?_) (AllReadyH.cons (o := { dst := some 87, op := Go.Op.call { callee := Go.Callee.value (Go.Operand.func 43), args := #[Go.Operand.tmp 83, Go.Operand.tmp 86, Go.Operand.const (Go.Value.int Go.IntKind.i64 2)], argTypes := #[27, 3, 3] }, type := 3, pos := "ref.go:189", after := #[{ on := 2, ground := Go.Ground.data }, { on := 5, ground := Go.Ground.data }], guard := none }) rfl (fun K hK => ?_) AllReadyH.nil)
          · have yG := cell_row (j := 12) HGd.out.box rfl
            go_simp
            clear yG
            refine hK.out _ _ (trivial) (fun hHeld2 => ?_)
            clear hK K hHeld
            have hHeld := hHeld2
            clear hHeld2
            try simp only [Act.put, List.setIfInBounds_toArray, List.set_cons_zero, List.set_cons_succ]
            refine wpAnyH_ready (rs := [6]) (by kernel_rfl) (by simp) ?_
            refine AllReadyH.cons (o := { dst := some 87, op := Go.Op.call { callee := Go.Callee.value (Go.Operand.func 43), args := #[Go.Operand.tmp 83, Go.Operand.tmp 86, Go.Operand.const (Go.Value.int Go.IntKind.i64 2)], argTypes := #[27, 3, 3] }, type := 3, pos := "ref.go:189", after := #[{ on := 2, ground := Go.Ground.data }, { on := 5, ground := Go.Ground.data }], guard := none }) rfl (fun K hK => ?_) AllReadyH.nil
            go_simp
            go_at_call 43
            refine PG.out.mono ?_
            rintro e w' ⟨rfl, rfl⟩
            refine hK.out _ _ (trivial) (fun hHeld2 => ?_)
            clear hK K hHeld
            have hHeld := hHeld2
            clear hHeld2
            try simp only [Act.put, List.setIfInBounds_toArray, List.set_cons_zero, List.set_cons_succ]
            refine wpAnyH_ready (rs := [7]) (by kernel_rfl) (by simp) ?_
            refine AllReadyH.cons (o := { dst := some 88, op := Go.Op.buildSlice 28 1 #[(0, Go.Operand.tmp 87)], type := 28, pos := "ref.go:189", after := #[{ on := 6, ground := Go.Ground.data }], guard := none }) rfl (fun K hK => ?_) AllReadyH.nil
            go_simp
            refine hK.out _ _ (trivial) (fun hHeld2 => ?_)
            clear hK K hHeld
            have hHeld := hHeld2
            clear hHeld2
            try simp only [Act.put, List.setIfInBounds_toArray, List.set_cons_zero, List.set_cons_succ]
            refine wpAnyH_ready (rs := [8]) (by kernel_rfl) (by simp) ?_
            refine AllReadyH.cons (o := { dst := some 89, op := Go.Op.call { callee := Go.Callee.builtin Go.Builtin.append, args := #[Go.Operand.tmp 82, Go.Operand.tmp 88], argTypes := #[28, 28] }, type := 28, pos := "ref.go:189", after := #[{ on := 1, ground := Go.Ground.data }, { on := 7, ground := Go.Ground.data }, { on := 6, ground := Go.Ground.chain }], guard := none }) rfl (fun K hK => ?_) AllReadyH.nil
            refine step_app2 rfl (.tmp 82) (.tmp 88) 28 rfl 3 0 _ 1 8 Try.underlying28 info3 rfl (by decide) (by decide) (.slice Ag k cg) k (ls.map numC) (by rfl) HOf.out (some ⟨Wd.heap.size, 0, none⟩) 1 1 [.int .i64 u] (by rfl) rfl (holds_new _ _ _ _ _ rfl) ?_ (by omega) (Nat.zero_le _) ?_
            focus (intro x hx; obtain rfl := List.mem_singleton.1 hx; rfl)
            intro v9 w9 hown hwent
            have HOW := Lib.hid hown
            have HG9 := Lib.hid (HGe.out.far hwent.kept (fun b hb => HF.out b hb))
            have HF9 : Hid (∀ b, v9.ownBlock = some b → w.heap.size + 2 ≤ b) := Lib.hid (went_bound HF.out HGe.out.size hwent)
            obtain ⟨A2, c2, rfl, _⟩ := own_slice hown
            clear hown hwent
            refine hK.out _ _ (trivial) (fun hHeld2 => ?_)
            clear hK K hHeld
            have hHeld := hHeld2
            clear hHeld2
            try simp only [Act.put, List.setIfInBounds_toArray, List.set_cons_zero, List.set_cons_succ]
            refine wpAnyH_take (i := 9) (oi := { dst := some 90, op := Go.Op.fieldAddr 30 (Go.Operand.tmp 3) 10, type := 0, pos := "ref.go:189", after := #[{ on := 0, ground := Go.Ground.phase }, { on := 1, ground := Go.Ground.phase }, { on := 2, ground := Go.Ground.phase }, { on := 3, ground := Go.Ground.phase }, { on := 4, ground := Go.Ground.phase }, { on := 5, ground := Go.Ground.phase }, { on := 6, ground := Go.Ground.phase }, { on := 7, ground := Go.Ground.phase }, { on := 8, ground := Go.Ground.phase }], guard := none }) (v := ?_) rfl (by kernel_rfl) (by kernel_rfl) (by kernel_rfl) (fun _ _ _ h => h) (Or.inl ⟨by rfl, ?hy9_6⟩) (by assumption) ?rest9_6
            case hy9_6 => (intro w hSw; go_simp; try with_reducible rfl)
            try simp only [Act.put, List.setIfInBounds_toArray, List.set_cons_zero, List.set_cons_succ]
            refine wpAnyH_ready (rs := [10]) (by kernel_rfl) (by simp) ?_
            refine AllReadyH.cons (o := { dst := none, op := Go.Op.store 28 (Go.Operand.tmp 90) (Go.Operand.tmp 89), type := 0, pos := "ref.go:189", after := #[{ on := 9, ground := Go.Ground.data }, { on := 8, ground := Go.Ground.data }, { on := 8, ground := Go.Ground.chain }, { on := 0, ground := Go.Ground.phase }, { on := 1, ground := Go.Ground.phase }, { on := 2, ground := Go.Ground.phase }, { on := 3, ground := Go.Ground.phase }, { on := 4, ground := Go.Ground.phase }, { on := 5, ground := Go.Ground.phase }, { on := 6, ground := Go.Ground.phase }, { on := 7, ground := Go.Ground.phase }, { on := 8, ground := Go.Ground.phase }], guard := none }) rfl (fun K hK => ?_) AllReadyH.nil
            have yG := cell_row (j := 12) HG9.out.box rfl
            have zG := free_row (j := 12) HG9.out.box
            go_simp
            clear yG zG
            refine hK.out _ _ (trivial) (fun hHeld2 => ?_)
            clear hK K hHeld
            have hHeld := hHeld2
            clear hHeld2
            try simp only [Act.put, List.setIfInBounds_toArray, List.set_cons_zero, List.set_cons_succ]
            refine wpAnyH_done (by kernel_rfl) ?_ _
            refine NoPanic.normal ?_
            try simp only [Act.put, List.setIfInBounds_toArray, List.set_cons_zero, List.set_cons_succ]
            go_wp2
            have KO : OI w9 (.slice A2 (k + 1) c2) ((List.range (k + 1)).map fun i => gv zs (4 + 2 * i) 2) := by
              unfold OI
              rw [List.range_succ, List.map_append, HLS.out, List.length_append, HLK.out, List.map_append, List.map_cons, HUE.out]
              exact HOW.out
            exact ⟨⟨k + 1, A2, c2, by omega, by first | rfl | simp, Lib.hid (oi_at ((Kept.refl _ _).setCell (.inl (.inr rfl)) _) KO HF9.out), HF9, Lib.hid (HG9.out.set1 12 _)⟩, by simp [intOf] <;> omega⟩
          · go_simp
            go_at_call 43
            refine PG.out.mono ?_
            rintro e w' ⟨rfl, rfl⟩
            refine hK.out _ _ (trivial) (fun hHeld2 => ?_)
            clear hK K hHeld
            have hHeld := hHeld2
            clear hHeld2
            try simp only [Act.put, List.setIfInBounds_toArray, List.set_cons_zero, List.set_cons_succ]
            refine wpAnyH_ready (rs := [1, 7]) (by kernel_rfl) (by simp) ?_
            refine AllReadyH.cons (o := { dst := some 82, op := Go.Op.load 28 (Go.Operand.tmp 81), type := 28, pos := "ref.go:189", after := #[{ on := 0, ground := Go.Ground.data }], guard := none }) rfl (fun K hK => ?_) (AllReadyH.cons (o := { dst := some 88, op := Go.Op.buildSlice 28 1 #[(0, Go.Operand.tmp 87)], type := 28, pos := "ref.go:189", after := #[{ on := 6, ground := Go.Ground.data }], guard := none }) rfl (fun K hK => ?_) AllReadyH.nil)
            · have yG := cell_row (j := 12) HGd.out.box rfl
              go_simp
              clear yG
              refine hK.out _ _ (trivial) (fun hHeld2 => ?_)
              clear hK K hHeld
              have hHeld := hHeld2
              clear hHeld2
              try simp only [Act.put, List.setIfInBounds_toArray, List.set_cons_zero, List.set_cons_succ]
              refine wpAnyH_ready (rs := [7]) (by kernel_rfl) (by simp) ?_
              refine AllReadyH.cons (o := { dst := some 88, op := Go.Op.buildSlice 28 1 #[(0, Go.Operand.tmp 87)], type := 28, pos := "ref.go:189", after := #[{ on := 6, ground := Go.Ground.data }], guard := none }) rfl (fun K hK => ?_) AllReadyH.nil
              go_simp
              refine hK.out _ _ (trivial) (fun hHeld2 => ?_)
              clear hK K hHeld
              have hHeld := hHeld2
              clear hHeld2
              try simp only [Act.put, List.setIfInBounds_toArray, List.set_cons_zero, List.set_cons_succ]
              refine wpAnyH_ready (rs := [8]) (by kernel_rfl) (by simp) ?_
              refine AllReadyH.cons (o := { dst := some 89, op := Go.Op.call { callee := Go.Callee.builtin Go.Builtin.append, args := #[Go.Operand.tmp 82, Go.Operand.tmp 88], argTypes := #[28, 28] }, type := 28, pos := "ref.go:189", after := #[{ on := 1, ground := Go.Ground.data }, { on := 7, ground := Go.Ground.data }, { on := 6, ground := Go.Ground.chain }], guard := none }) rfl (fun K hK => ?_) AllReadyH.nil
              refine step_app2 rfl (.tmp 82) (.tmp 88) 28 rfl 3 0 _ 1 8 Try.underlying28 info3 rfl (by decide) (by decide) (.slice Ag k cg) k (ls.map numC) (by rfl) HOf.out (some ⟨Wd.heap.size, 0, none⟩) 1 1 [.int .i64 u] (by rfl) rfl (holds_new _ _ _ _ _ rfl) ?_ (by omega) (Nat.zero_le _) ?_
              focus (intro x hx; obtain rfl := List.mem_singleton.1 hx; rfl)
              intro v9 w9 hown hwent
              have HOW := Lib.hid hown
              have HG9 := Lib.hid (HGe.out.far hwent.kept (fun b hb => HF.out b hb))
              have HF9 : Hid (∀ b, v9.ownBlock = some b → w.heap.size + 2 ≤ b) := Lib.hid (went_bound HF.out HGe.out.size hwent)
              obtain ⟨A2, c2, rfl, _⟩ := own_slice hown
              clear hown hwent
              refine hK.out _ _ (trivial) (fun hHeld2 => ?_)
              clear hK K hHeld
              have hHeld := hHeld2
              clear hHeld2
              try simp only [Act.put, List.setIfInBounds_toArray, List.set_cons_zero, List.set_cons_succ]
              refine wpAnyH_take (i := 9) (oi := { dst := some 90, op := Go.Op.fieldAddr 30 (Go.Operand.tmp 3) 10, type := 0, pos := "ref.go:189", after := #[{ on := 0, ground := Go.Ground.phase }, { on := 1, ground := Go.Ground.phase }, { on := 2, ground := Go.Ground.phase }, { on := 3, ground := Go.Ground.phase }, { on := 4, ground := Go.Ground.phase }, { on := 5, ground := Go.Ground.phase }, { on := 6, ground := Go.Ground.phase }, { on := 7, ground := Go.Ground.phase }, { on := 8, ground := Go.Ground.phase }], guard := none }) (v := ?_) rfl (by kernel_rfl) (by kernel_rfl) (by kernel_rfl) (fun _ _ _ h => h) (Or.inl ⟨by rfl, ?hy9_7⟩) (by assumption) ?rest9_7
              case hy9_7 => (intro w hSw; go_simp; try with_reducible rfl)
              try simp only [Act.put, List.setIfInBounds_toArray, List.set_cons_zero, List.set_cons_succ]
              refine wpAnyH_ready (rs := [10]) (by kernel_rfl) (by simp) ?_
              refine AllReadyH.cons (o := { dst := none, op := Go.Op.store 28 (Go.Operand.tmp 90) (Go.Operand.tmp 89), type := 0, pos := "ref.go:189", after := #[{ on := 9, ground := Go.Ground.data }, { on := 8, ground := Go.Ground.data }, { on := 8, ground := Go.Ground.chain }, { on := 0, ground := Go.Ground.phase }, { on := 1, ground := Go.Ground.phase }, { on := 2, ground := Go.Ground.phase }, { on := 3, ground := Go.Ground.phase }, { on := 4, ground := Go.Ground.phase }, { on := 5, ground := Go.Ground.phase }, { on := 6, ground := Go.Ground.phase }, { on := 7, ground := Go.Ground.phase }, { on := 8, ground := Go.Ground.phase }], guard := none }) rfl (fun K hK => ?_) AllReadyH.nil
              have yG := cell_row (j := 12) HG9.out.box rfl
              have zG := free_row (j := 12) HG9.out.box
              go_simp
              clear yG zG
              refine hK.out _ _ (trivial) (fun hHeld2 => ?_)
              clear hK K hHeld
              have hHeld := hHeld2
              clear hHeld2
              try simp only [Act.put, List.setIfInBounds_toArray, List.set_cons_zero, List.set_cons_succ]
              refine wpAnyH_done (by kernel_rfl) ?_ _
              refine NoPanic.normal ?_
              try simp only [Act.put, List.setIfInBounds_toArray, List.set_cons_zero, List.set_cons_succ]
              go_wp2
              have KO : OI w9 (.slice A2 (k + 1) c2) ((List.range (k + 1)).map fun i => gv zs (4 + 2 * i) 2) := by
                unfold OI
                rw [List.range_succ, List.map_append, HLS.out, List.length_append, HLK.out, List.map_append, List.map_cons, HUE.out]
                exact HOW.out
              exact ⟨⟨k + 1, A2, c2, by omega, by first | rfl | simp, Lib.hid (oi_at ((Kept.refl _ _).setCell (.inl (.inr rfl)) _) KO HF9.out), HF9, Lib.hid (HG9.out.set1 12 _)⟩, by simp [intOf] <;> omega⟩
            · go_simp
              refine hK.out _ _ (trivial) (fun hHeld2 => ?_)
              clear hK K hHeld
              have hHeld := hHeld2
              clear hHeld2
              try simp only [Act.put, List.setIfInBounds_toArray, List.set_cons_zero, List.set_cons_succ]
              refine wpAnyH_ready (rs := [1]) (by kernel_rfl) (by simp) ?_
              refine AllReadyH.cons (o := { dst := some 82, op := Go.Op.load 28 (Go.Operand.tmp 81), type := 28, pos := "ref.go:189", after := #[{ on := 0, ground := Go.Ground.data }], guard := none }) rfl (fun K hK => ?_) AllReadyH.nil
              have yG := cell_row (j := 12) HGe.out.box rfl
              go_simp
              clear yG
              refine hK.out _ _ (trivial) (fun hHeld2 => ?_)
              clear hK K hHeld
              have hHeld := hHeld2
              clear hHeld2
              try simp only [Act.put, List.setIfInBounds_toArray, List.set_cons_zero, List.set_cons_succ]
              refine wpAnyH_ready (rs := [8]) (by kernel_rfl) (by simp) ?_
              refine AllReadyH.cons (o := { dst := some 89, op := Go.Op.call { callee := Go.Callee.builtin Go.Builtin.append, args := #[Go.Operand.tmp 82, Go.Operand.tmp 88], argTypes := #[28, 28] }, type := 28, pos := "ref.go:189", after := #[{ on := 1, ground := Go.Ground.data }, { on := 7, ground := Go.Ground.data }, { on := 6, ground := Go.Ground.chain }], guard := none }) rfl (fun K hK => ?_) AllReadyH.nil
              refine step_app2 rfl (.tmp 82) (.tmp 88) 28 rfl 3 0 _ 1 8 Try.underlying28 info3 rfl (by decide) (by decide) (.slice Ag k cg) k (ls.map numC) (by rfl) HOf.out (some ⟨Wd.heap.size, 0, none⟩) 1 1 [.int .i64 u] (by rfl) rfl (holds_new _ _ _ _ _ rfl) ?_ (by omega) (Nat.zero_le _) ?_
              focus (intro x hx; obtain rfl := List.mem_singleton.1 hx; rfl)
              intro v9 w9 hown hwent
              have HOW := Lib.hid hown
              have HG9 := Lib.hid (HGe.out.far hwent.kept (fun b hb => HF.out b hb))
              have HF9 : Hid (∀ b, v9.ownBlock = some b → w.heap.size + 2 ≤ b) := Lib.hid (went_bound HF.out HGe.out.size hwent)
              obtain ⟨A2, c2, rfl, _⟩ := own_slice hown
              clear hown hwent
              refine hK.out _ _ (trivial) (fun hHeld2 => ?_)
              clear hK K hHeld
              have hHeld := hHeld2
              clear hHeld2
              try simp only [Act.put, List.setIfInBounds_toArray, List.set_cons_zero, List.set_cons_succ]
              refine wpAnyH_take (i := 9) (oi := { dst := some 90, op := Go.Op.fieldAddr 30 (Go.Operand.tmp 3) 10, type := 0, pos := "ref.go:189", after := #[{ on := 0, ground := Go.Ground.phase }, { on := 1, ground := Go.Ground.phase }, { on := 2, ground := Go.Ground.phase }, { on := 3, ground := Go.Ground.phase }, { on := 4, ground := Go.Ground.phase }, { on := 5, ground := Go.Ground.phase }, { on := 6, ground := Go.Ground.phase }, { on := 7, ground := Go.Ground.phase }, { on := 8, ground := Go.Ground.phase }], guard := none }) (v := ?_) rfl (by kernel_rfl) (by kernel_rfl) (by kernel_rfl) (fun _ _ _ h => h) (Or.inl ⟨by rfl, ?hy9_8⟩) (by assumption) ?rest9_8
              case hy9_8 => (intro w hSw; go_simp; try with_reducible rfl)
              try simp only [Act.put, List.setIfInBounds_toArray, List.set_cons_zero, List.set_cons_succ]
              refine wpAnyH_ready (rs := [10]) (by kernel_rfl) (by simp) ?_
              refine AllReadyH.cons (o := { dst := none, op := Go.Op.store 28 (Go.Operand.tmp 90) (Go.Operand.tmp 89), type := 0, pos := "ref.go:189", after := #[{ on := 9, ground := Go.Ground.data }, { on := 8, ground := Go.Ground.data }, { on := 8, ground := Go.Ground.chain }, { on := 0, ground := Go.Ground.phase }, { on := 1, ground := Go.Ground.phase }, { on := 2, ground := Go.Ground.phase }, { on := 3, ground := Go.Ground.phase }, { on := 4, ground := Go.Ground.phase }, { on := 5, ground := Go.Ground.phase }, { on := 6, ground := Go.Ground.phase }, { on := 7, ground := Go.Ground.phase }, { on := 8, ground := Go.Ground.phase }], guard := none }) rfl (fun K hK => ?_) AllReadyH.nil
              have yG := cell_row (j := 12) HG9.out.box rfl
              have zG := free_row (j := 12) HG9.out.box
              go_simp
              clear yG zG
              refine hK.out _ _ (trivial) (fun hHeld2 => ?_)
              clear hK K hHeld
              have hHeld := hHeld2
              clear hHeld2
              try simp only [Act.put, List.setIfInBounds_toArray, List.set_cons_zero, List.set_cons_succ]
              refine wpAnyH_done (by kernel_rfl) ?_ _
              refine NoPanic.normal ?_
              try simp only [Act.put, List.setIfInBounds_toArray, List.set_cons_zero, List.set_cons_succ]
              go_wp2
              have KO : OI w9 (.slice A2 (k + 1) c2) ((List.range (k + 1)).map fun i => gv zs (4 + 2 * i) 2) := by
                unfold OI
                rw [List.range_succ, List.map_append, HLS.out, List.length_append, HLK.out, List.map_append, List.map_cons, HUE.out]
                exact HOW.out
              exact ⟨⟨k + 1, A2, c2, by omega, by first | rfl | simp, Lib.hid (oi_at ((Kept.refl _ _).setCell (.inl (.inr rfl)) _) KO HF9.out), HF9, Lib.hid (HG9.out.set1 12 _)⟩, by simp [intOf] <;> omega⟩
        · have hkn : k = n := by omega
          subst hkn
          go_wp2_with (first | (go_at_call 43; (with_reducible refine PC.out.mono ?_); rintro e w' ⟨rfl, rfl⟩) | fail)
          go_meet
          exact ⟨.slice none 0 0, _, Lib.hid (OB.nil _), Lib.hid (nil_far _), HO, HF, HG⟩
    have hg' : guessC zs = { zc with op := op, by' := by0 } := by unfold guessC; rw [HOP.out]; simp [HBY.out, h1, h2, h3, h4, h5, h6, h7, h8, h9]
    rw [HGE.out] at hg'
    subst hg'
    go_wp2
    go_meet
    exact ⟨.slice none 0 0, .slice none 0 0, Lib.hid (OB.nil _), Lib.hid (nil_far _), Lib.hid (OI.nil _), Lib.hid (nil_far _), HG1⟩
  obtain ⟨D, G, HD, HFD, HI, HFG, HG⟩ := hcut
  have FN := Lib.hid (HG.out.fin (cells K D G))
  go_wp2_with (first | (refine wpList_load_row rfl 30 (.tmp 3) rfl (w.heap.size + 1) 30 (cells K D G) (0, 0) _ rfl HG.out.box Try.underlying30 rfl info30 ?_) | (refine wpList_store_row rfl 30 (.tmp 2) (.tmp 91) rfl w.heap.size 30 #[.int .i64 0, .int .i64 0, .int .i64 0, .int .i64 0, .int .u64 0, .int .u64 0, .bool false, .int .i64 0, .int .i64 0, .int .i64 0, .slice none 0 0, .int .i64 0, .slice none 0 0] (cells K D G) rfl rfl HG.out.res info30 rfl (ones_c HD.out HI.out) ?_) | fail)
  refine bodyPost_ret (results_cell_row rfl _ _ w.heap.size 30 _ (0, 0) _ rfl FN.out.1 Try.underlying30 rfl info30) rfl (HR.out _ _ ?_)
  have kk := FN.out.2.2.mono (fun b hb => Or.inl (b := b = w.heap.size + 1) hb)
  exact ⟨D, G, rfl, ob_at kk HD.out HFD.out, oi_at kk HI.out HFG.out, FN.out.2.1, fun b hb => by have := HFD.out b hb; omega, fun b hb => by have := HFG.out b hb; omega⟩
end Go.Proofs.Ytfpkdbogapmhmaa.O

/- Record: the document's Parse, and every Parse of any bytes (written by gen_rdg.py). -/
import Derived.Test.YtfpkdbogapmhmaaRdF
import Derived.Test.YtfpkdbogapmhmaaRcO
import Derived.Test.YtfpkdbogapmhmaaRcX0
namespace Go.Proofs.Ytfpkdbogapmhmaa.O
open Go.RowKit Go.Proofs.Ytfpkdbogapmhmaa.Mem
set_option linter.unusedVariables false
set_option linter.unusedSimpArgs false
/-- A result's box, all else as it was. -/
structure G1 (w : World) (R : Array Value) (ty : TypeId) (W : World) : Prop where
  res : W.heap[w.heap.size]? = some (.cells R ty)
  below : Below w.heap.size w W
theorem G1.on {w W W' : World} {R : Array Value} {ty : TypeId} (h : G1 w R ty W) (hb : Below W.heap.size W W') : G1 w R ty W' :=
  ⟨row_on hb h.res, h.below.trans (hb.mono h.below.size)⟩
theorem G1.fin {w W : World} {R : Array Value} {ty : TypeId} (h : G1 w R ty W) (R' : Array Value) : (W.setRow w.heap.size R').heap[w.heap.size]? = some (.cells R' ty) ∧ Below w.heap.size w (W.setRow w.heap.size R') ∧ Kept (fun b => b = w.heap.size) W (W.setRow w.heap.size R') := by
  have k := (Kept.refl (fun b => b = w.heap.size) W).setRow (.inl rfl) R'
  exact ⟨setRow_heap _ _ _ _ _ _ h.res, h.below.trans (k.below (fun x hx => by have h3 : x = w.heap.size := hx; omega) h.below.size), k⟩
theorem alloc_setRow (w : World) (old new : Array Value) (t : TypeId) : (w.alloc (.cells old t)).setRow w.heap.size new = w.alloc (.cells new t) := by
  have h : (w.heap.push (.cells old t)).modify w.heap.size (fun | .cells _ elem frozen => .cells new elem frozen | o => o) = w.heap.push (.cells new t) := by
    apply Array.ext
    · simp
    · intro i h1 h2
      rw [Array.getElem_modify]
      by_cases hi : i < w.heap.size
      · rw [if_neg (by omega), Array.getElem_push_lt hi, Array.getElem_push_lt hi]
      · have hi' : i = w.heap.size := by simp at h2; omega
        subst hi'
        simp
  exact congrArg (fun h => ({ w with heap := h } : World)) h
set_option maxHeartbeats 4000000 in
set_option maxRecDepth 100000 in
theorem rparse_any (w : World) (v : Value) (zs : List Int) (hb : zs.length ≤ 140737488351300) (hB : Bytes zs) (h : RB w v zs) : Calls Try.prog 12 #[v] w fun e w' => PP (parseC zs) w e w' := by
  suffices ∀ R : Ending → World → Prop, (∀ e w', PP (parseC zs) w e w' → R e w') → Calls Try.prog 12 #[v] w R from this _ (fun _ _ h => h)
  intro R HR
  replace HR := Lib.hid HR
  have HBZ := Lib.hid hB
  have HGF := Lib.hid (guessC_facts hB)
  have HPG := Lib.hid (parseC_guess hB)
  have HV := Lib.hid h
  have HX0 : Hid (G1 w #[.int .i64 0, .int .i64 0, .int .i64 0, .int .i64 0, .int .u64 0, .int .u64 0, .bool false, .int .i64 0, .int .i64 0, .int .i64 0, .slice none 0 0, .int .i64 0, .slice none 0 0] 30 (w.alloc (.cells #[.int .i64 0, .int .i64 0, .int .i64 0, .int .i64 0, .int .u64 0, .int .u64 0, .bool false, .int .i64 0, .int .i64 0, .int .i64 0, .slice none 0 0, .int .i64 0, .slice none 0 0] 30))) := Lib.hid ⟨row_new rfl, (Below.refl _ w).alloc (Nat.le_refl _) _⟩
  have PG := Lib.hid (guess_any (w.alloc (.cells #[.int .i64 0, .int .i64 0, .int .i64 0, .int .i64 0, .int .u64 0, .int .u64 0, .bool false, .int .i64 0, .int .i64 0, .int .i64 0, .slice none 0 0, .int .i64 0, .slice none 0 0] 30)) v zs hb hB (h.below HX0.out.below))
  have HS0 : Hid ((w.alloc (.cells #[.int .i64 0, .int .i64 0, .int .i64 0, .int .i64 0, .int .u64 0, .int .u64 0, .bool false, .int .i64 0, .int .i64 0, .int .i64 0, .slice none 0 0, .int .i64 0, .slice none 0 0] 30)).heap.size = w.heap.size + 1) := Lib.hid (by simp)
  obtain ⟨K, hK⟩ : ∃ K, guessC zs = K := ⟨_, rfl⟩
  rw [hK] at HGF HPG PG
  unfold cv at PG
  clear hb hB h hK
  go_enter Try.func12, Try.ntmps12
  go_upto_region 2 with (first | (go_at_call 36; (with_reducible refine PG.out.mono ?_); rintro e w2 ⟨D, G, rfl, hd, hg, hb2, fd, fg⟩; have hrow : (w2.alloc (.cells (cells K D G) 30)).heap[w2.heap.size]? = some (.cells (cells K D G) 30) := row_new rfl; have HROW := Lib.hid hrow; have HXX := Lib.hid ((HX0.out.on hb2).on ((Below.refl _ w2).alloc (Nat.le_refl _) (.cells (cells K D G) 30))); have hD2 : OB (w2.alloc (.cells (cells K D G) 30)) D K.da := hd.below ((Below.refl _ w2).alloc (Nat.le_refl _) _); have hG2 : OI (w2.alloc (.cells (cells K D G) 30)) G K.gi := own_keeps hg (Kept.of_below ((Below.refl _ w2).alloc (Nat.le_refl _) _)); have HD := Lib.hid hD2; have HI := Lib.hid hG2; have HFD : Hid (∀ b, D.ownBlock = some b → w.heap.size + 1 ≤ b) := Lib.hid (fun b hb => by have := fd b hb; have := HS0.out; omega); have HFG : Hid (∀ b, G.ownBlock = some b → w.heap.size + 1 ≤ b) := Lib.hid (fun b hb => by have := fg b hb; have := HS0.out; omega); have hones : (cells K D G).all (·.oneCell') = true := ones_c hd hg; clear hrow hd hg hb2 fd fg hD2 hG2) | (refine wpList_store_row rfl 30 (.tmp 4) (.tmp 8) rfl w2.heap.size 30 #[.int .i64 0, .int .i64 0, .int .i64 0, .int .i64 0, .int .u64 0, .int .u64 0, .bool false, .int .i64 0, .int .i64 0, .int .i64 0, .slice none 0 0, .int .i64 0, .slice none 0 0] (cells K D G) rfl rfl (row_new rfl) info30 rfl hones ?_; rw [alloc_setRow]) | fail)
  clear PG HX0 HS0
  generalize w2.alloc (.cells (cells K D G) 30) = W at *
  obtain ⟨q, hq⟩ : ∃ q, w2.heap.size = q := ⟨_, rfl⟩
  rw [hq] at HROW ⊢
  clear hq
  have RA := rbytes_any W K D G HD.out.reads HI.out.reads HGF.out.1 HGF.out.2.1 HGF.out.2.2
  unfold cv at RA
  replace RA := Lib.hid RA
  by_cases ht : form K
  rotate_left
  · have e1 : encE K = 1 := if_neg ht
    have e2 : encO K = [] := if_neg ht
    rw [e1, e2] at RA
    have HPC : Hid (parseC zs = none) := Lib.hid (by rw [HPG.out]; exact if_neg (fun h => ht h.1))
    clear ht e1 e2
    go_wp2_with (first | (refine wpList_load_row rfl 30 (.tmp 4) rfl q 30 (cells K D G) (0, 0) _ rfl HROW.out Try.underlying30 rfl info30 ?_) | (go_at_call 10; (with_reducible refine RA.out.mono ?_); rintro e w5 ⟨v5, rfl, o5, b5, f5⟩; have HX5 := Lib.hid (HXX.out.on b5); have HROW5 := Lib.hid (row_on b5 HROW.out); have HD5 := Lib.hid (HD.out.below b5); have HI5 := Lib.hid (own_keeps HI.out (Kept.of_below b5)); clear o5 b5 f5) | (refine wpList_store_row rfl 30 (.tmp 2) (.tmp 23) rfl w.heap.size 30 #[.int .i64 0, .int .i64 0, .int .i64 0, .int .i64 0, .int .u64 0, .int .u64 0, .bool false, .int .i64 0, .int .i64 0, .int .i64 0, .slice none 0 0, .int .i64 0, .slice none 0 0] #[.int .i64 0, .int .i64 0, .int .i64 0, .int .i64 0, .int .u64 0, .int .u64 0, .bool false, .int .i64 0, .int .i64 0, .int .i64 0, .slice none 0 0, .int .i64 0, .slice none 0 0] rfl rfl HX5.out.res info30 rfl (by simp [Value.oneCell']) ?_) | fail)
    have FN := HX5.out.fin #[.int .i64 0, .int .i64 0, .int .i64 0, .int .i64 0, .int .u64 0, .int .u64 0, .bool false, .int .i64 0, .int .i64 0, .int .i64 0, .slice none 0 0, .int .i64 0, .slice none 0 0]
    refine bodyPost_ret (res_ct rfl _ _ w.heap.size _ _ rfl rfl (run_loadVar_row _ w.heap.size 30 30 _ (0, 0) _ FN.1 Try.underlying30 rfl info30)) rfl (HR.out _ _ ?_)
    exact pp_none HPC.out FN.2.1
  have e1 : encE K = 0 := if_pos ht
  have e2 : encO K = enc K := if_pos ht
  rw [e1, e2] at RA
  by_cases he : enc K = zs
  rotate_left
  · have HPC : Hid (parseC zs = none) := Lib.hid (by rw [HPG.out]; exact if_neg (fun h => he h.2))
    have hd : decide (enc K = zs) = false := decide_eq_false he
    clear ht he e1 e2
    go_wp2_with (first | (refine wpList_load_row rfl 30 (.tmp 4) rfl q 30 (cells K D G) (0, 0) _ rfl HROW.out Try.underlying30 rfl info30 ?_) | (go_at_call 10; (with_reducible refine RA.out.mono ?_); rintro e w5 ⟨v5, rfl, o5, b5, f5⟩; have HX5 := Lib.hid (HXX.out.on b5); have HROW5 := Lib.hid (row_on b5 HROW.out); have HD5 := Lib.hid (HD.out.below b5); have HI5 := Lib.hid (own_keeps HI.out (Kept.of_below b5)); have cv1 := o5.reads.conv; have cv2 := ((HV.out.below HXX.out.below).below b5).conv; have hsq := str_eq (enc_bytes HGF.out.2.2) HBZ.out; rw [hd] at hsq; generalize strOfNums (enc K) = S1 at cv1 hsq; generalize strOfNums zs = S2 at cv2 hsq; clear o5 b5 f5) | (refine wpList_store_row rfl 30 (.tmp 2) (.tmp 23) rfl w.heap.size 30 #[.int .i64 0, .int .i64 0, .int .i64 0, .int .i64 0, .int .u64 0, .int .u64 0, .bool false, .int .i64 0, .int .i64 0, .int .i64 0, .slice none 0 0, .int .i64 0, .slice none 0 0] #[.int .i64 0, .int .i64 0, .int .i64 0, .int .i64 0, .int .u64 0, .int .u64 0, .bool false, .int .i64 0, .int .i64 0, .int .i64 0, .slice none 0 0, .int .i64 0, .slice none 0 0] rfl rfl HX5.out.res info30 rfl (by simp [Value.oneCell']) ?_) | fail)
    have FN := HX5.out.fin #[.int .i64 0, .int .i64 0, .int .i64 0, .int .i64 0, .int .u64 0, .int .u64 0, .bool false, .int .i64 0, .int .i64 0, .int .i64 0, .slice none 0 0, .int .i64 0, .slice none 0 0]
    refine bodyPost_ret (res_ct rfl _ _ w.heap.size _ _ rfl rfl (run_loadVar_row _ w.heap.size 30 30 _ (0, 0) _ FN.1 Try.underlying30 rfl info30)) rfl (HR.out _ _ ?_)
    exact pp_none HPC.out FN.2.1
  have HPC : Hid (parseC zs = some K) := Lib.hid (by rw [HPG.out]; exact if_pos ⟨ht, he⟩)
  have hd : decide (enc K = zs) = true := decide_eq_true he
  clear ht he e1 e2
  go_wp2_with (first | (refine wpList_load_row rfl 30 (.tmp 4) rfl q 30 (cells K D G) (0, 0) _ rfl HROW.out Try.underlying30 rfl info30 ?_) | (go_at_call 10; (with_reducible refine RA.out.mono ?_); rintro e w5 ⟨v5, rfl, o5, b5, f5⟩; have HX5 := Lib.hid (HXX.out.on b5); have HROW5 := Lib.hid (row_on b5 HROW.out); have HD5 := Lib.hid (HD.out.below b5); have HI5 := Lib.hid (own_keeps HI.out (Kept.of_below b5)); have cv1 := o5.reads.conv; have cv2 := ((HV.out.below HXX.out.below).below b5).conv; have hsq := str_eq (enc_bytes HGF.out.2.2) HBZ.out; rw [hd] at hsq; generalize strOfNums (enc K) = S1 at cv1 hsq; generalize strOfNums zs = S2 at cv2 hsq; clear o5 b5 f5) | (refine wpList_load_row rfl 30 (.tmp 4) rfl q 30 (cells K D G) (0, 0) _ rfl HROW5.out Try.underlying30 rfl info30 ?_) | (refine wpList_store_row rfl 30 (.tmp 2) (.tmp 24) rfl w.heap.size 30 #[.int .i64 0, .int .i64 0, .int .i64 0, .int .i64 0, .int .u64 0, .int .u64 0, .bool false, .int .i64 0, .int .i64 0, .int .i64 0, .slice none 0 0, .int .i64 0, .slice none 0 0] (cells K D G) rfl rfl HX5.out.res info30 rfl hones ?_) | fail)
  have FN := HX5.out.fin (cells K D G)
  refine bodyPost_ret (res_ct rfl _ _ w.heap.size _ _ rfl rfl (run_loadVar_row _ w.heap.size 30 30 _ (0, 0) _ FN.1 Try.underlying30 rfl info30)) rfl (HR.out _ _ ?_)
  rw [HPC.out]
  exact ⟨D, G, rfl, own_kept HD5.out FN.2.2 (fun b hb e => by have h1 := HFD.out b hb; omega), own_kept HI5.out FN.2.2 (fun b hb e => by have h1 := HFG.out b hb; omega), fun b hb => by have := HFD.out b hb; omega, fun b hb => by have := HFG.out b hb; omega, FN.2.1⟩
theorem pp_bytes {zs : List Int} (hB : Bytes zs) : Bytes ((parseC zs).getD zc).da := by
  rw [parseC_guess hB]
  split
  · exact (guessC_facts hB).2.2
  · exact fun z hz => by cases hz
set_option maxHeartbeats 4000000 in
set_option maxRecDepth 100000 in
theorem law_parses (w : World) (v : Value) (zs : List Int) (hv : RB w v zs) (hB : Bytes zs) (hb : zs.length ≤ 140737488351300) :
    Calls Try.prog 4 #[v] w fun e w' => e = .returned (.bool true) ∧ Below w.heap.size w w' := by
  have H3 := Lib.hid (fun a (ha : Below w.heap.size w a) => rparse_any a v zs hb hB (hv.below ha))
  have H4 := Lib.hid (fun a (ha : Below w.heap.size w a) => parse_any a v zs hb hB (hv.below ha))
  have hXB := pp_bytes hB
  obtain ⟨X, hX⟩ : ∃ X, (parseC zs).getD zc = X := ⟨_, rfl⟩
  obtain ⟨F, hF⟩ : ∃ F : Int, (if (parseC zs).isSome then (0 : Int) else 1) = F := ⟨_, rfl⟩
  simp only [PP, hX, hF] at H3 H4
  rw [hX] at hXB
  have HXB := Lib.hid hXB
  clear hXB hX hF
  obtain ⟨xop, xby, xsz, xob, xhi, xlo, xgv, xrt, xof, xn, xda, xix, xgi⟩ := X
  obtain ⟨Av, cv', rfl⟩ : SL v zs.length := hv.sl
  obtain ⟨nv, hnv⟩ : ∃ n, zs.length = n := ⟨_, rfl⟩
  unfold cv cells at H3 H4
  simp only at H3 H4 HXB
  rw [hnv] at H3 H4 ⊢
  clear hv hB hb hnv
  go_enter Try.func4, Try.ntmps4
  go_upto_region 3 with (first | (go_at_call 12; refine (H3.out _ (Below.refl _ _)).mono ?_; rintro e w3 ⟨D3, G3, rfl, o3, i3, _, _, hb3⟩; obtain ⟨A3, n3, k3, rfl⟩ : ∃ A n c, D3 = .slice A n c := (by obtain ⟨A, c, e, _⟩ := own_slice o3; exact ⟨_, _, _, e⟩); obtain ⟨P3, m3, l3, rfl⟩ : ∃ A n c, G3 = .slice A n c := (by obtain ⟨A, c, e, _⟩ := own_slice i3; exact ⟨_, _, _, e⟩); have O3 := Lib.hid o3; have I3 := Lib.hid i3; have B3 := Lib.hid (hb3.alloc hb3.size (.cells #[.int .i64 xop, .int .i64 xby, .int .i64 xsz, .int .i64 xob, .int .u64 xhi, .int .u64 xlo, .bool xgv, .int .i64 xrt, .int .i64 xof, .int .i64 xn, .slice A3 n3 k3, .int .i64 xix, .slice P3 m3 l3] 30)); clear o3 i3 hb3) | (go_at_call 13; refine (H4.out _ B3.out).mono ?_; rintro e w4 ⟨D4, G4, rfl, o4, i4, _, _, hb4⟩; obtain ⟨A4, n4, k4, rfl⟩ : ∃ A n c, D4 = .slice A n c := (by obtain ⟨A, c, e, _⟩ := own_slice o4; exact ⟨_, _, _, e⟩); obtain ⟨P4, m4, l4, rfl⟩ : ∃ A n c, G4 = .slice A n c := (by obtain ⟨A, c, e, _⟩ := own_slice i4; exact ⟨_, _, _, e⟩); have O4 := Lib.hid o4; have I4 := Lib.hid i4; have B34 := Lib.hid (hb4.alloc hb4.size (.cells #[.int .i64 xop, .int .i64 xby, .int .i64 xsz, .int .i64 xob, .int .u64 xhi, .int .u64 xlo, .bool xgv, .int .i64 xrt, .int .i64 xof, .int .i64 xn, .slice A4 n4 k4, .int .i64 xix, .slice P4 m4 l4] 30)); clear o4 i4 hb4) | fail)
  have HR3 : Hid ((w4.alloc (.cells #[.int .i64 xop, .int .i64 xby, .int .i64 xsz, .int .i64 xob, .int .u64 xhi, .int .u64 xlo, .bool xgv, .int .i64 xrt, .int .i64 xof, .int .i64 xn, .slice A4 n4 k4, .int .i64 xix, .slice P4 m4 l4] 30)).heap[w3.heap.size]? = some (.cells #[.int .i64 xop, .int .i64 xby, .int .i64 xsz, .int .i64 xob, .int .u64 xhi, .int .u64 xlo, .bool xgv, .int .i64 xrt, .int .i64 xof, .int .i64 xn, .slice A3 n3 k3, .int .i64 xix, .slice P3 m3 l3] 30)) := Lib.hid (row_on B34.out (row_new rfl))
  have HR4 : Hid ((w4.alloc (.cells #[.int .i64 xop, .int .i64 xby, .int .i64 xsz, .int .i64 xob, .int .u64 xhi, .int .u64 xlo, .bool xgv, .int .i64 xrt, .int .i64 xof, .int .i64 xn, .slice A4 n4 k4, .int .i64 xix, .slice P4 m4 l4] 30)).heap[w4.heap.size]? = some (.cells #[.int .i64 xop, .int .i64 xby, .int .i64 xsz, .int .i64 xob, .int .u64 xhi, .int .u64 xlo, .bool xgv, .int .i64 xrt, .int .i64 xof, .int .i64 xn, .slice A4 n4 k4, .int .i64 xix, .slice P4 m4 l4] 30)) := Lib.hid (row_new rfl)
  have b3 : Below w3.heap.size w3 (w3.alloc (.cells #[.int .i64 xop, .int .i64 xby, .int .i64 xsz, .int .i64 xob, .int .u64 xhi, .int .u64 xlo, .bool xgv, .int .i64 xrt, .int .i64 xof, .int .i64 xn, .slice A3 n3 k3, .int .i64 xix, .slice P3 m3 l3] 30)) := (Below.refl _ _).alloc (Nat.le_refl _) _
  have b4 : Below w4.heap.size w4 (w4.alloc (.cells #[.int .i64 xop, .int .i64 xby, .int .i64 xsz, .int .i64 xob, .int .u64 xhi, .int .u64 xlo, .bool xgv, .int .i64 xrt, .int .i64 xof, .int .i64 xn, .slice A4 n4 k4, .int .i64 xix, .slice P4 m4 l4] 30)) := (Below.refl _ _).alloc (Nat.le_refl _) _
  have HO3 : Hid (OB (w4.alloc (.cells #[.int .i64 xop, .int .i64 xby, .int .i64 xsz, .int .i64 xob, .int .u64 xhi, .int .u64 xlo, .bool xgv, .int .i64 xrt, .int .i64 xof, .int .i64 xn, .slice A4 n4 k4, .int .i64 xix, .slice P4 m4 l4] 30)) (.slice A3 n3 k3) xda) := Lib.hid ((O3.out.below b3).below B34.out)
  have HO4 : Hid (OB (w4.alloc (.cells #[.int .i64 xop, .int .i64 xby, .int .i64 xsz, .int .i64 xob, .int .u64 xhi, .int .u64 xlo, .bool xgv, .int .i64 xrt, .int .i64 xof, .int .i64 xn, .slice A4 n4 k4, .int .i64 xix, .slice P4 m4 l4] 30)) (.slice A4 n4 k4) xda) := Lib.hid (O4.out.below b4)
  have HI3 : Hid (OI (w4.alloc (.cells #[.int .i64 xop, .int .i64 xby, .int .i64 xsz, .int .i64 xob, .int .u64 xhi, .int .u64 xlo, .bool xgv, .int .i64 xrt, .int .i64 xof, .int .i64 xn, .slice A4 n4 k4, .int .i64 xix, .slice P4 m4 l4] 30)) (.slice P3 m3 l3) xgi) := Lib.hid (own_keeps (own_keeps I3.out (Kept.of_below b3)) (Kept.of_below B34.out))
  have HI4 : Hid (OI (w4.alloc (.cells #[.int .i64 xop, .int .i64 xby, .int .i64 xsz, .int .i64 xob, .int .u64 xhi, .int .u64 xlo, .bool xgv, .int .i64 xrt, .int .i64 xof, .int .i64 xn, .slice A4 n4 k4, .int .i64 xix, .slice P4 m4 l4] 30)) (.slice P4 m4 l4) xgi) := Lib.hid (own_keeps I4.out (Kept.of_below b4))
  have HBB : Hid (Below w.heap.size w (w4.alloc (.cells #[.int .i64 xop, .int .i64 xby, .int .i64 xsz, .int .i64 xob, .int .u64 xhi, .int .u64 xlo, .bool xgv, .int .i64 xrt, .int .i64 xof, .int .i64 xn, .slice A4 n4 k4, .int .i64 xix, .slice P4 m4 l4] 30))) := Lib.hid (B3.out.trans (B34.out.mono B3.out.size))
  clear H3 H4 O3 O4 I3 I4 b3 b4 B3 B34
  generalize w4.alloc (.cells #[.int .i64 xop, .int .i64 xby, .int .i64 xsz, .int .i64 xob, .int .u64 xhi, .int .u64 xlo, .bool xgv, .int .i64 xrt, .int .i64 xof, .int .i64 xn, .slice A4 n4 k4, .int .i64 xix, .slice P4 m4 l4] 30) = W at *
  go_wp2_with (first | (go_at_call 11; refine (known_any _).mono ?_; rintro e w5 ⟨rfl, hb5⟩; have B5 := Lib.hid hb5; have hrow3 := row_on hb5 HR3.out; have hrow4 := row_on hb5 HR4.out; have p0 := cell_row (j := 0) hrow3 rfl; have p1 := cell_row (j := 1) hrow3 rfl; have p2 := cell_row (j := 2) hrow3 rfl; have p3 := cell_row (j := 3) hrow3 rfl; have p4 := cell_row (j := 4) hrow3 rfl; have p5 := cell_row (j := 5) hrow3 rfl; have p6 := cell_row (j := 6) hrow3 rfl; have p7 := cell_row (j := 7) hrow3 rfl; have p8 := cell_row (j := 8) hrow3 rfl; have p9 := cell_row (j := 9) hrow3 rfl; have p10 := cell_row (j := 10) hrow3 rfl; have p11 := cell_row (j := 11) hrow3 rfl; have p12 := cell_row (j := 12) hrow3 rfl; have q0 := cell_row (j := 0) hrow4 rfl; have q1 := cell_row (j := 1) hrow4 rfl; have q2 := cell_row (j := 2) hrow4 rfl; have q3 := cell_row (j := 3) hrow4 rfl; have q4 := cell_row (j := 4) hrow4 rfl; have q5 := cell_row (j := 5) hrow4 rfl; have q6 := cell_row (j := 6) hrow4 rfl; have q7 := cell_row (j := 7) hrow4 rfl; have q8 := cell_row (j := 8) hrow4 rfl; have q9 := cell_row (j := 9) hrow4 rfl; have q10 := cell_row (j := 10) hrow4 rfl; have q11 := cell_row (j := 11) hrow4 rfl; have q12 := cell_row (j := 12) hrow4 rfl; have HSM := same_any w5 ⟨xop, xby, xsz, xob, xhi, xlo, xgv, xrt, xof, xn, xda, xix, xgi⟩ ⟨xop, xby, xsz, xob, xhi, xlo, xgv, xrt, xof, xn, xda, xix, xgi⟩ (.slice A4 n4 k4) (.slice P4 m4 l4) (.slice A3 n3 k3) (.slice P3 m3 l3) (HO4.out.below hb5).reads (show IB w5 (.slice P4 m4 l4) xgi from OI.reads (own_keeps HI4.out (Kept.of_below hb5))) (HO3.out.below hb5).reads (show IB w5 (.slice P3 m3 l3) xgi from OI.reads (own_keeps HI3.out (Kept.of_below hb5))) HXB.out HXB.out; rw [decide_eq_true rfl] at HSM; unfold cv cells at HSM; replace HSM := Lib.hid HSM; clear hb5 hrow3 hrow4) | (go_at_call 14; refine HSM.out.mono ?_; rintro e w6 ⟨rfl, hb6⟩; have B6 := Lib.hid hb6; clear hb6) | fail)
  go_ret
  have k5 := HBB.out.trans (B5.out.mono HBB.out.size)
  exact ⟨by first | rfl | exact ret_bool rfl (by simp), k5.trans (B6.out.mono k5.size)⟩
end Go.Proofs.Ytfpkdbogapmhmaa.O

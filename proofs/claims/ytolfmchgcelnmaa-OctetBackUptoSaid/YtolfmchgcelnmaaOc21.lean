/- OctetBack: the walk. -/
import Derived.Test.YtolfmchgcelnmaaOc20
namespace Go.Proofs.Ytolfmchgcelnmaa.O
open Go.RowKit Go.Proofs.Ytolfmchgcelnmaa.Mem
set_option maxHeartbeats 8000000 in
set_option maxRecDepth 100000 in
theorem law_back (w : World) (vl : Value) (l : List It) (hgood : ∀ x ∈ l, Good w x) (hlen : l.length ≤ 1048576) (hcost : cost (fun i => msk ((l ++ [it0]).getD i it0)) (l.length + 1) ≤ 1048577) (hread : ReadsIt w vl l) :
    Calls Try.prog 6 #[vl] w fun e w' => e = .returned (.bool true) ∧ Below w.heap.size w w' := by
  obtain ⟨As, cs, rfl, hs1, hs2, hs3⟩ := hread
  unfold maxLen at hs2
  have HRD := Lib.hid hs3
  have HGD : Hid (∀ i, Good w ((l ++ [it0]).getD i it0)) := fun i => by
    by_cases h : i < l.length
    · have e : (l ++ [it0]).getD i it0 = l[i] := by simp [List.getD, List.getElem?_append_left h, h]
      rw [e]; exact hgood _ (List.getElem_mem h)
    · have e : (l ++ [it0]).getD i it0 = it0 := by
        rcases Nat.lt_or_ge l.length i with h2 | h2
        · simp [List.getD, List.getElem?_eq_none (show (l ++ [it0]).length ≤ i by simp; omega)]
        · obtain rfl : i = l.length := by omega
          simp [List.getD]
      rw [e]; exact good0 w
  have HCO := Lib.hid hcost
  clear hs3 hgood hcost
  have HW : Hid (Below w.heap.size w w) := Below.refl _ _
  go_enter Try.func6, Try.ntmps6
  have HX := Lib.hid (head_any w)
  go_wp2_with fail
  (with_reducible refine HX.out.mono ?_)
  rintro e w1x ⟨rfl, hb1⟩
  replace HW := Lib.hid (HW.out.trans (hb1.mono HW.out.size))
  clear HX hb1
  have HH1 := Lib.hid (its_holds HRD.out (HW.out.trans (((Below.refl _ w1x).alloc (Nat.le_refl _) (.cells #[] 73)).mono HW.out.size)))
  go_wp2_with (first | (at_builtin; refine list_app2 rfl (.tmp 15) (.tmp 16) 71 rfl 73 0 _ 6 64 Try.underlying71 info73 rfl (by decide) (by decide) (.slice (some ⟨w1x.heap.size, 0, none⟩) 0 0) 0 [] rfl (World.ownsRow_made w1x #[] 0 (Nat.zero_le _) (Nat.zero_le _) rfl) As l.length cs (itC l) rfl (itC_len l) HH1.out (itC_one l) (by omega) (Nat.zero_le _) ?_; intro v9 w6 hown hwent; obtain ⟨B1, d1, rfl, ob, fr, be⟩ := app_any (W := w1x) rfl hown hwent; have OB1 := Lib.hid ob; have FR1 := Lib.hid fr; have BE1 := Lib.hid be; clear hown hwent ob fr be) | (at_builtin; refine list_app2 rfl (.tmp 17) (.tmp 19) 71 rfl 73 0 _ 6 64 Try.underlying71 info73 rfl (by decide) (by decide) (.slice B1 l.length d1) l.length (itC l) rfl (own_keeps OB1.out ((Kept.refl _ _).alloc _)) (some ⟨w6.heap.size, 0, none⟩) 1 1 (itL it0) rfl rfl (holds_new w6 #[.int .i64 3, .int .u64 72623859790382856, .int .i64 0, .int .u64 0, .int .u64 0, .slice none 0 0] 73 (0, 0) _ rfl) (by simp [itL, it0, Value.oneCell']) (by omega) (Nat.zero_le _) ?_; intro v10 w7 hown hwent; have BE2 : Hid (Below w1x.heap.size w1x w7) := (BE1.out.trans (((Below.refl _ w6).alloc (Nat.le_refl _) (.cells #[.int .i64 3, .int .u64 72623859790382856, .int .i64 0, .int .u64 0, .int .u64 0, .slice none 0 0] 73)).mono BE1.out.size)).trans (hwent.kept.below (fun b hb => FR1.out b hb) (by simp; have := BE1.out.size; omega)); have FR2 : Hid (Fresh w1x v10) := fresh_went (w := w1x) (fun b hb => FR1.out b hb) (by simp; have := BE1.out.size; omega) hwent; obtain ⟨g, cg, rfl, hcg, hcg2, r6⟩ := row6_of hown; have R6 := Lib.hid r6; clear hown hwent r6) | fail)
  have HG : Hid (w.heap.size ≤ g) := Nat.le_trans HW.out.size (FR2.out g rfl)
  replace HW := Lib.hid (HW.out.trans (BE2.out.mono HW.out.size))
  clear HH1 OB1 FR1 BE1 BE2 FR2
  obtain ⟨f, hf⟩ : ∃ f : Nat → It, (fun i => (l ++ [it0]).getD i it0) = f := ⟨_, rfl⟩
  have HF := Lib.hid hf
  replace HGD : Hid (∀ i, Good w (f i)) := fun i => hf ▸ HGD.out i
  replace HCO : Hid (cost (fun i => msk (f i)) (l.length + 1) ≤ 1048577) := hf ▸ HCO.out
  rw [hf] at R6
  clear hf
  have R60 : Hid (Row6 w7 g (l.length + 1) (mskN f 0)) := R6.out
  have HB0 : Hid (OB w7 (.slice none (bytesTo (fun i => msk (f i)) 0).length 0) (bytesTo (fun i => msk (f i)) 0)) := OB.nil w7
  clear R6
  go_wp2_with fail
  go_loopw [3, 4] (fun v3 v4 wr => ∃ (i : Nat) (A : Option Addr) (c : Nat), i ≤ l.length + 1 ∧ v4 = .int .i64 i ∧ v3 = .slice A (bytesTo (fun i => msk (f i)) i).length c ∧ Hid (OB wr (.slice A (bytesTo (fun i => msk (f i)) i).length c) (bytesTo (fun i => msk (f i)) i)) ∧ Hid (∀ k, (Value.slice A (bytesTo (fun i => msk (f i)) i).length c).ownBlock = some k → k ≠ g) ∧ Hid (Row6 wr g (l.length + 1) (mskN f i)) ∧ Hid (Below w.heap.size w wr)) (fun _ v4 _ => l.length + 1 - (intOf v4).toNat)
  case atStart => exact ⟨0, none, 0, Nat.zero_le _, rfl, rfl, HB0, (fun k hk => by simp [Value.ownBlock] at hk), R60, HW⟩
  case round =>
    clear HB0 R60 HW
    obtain ⟨i, A, c, hi, rfl, rfl, HO, HNE, R6, HW⟩ := hrel
    by_cases hlt : i < l.length + 1
    · have e2 : mskN f i i = f i := by unfold mskN; rw [if_neg (by omega)]
      have z2 : wr.cell? ⟨g, i * 6 + 2, none⟩ = some (.int .i64 (f i).obj) := R6.out.cell hlt 2 _ (by rw [e2]; rfl)
      have zf := R6.out.free (i * 6 + 2)
      have RM := Lib.hid (R6.out.msk hlt)
      have e3 : mskN f (i + 1) i = msk (f i) := by unfold mskN; rw [if_pos (by omega)]
      obtain ⟨X, hX⟩ : ∃ X, bits .and .i64 (f i).obj 4611686018427387903 = X := ⟨_, rfl⟩
      have HXX := Lib.hid hX
      rw [hX] at RM
      have y0 : wr.cell? ⟨g, i * 6, none⟩ = some (.int .i64 (f i).k) := R6.out.cell hlt 0 _ (by rw [e2]; rfl)
      have y1 : wr.cell? ⟨g, i * 6 + 1, none⟩ = some (.int .u64 (f i).v) := R6.out.cell hlt 1 _ (by rw [e2]; rfl)
      have y3 : wr.cell? ⟨g, i * 6 + 3, none⟩ = some (.int .u64 (f i).hi) := R6.out.cell hlt 3 _ (by rw [e2]; rfl)
      have y4 : wr.cell? ⟨g, i * 6 + 4, none⟩ = some (.int .u64 (f i).lo) := R6.out.cell hlt 4 _ (by rw [e2]; rfl)
      have y5 : wr.cell? ⟨g, i * 6 + 5, none⟩ = some (.slice (f i).A (f i).n (f i).c) := R6.out.cell hlt 5 _ (by rw [e2]; rfl)
      have hx2 := and62 (f i).obj
      rw [hX] at hx2
      have K8 := Lib.hid ((Kept.refl (fun b => b = g) wr).setCell (p := ⟨g, i * 6 + 2, none⟩) (.inl rfl) (.int .i64 X))
      have HW8 : Hid (Below w.heap.size w (wr.setCell ⟨g, i * 6 + 2, none⟩ (.int .i64 X))) := HW.out.trans (K8.out.below (fun b hb => by have := HG.out; have e' : b = g := hb; omega) HW.out.size)
      have HO8 := Lib.hid (own_kept HO.out K8.out (fun b hb e => HNE.out b hb e))
      have hgi := Lib.hid ((HGD.out i).below HW8.out)
      have hcl : Hid ((bytesTo (fun i => msk (f i)) i).length ≤ 30000000 ∧ (bytesTo (fun i => msk (f i)) i).length + (f i).zs.length ≤ 40000000) := by
        have h1 := bytesTo_len (fun i => msk (f i)) i
        have h2 := cost_at (fun i => msk (f i)) (i := i) (n := l.length + 1) hlt
        have h3 := HCO.out
        have h4 : (msk (f i)).zs.length = (f i).zs.length := rfl
        simp only [h4] at h2
        exact ⟨by omega, by omega⟩
      have HLY := Lib.hid (lay_any _ _ (bytesTo (fun i => msk (f i)) i) (f i).zs (f i).k (f i).v X (f i).hi (f i).lo (f i).A (f i).n (f i).c hgi.out.k0 hgi.out.k1 hgi.out.v0 hgi.out.v1 hx2.1 hx2.2 hgi.out.hh hgi.out.hl (by have := hcl.out; omega) (by have := hcl.out; omega) (show OB _ _ _ from HO8.out).reads hgi.out.hr)
      clear e2 e3 HO hx2
      have hgl : Hid (g < (wr.setCell ⟨g, i * 6 + 2, none⟩ (.int .i64 X)).heap.size) := by obtain ⟨cur, h1, _⟩ := RM.out; exact lt_of_row h1
      have HEQ : Hid (bytesTo (fun i => msk (f i)) (i + 1) = bytesTo (fun i => msk (f i)) i ++ layB (f i).k (f i).v X (f i).hi (f i).lo (f i).zs) := by
        show _ = _
        rw [← HXX.out]; rfl
      go_wp2_with fail
      (with_reducible refine HLY.out.mono ?_)
      rintro e w9 ⟨v9, rfl, o9, b9, f9⟩
      have O9 : Hid (OB w9 v9 (bytesTo (fun i => msk (f i)) (i + 1))) := by rw [← HEQ.out] at o9; exact o9
      have R9 : Hid (Row6 w9 g (l.length + 1) (mskN f (i + 1))) := RM.out.kept (Kept.of_below (S := fun _ => False) b9) (fun h => h)
      have F9 : Hid (∀ k, v9.ownBlock = some k → k ≠ g) := fun k hk e => by have h1 := f9 k hk; have h2 := hgl.out; omega
      have W9 : Hid (Below w.heap.size w w9) := HW8.out.trans (b9.mono HW8.out.size)
      obtain ⟨A9, c9, rfl, _⟩ := own_slice (show w9.ownsRow 0 5 1 v9 _ _ from O9.out)
      clear o9 b9 f9 HLY hgl HEQ y0 y1 y3 y4 y5 z2 zf RM K8 HW8 HO8 HXX hX
      go_wp2_with fail
      exact ⟨⟨i + 1, A9, c9, by omega, by simp, rfl, O9, F9, R9, W9⟩, by simp [intOf]; omega⟩
    · have : i = l.length + 1 := by omega
      subst this
      clear hlt hi
      have R7 : Hid (Row6 wr g (l.length + 1) (fun i => msk (f i))) := by
        obtain ⟨cur, h1, h2⟩ := R6.out
        refine ⟨cur, h1, fun i hi j u hu => h2 i hi j u ?_⟩
        have : mskN f (l.length + 1) i = msk (f i) := by unfold mskN; rw [if_pos hi]
        rw [this]; exact hu
      clear R6
      obtain ⟨L, hL⟩ : ∃ L, bytesTo (fun i => msk (f i)) (l.length + 1) = L := ⟨_, rfl⟩
      have HL := Lib.hid hL
      have hL8 : 8 ≤ L.length := by
        rw [← hL, bytesTo, List.length_append]
        have e : itB (msk (f l.length)) = le 8 72623859790382856 := by
          have : f l.length = it0 := by rw [← HF.out]; simp [List.getD]
          rw [this]; rfl
        rw [e, le_len]; omega
      have hL9 : L.length ≤ 30000000 := by
        rw [← hL]
        have h1 := bytesTo_len (fun i => msk (f i)) (l.length + 1)
        have h3 := HCO.out
        omega
      rw [hL] at HO HNE
      rw [hL]
      obtain ⟨gb, c', cur, e, q1, q2, q3, q4, q5, q6⟩ := own_form (show wr.ownsRow 0 5 1 _ L.length _ from HO.out) (by omega)
      obtain ⟨rfl, rfl⟩ : A = some ⟨gb, 0, none⟩ ∧ c = c' := by simpa using e
      clear e q1 q3 q4 q5 q6
      obtain ⟨hcap, hcap2⟩ := own_cap (show wr.ownsRow 0 5 1 _ L.length _ from HO.out)
      obtain ⟨n, hn⟩ : ∃ n, L.length = n := ⟨_, rfl⟩
      have HN := Lib.hid hn
      have RBB : Hid (RB wr (.slice (some ⟨gb, 0, none⟩) L.length c) L) := (show OB _ _ _ from HO.out).reads
      have RBS : Hid (RB wr (.slice (some ⟨gb, 0, none⟩) (n - 1) c) (L.take (n - 1))) := RBB.out.take (by omega) rfl
      rw [hn] at hL8 hL9 hcap RBB HNE
      rw [hn]
      clear hL HO hn cur
      have C1 : Hid (∀ a, Below wr.heap.size wr a → Calls Try.prog 27 #[.slice (some ⟨gb, 0, none⟩) n c] a fun e w' => ∃ r, e = .returned (.pointer (some ⟨r, 0, none⟩)) ∧ Below a.heap.size a w' ∧ Rd 82 w' r L (fun b => a.heap.size ≤ b ∧ b < w'.heap.size)) := fun a ha => reader_in a _ L (by rw [HN.out]; omega) (RBB.out.below ha)
      have C2 : Hid (∀ a, Below wr.heap.size wr a → Calls Try.prog 27 #[.slice (some ⟨gb, 0, none⟩) (n - 1) c] a fun e w' => ∃ r, e = .returned (.pointer (some ⟨r, 0, none⟩)) ∧ Below a.heap.size a w' ∧ Rd 82 w' r (L.take (n - 1)) (fun b => a.heap.size ≤ b ∧ b < w'.heap.size)) := fun a ha => reader_in a _ _ (by rw [List.length_take, HN.out]; omega) (RBS.out.below ha)
      have KEEPA : Hid (∀ a o, Below wr.heap.size wr a → Below wr.heap.size wr (a.alloc o)) := fun a o h => h.alloc h.size o
      have C3 : Hid (∀ a v, OB a v (L ++ [7]) → Calls Try.prog 27 #[v] a fun e w' => ∃ r, e = .returned (.pointer (some ⟨r, 0, none⟩)) ∧ Below a.heap.size a w' ∧ Rd 82 w' r (L ++ [7]) (fun b => a.heap.size ≤ b ∧ b < w'.heap.size)) := fun a v ha => reader_in a v (L ++ [7]) (by rw [List.length_append, HN.out]; simp; omega) ha.reads
      have C4 : Hid (∀ (a : World) (v : Value), a.ownsRow 0 5 1 v (n + 1) (L.map byteC ++ [.int .u8 7]) → OB a v (L ++ [7])) := fun a v h => by unfold OB; rw [List.length_append, HN.out, List.map_append]; exact h
      obtain ⟨m, rfl⟩ : ∃ m, n = m + 1 := ⟨n - 1, by omega⟩
      rw [Nat.add_sub_cancel] at RBS C2
      have hmx : max (0 : Int) ((m : Int)) = (m : Int) := by omega
      have hmx2 : (0 : Int) < (m : Int) := by omega
      have hmx7 : (m : Int) > 0 := by omega
      have hmx8 : m ≤ c := by omega
      have hm0 : 0 < m := by omega
      have hmx3 : (0 : Int) ≤ (m : Int) := by omega
      have hmx4 : (m : Int) ≤ (c : Int) := by omega
      have hmx5 : IntKind.i64.wrap ((m : Int) + 1 - 1) = (m : Int) := by rw [IntKind.wrap_i64]; omega
      have hmx9 : IntKind.i64.wrap (m : Int) = (m : Int) := by rw [IntKind.wrap_i64]; omega
      have hmx6 : (m : Int) + 1 - 1 = (m : Int) := by omega
      have KEEP : Hid (∀ a b, Below a.heap.size a b → Below wr.heap.size wr a → Below wr.heap.size wr b) := fun a b h1 h2 => h2.trans (h1.mono h2.size)
      go_wp2_with fail
      refine region_meet (fun a0 a' w' => ∃ (r s t n1 n2 : Nat) (x45 x46 x47 x48 x49 x50 x51 x52 x53 x54 x55 x56 x57 x58 x59 : Value), a' = ((((((((((((((((((a0.put (some 45) x45).put (some 46) x46).put (some 47) x47).put (some 48) x48).put (some 49) x49).put (some 50) x50).put (some 51) x51).put (some 52) x52).put (some 53) x53).put (some 54) x54).put (some 55) x55).put (some 56) x56).put (some 57) x57).put (some 58) x58).put (some 59) x59).put (some 5) (.pointer (some ⟨r, 0, none⟩))).put (some 6) (.pointer (some ⟨s, 0, none⟩))).put (some 7) (.pointer (some ⟨t, 0, none⟩))) ∧ Rd 82 w' r L (fun b => wr.heap.size ≤ b ∧ b < n1) ∧ Rd 82 w' s (L.take m) (fun b => n1 ≤ b ∧ b < n2) ∧ Rd 82 w' t (L ++ [7]) (fun b => n2 ≤ b) ∧ Below wr.heap.size wr w') ?_ ?_
      · skip
        refine wp_region_noPanic ?_
        refine wp_region_held_drew (S := fun w' => Below wr.heap.size wr w') (by kernel_rfl) ((Below.refl _ wr).drew) (fun hHeld => ?_)
        refine wpAnyH_take (i := 0) (oi := { dst := some 45, op := Go.Op.move (Go.Operand.tmp 3), type := 22, pos := "law.go:211", after := #[], guard := none }) (v := ?_) rfl (by kernel_rfl) (by kernel_rfl) (by kernel_rfl) (fun _ _ _ h => h) (Or.inl ⟨by rfl, ?hy0_1⟩) (by assumption) ?rest0_1
        case hy0_1 => (intro w hSw; go_simp; try with_reducible rfl)
        try simp only [Act.put, List.setIfInBounds_toArray, List.set_cons_zero, List.set_cons_succ]
        refine wpAnyH_take (i := 2) (oi := { dst := some 47, op := Go.Op.move (Go.Operand.tmp 3), type := 22, pos := "law.go:211", after := #[], guard := none }) (v := ?_) rfl (by kernel_rfl) (by kernel_rfl) (by kernel_rfl) (fun _ _ _ h => h) (Or.inl ⟨by rfl, ?hy2_2⟩) (by assumption) ?rest2_2
        case hy2_2 => (intro w hSw; go_simp; try with_reducible rfl)
        try simp only [Act.put, List.setIfInBounds_toArray, List.set_cons_zero, List.set_cons_succ]
        refine wpAnyH_take (i := 3) (oi := { dst := some 48, op := Go.Op.move (Go.Operand.tmp 3), type := 22, pos := "law.go:211", after := #[], guard := none }) (v := ?_) rfl (by kernel_rfl) (by kernel_rfl) (by kernel_rfl) (fun _ _ _ h => h) (Or.inl ⟨by rfl, ?hy3_3⟩) (by assumption) ?rest3_3
        case hy3_3 => (intro w hSw; go_simp; try with_reducible rfl)
        try simp only [Act.put, List.setIfInBounds_toArray, List.set_cons_zero, List.set_cons_succ]
        refine wpAnyH_take (i := 4) (oi := { dst := some 49, op := Go.Op.call { callee := Go.Callee.builtin Go.Builtin.len, args := #[Go.Operand.tmp 48], argTypes := #[22] }, type := 3, pos := "law.go:211", after := #[{ on := 3, ground := Go.Ground.data }], guard := none }) (v := ?_) rfl (by kernel_rfl) (by kernel_rfl) (by kernel_rfl) (fun _ _ _ h => h) (Or.inl ⟨by rfl, ?hy4_4⟩) (by assumption) ?rest4_4
        case hy4_4 => (intro w hSw; go_simp; try with_reducible rfl)
        try simp only [Act.put, List.setIfInBounds_toArray, List.set_cons_zero, List.set_cons_succ]
        refine wpAnyH_take (i := 5) (oi := { dst := some 50, op := Go.Op.binOp Go.BinOp.sub 3 (Go.Operand.tmp 49) (Go.Operand.const (Go.Value.int Go.IntKind.i64 1)) 3, type := 3, pos := "law.go:211", after := #[{ on := 4, ground := Go.Ground.data }], guard := none }) (v := ?_) rfl (by kernel_rfl) (by kernel_rfl) (by kernel_rfl) (fun _ _ _ h => h) (Or.inl ⟨by rfl, ?hy5_5⟩) (by assumption) ?rest5_5
        case hy5_5 => (intro w hSw; go_simp; try with_reducible rfl)
        try simp only [Act.put, List.setIfInBounds_toArray, List.set_cons_zero, List.set_cons_succ]
        refine wpAnyH_take (i := 6) (oi := { dst := some 51, op := Go.Op.call { callee := Go.Callee.builtin Go.Builtin.max, args := #[Go.Operand.const (Go.Value.int Go.IntKind.i64 0), Go.Operand.tmp 50], argTypes := #[3, 3] }, type := 3, pos := "law.go:211", after := #[{ on := 5, ground := Go.Ground.data }], guard := none }) (v := ?_) rfl (by kernel_rfl) (by kernel_rfl) (by kernel_rfl) (fun _ _ _ h => h) (Or.inl ⟨by rfl, ?hy6_6⟩) (by assumption) ?rest6_6
        case hy6_6 => (intro w hSw; go_simp; try with_reducible rfl)
        try simp only [Act.put, List.setIfInBounds_toArray, List.set_cons_zero, List.set_cons_succ]
        refine wpAnyH_take (i := 7) (oi := { dst := some 52, op := Go.Op.slice 22 (Go.Operand.tmp 47) none (some (Go.Operand.tmp 51)) none, type := 22, pos := "law.go:211", after := #[{ on := 2, ground := Go.Ground.data }, { on := 6, ground := Go.Ground.data }], guard := none }) (v := ?_) rfl (by kernel_rfl) (by kernel_rfl) (by kernel_rfl) (fun _ _ _ h => h) (Or.inl ⟨by rfl, ?hy7_7⟩) (by assumption) ?rest7_7
        case hy7_7 => (intro w hSw; go_simp; try with_reducible rfl)
        try simp only [Act.put, List.setIfInBounds_toArray, List.set_cons_zero, List.set_cons_succ]
        refine wpAnyH_take (i := 10) (oi := { dst := some 55, op := Go.Op.move (Go.Operand.tmp 3), type := 22, pos := "law.go:211", after := #[], guard := none }) (v := ?_) rfl (by kernel_rfl) (by kernel_rfl) (by kernel_rfl) (fun _ _ _ h => h) (Or.inl ⟨by rfl, ?hy10_8⟩) (by assumption) ?rest10_8
        case hy10_8 => (intro w hSw; go_simp; try with_reducible rfl)
        try simp only [Act.put, List.setIfInBounds_toArray, List.set_cons_zero, List.set_cons_succ]
        refine wpAnyH_ready (rs := [1, 9, 12]) (by kernel_rfl) (by simp) ?_
        refine AllReadyH.cons (o := { dst := some 46, op := Go.Op.call { callee := Go.Callee.value (Go.Operand.func 27), args := #[Go.Operand.tmp 45], argTypes := #[22] }, type := 58, pos := "law.go:211", after := #[{ on := 0, ground := Go.Ground.data }], guard := none }) rfl (fun K hK => ?_) (AllReadyH.cons (o := { dst := some 54, op := Go.Op.buildSlice 22 0 #[], type := 22, pos := "law.go:211", after := #[], guard := none }) rfl (fun K hK => ?_) (AllReadyH.cons (o := { dst := some 57, op := Go.Op.buildSlice 22 1 #[(0, Go.Operand.const (Go.Value.int Go.IntKind.u8 7))], type := 22, pos := "law.go:211", after := #[], guard := none }) rfl (fun K hK => ?_) AllReadyH.nil))
        · go_simp
          go_at_call 27
          (with_reducible refine (C1.out _ hHeld).mono ?_)
          rintro e w2 ⟨r, rfl, hb2, hr2⟩
          have HR2 : Hid (Rd 82 w2 r L (fun b => wr.heap.size ≤ b ∧ b < w2.heap.size)) := rd_up hHeld hr2
          have hx2 := KEEP.out _ _ hb2 hHeld
          refine hK.out _ _ (by exact hx2) (fun hHeld2 => ?_)
          clear hK K hHeld
          have hHeld := hHeld2
          clear hHeld2
          try simp only [Act.put, List.setIfInBounds_toArray, List.set_cons_zero, List.set_cons_succ]
          refine wpAnyH_ready (rs := [8, 9, 12]) (by kernel_rfl) (by simp) ?_
          refine AllReadyH.cons (o := { dst := some 53, op := Go.Op.call { callee := Go.Callee.value (Go.Operand.func 27), args := #[Go.Operand.tmp 52], argTypes := #[22] }, type := 58, pos := "law.go:211", after := #[{ on := 7, ground := Go.Ground.data }, { on := 1, ground := Go.Ground.chain }], guard := none }) rfl (fun K hK => ?_) (AllReadyH.cons (o := { dst := some 54, op := Go.Op.buildSlice 22 0 #[], type := 22, pos := "law.go:211", after := #[], guard := none }) rfl (fun K hK => ?_) (AllReadyH.cons (o := { dst := some 57, op := Go.Op.buildSlice 22 1 #[(0, Go.Operand.const (Go.Value.int Go.IntKind.u8 7))], type := 22, pos := "law.go:211", after := #[], guard := none }) rfl (fun K hK => ?_) AllReadyH.nil))
          · go_simp
            go_at_call 27
            (with_reducible refine (C2.out _ hHeld).mono ?_)
            rintro e w3 ⟨s, rfl, hb3, hr3⟩
            have B23 : Below w2.heap.size w2 w3 := chain (by (first | exact Below.refl _ _ | exact (Below.refl _ _).alloc (Nat.le_refl _) _ | exact ((Below.refl _ _).alloc (Nat.le_refl _) _).alloc (by simp) _ | exact B34 | exact B34.alloc B34.size _ | fail)) hb3
            have HR3 : Hid (Rd 82 w3 s (L.take m) (fun b => w2.heap.size ≤ b ∧ b < w3.heap.size)) := rd_up (by (first | exact Below.refl _ _ | exact (Below.refl _ _).alloc (Nat.le_refl _) _ | exact ((Below.refl _ _).alloc (Nat.le_refl _) _).alloc (by simp) _ | exact B34 | exact B34.alloc B34.size _ | fail)) hr3
            have hx3 : Below wr.heap.size wr w3 := KEEP.out _ _ hb3 hHeld
            refine hK.out _ _ (by exact hx3) (fun hHeld2 => ?_)
            clear hK K hHeld
            have hHeld := hHeld2
            clear hHeld2
            try simp only [Act.put, List.setIfInBounds_toArray, List.set_cons_zero, List.set_cons_succ]
            refine wpAnyH_ready (rs := [9, 12]) (by kernel_rfl) (by simp) ?_
            refine AllReadyH.cons (o := { dst := some 54, op := Go.Op.buildSlice 22 0 #[], type := 22, pos := "law.go:211", after := #[], guard := none }) rfl (fun K hK => ?_) (AllReadyH.cons (o := { dst := some 57, op := Go.Op.buildSlice 22 1 #[(0, Go.Operand.const (Go.Value.int Go.IntKind.u8 7))], type := 22, pos := "law.go:211", after := #[], guard := none }) rfl (fun K hK => ?_) AllReadyH.nil)
            · go_simp
              refine hK.out _ _ (by exact KEEPA.out _ _ hHeld) (fun hHeld2 => ?_)
              clear hK K hHeld
              have hHeld := hHeld2
              clear hHeld2
              try simp only [Act.put, List.setIfInBounds_toArray, List.set_cons_zero, List.set_cons_succ]
              refine wpAnyH_ready (rs := [11, 12]) (by kernel_rfl) (by simp) ?_
              refine AllReadyH.cons (o := { dst := some 56, op := Go.Op.call { callee := Go.Callee.builtin Go.Builtin.append, args := #[Go.Operand.tmp 54, Go.Operand.tmp 55], argTypes := #[22, 22] }, type := 22, pos := "law.go:211", after := #[{ on := 9, ground := Go.Ground.data }, { on := 10, ground := Go.Ground.data }, { on := 8, ground := Go.Ground.chain }], guard := none }) rfl (fun K hK => ?_) (AllReadyH.cons (o := { dst := some 57, op := Go.Op.buildSlice 22 1 #[(0, Go.Operand.const (Go.Value.int Go.IntKind.u8 7))], type := 22, pos := "law.go:211", after := #[], guard := none }) rfl (fun K hK => ?_) AllReadyH.nil)
              · refine step_app2 rfl (.tmp 54) (.tmp 55) 22 rfl 5 0 _ 1 1 Try.underlying22 info5 rfl (by decide) (by decide) (.slice (some ⟨_, 0, none⟩) 0 0) 0 [] (by rfl) ?_ (some ⟨gb, 0, none⟩) (m + 1) c (L.map byteC) rfl ?_ ?_ one8 ?_ (Nat.zero_le _) ?_
                focus (refine made_row ?_; (repeat (first | (with_reducible exact row_new rfl) | (focus (refine row_new ?_; simp; done)) | (with_reducible refine row_old ?_) | (with_reducible refine row_drew ?_) | (with_reducible refine row_below hb2 ?_) | (with_reducible refine row_below hb3 ?_) | (with_reducible refine row_below BE4 ?_))); done)
                (rw [List.length_map, HN.out, Nat.mul_one])
                exact (RBB.out.below hHeld).holds.2
                omega
                intro v9 w4 hown hwent
                have BE4 := app_below (by omega) hown hwent
                obtain ⟨B4, d4, rfl, ob4, fr4, B34⟩ := app_zero (A := w3) (by (first | exact Below.refl _ _ | exact (Below.refl _ _).alloc (Nat.le_refl _) _ | exact ((Below.refl _ _).alloc (Nat.le_refl _) _).alloc (by simp) _ | exact B34 | exact B34.alloc B34.size _ | fail)) (by omega) hown hwent
                have hx4 : Below wr.heap.size wr w4 := KEEP.out _ _ B34 hx3
                clear hown hwent
                refine hK.out _ _ (by exact hx4) (fun hHeld2 => ?_)
                clear hK K hHeld
                have hHeld := hHeld2
                clear hHeld2
                try simp only [Act.put, List.setIfInBounds_toArray, List.set_cons_zero, List.set_cons_succ]
                refine wpAnyH_ready (rs := [12]) (by kernel_rfl) (by simp) ?_
                refine AllReadyH.cons (o := { dst := some 57, op := Go.Op.buildSlice 22 1 #[(0, Go.Operand.const (Go.Value.int Go.IntKind.u8 7))], type := 22, pos := "law.go:211", after := #[], guard := none }) rfl (fun K hK => ?_) AllReadyH.nil
                go_simp
                refine hK.out _ _ (by exact KEEPA.out _ _ hHeld) (fun hHeld2 => ?_)
                clear hK K hHeld
                have hHeld := hHeld2
                clear hHeld2
                try simp only [Act.put, List.setIfInBounds_toArray, List.set_cons_zero, List.set_cons_succ]
                refine wpAnyH_ready (rs := [13]) (by kernel_rfl) (by simp) ?_
                refine AllReadyH.cons (o := { dst := some 58, op := Go.Op.call { callee := Go.Callee.builtin Go.Builtin.append, args := #[Go.Operand.tmp 56, Go.Operand.tmp 57], argTypes := #[22, 22] }, type := 22, pos := "law.go:211", after := #[{ on := 11, ground := Go.Ground.data }, { on := 12, ground := Go.Ground.data }, { on := 11, ground := Go.Ground.chain }], guard := none }) rfl (fun K hK => ?_) AllReadyH.nil
                refine step_app2 rfl (.tmp 56) (.tmp 57) 22 rfl 5 0 _ 1 1 Try.underlying22 info5 rfl (by decide) (by decide) (.slice B4 (m + 1) d4) (m + 1) (L.map byteC) (by rfl) ?_ (some ⟨_, 0, none⟩) 1 1 [.int .u8 7] (by rfl) rfl ?_ ?_ ?_ (Nat.zero_le _) ?_
                (first | exact ob4 | exact own_keeps ob4 ((Kept.refl _ _).alloc _))
                focus (refine holds_row ?_; (repeat (first | (with_reducible exact row_new rfl) | (focus (refine row_new ?_; simp; done)) | (with_reducible refine row_old ?_) | (with_reducible refine row_drew ?_) | (with_reducible refine row_below hb2 ?_) | (with_reducible refine row_below hb3 ?_) | (with_reducible refine row_below BE4 ?_))); done)
                focus (intro u hu; obtain rfl := List.mem_singleton.1 hu; rfl)
                omega
                intro v10 w5 hown hwent
                have B35 : Below w3.heap.size w3 w5 := app_on (A := w3) (by (first | exact Below.refl _ _ | exact (Below.refl _ _).alloc (Nat.le_refl _) _ | exact ((Below.refl _ _).alloc (Nat.le_refl _) _).alloc (by simp) _ | exact B34 | exact B34.alloc B34.size _ | fail)) fr4 hwent
                have hx5 : Below wr.heap.size wr w5 := KEEP.out _ _ B35 hx3
                have ob5 : OB w5 v10 (L ++ [7]) := C4.out w5 v10 hown
                clear hown hwent
                refine hK.out _ _ (by exact hx5) (fun hHeld2 => ?_)
                clear hK K hHeld
                have hHeld := hHeld2
                clear hHeld2
                try simp only [Act.put, List.setIfInBounds_toArray, List.set_cons_zero, List.set_cons_succ]
                refine wpAnyH_ready (rs := [14]) (by kernel_rfl) (by simp) ?_
                refine AllReadyH.cons (o := { dst := some 59, op := Go.Op.call { callee := Go.Callee.value (Go.Operand.func 27), args := #[Go.Operand.tmp 58], argTypes := #[22] }, type := 58, pos := "law.go:211", after := #[{ on := 13, ground := Go.Ground.data }, { on := 13, ground := Go.Ground.chain }], guard := none }) rfl (fun K hK => ?_) AllReadyH.nil
                go_simp
                go_at_call 27
                (with_reducible refine (C3.out _ _ ob5).mono ?_)
                rintro e w6 ⟨t, rfl, hb6, hr6⟩
                refine hK.out _ _ (by exact KEEP.out _ _ hb6 hHeld) (fun hHeld2 => ?_)
                clear hK K hHeld
                have hHeld := hHeld2
                clear hHeld2
                try simp only [Act.put, List.setIfInBounds_toArray, List.set_cons_zero, List.set_cons_succ]
                refine wpAnyH_take (i := 15) (oi := { dst := some 5, op := Go.Op.assign (Go.Operand.tmp 46), type := 58, pos := "law.go:211", after := #[{ on := 1, ground := Go.Ground.data }, { on := 14, ground := Go.Ground.chain }, { on := 0, ground := Go.Ground.phase }, { on := 1, ground := Go.Ground.phase }, { on := 2, ground := Go.Ground.textOnly Go.Departure.lateStores }, { on := 3, ground := Go.Ground.textOnly Go.Departure.lateStores }, { on := 4, ground := Go.Ground.textOnly Go.Departure.lateStoresUnsure }, { on := 5, ground := Go.Ground.textOnly Go.Departure.lateStores }, { on := 6, ground := Go.Ground.textOnly Go.Departure.lateStoresUnsure }, { on := 7, ground := Go.Ground.textOnly Go.Departure.lateStoresUnsure }, { on := 8, ground := Go.Ground.textOnly Go.Departure.lateStoresUnsure }, { on := 9, ground := Go.Ground.textOnly Go.Departure.lateStores }, { on := 10, ground := Go.Ground.textOnly Go.Departure.lateStores }, { on := 11, ground := Go.Ground.textOnly Go.Departure.lateStoresUnsure }, { on := 12, ground := Go.Ground.textOnly Go.Departure.lateStores }, { on := 13, ground := Go.Ground.textOnly Go.Departure.lateStoresUnsure }, { on := 14, ground := Go.Ground.textOnly Go.Departure.lateStoresUnsure }], guard := none }) (v := ?_) rfl (by kernel_rfl) (by kernel_rfl) (by kernel_rfl) (fun _ _ _ h => h) (Or.inl ⟨by rfl, ?hy15_9⟩) (by assumption) ?rest15_9
                case hy15_9 => (intro w hSw; go_simp; try with_reducible rfl)
                try simp only [Act.put, List.setIfInBounds_toArray, List.set_cons_zero, List.set_cons_succ]
                refine wpAnyH_take (i := 16) (oi := { dst := some 6, op := Go.Op.assign (Go.Operand.tmp 53), type := 58, pos := "law.go:211", after := #[{ on := 8, ground := Go.Ground.data }, { on := 15, ground := Go.Ground.chain }, { on := 0, ground := Go.Ground.phase }, { on := 1, ground := Go.Ground.phase }, { on := 2, ground := Go.Ground.phase }, { on := 3, ground := Go.Ground.phase }, { on := 4, ground := Go.Ground.phase }, { on := 5, ground := Go.Ground.phase }, { on := 6, ground := Go.Ground.phase }, { on := 7, ground := Go.Ground.phase }, { on := 8, ground := Go.Ground.phase }, { on := 9, ground := Go.Ground.textOnly Go.Departure.lateStores }, { on := 10, ground := Go.Ground.textOnly Go.Departure.lateStores }, { on := 11, ground := Go.Ground.textOnly Go.Departure.lateStoresUnsure }, { on := 12, ground := Go.Ground.textOnly Go.Departure.lateStores }, { on := 13, ground := Go.Ground.textOnly Go.Departure.lateStoresUnsure }, { on := 14, ground := Go.Ground.textOnly Go.Departure.lateStoresUnsure }, { on := 15, ground := Go.Ground.phase }], guard := none }) (v := ?_) rfl (by kernel_rfl) (by kernel_rfl) (by kernel_rfl) (fun _ _ _ h => h) (Or.inl ⟨by rfl, ?hy16_10⟩) (by assumption) ?rest16_10
                case hy16_10 => (intro w hSw; go_simp; try with_reducible rfl)
                try simp only [Act.put, List.setIfInBounds_toArray, List.set_cons_zero, List.set_cons_succ]
                refine wpAnyH_take (i := 17) (oi := { dst := some 7, op := Go.Op.assign (Go.Operand.tmp 59), type := 58, pos := "law.go:211", after := #[{ on := 14, ground := Go.Ground.data }, { on := 16, ground := Go.Ground.chain }, { on := 0, ground := Go.Ground.phase }, { on := 1, ground := Go.Ground.phase }, { on := 2, ground := Go.Ground.phase }, { on := 3, ground := Go.Ground.phase }, { on := 4, ground := Go.Ground.phase }, { on := 5, ground := Go.Ground.phase }, { on := 6, ground := Go.Ground.phase }, { on := 7, ground := Go.Ground.phase }, { on := 8, ground := Go.Ground.phase }, { on := 9, ground := Go.Ground.phase }, { on := 10, ground := Go.Ground.phase }, { on := 11, ground := Go.Ground.phase }, { on := 12, ground := Go.Ground.phase }, { on := 13, ground := Go.Ground.phase }, { on := 14, ground := Go.Ground.phase }, { on := 15, ground := Go.Ground.phase }, { on := 16, ground := Go.Ground.phase }], guard := none }) (v := ?_) rfl (by kernel_rfl) (by kernel_rfl) (by kernel_rfl) (fun _ _ _ h => h) (Or.inl ⟨by rfl, ?hy17_11⟩) (by assumption) ?rest17_11
                case hy17_11 => (intro w hSw; go_simp; try with_reducible rfl)
                try simp only [Act.put, List.setIfInBounds_toArray, List.set_cons_zero, List.set_cons_succ]
                refine wpAnyH_done (by kernel_rfl) ?_ _
                refine NoPanic.normal ⟨rfl, ?_⟩
                try simp only [Act.put, List.setIfInBounds_toArray, List.set_cons_zero, List.set_cons_succ]
                exact ⟨r, s, t, w2.heap.size, w3.heap.size, _, _, _, _, _, _, _, _, _, _, _, _, _, _, _, rfl, HR2.out.below (chain B23 (chain B35 hb6)), HR3.out.below (chain B35 hb6), hr6.mono (fun b hb => Nat.le_trans B35.size hb.1), KEEP.out _ _ hb6 hx5⟩
              · go_simp
                refine hK.out _ _ (by exact KEEPA.out _ _ hHeld) (fun hHeld2 => ?_)
                clear hK K hHeld
                have hHeld := hHeld2
                clear hHeld2
                try simp only [Act.put, List.setIfInBounds_toArray, List.set_cons_zero, List.set_cons_succ]
                refine wpAnyH_ready (rs := [11]) (by kernel_rfl) (by simp) ?_
                refine AllReadyH.cons (o := { dst := some 56, op := Go.Op.call { callee := Go.Callee.builtin Go.Builtin.append, args := #[Go.Operand.tmp 54, Go.Operand.tmp 55], argTypes := #[22, 22] }, type := 22, pos := "law.go:211", after := #[{ on := 9, ground := Go.Ground.data }, { on := 10, ground := Go.Ground.data }, { on := 8, ground := Go.Ground.chain }], guard := none }) rfl (fun K hK => ?_) AllReadyH.nil
                refine step_app2 rfl (.tmp 54) (.tmp 55) 22 rfl 5 0 _ 1 1 Try.underlying22 info5 rfl (by decide) (by decide) (.slice (some ⟨_, 0, none⟩) 0 0) 0 [] (by rfl) ?_ (some ⟨gb, 0, none⟩) (m + 1) c (L.map byteC) rfl ?_ ?_ one8 ?_ (Nat.zero_le _) ?_
                focus (refine made_row ?_; (repeat (first | (with_reducible exact row_new rfl) | (focus (refine row_new ?_; simp; done)) | (with_reducible refine row_old ?_) | (with_reducible refine row_drew ?_) | (with_reducible refine row_below hb2 ?_) | (with_reducible refine row_below hb3 ?_) | (with_reducible refine row_below BE4 ?_))); done)
                (rw [List.length_map, HN.out, Nat.mul_one])
                exact (RBB.out.below hHeld).holds.2
                omega
                intro v9 w4 hown hwent
                have BE4 := app_below (by omega) hown hwent
                obtain ⟨B4, d4, rfl, ob4, fr4, B34⟩ := app_zero (A := w3) (by (first | exact Below.refl _ _ | exact (Below.refl _ _).alloc (Nat.le_refl _) _ | exact ((Below.refl _ _).alloc (Nat.le_refl _) _).alloc (by simp) _ | exact B34 | exact B34.alloc B34.size _ | fail)) (by omega) hown hwent
                have hx4 : Below wr.heap.size wr w4 := KEEP.out _ _ B34 hx3
                clear hown hwent
                refine hK.out _ _ (by exact hx4) (fun hHeld2 => ?_)
                clear hK K hHeld
                have hHeld := hHeld2
                clear hHeld2
                try simp only [Act.put, List.setIfInBounds_toArray, List.set_cons_zero, List.set_cons_succ]
                refine wpAnyH_ready (rs := [13]) (by kernel_rfl) (by simp) ?_
                refine AllReadyH.cons (o := { dst := some 58, op := Go.Op.call { callee := Go.Callee.builtin Go.Builtin.append, args := #[Go.Operand.tmp 56, Go.Operand.tmp 57], argTypes := #[22, 22] }, type := 22, pos := "law.go:211", after := #[{ on := 11, ground := Go.Ground.data }, { on := 12, ground := Go.Ground.data }, { on := 11, ground := Go.Ground.chain }], guard := none }) rfl (fun K hK => ?_) AllReadyH.nil
                refine step_app2 rfl (.tmp 56) (.tmp 57) 22 rfl 5 0 _ 1 1 Try.underlying22 info5 rfl (by decide) (by decide) (.slice B4 (m + 1) d4) (m + 1) (L.map byteC) (by rfl) ?_ (some ⟨_, 0, none⟩) 1 1 [.int .u8 7] (by rfl) rfl ?_ ?_ ?_ (Nat.zero_le _) ?_
                (first | exact ob4 | exact own_keeps ob4 ((Kept.refl _ _).alloc _))
                focus (refine holds_row ?_; (repeat (first | (with_reducible exact row_new rfl) | (focus (refine row_new ?_; simp; done)) | (with_reducible refine row_old ?_) | (with_reducible refine row_drew ?_) | (with_reducible refine row_below hb2 ?_) | (with_reducible refine row_below hb3 ?_) | (with_reducible refine row_below BE4 ?_))); done)
                focus (intro u hu; obtain rfl := List.mem_singleton.1 hu; rfl)
                omega
                intro v10 w5 hown hwent
                have B35 : Below w3.heap.size w3 w5 := app_on (A := w3) (by (first | exact Below.refl _ _ | exact (Below.refl _ _).alloc (Nat.le_refl _) _ | exact ((Below.refl _ _).alloc (Nat.le_refl _) _).alloc (by simp) _ | exact B34 | exact B34.alloc B34.size _ | fail)) fr4 hwent
                have hx5 : Below wr.heap.size wr w5 := KEEP.out _ _ B35 hx3
                have ob5 : OB w5 v10 (L ++ [7]) := C4.out w5 v10 hown
                clear hown hwent
                refine hK.out _ _ (by exact hx5) (fun hHeld2 => ?_)
                clear hK K hHeld
                have hHeld := hHeld2
                clear hHeld2
                try simp only [Act.put, List.setIfInBounds_toArray, List.set_cons_zero, List.set_cons_succ]
                refine wpAnyH_ready (rs := [14]) (by kernel_rfl) (by simp) ?_
                refine AllReadyH.cons (o := { dst := some 59, op := Go.Op.call { callee := Go.Callee.value (Go.Operand.func 27), args := #[Go.Operand.tmp 58], argTypes := #[22] }, type := 58, pos := "law.go:211", after := #[{ on := 13, ground := Go.Ground.data }, { on := 13, ground := Go.Ground.chain }], guard := none }) rfl (fun K hK => ?_) AllReadyH.nil
                go_simp
                go_at_call 27
                (with_reducible refine (C3.out _ _ ob5).mono ?_)
                rintro e w6 ⟨t, rfl, hb6, hr6⟩
                refine hK.out _ _ (by exact KEEP.out _ _ hb6 hHeld) (fun hHeld2 => ?_)
                clear hK K hHeld
                have hHeld := hHeld2
                clear hHeld2
                try simp only [Act.put, List.setIfInBounds_toArray, List.set_cons_zero, List.set_cons_succ]
                refine wpAnyH_take (i := 15) (oi := { dst := some 5, op := Go.Op.assign (Go.Operand.tmp 46), type := 58, pos := "law.go:211", after := #[{ on := 1, ground := Go.Ground.data }, { on := 14, ground := Go.Ground.chain }, { on := 0, ground := Go.Ground.phase }, { on := 1, ground := Go.Ground.phase }, { on := 2, ground := Go.Ground.textOnly Go.Departure.lateStores }, { on := 3, ground := Go.Ground.textOnly Go.Departure.lateStores }, { on := 4, ground := Go.Ground.textOnly Go.Departure.lateStoresUnsure }, { on := 5, ground := Go.Ground.textOnly Go.Departure.lateStores }, { on := 6, ground := Go.Ground.textOnly Go.Departure.lateStoresUnsure }, { on := 7, ground := Go.Ground.textOnly Go.Departure.lateStoresUnsure }, { on := 8, ground := Go.Ground.textOnly Go.Departure.lateStoresUnsure }, { on := 9, ground := Go.Ground.textOnly Go.Departure.lateStores }, { on := 10, ground := Go.Ground.textOnly Go.Departure.lateStores }, { on := 11, ground := Go.Ground.textOnly Go.Departure.lateStoresUnsure }, { on := 12, ground := Go.Ground.textOnly Go.Departure.lateStores }, { on := 13, ground := Go.Ground.textOnly Go.Departure.lateStoresUnsure }, { on := 14, ground := Go.Ground.textOnly Go.Departure.lateStoresUnsure }], guard := none }) (v := ?_) rfl (by kernel_rfl) (by kernel_rfl) (by kernel_rfl) (fun _ _ _ h => h) (Or.inl ⟨by rfl, ?hy15_12⟩) (by assumption) ?rest15_12
                case hy15_12 => (intro w hSw; go_simp; try with_reducible rfl)
                try simp only [Act.put, List.setIfInBounds_toArray, List.set_cons_zero, List.set_cons_succ]
                refine wpAnyH_take (i := 16) (oi := { dst := some 6, op := Go.Op.assign (Go.Operand.tmp 53), type := 58, pos := "law.go:211", after := #[{ on := 8, ground := Go.Ground.data }, { on := 15, ground := Go.Ground.chain }, { on := 0, ground := Go.Ground.phase }, { on := 1, ground := Go.Ground.phase }, { on := 2, ground := Go.Ground.phase }, { on := 3, ground := Go.Ground.phase }, { on := 4, ground := Go.Ground.phase }, { on := 5, ground := Go.Ground.phase }, { on := 6, ground := Go.Ground.phase }, { on := 7, ground := Go.Ground.phase }, { on := 8, ground := Go.Ground.phase }, { on := 9, ground := Go.Ground.textOnly Go.Departure.lateStores }, { on := 10, ground := Go.Ground.textOnly Go.Departure.lateStores }, { on := 11, ground := Go.Ground.textOnly Go.Departure.lateStoresUnsure }, { on := 12, ground := Go.Ground.textOnly Go.Departure.lateStores }, { on := 13, ground := Go.Ground.textOnly Go.Departure.lateStoresUnsure }, { on := 14, ground := Go.Ground.textOnly Go.Departure.lateStoresUnsure }, { on := 15, ground := Go.Ground.phase }], guard := none }) (v := ?_) rfl (by kernel_rfl) (by kernel_rfl) (by kernel_rfl) (fun _ _ _ h => h) (Or.inl ⟨by rfl, ?hy16_13⟩) (by assumption) ?rest16_13
                case hy16_13 => (intro w hSw; go_simp; try with_reducible rfl)
                try simp only [Act.put, List.setIfInBounds_toArray, List.set_cons_zero, List.set_cons_succ]
                refine wpAnyH_take (i := 17) (oi := { dst := some 7, op := Go.Op.assign (Go.Operand.tmp 59), type := 58, pos := "law.go:211", after := #[{ on := 14, ground := Go.Ground.data }, { on := 16, ground := Go.Ground.chain }, { on := 0, ground := Go.Ground.phase }, { on := 1, ground := Go.Ground.phase }, { on := 2, ground := Go.Ground.phase }, { on := 3, ground := Go.Ground.phase }, { on := 4, ground := Go.Ground.phase }, { on := 5, ground := Go.Ground.phase }, { on := 6, ground := Go.Ground.phase }, { on := 7, ground := Go.Ground.phase }, { on := 8, ground := Go.Ground.phase }, { on := 9, ground := Go.Ground.phase }, { on := 10, ground := Go.Ground.phase }, { on := 11, ground := Go.Ground.phase }, { on := 12, ground := Go.Ground.phase }, { on := 13, ground := Go.Ground.phase }, { on := 14, ground := Go.Ground.phase }, { on := 15, ground := Go.Ground.phase }, { on := 16, ground := Go.Ground.phase }], guard := none }) (v := ?_) rfl (by kernel_rfl) (by kernel_rfl) (by kernel_rfl) (fun _ _ _ h => h) (Or.inl ⟨by rfl, ?hy17_14⟩) (by assumption) ?rest17_14
                case hy17_14 => (intro w hSw; go_simp; try with_reducible rfl)
                try simp only [Act.put, List.setIfInBounds_toArray, List.set_cons_zero, List.set_cons_succ]
                refine wpAnyH_done (by kernel_rfl) ?_ _
                refine NoPanic.normal ⟨rfl, ?_⟩
                try simp only [Act.put, List.setIfInBounds_toArray, List.set_cons_zero, List.set_cons_succ]
                exact ⟨r, s, t, w2.heap.size, w3.heap.size, _, _, _, _, _, _, _, _, _, _, _, _, _, _, _, rfl, HR2.out.below (chain B23 (chain B35 hb6)), HR3.out.below (chain B35 hb6), hr6.mono (fun b hb => Nat.le_trans B35.size hb.1), KEEP.out _ _ hb6 hx5⟩
            · go_simp
              refine hK.out _ _ (by exact KEEPA.out _ _ hHeld) (fun hHeld2 => ?_)
              clear hK K hHeld
              have hHeld := hHeld2
              clear hHeld2
              try simp only [Act.put, List.setIfInBounds_toArray, List.set_cons_zero, List.set_cons_succ]
              refine wpAnyH_ready (rs := [9]) (by kernel_rfl) (by simp) ?_
              refine AllReadyH.cons (o := { dst := some 54, op := Go.Op.buildSlice 22 0 #[], type := 22, pos := "law.go:211", after := #[], guard := none }) rfl (fun K hK => ?_) AllReadyH.nil
              go_simp
              refine hK.out _ _ (by exact KEEPA.out _ _ hHeld) (fun hHeld2 => ?_)
              clear hK K hHeld
              have hHeld := hHeld2
              clear hHeld2
              try simp only [Act.put, List.setIfInBounds_toArray, List.set_cons_zero, List.set_cons_succ]
              refine wpAnyH_ready (rs := [11]) (by kernel_rfl) (by simp) ?_
              refine AllReadyH.cons (o := { dst := some 56, op := Go.Op.call { callee := Go.Callee.builtin Go.Builtin.append, args := #[Go.Operand.tmp 54, Go.Operand.tmp 55], argTypes := #[22, 22] }, type := 22, pos := "law.go:211", after := #[{ on := 9, ground := Go.Ground.data }, { on := 10, ground := Go.Ground.data }, { on := 8, ground := Go.Ground.chain }], guard := none }) rfl (fun K hK => ?_) AllReadyH.nil
              refine step_app2 rfl (.tmp 54) (.tmp 55) 22 rfl 5 0 _ 1 1 Try.underlying22 info5 rfl (by decide) (by decide) (.slice (some ⟨_, 0, none⟩) 0 0) 0 [] (by rfl) ?_ (some ⟨gb, 0, none⟩) (m + 1) c (L.map byteC) rfl ?_ ?_ one8 ?_ (Nat.zero_le _) ?_
              focus (refine made_row ?_; (repeat (first | (with_reducible exact row_new rfl) | (focus (refine row_new ?_; simp; done)) | (with_reducible refine row_old ?_) | (with_reducible refine row_drew ?_) | (with_reducible refine row_below hb2 ?_) | (with_reducible refine row_below hb3 ?_) | (with_reducible refine row_below BE4 ?_))); done)
              (rw [List.length_map, HN.out, Nat.mul_one])
              exact (RBB.out.below hHeld).holds.2
              omega
              intro v9 w4 hown hwent
              have BE4 := app_below (by omega) hown hwent
              obtain ⟨B4, d4, rfl, ob4, fr4, B34⟩ := app_zero (A := w3) (by (first | exact Below.refl _ _ | exact (Below.refl _ _).alloc (Nat.le_refl _) _ | exact ((Below.refl _ _).alloc (Nat.le_refl _) _).alloc (by simp) _ | exact B34 | exact B34.alloc B34.size _ | fail)) (by omega) hown hwent
              have hx4 : Below wr.heap.size wr w4 := KEEP.out _ _ B34 hx3
              clear hown hwent
              refine hK.out _ _ (by exact hx4) (fun hHeld2 => ?_)
              clear hK K hHeld
              have hHeld := hHeld2
              clear hHeld2
              try simp only [Act.put, List.setIfInBounds_toArray, List.set_cons_zero, List.set_cons_succ]
              refine wpAnyH_ready (rs := [13]) (by kernel_rfl) (by simp) ?_
              refine AllReadyH.cons (o := { dst := some 58, op := Go.Op.call { callee := Go.Callee.builtin Go.Builtin.append, args := #[Go.Operand.tmp 56, Go.Operand.tmp 57], argTypes := #[22, 22] }, type := 22, pos := "law.go:211", after := #[{ on := 11, ground := Go.Ground.data }, { on := 12, ground := Go.Ground.data }, { on := 11, ground := Go.Ground.chain }], guard := none }) rfl (fun K hK => ?_) AllReadyH.nil
              refine step_app2 rfl (.tmp 56) (.tmp 57) 22 rfl 5 0 _ 1 1 Try.underlying22 info5 rfl (by decide) (by decide) (.slice B4 (m + 1) d4) (m + 1) (L.map byteC) (by rfl) ?_ (some ⟨_, 0, none⟩) 1 1 [.int .u8 7] (by rfl) rfl ?_ ?_ ?_ (Nat.zero_le _) ?_
              (first | exact ob4 | exact own_keeps ob4 ((Kept.refl _ _).alloc _))
              focus (refine holds_row ?_; (repeat (first | (with_reducible exact row_new rfl) | (focus (refine row_new ?_; simp; done)) | (with_reducible refine row_old ?_) | (with_reducible refine row_drew ?_) | (with_reducible refine row_below hb2 ?_) | (with_reducible refine row_below hb3 ?_) | (with_reducible refine row_below BE4 ?_))); done)
              focus (intro u hu; obtain rfl := List.mem_singleton.1 hu; rfl)
              omega
              intro v10 w5 hown hwent
              have B35 : Below w3.heap.size w3 w5 := app_on (A := w3) (by (first | exact Below.refl _ _ | exact (Below.refl _ _).alloc (Nat.le_refl _) _ | exact ((Below.refl _ _).alloc (Nat.le_refl _) _).alloc (by simp) _ | exact B34 | exact B34.alloc B34.size _ | fail)) fr4 hwent
              have hx5 : Below wr.heap.size wr w5 := KEEP.out _ _ B35 hx3
              have ob5 : OB w5 v10 (L ++ [7]) := C4.out w5 v10 hown
              clear hown hwent
              refine hK.out _ _ (by exact hx5) (fun hHeld2 => ?_)
              clear hK K hHeld
              have hHeld := hHeld2
              clear hHeld2
              try simp only [Act.put, List.setIfInBounds_toArray, List.set_cons_zero, List.set_cons_succ]
              refine wpAnyH_ready (rs := [14]) (by kernel_rfl) (by simp) ?_
              refine AllReadyH.cons (o := { dst := some 59, op := Go.Op.call { callee := Go.Callee.value (Go.Operand.func 27), args := #[Go.Operand.tmp 58], argTypes := #[22] }, type := 58, pos := "law.go:211", after := #[{ on := 13, ground := Go.Ground.data }, { on := 13, ground := Go.Ground.chain }], guard := none }) rfl (fun K hK => ?_) AllReadyH.nil
              go_simp
              go_at_call 27
              (with_reducible refine (C3.out _ _ ob5).mono ?_)
              rintro e w6 ⟨t, rfl, hb6, hr6⟩
              refine hK.out _ _ (by exact KEEP.out _ _ hb6 hHeld) (fun hHeld2 => ?_)
              clear hK K hHeld
              have hHeld := hHeld2
              clear hHeld2
              try simp only [Act.put, List.setIfInBounds_toArray, List.set_cons_zero, List.set_cons_succ]
              refine wpAnyH_take (i := 15) (oi := { dst := some 5, op := Go.Op.assign (Go.Operand.tmp 46), type := 58, pos := "law.go:211", after := #[{ on := 1, ground := Go.Ground.data }, { on := 14, ground := Go.Ground.chain }, { on := 0, ground := Go.Ground.phase }, { on := 1, ground := Go.Ground.phase }, { on := 2, ground := Go.Ground.textOnly Go.Departure.lateStores }, { on := 3, ground := Go.Ground.textOnly Go.Departure.lateStores }, { on := 4, ground := Go.Ground.textOnly Go.Departure.lateStoresUnsure }, { on := 5, ground := Go.Ground.textOnly Go.Departure.lateStores }, { on := 6, ground := Go.Ground.textOnly Go.Departure.lateStoresUnsure }, { on := 7, ground := Go.Ground.textOnly Go.Departure.lateStoresUnsure }, { on := 8, ground := Go.Ground.textOnly Go.Departure.lateStoresUnsure }, { on := 9, ground := Go.Ground.textOnly Go.Departure.lateStores }, { on := 10, ground := Go.Ground.textOnly Go.Departure.lateStores }, { on := 11, ground := Go.Ground.textOnly Go.Departure.lateStoresUnsure }, { on := 12, ground := Go.Ground.textOnly Go.Departure.lateStores }, { on := 13, ground := Go.Ground.textOnly Go.Departure.lateStoresUnsure }, { on := 14, ground := Go.Ground.textOnly Go.Departure.lateStoresUnsure }], guard := none }) (v := ?_) rfl (by kernel_rfl) (by kernel_rfl) (by kernel_rfl) (fun _ _ _ h => h) (Or.inl ⟨by rfl, ?hy15_15⟩) (by assumption) ?rest15_15
              case hy15_15 => (intro w hSw; go_simp; try with_reducible rfl)
              try simp only [Act.put, List.setIfInBounds_toArray, List.set_cons_zero, List.set_cons_succ]
              refine wpAnyH_take (i := 16) (oi := { dst := some 6, op := Go.Op.assign (Go.Operand.tmp 53), type := 58, pos := "law.go:211", after := #[{ on := 8, ground := Go.Ground.data }, { on := 15, ground := Go.Ground.chain }, { on := 0, ground := Go.Ground.phase }, { on := 1, ground := Go.Ground.phase }, { on := 2, ground := Go.Ground.phase }, { on := 3, ground := Go.Ground.phase }, { on := 4, ground := Go.Ground.phase }, { on := 5, ground := Go.Ground.phase }, { on := 6, ground := Go.Ground.phase }, { on := 7, ground := Go.Ground.phase }, { on := 8, ground := Go.Ground.phase }, { on := 9, ground := Go.Ground.textOnly Go.Departure.lateStores }, { on := 10, ground := Go.Ground.textOnly Go.Departure.lateStores }, { on := 11, ground := Go.Ground.textOnly Go.Departure.lateStoresUnsure }, { on := 12, ground := Go.Ground.textOnly Go.Departure.lateStores }, { on := 13, ground := Go.Ground.textOnly Go.Departure.lateStoresUnsure }, { on := 14, ground := Go.Ground.textOnly Go.Departure.lateStoresUnsure }, { on := 15, ground := Go.Ground.phase }], guard := none }) (v := ?_) rfl (by kernel_rfl) (by kernel_rfl) (by kernel_rfl) (fun _ _ _ h => h) (Or.inl ⟨by rfl, ?hy16_16⟩) (by assumption) ?rest16_16
              case hy16_16 => (intro w hSw; go_simp; try with_reducible rfl)
              try simp only [Act.put, List.setIfInBounds_toArray, List.set_cons_zero, List.set_cons_succ]
              refine wpAnyH_take (i := 17) (oi := { dst := some 7, op := Go.Op.assign (Go.Operand.tmp 59), type := 58, pos := "law.go:211", after := #[{ on := 14, ground := Go.Ground.data }, { on := 16, ground := Go.Ground.chain }, { on := 0, ground := Go.Ground.phase }, { on := 1, ground := Go.Ground.phase }, { on := 2, ground := Go.Ground.phase }, { on := 3, ground := Go.Ground.phase }, { on := 4, ground := Go.Ground.phase }, { on := 5, ground := Go.Ground.phase }, { on := 6, ground := Go.Ground.phase }, { on := 7, ground := Go.Ground.phase }, { on := 8, ground := Go.Ground.phase }, { on := 9, ground := Go.Ground.phase }, { on := 10, ground := Go.Ground.phase }, { on := 11, ground := Go.Ground.phase }, { on := 12, ground := Go.Ground.phase }, { on := 13, ground := Go.Ground.phase }, { on := 14, ground := Go.Ground.phase }, { on := 15, ground := Go.Ground.phase }, { on := 16, ground := Go.Ground.phase }], guard := none }) (v := ?_) rfl (by kernel_rfl) (by kernel_rfl) (by kernel_rfl) (fun _ _ _ h => h) (Or.inl ⟨by rfl, ?hy17_17⟩) (by assumption) ?rest17_17
              case hy17_17 => (intro w hSw; go_simp; try with_reducible rfl)
              try simp only [Act.put, List.setIfInBounds_toArray, List.set_cons_zero, List.set_cons_succ]
              refine wpAnyH_done (by kernel_rfl) ?_ _
              refine NoPanic.normal ⟨rfl, ?_⟩
              try simp only [Act.put, List.setIfInBounds_toArray, List.set_cons_zero, List.set_cons_succ]
              exact ⟨r, s, t, w2.heap.size, w3.heap.size, _, _, _, _, _, _, _, _, _, _, _, _, _, _, _, rfl, HR2.out.below (chain B23 (chain B35 hb6)), HR3.out.below (chain B35 hb6), hr6.mono (fun b hb => Nat.le_trans B35.size hb.1), KEEP.out _ _ hb6 hx5⟩
          · go_simp
            refine hK.out _ _ (by exact KEEPA.out _ _ hHeld) (fun hHeld2 => ?_)
            clear hK K hHeld
            have hHeld := hHeld2
            clear hHeld2
            try simp only [Act.put, List.setIfInBounds_toArray, List.set_cons_zero, List.set_cons_succ]
            refine wpAnyH_ready (rs := [8, 12]) (by kernel_rfl) (by simp) ?_
            refine AllReadyH.cons (o := { dst := some 53, op := Go.Op.call { callee := Go.Callee.value (Go.Operand.func 27), args := #[Go.Operand.tmp 52], argTypes := #[22] }, type := 58, pos := "law.go:211", after := #[{ on := 7, ground := Go.Ground.data }, { on := 1, ground := Go.Ground.chain }], guard := none }) rfl (fun K hK => ?_) (AllReadyH.cons (o := { dst := some 57, op := Go.Op.buildSlice 22 1 #[(0, Go.Operand.const (Go.Value.int Go.IntKind.u8 7))], type := 22, pos := "law.go:211", after := #[], guard := none }) rfl (fun K hK => ?_) AllReadyH.nil)
            · go_simp
              go_at_call 27
              (with_reducible refine (C2.out _ hHeld).mono ?_)
              rintro e w3 ⟨s, rfl, hb3, hr3⟩
              have B23 : Below w2.heap.size w2 w3 := chain (by (first | exact Below.refl _ _ | exact (Below.refl _ _).alloc (Nat.le_refl _) _ | exact ((Below.refl _ _).alloc (Nat.le_refl _) _).alloc (by simp) _ | exact B34 | exact B34.alloc B34.size _ | fail)) hb3
              have HR3 : Hid (Rd 82 w3 s (L.take m) (fun b => w2.heap.size ≤ b ∧ b < w3.heap.size)) := rd_up (by (first | exact Below.refl _ _ | exact (Below.refl _ _).alloc (Nat.le_refl _) _ | exact ((Below.refl _ _).alloc (Nat.le_refl _) _).alloc (by simp) _ | exact B34 | exact B34.alloc B34.size _ | fail)) hr3
              have hx3 : Below wr.heap.size wr w3 := KEEP.out _ _ hb3 hHeld
              refine hK.out _ _ (by exact hx3) (fun hHeld2 => ?_)
              clear hK K hHeld
              have hHeld := hHeld2
              clear hHeld2
              try simp only [Act.put, List.setIfInBounds_toArray, List.set_cons_zero, List.set_cons_succ]
              refine wpAnyH_ready (rs := [11, 12]) (by kernel_rfl) (by simp) ?_
              refine AllReadyH.cons (o := { dst := some 56, op := Go.Op.call { callee := Go.Callee.builtin Go.Builtin.append, args := #[Go.Operand.tmp 54, Go.Operand.tmp 55], argTypes := #[22, 22] }, type := 22, pos := "law.go:211", after := #[{ on := 9, ground := Go.Ground.data }, { on := 10, ground := Go.Ground.data }, { on := 8, ground := Go.Ground.chain }], guard := none }) rfl (fun K hK => ?_) (AllReadyH.cons (o := { dst := some 57, op := Go.Op.buildSlice 22 1 #[(0, Go.Operand.const (Go.Value.int Go.IntKind.u8 7))], type := 22, pos := "law.go:211", after := #[], guard := none }) rfl (fun K hK => ?_) AllReadyH.nil)
              · refine step_app2 rfl (.tmp 54) (.tmp 55) 22 rfl 5 0 _ 1 1 Try.underlying22 info5 rfl (by decide) (by decide) (.slice (some ⟨_, 0, none⟩) 0 0) 0 [] (by rfl) ?_ (some ⟨gb, 0, none⟩) (m + 1) c (L.map byteC) rfl ?_ ?_ one8 ?_ (Nat.zero_le _) ?_
                focus (refine made_row ?_; (repeat (first | (with_reducible exact row_new rfl) | (focus (refine row_new ?_; simp; done)) | (with_reducible refine row_old ?_) | (with_reducible refine row_drew ?_) | (with_reducible refine row_below hb2 ?_) | (with_reducible refine row_below hb3 ?_) | (with_reducible refine row_below BE4 ?_))); done)
                (rw [List.length_map, HN.out, Nat.mul_one])
                exact (RBB.out.below hHeld).holds.2
                omega
                intro v9 w4 hown hwent
                have BE4 := app_below (by omega) hown hwent
                obtain ⟨B4, d4, rfl, ob4, fr4, B34⟩ := app_zero (A := w3) (by (first | exact Below.refl _ _ | exact (Below.refl _ _).alloc (Nat.le_refl _) _ | exact ((Below.refl _ _).alloc (Nat.le_refl _) _).alloc (by simp) _ | exact B34 | exact B34.alloc B34.size _ | fail)) (by omega) hown hwent
                have hx4 : Below wr.heap.size wr w4 := KEEP.out _ _ B34 hx3
                clear hown hwent
                refine hK.out _ _ (by exact hx4) (fun hHeld2 => ?_)
                clear hK K hHeld
                have hHeld := hHeld2
                clear hHeld2
                try simp only [Act.put, List.setIfInBounds_toArray, List.set_cons_zero, List.set_cons_succ]
                refine wpAnyH_ready (rs := [12]) (by kernel_rfl) (by simp) ?_
                refine AllReadyH.cons (o := { dst := some 57, op := Go.Op.buildSlice 22 1 #[(0, Go.Operand.const (Go.Value.int Go.IntKind.u8 7))], type := 22, pos := "law.go:211", after := #[], guard := none }) rfl (fun K hK => ?_) AllReadyH.nil
                go_simp
                refine hK.out _ _ (by exact KEEPA.out _ _ hHeld) (fun hHeld2 => ?_)
                clear hK K hHeld
                have hHeld := hHeld2
                clear hHeld2
                try simp only [Act.put, List.setIfInBounds_toArray, List.set_cons_zero, List.set_cons_succ]
                refine wpAnyH_ready (rs := [13]) (by kernel_rfl) (by simp) ?_
                refine AllReadyH.cons (o := { dst := some 58, op := Go.Op.call { callee := Go.Callee.builtin Go.Builtin.append, args := #[Go.Operand.tmp 56, Go.Operand.tmp 57], argTypes := #[22, 22] }, type := 22, pos := "law.go:211", after := #[{ on := 11, ground := Go.Ground.data }, { on := 12, ground := Go.Ground.data }, { on := 11, ground := Go.Ground.chain }], guard := none }) rfl (fun K hK => ?_) AllReadyH.nil
                refine step_app2 rfl (.tmp 56) (.tmp 57) 22 rfl 5 0 _ 1 1 Try.underlying22 info5 rfl (by decide) (by decide) (.slice B4 (m + 1) d4) (m + 1) (L.map byteC) (by rfl) ?_ (some ⟨_, 0, none⟩) 1 1 [.int .u8 7] (by rfl) rfl ?_ ?_ ?_ (Nat.zero_le _) ?_
                (first | exact ob4 | exact own_keeps ob4 ((Kept.refl _ _).alloc _))
                focus (refine holds_row ?_; (repeat (first | (with_reducible exact row_new rfl) | (focus (refine row_new ?_; simp; done)) | (with_reducible refine row_old ?_) | (with_reducible refine row_drew ?_) | (with_reducible refine row_below hb2 ?_) | (with_reducible refine row_below hb3 ?_) | (with_reducible refine row_below BE4 ?_))); done)
                focus (intro u hu; obtain rfl := List.mem_singleton.1 hu; rfl)
                omega
                intro v10 w5 hown hwent
                have B35 : Below w3.heap.size w3 w5 := app_on (A := w3) (by (first | exact Below.refl _ _ | exact (Below.refl _ _).alloc (Nat.le_refl _) _ | exact ((Below.refl _ _).alloc (Nat.le_refl _) _).alloc (by simp) _ | exact B34 | exact B34.alloc B34.size _ | fail)) fr4 hwent
                have hx5 : Below wr.heap.size wr w5 := KEEP.out _ _ B35 hx3
                have ob5 : OB w5 v10 (L ++ [7]) := C4.out w5 v10 hown
                clear hown hwent
                refine hK.out _ _ (by exact hx5) (fun hHeld2 => ?_)
                clear hK K hHeld
                have hHeld := hHeld2
                clear hHeld2
                try simp only [Act.put, List.setIfInBounds_toArray, List.set_cons_zero, List.set_cons_succ]
                refine wpAnyH_ready (rs := [14]) (by kernel_rfl) (by simp) ?_
                refine AllReadyH.cons (o := { dst := some 59, op := Go.Op.call { callee := Go.Callee.value (Go.Operand.func 27), args := #[Go.Operand.tmp 58], argTypes := #[22] }, type := 58, pos := "law.go:211", after := #[{ on := 13, ground := Go.Ground.data }, { on := 13, ground := Go.Ground.chain }], guard := none }) rfl (fun K hK => ?_) AllReadyH.nil
                go_simp
                go_at_call 27
                (with_reducible refine (C3.out _ _ ob5).mono ?_)
                rintro e w6 ⟨t, rfl, hb6, hr6⟩
                refine hK.out _ _ (by exact KEEP.out _ _ hb6 hHeld) (fun hHeld2 => ?_)
                clear hK K hHeld
                have hHeld := hHeld2
                clear hHeld2
                try simp only [Act.put, List.setIfInBounds_toArray, List.set_cons_zero, List.set_cons_succ]
                refine wpAnyH_take (i := 15) (oi := { dst := some 5, op := Go.Op.assign (Go.Operand.tmp 46), type := 58, pos := "law.go:211", after := #[{ on := 1, ground := Go.Ground.data }, { on := 14, ground := Go.Ground.chain }, { on := 0, ground := Go.Ground.phase }, { on := 1, ground := Go.Ground.phase }, { on := 2, ground := Go.Ground.textOnly Go.Departure.lateStores }, { on := 3, ground := Go.Ground.textOnly Go.Departure.lateStores }, { on := 4, ground := Go.Ground.textOnly Go.Departure.lateStoresUnsure }, { on := 5, ground := Go.Ground.textOnly Go.Departure.lateStores }, { on := 6, ground := Go.Ground.textOnly Go.Departure.lateStoresUnsure }, { on := 7, ground := Go.Ground.textOnly Go.Departure.lateStoresUnsure }, { on := 8, ground := Go.Ground.textOnly Go.Departure.lateStoresUnsure }, { on := 9, ground := Go.Ground.textOnly Go.Departure.lateStores }, { on := 10, ground := Go.Ground.textOnly Go.Departure.lateStores }, { on := 11, ground := Go.Ground.textOnly Go.Departure.lateStoresUnsure }, { on := 12, ground := Go.Ground.textOnly Go.Departure.lateStores }, { on := 13, ground := Go.Ground.textOnly Go.Departure.lateStoresUnsure }, { on := 14, ground := Go.Ground.textOnly Go.Departure.lateStoresUnsure }], guard := none }) (v := ?_) rfl (by kernel_rfl) (by kernel_rfl) (by kernel_rfl) (fun _ _ _ h => h) (Or.inl ⟨by rfl, ?hy15_18⟩) (by assumption) ?rest15_18
                case hy15_18 => (intro w hSw; go_simp; try with_reducible rfl)
                try simp only [Act.put, List.setIfInBounds_toArray, List.set_cons_zero, List.set_cons_succ]
                refine wpAnyH_take (i := 16) (oi := { dst := some 6, op := Go.Op.assign (Go.Operand.tmp 53), type := 58, pos := "law.go:211", after := #[{ on := 8, ground := Go.Ground.data }, { on := 15, ground := Go.Ground.chain }, { on := 0, ground := Go.Ground.phase }, { on := 1, ground := Go.Ground.phase }, { on := 2, ground := Go.Ground.phase }, { on := 3, ground := Go.Ground.phase }, { on := 4, ground := Go.Ground.phase }, { on := 5, ground := Go.Ground.phase }, { on := 6, ground := Go.Ground.phase }, { on := 7, ground := Go.Ground.phase }, { on := 8, ground := Go.Ground.phase }, { on := 9, ground := Go.Ground.textOnly Go.Departure.lateStores }, { on := 10, ground := Go.Ground.textOnly Go.Departure.lateStores }, { on := 11, ground := Go.Ground.textOnly Go.Departure.lateStoresUnsure }, { on := 12, ground := Go.Ground.textOnly Go.Departure.lateStores }, { on := 13, ground := Go.Ground.textOnly Go.Departure.lateStoresUnsure }, { on := 14, ground := Go.Ground.textOnly Go.Departure.lateStoresUnsure }, { on := 15, ground := Go.Ground.phase }], guard := none }) (v := ?_) rfl (by kernel_rfl) (by kernel_rfl) (by kernel_rfl) (fun _ _ _ h => h) (Or.inl ⟨by rfl, ?hy16_19⟩) (by assumption) ?rest16_19
                case hy16_19 => (intro w hSw; go_simp; try with_reducible rfl)
                try simp only [Act.put, List.setIfInBounds_toArray, List.set_cons_zero, List.set_cons_succ]
                refine wpAnyH_take (i := 17) (oi := { dst := some 7, op := Go.Op.assign (Go.Operand.tmp 59), type := 58, pos := "law.go:211", after := #[{ on := 14, ground := Go.Ground.data }, { on := 16, ground := Go.Ground.chain }, { on := 0, ground := Go.Ground.phase }, { on := 1, ground := Go.Ground.phase }, { on := 2, ground := Go.Ground.phase }, { on := 3, ground := Go.Ground.phase }, { on := 4, ground := Go.Ground.phase }, { on := 5, ground := Go.Ground.phase }, { on := 6, ground := Go.Ground.phase }, { on := 7, ground := Go.Ground.phase }, { on := 8, ground := Go.Ground.phase }, { on := 9, ground := Go.Ground.phase }, { on := 10, ground := Go.Ground.phase }, { on := 11, ground := Go.Ground.phase }, { on := 12, ground := Go.Ground.phase }, { on := 13, ground := Go.Ground.phase }, { on := 14, ground := Go.Ground.phase }, { on := 15, ground := Go.Ground.phase }, { on := 16, ground := Go.Ground.phase }], guard := none }) (v := ?_) rfl (by kernel_rfl) (by kernel_rfl) (by kernel_rfl) (fun _ _ _ h => h) (Or.inl ⟨by rfl, ?hy17_20⟩) (by assumption) ?rest17_20
                case hy17_20 => (intro w hSw; go_simp; try with_reducible rfl)
                try simp only [Act.put, List.setIfInBounds_toArray, List.set_cons_zero, List.set_cons_succ]
                refine wpAnyH_done (by kernel_rfl) ?_ _
                refine NoPanic.normal ⟨rfl, ?_⟩
                try simp only [Act.put, List.setIfInBounds_toArray, List.set_cons_zero, List.set_cons_succ]
                exact ⟨r, s, t, w2.heap.size, w3.heap.size, _, _, _, _, _, _, _, _, _, _, _, _, _, _, _, rfl, HR2.out.below (chain B23 (chain B35 hb6)), HR3.out.below (chain B35 hb6), hr6.mono (fun b hb => Nat.le_trans B35.size hb.1), KEEP.out _ _ hb6 hx5⟩
              · go_simp
                refine hK.out _ _ (by exact KEEPA.out _ _ hHeld) (fun hHeld2 => ?_)
                clear hK K hHeld
                have hHeld := hHeld2
                clear hHeld2
                try simp only [Act.put, List.setIfInBounds_toArray, List.set_cons_zero, List.set_cons_succ]
                refine wpAnyH_ready (rs := [11]) (by kernel_rfl) (by simp) ?_
                refine AllReadyH.cons (o := { dst := some 56, op := Go.Op.call { callee := Go.Callee.builtin Go.Builtin.append, args := #[Go.Operand.tmp 54, Go.Operand.tmp 55], argTypes := #[22, 22] }, type := 22, pos := "law.go:211", after := #[{ on := 9, ground := Go.Ground.data }, { on := 10, ground := Go.Ground.data }, { on := 8, ground := Go.Ground.chain }], guard := none }) rfl (fun K hK => ?_) AllReadyH.nil
                refine step_app2 rfl (.tmp 54) (.tmp 55) 22 rfl 5 0 _ 1 1 Try.underlying22 info5 rfl (by decide) (by decide) (.slice (some ⟨_, 0, none⟩) 0 0) 0 [] (by rfl) ?_ (some ⟨gb, 0, none⟩) (m + 1) c (L.map byteC) rfl ?_ ?_ one8 ?_ (Nat.zero_le _) ?_
                focus (refine made_row ?_; (repeat (first | (with_reducible exact row_new rfl) | (focus (refine row_new ?_; simp; done)) | (with_reducible refine row_old ?_) | (with_reducible refine row_drew ?_) | (with_reducible refine row_below hb2 ?_) | (with_reducible refine row_below hb3 ?_) | (with_reducible refine row_below BE4 ?_))); done)
                (rw [List.length_map, HN.out, Nat.mul_one])
                exact (RBB.out.below hHeld).holds.2
                omega
                intro v9 w4 hown hwent
                have BE4 := app_below (by omega) hown hwent
                obtain ⟨B4, d4, rfl, ob4, fr4, B34⟩ := app_zero (A := w3) (by (first | exact Below.refl _ _ | exact (Below.refl _ _).alloc (Nat.le_refl _) _ | exact ((Below.refl _ _).alloc (Nat.le_refl _) _).alloc (by simp) _ | exact B34 | exact B34.alloc B34.size _ | fail)) (by omega) hown hwent
                have hx4 : Below wr.heap.size wr w4 := KEEP.out _ _ B34 hx3
                clear hown hwent
                refine hK.out _ _ (by exact hx4) (fun hHeld2 => ?_)
                clear hK K hHeld
                have hHeld := hHeld2
                clear hHeld2
                try simp only [Act.put, List.setIfInBounds_toArray, List.set_cons_zero, List.set_cons_succ]
                refine wpAnyH_ready (rs := [13]) (by kernel_rfl) (by simp) ?_
                refine AllReadyH.cons (o := { dst := some 58, op := Go.Op.call { callee := Go.Callee.builtin Go.Builtin.append, args := #[Go.Operand.tmp 56, Go.Operand.tmp 57], argTypes := #[22, 22] }, type := 22, pos := "law.go:211", after := #[{ on := 11, ground := Go.Ground.data }, { on := 12, ground := Go.Ground.data }, { on := 11, ground := Go.Ground.chain }], guard := none }) rfl (fun K hK => ?_) AllReadyH.nil
                refine step_app2 rfl (.tmp 56) (.tmp 57) 22 rfl 5 0 _ 1 1 Try.underlying22 info5 rfl (by decide) (by decide) (.slice B4 (m + 1) d4) (m + 1) (L.map byteC) (by rfl) ?_ (some ⟨_, 0, none⟩) 1 1 [.int .u8 7] (by rfl) rfl ?_ ?_ ?_ (Nat.zero_le _) ?_
                (first | exact ob4 | exact own_keeps ob4 ((Kept.refl _ _).alloc _))
                focus (refine holds_row ?_; (repeat (first | (with_reducible exact row_new rfl) | (focus (refine row_new ?_; simp; done)) | (with_reducible refine row_old ?_) | (with_reducible refine row_drew ?_) | (with_reducible refine row_below hb2 ?_) | (with_reducible refine row_below hb3 ?_) | (with_reducible refine row_below BE4 ?_))); done)
                focus (intro u hu; obtain rfl := List.mem_singleton.1 hu; rfl)
                omega
                intro v10 w5 hown hwent
                have B35 : Below w3.heap.size w3 w5 := app_on (A := w3) (by (first | exact Below.refl _ _ | exact (Below.refl _ _).alloc (Nat.le_refl _) _ | exact ((Below.refl _ _).alloc (Nat.le_refl _) _).alloc (by simp) _ | exact B34 | exact B34.alloc B34.size _ | fail)) fr4 hwent
                have hx5 : Below wr.heap.size wr w5 := KEEP.out _ _ B35 hx3
                have ob5 : OB w5 v10 (L ++ [7]) := C4.out w5 v10 hown
                clear hown hwent
                refine hK.out _ _ (by exact hx5) (fun hHeld2 => ?_)
                clear hK K hHeld
                have hHeld := hHeld2
                clear hHeld2
                try simp only [Act.put, List.setIfInBounds_toArray, List.set_cons_zero, List.set_cons_succ]
                refine wpAnyH_ready (rs := [14]) (by kernel_rfl) (by simp) ?_
                refine AllReadyH.cons (o := { dst := some 59, op := Go.Op.call { callee := Go.Callee.value (Go.Operand.func 27), args := #[Go.Operand.tmp 58], argTypes := #[22] }, type := 58, pos := "law.go:211", after := #[{ on := 13, ground := Go.Ground.data }, { on := 13, ground := Go.Ground.chain }], guard := none }) rfl (fun K hK => ?_) AllReadyH.nil
                go_simp
                go_at_call 27
                (with_reducible refine (C3.out _ _ ob5).mono ?_)
                rintro e w6 ⟨t, rfl, hb6, hr6⟩
                refine hK.out _ _ (by exact KEEP.out _ _ hb6 hHeld) (fun hHeld2 => ?_)
                clear hK K hHeld
                have hHeld := hHeld2
                clear hHeld2
                try simp only [Act.put, List.setIfInBounds_toArray, List.set_cons_zero, List.set_cons_succ]
                refine wpAnyH_take (i := 15) (oi := { dst := some 5, op := Go.Op.assign (Go.Operand.tmp 46), type := 58, pos := "law.go:211", after := #[{ on := 1, ground := Go.Ground.data }, { on := 14, ground := Go.Ground.chain }, { on := 0, ground := Go.Ground.phase }, { on := 1, ground := Go.Ground.phase }, { on := 2, ground := Go.Ground.textOnly Go.Departure.lateStores }, { on := 3, ground := Go.Ground.textOnly Go.Departure.lateStores }, { on := 4, ground := Go.Ground.textOnly Go.Departure.lateStoresUnsure }, { on := 5, ground := Go.Ground.textOnly Go.Departure.lateStores }, { on := 6, ground := Go.Ground.textOnly Go.Departure.lateStoresUnsure }, { on := 7, ground := Go.Ground.textOnly Go.Departure.lateStoresUnsure }, { on := 8, ground := Go.Ground.textOnly Go.Departure.lateStoresUnsure }, { on := 9, ground := Go.Ground.textOnly Go.Departure.lateStores }, { on := 10, ground := Go.Ground.textOnly Go.Departure.lateStores }, { on := 11, ground := Go.Ground.textOnly Go.Departure.lateStoresUnsure }, { on := 12, ground := Go.Ground.textOnly Go.Departure.lateStores }, { on := 13, ground := Go.Ground.textOnly Go.Departure.lateStoresUnsure }, { on := 14, ground := Go.Ground.textOnly Go.Departure.lateStoresUnsure }], guard := none }) (v := ?_) rfl (by kernel_rfl) (by kernel_rfl) (by kernel_rfl) (fun _ _ _ h => h) (Or.inl ⟨by rfl, ?hy15_21⟩) (by assumption) ?rest15_21
                case hy15_21 => (intro w hSw; go_simp; try with_reducible rfl)
                try simp only [Act.put, List.setIfInBounds_toArray, List.set_cons_zero, List.set_cons_succ]
                refine wpAnyH_take (i := 16) (oi := { dst := some 6, op := Go.Op.assign (Go.Operand.tmp 53), type := 58, pos := "law.go:211", after := #[{ on := 8, ground := Go.Ground.data }, { on := 15, ground := Go.Ground.chain }, { on := 0, ground := Go.Ground.phase }, { on := 1, ground := Go.Ground.phase }, { on := 2, ground := Go.Ground.phase }, { on := 3, ground := Go.Ground.phase }, { on := 4, ground := Go.Ground.phase }, { on := 5, ground := Go.Ground.phase }, { on := 6, ground := Go.Ground.phase }, { on := 7, ground := Go.Ground.phase }, { on := 8, ground := Go.Ground.phase }, { on := 9, ground := Go.Ground.textOnly Go.Departure.lateStores }, { on := 10, ground := Go.Ground.textOnly Go.Departure.lateStores }, { on := 11, ground := Go.Ground.textOnly Go.Departure.lateStoresUnsure }, { on := 12, ground := Go.Ground.textOnly Go.Departure.lateStores }, { on := 13, ground := Go.Ground.textOnly Go.Departure.lateStoresUnsure }, { on := 14, ground := Go.Ground.textOnly Go.Departure.lateStoresUnsure }, { on := 15, ground := Go.Ground.phase }], guard := none }) (v := ?_) rfl (by kernel_rfl) (by kernel_rfl) (by kernel_rfl) (fun _ _ _ h => h) (Or.inl ⟨by rfl, ?hy16_22⟩) (by assumption) ?rest16_22
                case hy16_22 => (intro w hSw; go_simp; try with_reducible rfl)
                try simp only [Act.put, List.setIfInBounds_toArray, List.set_cons_zero, List.set_cons_succ]
                refine wpAnyH_take (i := 17) (oi := { dst := some 7, op := Go.Op.assign (Go.Operand.tmp 59), type := 58, pos := "law.go:211", after := #[{ on := 14, ground := Go.Ground.data }, { on := 16, ground := Go.Ground.chain }, { on := 0, ground := Go.Ground.phase }, { on := 1, ground := Go.Ground.phase }, { on := 2, ground := Go.Ground.phase }, { on := 3, ground := Go.Ground.phase }, { on := 4, ground := Go.Ground.phase }, { on := 5, ground := Go.Ground.phase }, { on := 6, ground := Go.Ground.phase }, { on := 7, ground := Go.Ground.phase }, { on := 8, ground := Go.Ground.phase }, { on := 9, ground := Go.Ground.phase }, { on := 10, ground := Go.Ground.phase }, { on := 11, ground := Go.Ground.phase }, { on := 12, ground := Go.Ground.phase }, { on := 13, ground := Go.Ground.phase }, { on := 14, ground := Go.Ground.phase }, { on := 15, ground := Go.Ground.phase }, { on := 16, ground := Go.Ground.phase }], guard := none }) (v := ?_) rfl (by kernel_rfl) (by kernel_rfl) (by kernel_rfl) (fun _ _ _ h => h) (Or.inl ⟨by rfl, ?hy17_23⟩) (by assumption) ?rest17_23
                case hy17_23 => (intro w hSw; go_simp; try with_reducible rfl)
                try simp only [Act.put, List.setIfInBounds_toArray, List.set_cons_zero, List.set_cons_succ]
                refine wpAnyH_done (by kernel_rfl) ?_ _
                refine NoPanic.normal ⟨rfl, ?_⟩
                try simp only [Act.put, List.setIfInBounds_toArray, List.set_cons_zero, List.set_cons_succ]
                exact ⟨r, s, t, w2.heap.size, w3.heap.size, _, _, _, _, _, _, _, _, _, _, _, _, _, _, _, rfl, HR2.out.below (chain B23 (chain B35 hb6)), HR3.out.below (chain B35 hb6), hr6.mono (fun b hb => Nat.le_trans B35.size hb.1), KEEP.out _ _ hb6 hx5⟩
            · go_simp
              refine hK.out _ _ (by exact KEEPA.out _ _ hHeld) (fun hHeld2 => ?_)
              clear hK K hHeld
              have hHeld := hHeld2
              clear hHeld2
              try simp only [Act.put, List.setIfInBounds_toArray, List.set_cons_zero, List.set_cons_succ]
              refine wpAnyH_ready (rs := [8]) (by kernel_rfl) (by simp) ?_
              refine AllReadyH.cons (o := { dst := some 53, op := Go.Op.call { callee := Go.Callee.value (Go.Operand.func 27), args := #[Go.Operand.tmp 52], argTypes := #[22] }, type := 58, pos := "law.go:211", after := #[{ on := 7, ground := Go.Ground.data }, { on := 1, ground := Go.Ground.chain }], guard := none }) rfl (fun K hK => ?_) AllReadyH.nil
              go_simp
              go_at_call 27
              (with_reducible refine (C2.out _ hHeld).mono ?_)
              rintro e w3 ⟨s, rfl, hb3, hr3⟩
              have B23 : Below w2.heap.size w2 w3 := chain (by (first | exact Below.refl _ _ | exact (Below.refl _ _).alloc (Nat.le_refl _) _ | exact ((Below.refl _ _).alloc (Nat.le_refl _) _).alloc (by simp) _ | exact B34 | exact B34.alloc B34.size _ | fail)) hb3
              have HR3 : Hid (Rd 82 w3 s (L.take m) (fun b => w2.heap.size ≤ b ∧ b < w3.heap.size)) := rd_up (by (first | exact Below.refl _ _ | exact (Below.refl _ _).alloc (Nat.le_refl _) _ | exact ((Below.refl _ _).alloc (Nat.le_refl _) _).alloc (by simp) _ | exact B34 | exact B34.alloc B34.size _ | fail)) hr3
              have hx3 : Below wr.heap.size wr w3 := KEEP.out _ _ hb3 hHeld
              refine hK.out _ _ (by exact hx3) (fun hHeld2 => ?_)
              clear hK K hHeld
              have hHeld := hHeld2
              clear hHeld2
              try simp only [Act.put, List.setIfInBounds_toArray, List.set_cons_zero, List.set_cons_succ]
              refine wpAnyH_ready (rs := [11]) (by kernel_rfl) (by simp) ?_
              refine AllReadyH.cons (o := { dst := some 56, op := Go.Op.call { callee := Go.Callee.builtin Go.Builtin.append, args := #[Go.Operand.tmp 54, Go.Operand.tmp 55], argTypes := #[22, 22] }, type := 22, pos := "law.go:211", after := #[{ on := 9, ground := Go.Ground.data }, { on := 10, ground := Go.Ground.data }, { on := 8, ground := Go.Ground.chain }], guard := none }) rfl (fun K hK => ?_) AllReadyH.nil
              refine step_app2 rfl (.tmp 54) (.tmp 55) 22 rfl 5 0 _ 1 1 Try.underlying22 info5 rfl (by decide) (by decide) (.slice (some ⟨_, 0, none⟩) 0 0) 0 [] (by rfl) ?_ (some ⟨gb, 0, none⟩) (m + 1) c (L.map byteC) rfl ?_ ?_ one8 ?_ (Nat.zero_le _) ?_
              focus (refine made_row ?_; (repeat (first | (with_reducible exact row_new rfl) | (focus (refine row_new ?_; simp; done)) | (with_reducible refine row_old ?_) | (with_reducible refine row_drew ?_) | (with_reducible refine row_below hb2 ?_) | (with_reducible refine row_below hb3 ?_) | (with_reducible refine row_below BE4 ?_))); done)
              (rw [List.length_map, HN.out, Nat.mul_one])
              exact (RBB.out.below hHeld).holds.2
              omega
              intro v9 w4 hown hwent
              have BE4 := app_below (by omega) hown hwent
              obtain ⟨B4, d4, rfl, ob4, fr4, B34⟩ := app_zero (A := w3) (by (first | exact Below.refl _ _ | exact (Below.refl _ _).alloc (Nat.le_refl _) _ | exact ((Below.refl _ _).alloc (Nat.le_refl _) _).alloc (by simp) _ | exact B34 | exact B34.alloc B34.size _ | fail)) (by omega) hown hwent
              have hx4 : Below wr.heap.size wr w4 := KEEP.out _ _ B34 hx3
              clear hown hwent
              refine hK.out _ _ (by exact hx4) (fun hHeld2 => ?_)
              clear hK K hHeld
              have hHeld := hHeld2
              clear hHeld2
              try simp only [Act.put, List.setIfInBounds_toArray, List.set_cons_zero, List.set_cons_succ]
              refine wpAnyH_ready (rs := [13]) (by kernel_rfl) (by simp) ?_
              refine AllReadyH.cons (o := { dst := some 58, op := Go.Op.call { callee := Go.Callee.builtin Go.Builtin.append, args := #[Go.Operand.tmp 56, Go.Operand.tmp 57], argTypes := #[22, 22] }, type := 22, pos := "law.go:211", after := #[{ on := 11, ground := Go.Ground.data }, { on := 12, ground := Go.Ground.data }, { on := 11, ground := Go.Ground.chain }], guard := none }) rfl (fun K hK => ?_) AllReadyH.nil
              refine step_app2 rfl (.tmp 56) (.tmp 57) 22 rfl 5 0 _ 1 1 Try.underlying22 info5 rfl (by decide) (by decide) (.slice B4 (m + 1) d4) (m + 1) (L.map byteC) (by rfl) ?_ (some ⟨_, 0, none⟩) 1 1 [.int .u8 7] (by rfl) rfl ?_ ?_ ?_ (Nat.zero_le _) ?_
              (first | exact ob4 | exact own_keeps ob4 ((Kept.refl _ _).alloc _))
              focus (refine holds_row ?_; (repeat (first | (with_reducible exact row_new rfl) | (focus (refine row_new ?_; simp; done)) | (with_reducible refine row_old ?_) | (with_reducible refine row_drew ?_) | (with_reducible refine row_below hb2 ?_) | (with_reducible refine row_below hb3 ?_) | (with_reducible refine row_below BE4 ?_))); done)
              focus (intro u hu; obtain rfl := List.mem_singleton.1 hu; rfl)
              omega
              intro v10 w5 hown hwent
              have B35 : Below w3.heap.size w3 w5 := app_on (A := w3) (by (first | exact Below.refl _ _ | exact (Below.refl _ _).alloc (Nat.le_refl _) _ | exact ((Below.refl _ _).alloc (Nat.le_refl _) _).alloc (by simp) _ | exact B34 | exact B34.alloc B34.size _ | fail)) fr4 hwent
              have hx5 : Below wr.heap.size wr w5 := KEEP.out _ _ B35 hx3
              have ob5 : OB w5 v10 (L ++ [7]) := C4.out w5 v10 hown
              clear hown hwent
              refine hK.out _ _ (by exact hx5) (fun hHeld2 => ?_)
              clear hK K hHeld
              have hHeld := hHeld2
              clear hHeld2
              try simp only [Act.put, List.setIfInBounds_toArray, List.set_cons_zero, List.set_cons_succ]
              refine wpAnyH_ready (rs := [14]) (by kernel_rfl) (by simp) ?_
              refine AllReadyH.cons (o := { dst := some 59, op := Go.Op.call { callee := Go.Callee.value (Go.Operand.func 27), args := #[Go.Operand.tmp 58], argTypes := #[22] }, type := 58, pos := "law.go:211", after := #[{ on := 13, ground := Go.Ground.data }, { on := 13, ground := Go.Ground.chain }], guard := none }) rfl (fun K hK => ?_) AllReadyH.nil
              go_simp
              go_at_call 27
              (with_reducible refine (C3.out _ _ ob5).mono ?_)
              rintro e w6 ⟨t, rfl, hb6, hr6⟩
              refine hK.out _ _ (by exact KEEP.out _ _ hb6 hHeld) (fun hHeld2 => ?_)
              clear hK K hHeld
              have hHeld := hHeld2
              clear hHeld2
              try simp only [Act.put, List.setIfInBounds_toArray, List.set_cons_zero, List.set_cons_succ]
              refine wpAnyH_take (i := 15) (oi := { dst := some 5, op := Go.Op.assign (Go.Operand.tmp 46), type := 58, pos := "law.go:211", after := #[{ on := 1, ground := Go.Ground.data }, { on := 14, ground := Go.Ground.chain }, { on := 0, ground := Go.Ground.phase }, { on := 1, ground := Go.Ground.phase }, { on := 2, ground := Go.Ground.textOnly Go.Departure.lateStores }, { on := 3, ground := Go.Ground.textOnly Go.Departure.lateStores }, { on := 4, ground := Go.Ground.textOnly Go.Departure.lateStoresUnsure }, { on := 5, ground := Go.Ground.textOnly Go.Departure.lateStores }, { on := 6, ground := Go.Ground.textOnly Go.Departure.lateStoresUnsure }, { on := 7, ground := Go.Ground.textOnly Go.Departure.lateStoresUnsure }, { on := 8, ground := Go.Ground.textOnly Go.Departure.lateStoresUnsure }, { on := 9, ground := Go.Ground.textOnly Go.Departure.lateStores }, { on := 10, ground := Go.Ground.textOnly Go.Departure.lateStores }, { on := 11, ground := Go.Ground.textOnly Go.Departure.lateStoresUnsure }, { on := 12, ground := Go.Ground.textOnly Go.Departure.lateStores }, { on := 13, ground := Go.Ground.textOnly Go.Departure.lateStoresUnsure }, { on := 14, ground := Go.Ground.textOnly Go.Departure.lateStoresUnsure }], guard := none }) (v := ?_) rfl (by kernel_rfl) (by kernel_rfl) (by kernel_rfl) (fun _ _ _ h => h) (Or.inl ⟨by rfl, ?hy15_24⟩) (by assumption) ?rest15_24
              case hy15_24 => (intro w hSw; go_simp; try with_reducible rfl)
              try simp only [Act.put, List.setIfInBounds_toArray, List.set_cons_zero, List.set_cons_succ]
              refine wpAnyH_take (i := 16) (oi := { dst := some 6, op := Go.Op.assign (Go.Operand.tmp 53), type := 58, pos := "law.go:211", after := #[{ on := 8, ground := Go.Ground.data }, { on := 15, ground := Go.Ground.chain }, { on := 0, ground := Go.Ground.phase }, { on := 1, ground := Go.Ground.phase }, { on := 2, ground := Go.Ground.phase }, { on := 3, ground := Go.Ground.phase }, { on := 4, ground := Go.Ground.phase }, { on := 5, ground := Go.Ground.phase }, { on := 6, ground := Go.Ground.phase }, { on := 7, ground := Go.Ground.phase }, { on := 8, ground := Go.Ground.phase }, { on := 9, ground := Go.Ground.textOnly Go.Departure.lateStores }, { on := 10, ground := Go.Ground.textOnly Go.Departure.lateStores }, { on := 11, ground := Go.Ground.textOnly Go.Departure.lateStoresUnsure }, { on := 12, ground := Go.Ground.textOnly Go.Departure.lateStores }, { on := 13, ground := Go.Ground.textOnly Go.Departure.lateStoresUnsure }, { on := 14, ground := Go.Ground.textOnly Go.Departure.lateStoresUnsure }, { on := 15, ground := Go.Ground.phase }], guard := none }) (v := ?_) rfl (by kernel_rfl) (by kernel_rfl) (by kernel_rfl) (fun _ _ _ h => h) (Or.inl ⟨by rfl, ?hy16_25⟩) (by assumption) ?rest16_25
              case hy16_25 => (intro w hSw; go_simp; try with_reducible rfl)
              try simp only [Act.put, List.setIfInBounds_toArray, List.set_cons_zero, List.set_cons_succ]
              refine wpAnyH_take (i := 17) (oi := { dst := some 7, op := Go.Op.assign (Go.Operand.tmp 59), type := 58, pos := "law.go:211", after := #[{ on := 14, ground := Go.Ground.data }, { on := 16, ground := Go.Ground.chain }, { on := 0, ground := Go.Ground.phase }, { on := 1, ground := Go.Ground.phase }, { on := 2, ground := Go.Ground.phase }, { on := 3, ground := Go.Ground.phase }, { on := 4, ground := Go.Ground.phase }, { on := 5, ground := Go.Ground.phase }, { on := 6, ground := Go.Ground.phase }, { on := 7, ground := Go.Ground.phase }, { on := 8, ground := Go.Ground.phase }, { on := 9, ground := Go.Ground.phase }, { on := 10, ground := Go.Ground.phase }, { on := 11, ground := Go.Ground.phase }, { on := 12, ground := Go.Ground.phase }, { on := 13, ground := Go.Ground.phase }, { on := 14, ground := Go.Ground.phase }, { on := 15, ground := Go.Ground.phase }, { on := 16, ground := Go.Ground.phase }], guard := none }) (v := ?_) rfl (by kernel_rfl) (by kernel_rfl) (by kernel_rfl) (fun _ _ _ h => h) (Or.inl ⟨by rfl, ?hy17_26⟩) (by assumption) ?rest17_26
              case hy17_26 => (intro w hSw; go_simp; try with_reducible rfl)
              try simp only [Act.put, List.setIfInBounds_toArray, List.set_cons_zero, List.set_cons_succ]
              refine wpAnyH_done (by kernel_rfl) ?_ _
              refine NoPanic.normal ⟨rfl, ?_⟩
              try simp only [Act.put, List.setIfInBounds_toArray, List.set_cons_zero, List.set_cons_succ]
              exact ⟨r, s, t, w2.heap.size, w3.heap.size, _, _, _, _, _, _, _, _, _, _, _, _, _, _, _, rfl, HR2.out.below (chain B23 (chain B35 hb6)), HR3.out.below (chain B35 hb6), hr6.mono (fun b hb => Nat.le_trans B35.size hb.1), KEEP.out _ _ hb6 hx5⟩
          · go_simp
            refine hK.out _ _ (by exact KEEPA.out _ _ hHeld) (fun hHeld2 => ?_)
            clear hK K hHeld
            have hHeld := hHeld2
            clear hHeld2
            try simp only [Act.put, List.setIfInBounds_toArray, List.set_cons_zero, List.set_cons_succ]
            refine wpAnyH_ready (rs := [8, 9]) (by kernel_rfl) (by simp) ?_
            refine AllReadyH.cons (o := { dst := some 53, op := Go.Op.call { callee := Go.Callee.value (Go.Operand.func 27), args := #[Go.Operand.tmp 52], argTypes := #[22] }, type := 58, pos := "law.go:211", after := #[{ on := 7, ground := Go.Ground.data }, { on := 1, ground := Go.Ground.chain }], guard := none }) rfl (fun K hK => ?_) (AllReadyH.cons (o := { dst := some 54, op := Go.Op.buildSlice 22 0 #[], type := 22, pos := "law.go:211", after := #[], guard := none }) rfl (fun K hK => ?_) AllReadyH.nil)
            · go_simp
              go_at_call 27
              (with_reducible refine (C2.out _ hHeld).mono ?_)
              rintro e w3 ⟨s, rfl, hb3, hr3⟩
              have B23 : Below w2.heap.size w2 w3 := chain (by (first | exact Below.refl _ _ | exact (Below.refl _ _).alloc (Nat.le_refl _) _ | exact ((Below.refl _ _).alloc (Nat.le_refl _) _).alloc (by simp) _ | exact B34 | exact B34.alloc B34.size _ | fail)) hb3
              have HR3 : Hid (Rd 82 w3 s (L.take m) (fun b => w2.heap.size ≤ b ∧ b < w3.heap.size)) := rd_up (by (first | exact Below.refl _ _ | exact (Below.refl _ _).alloc (Nat.le_refl _) _ | exact ((Below.refl _ _).alloc (Nat.le_refl _) _).alloc (by simp) _ | exact B34 | exact B34.alloc B34.size _ | fail)) hr3
              have hx3 : Below wr.heap.size wr w3 := KEEP.out _ _ hb3 hHeld
              refine hK.out _ _ (by exact hx3) (fun hHeld2 => ?_)
              clear hK K hHeld
              have hHeld := hHeld2
              clear hHeld2
              try simp only [Act.put, List.setIfInBounds_toArray, List.set_cons_zero, List.set_cons_succ]
              refine wpAnyH_ready (rs := [9]) (by kernel_rfl) (by simp) ?_
              refine AllReadyH.cons (o := { dst := some 54, op := Go.Op.buildSlice 22 0 #[], type := 22, pos := "law.go:211", after := #[], guard := none }) rfl (fun K hK => ?_) AllReadyH.nil
              go_simp
              refine hK.out _ _ (by exact KEEPA.out _ _ hHeld) (fun hHeld2 => ?_)
              clear hK K hHeld
              have hHeld := hHeld2
              clear hHeld2
              try simp only [Act.put, List.setIfInBounds_toArray, List.set_cons_zero, List.set_cons_succ]
              refine wpAnyH_ready (rs := [11]) (by kernel_rfl) (by simp) ?_
              refine AllReadyH.cons (o := { dst := some 56, op := Go.Op.call { callee := Go.Callee.builtin Go.Builtin.append, args := #[Go.Operand.tmp 54, Go.Operand.tmp 55], argTypes := #[22, 22] }, type := 22, pos := "law.go:211", after := #[{ on := 9, ground := Go.Ground.data }, { on := 10, ground := Go.Ground.data }, { on := 8, ground := Go.Ground.chain }], guard := none }) rfl (fun K hK => ?_) AllReadyH.nil
              refine step_app2 rfl (.tmp 54) (.tmp 55) 22 rfl 5 0 _ 1 1 Try.underlying22 info5 rfl (by decide) (by decide) (.slice (some ⟨_, 0, none⟩) 0 0) 0 [] (by rfl) ?_ (some ⟨gb, 0, none⟩) (m + 1) c (L.map byteC) rfl ?_ ?_ one8 ?_ (Nat.zero_le _) ?_
              focus (refine made_row ?_; (repeat (first | (with_reducible exact row_new rfl) | (focus (refine row_new ?_; simp; done)) | (with_reducible refine row_old ?_) | (with_reducible refine row_drew ?_) | (with_reducible refine row_below hb2 ?_) | (with_reducible refine row_below hb3 ?_) | (with_reducible refine row_below BE4 ?_))); done)
              (rw [List.length_map, HN.out, Nat.mul_one])
              exact (RBB.out.below hHeld).holds.2
              omega
              intro v9 w4 hown hwent
              have BE4 := app_below (by omega) hown hwent
              obtain ⟨B4, d4, rfl, ob4, fr4, B34⟩ := app_zero (A := w3) (by (first | exact Below.refl _ _ | exact (Below.refl _ _).alloc (Nat.le_refl _) _ | exact ((Below.refl _ _).alloc (Nat.le_refl _) _).alloc (by simp) _ | exact B34 | exact B34.alloc B34.size _ | fail)) (by omega) hown hwent
              have hx4 : Below wr.heap.size wr w4 := KEEP.out _ _ B34 hx3
              clear hown hwent
              refine hK.out _ _ (by exact hx4) (fun hHeld2 => ?_)
              clear hK K hHeld
              have hHeld := hHeld2
              clear hHeld2
              try simp only [Act.put, List.setIfInBounds_toArray, List.set_cons_zero, List.set_cons_succ]
              refine wpAnyH_ready (rs := [13]) (by kernel_rfl) (by simp) ?_
              refine AllReadyH.cons (o := { dst := some 58, op := Go.Op.call { callee := Go.Callee.builtin Go.Builtin.append, args := #[Go.Operand.tmp 56, Go.Operand.tmp 57], argTypes := #[22, 22] }, type := 22, pos := "law.go:211", after := #[{ on := 11, ground := Go.Ground.data }, { on := 12, ground := Go.Ground.data }, { on := 11, ground := Go.Ground.chain }], guard := none }) rfl (fun K hK => ?_) AllReadyH.nil
              refine step_app2 rfl (.tmp 56) (.tmp 57) 22 rfl 5 0 _ 1 1 Try.underlying22 info5 rfl (by decide) (by decide) (.slice B4 (m + 1) d4) (m + 1) (L.map byteC) (by rfl) ?_ (some ⟨_, 0, none⟩) 1 1 [.int .u8 7] (by rfl) rfl ?_ ?_ ?_ (Nat.zero_le _) ?_
              (first | exact ob4 | exact own_keeps ob4 ((Kept.refl _ _).alloc _))
              focus (refine holds_row ?_; (repeat (first | (with_reducible exact row_new rfl) | (focus (refine row_new ?_; simp; done)) | (with_reducible refine row_old ?_) | (with_reducible refine row_drew ?_) | (with_reducible refine row_below hb2 ?_) | (with_reducible refine row_below hb3 ?_) | (with_reducible refine row_below BE4 ?_))); done)
              focus (intro u hu; obtain rfl := List.mem_singleton.1 hu; rfl)
              omega
              intro v10 w5 hown hwent
              have B35 : Below w3.heap.size w3 w5 := app_on (A := w3) (by (first | exact Below.refl _ _ | exact (Below.refl _ _).alloc (Nat.le_refl _) _ | exact ((Below.refl _ _).alloc (Nat.le_refl _) _).alloc (by simp) _ | exact B34 | exact B34.alloc B34.size _ | fail)) fr4 hwent
              have hx5 : Below wr.heap.size wr w5 := KEEP.out _ _ B35 hx3
              have ob5 : OB w5 v10 (L ++ [7]) := C4.out w5 v10 hown
              clear hown hwent
              refine hK.out _ _ (by exact hx5) (fun hHeld2 => ?_)
              clear hK K hHeld
              have hHeld := hHeld2
              clear hHeld2
              try simp only [Act.put, List.setIfInBounds_toArray, List.set_cons_zero, List.set_cons_succ]
              refine wpAnyH_ready (rs := [14]) (by kernel_rfl) (by simp) ?_
              refine AllReadyH.cons (o := { dst := some 59, op := Go.Op.call { callee := Go.Callee.value (Go.Operand.func 27), args := #[Go.Operand.tmp 58], argTypes := #[22] }, type := 58, pos := "law.go:211", after := #[{ on := 13, ground := Go.Ground.data }, { on := 13, ground := Go.Ground.chain }], guard := none }) rfl (fun K hK => ?_) AllReadyH.nil
              go_simp
              go_at_call 27
              (with_reducible refine (C3.out _ _ ob5).mono ?_)
              rintro e w6 ⟨t, rfl, hb6, hr6⟩
              refine hK.out _ _ (by exact KEEP.out _ _ hb6 hHeld) (fun hHeld2 => ?_)
              clear hK K hHeld
              have hHeld := hHeld2
              clear hHeld2
              try simp only [Act.put, List.setIfInBounds_toArray, List.set_cons_zero, List.set_cons_succ]
              refine wpAnyH_take (i := 15) (oi := { dst := some 5, op := Go.Op.assign (Go.Operand.tmp 46), type := 58, pos := "law.go:211", after := #[{ on := 1, ground := Go.Ground.data }, { on := 14, ground := Go.Ground.chain }, { on := 0, ground := Go.Ground.phase }, { on := 1, ground := Go.Ground.phase }, { on := 2, ground := Go.Ground.textOnly Go.Departure.lateStores }, { on := 3, ground := Go.Ground.textOnly Go.Departure.lateStores }, { on := 4, ground := Go.Ground.textOnly Go.Departure.lateStoresUnsure }, { on := 5, ground := Go.Ground.textOnly Go.Departure.lateStores }, { on := 6, ground := Go.Ground.textOnly Go.Departure.lateStoresUnsure }, { on := 7, ground := Go.Ground.textOnly Go.Departure.lateStoresUnsure }, { on := 8, ground := Go.Ground.textOnly Go.Departure.lateStoresUnsure }, { on := 9, ground := Go.Ground.textOnly Go.Departure.lateStores }, { on := 10, ground := Go.Ground.textOnly Go.Departure.lateStores }, { on := 11, ground := Go.Ground.textOnly Go.Departure.lateStoresUnsure }, { on := 12, ground := Go.Ground.textOnly Go.Departure.lateStores }, { on := 13, ground := Go.Ground.textOnly Go.Departure.lateStoresUnsure }, { on := 14, ground := Go.Ground.textOnly Go.Departure.lateStoresUnsure }], guard := none }) (v := ?_) rfl (by kernel_rfl) (by kernel_rfl) (by kernel_rfl) (fun _ _ _ h => h) (Or.inl ⟨by rfl, ?hy15_27⟩) (by assumption) ?rest15_27
              case hy15_27 => (intro w hSw; go_simp; try with_reducible rfl)
              try simp only [Act.put, List.setIfInBounds_toArray, List.set_cons_zero, List.set_cons_succ]
              refine wpAnyH_take (i := 16) (oi := { dst := some 6, op := Go.Op.assign (Go.Operand.tmp 53), type := 58, pos := "law.go:211", after := #[{ on := 8, ground := Go.Ground.data }, { on := 15, ground := Go.Ground.chain }, { on := 0, ground := Go.Ground.phase }, { on := 1, ground := Go.Ground.phase }, { on := 2, ground := Go.Ground.phase }, { on := 3, ground := Go.Ground.phase }, { on := 4, ground := Go.Ground.phase }, { on := 5, ground := Go.Ground.phase }, { on := 6, ground := Go.Ground.phase }, { on := 7, ground := Go.Ground.phase }, { on := 8, ground := Go.Ground.phase }, { on := 9, ground := Go.Ground.textOnly Go.Departure.lateStores }, { on := 10, ground := Go.Ground.textOnly Go.Departure.lateStores }, { on := 11, ground := Go.Ground.textOnly Go.Departure.lateStoresUnsure }, { on := 12, ground := Go.Ground.textOnly Go.Departure.lateStores }, { on := 13, ground := Go.Ground.textOnly Go.Departure.lateStoresUnsure }, { on := 14, ground := Go.Ground.textOnly Go.Departure.lateStoresUnsure }, { on := 15, ground := Go.Ground.phase }], guard := none }) (v := ?_) rfl (by kernel_rfl) (by kernel_rfl) (by kernel_rfl) (fun _ _ _ h => h) (Or.inl ⟨by rfl, ?hy16_28⟩) (by assumption) ?rest16_28
              case hy16_28 => (intro w hSw; go_simp; try with_reducible rfl)
              try simp only [Act.put, List.setIfInBounds_toArray, List.set_cons_zero, List.set_cons_succ]
              refine wpAnyH_take (i := 17) (oi := { dst := some 7, op := Go.Op.assign (Go.Operand.tmp 59), type := 58, pos := "law.go:211", after := #[{ on := 14, ground := Go.Ground.data }, { on := 16, ground := Go.Ground.chain }, { on := 0, ground := Go.Ground.phase }, { on := 1, ground := Go.Ground.phase }, { on := 2, ground := Go.Ground.phase }, { on := 3, ground := Go.Ground.phase }, { on := 4, ground := Go.Ground.phase }, { on := 5, ground := Go.Ground.phase }, { on := 6, ground := Go.Ground.phase }, { on := 7, ground := Go.Ground.phase }, { on := 8, ground := Go.Ground.phase }, { on := 9, ground := Go.Ground.phase }, { on := 10, ground := Go.Ground.phase }, { on := 11, ground := Go.Ground.phase }, { on := 12, ground := Go.Ground.phase }, { on := 13, ground := Go.Ground.phase }, { on := 14, ground := Go.Ground.phase }, { on := 15, ground := Go.Ground.phase }, { on := 16, ground := Go.Ground.phase }], guard := none }) (v := ?_) rfl (by kernel_rfl) (by kernel_rfl) (by kernel_rfl) (fun _ _ _ h => h) (Or.inl ⟨by rfl, ?hy17_29⟩) (by assumption) ?rest17_29
              case hy17_29 => (intro w hSw; go_simp; try with_reducible rfl)
              try simp only [Act.put, List.setIfInBounds_toArray, List.set_cons_zero, List.set_cons_succ]
              refine wpAnyH_done (by kernel_rfl) ?_ _
              refine NoPanic.normal ⟨rfl, ?_⟩
              try simp only [Act.put, List.setIfInBounds_toArray, List.set_cons_zero, List.set_cons_succ]
              exact ⟨r, s, t, w2.heap.size, w3.heap.size, _, _, _, _, _, _, _, _, _, _, _, _, _, _, _, rfl, HR2.out.below (chain B23 (chain B35 hb6)), HR3.out.below (chain B35 hb6), hr6.mono (fun b hb => Nat.le_trans B35.size hb.1), KEEP.out _ _ hb6 hx5⟩
            · go_simp
              refine hK.out _ _ (by exact KEEPA.out _ _ hHeld) (fun hHeld2 => ?_)
              clear hK K hHeld
              have hHeld := hHeld2
              clear hHeld2
              try simp only [Act.put, List.setIfInBounds_toArray, List.set_cons_zero, List.set_cons_succ]
              refine wpAnyH_ready (rs := [8]) (by kernel_rfl) (by simp) ?_
              refine AllReadyH.cons (o := { dst := some 53, op := Go.Op.call { callee := Go.Callee.value (Go.Operand.func 27), args := #[Go.Operand.tmp 52], argTypes := #[22] }, type := 58, pos := "law.go:211", after := #[{ on := 7, ground := Go.Ground.data }, { on := 1, ground := Go.Ground.chain }], guard := none }) rfl (fun K hK => ?_) AllReadyH.nil
              go_simp
              go_at_call 27
              (with_reducible refine (C2.out _ hHeld).mono ?_)
              rintro e w3 ⟨s, rfl, hb3, hr3⟩
              have B23 : Below w2.heap.size w2 w3 := chain (by (first | exact Below.refl _ _ | exact (Below.refl _ _).alloc (Nat.le_refl _) _ | exact ((Below.refl _ _).alloc (Nat.le_refl _) _).alloc (by simp) _ | exact B34 | exact B34.alloc B34.size _ | fail)) hb3
              have HR3 : Hid (Rd 82 w3 s (L.take m) (fun b => w2.heap.size ≤ b ∧ b < w3.heap.size)) := rd_up (by (first | exact Below.refl _ _ | exact (Below.refl _ _).alloc (Nat.le_refl _) _ | exact ((Below.refl _ _).alloc (Nat.le_refl _) _).alloc (by simp) _ | exact B34 | exact B34.alloc B34.size _ | fail)) hr3
              have hx3 : Below wr.heap.size wr w3 := KEEP.out _ _ hb3 hHeld
              refine hK.out _ _ (by exact hx3) (fun hHeld2 => ?_)
              clear hK K hHeld
              have hHeld := hHeld2
              clear hHeld2
              try simp only [Act.put, List.setIfInBounds_toArray, List.set_cons_zero, List.set_cons_succ]
              refine wpAnyH_ready (rs := [11]) (by kernel_rfl) (by simp) ?_
              refine AllReadyH.cons (o := { dst := some 56, op := Go.Op.call { callee := Go.Callee.builtin Go.Builtin.append, args := #[Go.Operand.tmp 54, Go.Operand.tmp 55], argTypes := #[22, 22] }, type := 22, pos := "law.go:211", after := #[{ on := 9, ground := Go.Ground.data }, { on := 10, ground := Go.Ground.data }, { on := 8, ground := Go.Ground.chain }], guard := none }) rfl (fun K hK => ?_) AllReadyH.nil
              refine step_app2 rfl (.tmp 54) (.tmp 55) 22 rfl 5 0 _ 1 1 Try.underlying22 info5 rfl (by decide) (by decide) (.slice (some ⟨_, 0, none⟩) 0 0) 0 [] (by rfl) ?_ (some ⟨gb, 0, none⟩) (m + 1) c (L.map byteC) rfl ?_ ?_ one8 ?_ (Nat.zero_le _) ?_
              focus (refine made_row ?_; (repeat (first | (with_reducible exact row_new rfl) | (focus (refine row_new ?_; simp; done)) | (with_reducible refine row_old ?_) | (with_reducible refine row_drew ?_) | (with_reducible refine row_below hb2 ?_) | (with_reducible refine row_below hb3 ?_) | (with_reducible refine row_below BE4 ?_))); done)
              (rw [List.length_map, HN.out, Nat.mul_one])
              exact (RBB.out.below hHeld).holds.2
              omega
              intro v9 w4 hown hwent
              have BE4 := app_below (by omega) hown hwent
              obtain ⟨B4, d4, rfl, ob4, fr4, B34⟩ := app_zero (A := w3) (by (first | exact Below.refl _ _ | exact (Below.refl _ _).alloc (Nat.le_refl _) _ | exact ((Below.refl _ _).alloc (Nat.le_refl _) _).alloc (by simp) _ | exact B34 | exact B34.alloc B34.size _ | fail)) (by omega) hown hwent
              have hx4 : Below wr.heap.size wr w4 := KEEP.out _ _ B34 hx3
              clear hown hwent
              refine hK.out _ _ (by exact hx4) (fun hHeld2 => ?_)
              clear hK K hHeld
              have hHeld := hHeld2
              clear hHeld2
              try simp only [Act.put, List.setIfInBounds_toArray, List.set_cons_zero, List.set_cons_succ]
              refine wpAnyH_ready (rs := [13]) (by kernel_rfl) (by simp) ?_
              refine AllReadyH.cons (o := { dst := some 58, op := Go.Op.call { callee := Go.Callee.builtin Go.Builtin.append, args := #[Go.Operand.tmp 56, Go.Operand.tmp 57], argTypes := #[22, 22] }, type := 22, pos := "law.go:211", after := #[{ on := 11, ground := Go.Ground.data }, { on := 12, ground := Go.Ground.data }, { on := 11, ground := Go.Ground.chain }], guard := none }) rfl (fun K hK => ?_) AllReadyH.nil
              refine step_app2 rfl (.tmp 56) (.tmp 57) 22 rfl 5 0 _ 1 1 Try.underlying22 info5 rfl (by decide) (by decide) (.slice B4 (m + 1) d4) (m + 1) (L.map byteC) (by rfl) ?_ (some ⟨_, 0, none⟩) 1 1 [.int .u8 7] (by rfl) rfl ?_ ?_ ?_ (Nat.zero_le _) ?_
              (first | exact ob4 | exact own_keeps ob4 ((Kept.refl _ _).alloc _))
              focus (refine holds_row ?_; (repeat (first | (with_reducible exact row_new rfl) | (focus (refine row_new ?_; simp; done)) | (with_reducible refine row_old ?_) | (with_reducible refine row_drew ?_) | (with_reducible refine row_below hb2 ?_) | (with_reducible refine row_below hb3 ?_) | (with_reducible refine row_below BE4 ?_))); done)
              focus (intro u hu; obtain rfl := List.mem_singleton.1 hu; rfl)
              omega
              intro v10 w5 hown hwent
              have B35 : Below w3.heap.size w3 w5 := app_on (A := w3) (by (first | exact Below.refl _ _ | exact (Below.refl _ _).alloc (Nat.le_refl _) _ | exact ((Below.refl _ _).alloc (Nat.le_refl _) _).alloc (by simp) _ | exact B34 | exact B34.alloc B34.size _ | fail)) fr4 hwent
              have hx5 : Below wr.heap.size wr w5 := KEEP.out _ _ B35 hx3
              have ob5 : OB w5 v10 (L ++ [7]) := C4.out w5 v10 hown
              clear hown hwent
              refine hK.out _ _ (by exact hx5) (fun hHeld2 => ?_)
              clear hK K hHeld
              have hHeld := hHeld2
              clear hHeld2
              try simp only [Act.put, List.setIfInBounds_toArray, List.set_cons_zero, List.set_cons_succ]
              refine wpAnyH_ready (rs := [14]) (by kernel_rfl) (by simp) ?_
              refine AllReadyH.cons (o := { dst := some 59, op := Go.Op.call { callee := Go.Callee.value (Go.Operand.func 27), args := #[Go.Operand.tmp 58], argTypes := #[22] }, type := 58, pos := "law.go:211", after := #[{ on := 13, ground := Go.Ground.data }, { on := 13, ground := Go.Ground.chain }], guard := none }) rfl (fun K hK => ?_) AllReadyH.nil
              go_simp
              go_at_call 27
              (with_reducible refine (C3.out _ _ ob5).mono ?_)
              rintro e w6 ⟨t, rfl, hb6, hr6⟩
              refine hK.out _ _ (by exact KEEP.out _ _ hb6 hHeld) (fun hHeld2 => ?_)
              clear hK K hHeld
              have hHeld := hHeld2
              clear hHeld2
              try simp only [Act.put, List.setIfInBounds_toArray, List.set_cons_zero, List.set_cons_succ]
              refine wpAnyH_take (i := 15) (oi := { dst := some 5, op := Go.Op.assign (Go.Operand.tmp 46), type := 58, pos := "law.go:211", after := #[{ on := 1, ground := Go.Ground.data }, { on := 14, ground := Go.Ground.chain }, { on := 0, ground := Go.Ground.phase }, { on := 1, ground := Go.Ground.phase }, { on := 2, ground := Go.Ground.textOnly Go.Departure.lateStores }, { on := 3, ground := Go.Ground.textOnly Go.Departure.lateStores }, { on := 4, ground := Go.Ground.textOnly Go.Departure.lateStoresUnsure }, { on := 5, ground := Go.Ground.textOnly Go.Departure.lateStores }, { on := 6, ground := Go.Ground.textOnly Go.Departure.lateStoresUnsure }, { on := 7, ground := Go.Ground.textOnly Go.Departure.lateStoresUnsure }, { on := 8, ground := Go.Ground.textOnly Go.Departure.lateStoresUnsure }, { on := 9, ground := Go.Ground.textOnly Go.Departure.lateStores }, { on := 10, ground := Go.Ground.textOnly Go.Departure.lateStores }, { on := 11, ground := Go.Ground.textOnly Go.Departure.lateStoresUnsure }, { on := 12, ground := Go.Ground.textOnly Go.Departure.lateStores }, { on := 13, ground := Go.Ground.textOnly Go.Departure.lateStoresUnsure }, { on := 14, ground := Go.Ground.textOnly Go.Departure.lateStoresUnsure }], guard := none }) (v := ?_) rfl (by kernel_rfl) (by kernel_rfl) (by kernel_rfl) (fun _ _ _ h => h) (Or.inl ⟨by rfl, ?hy15_30⟩) (by assumption) ?rest15_30
              case hy15_30 => (intro w hSw; go_simp; try with_reducible rfl)
              try simp only [Act.put, List.setIfInBounds_toArray, List.set_cons_zero, List.set_cons_succ]
              refine wpAnyH_take (i := 16) (oi := { dst := some 6, op := Go.Op.assign (Go.Operand.tmp 53), type := 58, pos := "law.go:211", after := #[{ on := 8, ground := Go.Ground.data }, { on := 15, ground := Go.Ground.chain }, { on := 0, ground := Go.Ground.phase }, { on := 1, ground := Go.Ground.phase }, { on := 2, ground := Go.Ground.phase }, { on := 3, ground := Go.Ground.phase }, { on := 4, ground := Go.Ground.phase }, { on := 5, ground := Go.Ground.phase }, { on := 6, ground := Go.Ground.phase }, { on := 7, ground := Go.Ground.phase }, { on := 8, ground := Go.Ground.phase }, { on := 9, ground := Go.Ground.textOnly Go.Departure.lateStores }, { on := 10, ground := Go.Ground.textOnly Go.Departure.lateStores }, { on := 11, ground := Go.Ground.textOnly Go.Departure.lateStoresUnsure }, { on := 12, ground := Go.Ground.textOnly Go.Departure.lateStores }, { on := 13, ground := Go.Ground.textOnly Go.Departure.lateStoresUnsure }, { on := 14, ground := Go.Ground.textOnly Go.Departure.lateStoresUnsure }, { on := 15, ground := Go.Ground.phase }], guard := none }) (v := ?_) rfl (by kernel_rfl) (by kernel_rfl) (by kernel_rfl) (fun _ _ _ h => h) (Or.inl ⟨by rfl, ?hy16_31⟩) (by assumption) ?rest16_31
              case hy16_31 => (intro w hSw; go_simp; try with_reducible rfl)
              try simp only [Act.put, List.setIfInBounds_toArray, List.set_cons_zero, List.set_cons_succ]
              refine wpAnyH_take (i := 17) (oi := { dst := some 7, op := Go.Op.assign (Go.Operand.tmp 59), type := 58, pos := "law.go:211", after := #[{ on := 14, ground := Go.Ground.data }, { on := 16, ground := Go.Ground.chain }, { on := 0, ground := Go.Ground.phase }, { on := 1, ground := Go.Ground.phase }, { on := 2, ground := Go.Ground.phase }, { on := 3, ground := Go.Ground.phase }, { on := 4, ground := Go.Ground.phase }, { on := 5, ground := Go.Ground.phase }, { on := 6, ground := Go.Ground.phase }, { on := 7, ground := Go.Ground.phase }, { on := 8, ground := Go.Ground.phase }, { on := 9, ground := Go.Ground.phase }, { on := 10, ground := Go.Ground.phase }, { on := 11, ground := Go.Ground.phase }, { on := 12, ground := Go.Ground.phase }, { on := 13, ground := Go.Ground.phase }, { on := 14, ground := Go.Ground.phase }, { on := 15, ground := Go.Ground.phase }, { on := 16, ground := Go.Ground.phase }], guard := none }) (v := ?_) rfl (by kernel_rfl) (by kernel_rfl) (by kernel_rfl) (fun _ _ _ h => h) (Or.inl ⟨by rfl, ?hy17_32⟩) (by assumption) ?rest17_32
              case hy17_32 => (intro w hSw; go_simp; try with_reducible rfl)
              try simp only [Act.put, List.setIfInBounds_toArray, List.set_cons_zero, List.set_cons_succ]
              refine wpAnyH_done (by kernel_rfl) ?_ _
              refine NoPanic.normal ⟨rfl, ?_⟩
              try simp only [Act.put, List.setIfInBounds_toArray, List.set_cons_zero, List.set_cons_succ]
              exact ⟨r, s, t, w2.heap.size, w3.heap.size, _, _, _, _, _, _, _, _, _, _, _, _, _, _, _, rfl, HR2.out.below (chain B23 (chain B35 hb6)), HR3.out.below (chain B35 hb6), hr6.mono (fun b hb => Nat.le_trans B35.size hb.1), KEEP.out _ _ hb6 hx5⟩
        · go_simp
          refine hK.out _ _ (by exact KEEPA.out _ _ hHeld) (fun hHeld2 => ?_)
          clear hK K hHeld
          have hHeld := hHeld2
          clear hHeld2
          try simp only [Act.put, List.setIfInBounds_toArray, List.set_cons_zero, List.set_cons_succ]
          refine wpAnyH_ready (rs := [1, 12]) (by kernel_rfl) (by simp) ?_
          refine AllReadyH.cons (o := { dst := some 46, op := Go.Op.call { callee := Go.Callee.value (Go.Operand.func 27), args := #[Go.Operand.tmp 45], argTypes := #[22] }, type := 58, pos := "law.go:211", after := #[{ on := 0, ground := Go.Ground.data }], guard := none }) rfl (fun K hK => ?_) (AllReadyH.cons (o := { dst := some 57, op := Go.Op.buildSlice 22 1 #[(0, Go.Operand.const (Go.Value.int Go.IntKind.u8 7))], type := 22, pos := "law.go:211", after := #[], guard := none }) rfl (fun K hK => ?_) AllReadyH.nil)
          · go_simp
            go_at_call 27
            (with_reducible refine (C1.out _ hHeld).mono ?_)
            rintro e w2 ⟨r, rfl, hb2, hr2⟩
            have HR2 : Hid (Rd 82 w2 r L (fun b => wr.heap.size ≤ b ∧ b < w2.heap.size)) := rd_up hHeld hr2
            have hx2 := KEEP.out _ _ hb2 hHeld
            refine hK.out _ _ (by exact hx2) (fun hHeld2 => ?_)
            clear hK K hHeld
            have hHeld := hHeld2
            clear hHeld2
            try simp only [Act.put, List.setIfInBounds_toArray, List.set_cons_zero, List.set_cons_succ]
            refine wpAnyH_ready (rs := [8, 12]) (by kernel_rfl) (by simp) ?_
            refine AllReadyH.cons (o := { dst := some 53, op := Go.Op.call { callee := Go.Callee.value (Go.Operand.func 27), args := #[Go.Operand.tmp 52], argTypes := #[22] }, type := 58, pos := "law.go:211", after := #[{ on := 7, ground := Go.Ground.data }, { on := 1, ground := Go.Ground.chain }], guard := none }) rfl (fun K hK => ?_) (AllReadyH.cons (o := { dst := some 57, op := Go.Op.buildSlice 22 1 #[(0, Go.Operand.const (Go.Value.int Go.IntKind.u8 7))], type := 22, pos := "law.go:211", after := #[], guard := none }) rfl (fun K hK => ?_) AllReadyH.nil)
            · go_simp
              go_at_call 27
              (with_reducible refine (C2.out _ hHeld).mono ?_)
              rintro e w3 ⟨s, rfl, hb3, hr3⟩
              have B23 : Below w2.heap.size w2 w3 := chain (by (first | exact Below.refl _ _ | exact (Below.refl _ _).alloc (Nat.le_refl _) _ | exact ((Below.refl _ _).alloc (Nat.le_refl _) _).alloc (by simp) _ | exact B34 | exact B34.alloc B34.size _ | fail)) hb3
              have HR3 : Hid (Rd 82 w3 s (L.take m) (fun b => w2.heap.size ≤ b ∧ b < w3.heap.size)) := rd_up (by (first | exact Below.refl _ _ | exact (Below.refl _ _).alloc (Nat.le_refl _) _ | exact ((Below.refl _ _).alloc (Nat.le_refl _) _).alloc (by simp) _ | exact B34 | exact B34.alloc B34.size _ | fail)) hr3
              have hx3 : Below wr.heap.size wr w3 := KEEP.out _ _ hb3 hHeld
              refine hK.out _ _ (by exact hx3) (fun hHeld2 => ?_)
              clear hK K hHeld
              have hHeld := hHeld2
              clear hHeld2
              try simp only [Act.put, List.setIfInBounds_toArray, List.set_cons_zero, List.set_cons_succ]
              refine wpAnyH_ready (rs := [11, 12]) (by kernel_rfl) (by simp) ?_
              refine AllReadyH.cons (o := { dst := some 56, op := Go.Op.call { callee := Go.Callee.builtin Go.Builtin.append, args := #[Go.Operand.tmp 54, Go.Operand.tmp 55], argTypes := #[22, 22] }, type := 22, pos := "law.go:211", after := #[{ on := 9, ground := Go.Ground.data }, { on := 10, ground := Go.Ground.data }, { on := 8, ground := Go.Ground.chain }], guard := none }) rfl (fun K hK => ?_) (AllReadyH.cons (o := { dst := some 57, op := Go.Op.buildSlice 22 1 #[(0, Go.Operand.const (Go.Value.int Go.IntKind.u8 7))], type := 22, pos := "law.go:211", after := #[], guard := none }) rfl (fun K hK => ?_) AllReadyH.nil)
              · refine step_app2 rfl (.tmp 54) (.tmp 55) 22 rfl 5 0 _ 1 1 Try.underlying22 info5 rfl (by decide) (by decide) (.slice (some ⟨_, 0, none⟩) 0 0) 0 [] (by rfl) ?_ (some ⟨gb, 0, none⟩) (m + 1) c (L.map byteC) rfl ?_ ?_ one8 ?_ (Nat.zero_le _) ?_
                focus (refine made_row ?_; (repeat (first | (with_reducible exact row_new rfl) | (focus (refine row_new ?_; simp; done)) | (with_reducible refine row_old ?_) | (with_reducible refine row_drew ?_) | (with_reducible refine row_below hb2 ?_) | (with_reducible refine row_below hb3 ?_) | (with_reducible refine row_below BE4 ?_))); done)
                (rw [List.length_map, HN.out, Nat.mul_one])
                exact (RBB.out.below hHeld).holds.2
                omega
                intro v9 w4 hown hwent
                have BE4 := app_below (by omega) hown hwent
                obtain ⟨B4, d4, rfl, ob4, fr4, B34⟩ := app_zero (A := w3) (by (first | exact Below.refl _ _ | exact (Below.refl _ _).alloc (Nat.le_refl _) _ | exact ((Below.refl _ _).alloc (Nat.le_refl _) _).alloc (by simp) _ | exact B34 | exact B34.alloc B34.size _ | fail)) (by omega) hown hwent
                have hx4 : Below wr.heap.size wr w4 := KEEP.out _ _ B34 hx3
                clear hown hwent
                refine hK.out _ _ (by exact hx4) (fun hHeld2 => ?_)
                clear hK K hHeld
                have hHeld := hHeld2
                clear hHeld2
                try simp only [Act.put, List.setIfInBounds_toArray, List.set_cons_zero, List.set_cons_succ]
                refine wpAnyH_ready (rs := [12]) (by kernel_rfl) (by simp) ?_
                refine AllReadyH.cons (o := { dst := some 57, op := Go.Op.buildSlice 22 1 #[(0, Go.Operand.const (Go.Value.int Go.IntKind.u8 7))], type := 22, pos := "law.go:211", after := #[], guard := none }) rfl (fun K hK => ?_) AllReadyH.nil
                go_simp
                refine hK.out _ _ (by exact KEEPA.out _ _ hHeld) (fun hHeld2 => ?_)
                clear hK K hHeld
                have hHeld := hHeld2
                clear hHeld2
                try simp only [Act.put, List.setIfInBounds_toArray, List.set_cons_zero, List.set_cons_succ]
                refine wpAnyH_ready (rs := [13]) (by kernel_rfl) (by simp) ?_
                refine AllReadyH.cons (o := { dst := some 58, op := Go.Op.call { callee := Go.Callee.builtin Go.Builtin.append, args := #[Go.Operand.tmp 56, Go.Operand.tmp 57], argTypes := #[22, 22] }, type := 22, pos := "law.go:211", after := #[{ on := 11, ground := Go.Ground.data }, { on := 12, ground := Go.Ground.data }, { on := 11, ground := Go.Ground.chain }], guard := none }) rfl (fun K hK => ?_) AllReadyH.nil
                refine step_app2 rfl (.tmp 56) (.tmp 57) 22 rfl 5 0 _ 1 1 Try.underlying22 info5 rfl (by decide) (by decide) (.slice B4 (m + 1) d4) (m + 1) (L.map byteC) (by rfl) ?_ (some ⟨_, 0, none⟩) 1 1 [.int .u8 7] (by rfl) rfl ?_ ?_ ?_ (Nat.zero_le _) ?_
                (first | exact ob4 | exact own_keeps ob4 ((Kept.refl _ _).alloc _))
                focus (refine holds_row ?_; (repeat (first | (with_reducible exact row_new rfl) | (focus (refine row_new ?_; simp; done)) | (with_reducible refine row_old ?_) | (with_reducible refine row_drew ?_) | (with_reducible refine row_below hb2 ?_) | (with_reducible refine row_below hb3 ?_) | (with_reducible refine row_below BE4 ?_))); done)
                focus (intro u hu; obtain rfl := List.mem_singleton.1 hu; rfl)
                omega
                intro v10 w5 hown hwent
                have B35 : Below w3.heap.size w3 w5 := app_on (A := w3) (by (first | exact Below.refl _ _ | exact (Below.refl _ _).alloc (Nat.le_refl _) _ | exact ((Below.refl _ _).alloc (Nat.le_refl _) _).alloc (by simp) _ | exact B34 | exact B34.alloc B34.size _ | fail)) fr4 hwent
                have hx5 : Below wr.heap.size wr w5 := KEEP.out _ _ B35 hx3
                have ob5 : OB w5 v10 (L ++ [7]) := C4.out w5 v10 hown
                clear hown hwent
                refine hK.out _ _ (by exact hx5) (fun hHeld2 => ?_)
                clear hK K hHeld
                have hHeld := hHeld2
                clear hHeld2
                try simp only [Act.put, List.setIfInBounds_toArray, List.set_cons_zero, List.set_cons_succ]
                refine wpAnyH_ready (rs := [14]) (by kernel_rfl) (by simp) ?_
                refine AllReadyH.cons (o := { dst := some 59, op := Go.Op.call { callee := Go.Callee.value (Go.Operand.func 27), args := #[Go.Operand.tmp 58], argTypes := #[22] }, type := 58, pos := "law.go:211", after := #[{ on := 13, ground := Go.Ground.data }, { on := 13, ground := Go.Ground.chain }], guard := none }) rfl (fun K hK => ?_) AllReadyH.nil
                go_simp
                go_at_call 27
                (with_reducible refine (C3.out _ _ ob5).mono ?_)
                rintro e w6 ⟨t, rfl, hb6, hr6⟩
                refine hK.out _ _ (by exact KEEP.out _ _ hb6 hHeld) (fun hHeld2 => ?_)
                clear hK K hHeld
                have hHeld := hHeld2
                clear hHeld2
                try simp only [Act.put, List.setIfInBounds_toArray, List.set_cons_zero, List.set_cons_succ]
                refine wpAnyH_take (i := 15) (oi := { dst := some 5, op := Go.Op.assign (Go.Operand.tmp 46), type := 58, pos := "law.go:211", after := #[{ on := 1, ground := Go.Ground.data }, { on := 14, ground := Go.Ground.chain }, { on := 0, ground := Go.Ground.phase }, { on := 1, ground := Go.Ground.phase }, { on := 2, ground := Go.Ground.textOnly Go.Departure.lateStores }, { on := 3, ground := Go.Ground.textOnly Go.Departure.lateStores }, { on := 4, ground := Go.Ground.textOnly Go.Departure.lateStoresUnsure }, { on := 5, ground := Go.Ground.textOnly Go.Departure.lateStores }, { on := 6, ground := Go.Ground.textOnly Go.Departure.lateStoresUnsure }, { on := 7, ground := Go.Ground.textOnly Go.Departure.lateStoresUnsure }, { on := 8, ground := Go.Ground.textOnly Go.Departure.lateStoresUnsure }, { on := 9, ground := Go.Ground.textOnly Go.Departure.lateStores }, { on := 10, ground := Go.Ground.textOnly Go.Departure.lateStores }, { on := 11, ground := Go.Ground.textOnly Go.Departure.lateStoresUnsure }, { on := 12, ground := Go.Ground.textOnly Go.Departure.lateStores }, { on := 13, ground := Go.Ground.textOnly Go.Departure.lateStoresUnsure }, { on := 14, ground := Go.Ground.textOnly Go.Departure.lateStoresUnsure }], guard := none }) (v := ?_) rfl (by kernel_rfl) (by kernel_rfl) (by kernel_rfl) (fun _ _ _ h => h) (Or.inl ⟨by rfl, ?hy15_33⟩) (by assumption) ?rest15_33
                case hy15_33 => (intro w hSw; go_simp; try with_reducible rfl)
                try simp only [Act.put, List.setIfInBounds_toArray, List.set_cons_zero, List.set_cons_succ]
                refine wpAnyH_take (i := 16) (oi := { dst := some 6, op := Go.Op.assign (Go.Operand.tmp 53), type := 58, pos := "law.go:211", after := #[{ on := 8, ground := Go.Ground.data }, { on := 15, ground := Go.Ground.chain }, { on := 0, ground := Go.Ground.phase }, { on := 1, ground := Go.Ground.phase }, { on := 2, ground := Go.Ground.phase }, { on := 3, ground := Go.Ground.phase }, { on := 4, ground := Go.Ground.phase }, { on := 5, ground := Go.Ground.phase }, { on := 6, ground := Go.Ground.phase }, { on := 7, ground := Go.Ground.phase }, { on := 8, ground := Go.Ground.phase }, { on := 9, ground := Go.Ground.textOnly Go.Departure.lateStores }, { on := 10, ground := Go.Ground.textOnly Go.Departure.lateStores }, { on := 11, ground := Go.Ground.textOnly Go.Departure.lateStoresUnsure }, { on := 12, ground := Go.Ground.textOnly Go.Departure.lateStores }, { on := 13, ground := Go.Ground.textOnly Go.Departure.lateStoresUnsure }, { on := 14, ground := Go.Ground.textOnly Go.Departure.lateStoresUnsure }, { on := 15, ground := Go.Ground.phase }], guard := none }) (v := ?_) rfl (by kernel_rfl) (by kernel_rfl) (by kernel_rfl) (fun _ _ _ h => h) (Or.inl ⟨by rfl, ?hy16_34⟩) (by assumption) ?rest16_34
                case hy16_34 => (intro w hSw; go_simp; try with_reducible rfl)
                try simp only [Act.put, List.setIfInBounds_toArray, List.set_cons_zero, List.set_cons_succ]
                refine wpAnyH_take (i := 17) (oi := { dst := some 7, op := Go.Op.assign (Go.Operand.tmp 59), type := 58, pos := "law.go:211", after := #[{ on := 14, ground := Go.Ground.data }, { on := 16, ground := Go.Ground.chain }, { on := 0, ground := Go.Ground.phase }, { on := 1, ground := Go.Ground.phase }, { on := 2, ground := Go.Ground.phase }, { on := 3, ground := Go.Ground.phase }, { on := 4, ground := Go.Ground.phase }, { on := 5, ground := Go.Ground.phase }, { on := 6, ground := Go.Ground.phase }, { on := 7, ground := Go.Ground.phase }, { on := 8, ground := Go.Ground.phase }, { on := 9, ground := Go.Ground.phase }, { on := 10, ground := Go.Ground.phase }, { on := 11, ground := Go.Ground.phase }, { on := 12, ground := Go.Ground.phase }, { on := 13, ground := Go.Ground.phase }, { on := 14, ground := Go.Ground.phase }, { on := 15, ground := Go.Ground.phase }, { on := 16, ground := Go.Ground.phase }], guard := none }) (v := ?_) rfl (by kernel_rfl) (by kernel_rfl) (by kernel_rfl) (fun _ _ _ h => h) (Or.inl ⟨by rfl, ?hy17_35⟩) (by assumption) ?rest17_35
                case hy17_35 => (intro w hSw; go_simp; try with_reducible rfl)
                try simp only [Act.put, List.setIfInBounds_toArray, List.set_cons_zero, List.set_cons_succ]
                refine wpAnyH_done (by kernel_rfl) ?_ _
                refine NoPanic.normal ⟨rfl, ?_⟩
                try simp only [Act.put, List.setIfInBounds_toArray, List.set_cons_zero, List.set_cons_succ]
                exact ⟨r, s, t, w2.heap.size, w3.heap.size, _, _, _, _, _, _, _, _, _, _, _, _, _, _, _, rfl, HR2.out.below (chain B23 (chain B35 hb6)), HR3.out.below (chain B35 hb6), hr6.mono (fun b hb => Nat.le_trans B35.size hb.1), KEEP.out _ _ hb6 hx5⟩
              · go_simp
                refine hK.out _ _ (by exact KEEPA.out _ _ hHeld) (fun hHeld2 => ?_)
                clear hK K hHeld
                have hHeld := hHeld2
                clear hHeld2
                try simp only [Act.put, List.setIfInBounds_toArray, List.set_cons_zero, List.set_cons_succ]
                refine wpAnyH_ready (rs := [11]) (by kernel_rfl) (by simp) ?_
                refine AllReadyH.cons (o := { dst := some 56, op := Go.Op.call { callee := Go.Callee.builtin Go.Builtin.append, args := #[Go.Operand.tmp 54, Go.Operand.tmp 55], argTypes := #[22, 22] }, type := 22, pos := "law.go:211", after := #[{ on := 9, ground := Go.Ground.data }, { on := 10, ground := Go.Ground.data }, { on := 8, ground := Go.Ground.chain }], guard := none }) rfl (fun K hK => ?_) AllReadyH.nil
                refine step_app2 rfl (.tmp 54) (.tmp 55) 22 rfl 5 0 _ 1 1 Try.underlying22 info5 rfl (by decide) (by decide) (.slice (some ⟨_, 0, none⟩) 0 0) 0 [] (by rfl) ?_ (some ⟨gb, 0, none⟩) (m + 1) c (L.map byteC) rfl ?_ ?_ one8 ?_ (Nat.zero_le _) ?_
                focus (refine made_row ?_; (repeat (first | (with_reducible exact row_new rfl) | (focus (refine row_new ?_; simp; done)) | (with_reducible refine row_old ?_) | (with_reducible refine row_drew ?_) | (with_reducible refine row_below hb2 ?_) | (with_reducible refine row_below hb3 ?_) | (with_reducible refine row_below BE4 ?_))); done)
                (rw [List.length_map, HN.out, Nat.mul_one])
                exact (RBB.out.below hHeld).holds.2
                omega
                intro v9 w4 hown hwent
                have BE4 := app_below (by omega) hown hwent
                obtain ⟨B4, d4, rfl, ob4, fr4, B34⟩ := app_zero (A := w3) (by (first | exact Below.refl _ _ | exact (Below.refl _ _).alloc (Nat.le_refl _) _ | exact ((Below.refl _ _).alloc (Nat.le_refl _) _).alloc (by simp) _ | exact B34 | exact B34.alloc B34.size _ | fail)) (by omega) hown hwent
                have hx4 : Below wr.heap.size wr w4 := KEEP.out _ _ B34 hx3
                clear hown hwent
                refine hK.out _ _ (by exact hx4) (fun hHeld2 => ?_)
                clear hK K hHeld
                have hHeld := hHeld2
                clear hHeld2
                try simp only [Act.put, List.setIfInBounds_toArray, List.set_cons_zero, List.set_cons_succ]
                refine wpAnyH_ready (rs := [13]) (by kernel_rfl) (by simp) ?_
                refine AllReadyH.cons (o := { dst := some 58, op := Go.Op.call { callee := Go.Callee.builtin Go.Builtin.append, args := #[Go.Operand.tmp 56, Go.Operand.tmp 57], argTypes := #[22, 22] }, type := 22, pos := "law.go:211", after := #[{ on := 11, ground := Go.Ground.data }, { on := 12, ground := Go.Ground.data }, { on := 11, ground := Go.Ground.chain }], guard := none }) rfl (fun K hK => ?_) AllReadyH.nil
                refine step_app2 rfl (.tmp 56) (.tmp 57) 22 rfl 5 0 _ 1 1 Try.underlying22 info5 rfl (by decide) (by decide) (.slice B4 (m + 1) d4) (m + 1) (L.map byteC) (by rfl) ?_ (some ⟨_, 0, none⟩) 1 1 [.int .u8 7] (by rfl) rfl ?_ ?_ ?_ (Nat.zero_le _) ?_
                (first | exact ob4 | exact own_keeps ob4 ((Kept.refl _ _).alloc _))
                focus (refine holds_row ?_; (repeat (first | (with_reducible exact row_new rfl) | (focus (refine row_new ?_; simp; done)) | (with_reducible refine row_old ?_) | (with_reducible refine row_drew ?_) | (with_reducible refine row_below hb2 ?_) | (with_reducible refine row_below hb3 ?_) | (with_reducible refine row_below BE4 ?_))); done)
                focus (intro u hu; obtain rfl := List.mem_singleton.1 hu; rfl)
                omega
                intro v10 w5 hown hwent
                have B35 : Below w3.heap.size w3 w5 := app_on (A := w3) (by (first | exact Below.refl _ _ | exact (Below.refl _ _).alloc (Nat.le_refl _) _ | exact ((Below.refl _ _).alloc (Nat.le_refl _) _).alloc (by simp) _ | exact B34 | exact B34.alloc B34.size _ | fail)) fr4 hwent
                have hx5 : Below wr.heap.size wr w5 := KEEP.out _ _ B35 hx3
                have ob5 : OB w5 v10 (L ++ [7]) := C4.out w5 v10 hown
                clear hown hwent
                refine hK.out _ _ (by exact hx5) (fun hHeld2 => ?_)
                clear hK K hHeld
                have hHeld := hHeld2
                clear hHeld2
                try simp only [Act.put, List.setIfInBounds_toArray, List.set_cons_zero, List.set_cons_succ]
                refine wpAnyH_ready (rs := [14]) (by kernel_rfl) (by simp) ?_
                refine AllReadyH.cons (o := { dst := some 59, op := Go.Op.call { callee := Go.Callee.value (Go.Operand.func 27), args := #[Go.Operand.tmp 58], argTypes := #[22] }, type := 58, pos := "law.go:211", after := #[{ on := 13, ground := Go.Ground.data }, { on := 13, ground := Go.Ground.chain }], guard := none }) rfl (fun K hK => ?_) AllReadyH.nil
                go_simp
                go_at_call 27
                (with_reducible refine (C3.out _ _ ob5).mono ?_)
                rintro e w6 ⟨t, rfl, hb6, hr6⟩
                refine hK.out _ _ (by exact KEEP.out _ _ hb6 hHeld) (fun hHeld2 => ?_)
                clear hK K hHeld
                have hHeld := hHeld2
                clear hHeld2
                try simp only [Act.put, List.setIfInBounds_toArray, List.set_cons_zero, List.set_cons_succ]
                refine wpAnyH_take (i := 15) (oi := { dst := some 5, op := Go.Op.assign (Go.Operand.tmp 46), type := 58, pos := "law.go:211", after := #[{ on := 1, ground := Go.Ground.data }, { on := 14, ground := Go.Ground.chain }, { on := 0, ground := Go.Ground.phase }, { on := 1, ground := Go.Ground.phase }, { on := 2, ground := Go.Ground.textOnly Go.Departure.lateStores }, { on := 3, ground := Go.Ground.textOnly Go.Departure.lateStores }, { on := 4, ground := Go.Ground.textOnly Go.Departure.lateStoresUnsure }, { on := 5, ground := Go.Ground.textOnly Go.Departure.lateStores }, { on := 6, ground := Go.Ground.textOnly Go.Departure.lateStoresUnsure }, { on := 7, ground := Go.Ground.textOnly Go.Departure.lateStoresUnsure }, { on := 8, ground := Go.Ground.textOnly Go.Departure.lateStoresUnsure }, { on := 9, ground := Go.Ground.textOnly Go.Departure.lateStores }, { on := 10, ground := Go.Ground.textOnly Go.Departure.lateStores }, { on := 11, ground := Go.Ground.textOnly Go.Departure.lateStoresUnsure }, { on := 12, ground := Go.Ground.textOnly Go.Departure.lateStores }, { on := 13, ground := Go.Ground.textOnly Go.Departure.lateStoresUnsure }, { on := 14, ground := Go.Ground.textOnly Go.Departure.lateStoresUnsure }], guard := none }) (v := ?_) rfl (by kernel_rfl) (by kernel_rfl) (by kernel_rfl) (fun _ _ _ h => h) (Or.inl ⟨by rfl, ?hy15_36⟩) (by assumption) ?rest15_36
                case hy15_36 => (intro w hSw; go_simp; try with_reducible rfl)
                try simp only [Act.put, List.setIfInBounds_toArray, List.set_cons_zero, List.set_cons_succ]
                refine wpAnyH_take (i := 16) (oi := { dst := some 6, op := Go.Op.assign (Go.Operand.tmp 53), type := 58, pos := "law.go:211", after := #[{ on := 8, ground := Go.Ground.data }, { on := 15, ground := Go.Ground.chain }, { on := 0, ground := Go.Ground.phase }, { on := 1, ground := Go.Ground.phase }, { on := 2, ground := Go.Ground.phase }, { on := 3, ground := Go.Ground.phase }, { on := 4, ground := Go.Ground.phase }, { on := 5, ground := Go.Ground.phase }, { on := 6, ground := Go.Ground.phase }, { on := 7, ground := Go.Ground.phase }, { on := 8, ground := Go.Ground.phase }, { on := 9, ground := Go.Ground.textOnly Go.Departure.lateStores }, { on := 10, ground := Go.Ground.textOnly Go.Departure.lateStores }, { on := 11, ground := Go.Ground.textOnly Go.Departure.lateStoresUnsure }, { on := 12, ground := Go.Ground.textOnly Go.Departure.lateStores }, { on := 13, ground := Go.Ground.textOnly Go.Departure.lateStoresUnsure }, { on := 14, ground := Go.Ground.textOnly Go.Departure.lateStoresUnsure }, { on := 15, ground := Go.Ground.phase }], guard := none }) (v := ?_) rfl (by kernel_rfl) (by kernel_rfl) (by kernel_rfl) (fun _ _ _ h => h) (Or.inl ⟨by rfl, ?hy16_37⟩) (by assumption) ?rest16_37
                case hy16_37 => (intro w hSw; go_simp; try with_reducible rfl)
                try simp only [Act.put, List.setIfInBounds_toArray, List.set_cons_zero, List.set_cons_succ]
                refine wpAnyH_take (i := 17) (oi := { dst := some 7, op := Go.Op.assign (Go.Operand.tmp 59), type := 58, pos := "law.go:211", after := #[{ on := 14, ground := Go.Ground.data }, { on := 16, ground := Go.Ground.chain }, { on := 0, ground := Go.Ground.phase }, { on := 1, ground := Go.Ground.phase }, { on := 2, ground := Go.Ground.phase }, { on := 3, ground := Go.Ground.phase }, { on := 4, ground := Go.Ground.phase }, { on := 5, ground := Go.Ground.phase }, { on := 6, ground := Go.Ground.phase }, { on := 7, ground := Go.Ground.phase }, { on := 8, ground := Go.Ground.phase }, { on := 9, ground := Go.Ground.phase }, { on := 10, ground := Go.Ground.phase }, { on := 11, ground := Go.Ground.phase }, { on := 12, ground := Go.Ground.phase }, { on := 13, ground := Go.Ground.phase }, { on := 14, ground := Go.Ground.phase }, { on := 15, ground := Go.Ground.phase }, { on := 16, ground := Go.Ground.phase }], guard := none }) (v := ?_) rfl (by kernel_rfl) (by kernel_rfl) (by kernel_rfl) (fun _ _ _ h => h) (Or.inl ⟨by rfl, ?hy17_38⟩) (by assumption) ?rest17_38
                case hy17_38 => (intro w hSw; go_simp; try with_reducible rfl)
                try simp only [Act.put, List.setIfInBounds_toArray, List.set_cons_zero, List.set_cons_succ]
                refine wpAnyH_done (by kernel_rfl) ?_ _
                refine NoPanic.normal ⟨rfl, ?_⟩
                try simp only [Act.put, List.setIfInBounds_toArray, List.set_cons_zero, List.set_cons_succ]
                exact ⟨r, s, t, w2.heap.size, w3.heap.size, _, _, _, _, _, _, _, _, _, _, _, _, _, _, _, rfl, HR2.out.below (chain B23 (chain B35 hb6)), HR3.out.below (chain B35 hb6), hr6.mono (fun b hb => Nat.le_trans B35.size hb.1), KEEP.out _ _ hb6 hx5⟩
            · go_simp
              refine hK.out _ _ (by exact KEEPA.out _ _ hHeld) (fun hHeld2 => ?_)
              clear hK K hHeld
              have hHeld := hHeld2
              clear hHeld2
              try simp only [Act.put, List.setIfInBounds_toArray, List.set_cons_zero, List.set_cons_succ]
              refine wpAnyH_ready (rs := [8]) (by kernel_rfl) (by simp) ?_
              refine AllReadyH.cons (o := { dst := some 53, op := Go.Op.call { callee := Go.Callee.value (Go.Operand.func 27), args := #[Go.Operand.tmp 52], argTypes := #[22] }, type := 58, pos := "law.go:211", after := #[{ on := 7, ground := Go.Ground.data }, { on := 1, ground := Go.Ground.chain }], guard := none }) rfl (fun K hK => ?_) AllReadyH.nil
              go_simp
              go_at_call 27
              (with_reducible refine (C2.out _ hHeld).mono ?_)
              rintro e w3 ⟨s, rfl, hb3, hr3⟩
              have B23 : Below w2.heap.size w2 w3 := chain (by (first | exact Below.refl _ _ | exact (Below.refl _ _).alloc (Nat.le_refl _) _ | exact ((Below.refl _ _).alloc (Nat.le_refl _) _).alloc (by simp) _ | exact B34 | exact B34.alloc B34.size _ | fail)) hb3
              have HR3 : Hid (Rd 82 w3 s (L.take m) (fun b => w2.heap.size ≤ b ∧ b < w3.heap.size)) := rd_up (by (first | exact Below.refl _ _ | exact (Below.refl _ _).alloc (Nat.le_refl _) _ | exact ((Below.refl _ _).alloc (Nat.le_refl _) _).alloc (by simp) _ | exact B34 | exact B34.alloc B34.size _ | fail)) hr3
              have hx3 : Below wr.heap.size wr w3 := KEEP.out _ _ hb3 hHeld
              refine hK.out _ _ (by exact hx3) (fun hHeld2 => ?_)
              clear hK K hHeld
              have hHeld := hHeld2
              clear hHeld2
              try simp only [Act.put, List.setIfInBounds_toArray, List.set_cons_zero, List.set_cons_succ]
              refine wpAnyH_ready (rs := [11]) (by kernel_rfl) (by simp) ?_
              refine AllReadyH.cons (o := { dst := some 56, op := Go.Op.call { callee := Go.Callee.builtin Go.Builtin.append, args := #[Go.Operand.tmp 54, Go.Operand.tmp 55], argTypes := #[22, 22] }, type := 22, pos := "law.go:211", after := #[{ on := 9, ground := Go.Ground.data }, { on := 10, ground := Go.Ground.data }, { on := 8, ground := Go.Ground.chain }], guard := none }) rfl (fun K hK => ?_) AllReadyH.nil
              refine step_app2 rfl (.tmp 54) (.tmp 55) 22 rfl 5 0 _ 1 1 Try.underlying22 info5 rfl (by decide) (by decide) (.slice (some ⟨_, 0, none⟩) 0 0) 0 [] (by rfl) ?_ (some ⟨gb, 0, none⟩) (m + 1) c (L.map byteC) rfl ?_ ?_ one8 ?_ (Nat.zero_le _) ?_
              focus (refine made_row ?_; (repeat (first | (with_reducible exact row_new rfl) | (focus (refine row_new ?_; simp; done)) | (with_reducible refine row_old ?_) | (with_reducible refine row_drew ?_) | (with_reducible refine row_below hb2 ?_) | (with_reducible refine row_below hb3 ?_) | (with_reducible refine row_below BE4 ?_))); done)
              (rw [List.length_map, HN.out, Nat.mul_one])
              exact (RBB.out.below hHeld).holds.2
              omega
              intro v9 w4 hown hwent
              have BE4 := app_below (by omega) hown hwent
              obtain ⟨B4, d4, rfl, ob4, fr4, B34⟩ := app_zero (A := w3) (by (first | exact Below.refl _ _ | exact (Below.refl _ _).alloc (Nat.le_refl _) _ | exact ((Below.refl _ _).alloc (Nat.le_refl _) _).alloc (by simp) _ | exact B34 | exact B34.alloc B34.size _ | fail)) (by omega) hown hwent
              have hx4 : Below wr.heap.size wr w4 := KEEP.out _ _ B34 hx3
              clear hown hwent
              refine hK.out _ _ (by exact hx4) (fun hHeld2 => ?_)
              clear hK K hHeld
              have hHeld := hHeld2
              clear hHeld2
              try simp only [Act.put, List.setIfInBounds_toArray, List.set_cons_zero, List.set_cons_succ]
              refine wpAnyH_ready (rs := [13]) (by kernel_rfl) (by simp) ?_
              refine AllReadyH.cons (o := { dst := some 58, op := Go.Op.call { callee := Go.Callee.builtin Go.Builtin.append, args := #[Go.Operand.tmp 56, Go.Operand.tmp 57], argTypes := #[22, 22] }, type := 22, pos := "law.go:211", after := #[{ on := 11, ground := Go.Ground.data }, { on := 12, ground := Go.Ground.data }, { on := 11, ground := Go.Ground.chain }], guard := none }) rfl (fun K hK => ?_) AllReadyH.nil
              refine step_app2 rfl (.tmp 56) (.tmp 57) 22 rfl 5 0 _ 1 1 Try.underlying22 info5 rfl (by decide) (by decide) (.slice B4 (m + 1) d4) (m + 1) (L.map byteC) (by rfl) ?_ (some ⟨_, 0, none⟩) 1 1 [.int .u8 7] (by rfl) rfl ?_ ?_ ?_ (Nat.zero_le _) ?_
              (first | exact ob4 | exact own_keeps ob4 ((Kept.refl _ _).alloc _))
              focus (refine holds_row ?_; (repeat (first | (with_reducible exact row_new rfl) | (focus (refine row_new ?_; simp; done)) | (with_reducible refine row_old ?_) | (with_reducible refine row_drew ?_) | (with_reducible refine row_below hb2 ?_) | (with_reducible refine row_below hb3 ?_) | (with_reducible refine row_below BE4 ?_))); done)
              focus (intro u hu; obtain rfl := List.mem_singleton.1 hu; rfl)
              omega
              intro v10 w5 hown hwent
              have B35 : Below w3.heap.size w3 w5 := app_on (A := w3) (by (first | exact Below.refl _ _ | exact (Below.refl _ _).alloc (Nat.le_refl _) _ | exact ((Below.refl _ _).alloc (Nat.le_refl _) _).alloc (by simp) _ | exact B34 | exact B34.alloc B34.size _ | fail)) fr4 hwent
              have hx5 : Below wr.heap.size wr w5 := KEEP.out _ _ B35 hx3
              have ob5 : OB w5 v10 (L ++ [7]) := C4.out w5 v10 hown
              clear hown hwent
              refine hK.out _ _ (by exact hx5) (fun hHeld2 => ?_)
              clear hK K hHeld
              have hHeld := hHeld2
              clear hHeld2
              try simp only [Act.put, List.setIfInBounds_toArray, List.set_cons_zero, List.set_cons_succ]
              refine wpAnyH_ready (rs := [14]) (by kernel_rfl) (by simp) ?_
              refine AllReadyH.cons (o := { dst := some 59, op := Go.Op.call { callee := Go.Callee.value (Go.Operand.func 27), args := #[Go.Operand.tmp 58], argTypes := #[22] }, type := 58, pos := "law.go:211", after := #[{ on := 13, ground := Go.Ground.data }, { on := 13, ground := Go.Ground.chain }], guard := none }) rfl (fun K hK => ?_) AllReadyH.nil
              go_simp
              go_at_call 27
              (with_reducible refine (C3.out _ _ ob5).mono ?_)
              rintro e w6 ⟨t, rfl, hb6, hr6⟩
              refine hK.out _ _ (by exact KEEP.out _ _ hb6 hHeld) (fun hHeld2 => ?_)
              clear hK K hHeld
              have hHeld := hHeld2
              clear hHeld2
              try simp only [Act.put, List.setIfInBounds_toArray, List.set_cons_zero, List.set_cons_succ]
              refine wpAnyH_take (i := 15) (oi := { dst := some 5, op := Go.Op.assign (Go.Operand.tmp 46), type := 58, pos := "law.go:211", after := #[{ on := 1, ground := Go.Ground.data }, { on := 14, ground := Go.Ground.chain }, { on := 0, ground := Go.Ground.phase }, { on := 1, ground := Go.Ground.phase }, { on := 2, ground := Go.Ground.textOnly Go.Departure.lateStores }, { on := 3, ground := Go.Ground.textOnly Go.Departure.lateStores }, { on := 4, ground := Go.Ground.textOnly Go.Departure.lateStoresUnsure }, { on := 5, ground := Go.Ground.textOnly Go.Departure.lateStores }, { on := 6, ground := Go.Ground.textOnly Go.Departure.lateStoresUnsure }, { on := 7, ground := Go.Ground.textOnly Go.Departure.lateStoresUnsure }, { on := 8, ground := Go.Ground.textOnly Go.Departure.lateStoresUnsure }, { on := 9, ground := Go.Ground.textOnly Go.Departure.lateStores }, { on := 10, ground := Go.Ground.textOnly Go.Departure.lateStores }, { on := 11, ground := Go.Ground.textOnly Go.Departure.lateStoresUnsure }, { on := 12, ground := Go.Ground.textOnly Go.Departure.lateStores }, { on := 13, ground := Go.Ground.textOnly Go.Departure.lateStoresUnsure }, { on := 14, ground := Go.Ground.textOnly Go.Departure.lateStoresUnsure }], guard := none }) (v := ?_) rfl (by kernel_rfl) (by kernel_rfl) (by kernel_rfl) (fun _ _ _ h => h) (Or.inl ⟨by rfl, ?hy15_39⟩) (by assumption) ?rest15_39
              case hy15_39 => (intro w hSw; go_simp; try with_reducible rfl)
              try simp only [Act.put, List.setIfInBounds_toArray, List.set_cons_zero, List.set_cons_succ]
              refine wpAnyH_take (i := 16) (oi := { dst := some 6, op := Go.Op.assign (Go.Operand.tmp 53), type := 58, pos := "law.go:211", after := #[{ on := 8, ground := Go.Ground.data }, { on := 15, ground := Go.Ground.chain }, { on := 0, ground := Go.Ground.phase }, { on := 1, ground := Go.Ground.phase }, { on := 2, ground := Go.Ground.phase }, { on := 3, ground := Go.Ground.phase }, { on := 4, ground := Go.Ground.phase }, { on := 5, ground := Go.Ground.phase }, { on := 6, ground := Go.Ground.phase }, { on := 7, ground := Go.Ground.phase }, { on := 8, ground := Go.Ground.phase }, { on := 9, ground := Go.Ground.textOnly Go.Departure.lateStores }, { on := 10, ground := Go.Ground.textOnly Go.Departure.lateStores }, { on := 11, ground := Go.Ground.textOnly Go.Departure.lateStoresUnsure }, { on := 12, ground := Go.Ground.textOnly Go.Departure.lateStores }, { on := 13, ground := Go.Ground.textOnly Go.Departure.lateStoresUnsure }, { on := 14, ground := Go.Ground.textOnly Go.Departure.lateStoresUnsure }, { on := 15, ground := Go.Ground.phase }], guard := none }) (v := ?_) rfl (by kernel_rfl) (by kernel_rfl) (by kernel_rfl) (fun _ _ _ h => h) (Or.inl ⟨by rfl, ?hy16_40⟩) (by assumption) ?rest16_40
              case hy16_40 => (intro w hSw; go_simp; try with_reducible rfl)
              try simp only [Act.put, List.setIfInBounds_toArray, List.set_cons_zero, List.set_cons_succ]
              refine wpAnyH_take (i := 17) (oi := { dst := some 7, op := Go.Op.assign (Go.Operand.tmp 59), type := 58, pos := "law.go:211", after := #[{ on := 14, ground := Go.Ground.data }, { on := 16, ground := Go.Ground.chain }, { on := 0, ground := Go.Ground.phase }, { on := 1, ground := Go.Ground.phase }, { on := 2, ground := Go.Ground.phase }, { on := 3, ground := Go.Ground.phase }, { on := 4, ground := Go.Ground.phase }, { on := 5, ground := Go.Ground.phase }, { on := 6, ground := Go.Ground.phase }, { on := 7, ground := Go.Ground.phase }, { on := 8, ground := Go.Ground.phase }, { on := 9, ground := Go.Ground.phase }, { on := 10, ground := Go.Ground.phase }, { on := 11, ground := Go.Ground.phase }, { on := 12, ground := Go.Ground.phase }, { on := 13, ground := Go.Ground.phase }, { on := 14, ground := Go.Ground.phase }, { on := 15, ground := Go.Ground.phase }, { on := 16, ground := Go.Ground.phase }], guard := none }) (v := ?_) rfl (by kernel_rfl) (by kernel_rfl) (by kernel_rfl) (fun _ _ _ h => h) (Or.inl ⟨by rfl, ?hy17_41⟩) (by assumption) ?rest17_41
              case hy17_41 => (intro w hSw; go_simp; try with_reducible rfl)
              try simp only [Act.put, List.setIfInBounds_toArray, List.set_cons_zero, List.set_cons_succ]
              refine wpAnyH_done (by kernel_rfl) ?_ _
              refine NoPanic.normal ⟨rfl, ?_⟩
              try simp only [Act.put, List.setIfInBounds_toArray, List.set_cons_zero, List.set_cons_succ]
              exact ⟨r, s, t, w2.heap.size, w3.heap.size, _, _, _, _, _, _, _, _, _, _, _, _, _, _, _, rfl, HR2.out.below (chain B23 (chain B35 hb6)), HR3.out.below (chain B35 hb6), hr6.mono (fun b hb => Nat.le_trans B35.size hb.1), KEEP.out _ _ hb6 hx5⟩
          · go_simp
            refine hK.out _ _ (by exact KEEPA.out _ _ hHeld) (fun hHeld2 => ?_)
            clear hK K hHeld
            have hHeld := hHeld2
            clear hHeld2
            try simp only [Act.put, List.setIfInBounds_toArray, List.set_cons_zero, List.set_cons_succ]
            refine wpAnyH_ready (rs := [1]) (by kernel_rfl) (by simp) ?_
            refine AllReadyH.cons (o := { dst := some 46, op := Go.Op.call { callee := Go.Callee.value (Go.Operand.func 27), args := #[Go.Operand.tmp 45], argTypes := #[22] }, type := 58, pos := "law.go:211", after := #[{ on := 0, ground := Go.Ground.data }], guard := none }) rfl (fun K hK => ?_) AllReadyH.nil
            go_simp
            go_at_call 27
            (with_reducible refine (C1.out _ hHeld).mono ?_)
            rintro e w2 ⟨r, rfl, hb2, hr2⟩
            have HR2 : Hid (Rd 82 w2 r L (fun b => wr.heap.size ≤ b ∧ b < w2.heap.size)) := rd_up hHeld hr2
            have hx2 := KEEP.out _ _ hb2 hHeld
            refine hK.out _ _ (by exact hx2) (fun hHeld2 => ?_)
            clear hK K hHeld
            have hHeld := hHeld2
            clear hHeld2
            try simp only [Act.put, List.setIfInBounds_toArray, List.set_cons_zero, List.set_cons_succ]
            refine wpAnyH_ready (rs := [8]) (by kernel_rfl) (by simp) ?_
            refine AllReadyH.cons (o := { dst := some 53, op := Go.Op.call { callee := Go.Callee.value (Go.Operand.func 27), args := #[Go.Operand.tmp 52], argTypes := #[22] }, type := 58, pos := "law.go:211", after := #[{ on := 7, ground := Go.Ground.data }, { on := 1, ground := Go.Ground.chain }], guard := none }) rfl (fun K hK => ?_) AllReadyH.nil
            go_simp
            go_at_call 27
            (with_reducible refine (C2.out _ hHeld).mono ?_)
            rintro e w3 ⟨s, rfl, hb3, hr3⟩
            have B23 : Below w2.heap.size w2 w3 := chain (by (first | exact Below.refl _ _ | exact (Below.refl _ _).alloc (Nat.le_refl _) _ | exact ((Below.refl _ _).alloc (Nat.le_refl _) _).alloc (by simp) _ | exact B34 | exact B34.alloc B34.size _ | fail)) hb3
            have HR3 : Hid (Rd 82 w3 s (L.take m) (fun b => w2.heap.size ≤ b ∧ b < w3.heap.size)) := rd_up (by (first | exact Below.refl _ _ | exact (Below.refl _ _).alloc (Nat.le_refl _) _ | exact ((Below.refl _ _).alloc (Nat.le_refl _) _).alloc (by simp) _ | exact B34 | exact B34.alloc B34.size _ | fail)) hr3
            have hx3 : Below wr.heap.size wr w3 := KEEP.out _ _ hb3 hHeld
            refine hK.out _ _ (by exact hx3) (fun hHeld2 => ?_)
            clear hK K hHeld
            have hHeld := hHeld2
            clear hHeld2
            try simp only [Act.put, List.setIfInBounds_toArray, List.set_cons_zero, List.set_cons_succ]
            refine wpAnyH_ready (rs := [11]) (by kernel_rfl) (by simp) ?_
            refine AllReadyH.cons (o := { dst := some 56, op := Go.Op.call { callee := Go.Callee.builtin Go.Builtin.append, args := #[Go.Operand.tmp 54, Go.Operand.tmp 55], argTypes := #[22, 22] }, type := 22, pos := "law.go:211", after := #[{ on := 9, ground := Go.Ground.data }, { on := 10, ground := Go.Ground.data }, { on := 8, ground := Go.Ground.chain }], guard := none }) rfl (fun K hK => ?_) AllReadyH.nil
            refine step_app2 rfl (.tmp 54) (.tmp 55) 22 rfl 5 0 _ 1 1 Try.underlying22 info5 rfl (by decide) (by decide) (.slice (some ⟨_, 0, none⟩) 0 0) 0 [] (by rfl) ?_ (some ⟨gb, 0, none⟩) (m + 1) c (L.map byteC) rfl ?_ ?_ one8 ?_ (Nat.zero_le _) ?_
            focus (refine made_row ?_; (repeat (first | (with_reducible exact row_new rfl) | (focus (refine row_new ?_; simp; done)) | (with_reducible refine row_old ?_) | (with_reducible refine row_drew ?_) | (with_reducible refine row_below hb2 ?_) | (with_reducible refine row_below hb3 ?_) | (with_reducible refine row_below BE4 ?_))); done)
            (rw [List.length_map, HN.out, Nat.mul_one])
            exact (RBB.out.below hHeld).holds.2
            omega
            intro v9 w4 hown hwent
            have BE4 := app_below (by omega) hown hwent
            obtain ⟨B4, d4, rfl, ob4, fr4, B34⟩ := app_zero (A := w3) (by (first | exact Below.refl _ _ | exact (Below.refl _ _).alloc (Nat.le_refl _) _ | exact ((Below.refl _ _).alloc (Nat.le_refl _) _).alloc (by simp) _ | exact B34 | exact B34.alloc B34.size _ | fail)) (by omega) hown hwent
            have hx4 : Below wr.heap.size wr w4 := KEEP.out _ _ B34 hx3
            clear hown hwent
            refine hK.out _ _ (by exact hx4) (fun hHeld2 => ?_)
            clear hK K hHeld
            have hHeld := hHeld2
            clear hHeld2
            try simp only [Act.put, List.setIfInBounds_toArray, List.set_cons_zero, List.set_cons_succ]
            refine wpAnyH_ready (rs := [13]) (by kernel_rfl) (by simp) ?_
            refine AllReadyH.cons (o := { dst := some 58, op := Go.Op.call { callee := Go.Callee.builtin Go.Builtin.append, args := #[Go.Operand.tmp 56, Go.Operand.tmp 57], argTypes := #[22, 22] }, type := 22, pos := "law.go:211", after := #[{ on := 11, ground := Go.Ground.data }, { on := 12, ground := Go.Ground.data }, { on := 11, ground := Go.Ground.chain }], guard := none }) rfl (fun K hK => ?_) AllReadyH.nil
            refine step_app2 rfl (.tmp 56) (.tmp 57) 22 rfl 5 0 _ 1 1 Try.underlying22 info5 rfl (by decide) (by decide) (.slice B4 (m + 1) d4) (m + 1) (L.map byteC) (by rfl) ?_ (some ⟨_, 0, none⟩) 1 1 [.int .u8 7] (by rfl) rfl ?_ ?_ ?_ (Nat.zero_le _) ?_
            (first | exact ob4 | exact own_keeps ob4 ((Kept.refl _ _).alloc _))
            focus (refine holds_row ?_; (repeat (first | (with_reducible exact row_new rfl) | (focus (refine row_new ?_; simp; done)) | (with_reducible refine row_old ?_) | (with_reducible refine row_drew ?_) | (with_reducible refine row_below hb2 ?_) | (with_reducible refine row_below hb3 ?_) | (with_reducible refine row_below BE4 ?_))); done)
            focus (intro u hu; obtain rfl := List.mem_singleton.1 hu; rfl)
            omega
            intro v10 w5 hown hwent
            have B35 : Below w3.heap.size w3 w5 := app_on (A := w3) (by (first | exact Below.refl _ _ | exact (Below.refl _ _).alloc (Nat.le_refl _) _ | exact ((Below.refl _ _).alloc (Nat.le_refl _) _).alloc (by simp) _ | exact B34 | exact B34.alloc B34.size _ | fail)) fr4 hwent
            have hx5 : Below wr.heap.size wr w5 := KEEP.out _ _ B35 hx3
            have ob5 : OB w5 v10 (L ++ [7]) := C4.out w5 v10 hown
            clear hown hwent
            refine hK.out _ _ (by exact hx5) (fun hHeld2 => ?_)
            clear hK K hHeld
            have hHeld := hHeld2
            clear hHeld2
            try simp only [Act.put, List.setIfInBounds_toArray, List.set_cons_zero, List.set_cons_succ]
            refine wpAnyH_ready (rs := [14]) (by kernel_rfl) (by simp) ?_
            refine AllReadyH.cons (o := { dst := some 59, op := Go.Op.call { callee := Go.Callee.value (Go.Operand.func 27), args := #[Go.Operand.tmp 58], argTypes := #[22] }, type := 58, pos := "law.go:211", after := #[{ on := 13, ground := Go.Ground.data }, { on := 13, ground := Go.Ground.chain }], guard := none }) rfl (fun K hK => ?_) AllReadyH.nil
            go_simp
            go_at_call 27
            (with_reducible refine (C3.out _ _ ob5).mono ?_)
            rintro e w6 ⟨t, rfl, hb6, hr6⟩
            refine hK.out _ _ (by exact KEEP.out _ _ hb6 hHeld) (fun hHeld2 => ?_)
            clear hK K hHeld
            have hHeld := hHeld2
            clear hHeld2
            try simp only [Act.put, List.setIfInBounds_toArray, List.set_cons_zero, List.set_cons_succ]
            refine wpAnyH_take (i := 15) (oi := { dst := some 5, op := Go.Op.assign (Go.Operand.tmp 46), type := 58, pos := "law.go:211", after := #[{ on := 1, ground := Go.Ground.data }, { on := 14, ground := Go.Ground.chain }, { on := 0, ground := Go.Ground.phase }, { on := 1, ground := Go.Ground.phase }, { on := 2, ground := Go.Ground.textOnly Go.Departure.lateStores }, { on := 3, ground := Go.Ground.textOnly Go.Departure.lateStores }, { on := 4, ground := Go.Ground.textOnly Go.Departure.lateStoresUnsure }, { on := 5, ground := Go.Ground.textOnly Go.Departure.lateStores }, { on := 6, ground := Go.Ground.textOnly Go.Departure.lateStoresUnsure }, { on := 7, ground := Go.Ground.textOnly Go.Departure.lateStoresUnsure }, { on := 8, ground := Go.Ground.textOnly Go.Departure.lateStoresUnsure }, { on := 9, ground := Go.Ground.textOnly Go.Departure.lateStores }, { on := 10, ground := Go.Ground.textOnly Go.Departure.lateStores }, { on := 11, ground := Go.Ground.textOnly Go.Departure.lateStoresUnsure }, { on := 12, ground := Go.Ground.textOnly Go.Departure.lateStores }, { on := 13, ground := Go.Ground.textOnly Go.Departure.lateStoresUnsure }, { on := 14, ground := Go.Ground.textOnly Go.Departure.lateStoresUnsure }], guard := none }) (v := ?_) rfl (by kernel_rfl) (by kernel_rfl) (by kernel_rfl) (fun _ _ _ h => h) (Or.inl ⟨by rfl, ?hy15_42⟩) (by assumption) ?rest15_42
            case hy15_42 => (intro w hSw; go_simp; try with_reducible rfl)
            try simp only [Act.put, List.setIfInBounds_toArray, List.set_cons_zero, List.set_cons_succ]
            refine wpAnyH_take (i := 16) (oi := { dst := some 6, op := Go.Op.assign (Go.Operand.tmp 53), type := 58, pos := "law.go:211", after := #[{ on := 8, ground := Go.Ground.data }, { on := 15, ground := Go.Ground.chain }, { on := 0, ground := Go.Ground.phase }, { on := 1, ground := Go.Ground.phase }, { on := 2, ground := Go.Ground.phase }, { on := 3, ground := Go.Ground.phase }, { on := 4, ground := Go.Ground.phase }, { on := 5, ground := Go.Ground.phase }, { on := 6, ground := Go.Ground.phase }, { on := 7, ground := Go.Ground.phase }, { on := 8, ground := Go.Ground.phase }, { on := 9, ground := Go.Ground.textOnly Go.Departure.lateStores }, { on := 10, ground := Go.Ground.textOnly Go.Departure.lateStores }, { on := 11, ground := Go.Ground.textOnly Go.Departure.lateStoresUnsure }, { on := 12, ground := Go.Ground.textOnly Go.Departure.lateStores }, { on := 13, ground := Go.Ground.textOnly Go.Departure.lateStoresUnsure }, { on := 14, ground := Go.Ground.textOnly Go.Departure.lateStoresUnsure }, { on := 15, ground := Go.Ground.phase }], guard := none }) (v := ?_) rfl (by kernel_rfl) (by kernel_rfl) (by kernel_rfl) (fun _ _ _ h => h) (Or.inl ⟨by rfl, ?hy16_43⟩) (by assumption) ?rest16_43
            case hy16_43 => (intro w hSw; go_simp; try with_reducible rfl)
            try simp only [Act.put, List.setIfInBounds_toArray, List.set_cons_zero, List.set_cons_succ]
            refine wpAnyH_take (i := 17) (oi := { dst := some 7, op := Go.Op.assign (Go.Operand.tmp 59), type := 58, pos := "law.go:211", after := #[{ on := 14, ground := Go.Ground.data }, { on := 16, ground := Go.Ground.chain }, { on := 0, ground := Go.Ground.phase }, { on := 1, ground := Go.Ground.phase }, { on := 2, ground := Go.Ground.phase }, { on := 3, ground := Go.Ground.phase }, { on := 4, ground := Go.Ground.phase }, { on := 5, ground := Go.Ground.phase }, { on := 6, ground := Go.Ground.phase }, { on := 7, ground := Go.Ground.phase }, { on := 8, ground := Go.Ground.phase }, { on := 9, ground := Go.Ground.phase }, { on := 10, ground := Go.Ground.phase }, { on := 11, ground := Go.Ground.phase }, { on := 12, ground := Go.Ground.phase }, { on := 13, ground := Go.Ground.phase }, { on := 14, ground := Go.Ground.phase }, { on := 15, ground := Go.Ground.phase }, { on := 16, ground := Go.Ground.phase }], guard := none }) (v := ?_) rfl (by kernel_rfl) (by kernel_rfl) (by kernel_rfl) (fun _ _ _ h => h) (Or.inl ⟨by rfl, ?hy17_44⟩) (by assumption) ?rest17_44
            case hy17_44 => (intro w hSw; go_simp; try with_reducible rfl)
            try simp only [Act.put, List.setIfInBounds_toArray, List.set_cons_zero, List.set_cons_succ]
            refine wpAnyH_done (by kernel_rfl) ?_ _
            refine NoPanic.normal ⟨rfl, ?_⟩
            try simp only [Act.put, List.setIfInBounds_toArray, List.set_cons_zero, List.set_cons_succ]
            exact ⟨r, s, t, w2.heap.size, w3.heap.size, _, _, _, _, _, _, _, _, _, _, _, _, _, _, _, rfl, HR2.out.below (chain B23 (chain B35 hb6)), HR3.out.below (chain B35 hb6), hr6.mono (fun b hb => Nat.le_trans B35.size hb.1), KEEP.out _ _ hb6 hx5⟩
        · go_simp
          refine hK.out _ _ (by exact KEEPA.out _ _ hHeld) (fun hHeld2 => ?_)
          clear hK K hHeld
          have hHeld := hHeld2
          clear hHeld2
          try simp only [Act.put, List.setIfInBounds_toArray, List.set_cons_zero, List.set_cons_succ]
          refine wpAnyH_ready (rs := [1, 9]) (by kernel_rfl) (by simp) ?_
          refine AllReadyH.cons (o := { dst := some 46, op := Go.Op.call { callee := Go.Callee.value (Go.Operand.func 27), args := #[Go.Operand.tmp 45], argTypes := #[22] }, type := 58, pos := "law.go:211", after := #[{ on := 0, ground := Go.Ground.data }], guard := none }) rfl (fun K hK => ?_) (AllReadyH.cons (o := { dst := some 54, op := Go.Op.buildSlice 22 0 #[], type := 22, pos := "law.go:211", after := #[], guard := none }) rfl (fun K hK => ?_) AllReadyH.nil)
          · go_simp
            go_at_call 27
            (with_reducible refine (C1.out _ hHeld).mono ?_)
            rintro e w2 ⟨r, rfl, hb2, hr2⟩
            have HR2 : Hid (Rd 82 w2 r L (fun b => wr.heap.size ≤ b ∧ b < w2.heap.size)) := rd_up hHeld hr2
            have hx2 := KEEP.out _ _ hb2 hHeld
            refine hK.out _ _ (by exact hx2) (fun hHeld2 => ?_)
            clear hK K hHeld
            have hHeld := hHeld2
            clear hHeld2
            try simp only [Act.put, List.setIfInBounds_toArray, List.set_cons_zero, List.set_cons_succ]
            refine wpAnyH_ready (rs := [8, 9]) (by kernel_rfl) (by simp) ?_
            refine AllReadyH.cons (o := { dst := some 53, op := Go.Op.call { callee := Go.Callee.value (Go.Operand.func 27), args := #[Go.Operand.tmp 52], argTypes := #[22] }, type := 58, pos := "law.go:211", after := #[{ on := 7, ground := Go.Ground.data }, { on := 1, ground := Go.Ground.chain }], guard := none }) rfl (fun K hK => ?_) (AllReadyH.cons (o := { dst := some 54, op := Go.Op.buildSlice 22 0 #[], type := 22, pos := "law.go:211", after := #[], guard := none }) rfl (fun K hK => ?_) AllReadyH.nil)
            · go_simp
              go_at_call 27
              (with_reducible refine (C2.out _ hHeld).mono ?_)
              rintro e w3 ⟨s, rfl, hb3, hr3⟩
              have B23 : Below w2.heap.size w2 w3 := chain (by (first | exact Below.refl _ _ | exact (Below.refl _ _).alloc (Nat.le_refl _) _ | exact ((Below.refl _ _).alloc (Nat.le_refl _) _).alloc (by simp) _ | exact B34 | exact B34.alloc B34.size _ | fail)) hb3
              have HR3 : Hid (Rd 82 w3 s (L.take m) (fun b => w2.heap.size ≤ b ∧ b < w3.heap.size)) := rd_up (by (first | exact Below.refl _ _ | exact (Below.refl _ _).alloc (Nat.le_refl _) _ | exact ((Below.refl _ _).alloc (Nat.le_refl _) _).alloc (by simp) _ | exact B34 | exact B34.alloc B34.size _ | fail)) hr3
              have hx3 : Below wr.heap.size wr w3 := KEEP.out _ _ hb3 hHeld
              refine hK.out _ _ (by exact hx3) (fun hHeld2 => ?_)
              clear hK K hHeld
              have hHeld := hHeld2
              clear hHeld2
              try simp only [Act.put, List.setIfInBounds_toArray, List.set_cons_zero, List.set_cons_succ]
              refine wpAnyH_ready (rs := [9]) (by kernel_rfl) (by simp) ?_
              refine AllReadyH.cons (o := { dst := some 54, op := Go.Op.buildSlice 22 0 #[], type := 22, pos := "law.go:211", after := #[], guard := none }) rfl (fun K hK => ?_) AllReadyH.nil
              go_simp
              refine hK.out _ _ (by exact KEEPA.out _ _ hHeld) (fun hHeld2 => ?_)
              clear hK K hHeld
              have hHeld := hHeld2
              clear hHeld2
              try simp only [Act.put, List.setIfInBounds_toArray, List.set_cons_zero, List.set_cons_succ]
              refine wpAnyH_ready (rs := [11]) (by kernel_rfl) (by simp) ?_
              refine AllReadyH.cons (o := { dst := some 56, op := Go.Op.call { callee := Go.Callee.builtin Go.Builtin.append, args := #[Go.Operand.tmp 54, Go.Operand.tmp 55], argTypes := #[22, 22] }, type := 22, pos := "law.go:211", after := #[{ on := 9, ground := Go.Ground.data }, { on := 10, ground := Go.Ground.data }, { on := 8, ground := Go.Ground.chain }], guard := none }) rfl (fun K hK => ?_) AllReadyH.nil
              refine step_app2 rfl (.tmp 54) (.tmp 55) 22 rfl 5 0 _ 1 1 Try.underlying22 info5 rfl (by decide) (by decide) (.slice (some ⟨_, 0, none⟩) 0 0) 0 [] (by rfl) ?_ (some ⟨gb, 0, none⟩) (m + 1) c (L.map byteC) rfl ?_ ?_ one8 ?_ (Nat.zero_le _) ?_
              focus (refine made_row ?_; (repeat (first | (with_reducible exact row_new rfl) | (focus (refine row_new ?_; simp; done)) | (with_reducible refine row_old ?_) | (with_reducible refine row_drew ?_) | (with_reducible refine row_below hb2 ?_) | (with_reducible refine row_below hb3 ?_) | (with_reducible refine row_below BE4 ?_))); done)
              (rw [List.length_map, HN.out, Nat.mul_one])
              exact (RBB.out.below hHeld).holds.2
              omega
              intro v9 w4 hown hwent
              have BE4 := app_below (by omega) hown hwent
              obtain ⟨B4, d4, rfl, ob4, fr4, B34⟩ := app_zero (A := w3) (by (first | exact Below.refl _ _ | exact (Below.refl _ _).alloc (Nat.le_refl _) _ | exact ((Below.refl _ _).alloc (Nat.le_refl _) _).alloc (by simp) _ | exact B34 | exact B34.alloc B34.size _ | fail)) (by omega) hown hwent
              have hx4 : Below wr.heap.size wr w4 := KEEP.out _ _ B34 hx3
              clear hown hwent
              refine hK.out _ _ (by exact hx4) (fun hHeld2 => ?_)
              clear hK K hHeld
              have hHeld := hHeld2
              clear hHeld2
              try simp only [Act.put, List.setIfInBounds_toArray, List.set_cons_zero, List.set_cons_succ]
              refine wpAnyH_ready (rs := [13]) (by kernel_rfl) (by simp) ?_
              refine AllReadyH.cons (o := { dst := some 58, op := Go.Op.call { callee := Go.Callee.builtin Go.Builtin.append, args := #[Go.Operand.tmp 56, Go.Operand.tmp 57], argTypes := #[22, 22] }, type := 22, pos := "law.go:211", after := #[{ on := 11, ground := Go.Ground.data }, { on := 12, ground := Go.Ground.data }, { on := 11, ground := Go.Ground.chain }], guard := none }) rfl (fun K hK => ?_) AllReadyH.nil
              refine step_app2 rfl (.tmp 56) (.tmp 57) 22 rfl 5 0 _ 1 1 Try.underlying22 info5 rfl (by decide) (by decide) (.slice B4 (m + 1) d4) (m + 1) (L.map byteC) (by rfl) ?_ (some ⟨_, 0, none⟩) 1 1 [.int .u8 7] (by rfl) rfl ?_ ?_ ?_ (Nat.zero_le _) ?_
              (first | exact ob4 | exact own_keeps ob4 ((Kept.refl _ _).alloc _))
              focus (refine holds_row ?_; (repeat (first | (with_reducible exact row_new rfl) | (focus (refine row_new ?_; simp; done)) | (with_reducible refine row_old ?_) | (with_reducible refine row_drew ?_) | (with_reducible refine row_below hb2 ?_) | (with_reducible refine row_below hb3 ?_) | (with_reducible refine row_below BE4 ?_))); done)
              focus (intro u hu; obtain rfl := List.mem_singleton.1 hu; rfl)
              omega
              intro v10 w5 hown hwent
              have B35 : Below w3.heap.size w3 w5 := app_on (A := w3) (by (first | exact Below.refl _ _ | exact (Below.refl _ _).alloc (Nat.le_refl _) _ | exact ((Below.refl _ _).alloc (Nat.le_refl _) _).alloc (by simp) _ | exact B34 | exact B34.alloc B34.size _ | fail)) fr4 hwent
              have hx5 : Below wr.heap.size wr w5 := KEEP.out _ _ B35 hx3
              have ob5 : OB w5 v10 (L ++ [7]) := C4.out w5 v10 hown
              clear hown hwent
              refine hK.out _ _ (by exact hx5) (fun hHeld2 => ?_)
              clear hK K hHeld
              have hHeld := hHeld2
              clear hHeld2
              try simp only [Act.put, List.setIfInBounds_toArray, List.set_cons_zero, List.set_cons_succ]
              refine wpAnyH_ready (rs := [14]) (by kernel_rfl) (by simp) ?_
              refine AllReadyH.cons (o := { dst := some 59, op := Go.Op.call { callee := Go.Callee.value (Go.Operand.func 27), args := #[Go.Operand.tmp 58], argTypes := #[22] }, type := 58, pos := "law.go:211", after := #[{ on := 13, ground := Go.Ground.data }, { on := 13, ground := Go.Ground.chain }], guard := none }) rfl (fun K hK => ?_) AllReadyH.nil
              go_simp
              go_at_call 27
              (with_reducible refine (C3.out _ _ ob5).mono ?_)
              rintro e w6 ⟨t, rfl, hb6, hr6⟩
              refine hK.out _ _ (by exact KEEP.out _ _ hb6 hHeld) (fun hHeld2 => ?_)
              clear hK K hHeld
              have hHeld := hHeld2
              clear hHeld2
              try simp only [Act.put, List.setIfInBounds_toArray, List.set_cons_zero, List.set_cons_succ]
              refine wpAnyH_take (i := 15) (oi := { dst := some 5, op := Go.Op.assign (Go.Operand.tmp 46), type := 58, pos := "law.go:211", after := #[{ on := 1, ground := Go.Ground.data }, { on := 14, ground := Go.Ground.chain }, { on := 0, ground := Go.Ground.phase }, { on := 1, ground := Go.Ground.phase }, { on := 2, ground := Go.Ground.textOnly Go.Departure.lateStores }, { on := 3, ground := Go.Ground.textOnly Go.Departure.lateStores }, { on := 4, ground := Go.Ground.textOnly Go.Departure.lateStoresUnsure }, { on := 5, ground := Go.Ground.textOnly Go.Departure.lateStores }, { on := 6, ground := Go.Ground.textOnly Go.Departure.lateStoresUnsure }, { on := 7, ground := Go.Ground.textOnly Go.Departure.lateStoresUnsure }, { on := 8, ground := Go.Ground.textOnly Go.Departure.lateStoresUnsure }, { on := 9, ground := Go.Ground.textOnly Go.Departure.lateStores }, { on := 10, ground := Go.Ground.textOnly Go.Departure.lateStores }, { on := 11, ground := Go.Ground.textOnly Go.Departure.lateStoresUnsure }, { on := 12, ground := Go.Ground.textOnly Go.Departure.lateStores }, { on := 13, ground := Go.Ground.textOnly Go.Departure.lateStoresUnsure }, { on := 14, ground := Go.Ground.textOnly Go.Departure.lateStoresUnsure }], guard := none }) (v := ?_) rfl (by kernel_rfl) (by kernel_rfl) (by kernel_rfl) (fun _ _ _ h => h) (Or.inl ⟨by rfl, ?hy15_45⟩) (by assumption) ?rest15_45
              case hy15_45 => (intro w hSw; go_simp; try with_reducible rfl)
              try simp only [Act.put, List.setIfInBounds_toArray, List.set_cons_zero, List.set_cons_succ]
              refine wpAnyH_take (i := 16) (oi := { dst := some 6, op := Go.Op.assign (Go.Operand.tmp 53), type := 58, pos := "law.go:211", after := #[{ on := 8, ground := Go.Ground.data }, { on := 15, ground := Go.Ground.chain }, { on := 0, ground := Go.Ground.phase }, { on := 1, ground := Go.Ground.phase }, { on := 2, ground := Go.Ground.phase }, { on := 3, ground := Go.Ground.phase }, { on := 4, ground := Go.Ground.phase }, { on := 5, ground := Go.Ground.phase }, { on := 6, ground := Go.Ground.phase }, { on := 7, ground := Go.Ground.phase }, { on := 8, ground := Go.Ground.phase }, { on := 9, ground := Go.Ground.textOnly Go.Departure.lateStores }, { on := 10, ground := Go.Ground.textOnly Go.Departure.lateStores }, { on := 11, ground := Go.Ground.textOnly Go.Departure.lateStoresUnsure }, { on := 12, ground := Go.Ground.textOnly Go.Departure.lateStores }, { on := 13, ground := Go.Ground.textOnly Go.Departure.lateStoresUnsure }, { on := 14, ground := Go.Ground.textOnly Go.Departure.lateStoresUnsure }, { on := 15, ground := Go.Ground.phase }], guard := none }) (v := ?_) rfl (by kernel_rfl) (by kernel_rfl) (by kernel_rfl) (fun _ _ _ h => h) (Or.inl ⟨by rfl, ?hy16_46⟩) (by assumption) ?rest16_46
              case hy16_46 => (intro w hSw; go_simp; try with_reducible rfl)
              try simp only [Act.put, List.setIfInBounds_toArray, List.set_cons_zero, List.set_cons_succ]
              refine wpAnyH_take (i := 17) (oi := { dst := some 7, op := Go.Op.assign (Go.Operand.tmp 59), type := 58, pos := "law.go:211", after := #[{ on := 14, ground := Go.Ground.data }, { on := 16, ground := Go.Ground.chain }, { on := 0, ground := Go.Ground.phase }, { on := 1, ground := Go.Ground.phase }, { on := 2, ground := Go.Ground.phase }, { on := 3, ground := Go.Ground.phase }, { on := 4, ground := Go.Ground.phase }, { on := 5, ground := Go.Ground.phase }, { on := 6, ground := Go.Ground.phase }, { on := 7, ground := Go.Ground.phase }, { on := 8, ground := Go.Ground.phase }, { on := 9, ground := Go.Ground.phase }, { on := 10, ground := Go.Ground.phase }, { on := 11, ground := Go.Ground.phase }, { on := 12, ground := Go.Ground.phase }, { on := 13, ground := Go.Ground.phase }, { on := 14, ground := Go.Ground.phase }, { on := 15, ground := Go.Ground.phase }, { on := 16, ground := Go.Ground.phase }], guard := none }) (v := ?_) rfl (by kernel_rfl) (by kernel_rfl) (by kernel_rfl) (fun _ _ _ h => h) (Or.inl ⟨by rfl, ?hy17_47⟩) (by assumption) ?rest17_47
              case hy17_47 => (intro w hSw; go_simp; try with_reducible rfl)
              try simp only [Act.put, List.setIfInBounds_toArray, List.set_cons_zero, List.set_cons_succ]
              refine wpAnyH_done (by kernel_rfl) ?_ _
              refine NoPanic.normal ⟨rfl, ?_⟩
              try simp only [Act.put, List.setIfInBounds_toArray, List.set_cons_zero, List.set_cons_succ]
              exact ⟨r, s, t, w2.heap.size, w3.heap.size, _, _, _, _, _, _, _, _, _, _, _, _, _, _, _, rfl, HR2.out.below (chain B23 (chain B35 hb6)), HR3.out.below (chain B35 hb6), hr6.mono (fun b hb => Nat.le_trans B35.size hb.1), KEEP.out _ _ hb6 hx5⟩
            · go_simp
              refine hK.out _ _ (by exact KEEPA.out _ _ hHeld) (fun hHeld2 => ?_)
              clear hK K hHeld
              have hHeld := hHeld2
              clear hHeld2
              try simp only [Act.put, List.setIfInBounds_toArray, List.set_cons_zero, List.set_cons_succ]
              refine wpAnyH_ready (rs := [8]) (by kernel_rfl) (by simp) ?_
              refine AllReadyH.cons (o := { dst := some 53, op := Go.Op.call { callee := Go.Callee.value (Go.Operand.func 27), args := #[Go.Operand.tmp 52], argTypes := #[22] }, type := 58, pos := "law.go:211", after := #[{ on := 7, ground := Go.Ground.data }, { on := 1, ground := Go.Ground.chain }], guard := none }) rfl (fun K hK => ?_) AllReadyH.nil
              go_simp
              go_at_call 27
              (with_reducible refine (C2.out _ hHeld).mono ?_)
              rintro e w3 ⟨s, rfl, hb3, hr3⟩
              have B23 : Below w2.heap.size w2 w3 := chain (by (first | exact Below.refl _ _ | exact (Below.refl _ _).alloc (Nat.le_refl _) _ | exact ((Below.refl _ _).alloc (Nat.le_refl _) _).alloc (by simp) _ | exact B34 | exact B34.alloc B34.size _ | fail)) hb3
              have HR3 : Hid (Rd 82 w3 s (L.take m) (fun b => w2.heap.size ≤ b ∧ b < w3.heap.size)) := rd_up (by (first | exact Below.refl _ _ | exact (Below.refl _ _).alloc (Nat.le_refl _) _ | exact ((Below.refl _ _).alloc (Nat.le_refl _) _).alloc (by simp) _ | exact B34 | exact B34.alloc B34.size _ | fail)) hr3
              have hx3 : Below wr.heap.size wr w3 := KEEP.out _ _ hb3 hHeld
              refine hK.out _ _ (by exact hx3) (fun hHeld2 => ?_)
              clear hK K hHeld
              have hHeld := hHeld2
              clear hHeld2
              try simp only [Act.put, List.setIfInBounds_toArray, List.set_cons_zero, List.set_cons_succ]
              refine wpAnyH_ready (rs := [11]) (by kernel_rfl) (by simp) ?_
              refine AllReadyH.cons (o := { dst := some 56, op := Go.Op.call { callee := Go.Callee.builtin Go.Builtin.append, args := #[Go.Operand.tmp 54, Go.Operand.tmp 55], argTypes := #[22, 22] }, type := 22, pos := "law.go:211", after := #[{ on := 9, ground := Go.Ground.data }, { on := 10, ground := Go.Ground.data }, { on := 8, ground := Go.Ground.chain }], guard := none }) rfl (fun K hK => ?_) AllReadyH.nil
              refine step_app2 rfl (.tmp 54) (.tmp 55) 22 rfl 5 0 _ 1 1 Try.underlying22 info5 rfl (by decide) (by decide) (.slice (some ⟨_, 0, none⟩) 0 0) 0 [] (by rfl) ?_ (some ⟨gb, 0, none⟩) (m + 1) c (L.map byteC) rfl ?_ ?_ one8 ?_ (Nat.zero_le _) ?_
              focus (refine made_row ?_; (repeat (first | (with_reducible exact row_new rfl) | (focus (refine row_new ?_; simp; done)) | (with_reducible refine row_old ?_) | (with_reducible refine row_drew ?_) | (with_reducible refine row_below hb2 ?_) | (with_reducible refine row_below hb3 ?_) | (with_reducible refine row_below BE4 ?_))); done)
              (rw [List.length_map, HN.out, Nat.mul_one])
              exact (RBB.out.below hHeld).holds.2
              omega
              intro v9 w4 hown hwent
              have BE4 := app_below (by omega) hown hwent
              obtain ⟨B4, d4, rfl, ob4, fr4, B34⟩ := app_zero (A := w3) (by (first | exact Below.refl _ _ | exact (Below.refl _ _).alloc (Nat.le_refl _) _ | exact ((Below.refl _ _).alloc (Nat.le_refl _) _).alloc (by simp) _ | exact B34 | exact B34.alloc B34.size _ | fail)) (by omega) hown hwent
              have hx4 : Below wr.heap.size wr w4 := KEEP.out _ _ B34 hx3
              clear hown hwent
              refine hK.out _ _ (by exact hx4) (fun hHeld2 => ?_)
              clear hK K hHeld
              have hHeld := hHeld2
              clear hHeld2
              try simp only [Act.put, List.setIfInBounds_toArray, List.set_cons_zero, List.set_cons_succ]
              refine wpAnyH_ready (rs := [13]) (by kernel_rfl) (by simp) ?_
              refine AllReadyH.cons (o := { dst := some 58, op := Go.Op.call { callee := Go.Callee.builtin Go.Builtin.append, args := #[Go.Operand.tmp 56, Go.Operand.tmp 57], argTypes := #[22, 22] }, type := 22, pos := "law.go:211", after := #[{ on := 11, ground := Go.Ground.data }, { on := 12, ground := Go.Ground.data }, { on := 11, ground := Go.Ground.chain }], guard := none }) rfl (fun K hK => ?_) AllReadyH.nil
              refine step_app2 rfl (.tmp 56) (.tmp 57) 22 rfl 5 0 _ 1 1 Try.underlying22 info5 rfl (by decide) (by decide) (.slice B4 (m + 1) d4) (m + 1) (L.map byteC) (by rfl) ?_ (some ⟨_, 0, none⟩) 1 1 [.int .u8 7] (by rfl) rfl ?_ ?_ ?_ (Nat.zero_le _) ?_
              (first | exact ob4 | exact own_keeps ob4 ((Kept.refl _ _).alloc _))
              focus (refine holds_row ?_; (repeat (first | (with_reducible exact row_new rfl) | (focus (refine row_new ?_; simp; done)) | (with_reducible refine row_old ?_) | (with_reducible refine row_drew ?_) | (with_reducible refine row_below hb2 ?_) | (with_reducible refine row_below hb3 ?_) | (with_reducible refine row_below BE4 ?_))); done)
              focus (intro u hu; obtain rfl := List.mem_singleton.1 hu; rfl)
              omega
              intro v10 w5 hown hwent
              have B35 : Below w3.heap.size w3 w5 := app_on (A := w3) (by (first | exact Below.refl _ _ | exact (Below.refl _ _).alloc (Nat.le_refl _) _ | exact ((Below.refl _ _).alloc (Nat.le_refl _) _).alloc (by simp) _ | exact B34 | exact B34.alloc B34.size _ | fail)) fr4 hwent
              have hx5 : Below wr.heap.size wr w5 := KEEP.out _ _ B35 hx3
              have ob5 : OB w5 v10 (L ++ [7]) := C4.out w5 v10 hown
              clear hown hwent
              refine hK.out _ _ (by exact hx5) (fun hHeld2 => ?_)
              clear hK K hHeld
              have hHeld := hHeld2
              clear hHeld2
              try simp only [Act.put, List.setIfInBounds_toArray, List.set_cons_zero, List.set_cons_succ]
              refine wpAnyH_ready (rs := [14]) (by kernel_rfl) (by simp) ?_
              refine AllReadyH.cons (o := { dst := some 59, op := Go.Op.call { callee := Go.Callee.value (Go.Operand.func 27), args := #[Go.Operand.tmp 58], argTypes := #[22] }, type := 58, pos := "law.go:211", after := #[{ on := 13, ground := Go.Ground.data }, { on := 13, ground := Go.Ground.chain }], guard := none }) rfl (fun K hK => ?_) AllReadyH.nil
              go_simp
              go_at_call 27
              (with_reducible refine (C3.out _ _ ob5).mono ?_)
              rintro e w6 ⟨t, rfl, hb6, hr6⟩
              refine hK.out _ _ (by exact KEEP.out _ _ hb6 hHeld) (fun hHeld2 => ?_)
              clear hK K hHeld
              have hHeld := hHeld2
              clear hHeld2
              try simp only [Act.put, List.setIfInBounds_toArray, List.set_cons_zero, List.set_cons_succ]
              refine wpAnyH_take (i := 15) (oi := { dst := some 5, op := Go.Op.assign (Go.Operand.tmp 46), type := 58, pos := "law.go:211", after := #[{ on := 1, ground := Go.Ground.data }, { on := 14, ground := Go.Ground.chain }, { on := 0, ground := Go.Ground.phase }, { on := 1, ground := Go.Ground.phase }, { on := 2, ground := Go.Ground.textOnly Go.Departure.lateStores }, { on := 3, ground := Go.Ground.textOnly Go.Departure.lateStores }, { on := 4, ground := Go.Ground.textOnly Go.Departure.lateStoresUnsure }, { on := 5, ground := Go.Ground.textOnly Go.Departure.lateStores }, { on := 6, ground := Go.Ground.textOnly Go.Departure.lateStoresUnsure }, { on := 7, ground := Go.Ground.textOnly Go.Departure.lateStoresUnsure }, { on := 8, ground := Go.Ground.textOnly Go.Departure.lateStoresUnsure }, { on := 9, ground := Go.Ground.textOnly Go.Departure.lateStores }, { on := 10, ground := Go.Ground.textOnly Go.Departure.lateStores }, { on := 11, ground := Go.Ground.textOnly Go.Departure.lateStoresUnsure }, { on := 12, ground := Go.Ground.textOnly Go.Departure.lateStores }, { on := 13, ground := Go.Ground.textOnly Go.Departure.lateStoresUnsure }, { on := 14, ground := Go.Ground.textOnly Go.Departure.lateStoresUnsure }], guard := none }) (v := ?_) rfl (by kernel_rfl) (by kernel_rfl) (by kernel_rfl) (fun _ _ _ h => h) (Or.inl ⟨by rfl, ?hy15_48⟩) (by assumption) ?rest15_48
              case hy15_48 => (intro w hSw; go_simp; try with_reducible rfl)
              try simp only [Act.put, List.setIfInBounds_toArray, List.set_cons_zero, List.set_cons_succ]
              refine wpAnyH_take (i := 16) (oi := { dst := some 6, op := Go.Op.assign (Go.Operand.tmp 53), type := 58, pos := "law.go:211", after := #[{ on := 8, ground := Go.Ground.data }, { on := 15, ground := Go.Ground.chain }, { on := 0, ground := Go.Ground.phase }, { on := 1, ground := Go.Ground.phase }, { on := 2, ground := Go.Ground.phase }, { on := 3, ground := Go.Ground.phase }, { on := 4, ground := Go.Ground.phase }, { on := 5, ground := Go.Ground.phase }, { on := 6, ground := Go.Ground.phase }, { on := 7, ground := Go.Ground.phase }, { on := 8, ground := Go.Ground.phase }, { on := 9, ground := Go.Ground.textOnly Go.Departure.lateStores }, { on := 10, ground := Go.Ground.textOnly Go.Departure.lateStores }, { on := 11, ground := Go.Ground.textOnly Go.Departure.lateStoresUnsure }, { on := 12, ground := Go.Ground.textOnly Go.Departure.lateStores }, { on := 13, ground := Go.Ground.textOnly Go.Departure.lateStoresUnsure }, { on := 14, ground := Go.Ground.textOnly Go.Departure.lateStoresUnsure }, { on := 15, ground := Go.Ground.phase }], guard := none }) (v := ?_) rfl (by kernel_rfl) (by kernel_rfl) (by kernel_rfl) (fun _ _ _ h => h) (Or.inl ⟨by rfl, ?hy16_49⟩) (by assumption) ?rest16_49
              case hy16_49 => (intro w hSw; go_simp; try with_reducible rfl)
              try simp only [Act.put, List.setIfInBounds_toArray, List.set_cons_zero, List.set_cons_succ]
              refine wpAnyH_take (i := 17) (oi := { dst := some 7, op := Go.Op.assign (Go.Operand.tmp 59), type := 58, pos := "law.go:211", after := #[{ on := 14, ground := Go.Ground.data }, { on := 16, ground := Go.Ground.chain }, { on := 0, ground := Go.Ground.phase }, { on := 1, ground := Go.Ground.phase }, { on := 2, ground := Go.Ground.phase }, { on := 3, ground := Go.Ground.phase }, { on := 4, ground := Go.Ground.phase }, { on := 5, ground := Go.Ground.phase }, { on := 6, ground := Go.Ground.phase }, { on := 7, ground := Go.Ground.phase }, { on := 8, ground := Go.Ground.phase }, { on := 9, ground := Go.Ground.phase }, { on := 10, ground := Go.Ground.phase }, { on := 11, ground := Go.Ground.phase }, { on := 12, ground := Go.Ground.phase }, { on := 13, ground := Go.Ground.phase }, { on := 14, ground := Go.Ground.phase }, { on := 15, ground := Go.Ground.phase }, { on := 16, ground := Go.Ground.phase }], guard := none }) (v := ?_) rfl (by kernel_rfl) (by kernel_rfl) (by kernel_rfl) (fun _ _ _ h => h) (Or.inl ⟨by rfl, ?hy17_50⟩) (by assumption) ?rest17_50
              case hy17_50 => (intro w hSw; go_simp; try with_reducible rfl)
              try simp only [Act.put, List.setIfInBounds_toArray, List.set_cons_zero, List.set_cons_succ]
              refine wpAnyH_done (by kernel_rfl) ?_ _
              refine NoPanic.normal ⟨rfl, ?_⟩
              try simp only [Act.put, List.setIfInBounds_toArray, List.set_cons_zero, List.set_cons_succ]
              exact ⟨r, s, t, w2.heap.size, w3.heap.size, _, _, _, _, _, _, _, _, _, _, _, _, _, _, _, rfl, HR2.out.below (chain B23 (chain B35 hb6)), HR3.out.below (chain B35 hb6), hr6.mono (fun b hb => Nat.le_trans B35.size hb.1), KEEP.out _ _ hb6 hx5⟩
          · go_simp
            refine hK.out _ _ (by exact KEEPA.out _ _ hHeld) (fun hHeld2 => ?_)
            clear hK K hHeld
            have hHeld := hHeld2
            clear hHeld2
            try simp only [Act.put, List.setIfInBounds_toArray, List.set_cons_zero, List.set_cons_succ]
            refine wpAnyH_ready (rs := [1]) (by kernel_rfl) (by simp) ?_
            refine AllReadyH.cons (o := { dst := some 46, op := Go.Op.call { callee := Go.Callee.value (Go.Operand.func 27), args := #[Go.Operand.tmp 45], argTypes := #[22] }, type := 58, pos := "law.go:211", after := #[{ on := 0, ground := Go.Ground.data }], guard := none }) rfl (fun K hK => ?_) AllReadyH.nil
            go_simp
            go_at_call 27
            (with_reducible refine (C1.out _ hHeld).mono ?_)
            rintro e w2 ⟨r, rfl, hb2, hr2⟩
            have HR2 : Hid (Rd 82 w2 r L (fun b => wr.heap.size ≤ b ∧ b < w2.heap.size)) := rd_up hHeld hr2
            have hx2 := KEEP.out _ _ hb2 hHeld
            refine hK.out _ _ (by exact hx2) (fun hHeld2 => ?_)
            clear hK K hHeld
            have hHeld := hHeld2
            clear hHeld2
            try simp only [Act.put, List.setIfInBounds_toArray, List.set_cons_zero, List.set_cons_succ]
            refine wpAnyH_ready (rs := [8]) (by kernel_rfl) (by simp) ?_
            refine AllReadyH.cons (o := { dst := some 53, op := Go.Op.call { callee := Go.Callee.value (Go.Operand.func 27), args := #[Go.Operand.tmp 52], argTypes := #[22] }, type := 58, pos := "law.go:211", after := #[{ on := 7, ground := Go.Ground.data }, { on := 1, ground := Go.Ground.chain }], guard := none }) rfl (fun K hK => ?_) AllReadyH.nil
            go_simp
            go_at_call 27
            (with_reducible refine (C2.out _ hHeld).mono ?_)
            rintro e w3 ⟨s, rfl, hb3, hr3⟩
            have B23 : Below w2.heap.size w2 w3 := chain (by (first | exact Below.refl _ _ | exact (Below.refl _ _).alloc (Nat.le_refl _) _ | exact ((Below.refl _ _).alloc (Nat.le_refl _) _).alloc (by simp) _ | exact B34 | exact B34.alloc B34.size _ | fail)) hb3
            have HR3 : Hid (Rd 82 w3 s (L.take m) (fun b => w2.heap.size ≤ b ∧ b < w3.heap.size)) := rd_up (by (first | exact Below.refl _ _ | exact (Below.refl _ _).alloc (Nat.le_refl _) _ | exact ((Below.refl _ _).alloc (Nat.le_refl _) _).alloc (by simp) _ | exact B34 | exact B34.alloc B34.size _ | fail)) hr3
            have hx3 : Below wr.heap.size wr w3 := KEEP.out _ _ hb3 hHeld
            refine hK.out _ _ (by exact hx3) (fun hHeld2 => ?_)
            clear hK K hHeld
            have hHeld := hHeld2
            clear hHeld2
            try simp only [Act.put, List.setIfInBounds_toArray, List.set_cons_zero, List.set_cons_succ]
            refine wpAnyH_ready (rs := [11]) (by kernel_rfl) (by simp) ?_
            refine AllReadyH.cons (o := { dst := some 56, op := Go.Op.call { callee := Go.Callee.builtin Go.Builtin.append, args := #[Go.Operand.tmp 54, Go.Operand.tmp 55], argTypes := #[22, 22] }, type := 22, pos := "law.go:211", after := #[{ on := 9, ground := Go.Ground.data }, { on := 10, ground := Go.Ground.data }, { on := 8, ground := Go.Ground.chain }], guard := none }) rfl (fun K hK => ?_) AllReadyH.nil
            refine step_app2 rfl (.tmp 54) (.tmp 55) 22 rfl 5 0 _ 1 1 Try.underlying22 info5 rfl (by decide) (by decide) (.slice (some ⟨_, 0, none⟩) 0 0) 0 [] (by rfl) ?_ (some ⟨gb, 0, none⟩) (m + 1) c (L.map byteC) rfl ?_ ?_ one8 ?_ (Nat.zero_le _) ?_
            focus (refine made_row ?_; (repeat (first | (with_reducible exact row_new rfl) | (focus (refine row_new ?_; simp; done)) | (with_reducible refine row_old ?_) | (with_reducible refine row_drew ?_) | (with_reducible refine row_below hb2 ?_) | (with_reducible refine row_below hb3 ?_) | (with_reducible refine row_below BE4 ?_))); done)
            (rw [List.length_map, HN.out, Nat.mul_one])
            exact (RBB.out.below hHeld).holds.2
            omega
            intro v9 w4 hown hwent
            have BE4 := app_below (by omega) hown hwent
            obtain ⟨B4, d4, rfl, ob4, fr4, B34⟩ := app_zero (A := w3) (by (first | exact Below.refl _ _ | exact (Below.refl _ _).alloc (Nat.le_refl _) _ | exact ((Below.refl _ _).alloc (Nat.le_refl _) _).alloc (by simp) _ | exact B34 | exact B34.alloc B34.size _ | fail)) (by omega) hown hwent
            have hx4 : Below wr.heap.size wr w4 := KEEP.out _ _ B34 hx3
            clear hown hwent
            refine hK.out _ _ (by exact hx4) (fun hHeld2 => ?_)
            clear hK K hHeld
            have hHeld := hHeld2
            clear hHeld2
            try simp only [Act.put, List.setIfInBounds_toArray, List.set_cons_zero, List.set_cons_succ]
            refine wpAnyH_ready (rs := [13]) (by kernel_rfl) (by simp) ?_
            refine AllReadyH.cons (o := { dst := some 58, op := Go.Op.call { callee := Go.Callee.builtin Go.Builtin.append, args := #[Go.Operand.tmp 56, Go.Operand.tmp 57], argTypes := #[22, 22] }, type := 22, pos := "law.go:211", after := #[{ on := 11, ground := Go.Ground.data }, { on := 12, ground := Go.Ground.data }, { on := 11, ground := Go.Ground.chain }], guard := none }) rfl (fun K hK => ?_) AllReadyH.nil
            refine step_app2 rfl (.tmp 56) (.tmp 57) 22 rfl 5 0 _ 1 1 Try.underlying22 info5 rfl (by decide) (by decide) (.slice B4 (m + 1) d4) (m + 1) (L.map byteC) (by rfl) ?_ (some ⟨_, 0, none⟩) 1 1 [.int .u8 7] (by rfl) rfl ?_ ?_ ?_ (Nat.zero_le _) ?_
            (first | exact ob4 | exact own_keeps ob4 ((Kept.refl _ _).alloc _))
            focus (refine holds_row ?_; (repeat (first | (with_reducible exact row_new rfl) | (focus (refine row_new ?_; simp; done)) | (with_reducible refine row_old ?_) | (with_reducible refine row_drew ?_) | (with_reducible refine row_below hb2 ?_) | (with_reducible refine row_below hb3 ?_) | (with_reducible refine row_below BE4 ?_))); done)
            focus (intro u hu; obtain rfl := List.mem_singleton.1 hu; rfl)
            omega
            intro v10 w5 hown hwent
            have B35 : Below w3.heap.size w3 w5 := app_on (A := w3) (by (first | exact Below.refl _ _ | exact (Below.refl _ _).alloc (Nat.le_refl _) _ | exact ((Below.refl _ _).alloc (Nat.le_refl _) _).alloc (by simp) _ | exact B34 | exact B34.alloc B34.size _ | fail)) fr4 hwent
            have hx5 : Below wr.heap.size wr w5 := KEEP.out _ _ B35 hx3
            have ob5 : OB w5 v10 (L ++ [7]) := C4.out w5 v10 hown
            clear hown hwent
            refine hK.out _ _ (by exact hx5) (fun hHeld2 => ?_)
            clear hK K hHeld
            have hHeld := hHeld2
            clear hHeld2
            try simp only [Act.put, List.setIfInBounds_toArray, List.set_cons_zero, List.set_cons_succ]
            refine wpAnyH_ready (rs := [14]) (by kernel_rfl) (by simp) ?_
            refine AllReadyH.cons (o := { dst := some 59, op := Go.Op.call { callee := Go.Callee.value (Go.Operand.func 27), args := #[Go.Operand.tmp 58], argTypes := #[22] }, type := 58, pos := "law.go:211", after := #[{ on := 13, ground := Go.Ground.data }, { on := 13, ground := Go.Ground.chain }], guard := none }) rfl (fun K hK => ?_) AllReadyH.nil
            go_simp
            go_at_call 27
            (with_reducible refine (C3.out _ _ ob5).mono ?_)
            rintro e w6 ⟨t, rfl, hb6, hr6⟩
            refine hK.out _ _ (by exact KEEP.out _ _ hb6 hHeld) (fun hHeld2 => ?_)
            clear hK K hHeld
            have hHeld := hHeld2
            clear hHeld2
            try simp only [Act.put, List.setIfInBounds_toArray, List.set_cons_zero, List.set_cons_succ]
            refine wpAnyH_take (i := 15) (oi := { dst := some 5, op := Go.Op.assign (Go.Operand.tmp 46), type := 58, pos := "law.go:211", after := #[{ on := 1, ground := Go.Ground.data }, { on := 14, ground := Go.Ground.chain }, { on := 0, ground := Go.Ground.phase }, { on := 1, ground := Go.Ground.phase }, { on := 2, ground := Go.Ground.textOnly Go.Departure.lateStores }, { on := 3, ground := Go.Ground.textOnly Go.Departure.lateStores }, { on := 4, ground := Go.Ground.textOnly Go.Departure.lateStoresUnsure }, { on := 5, ground := Go.Ground.textOnly Go.Departure.lateStores }, { on := 6, ground := Go.Ground.textOnly Go.Departure.lateStoresUnsure }, { on := 7, ground := Go.Ground.textOnly Go.Departure.lateStoresUnsure }, { on := 8, ground := Go.Ground.textOnly Go.Departure.lateStoresUnsure }, { on := 9, ground := Go.Ground.textOnly Go.Departure.lateStores }, { on := 10, ground := Go.Ground.textOnly Go.Departure.lateStores }, { on := 11, ground := Go.Ground.textOnly Go.Departure.lateStoresUnsure }, { on := 12, ground := Go.Ground.textOnly Go.Departure.lateStores }, { on := 13, ground := Go.Ground.textOnly Go.Departure.lateStoresUnsure }, { on := 14, ground := Go.Ground.textOnly Go.Departure.lateStoresUnsure }], guard := none }) (v := ?_) rfl (by kernel_rfl) (by kernel_rfl) (by kernel_rfl) (fun _ _ _ h => h) (Or.inl ⟨by rfl, ?hy15_51⟩) (by assumption) ?rest15_51
            case hy15_51 => (intro w hSw; go_simp; try with_reducible rfl)
            try simp only [Act.put, List.setIfInBounds_toArray, List.set_cons_zero, List.set_cons_succ]
            refine wpAnyH_take (i := 16) (oi := { dst := some 6, op := Go.Op.assign (Go.Operand.tmp 53), type := 58, pos := "law.go:211", after := #[{ on := 8, ground := Go.Ground.data }, { on := 15, ground := Go.Ground.chain }, { on := 0, ground := Go.Ground.phase }, { on := 1, ground := Go.Ground.phase }, { on := 2, ground := Go.Ground.phase }, { on := 3, ground := Go.Ground.phase }, { on := 4, ground := Go.Ground.phase }, { on := 5, ground := Go.Ground.phase }, { on := 6, ground := Go.Ground.phase }, { on := 7, ground := Go.Ground.phase }, { on := 8, ground := Go.Ground.phase }, { on := 9, ground := Go.Ground.textOnly Go.Departure.lateStores }, { on := 10, ground := Go.Ground.textOnly Go.Departure.lateStores }, { on := 11, ground := Go.Ground.textOnly Go.Departure.lateStoresUnsure }, { on := 12, ground := Go.Ground.textOnly Go.Departure.lateStores }, { on := 13, ground := Go.Ground.textOnly Go.Departure.lateStoresUnsure }, { on := 14, ground := Go.Ground.textOnly Go.Departure.lateStoresUnsure }, { on := 15, ground := Go.Ground.phase }], guard := none }) (v := ?_) rfl (by kernel_rfl) (by kernel_rfl) (by kernel_rfl) (fun _ _ _ h => h) (Or.inl ⟨by rfl, ?hy16_52⟩) (by assumption) ?rest16_52
            case hy16_52 => (intro w hSw; go_simp; try with_reducible rfl)
            try simp only [Act.put, List.setIfInBounds_toArray, List.set_cons_zero, List.set_cons_succ]
            refine wpAnyH_take (i := 17) (oi := { dst := some 7, op := Go.Op.assign (Go.Operand.tmp 59), type := 58, pos := "law.go:211", after := #[{ on := 14, ground := Go.Ground.data }, { on := 16, ground := Go.Ground.chain }, { on := 0, ground := Go.Ground.phase }, { on := 1, ground := Go.Ground.phase }, { on := 2, ground := Go.Ground.phase }, { on := 3, ground := Go.Ground.phase }, { on := 4, ground := Go.Ground.phase }, { on := 5, ground := Go.Ground.phase }, { on := 6, ground := Go.Ground.phase }, { on := 7, ground := Go.Ground.phase }, { on := 8, ground := Go.Ground.phase }, { on := 9, ground := Go.Ground.phase }, { on := 10, ground := Go.Ground.phase }, { on := 11, ground := Go.Ground.phase }, { on := 12, ground := Go.Ground.phase }, { on := 13, ground := Go.Ground.phase }, { on := 14, ground := Go.Ground.phase }, { on := 15, ground := Go.Ground.phase }, { on := 16, ground := Go.Ground.phase }], guard := none }) (v := ?_) rfl (by kernel_rfl) (by kernel_rfl) (by kernel_rfl) (fun _ _ _ h => h) (Or.inl ⟨by rfl, ?hy17_53⟩) (by assumption) ?rest17_53
            case hy17_53 => (intro w hSw; go_simp; try with_reducible rfl)
            try simp only [Act.put, List.setIfInBounds_toArray, List.set_cons_zero, List.set_cons_succ]
            refine wpAnyH_done (by kernel_rfl) ?_ _
            refine NoPanic.normal ⟨rfl, ?_⟩
            try simp only [Act.put, List.setIfInBounds_toArray, List.set_cons_zero, List.set_cons_succ]
            exact ⟨r, s, t, w2.heap.size, w3.heap.size, _, _, _, _, _, _, _, _, _, _, _, _, _, _, _, rfl, HR2.out.below (chain B23 (chain B35 hb6)), HR3.out.below (chain B35 hb6), hr6.mono (fun b hb => Nat.le_trans B35.size hb.1), KEEP.out _ _ hb6 hx5⟩
      · rintro _ w6 ⟨r, s, t, n1, n2, x45, x46, x47, x48, x49, x50, x51, x52, x53, x54, x55, x56, x57, x58, x59, rfl, hr6, hs6, ht6, hb6⟩
        simp only [Act.put, List.setIfInBounds_toArray, List.set_cons_zero, List.set_cons_succ]
        have HGW : Hid (g < wr.heap.size) := by obtain ⟨cur, h1, _⟩ := R7.out; exact lt_of_row h1
        obtain ⟨B0, hB0⟩ : ∃ B0, wr.heap.size = B0 := ⟨_, rfl⟩
        have HWB : Hid (w.heap.size ≤ B0) := hB0 ▸ HW.out.size
        obtain ⟨fm, hfm⟩ : ∃ fm : Nat → It, (fun i => msk (f i)) = fm := ⟨_, rfl⟩
        have GM : Hid (∀ i, Good w (fm i) ∧ 0 ≤ (fm i).obj ∧ (fm i).obj ≤ 4611686018427387904) := fun i => by
          subst hfm
          have h := HGD.out i
          have h2 := and62 (f i).obj
          exact ⟨⟨h.k0, h.k1, h.v0, h.v1, h.hh, h.hl, h.hn, h.hB, h.hr⟩, h2.1, h2.2⟩
        have E9 : Hid (itB (fm l.length) = le 8 72623859790382856) := by
          subst hfm
          have : f l.length = it0 := by rw [← HF.out]; simp [List.getD]
          show itB (msk (f l.length)) = _
          rw [this]; rfl
        have R8 : Hid (Row6 w6 g (l.length + 1) fm) := by rw [← hfm]; exact R7.out.kept (Kept.of_below (S := fun _ => False) hb6) (fun h => h)
        have HW6 : Hid (Below w.heap.size w w6) := HW.out.trans (hb6.mono HW.out.size)
        rw [hfm] at HL
        have HML : Hid (L = bytesTo fm l.length ++ le 8 72623859790382856 ∧ m = (bytesTo fm l.length).length + 7) := by
          have h1 : L = bytesTo fm l.length ++ le 8 72623859790382856 := by rw [← HL.out, bytesTo, E9.out]
          refine ⟨h1, ?_⟩
          have h2 := HN.out
          rw [h1, List.length_append, le_len] at h2
          omega
        obtain ⟨tl, htl⟩ : ∃ tl, (le 8 72623859790382856).take 7 = tl := ⟨_, rfl⟩
        have TL : Hid (tl.length = 7 ∧ Bytes tl) := by
          rw [← htl]
          exact ⟨by rw [List.length_take, le_len]; rfl, fun z hz => le_bytes 8 _ z (List.mem_of_mem_take hz)⟩
        have HTK : Hid (L.take m = suf fm 0 l.length ++ tl) := by
          have h0 := bytes_suf fm l.length 0
          rw [Nat.zero_add, bytesTo, List.nil_append] at h0
          rw [HML.out.1, HML.out.2, List.take_append, List.take_of_length_le (by omega), show (bytesTo fm l.length).length + 7 - (bytesTo fm l.length).length = 7 by omega, htl, h0]; rfl
        have HLS : Hid (L = suf fm 0 (l.length + 1)) := by
          have h0 := bytes_suf fm (l.length + 1) 0
          rw [Nat.zero_add, bytesTo, List.nil_append] at h0
          rw [← h0]; exact HL.out.symm
        have SLN : Hid (∀ i k, i + k ≤ l.length + 1 → (suf fm i k).length ≤ 30000000) := fun i k hik => by
          have h1 := suf_len fm i k
          have h2 : (bytesTo fm (l.length + 1)).length = (bytesTo fm (i + k)).length + (suf fm (i + k) (l.length + 1 - (i + k))).length := by
            rw [← List.length_append, ← bytes_suf, show i + k + (l.length + 1 - (i + k)) = l.length + 1 by omega]
          have h3 := HN.out
          rw [← HL.out] at h3
          omega
        have SBY : Hid (∀ i k, Bytes (suf fm i k)) := fun i k => suf_bytes fm (fun i => (GM.out i).1.hB) k i
        rw [hB0] at hr6 HGW
        have RR : Hid (Rd 82 w6 r (suf fm 0 (l.length + 1 - 0)) (fun b => B0 ≤ b ∧ b < n1)) := by rw [HLS.out] at hr6; exact hr6
        have SS : Hid (Rd 82 w6 s (suf fm 0 (l.length - 0) ++ tl) (fun b => n1 ≤ b ∧ b < n2)) := by rw [HTK.out] at hs6; exact hs6
        have TT : Hid (Rd 82 w6 t (suf fm 0 (l.length + 1 - 0) ++ [7]) (fun b => n2 ≤ b)) := by rw [HLS.out] at ht6; exact ht6
        clear hr6 hs6 ht6 hb6 hB0 HL HML htl HTK HLS E9 hfm HF HGD HCO R7 RBB RBS C1 C2 C3 C4 KEEP KEEPA HN HNE hmx hmx2 hmx3 hmx4 hmx5 hmx6 hmx7 hmx8 hmx9 hm0 hL8 hL9 hcap hcap2 HW q2 HRD
        go_wp2_with fail
        rw [show ((l.length + 1 : Nat) : Int) = (l.length : Int) + 1 from rfl]
        go_loopw [8] (fun v8 wq => ∃ i : Nat, i ≤ l.length + 1 ∧ v8 = .int .i64 i ∧ Hid (Rd 82 wq r (suf fm i (l.length + 1 - i)) (fun b => B0 ≤ b ∧ b < n1)) ∧ Hid (Rd 82 wq s (suf fm i (l.length - i) ++ tl) (fun b => n1 ≤ b ∧ b < n2)) ∧ Hid (Rd 82 wq t (suf fm i (l.length + 1 - i) ++ [7]) (fun b => n2 ≤ b)) ∧ Hid (Row6 wq g (l.length + 1) fm) ∧ Hid (Below w.heap.size w wq)) (fun v8 _ => l.length + 1 - (intOf v8).toNat)
        case atStart => exact ⟨0, Nat.zero_le _, rfl, RR, SS, TT, R8, HW6⟩
        case round =>
          clear RR SS TT R8 HW6
          obtain ⟨i, hi, rfl, RR, SS, TT, R6, HW⟩ := hrel
          have HRr : Hid (B0 ≤ r ∧ r < n1) := by obtain ⟨A, c, h⟩ := RR.out; exact h.hr
          have HSs : Hid (n1 ≤ s ∧ s < n2) := by obtain ⟨A, c, h⟩ := SS.out; exact h.hr
          have HTt : Hid (n2 ≤ t) := by obtain ⟨A, c, h⟩ := TT.out; exact h.hr
          by_cases hlt : i < l.length + 1
          · have gi := GM.out i
            have E1 : Hid (suf fm i (l.length + 1 - i) = layB (fm i).k (fm i).v (fm i).obj (fm i).hi (fm i).lo (fm i).zs ++ suf fm (i + 1) (l.length + 1 - (i + 1))) := by
              obtain ⟨k, hk⟩ : ∃ k, l.length = i + k := ⟨l.length - i, by omega⟩
              rw [show l.length + 1 - i = k + 1 by omega, show l.length + 1 - (i + 1) = k by omega]; rfl
            have B1p : Hid (Bytes (suf fm i (l.length + 1 - i)) ∧ (suf fm i (l.length + 1 - i)).length ≤ 30000000) := ⟨SBY.out _ _, SLN.out _ _ (by omega)⟩
            have y0 : wr.cell? ⟨g, i * 6, none⟩ = some (.int .i64 (fm i).k) := R6.out.cell hlt 0 _ rfl
            have y1 : wr.cell? ⟨g, i * 6 + 1, none⟩ = some (.int .u64 (fm i).v) := R6.out.cell hlt 1 _ rfl
            have y2 : wr.cell? ⟨g, i * 6 + 2, none⟩ = some (.int .i64 (fm i).obj) := R6.out.cell hlt 2 _ rfl
            have y3 : wr.cell? ⟨g, i * 6 + 3, none⟩ = some (.int .u64 (fm i).hi) := R6.out.cell hlt 3 _ rfl
            have y4 : wr.cell? ⟨g, i * 6 + 4, none⟩ = some (.int .u64 (fm i).lo) := R6.out.cell hlt 4 _ rfl
            have y5 : wr.cell? ⟨g, i * 6 + 5, none⟩ = some (.slice (fm i).A (fm i).n (fm i).c) := R6.out.cell hlt 5 _ rfl
            have GI := Lib.hid gi
            have HX1 := Lib.hid (back_any wr r (suf fm (i + 1) (l.length + 1 - (i + 1))) (fm i).zs (fun b => B0 ≤ b ∧ b < n1) (fm i).k (fm i).v (fm i).obj (fm i).hi (fm i).lo (fm i).A (fm i).n (fm i).c gi.1.hn gi.1.k0 gi.1.k1 gi.1.v0 gi.1.v1 gi.2.1 gi.2.2 gi.1.hh gi.1.hl (by rw [← E1.out]; exact RR.out) (by rw [← E1.out]; exact B1p.out.1) (by rw [← E1.out]; have := B1p.out.2; omega) (fun w' hk' => (gi.1.below (HW.out.trans (hk'.below (fun b hb => by have h1 := HRr.out; have h2 := HWB.out; have h3 : b = r := hb; omega) HW.out.size))).hr))
            clear gi
            go_wp2_with fail
            (with_reducible refine HX1.out.mono ?_)
            rintro e w8 ⟨rfl, g1, g2⟩
            have RR1 := Lib.hid g1
            have SS1 := Lib.hid (SS.out.kept g2 (fun b hb e => by have h1 := HRr.out; have h2 := hb; have h3 : b = r := e; omega))
            have TT1 := Lib.hid (TT.out.kept g2 (fun b hb e => by have h1 := HRr.out; have h2 := HSs.out; have h3 : n2 ≤ b := hb; have h4 : b = r := e; omega))
            have R61 := Lib.hid (R6.out.kept g2 (fun e => by have h1 := HRr.out; have h2 := HGW.out; have h4 : g = r := e; omega))
            have HW1 : Hid (Below w.heap.size w w8) := HW.out.trans (g2.below (fun b hb => by have h1 := HRr.out; have h2 := HWB.out; have h3 : b = r := hb; omega) HW.out.size)
            have gi := GI.out
            have z0 : w8.cell? ⟨g, i * 6, none⟩ = some (.int .i64 (fm i).k) := R61.out.cell hlt 0 _ rfl
            have z1 : w8.cell? ⟨g, i * 6 + 1, none⟩ = some (.int .u64 (fm i).v) := R61.out.cell hlt 1 _ rfl
            have z2 : w8.cell? ⟨g, i * 6 + 2, none⟩ = some (.int .i64 (fm i).obj) := R61.out.cell hlt 2 _ rfl
            have z3 : w8.cell? ⟨g, i * 6 + 3, none⟩ = some (.int .u64 (fm i).hi) := R61.out.cell hlt 3 _ rfl
            have z4 : w8.cell? ⟨g, i * 6 + 4, none⟩ = some (.int .u64 (fm i).lo) := R61.out.cell hlt 4 _ rfl
            have z5 : w8.cell? ⟨g, i * 6 + 5, none⟩ = some (.slice (fm i).A (fm i).n (fm i).c) := R61.out.cell hlt 5 _ rfl
            have HX2 := Lib.hid (back_any w8 t (suf fm (i + 1) (l.length + 1 - (i + 1)) ++ [7]) (fm i).zs (fun b => n2 ≤ b) (fm i).k (fm i).v (fm i).obj (fm i).hi (fm i).lo (fm i).A (fm i).n (fm i).c gi.1.hn gi.1.k0 gi.1.k1 gi.1.v0 gi.1.v1 gi.2.1 gi.2.2 gi.1.hh gi.1.hl (by rw [← List.append_assoc, ← E1.out]; exact TT1.out) (by rw [← List.append_assoc, ← E1.out]; intro z hz; rcases List.mem_append.1 hz with h | h; exact B1p.out.1 z h; obtain rfl := List.mem_singleton.1 h; decide) (by rw [← List.append_assoc, ← E1.out, List.length_append]; have := B1p.out.2; simp; omega) (fun w' hk' => (gi.1.below (HW1.out.trans (hk'.below (fun b hb => by have h1 := HRr.out; have h2 := HWB.out; have h4 := HSs.out; have h5 := HTt.out; have h3 : b = t := hb; omega) HW1.out.size))).hr))
            clear gi g1 g2 RR SS TT R6 HW HX1 y0 y1 y2 y3 y4 y5
            go_wp2_with fail
            (with_reducible refine HX2.out.mono ?_)
            rintro e w9 ⟨rfl, g1, g2⟩
            have TT2 := Lib.hid g1
            have RR2 := Lib.hid (RR1.out.kept g2 (fun b hb e => by have h1 := HRr.out; have h2 := HSs.out; have h3 := HTt.out; have h4 : b = t := e; have h5 := hb; omega))
            have SS2 := Lib.hid (SS1.out.kept g2 (fun b hb e => by have h1 := HSs.out; have h2 := HTt.out; have h3 : b = t := e; have h4 := hb; omega))
            have R62 := Lib.hid (R61.out.kept g2 (fun e => by have h1 := HRr.out; have h2 := HGW.out; have h3 := HSs.out; have h5 := HTt.out; have h4 : g = t := e; omega))
            have HW2 : Hid (Below w.heap.size w w9) := HW1.out.trans (g2.below (fun b hb => by have h1 := HRr.out; have h2 := HWB.out; have h4 := HSs.out; have h5 := HTt.out; have h3 : b = t := hb; omega) HW1.out.size)
            clear g1 g2 RR1 SS1 TT1 R61 HW1 HX2 z0 z1 z2 z3 z4 z5
            by_cases hl2 : i < l.length
            · have hl3 : (i : Int) < (l.length : Int) := by omega
              have gi := GI.out
              have z0 : w9.cell? ⟨g, i * 6, none⟩ = some (.int .i64 (fm i).k) := R62.out.cell hlt 0 _ rfl
              have z1 : w9.cell? ⟨g, i * 6 + 1, none⟩ = some (.int .u64 (fm i).v) := R62.out.cell hlt 1 _ rfl
              have z2 : w9.cell? ⟨g, i * 6 + 2, none⟩ = some (.int .i64 (fm i).obj) := R62.out.cell hlt 2 _ rfl
              have z3 : w9.cell? ⟨g, i * 6 + 3, none⟩ = some (.int .u64 (fm i).hi) := R62.out.cell hlt 3 _ rfl
              have z4 : w9.cell? ⟨g, i * 6 + 4, none⟩ = some (.int .u64 (fm i).lo) := R62.out.cell hlt 4 _ rfl
              have z5 : w9.cell? ⟨g, i * 6 + 5, none⟩ = some (.slice (fm i).A (fm i).n (fm i).c) := R62.out.cell hlt 5 _ rfl
              have E2 : Hid (suf fm i (l.length - i) = layB (fm i).k (fm i).v (fm i).obj (fm i).hi (fm i).lo (fm i).zs ++ suf fm (i + 1) (l.length - (i + 1))) := by
                obtain ⟨k, hk⟩ : ∃ k, l.length = i + (k + 1) := ⟨l.length - i - 1, by omega⟩
                rw [show l.length - i = k + 1 by omega, show l.length - (i + 1) = k by omega]; rfl
              have B2p : Hid (Bytes (suf fm i (l.length - i)) ∧ (suf fm i (l.length - i)).length ≤ 30000000) := ⟨SBY.out _ _, SLN.out _ _ (by omega)⟩
              have HX3 := Lib.hid (back_any w9 s (suf fm (i + 1) (l.length - (i + 1)) ++ tl) (fm i).zs (fun b => n1 ≤ b ∧ b < n2) (fm i).k (fm i).v (fm i).obj (fm i).hi (fm i).lo (fm i).A (fm i).n (fm i).c gi.1.hn gi.1.k0 gi.1.k1 gi.1.v0 gi.1.v1 gi.2.1 gi.2.2 gi.1.hh gi.1.hl (by rw [← List.append_assoc, ← E2.out]; exact SS2.out) (by rw [← List.append_assoc, ← E2.out]; intro z hz; rcases List.mem_append.1 hz with h | h; exact B2p.out.1 z h; exact TL.out.2 z h) (by rw [← List.append_assoc, ← E2.out, List.length_append]; have := B2p.out.2; have := TL.out.1; omega) (fun w' hk' => (gi.1.below (HW2.out.trans (hk'.below (fun b hb => by have h1 := HRr.out; have h2 := HWB.out; have h4 := HSs.out; have h3 : b = s := hb; omega) HW2.out.size))).hr))
              clear gi SS2
              go_wp2_with fail
              (with_reducible refine HX3.out.mono ?_)
              rintro e w10 ⟨rfl, g1, g2⟩
              have SS3 := Lib.hid g1
              have RR3 := Lib.hid (RR2.out.kept g2 (fun b hb e => by have h2 := HSs.out; have h4 : b = s := e; have h5 := hb; omega))
              have TT3 := Lib.hid (TT2.out.kept g2 (fun b hb e => by have h1 := HSs.out; have h3 : b = s := e; have h4 : n2 ≤ b := hb; omega))
              have R63 := Lib.hid (R62.out.kept g2 (fun e => by have h1 := HRr.out; have h2 := HGW.out; have h3 := HSs.out; have h4 : g = s := e; omega))
              have HW3 : Hid (Below w.heap.size w w10) := HW2.out.trans (g2.below (fun b hb => by have h1 := HRr.out; have h2 := HWB.out; have h4 := HSs.out; have h3 : b = s := hb; omega) HW2.out.size)
              clear g1 g2 RR2 TT2 R62 HW2 HX3 z0 z1 z2 z3 z4 z5
              go_wp2_with fail
              exact ⟨⟨i + 1, by omega, by simp, RR3, SS3, TT3, R63, HW3⟩, by simp [intOf]; omega⟩
            · have hl4 : ¬ (i : Int) < (l.length : Int) := by omega
              have SS3 : Hid (Rd 82 w9 s (suf fm (i + 1) (l.length - (i + 1)) ++ tl) (fun b => n1 ≤ b ∧ b < n2)) := by
                have h := SS2.out
                rw [show l.length - i = 0 by omega] at h
                rw [show l.length - (i + 1) = 0 by omega]
                exact h
              clear SS2
              go_wp2_with fail
              exact ⟨⟨i + 1, by omega, by simp, RR2, SS3, TT2, R62, HW2⟩, by simp [intOf]; omega⟩
          · have : i = l.length + 1 := by omega
            subst this
            have R9 : Hid (Rd 82 wr r [] (fun b => B0 ≤ b ∧ b < n1)) := by have h := RR.out; rw [Nat.sub_self] at h; exact h
            have T9 : Hid (Rd 82 wr t [7] (fun b => n2 ≤ b)) := by have h := TT.out; rw [Nat.sub_self] at h; exact h
            have S9 : Hid (Rd 82 wr s tl (fun b => n1 ≤ b ∧ b < n2)) := by have h := SS.out; rw [show l.length - (l.length + 1) = 0 by omega] at h; exact h
            clear RR SS TT R6 hlt hi GM SLN SBY
            have HX := Lib.hid (left_any wr s tl _ S9.out)
            rw [TL.out.1] at HX
            go_wp2_with fail
            (with_reducible refine HX.out.mono ?_)
            rintro e w9 ⟨rfl, rfl⟩
            clear HX
            have HX := Lib.hid (number_any wr s tl _ S9.out TL.out.2 8)
            have hE : numE tl 8 = 17 := by unfold numE; rw [if_neg (by decide), if_pos (by have := TL.out.1; omega)]
            have hL : numL tl 8 = tl := by unfold numL; rw [if_neg (by decide), if_pos (by have := TL.out.1; omega)]
            rw [hE, hL] at HX
            clear hE hL
            go_wp2_with fail
            (with_reducible refine HX.out.mono ?_)
            rintro e w9 ⟨rfl, g1, g2⟩
            have S10 := Lib.hid g1
            have R10 := Lib.hid (R9.out.kept g2 (fun b hb e => by have h2 := HSs.out; have h4 : b = s := e; have h5 := hb; omega))
            have T10 := Lib.hid (T9.out.kept g2 (fun b hb e => by have h1 := HSs.out; have h3 : b = s := e; have h4 : n2 ≤ b := hb; omega))
            have HW10 : Hid (Below w.heap.size w w9) := HW.out.trans (g2.below (fun b hb => by have h1 := HRr.out; have h2 := HWB.out; have h4 := HSs.out; have h3 : b = s := hb; omega) HW.out.size)
            clear g1 g2 R9 T9 S9 HX HW
            have D1 := Lib.hid (end_any w9 r [] _ R10.out)
            have D2 := Lib.hid (left_any w9 r [] _ R10.out)
            have D3 := Lib.hid (end_any w9 t [7] _ T10.out)
            have D4 := Lib.hid (left_any w9 t [7] _ T10.out)
            have D5 := Lib.hid (left_any w9 s tl _ S10.out)
            rw [TL.out.1] at D5
            rw [show endZ [] = 0 from rfl] at D1
            rw [show endZ [7] = 23 from rfl] at D3
            go_wp2_with fail
            (with_reducible refine D1.out.mono ?_)
            rintro e w10 ⟨rfl, rfl⟩
            go_wp2_with fail
            (with_reducible refine D2.out.mono ?_)
            rintro e w10 ⟨rfl, rfl⟩
            go_wp2_with fail
            (with_reducible refine D3.out.mono ?_)
            rintro e w10 ⟨rfl, rfl⟩
            go_wp2_with fail
            (with_reducible refine D4.out.mono ?_)
            rintro e w10 ⟨rfl, rfl⟩
            go_wp2_with fail
            (with_reducible refine D5.out.mono ?_)
            rintro e w10 ⟨rfl, rfl⟩
            go_wp2_with fail
            go_ret
            exact ⟨rfl, HW10.out⟩
end Go.Proofs.Ytolfmchgcelnmaa.O

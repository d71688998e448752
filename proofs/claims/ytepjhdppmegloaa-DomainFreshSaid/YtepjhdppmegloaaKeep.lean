/- DomainKeeps: the walk. -/
import Derived.Test.YtepjhdppmegloaaKeep0
import Derived.Test.YtepjhdppmegloaaAll0
import Derived.StillTailTactics
import Derived.Deep.CutBlock
import Derived.Deep.DeepCutAuto
namespace Go.Proofs.Ytepjhdppmegloaa.Caps
open Go.RowKit Go.Proofs.Ytepjhdppmegloaa.Mem
/-- A list of numbers, opened: its slice, and each cell. -/
theorem ReadsInts.form {w : World} {v : Value} {zs : List Int} (h : ReadsInts w v zs) : ∃ A c, v = .slice A zs.length c ∧ zs.length ≤ maxLen ∧ (0 < zs.length → ∃ g o, A = some ⟨g, o, none⟩ ∧ ∀ j u, zs[j]? = some u → w.cell? ⟨g, o + j, none⟩ = some (.int .i64 u)) := h
theorem ReadsCaps.form {w : World} {v : Value} {l : List Cap} (h : ReadsCaps w v l) : ∃ A c, v = .slice A l.length c ∧ l.length ≤ maxLen ∧ (0 < l.length → ∃ g o, A = some ⟨g, o, none⟩ ∧ ∀ j (x : Cap), l[j]? = some x → w.cell? ⟨g, o + j * 3, none⟩ = some (.int .i64 x.obj) ∧ w.cell? ⟨g, o + j * 3 + 1, none⟩ = some (.int .u64 x.hi) ∧ w.cell? ⟨g, o + j * 3 + 2, none⟩ = some (.int .u64 x.lo)) := by
  obtain ⟨A, c, h1, h2, h3⟩ := h
  refine ⟨A, c, h1, h2, fun hp => ?_⟩
  obtain ⟨g, o, h4, h5⟩ := h3 hp
  refine ⟨g, o, h4, fun j x hx => ?_⟩
  obtain ⟨hj, hx'⟩ := List.getElem?_eq_some_iff.1 hx
  have e : l.getD j z0 = x := by rw [List.getD_eq_getElem?_getD, hx]; rfl
  have f : ∀ i, i < 3 → (capsC l)[j * 3 + i]? = (capC x)[i]? := fun i hi => by rw [← e]; exact capsC_at l j i hj hi
  refine ⟨h5 (j * 3) _ (f 0 (by omega)), ?_, ?_⟩
  · have := h5 (j * 3 + 1) _ (f 1 (by omega)); rwa [← Nat.add_assoc] at this
  · have := h5 (j * 3 + 2) _ (f 2 (by omega)); rwa [← Nat.add_assoc] at this
theorem OwnR.at {w : World} {A : Option Addr} {c : Nat} {l : List Cap} (h : OwnR w (.slice A l.length c) l) (hp : 0 < l.length) : ∃ g, A = some ⟨g, 0, none⟩ ∧ l.length ≤ c ∧ c ≤ maxLen ∧
    ∀ j (x : Cap), l[j]? = some x → w.cell? ⟨g, j * 3, none⟩ = some (.int .i64 x.obj) ∧ w.cell? ⟨g, j * 3 + 1, none⟩ = some (.int .u64 x.hi) ∧ w.cell? ⟨g, j * 3 + 2, none⟩ = some (.int .u64 x.lo) := by
  obtain ⟨A', c', e, h1, h2, h3⟩ := h
  obtain ⟨rfl, rfl⟩ : A = A' ∧ c = c' := by simpa using e
  obtain ⟨g, rfl, h4⟩ := h3 hp
  refine ⟨g, rfl, h1, h2, fun j x hx => ?_⟩
  obtain ⟨hj, hx'⟩ := List.getElem?_eq_some_iff.1 hx
  have e : l.getD j z0 = x := by rw [List.getD_eq_getElem?_getD, hx]; rfl
  have f : ∀ i, i < 3 → (capsC l)[j * 3 + i]? = (capC x)[i]? := fun i hi => by rw [← e]; exact capsC_at l j i hj hi
  exact ⟨h4 (j * 3) _ (f 0 (by omega)), h4 (j * 3 + 1) _ (f 1 (by omega)), h4 (j * 3 + 2) _ (f 2 (by omega))⟩
theorem half_len {w wr : World} {p : Nat} {most : Int} {m l : List Cap} {v : Value} (h : Half w p most m v l wr) : Calls Try.prog 13 #[.pointer (some ⟨p, 0, none⟩)] wr fun e w' => e = .returned (.int .i64 m.length) ∧ wr = w' := one_len h.1
theorem half_all {w wr : World} {p : Nat} {most : Int} {m l : List Cap} {v : Value} (h : Half w p most m v l wr) (hb : m.length ≤ 1000000) : Calls Try.prog 15 #[.pointer (some ⟨p, 0, none⟩)] wr fun e w' => ∃ u, e = .returned u ∧ w'.ownsRow 0 37 3 u m.length (capsC m) ∧ Half w p most m v l w' :=
  (one_all h.1 hb).mono fun _ _ ⟨u, he, ho, hb, _⟩ => ⟨u, he, ho, h.below hb⟩
theorem half_same {w wr : World} {p : Nat} {most : Int} {m l : List Cap} {v u : Value} (h : Half w p most m v l wr) (hu : wr.ownsRow 0 37 3 u m.length (capsC m)) : Calls Try.prog 14 #[u, v] wr fun e w' => e = .returned (.bool (sameB m l)) ∧ Half w p most m v l w' :=
  (same_below wr u v m l (reads_of_own hu) h.2.1.reads).mono fun _ _ ⟨he, hb⟩ => ⟨he, h.below hb⟩
theorem half_pick {w wr : World} {p : Nat} {most : Int} {m l : List Cap} {v : Value} (h : Half w p most m v l wr) (u : Value) (ps : List Int) (hu : ReadsInts w u ps) (hm : most ≤ 32) : Calls Try.prog 17 #[.pointer (some ⟨p, 0, none⟩), u] wr fun e w' => ∃ y, e = .returned (.tuple #[y, .int .i64 (pickE most m ps)]) ∧ OwnR w' y (pickL most m ps) ∧ Half w p most m v l w' :=
  (one_pick h.1 u ps (ints_below hu h.2.2) hm).mono fun _ _ ⟨y, he, ho, hb, _⟩ => ⟨y, he, OwnR.of_own ho, h.below hb⟩
set_option maxHeartbeats 4000000 in
set_option maxRecDepth 100000 in
theorem law_keeps (w : World) (a : Int) (v1 v2 v3 : Value) (ls : List Cap) (rs ps : List Int) (h1 : ReadsCaps w v1 ls) (h2 : ReadsInts w v2 rs) (h3 : ReadsInts w v3 ps) : Calls Try.prog 4 #[.int .i64 a, v1, v2, v3] w fun e w' => e = .returned (.bool true) ∧ Below w.heap.size w w' := by
  have HI := Lib.hid (fun w => into_any w a 32 (by decide) (by decide))
  have q0 := intoI_lo a (top := 32) (by decide)
  have q1 := intoI_hi a (top := 32) (by decide)
  obtain ⟨q, hq⟩ : ∃ q, intoI a 32 = q := ⟨_, rfl⟩
  rw [hq] at HI q0 q1
  have HM := Lib.hid (show mostOk (1 + q) = true by simp [mostOk]; omega)
  clear hq
  obtain ⟨A1, c1, rfl, m1, f1⟩ := h1.form
  obtain ⟨A2, c2, rfl, m2, f2⟩ := h2.form
  obtain ⟨A3, c3, rfl, m3, f3⟩ := h3.form
  have HP := Lib.hid h3
  obtain ⟨n1, e1⟩ : ∃ n, ls.length = n := ⟨_, rfl⟩
  obtain ⟨n2, e2⟩ : ∃ n, rs.length = n := ⟨_, rfl⟩
  obtain ⟨n3, e3⟩ : ∃ n, ps.length = n := ⟨_, rfl⟩
  have HL := Lib.hid f1
  have HR := Lib.hid f2
  have HQ := Lib.hid f3
  rw [e1] at HL m1 ⊢
  rw [e2] at HR m2 ⊢
  rw [e3] at HQ m3 ⊢
  unfold maxLen at m1 m2 m3
  have E1 := Lib.hid e1
  have E2 := Lib.hid e2
  have E3 := Lib.hid e3
  clear f1 f2 f3 e1 e2 e3 h1 h2 h3
  go_enter Try.func4, Try.ntmps4
  go_upto_block 0 with (first | (go_at_call 10; (with_reducible refine (HI.out _).mono ?_); rintro e w1 ⟨rfl, rfl⟩) | (go_at_call 6; (with_reducible refine (new_on _ _ HM.out).mono ?_); rintro e w1 ⟨rfl, rfl⟩) | (go_at_call 8; (with_reducible refine (known_any _).mono ?_); rintro e w5 ⟨rfl, b5⟩))
  have M0 := Lib.hid ((full_start (w := w) (p := w.heap.size) (most := 1 + q) (one_made (T := 58) (fun k hk => hk)) ((Below.refl _ w).alloc (Nat.le_refl _) _)).below b5)
  clear b5
  go_cut [11] (fun v11 wr => ∃ (l : List Cap) (A : Option Addr) (c : Nat), v11 = .slice A l.length c ∧ (l.length : Int) ≤ 1 + q ∧ Hid (Half w w.heap.size (1 + q) l (.slice A l.length c) l wr))
  case first =>
    go_wp2_with fail
    go_loopw [11, 12] (fun v11 v12 wr => ∃ (i : Nat) (l : List Cap) (A : Option Addr) (c : Nat), i ≤ n1 ∧ i ≤ 64 ∧ v12 = .int .i64 i ∧ v11 = .slice A l.length c ∧ (l.length : Int) ≤ 1 + q ∧ Hid (Full w w.heap.size (1 + q) l (.slice A l.length c) l wr)) (fun _ vi _ => n1 - (intOf vi).toNat)
    case atStart => exact ⟨0, [], none, 0, Nat.zero_le _, Nat.zero_le _, rfl, rfl, by simp; omega, M0⟩
    case round =>
      obtain ⟨i, l, A, c, hi, hi64, rfl, rfl, hlm, HF⟩ := hrel
      by_cases hlt : i < n1 ∧ i < 64
      · obtain ⟨hlt, hlt64⟩ := hlt
        obtain ⟨x, hx⟩ : ∃ x, ls[i]? = some x := ⟨_, List.getElem?_eq_getElem (by rw [E1.out]; exact hlt)⟩
        obtain ⟨g, o, rfl, hcA⟩ := HL.out (by omega)
        obtain ⟨k0, k1, k2⟩ := hcA i x hx
        have up : ∀ (q : Addr) (u : Value), w.cell? q = some u → wr.cell? q = some u := fun q u hq => (HF.out.1.2.2.cell (World.block_lt_of_cell? w q hq)).trans hq
        have K0 := Lib.hid k0
        have K1 := Lib.hid k1
        have K2 := Lib.hid k2
        replace k0 := up _ _ k0
        replace k1 := up _ _ k1
        replace k2 := up _ _ k2
        clear up hx hcA
        by_cases hfull : 1 + q ≤ (l.length : Int)
        · have ea : addE (1 + q) l = 14 := if_pos hfull
          have el : addL (1 + q) l x = l := if_pos hfull
          have HA := Lib.hid (full_add HF.out x (by omega))
          rw [ea, el] at HA
          clear ea el
          go_wp2_with (go_at_call 11; (with_reducible refine HA.out.mono ?_); rintro e w6 ⟨rfl, F6⟩)
          have HF6 := Lib.hid F6
          clear F6
          go_wp2
          exact ⟨⟨i + 1, l, A, c, by omega, by omega, by simp, rfl, hlm, HF6⟩, by simp [intOf]; omega⟩
        · have ea : addE (1 + q) l = 0 := if_neg hfull
          have el : addL (1 + q) l x = l ++ [x] := if_neg hfull
          have HA := Lib.hid (full_add HF.out x (by omega))
          rw [ea, el] at HA
          clear ea el
          have hfull' : (l.length : Int) < 1 + q := by omega
          clear hfull k0 k1 k2
          have e64 : (l.length : Int) ≤ 32 := by omega
          have k0 := (HF.out.1.2.2.cell (World.block_lt_of_cell? w _ K0.out)).trans K0.out
          have k1 := (HF.out.1.2.2.cell (World.block_lt_of_cell? w _ K1.out)).trans K1.out
          have k2 := (HF.out.1.2.2.cell (World.block_lt_of_cell? w _ K2.out)).trans K2.out
          go_wp2_with (first | (go_at_call 11; (with_reducible refine HA.out.mono ?_); rintro e w6 ⟨rfl, F6⟩; have HF6 := Lib.hid F6; have kk0 := (F6.1.2.2.cell (World.block_lt_of_cell? w _ K0.out)).trans K0.out; have kk1 := (F6.1.2.2.cell (World.block_lt_of_cell? w _ K1.out)).trans K1.out; have kk2 := (F6.1.2.2.cell (World.block_lt_of_cell? w _ K2.out)).trans K2.out; clear F6) | (at_builtin; refine list_app rfl (.tmp 76) (.tmp 81) 43 rfl 37 w.heap.size _ 3 24 Try.underlying43 info37 rfl (by decide) (by decide) (.slice A l.length c) l.length _ rfl (own_keeps HF6.out.2 ((Kept.refl _ _).alloc _)) (some ⟨w6.heap.size, 0, none⟩) 1 1 (capC x) rfl rfl (holds_new _ _ _ _ _ rfl) (by simp [capC, Value.oneCell']) (by omega) (Nat.le_trans HF6.out.1.2.2.size (by simp)) ?_; intro v7 w7 hown7 hgrow7 hat7 _; have F7 := Full.grown (l' := l ++ [x]) (HF6.out.below ((Below.refl _ w6).alloc (Nat.le_refl _) _)) (by simpa [capsC_append, capsC] using hown7) hgrow7 (by simpa using hat7); obtain ⟨A7, c7, rfl, _⟩ := own_slice hown7; have HF7 := Lib.hid F7; clear F7 hown7 hgrow7 hat7))
          exact ⟨⟨i + 1, l ++ [x], A7, c7, by omega, by omega, by simp, by simp, by simp; omega, by simpa using HF7⟩, by simp [intOf]; omega⟩
      · have hend : i = n1 ∨ (i < n1 ∧ i = 64) := by omega
        have HF' := Lib.hid HF.out.1
        clear hlt
        rcases hend with rfl | ⟨hlt, rfl⟩
        · go_wp2
          go_meet
          exact ⟨l, A, c, rfl, hlm, HF'⟩
        · go_wp2
          go_meet
          exact ⟨l, A, c, rfl, hlm, HF'⟩
  case rest =>
    obtain ⟨l1, B1, d1, rfl, hl1, HF⟩ := hcut
    go_upto_block 2 with fail
    go_cut [11] (fun v11 wr => ∃ (l : List Cap) (A : Option Addr) (c : Nat), v11 = .slice A l.length c ∧ (l.length : Int) ≤ 1 + q ∧ Hid (Half w w.heap.size (1 + q) l (.slice A l.length c) l wr))
    case first =>
      go_wp2_with fail
      go_loopw [11, 14] (fun v11 v14 wr => ∃ (i : Nat) (l : List Cap) (A : Option Addr) (c : Nat), i ≤ n2 ∧ i ≤ 64 ∧ v14 = .int .i64 i ∧ v11 = .slice A l.length c ∧ (l.length : Int) ≤ 1 + q ∧ Hid (Half w w.heap.size (1 + q) l (.slice A l.length c) l wr)) (fun _ vi _ => n2 - (intOf vi).toNat)
      case atStart => exact ⟨0, l1, B1, d1, Nat.zero_le _, Nat.zero_le _, rfl, rfl, hl1, HF⟩
      case round =>
        clear HF hl1
        obtain ⟨i, l, A, c, hi, hi64, rfl, rfl, hlm, HF⟩ := hrel
        by_cases hlt : i < n2 ∧ i < 64
        · obtain ⟨hlt, hlt64⟩ := hlt
          obtain ⟨z, hz⟩ : ∃ z, rs[i]? = some z := ⟨_, List.getElem?_eq_getElem (by rw [E2.out]; exact hlt)⟩
          obtain ⟨g, o, rfl, hcA⟩ := HR.out (by omega)
          have k0 := hcA i z hz
          have K0 := Lib.hid k0
          replace k0 := (HF.out.2.2.cell (World.block_lt_of_cell? w _ K0.out)).trans K0.out
          clear hz hcA
          have heq := eqCap
          have HA := Lib.hid (half_remove HF.out z)
          by_cases hin : hasB l z = true
          · have hz' : 0 ≤ z ∧ z < (l.length : Int) := by simpa [hasB] using hin
            obtain ⟨hz0, hz1⟩ := hz'
            obtain ⟨j, rfl⟩ : ∃ j : Nat, z = (j : Int) := ⟨z.toNat, by omega⟩
            have hjl : j < l.length := by omega
            obtain ⟨x, hx⟩ : ∃ x, l[j]? = some x := ⟨_, List.getElem?_eq_getElem hjl⟩
            obtain ⟨g', rfl, hlc, hcm, _⟩ := HF.out.2.1.at (by omega)
            unfold maxLen at hcm
            have eC : remC l (j : Int) = x := by unfold remC; rw [if_pos hin, Int.toNat_natCast, List.getD_eq_getElem?_getD, hx]; rfl
            have eE : remE l (j : Int) = 0 := by unfold remE; rw [if_pos hin]
            have eL : remL l (j : Int) = l.take j ++ l.drop (j + 1) := by unfold remL; rw [if_pos hin, Int.toNat_natCast]
            rw [eC, eE, eL] at HA
            have hs := capEq_self x
            have HX := Lib.hid hx
            clear eC eE eL hin hx hz0 hz1
            have hlen : (l.take j ++ l.drop (j + 1)).length = l.length - 1 := by simp; omega
            have HLEN := Lib.hid hlen
            clear hlen
            have hjle : j ≤ l.length := by omega
            have hjle1 : j + 1 ≤ l.length := by omega
            have hjcap : j ≤ c := by omega
            have hjcap1 : j + 1 ≤ c := by omega
            have hjle2 : (j : Int) + 1 ≤ (l.length : Int) := by omega
            go_upto_region 21 with (first | (go_at_call 12; (with_reducible refine HA.out.mono ?_); rintro e w6 ⟨rfl, F6⟩; have HF6 := Lib.hid (F6.below ((Below.refl _ _).alloc (Nat.le_refl _) (boxC x))); have kk0 := (HF6.out.2.2.cell (World.block_lt_of_cell? w _ K0.out)).trans K0.out; clear F6))
            obtain ⟨t0, t1, t2, t3, t4, t5⟩ := row3 (heap_alloc_new w6 (boxC x))
            obtain ⟨g'', eg, _, _, hat⟩ := HF6.out.2.1.at (by omega)
            obtain rfl : g' = g'' := by simpa using eg
            obtain ⟨y0, y1, y2⟩ := hat j x HX.out
            clear hat eg
            go_quiet (fail)
            go_wp2_with fail
            have kk8 : ((w6.alloc (Obj.cells #[.int .i64 x.obj, .int .u64 x.hi, .int .u64 x.lo] 37)).drewN nq).cell? ⟨g, o + i, none⟩ = some (.int .i64 j) := kk0
            have HF8 : Hid (Half w w.heap.size (1 + q) (l.take j ++ l.drop (j + 1)) (.slice (some ⟨g', 0, none⟩) l.length c) l ((w6.alloc (Obj.cells #[.int .i64 x.obj, .int .u64 x.hi, .int .u64 x.lo] 37)).drewN nq)) := HF6.out.below ⟨rfl, rfl, rfl, Nat.le_refl _, fun _ _ => rfl⟩
            clear kk0 HF6 t0 t1 t2 t3 t4 t5 y0 y1 y2 k0
            generalize ((w6.alloc (Obj.cells #[.int .i64 x.obj, .int .u64 x.hi, .int .u64 x.lo] 37)).drewN nq) = w8 at kk8 HF8 ⊢
            have hw1 : IntKind.i64.wrap ((j : Int) + 1) = (j : Int) + 1 := IntWalk.i64_in _ (by omega)
            have hw2 : (0 : Int) ≤ (j : Int) + 1 := by omega
            have hw3 : ((j : Int) + 1).toNat = j + 1 := by omega
            go_still_tail 17, (by kernel_rfl)
            clear hw1 hw2 hw3
            change wpList _ _ _ _ _ w8.drew
            refine list_cut (w := w) (p := w.heap.size) (most := 1 + q) (m := l.take j ++ l.drop (j + 1)) (l := l) rfl (.tmp 145) (.tmp 152) rfl (g := g') (c := c) (j := j) (c2 := c - (j + 1)) (sp := if c = j + 1 then some ⟨g', 0, none⟩ else some ⟨g', (j + 1) * 3, none⟩) (HF8.out.below (Below.refl _ _).drew) hjl (by omega) ?_ ?_ (fun hh => if_neg (by omega)) ?_
            · go_simp
            · go_simp
            · intro v7 w7 F7
              obtain ⟨A7, c7, rfl, _⟩ := F7.2.1
              have HF7 := Lib.hid F7
              clear F7
              go_wp2
              exact ⟨⟨i + 1, l.take j ++ l.drop (j + 1), A7, c7, by omega, by omega, by simp, by rw [HLEN.out]; congr 1; omega, by rw [HLEN.out]; omega, HF7⟩, by simp [intOf]; omega⟩
          · have hin' : hasB l z = false := by simpa using hin
            have hz' : z < 0 ∨ (l.length : Int) ≤ z := by
              unfold hasB at hin
              simp at hin
              omega
            unfold remC remE remL at HA
            rw [if_neg hin, if_neg hin, if_neg hin] at HA
            clear hin hin'
            have hs : capEq z0 z0 = true := by decide
            go_wp2_with (go_at_call 12; (with_reducible refine HA.out.mono ?_); rintro e w6 ⟨rfl, F6⟩; have HF6 := Lib.hid (F6.below ((Below.refl _ _).alloc (Nat.le_refl _) (boxC z0))); have kk0 := (HF6.out.2.2.cell (World.block_lt_of_cell? w _ K0.out)).trans K0.out; clear F6)
            all_goals exact ⟨⟨i + 1, l, A, c, by omega, by omega, by simp, rfl, hlm, HF6⟩, by simp [intOf]; omega⟩
        · have hend : i = n2 ∨ (i < n2 ∧ i = 64) := by omega
          clear hlt
          rcases hend with rfl | ⟨hlt, rfl⟩
          · go_wp2
            go_meet
            exact ⟨l, A, c, rfl, hlm, HF⟩
          · go_wp2
            go_meet
            exact ⟨l, A, c, rfl, hlm, HF⟩
    case rest =>
      obtain ⟨l, A, c, rfl, hlm, HF2⟩ := hcut
      have hl5 : l.length ≤ 1000000 := by omega
      have hsame := sameB_self l
      have HL5 := Lib.hid hl5
      have HP' : Hid (ReadsInts w (.slice A3 n3 c3) ps) := by have := HP.out; rw [E3.out] at this; exact this
      clear HF M0 HP hl1
      go_wp2_with (first | (go_at_call 13; (with_reducible refine (half_len HF2.out).mono ?_); rintro e w6 ⟨rfl, rfl⟩) | (go_at_call 15; (with_reducible refine (half_all HF2.out HL5.out).mono ?_); rintro e w6 ⟨v6, rfl, own6, F6⟩; have HF6 := Lib.hid F6; have HO6 := Lib.hid own6; clear own6 F6) | (go_at_call 14; (with_reducible refine (half_same HF6.out HO6.out).mono ?_); rintro e w7 ⟨rfl, F7⟩; have HF7 := Lib.hid F7; clear F7))
      go_loopw [17, 18] (fun v17 v18 wr => ∃ (i : Nat) (b : Bool), i ≤ n3 ∧ v18 = .int .i64 i ∧ v17 = .bool b ∧ Hid (b = (ps.take i).all (hasB l)) ∧ Hid (Half w w.heap.size (1 + q) l (.slice A l.length c) l wr)) (fun _ vi _ => n3 - (intOf vi).toNat)
      case atStart => exact ⟨0, true, Nat.zero_le _, rfl, rfl, rfl, HF7⟩
      case round =>
        clear HF2 HF6 HF7 HO6
        obtain ⟨i, b, hi, rfl, rfl, HB, HF⟩ := hrel
        by_cases hlt : i < n3
        · obtain ⟨z, hz⟩ : ∃ z, ps[i]? = some z := ⟨_, List.getElem?_eq_getElem (by rw [E3.out]; exact hlt)⟩
          obtain ⟨g, o, rfl, hcA⟩ := HQ.out (by omega)
          have k0 := hcA i z hz
          have K0 := Lib.hid k0
          replace k0 := (HF.out.2.2.cell (World.block_lt_of_cell? w _ K0.out)).trans K0.out
          have HB1 : Hid ((b && hasB l z) = (ps.take (i + 1)).all (hasB l)) := by
            show _ = _
            rw [List.take_add_one, hz, List.all_append, HB.out]; simp
          clear hz hcA
          have heq := eqCap
          have HA := Lib.hid (half_at HF.out z)
          by_cases hin : hasB l z = true
          · have hz' : 0 ≤ z ∧ z < (l.length : Int) := by simpa [hasB] using hin
            obtain ⟨hz0, hz1⟩ := hz'
            obtain ⟨j, rfl⟩ : ∃ j : Nat, z = (j : Int) := ⟨z.toNat, by omega⟩
            have hjl : j < l.length := by omega
            obtain ⟨x, hx⟩ : ∃ x, l[j]? = some x := ⟨_, List.getElem?_eq_getElem hjl⟩
            obtain ⟨g', rfl, hlc, hcm, _⟩ := HF.out.2.1.at (by omega)
            unfold maxLen at hcm
            have eC : remC l (j : Int) = x := by unfold remC; rw [if_pos hin, Int.toNat_natCast, List.getD_eq_getElem?_getD, hx]; rfl
            have eE : remE l (j : Int) = 0 := by unfold remE; rw [if_pos hin]
            rw [eC, eE] at HA
            rw [hin, Bool.and_true] at HB1
            have hs := capEq_self x
            have HX := Lib.hid hx
            clear eC eE hin hx hz0 hz1
            go_upto_region 32 with (first | (go_at_call 16; (with_reducible refine HA.out.mono ?_); rintro e w8 ⟨rfl, F8⟩; have HF8 := Lib.hid (F8.below ((Below.refl _ _).alloc (Nat.le_refl _) (boxC x))); have kk0 := (HF8.out.2.2.cell (World.block_lt_of_cell? w _ K0.out)).trans K0.out; clear F8))
            obtain ⟨t0, t1, t2, t3, t4, t5⟩ := row3 (heap_alloc_new w8 (boxC x))
            obtain ⟨g'', eg, _, _, hat⟩ := HF8.out.2.1.at (by omega)
            obtain rfl : g' = g'' := by simpa using eg
            obtain ⟨y0, y1, y2⟩ := hat j x HX.out
            clear hat eg
            go_quiet (fail)
            cases b
            · go_wp2
              exact ⟨⟨i + 1, false, by omega, by simp, rfl, HB1, HF8.out.below ⟨rfl, rfl, rfl, Nat.le_refl _, fun _ _ => rfl⟩⟩, by simp [intOf]; omega⟩
            · go_wp2
              exact ⟨⟨i + 1, true, by omega, by simp, rfl, HB1, HF8.out.below ⟨rfl, rfl, rfl, Nat.le_refl _, fun _ _ => rfl⟩⟩, by simp [intOf]; omega⟩
          · have hin' : hasB l z = false := by simpa using hin
            have hz' : z < 0 ∨ (l.length : Int) ≤ z := by
              unfold hasB at hin
              simp at hin
              omega
            rw [hin', Bool.and_false] at HB1
            unfold remC remE at HA
            rw [if_neg hin, if_neg hin] at HA
            clear hin hin'
            have hz'' : z < 0 ∨ (0 ≤ z ∧ (l.length : Int) ≤ z) := by omega
            clear hz'
            rcases hz'' with hz' | ⟨hz', hz''⟩
            all_goals go_upto_region 32 with (first | (go_at_call 16; (with_reducible refine HA.out.mono ?_); rintro e w8 ⟨rfl, F8⟩; have HF8 := Lib.hid (F8.below ((Below.refl _ _).alloc (Nat.le_refl _) (boxC z0))); have kk0 := (HF8.out.2.2.cell (World.block_lt_of_cell? w _ K0.out)).trans K0.out; clear F8))
            all_goals (try rw [decide_eq_false (show ¬ z < (l.length : Int) by omega)])
            all_goals go_quiet (fail)
            all_goals cases b
            all_goals go_wp2
            all_goals exact ⟨⟨i + 1, false, by omega, by simp, rfl, HB1, HF8.out.below ⟨rfl, rfl, rfl, Nat.le_refl _, fun _ _ => rfl⟩⟩, by simp [intOf]; omega⟩
        · have : i = n3 := by omega
          subst this
          rw [List.take_of_length_le (by rw [E3.out]; exact Nat.le_refl _)] at HB
          have HA := Lib.hid (half_pick HF.out _ ps HP'.out (by omega))
          cases b
          · have eE : pickE (1 + q) l ps = 15 := by unfold pickE; rw [← HB.out]; rfl
            have eL : pickL (1 + q) l ps = [] := by unfold pickL; rw [eE]; rfl
            rw [eE, eL] at HA
            clear eE eL
            go_wp2_with (go_at_call 17; (with_reducible refine HA.out.mono ?_); rintro e w8 ⟨y8, rfl, own8, F8⟩; obtain ⟨A8, c8, rfl, _⟩ := own8; have HF8 := Lib.hid F8; clear F8)
            go_ret
            exact ⟨rfl, HF8.out.2.2⟩
          · by_cases hgt : 1 + q < (i : Int)
            · have eE : pickE (1 + q) l ps = 14 := by unfold pickE; rw [← HB.out, if_pos rfl, if_pos (by rw [E3.out]; omega)]
              have eL : pickL (1 + q) l ps = [] := by unfold pickL; rw [eE]; rfl
              rw [eE, eL] at HA
              clear eE eL
              go_wp2_with (go_at_call 17; (with_reducible refine HA.out.mono ?_); rintro e w8 ⟨y8, rfl, own8, F8⟩; obtain ⟨A8, c8, rfl, _⟩ := own8; have HF8 := Lib.hid F8; clear F8)
              go_ret
              exact ⟨rfl, HF8.out.2.2⟩
            · have eE : pickE (1 + q) l ps = 0 := by unfold pickE; rw [← HB.out, if_pos rfl, if_neg (by rw [E3.out]; omega)]
              have eL : pickL (1 + q) l ps = picked l ps := by unfold pickL; rw [if_pos eE]
              rw [eE, eL] at HA
              clear eE eL
              have hgt' : (i : Int) ≤ 1 + q := by omega
              clear hgt
              go_wp2_with (go_at_call 17; (with_reducible refine HA.out.mono ?_); rintro e w8 ⟨y8, rfl, own8, F8⟩; obtain ⟨A8, c8, rfl, o81, o82, o83⟩ := own8; have HF8 := Lib.hid F8; clear F8)
              have hplen : (picked l ps).length = i := by unfold picked; rw [List.length_map]; exact E3.out
              rw [hplen] at o81 o83 ⊢
              have H8 := Lib.hid o83
              unfold maxLen at o82
              clear o83 hplen
              have hallH : Hid (∀ j z, ps[j]? = some z → hasB l z = true) := fun j z hz => by
                have := HB.out.symm
                rw [List.all_eq_true] at this
                exact this z (List.mem_of_getElem? hz)
              go_loopw [24] (fun v24 wr => ∃ j : Nat, j ≤ i ∧ v24 = .int .i64 j ∧ ∃ n, wr = w8.drewN n) (fun vi _ => i - (intOf vi).toNat)
              case atStart => exact ⟨0, Nat.zero_le _, rfl, 0, rfl⟩
              case round =>
                obtain ⟨j, hj, rfl, n, rfl⟩ := hrel
                by_cases hlt2 : j < i
                · obtain ⟨z, hz⟩ : ∃ z, ps[j]? = some z := ⟨_, List.getElem?_eq_getElem (by rw [E3.out]; exact hlt2)⟩
                  obtain ⟨g, o, rfl, hcA⟩ := HQ.out (by omega)
                  have k0 := hcA j z hz
                  have kk0 := (HF8.out.2.2.cell (World.block_lt_of_cell? w _ k0)).trans k0
                  have hin := hallH.out j z hz
                  have hz' : 0 ≤ z ∧ z < (l.length : Int) := by simpa [hasB] using hin
                  obtain ⟨hz0, hz1⟩ := hz'
                  obtain ⟨t, rfl⟩ : ∃ t : Nat, z = (t : Int) := ⟨z.toNat, by omega⟩
                  have htl : t < l.length := by omega
                  obtain ⟨x, hx⟩ : ∃ x, l[t]? = some x := ⟨_, List.getElem?_eq_getElem htl⟩
                  obtain ⟨g1, rfl, hlc, hcm, hat1⟩ := HF8.out.2.1.at (by omega)
                  obtain ⟨y0, y1, y2⟩ := hat1 t x hx
                  obtain ⟨g2, rfl, hat2⟩ := H8.out (by omega)
                  have hpj : (picked l ps)[j]? = some x := by
                    unfold picked
                    rw [List.getElem?_map, hz]
                    simp [List.getD_eq_getElem?_getD, hx]
                  have f : ∀ i', i' < 3 → (capsC (picked l ps))[j * 3 + i']? = (capC x)[i']? := fun i' hi' => by
                    have e : (picked l ps).getD j z0 = x := by rw [List.getD_eq_getElem?_getD, hpj]; rfl
                    rw [← e]
                    exact capsC_at _ j i' (List.getElem?_eq_some_iff.1 hpj).1 hi'
                  have p0 := hat2 (j * 3) _ (f 0 (by omega))
                  have p1 := hat2 (j * 3 + 1) _ (f 1 (by omega))
                  have p2 := hat2 (j * 3 + 2) _ (f 2 (by omega))
                  have heq := eqCap
                  have hs := capEq_self x
                  unfold maxLen at hcm
                  clear f hpj hat1 hat2 hcA hz hx hin k0 hz0 hz1
                  go_wp2_with fail
                  go_quiet (fail)
                  go_wp2
                  exact ⟨⟨j + 1, by omega, by simp, _, rfl⟩, by simp [intOf]; omega⟩
                · have : j = i := by omega
                  subst this
                  have HN := Lib.hid (HF8.out.below (w' := w8.drewN n) ⟨rfl, rfl, rfl, Nat.le_refl _, fun _ _ => rfl⟩)
                  go_wp2_with (first | (go_at_call 15; (with_reducible refine (half_all HN.out HL5.out).mono ?_); rintro e w6 ⟨v6, rfl, own6, F6⟩; have HF6 := Lib.hid F6; have HO6 := Lib.hid own6; clear own6 F6) | (go_at_call 14; (with_reducible refine (half_same HF6.out HO6.out).mono ?_); rintro e w7 ⟨rfl, F7⟩; have HF7 := Lib.hid F7; clear F7))
                  go_ret
                  exact ⟨rfl, HF7.out.2.2⟩
end Go.Proofs.Ytepjhdppmegloaa.Caps

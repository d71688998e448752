/- The program's reader: rows, words, capabilities. -/
import Derived.Test.YtfpkdbogapmhmaaOc8
import Derived.Handy
namespace Go.Proofs.Ytfpkdbogapmhmaa.O
open Go.RowKit Go.Proofs.Ytfpkdbogapmhmaa.Mem
def rowE (zs : List Int) (n : Int) : Int := if n < 0 then 5 else if (zs.length : Int) < n then 17 else 0
def rowZ (zs : List Int) (n : Int) : List Int := if n < 0 then [] else if (zs.length : Int) < n then [] else zs.take n.toNat
def rowL (zs : List Int) (n : Int) : List Int := if n < 0 then zs else if (zs.length : Int) < n then zs else zs.drop n.toNat
theorem Rd.below' {T : TypeId} {w w' : World} {r : Nat} {A : Option Addr} {c : Nat} {zs : List Int} {F : Nat → Prop} (h : RdV T w r A c zs F) (hb : Below w.heap.size w w') : RdV T w' r A c zs F := h.kept (S := fun _ => False) (Kept.of_below hb) (fun _ _ h => h)
theorem OB.set {w w1 : World} {v : Value} {zs : List Int} {r : Nat} (h : OB w1 v zs) (hf : Fresh w v) (hr : r < w.heap.size) (x : Value) : OB (w1.setCell ⟨r, 0, none⟩ x) v zs := own_kept h ((Kept.refl (fun b => b = r) w1).setCell (p := ⟨r, 0, none⟩) (.inl rfl) x) (fun b hb e => by
  have h1 := hf b hb
  have h2 : b = r := e
  omega)
set_option maxHeartbeats 4000000 in
theorem row_ok (w : World) (r : Nat) (zs : List Int) (F : Nat → Prop) (h : Rd 95 w r zs F) (k : Nat) (hk : k ≤ zs.length) (hb : zs.length ≤ 140737488355000) : Calls Try.prog 71 #[.pointer (some ⟨r, 0, none⟩), .int .i64 k] w fun e w' => ∃ A c, e = .returned (.tuple #[.slice A k c, .int .i64 0]) ∧ OB w' (.slice A k c) (zs.take k) ∧ Rd 95 w' r (zs.drop k) F ∧ Kept (fun b => b = r) w w' ∧ Fresh w (.slice A k c) := by
  obtain ⟨A, c, h⟩ := h
  obtain ⟨h1, h2, h3⟩ := h.data
  have hl : (zs.take k).length = k := by rw [List.length_take]; omega
  have HCL : Hid (Calls Try.prog 50 #[.slice A k c] w fun e w' => ∃ A c, e = .returned (.slice A k c) ∧ OB w' (.slice A k c) (zs.take k) ∧ Below w.heap.size w w' ∧ Fresh w (.slice A k c)) := by
    have := clone_any w (.slice A k c) (zs.take k) (by omega) (h.read.take hk rfl)
    rw [hl] at this
    exact this
  have c0 : w.cell? ⟨r, 0, none⟩ = some (.slice A zs.length c) := cell_row h.row rfl
  have HV := Lib.hid h
  have fin : Hid (∀ (w1 : World) (A' : Option Addr) (c' : Nat), Below w.heap.size w w1 → ((c = k ∧ A' = A ∧ c' = 0) ∨ (c ≠ k ∧ c' = c - k ∧ ∀ g o, A = some ⟨g, o, none⟩ → A' = some ⟨g, o + k, none⟩)) → Rd 95 (w1.setCell ⟨r, 0, none⟩ (.slice A' (zs.length - k) c')) r (zs.drop k) F ∧ Kept (fun b => b = r) w (w1.setCell ⟨r, 0, none⟩ (.slice A' (zs.length - k) c'))) := fun w1 A' c' hbl he => by
    obtain ⟨g1, g2⟩ := (Rd.below' h hbl).on hk (Nat.zero_le _) he
    exact ⟨g1, (Kept.of_below (S := fun b => b = r) hbl).trans g2 (fun x hx => .inl hx)⟩
  obtain ⟨n, hn⟩ : ∃ n, zs.length = n := ⟨_, rfl⟩
  rw [hn] at c0 fin h1 hk hb
  have hfm := h.fm
  have hro := Lib.hid h.row
  clear h h3 hl hn
  rcases hfm with ⟨rfl, rfl⟩ | ⟨g, o, rfl⟩
  · obtain rfl : n = 0 := by omega
    obtain rfl : k = 0 := by omega
    go_enter Try.func71, Try.ntmps71
    go_wp2_with fail
    (with_reducible refine HCL.out.mono ?_)
    rintro e w1 ⟨A1, c1, rfl, o1, b1, f1⟩
    have HO := Lib.hid o1
    have HF := Lib.hid f1
    have HG := Lib.hid (fin.out w1 none 0 b1 (.inl ⟨by simp, rfl, rfl⟩))
    have hr1 := (Rd.below' HV.out b1).row
    have c1' : w1.cell? ⟨r, 0, none⟩ = some (.slice none 0 0) := (b1.cell (World.block_lt_of_cell? w _ c0)).trans c0
    have f0 := free_row (j := 0) hr1
    clear o1 f1 b1 hr1 fin HCL
    go_wp2_with fail
    go_ret2
    exact ⟨_, _, rfl, OB.set HO.out HF.out (lt_of_row HV.out.row) _, HG.out.1, HG.out.2, HF.out⟩
  · by_cases hck : c = k
    · subst hck
      obtain rfl : n = c := by omega
      go_enter Try.func71, Try.ntmps71
      go_wp2_with fail
      (with_reducible refine HCL.out.mono ?_)
      rintro e w1 ⟨A1, c1, rfl, o1, b1, f1⟩
      have HO := Lib.hid o1
      have HF := Lib.hid f1
      have HG := Lib.hid (fin.out w1 (some ⟨g, o, none⟩) 0 b1 (.inl ⟨by simp, rfl, rfl⟩))
      rw [Nat.sub_self] at HG
      have hr1 := (Rd.below' HV.out b1).row
      have c1' : w1.cell? ⟨r, 0, none⟩ = some (.slice (some ⟨g, o, none⟩) n n) := (b1.cell (World.block_lt_of_cell? w _ c0)).trans c0
      have f0 := free_row (j := 0) hr1
      clear o1 f1 b1 hr1 fin HCL
      go_wp2_with fail
      go_ret2
      exact ⟨_, _, rfl, OB.set HO.out HF.out (lt_of_row HV.out.row) _, HG.out.1, HG.out.2, HF.out⟩
    · go_enter Try.func71, Try.ntmps71
      go_wp2_with fail
      (with_reducible refine HCL.out.mono ?_)
      rintro e w1 ⟨A1, c1, rfl, o1, b1, f1⟩
      have HO := Lib.hid o1
      have HF := Lib.hid f1
      have HG := Lib.hid (fin.out w1 (some ⟨g, o + k, none⟩) (c - k) b1 (.inr ⟨hck, rfl, fun g' o' e => by cases e; rfl⟩))
      have hr1 := (Rd.below' HV.out b1).row
      have c1' : w1.cell? ⟨r, 0, none⟩ = some (.slice (some ⟨g, o, none⟩) n c) := (b1.cell (World.block_lt_of_cell? w _ c0)).trans c0
      have f0 := free_row (j := 0) hr1
      clear o1 f1 b1 hr1 fin HCL
      go_wp2_with fail
      go_ret2
      exact ⟨_, _, rfl, OB.set HO.out HF.out (lt_of_row HV.out.row) _, HG.out.1, HG.out.2, HF.out⟩
theorem RB.drop8 {w : World} {g o n c : Nat} {zs : List Int} (h : RB w (.slice (some ⟨g, o, none⟩) n c) zs) : RB w (.slice (some ⟨g, o + 8, none⟩) (zs.drop 8).length (c - 8)) (zs.drop 8) := by
  obtain ⟨A', c', e, h1, h2, h3⟩ := h
  obtain ⟨rfl, rfl, rfl⟩ : some ⟨g, o, none⟩ = A' ∧ n = zs.length ∧ c = c' := by simpa using e
  refine ⟨_, _, rfl, by rw [List.length_drop]; omega, by omega, fun hp => ⟨g, o + 8, rfl, fun j u hu => ?_⟩⟩
  rw [List.length_drop] at hp
  obtain ⟨g', o', e', h4⟩ := h3 (by omega)
  obtain ⟨rfl, rfl⟩ : g = g' ∧ o = o' := by simpa using e'
  rw [List.getElem?_drop] at hu
  rw [Nat.add_assoc]
  exact h4 (8 + j) u hu
theorem row_any (w : World) (r : Nat) (zs : List Int) (F : Nat → Prop) (h : Rd 95 w r zs F) (n : Int) (hb : zs.length ≤ 140737488355000) : Calls Try.prog 71 #[.pointer (some ⟨r, 0, none⟩), .int .i64 n] w fun e w' => ∃ A c, e = .returned (.tuple #[.slice A (rowZ zs n).length c, .int .i64 (rowE zs n)]) ∧ OB w' (.slice A (rowZ zs n).length c) (rowZ zs n) ∧ Rd 95 w' r (rowL zs n) F ∧ Kept (fun b => b = r) w w' ∧ Fresh w (.slice A (rowZ zs n).length c) := by
  unfold rowZ rowE rowL
  by_cases h0 : n < 0
  · rw [if_pos h0, if_pos h0, if_pos h0]
    go_enter Try.func71, Try.ntmps71
    go_wp2
    go_ret2
    exact ⟨none, 0, rfl, OB.nil w, h, Kept.refl _ _, fun k hk => by simp [Value.ownBlock] at hk⟩
  · rw [if_neg h0, if_neg h0, if_neg h0]
    by_cases h1 : (zs.length : Int) < n
    · rw [if_pos h1, if_pos h1, if_pos h1]
      have HH := Lib.hid h
      obtain ⟨A, c, h⟩ := h
      have c0 : w.cell? ⟨r, 0, none⟩ = some (.slice A zs.length c) := cell_row h.row rfl
      obtain ⟨m, hm⟩ : ∃ m, zs.length = m := ⟨_, rfl⟩
      rw [hm] at c0 h1
      clear h hm
      go_enter Try.func71, Try.ntmps71
      go_wp2
      go_ret2
      exact ⟨none, 0, rfl, OB.nil w, HH.out, Kept.refl _ _, fun k hk => by simp [Value.ownBlock] at hk⟩
    · rw [if_neg h1, if_neg h1, if_neg h1]
      obtain ⟨k, rfl⟩ : ∃ k : Nat, n = (k : Int) := ⟨n.toNat, by omega⟩
      have hk : k ≤ zs.length := by omega
      have hl : (zs.take (k : Int).toNat).length = k := by rw [List.length_take]; omega
      rw [hl]
      exact row_ok w r zs F h k hk hb
theorem box_ret {fn : Func} {p' u : Tmp} {ty : TypeId} (h : fn.results = #[.cell p' ty, .tmp u]) (tmps : Array Value) (W : World) (p : Nat) (v : Value) (hp : tmps.getD p' undef = .pointer (some ⟨p, 0, none⟩)) (hl : (loadVar ty ⟨p, 0, none⟩).run Try.prog W = .ok v W) : (results fn tmps).run Try.prog W = .ok (.tuple #[v, tmps.getD u undef]) W := by
  rw [results_cell_tmp h, hp]
  simp [asAddr, hl, Result.andThen]
theorem box_two {W : World} {r p : Nat} {x V0 U0 V U : Value} {t : TypeId} (prow : W.heap[p]? = some (.cells #[V0, U0] t)) (hpr : p ≠ r) : (((W.setCell ⟨r, 0, none⟩ x).setCell ⟨p, 0, none⟩ V).setCell ⟨p, 1, none⟩ U).heap[p]? = some (.cells #[V, U] t) := by
  have h0 : (W.setCell ⟨r, 0, none⟩ x).heap[p]? = some (.cells #[V0, U0] t) := ((Kept.refl (fun b => b = r) W).setCell (p := ⟨r, 0, none⟩) (.inl rfl) x).row prow hpr
  have h1 := heap_setCell_same _ p 0 _ _ V h0
  have h2 := heap_setCell_same _ p 1 _ _ U h1
  simpa using h2
theorem info25 : (Try.prog.info? 24).map (·.size) = some 2 := by kernel_rfl
theorem info27 : (Try.prog.info? 26).map (·.size) = some 3 := by kernel_rfl
theorem word_fin {T : TypeId} {w W2 W3 : World} {r g o c p k c' n : Nat} {zs : List Int} {F : Nat → Prop} {A' : Option Addr} (h : RdV T W2 r (some ⟨g, o, none⟩) c zs F) (hkw : Below w.heap.size w W2) (hp : w.heap.size = p) (hr : r < p) (hg : g < p) (hl : k ≤ zs.length) (hn : zs.length = n) (he : (c = k ∧ A' = some ⟨g, o, none⟩ ∧ c' = 0) ∨ (c ≠ k ∧ c' = c - k ∧ A' = some ⟨g, o + k, none⟩)) (hk : Kept (fun b => p ≤ b) (W2.setCell ⟨r, 0, none⟩ (.slice A' (n - k) c')) W3) : Rd T W3 r (zs.drop k) F ∧ Kept (fun b => b = r) w W3 := by
  subst hn
  have he' : (c = k ∧ A' = some ⟨g, o, none⟩ ∧ c' = 0) ∨ (c ≠ k ∧ c' = c - k ∧ ∀ g' o', some (⟨g, o, none⟩ : Addr) = some ⟨g', o', none⟩ → A' = some ⟨g', o' + k, none⟩) := by
    rcases he with h | ⟨h1, h2, h3⟩
    · exact .inl h
    · exact .inr ⟨h1, h2, fun g' o' e => by cases e; exact h3⟩
  obtain ⟨g1, g2⟩ := h.onV hl (Nat.zero_le _) he'
  refine ⟨⟨_, _, g1.far hk hr (fun _ g' o' e => ?_)⟩, ?_⟩
  · rcases he with ⟨_, rfl, _⟩ | ⟨_, _, rfl⟩
    · cases e; exact hg
    · cases e; exact hg
  · exact ((Kept.of_below (S := fun b => b = r) hkw).trans g2 (fun x hx => .inl hx)).trans hk (fun x hx => .inr (by omega))
set_option maxHeartbeats 4000000 in
theorem word_bad (w : World) (r : Nat) (zs : List Int) (F : Nat → Prop) (h : Rd 95 w r zs F) (hl : zs.length < 16) : Calls Try.prog 75 #[.pointer (some ⟨r, 0, none⟩)] w fun e w' => e = .returned (.tuple #[.agg #[.int .u64 0, .int .u64 0], .int .i64 17]) ∧ Below w.heap.size w w' := by
  obtain ⟨A, c, h⟩ := h
  have c0 : w.cell? ⟨r, 0, none⟩ = some (.slice A zs.length c) := cell_row h.row rfl
  have hr := lt_of_row h.row
  obtain ⟨m, hm⟩ : ∃ m, zs.length = m := ⟨_, rfl⟩
  rw [hm] at c0 hl
  clear h hm
  have hbx := (Below.refl w.heap.size w).alloc (Nat.le_refl _) (.cells #[.int .u64 0, .int .u64 0] 24)
  go_enter Try.func75, Try.ntmps75
  go_wp2
  go_returns
  exact ⟨rfl, hbx⟩
set_option maxHeartbeats 4000000 in
theorem word_ok (w : World) (r : Nat) (zs : List Int) (F : Nat → Prop) (h : Rd 95 w r zs F) (hl : 16 ≤ zs.length) (hB : Bytes zs) : Calls Try.prog 75 #[.pointer (some ⟨r, 0, none⟩)] w fun e w' => e = .returned (.tuple #[.agg #[.int .u64 (val ((zs.drop 8).take 8)), .int .u64 (val (zs.take 8))], .int .i64 0]) ∧ Rd 95 w' r (zs.drop 16) F ∧ Kept (fun b => b = r) w w' := by
  obtain ⟨A, c, h⟩ := h
  obtain ⟨h1, h2, h3⟩ := h.data
  have hr := lt_of_row h.row
  obtain ⟨g, o, rfl, _⟩ := h3 (by omega)
  have hbx := (Below.refl w.heap.size w).alloc (Nat.le_refl _) (.cells #[.int .u64 0, .int .u64 0] 24)
  have b0 : (w.alloc (.cells #[.int .u64 0, .int .u64 0] 24)).cell? ⟨w.heap.size, 0, none⟩ = some (.int .u64 0) := by simp
  have b1 : (w.alloc (.cells #[.int .u64 0, .int .u64 0] 24)).cell? ⟨w.heap.size, 1, none⟩ = some (.int .u64 0) := by simp
  have bf0 : (w.alloc (.cells #[.int .u64 0, .int .u64 0] 24)).frozen? ⟨w.heap.size, 0, none⟩ = false := by simp
  have bf1 : (w.alloc (.cells #[.int .u64 0, .int .u64 0] 24)).frozen? ⟨w.heap.size, 1, none⟩ = false := by simp
  have hro := (h.kept (S := fun _ => False) (Kept.of_below hbx) (fun _ _ h => h))
  obtain ⟨m, hm⟩ : ∃ m, zs.length = m := ⟨_, rfl⟩
  have HM := Lib.hid hm
  have c0 : w.cell? ⟨r, 0, none⟩ = some (.slice (some ⟨g, o, none⟩) m c) := hm ▸ cell_row h.row rfl
  have hl' : 16 ≤ m := by omega
  have l1 := low_any w (.slice (some ⟨g, o, none⟩) 8 c) (zs.take 8) (fun z hz => hB z (List.mem_of_mem_take hz)) (by rw [List.length_take]; omega) (h.read.take (by omega) rfl)
  have brow := Lib.hid (heap_alloc_new w (.cells #[.int .u64 0, .int .u64 0] 24))
  have HBX := Lib.hid hbx
  have HR := Lib.hid hr
  have HG := Lib.hid (h.low (by omega) g o rfl)
  go_enter Try.func75, Try.ntmps75
  go_wp2_with fail
  clear c0 b0 b1 bf0 bf1
  generalize w.alloc (.cells #[.int .u64 0, .int .u64 0] 24) = w1 at *
  obtain ⟨p, hp⟩ : ∃ p, w.heap.size = p := ⟨_, rfl⟩
  have HP := Lib.hid hp
  rw [hp] at brow HR HG
  rw [hp]
  have c0 : w1.drew.cell? ⟨r, 0, none⟩ = some (.slice (some ⟨g, o, none⟩) m c) := HM.out ▸ cell_row hro.row rfl
  have L1 : Hid (∀ a, Below w1.heap.size w1 a → Calls Try.prog 73 #[.slice (some ⟨g, o, none⟩) 8 c] a fun e w' => e = .returned (.int .u64 (val (zs.take 8))) ∧ a = w') := fun a ha =>
    low_any a _ (zs.take 8) (fun z hz => hB z (List.mem_of_mem_take hz)) (by rw [List.length_take]; omega) ((hro.read.below ha).take (by omega) rfl)
  have L2 : Hid (∀ a, Below w1.heap.size w1 a → Calls Try.prog 73 #[.slice (some ⟨g, o + 8, none⟩) 8 (c - 8)] a fun e w' => e = .returned (.int .u64 (val ((zs.drop 8).take 8))) ∧ a = w') := fun a ha =>
    low_any a _ ((zs.drop 8).take 8) (fun z hz => hB z (List.mem_of_mem_drop (List.mem_of_mem_take hz))) (by rw [List.length_take]; omega) (RB.take (hro.read.below ha).drop8 (by rw [List.length_drop]; omega) rfl)
  have ST : Hid (w1.drew.cell? ⟨r, 0, none⟩ = some (.slice (some ⟨g, o, none⟩) m c) ∧ Below w1.heap.size w1 w1.drew) := ⟨c0, (Below.refl _ w1).drew⟩
  have AL : Hid (∀ cs : Array Value, (w1.alloc (.cells cs 24)).drew.cell? ⟨r, 0, none⟩ = some (.slice (some ⟨g, o, none⟩) m c) ∧ Below w1.heap.size w1 (w1.alloc (.cells cs 24)).drew) := fun cs => ⟨(((Below.refl _ w1).alloc (Nat.le_refl _) _).drew.cell (lt_of_row hro.row)).trans c0, ((Below.refl _ w1).alloc (Nat.le_refl _) _).drew⟩
  have hc8 : (8 : Int) ≤ (c : Int) := by omega
  have hc16 : (16 : Int) ≤ (c : Int) := by omega
  have hc8' : ¬ c = 8 := by omega
  have HRO := Lib.hid hro
  clear h h1 h3 hm l1 hro hp c0 hbx hr
  go_region_held3 (fun w' => w'.cell? ⟨r, 0, none⟩ = some (.slice (some ⟨g, o, none⟩) m c) ∧ Below w1.heap.size w1 w')
    (first | exact ST.out | exact AL.out _ | go_keep)
    (first | (go_at_call 73; (with_reducible refine (L1.out _ ?_).mono ?_); (go_split_ands; with_reducible assumption); rintro e w2 ⟨rfl, rfl⟩) | (go_at_call 73; (with_reducible refine (L2.out _ ?_).mono ?_); (go_split_ands; with_reducible assumption); rintro e w2 ⟨rfl, rfl⟩) | fail)
  all_goals (
    rename_i hHeld
    obtain ⟨V, hV⟩ : ∃ V, val ((zs.drop 8).take 8) = V := ⟨_, rfl⟩
    obtain ⟨U, hU⟩ : ∃ U, val (zs.take 8) = U := ⟨_, rfl⟩
    rw [hV, hU]
    have hb2 : Below w1.heap.size w1 (w1.alloc (.cells #[.int .u64 V, .int .u64 U] 24)).drew := ((Below.refl _ w1).alloc (Nat.le_refl _) _).drew
    have nrow : (w1.alloc (.cells #[.int .u64 V, .int .u64 U] 24)).drew.heap[w1.heap.size]? = some (.cells #[.int .u64 V, .int .u64 U] 24) := heap_alloc_new w1 _
    have HRO2 := Lib.hid (Rd.below' HRO.out hb2)
    have prow := (Kept.of_below (S := fun _ => False) hb2).row brow.out (fun h => h)
    have hpq := lt_of_row brow.out
    have hrp := HR.out
    have HB2 := Lib.hid hb2
    have HV := Lib.hid hV
    have HU := Lib.hid hU
    clear hV hU hb2 L1 L2 ST AL hHeld
    generalize (w1.alloc (.cells #[.int .u64 V, .int .u64 U] 24)).drew = W2 at *
    have hq := HB2.out.size
    have y0 : W2.cell? ⟨r, 0, none⟩ = some (.slice (some ⟨g, o, none⟩) m c) := by have := cell_row (j := 0) HRO2.out.row rfl; rw [HM.out] at this; exact this
    have yf := free_row (j := 0) HRO2.out.row
    have z0 : W2.cell? ⟨p, 0, none⟩ = some (.int .u64 0) := cell_row prow rfl
    have z1 : W2.cell? ⟨p, 1, none⟩ = some (.int .u64 0) := cell_row prow rfl
    have zf0 := free_row (j := 0) prow
    have zf1 := free_row (j := 1) prow
    have n0 : W2.cell? ⟨w1.heap.size, 0, none⟩ = some (.int .u64 V) := cell_row nrow rfl
    have n1 : W2.cell? ⟨w1.heap.size, 1, none⟩ = some (.int .u64 U) := cell_row nrow rfl
    obtain ⟨q, hq'⟩ : ∃ q, w1.heap.size = q := ⟨_, rfl⟩
    rw [hq'] at n0 n1 hpq
    rw [hq']
    have hnr : q ≠ r := by omega
    have hpr : p ≠ r := by omega
    have hpq' : q ≠ p := by omega
    have PROW := Lib.hid prow
    clear prow nrow hq hq' hrp hpq
    have FIN : Hid (∀ (A' : Option Addr) (c' : Nat) (W3 : World), ((c = 16 ∧ A' = some ⟨g, o, none⟩ ∧ c' = 0) ∨ (c ≠ 16 ∧ c' = c - 16 ∧ A' = some ⟨g, o + 16, none⟩)) → Kept (fun b => p ≤ b) (W2.setCell ⟨r, 0, none⟩ (.slice A' (m - 16) c')) W3 → Rd 95 W3 r (zs.drop 16) F ∧ Kept (fun b => b = r) w W3) := fun A' c' W3 he hk => word_fin HRO2.out (HBX.out.trans (HB2.out.mono HBX.out.size)) HP.out HR.out HG.out hl HM.out he hk
    by_cases hc16e : c = 16
    · subst hc16e
      obtain rfl : m = 16 := by have := HM.out; have := HRO2.out.data.1; omega
      go_wp2_with fail
      (try simp only [Exit.inBlock, Exit.then])
      refine bodyPost_ret (box_ret rfl _ _ p (.agg #[.int .u64 V, .int .u64 U]) rfl (run_loadVar_row _ p 24 24 _ (0, 0) _ (box_two PROW.out hpr) Try.underlying24 rfl info25)) rfl ?_
      refine ⟨by rw [HV.out, HU.out]; rfl, FIN.out _ _ _ (.inl ⟨by trivial, rfl, rfl⟩) (((Kept.refl _ _).setCell (p := ⟨p, 0, none⟩) (.inl (Nat.le_refl _)) _).setCell (p := ⟨p, 1, none⟩) (.inl (Nat.le_refl _)) _)⟩
    · go_wp2_with fail
      (try simp only [Exit.inBlock, Exit.then])
      refine bodyPost_ret (box_ret rfl _ _ p (.agg #[.int .u64 V, .int .u64 U]) rfl (run_loadVar_row _ p 24 24 _ (0, 0) _ (box_two PROW.out hpr) Try.underlying24 rfl info25)) rfl ?_
      refine ⟨by rw [HV.out, HU.out]; rfl, FIN.out _ _ _ (.inr ⟨hc16e, rfl, rfl⟩) (((Kept.refl _ _).setCell (p := ⟨p, 0, none⟩) (.inl (Nat.le_refl _)) _).setCell (p := ⟨p, 1, none⟩) (.inl (Nat.le_refl _)) _)⟩)
end Go.Proofs.Ytfpkdbogapmhmaa.O

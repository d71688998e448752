/- DomainAll: the walk. -/
import Derived.Test.YtepjhdppmegloaaAll0
import Derived.StillTailTactics
namespace Go.Proofs.Ytepjhdppmegloaa.Caps
open Go.RowKit Go.Proofs.Ytepjhdppmegloaa.Mem
theorem start_on_on {w w5 : World} {a b : Int} (ha : mostOk a = true) (hb : mostOk b = true) (b5 : Below ((((w.alloc (rowL 58 a)).alloc (rowL 60 a)).alloc (rowL 58 b)).alloc (rowL 60 b)).heap.size ((((w.alloc (rowL 58 a)).alloc (rowL 60 a)).alloc (rowL 58 b)).alloc (rowL 60 b)) w5) :
    Mid w w5.heap.size true w.heap.size (w.heap.size + 1) a true (w.heap.size + 1 + 1) (w.heap.size + 1 + 1 + 1) b ((w5.alloc (.cells #[ptrO true w.heap.size, ptrO true (w.heap.size + 1)] 32)).alloc (.cells #[ptrO true (w.heap.size + 1 + 1), ptrO true (w.heap.size + 1 + 1 + 1)] 32)) :=
  mid_start (A := (fun k => k = w.heap.size ∨ k = (w.heap.size + 1))) (B := (fun k => k = (w.heap.size + 1 + 1) ∨ k = (w.heap.size + 1 + 1 + 1))) (feetO_on ha (no_keeps (heap_alloc_new w (rowL 58 a)) ((((Kept.refl _ _).alloc _).alloc _).alloc _)) (no_keeps (by simpa using heap_alloc_new (w.alloc (rowL 58 a)) (rowL 60 a)) (((Kept.refl _ _).alloc _).alloc _)) (by omega)) (feetO_on hb (no_keeps (by simpa using heap_alloc_new ((w.alloc (rowL 58 a)).alloc (rowL 60 a)) (rowL 58 b)) ((Kept.refl _ _).alloc _)) ((by simpa using heap_alloc_new (((w.alloc (rowL 58 a)).alloc (rowL 60 a)).alloc (rowL 58 b)) (rowL 60 b))) (by omega)) (fun k h1 h2 => by omega) (fun k h => by omega) (fun k h => by omega) (((((Below.refl _ w).alloc (Nat.le_refl _) _).alloc (by simp) _).alloc (by simp; omega) _).alloc (by simp; omega) _) b5
set_option maxHeartbeats 4000000 in
set_option maxRecDepth 100000 in
theorem law_on_on (w : World) (a b : Int) (v : Value) (ss : List Step) (hv : ReadsSteps w v ss) (ha : mostOk a = true) (hb : mostOk b = true) : Calls Try.prog 3 #[.int .i64 a, .int .i64 b, v] w fun e w' => e = .returned (.bool true) ∧ Below w.heap.size w w' := by
  obtain ⟨A, c, rfl, hc1, hc2, hcell⟩ := hv.1
  have hps := hv.2
  rw [List.length_map] at hc1 hcell ⊢
  obtain ⟨n, hn⟩ : ∃ n, ss.length = n := ⟨_, rfl⟩
  have hmax : n ≤ maxLen := by omega
  unfold maxLen at hmax
  rw [hn] at hcell ⊢
  have HA := Lib.hid ha
  have HB := Lib.hid hb
  have HN := Lib.hid hn
  have HP := Lib.hid hps
  have HC := Lib.hid hcell
  have HI := Lib.hid (ints_nil w)
  clear ha hb hv hn hps hcell hc1 hc2
  go_enter Try.func3, Try.ntmps3
  go_wp2_with (first | (go_at_call 6; (with_reducible refine (new_on _ _ HA.out).mono ?_); rintro e w1 ⟨rfl, rfl⟩) | (go_at_call 6; (with_reducible refine (new_on _ _ HB.out).mono ?_); rintro e w1 ⟨rfl, rfl⟩) | (go_at_call 7; (with_reducible refine (refNew_on _ _ HA.out).mono ?_); rintro e w1 ⟨rfl, rfl⟩) | (go_at_call 7; (with_reducible refine (refNew_on _ _ HB.out).mono ?_); rintro e w1 ⟨rfl, rfl⟩) | (go_at_call 8; (with_reducible refine (known_any _).mono ?_); rintro e w5 ⟨rfl, b5⟩))
  have M0 := Lib.hid (start_on_on (a := a) (b := b) HA.out HB.out b5)
  clear b5
  go_loopw [17] (fun vi wr => ∃ i : Nat, i ≤ n ∧ vi = .int .i64 i ∧ Hid (Mid w w5.heap.size true w.heap.size (w.heap.size + 1) a true (w.heap.size + 1 + 1) (w.heap.size + 1 + 1 + 1) b wr)) (fun vi _ => n - (intOf vi).toNat)
  case atStart => exact ⟨0, Nat.zero_le _, rfl, M0⟩
  case round =>
    obtain ⟨i, hi, rfl, HM⟩ := hrel
    by_cases hlt : i < n
    · obtain ⟨s, hs⟩ : ∃ s, ss[i]? = some s := ⟨_, List.getElem?_eq_getElem (by rw [HN.out]; exact hlt)⟩
      have HU := Lib.hid (HP.out s (List.mem_of_getElem? hs))
      obtain ⟨g, o, rfl, hcA⟩ := HC.out (by omega)
      have kk := hcA i s.cells (by rw [List.getElem?_map, hs]; rfl)
      obtain ⟨l, m, hq, r1, r2, hbel⟩ := HM.out
      have up : ∀ (q : Addr) (u : Value), w.cell? q = some u → wr.cell? q = some u := fun q u hq => (hbel.cell (World.block_lt_of_cell? w q hq)).trans hq
      have k0 : wr.cell? ⟨g, o + i * 7, none⟩ = some (.bool s.second) := up _ _ (kk 0 _ rfl)
      have k1 : wr.cell? ⟨g, o + i * 7 + 1, none⟩ = some (.int .i64 s.kind) := up _ _ (kk 1 _ rfl)
      have k2 : wr.cell? ⟨g, o + i * 7 + 2, none⟩ = some (.int .i64 s.c.obj) := up _ _ (kk 2 _ rfl)
      have k3 : wr.cell? ⟨g, o + i * 7 + 3, none⟩ = some (.int .u64 s.c.hi) := up _ _ (kk 3 _ rfl)
      have k4 : wr.cell? ⟨g, o + i * 7 + 4, none⟩ = some (.int .u64 s.c.lo) := up _ _ (kk 4 _ rfl)
      have k5 : wr.cell? ⟨g, o + i * 7 + 5, none⟩ = some (.int .i64 s.n) := up _ _ (kk 5 _ rfl)
      have k6 : wr.cell? ⟨g, o + i * 7 + 6, none⟩ = some s.u := up _ _ (kk 6 _ rfl)
      have p0 : wr.cell? ⟨w5.heap.size, 0, none⟩ = some (.pointer (some ⟨w.heap.size, 0, none⟩)) := cell_row r1 rfl
      have p1 : wr.cell? ⟨w5.heap.size, 1, none⟩ = some (.pointer (some ⟨(w.heap.size + 1), 0, none⟩)) := cell_row r1 rfl
      have p2 : wr.cell? ⟨w5.heap.size + 1, 0, none⟩ = some (.pointer (some ⟨(w.heap.size + 1 + 1), 0, none⟩)) := cell_row r2 rfl
      have p3 : wr.cell? ⟨w5.heap.size + 1, 1, none⟩ = some (.pointer (some ⟨(w.heap.size + 1 + 1 + 1), 0, none⟩)) := cell_row r2 rfl
      clear hcA kk up hs hq r1 r2 hbel
      obtain ⟨sec, hsec⟩ : ∃ x, s.second = x := ⟨_, rfl⟩
      rw [hsec] at k0
      cases sec
      · go_wp2_with fail
        go_still_tail 5, (by kernel_rfl)
        change wpList _ _ _ _ _ wr.drew
        have M1 : Mid w w5.heap.size true w.heap.size (w.heap.size + 1) a true (w.heap.size + 1 + 1) (w.heap.size + 1 + 1 + 1) b wr.drew := HM.out.below (Below.refl _ _).drew
        generalize wr.drew = w2 at M1 ⊢
        go_wp2_with fail
        go_at_call 9
        (with_reducible refine (mid_x M1 false s.kind s.c s.n s.u s.ps HU.out.1 HU.out.2).mono ?_)
        rintro e w6 ⟨rfl, M6⟩
        have HM6 := Lib.hid M6
        clear M1 M6
        go_wp2
        exact ⟨⟨i + 1, by omega, by simp, HM6⟩, by simp [intOf]; omega⟩
      · go_wp2_with fail
        go_still_tail 5, (by kernel_rfl)
        change wpList _ _ _ _ _ wr.drew
        have M1 : Mid w w5.heap.size true w.heap.size (w.heap.size + 1) a true (w.heap.size + 1 + 1) (w.heap.size + 1 + 1 + 1) b wr.drew := HM.out.below (Below.refl _ _).drew
        generalize wr.drew = w2 at M1 ⊢
        go_wp2_with fail
        go_at_call 9
        (with_reducible refine (mid_y M1 true s.kind s.c s.n s.u s.ps HU.out.1 HU.out.2).mono ?_)
        rintro e w6 ⟨rfl, M6⟩
        have HM6 := Lib.hid M6
        clear M1 M6
        go_wp2
        exact ⟨⟨i + 1, by omega, by simp, HM6⟩, by simp [intOf]; omega⟩
    · have : i = n := by omega
      subst this
      have r3 := heap_alloc_new wr endB
      have H7 := HM.out.below ((Below.refl _ wr).alloc (Nat.le_refl _) endB)
      obtain ⟨l, m, hq, r1, r2, hbel⟩ := H7
      have p0 : (wr.alloc endB).cell? ⟨w5.heap.size, 0, none⟩ = some (.pointer (some ⟨w.heap.size, 0, none⟩)) := cell_row r1 rfl
      have p1 : (wr.alloc endB).cell? ⟨w5.heap.size, 1, none⟩ = some (.pointer (some ⟨(w.heap.size + 1), 0, none⟩)) := cell_row r1 rfl
      have p2 : (wr.alloc endB).cell? ⟨w5.heap.size + 1, 0, none⟩ = some (.pointer (some ⟨(w.heap.size + 1 + 1), 0, none⟩)) := cell_row r2 rfl
      have p3 : (wr.alloc endB).cell? ⟨w5.heap.size + 1, 1, none⟩ = some (.pointer (some ⟨(w.heap.size + 1 + 1 + 1), 0, none⟩)) := cell_row r2 rfl
      have z0 : (wr.alloc endB).cell? ⟨wr.heap.size, 0, none⟩ = some (.bool false) := cell_row r3 rfl
      have z1 : (wr.alloc endB).cell? ⟨wr.heap.size, 1, none⟩ = some (.int .i64 3) := cell_row r3 rfl
      have z2 : (wr.alloc endB).cell? ⟨wr.heap.size, 2, none⟩ = some (.int .i64 0) := cell_row r3 rfl
      have z3 : (wr.alloc endB).cell? ⟨wr.heap.size, 3, none⟩ = some (.int .u64 0) := cell_row r3 rfl
      have z4 : (wr.alloc endB).cell? ⟨wr.heap.size, 4, none⟩ = some (.int .u64 0) := cell_row r3 rfl
      have z5 : (wr.alloc endB).cell? ⟨wr.heap.size, 5, none⟩ = some (.int .i64 0) := cell_row r3 rfl
      have z6 : (wr.alloc endB).cell? ⟨wr.heap.size, 6, none⟩ = some (.slice none 0 0) := cell_row r3 rfl
      clear hq r1 r2 r3 hbel
      go_wp2_with fail
      go_at_call 9
      (with_reducible refine (end_x HM.out HI.out).mono ?_)
      rintro e w6 ⟨rfl, M6, g6⟩
      have HM6 := Lib.hid M6
      obtain ⟨l, m, hq, r1, r2, hbel⟩ := M6
      have pp0 : w6.cell? ⟨w5.heap.size, 0, none⟩ = some (.pointer (some ⟨w.heap.size, 0, none⟩)) := cell_row r1 rfl
      have pp1 : w6.cell? ⟨w5.heap.size, 1, none⟩ = some (.pointer (some ⟨(w.heap.size + 1), 0, none⟩)) := cell_row r1 rfl
      have pp2 : w6.cell? ⟨w5.heap.size + 1, 0, none⟩ = some (.pointer (some ⟨(w.heap.size + 1 + 1), 0, none⟩)) := cell_row r2 rfl
      have pp3 : w6.cell? ⟨w5.heap.size + 1, 1, none⟩ = some (.pointer (some ⟨(w.heap.size + 1 + 1 + 1), 0, none⟩)) := cell_row r2 rfl
      have zz0 : w6.cell? ⟨wr.heap.size, 0, none⟩ = some (.bool false) := cell_row g6 rfl
      have zz1 : w6.cell? ⟨wr.heap.size, 1, none⟩ = some (.int .i64 3) := cell_row g6 rfl
      have zz2 : w6.cell? ⟨wr.heap.size, 2, none⟩ = some (.int .i64 0) := cell_row g6 rfl
      have zz3 : w6.cell? ⟨wr.heap.size, 3, none⟩ = some (.int .u64 0) := cell_row g6 rfl
      have zz4 : w6.cell? ⟨wr.heap.size, 4, none⟩ = some (.int .u64 0) := cell_row g6 rfl
      have zz5 : w6.cell? ⟨wr.heap.size, 5, none⟩ = some (.int .i64 0) := cell_row g6 rfl
      have zz6 : w6.cell? ⟨wr.heap.size, 6, none⟩ = some (.slice none 0 0) := cell_row g6 rfl
      clear hq r1 r2 g6 hbel
      go_wp2_with fail
      go_at_call 9
      (with_reducible refine (mid_y HM6.out false 3 ⟨0, 0, 0⟩ 0 (.slice none 0 0) [] HI.out (by simp)).mono ?_)
      rintro e w7 ⟨rfl, M7⟩
      have HM7 := Lib.hid M7
      clear M7
      go_wp2_with fail
      go_ret
      exact ⟨rfl, Mid.bel HM7.out⟩
theorem start_on_off {w w5 : World} {a b : Int} (ha : mostOk a = true) (b5 : Below ((w.alloc (rowL 58 a)).alloc (rowL 60 a)).heap.size ((w.alloc (rowL 58 a)).alloc (rowL 60 a)) w5) :
    Mid w w5.heap.size true w.heap.size (w.heap.size + 1) a false 0 0 b ((w5.alloc (.cells #[ptrO true w.heap.size, ptrO true (w.heap.size + 1)] 32)).alloc (.cells #[ptrO false 0, ptrO false 0] 32)) :=
  mid_start (A := (fun k => k = w.heap.size ∨ k = (w.heap.size + 1))) (B := (fun _ => False)) (feetO_on ha (no_keeps (heap_alloc_new w (rowL 58 a)) ((Kept.refl _ _).alloc _)) ((by simpa using heap_alloc_new (w.alloc (rowL 58 a)) (rowL 60 a))) (by omega)) (fun k h => h) (fun k h1 h2 => by exact h2) (fun k h => by omega) (fun k h => by exact h.elim) (((Below.refl _ w).alloc (Nat.le_refl _) _).alloc (by simp) _) b5
set_option maxHeartbeats 4000000 in
set_option maxRecDepth 100000 in
theorem law_on_off (w : World) (a b : Int) (v : Value) (ss : List Step) (hv : ReadsSteps w v ss) (ha : mostOk a = true) (hb : mostOk b = false) : Calls Try.prog 3 #[.int .i64 a, .int .i64 b, v] w fun e w' => e = .returned (.bool true) ∧ Below w.heap.size w w' := by
  obtain ⟨A, c, rfl, hc1, hc2, hcell⟩ := hv.1
  have hps := hv.2
  rw [List.length_map] at hc1 hcell ⊢
  obtain ⟨n, hn⟩ : ∃ n, ss.length = n := ⟨_, rfl⟩
  have hmax : n ≤ maxLen := by omega
  unfold maxLen at hmax
  rw [hn] at hcell ⊢
  have HA := Lib.hid ha
  have HB := Lib.hid hb
  have HN := Lib.hid hn
  have HP := Lib.hid hps
  have HC := Lib.hid hcell
  have HI := Lib.hid (ints_nil w)
  clear ha hb hv hn hps hcell hc1 hc2
  go_enter Try.func3, Try.ntmps3
  go_wp2_with (first | (go_at_call 6; (with_reducible refine (new_on _ _ HA.out).mono ?_); rintro e w1 ⟨rfl, rfl⟩) | (go_at_call 6; (with_reducible refine (new_off _ _ HB.out).mono ?_); rintro e w1 ⟨rfl, rfl⟩) | (go_at_call 7; (with_reducible refine (refNew_on _ _ HA.out).mono ?_); rintro e w1 ⟨rfl, rfl⟩) | (go_at_call 7; (with_reducible refine (refNew_off _ _ HB.out).mono ?_); rintro e w1 ⟨rfl, rfl⟩) | (go_at_call 8; (with_reducible refine (known_any _).mono ?_); rintro e w5 ⟨rfl, b5⟩))
  have M0 := Lib.hid (start_on_off (a := a) (b := b) HA.out b5)
  clear b5
  go_loopw [17] (fun vi wr => ∃ i : Nat, i ≤ n ∧ vi = .int .i64 i ∧ Hid (Mid w w5.heap.size true w.heap.size (w.heap.size + 1) a false 0 0 b wr)) (fun vi _ => n - (intOf vi).toNat)
  case atStart => exact ⟨0, Nat.zero_le _, rfl, M0⟩
  case round =>
    obtain ⟨i, hi, rfl, HM⟩ := hrel
    by_cases hlt : i < n
    · obtain ⟨s, hs⟩ : ∃ s, ss[i]? = some s := ⟨_, List.getElem?_eq_getElem (by rw [HN.out]; exact hlt)⟩
      have HU := Lib.hid (HP.out s (List.mem_of_getElem? hs))
      obtain ⟨g, o, rfl, hcA⟩ := HC.out (by omega)
      have kk := hcA i s.cells (by rw [List.getElem?_map, hs]; rfl)
      obtain ⟨l, m, hq, r1, r2, hbel⟩ := HM.out
      have up : ∀ (q : Addr) (u : Value), w.cell? q = some u → wr.cell? q = some u := fun q u hq => (hbel.cell (World.block_lt_of_cell? w q hq)).trans hq
      have k0 : wr.cell? ⟨g, o + i * 7, none⟩ = some (.bool s.second) := up _ _ (kk 0 _ rfl)
      have k1 : wr.cell? ⟨g, o + i * 7 + 1, none⟩ = some (.int .i64 s.kind) := up _ _ (kk 1 _ rfl)
      have k2 : wr.cell? ⟨g, o + i * 7 + 2, none⟩ = some (.int .i64 s.c.obj) := up _ _ (kk 2 _ rfl)
      have k3 : wr.cell? ⟨g, o + i * 7 + 3, none⟩ = some (.int .u64 s.c.hi) := up _ _ (kk 3 _ rfl)
      have k4 : wr.cell? ⟨g, o + i * 7 + 4, none⟩ = some (.int .u64 s.c.lo) := up _ _ (kk 4 _ rfl)
      have k5 : wr.cell? ⟨g, o + i * 7 + 5, none⟩ = some (.int .i64 s.n) := up _ _ (kk 5 _ rfl)
      have k6 : wr.cell? ⟨g, o + i * 7 + 6, none⟩ = some s.u := up _ _ (kk 6 _ rfl)
      have p0 : wr.cell? ⟨w5.heap.size, 0, none⟩ = some (.pointer (some ⟨w.heap.size, 0, none⟩)) := cell_row r1 rfl
      have p1 : wr.cell? ⟨w5.heap.size, 1, none⟩ = some (.pointer (some ⟨(w.heap.size + 1), 0, none⟩)) := cell_row r1 rfl
      have p2 : wr.cell? ⟨w5.heap.size + 1, 0, none⟩ = some (.pointer none) := cell_row r2 rfl
      have p3 : wr.cell? ⟨w5.heap.size + 1, 1, none⟩ = some (.pointer none) := cell_row r2 rfl
      clear hcA kk up hs hq r1 r2 hbel
      obtain ⟨sec, hsec⟩ : ∃ x, s.second = x := ⟨_, rfl⟩
      rw [hsec] at k0
      cases sec
      · go_wp2_with fail
        go_still_tail 5, (by kernel_rfl)
        change wpList _ _ _ _ _ wr.drew
        have M1 : Mid w w5.heap.size true w.heap.size (w.heap.size + 1) a false 0 0 b wr.drew := HM.out.below (Below.refl _ _).drew
        generalize wr.drew = w2 at M1 ⊢
        go_wp2_with fail
        go_at_call 9
        (with_reducible refine (mid_x M1 false s.kind s.c s.n s.u s.ps HU.out.1 HU.out.2).mono ?_)
        rintro e w6 ⟨rfl, M6⟩
        have HM6 := Lib.hid M6
        clear M1 M6
        go_wp2
        exact ⟨⟨i + 1, by omega, by simp, HM6⟩, by simp [intOf]; omega⟩
      · go_wp2
        exact ⟨⟨i + 1, by omega, by simp, HM⟩, by simp [intOf]; omega⟩
    · have : i = n := by omega
      subst this
      have r3 := heap_alloc_new wr endB
      have H7 := HM.out.below ((Below.refl _ wr).alloc (Nat.le_refl _) endB)
      obtain ⟨l, m, hq, r1, r2, hbel⟩ := H7
      have p0 : (wr.alloc endB).cell? ⟨w5.heap.size, 0, none⟩ = some (.pointer (some ⟨w.heap.size, 0, none⟩)) := cell_row r1 rfl
      have p1 : (wr.alloc endB).cell? ⟨w5.heap.size, 1, none⟩ = some (.pointer (some ⟨(w.heap.size + 1), 0, none⟩)) := cell_row r1 rfl
      have p2 : (wr.alloc endB).cell? ⟨w5.heap.size + 1, 0, none⟩ = some (.pointer none) := cell_row r2 rfl
      have p3 : (wr.alloc endB).cell? ⟨w5.heap.size + 1, 1, none⟩ = some (.pointer none) := cell_row r2 rfl
      have z0 : (wr.alloc endB).cell? ⟨wr.heap.size, 0, none⟩ = some (.bool false) := cell_row r3 rfl
      have z1 : (wr.alloc endB).cell? ⟨wr.heap.size, 1, none⟩ = some (.int .i64 3) := cell_row r3 rfl
      have z2 : (wr.alloc endB).cell? ⟨wr.heap.size, 2, none⟩ = some (.int .i64 0) := cell_row r3 rfl
      have z3 : (wr.alloc endB).cell? ⟨wr.heap.size, 3, none⟩ = some (.int .u64 0) := cell_row r3 rfl
      have z4 : (wr.alloc endB).cell? ⟨wr.heap.size, 4, none⟩ = some (.int .u64 0) := cell_row r3 rfl
      have z5 : (wr.alloc endB).cell? ⟨wr.heap.size, 5, none⟩ = some (.int .i64 0) := cell_row r3 rfl
      have z6 : (wr.alloc endB).cell? ⟨wr.heap.size, 6, none⟩ = some (.slice none 0 0) := cell_row r3 rfl
      clear hq r1 r2 r3 hbel
      go_wp2_with fail
      go_at_call 9
      (with_reducible refine (end_x HM.out HI.out).mono ?_)
      rintro e w6 ⟨rfl, M6, g6⟩
      have HM6 := Lib.hid M6
      obtain ⟨l, m, hq, r1, r2, hbel⟩ := M6
      have pp0 : w6.cell? ⟨w5.heap.size, 0, none⟩ = some (.pointer (some ⟨w.heap.size, 0, none⟩)) := cell_row r1 rfl
      have pp1 : w6.cell? ⟨w5.heap.size, 1, none⟩ = some (.pointer (some ⟨(w.heap.size + 1), 0, none⟩)) := cell_row r1 rfl
      have pp2 : w6.cell? ⟨w5.heap.size + 1, 0, none⟩ = some (.pointer none) := cell_row r2 rfl
      have pp3 : w6.cell? ⟨w5.heap.size + 1, 1, none⟩ = some (.pointer none) := cell_row r2 rfl
      have zz0 : w6.cell? ⟨wr.heap.size, 0, none⟩ = some (.bool false) := cell_row g6 rfl
      have zz1 : w6.cell? ⟨wr.heap.size, 1, none⟩ = some (.int .i64 3) := cell_row g6 rfl
      have zz2 : w6.cell? ⟨wr.heap.size, 2, none⟩ = some (.int .i64 0) := cell_row g6 rfl
      have zz3 : w6.cell? ⟨wr.heap.size, 3, none⟩ = some (.int .u64 0) := cell_row g6 rfl
      have zz4 : w6.cell? ⟨wr.heap.size, 4, none⟩ = some (.int .u64 0) := cell_row g6 rfl
      have zz5 : w6.cell? ⟨wr.heap.size, 5, none⟩ = some (.int .i64 0) := cell_row g6 rfl
      have zz6 : w6.cell? ⟨wr.heap.size, 6, none⟩ = some (.slice none 0 0) := cell_row g6 rfl
      clear hq r1 r2 g6 hbel
      go_wp2_with fail
      go_ret
      exact ⟨rfl, Mid.bel HM6.out⟩
theorem start_off_on {w w5 : World} {a b : Int} (hb : mostOk b = true) (b5 : Below ((w.alloc (rowL 58 b)).alloc (rowL 60 b)).heap.size ((w.alloc (rowL 58 b)).alloc (rowL 60 b)) w5) :
    Mid w w5.heap.size false 0 0 a true w.heap.size (w.heap.size + 1) b ((w5.alloc (.cells #[ptrO false 0, ptrO false 0] 32)).alloc (.cells #[ptrO true w.heap.size, ptrO true (w.heap.size + 1)] 32)) :=
  mid_start (A := (fun _ => False)) (B := (fun k => k = w.heap.size ∨ k = (w.heap.size + 1))) (fun k h => h) (feetO_on hb (no_keeps (heap_alloc_new w (rowL 58 b)) ((Kept.refl _ _).alloc _)) ((by simpa using heap_alloc_new (w.alloc (rowL 58 b)) (rowL 60 b))) (by omega)) (fun k h1 h2 => by exact h1) (fun k h => by exact h.elim) (fun k h => by omega) (((Below.refl _ w).alloc (Nat.le_refl _) _).alloc (by simp) _) b5
set_option maxHeartbeats 4000000 in
set_option maxRecDepth 100000 in
theorem law_off_on (w : World) (a b : Int) (v : Value) (ss : List Step) (hv : ReadsSteps w v ss) (ha : mostOk a = false) (hb : mostOk b = true) : Calls Try.prog 3 #[.int .i64 a, .int .i64 b, v] w fun e w' => e = .returned (.bool true) ∧ Below w.heap.size w w' := by
  obtain ⟨A, c, rfl, hc1, hc2, hcell⟩ := hv.1
  have hps := hv.2
  rw [List.length_map] at hc1 hcell ⊢
  obtain ⟨n, hn⟩ : ∃ n, ss.length = n := ⟨_, rfl⟩
  have hmax : n ≤ maxLen := by omega
  unfold maxLen at hmax
  rw [hn] at hcell ⊢
  have HA := Lib.hid ha
  have HB := Lib.hid hb
  have HN := Lib.hid hn
  have HP := Lib.hid hps
  have HC := Lib.hid hcell
  have HI := Lib.hid (ints_nil w)
  clear ha hb hv hn hps hcell hc1 hc2
  go_enter Try.func3, Try.ntmps3
  go_wp2_with (first | (go_at_call 6; (with_reducible refine (new_off _ _ HA.out).mono ?_); rintro e w1 ⟨rfl, rfl⟩) | (go_at_call 6; (with_reducible refine (new_on _ _ HB.out).mono ?_); rintro e w1 ⟨rfl, rfl⟩) | (go_at_call 7; (with_reducible refine (refNew_off _ _ HA.out).mono ?_); rintro e w1 ⟨rfl, rfl⟩) | (go_at_call 7; (with_reducible refine (refNew_on _ _ HB.out).mono ?_); rintro e w1 ⟨rfl, rfl⟩) | (go_at_call 8; (with_reducible refine (known_any _).mono ?_); rintro e w5 ⟨rfl, b5⟩))
  have M0 := Lib.hid (start_off_on (a := a) (b := b) HB.out b5)
  clear b5
  go_loopw [17] (fun vi wr => ∃ i : Nat, i ≤ n ∧ vi = .int .i64 i ∧ Hid (Mid w w5.heap.size false 0 0 a true w.heap.size (w.heap.size + 1) b wr)) (fun vi _ => n - (intOf vi).toNat)
  case atStart => exact ⟨0, Nat.zero_le _, rfl, M0⟩
  case round =>
    obtain ⟨i, hi, rfl, HM⟩ := hrel
    by_cases hlt : i < n
    · obtain ⟨s, hs⟩ : ∃ s, ss[i]? = some s := ⟨_, List.getElem?_eq_getElem (by rw [HN.out]; exact hlt)⟩
      have HU := Lib.hid (HP.out s (List.mem_of_getElem? hs))
      obtain ⟨g, o, rfl, hcA⟩ := HC.out (by omega)
      have kk := hcA i s.cells (by rw [List.getElem?_map, hs]; rfl)
      obtain ⟨l, m, hq, r1, r2, hbel⟩ := HM.out
      have up : ∀ (q : Addr) (u : Value), w.cell? q = some u → wr.cell? q = some u := fun q u hq => (hbel.cell (World.block_lt_of_cell? w q hq)).trans hq
      have k0 : wr.cell? ⟨g, o + i * 7, none⟩ = some (.bool s.second) := up _ _ (kk 0 _ rfl)
      have k1 : wr.cell? ⟨g, o + i * 7 + 1, none⟩ = some (.int .i64 s.kind) := up _ _ (kk 1 _ rfl)
      have k2 : wr.cell? ⟨g, o + i * 7 + 2, none⟩ = some (.int .i64 s.c.obj) := up _ _ (kk 2 _ rfl)
      have k3 : wr.cell? ⟨g, o + i * 7 + 3, none⟩ = some (.int .u64 s.c.hi) := up _ _ (kk 3 _ rfl)
      have k4 : wr.cell? ⟨g, o + i * 7 + 4, none⟩ = some (.int .u64 s.c.lo) := up _ _ (kk 4 _ rfl)
      have k5 : wr.cell? ⟨g, o + i * 7 + 5, none⟩ = some (.int .i64 s.n) := up _ _ (kk 5 _ rfl)
      have k6 : wr.cell? ⟨g, o + i * 7 + 6, none⟩ = some s.u := up _ _ (kk 6 _ rfl)
      have p0 : wr.cell? ⟨w5.heap.size, 0, none⟩ = some (.pointer none) := cell_row r1 rfl
      have p1 : wr.cell? ⟨w5.heap.size, 1, none⟩ = some (.pointer none) := cell_row r1 rfl
      have p2 : wr.cell? ⟨w5.heap.size + 1, 0, none⟩ = some (.pointer (some ⟨w.heap.size, 0, none⟩)) := cell_row r2 rfl
      have p3 : wr.cell? ⟨w5.heap.size + 1, 1, none⟩ = some (.pointer (some ⟨(w.heap.size + 1), 0, none⟩)) := cell_row r2 rfl
      clear hcA kk up hs hq r1 r2 hbel
      obtain ⟨sec, hsec⟩ : ∃ x, s.second = x := ⟨_, rfl⟩
      rw [hsec] at k0
      cases sec
      · go_wp2
        exact ⟨⟨i + 1, by omega, by simp, HM⟩, by simp [intOf]; omega⟩
      · go_wp2_with fail
        go_still_tail 5, (by kernel_rfl)
        change wpList _ _ _ _ _ wr.drew
        have M1 : Mid w w5.heap.size false 0 0 a true w.heap.size (w.heap.size + 1) b wr.drew := HM.out.below (Below.refl _ _).drew
        generalize wr.drew = w2 at M1 ⊢
        go_wp2_with fail
        go_at_call 9
        (with_reducible refine (mid_y M1 true s.kind s.c s.n s.u s.ps HU.out.1 HU.out.2).mono ?_)
        rintro e w6 ⟨rfl, M6⟩
        have HM6 := Lib.hid M6
        clear M1 M6
        go_wp2
        exact ⟨⟨i + 1, by omega, by simp, HM6⟩, by simp [intOf]; omega⟩
    · have : i = n := by omega
      subst this
      have r3 := heap_alloc_new wr endB
      have H7 := HM.out.below ((Below.refl _ wr).alloc (Nat.le_refl _) endB)
      obtain ⟨l, m, hq, r1, r2, hbel⟩ := H7
      have p0 : (wr.alloc endB).cell? ⟨w5.heap.size, 0, none⟩ = some (.pointer none) := cell_row r1 rfl
      have p1 : (wr.alloc endB).cell? ⟨w5.heap.size, 1, none⟩ = some (.pointer none) := cell_row r1 rfl
      have p2 : (wr.alloc endB).cell? ⟨w5.heap.size + 1, 0, none⟩ = some (.pointer (some ⟨w.heap.size, 0, none⟩)) := cell_row r2 rfl
      have p3 : (wr.alloc endB).cell? ⟨w5.heap.size + 1, 1, none⟩ = some (.pointer (some ⟨(w.heap.size + 1), 0, none⟩)) := cell_row r2 rfl
      have z0 : (wr.alloc endB).cell? ⟨wr.heap.size, 0, none⟩ = some (.bool false) := cell_row r3 rfl
      have z1 : (wr.alloc endB).cell? ⟨wr.heap.size, 1, none⟩ = some (.int .i64 3) := cell_row r3 rfl
      have z2 : (wr.alloc endB).cell? ⟨wr.heap.size, 2, none⟩ = some (.int .i64 0) := cell_row r3 rfl
      have z3 : (wr.alloc endB).cell? ⟨wr.heap.size, 3, none⟩ = some (.int .u64 0) := cell_row r3 rfl
      have z4 : (wr.alloc endB).cell? ⟨wr.heap.size, 4, none⟩ = some (.int .u64 0) := cell_row r3 rfl
      have z5 : (wr.alloc endB).cell? ⟨wr.heap.size, 5, none⟩ = some (.int .i64 0) := cell_row r3 rfl
      have z6 : (wr.alloc endB).cell? ⟨wr.heap.size, 6, none⟩ = some (.slice none 0 0) := cell_row r3 rfl
      clear hq r1 r2 r3 hbel
      go_wp2_with fail
      go_at_call 9
      (with_reducible refine (mid_y (HM.out.below ((Below.refl _ wr).alloc (Nat.le_refl _) endB)) false 3 ⟨0, 0, 0⟩ 0 (.slice none 0 0) [] HI.out (by simp)).mono ?_)
      rintro e w7 ⟨rfl, M7⟩
      have HM7 := Lib.hid M7
      clear M7
      go_wp2_with fail
      go_ret
      exact ⟨rfl, Mid.bel HM7.out⟩
theorem start_off_off {w w5 : World} {a b : Int} (b5 : Below w.heap.size w w5) :
    Mid w w5.heap.size false 0 0 a false 0 0 b ((w5.alloc (.cells #[ptrO false 0, ptrO false 0] 32)).alloc (.cells #[ptrO false 0, ptrO false 0] 32)) :=
  mid_start (A := (fun _ => False)) (B := (fun _ => False)) (fun k h => h) (fun k h => h) (fun k h1 h2 => by exact h1) (fun k h => by exact h.elim) (fun k h => by exact h.elim) (Below.refl _ w) b5
set_option maxHeartbeats 4000000 in
set_option maxRecDepth 100000 in
theorem law_off_off (w : World) (a b : Int) (v : Value) (ss : List Step) (hv : ReadsSteps w v ss) (ha : mostOk a = false) (hb : mostOk b = false) : Calls Try.prog 3 #[.int .i64 a, .int .i64 b, v] w fun e w' => e = .returned (.bool true) ∧ Below w.heap.size w w' := by
  obtain ⟨A, c, rfl, hc1, hc2, hcell⟩ := hv.1
  have hps := hv.2
  rw [List.length_map] at hc1 hcell ⊢
  obtain ⟨n, hn⟩ : ∃ n, ss.length = n := ⟨_, rfl⟩
  have hmax : n ≤ maxLen := by omega
  unfold maxLen at hmax
  rw [hn] at hcell ⊢
  have HA := Lib.hid ha
  have HB := Lib.hid hb
  have HN := Lib.hid hn
  have HP := Lib.hid hps
  have HC := Lib.hid hcell
  have HI := Lib.hid (ints_nil w)
  clear ha hb hv hn hps hcell hc1 hc2
  go_enter Try.func3, Try.ntmps3
  go_wp2_with (first | (go_at_call 6; (with_reducible refine (new_off _ _ HA.out).mono ?_); rintro e w1 ⟨rfl, rfl⟩) | (go_at_call 6; (with_reducible refine (new_off _ _ HB.out).mono ?_); rintro e w1 ⟨rfl, rfl⟩) | (go_at_call 7; (with_reducible refine (refNew_off _ _ HA.out).mono ?_); rintro e w1 ⟨rfl, rfl⟩) | (go_at_call 7; (with_reducible refine (refNew_off _ _ HB.out).mono ?_); rintro e w1 ⟨rfl, rfl⟩) | (go_at_call 8; (with_reducible refine (known_any _).mono ?_); rintro e w5 ⟨rfl, b5⟩))
  have M0 := Lib.hid (start_off_off (a := a) (b := b) b5)
  clear b5
  go_loopw [17] (fun vi wr => ∃ i : Nat, i ≤ n ∧ vi = .int .i64 i ∧ Hid (Mid w w5.heap.size false 0 0 a false 0 0 b wr)) (fun vi _ => n - (intOf vi).toNat)
  case atStart => exact ⟨0, Nat.zero_le _, rfl, M0⟩
  case round =>
    obtain ⟨i, hi, rfl, HM⟩ := hrel
    by_cases hlt : i < n
    · obtain ⟨s, hs⟩ : ∃ s, ss[i]? = some s := ⟨_, List.getElem?_eq_getElem (by rw [HN.out]; exact hlt)⟩
      have HU := Lib.hid (HP.out s (List.mem_of_getElem? hs))
      obtain ⟨g, o, rfl, hcA⟩ := HC.out (by omega)
      have kk := hcA i s.cells (by rw [List.getElem?_map, hs]; rfl)
      obtain ⟨l, m, hq, r1, r2, hbel⟩ := HM.out
      have up : ∀ (q : Addr) (u : Value), w.cell? q = some u → wr.cell? q = some u := fun q u hq => (hbel.cell (World.block_lt_of_cell? w q hq)).trans hq
      have k0 : wr.cell? ⟨g, o + i * 7, none⟩ = some (.bool s.second) := up _ _ (kk 0 _ rfl)
      have k1 : wr.cell? ⟨g, o + i * 7 + 1, none⟩ = some (.int .i64 s.kind) := up _ _ (kk 1 _ rfl)
      have k2 : wr.cell? ⟨g, o + i * 7 + 2, none⟩ = some (.int .i64 s.c.obj) := up _ _ (kk 2 _ rfl)
      have k3 : wr.cell? ⟨g, o + i * 7 + 3, none⟩ = some (.int .u64 s.c.hi) := up _ _ (kk 3 _ rfl)
      have k4 : wr.cell? ⟨g, o + i * 7 + 4, none⟩ = some (.int .u64 s.c.lo) := up _ _ (kk 4 _ rfl)
      have k5 : wr.cell? ⟨g, o + i * 7 + 5, none⟩ = some (.int .i64 s.n) := up _ _ (kk 5 _ rfl)
      have k6 : wr.cell? ⟨g, o + i * 7 + 6, none⟩ = some s.u := up _ _ (kk 6 _ rfl)
      have p0 : wr.cell? ⟨w5.heap.size, 0, none⟩ = some (.pointer none) := cell_row r1 rfl
      have p1 : wr.cell? ⟨w5.heap.size, 1, none⟩ = some (.pointer none) := cell_row r1 rfl
      have p2 : wr.cell? ⟨w5.heap.size + 1, 0, none⟩ = some (.pointer none) := cell_row r2 rfl
      have p3 : wr.cell? ⟨w5.heap.size + 1, 1, none⟩ = some (.pointer none) := cell_row r2 rfl
      clear hcA kk up hs hq r1 r2 hbel
      obtain ⟨sec, hsec⟩ : ∃ x, s.second = x := ⟨_, rfl⟩
      rw [hsec] at k0
      cases sec
      · go_wp2
        exact ⟨⟨i + 1, by omega, by simp, HM⟩, by simp [intOf]; omega⟩
      · go_wp2
        exact ⟨⟨i + 1, by omega, by simp, HM⟩, by simp [intOf]; omega⟩
    · have : i = n := by omega
      subst this
      go_wp2
      go_ret
      exact ⟨rfl, Mid.bel (HM.out.below ((Below.refl _ wr).alloc (Nat.le_refl _) endB))⟩
/-- DomainAll: every script is answered with true, and what is elder stays. -/
theorem law_all (w : World) (a b : Int) (v : Value) (ss : List Step) (hv : ReadsSteps w v ss) : Calls Try.prog 3 #[.int .i64 a, .int .i64 b, v] w fun e w' => e = .returned (.bool true) ∧ Below w.heap.size w w' := by
  cases ha : mostOk a <;> cases hb : mostOk b
  · exact law_off_off w a b v ss hv ha hb
  · exact law_off_on w a b v ss hv ha hb
  · exact law_on_off w a b v ss hv ha hb
  · exact law_on_on w a b v ss hv ha hb
end Go.Proofs.Ytepjhdppmegloaa.Caps

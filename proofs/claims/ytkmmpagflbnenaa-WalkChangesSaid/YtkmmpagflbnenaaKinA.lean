/- The program's forest in memory: what it tells. Own text; Ytkmmpagflbnenaa and the numbers between @..@ are the seat's. -/
import Derived.Test.YtkmmpagflbnenaaForest
import Derived.Test.YtkmmpagflbnenaaRows2
import Derived.Test.YtkmmpagflbnenaaProg
import Derived.Lib.Hide
import Derived.Deep.LoopGhost
namespace Go.Proofs.Ytkmmpagflbnenaa.Kin
set_option linter.unusedVariables false
open Go.RowKit Go.Proofs.Ytkmmpagflbnenaa.Mem
def i64 (z : Int) : Value := .int .i64 z
theorem info_int : (Try.prog.info? 3).map (fun i => (i.zero, i.size, i.bytes)) = some (some (.int .i64 0), 1, 8) := by kernel_rfl
theorem info_node : (Try.prog.info? 64).map (fun i => (i.zero, i.size, i.bytes)) = some (some (.agg #[.bool false, .int .i64 0, .slice none 0 0]), 3, 40) := by kernel_rfl
/-- Nodes at p, in block g: which are there, their parents, and their children behind V k; all of it lies in F. -/
structure Kg (w : World) (p g m : Nat) (hs : Nat → Bool) (ps : Nat → Int) (cs : Nat → List Int) (V : Nat → Value) (F : Nat → Prop) : Prop where
  box : w.heap[p]? = some (.cells #[.slice (some ⟨g, 0, none⟩) m m] 77)
  row : ∃ cur, w.heap[g]? = some (.cells cur 64) ∧ ∀ k, k < m → cur[k * 3]? = some (.bool (hs k)) ∧ cur[k * 3 + 1]? = some (.int .i64 (ps k)) ∧ cur[k * 3 + 2]? = some (V k)
  own : Mem.Rows 3 1 w m V (fun k => (cs k).length) (fun k => (cs k).map i64)
  pg : p ≠ g
  fp : F p
  fg : F g
  fv : ∀ k b, k < m → (V k).ownBlock = some b → F b ∧ b ≠ p ∧ b ≠ g
  hm : m ≤ 1024
section
variable {w w' : World} {p g m : Nat} {hs : Nat → Bool} {ps : Nat → Int} {cs : Nat → List Int} {L : List (Int × Int)} {V : Nat → Value} {F G : Nat → Prop}
theorem Kg.kept {S : Nat → Prop} (h : Kg w p g m hs ps cs V F) (hk : Kept S w w') (hS : ∀ b, F b → ¬ S b) : Kg w' p g m hs ps cs V F := by
  obtain ⟨cur, h1, h2⟩ := h.row
  exact ⟨hk.row h.box (hS p h.fp), ⟨cur, hk.row h1 (hS g h.fg), h2⟩, h.own.kept hk (fun k b hlt hb => hS b (h.fv k b hlt hb).1), h.pg, h.fp, h.fg, h.fv, h.hm⟩
theorem Kg.below (h : Kg w p g m hs ps cs V F) (hb : Below w.heap.size w w') : Kg w' p g m hs ps cs V F := h.kept (S := fun _ => False) (Kept.of_below hb) (fun _ _ hf => hf)
theorem Kg.mono (h : Kg w p g m hs ps cs V F) (hFG : ∀ b, F b → G b) : Kg w p g m hs ps cs V G := ⟨h.box, h.row, h.own, h.pg, hFG p h.fp, hFG g h.fg, fun k b hk hb => ⟨hFG b (h.fv k b hk hb).1, (h.fv k b hk hb).2⟩, h.hm⟩
theorem Kg.tight (h : Kg w p g m hs ps cs V F) : Kg w p g m hs ps cs V (fun b => F b ∧ b < w.heap.size) := by
  obtain ⟨cur, h1, h2⟩ := h.row
  exact ⟨h.box, h.row, h.own, h.pg, ⟨h.fp, lt_of_row h.box⟩, ⟨h.fg, lt_of_row h1⟩, fun k b hk hb => ⟨⟨(h.fv k b hk hb).1, own_lt (h.own.own k hk) b hb⟩, (h.fv k b hk hb).2⟩, h.hm⟩
theorem Kg.c0 (h : Kg w p g m hs ps cs V F) : w.cell? ⟨p, 0, none⟩ = some (.slice (some ⟨g, 0, none⟩) m m) := cell_row h.box rfl
theorem Kg.cell (h : Kg w p g m hs ps cs V F) {k : Nat} (hk : k < m) : w.cell? ⟨g, k * 3, none⟩ = some (.bool (hs k)) ∧ w.cell? ⟨g, k * 3 + 1, none⟩ = some (.int .i64 (ps k)) ∧ w.cell? ⟨g, k * 3 + 2, none⟩ = some (V k) := by
  obtain ⟨cur, h1, h2⟩ := h.row
  obtain ⟨a, b, c⟩ := h2 k hk
  exact ⟨cell_row h1 a, cell_row h1 b, cell_row h1 c⟩
theorem Kg.free (h : Kg w p g m hs ps cs V F) (j : Nat) : w.frozen? ⟨g, j, none⟩ = false := by
  obtain ⟨cur, h1, _⟩ := h.row
  exact free_row h1
theorem Kg.lt (h : Kg w p g m hs ps cs V F) : g < w.heap.size ∧ p < w.heap.size := by
  obtain ⟨cur, h1, _⟩ := h.row
  exact ⟨lt_of_row h1, lt_of_row h.box⟩
theorem Kg.congr {hs' : Nat → Bool} {ps' : Nat → Int} {cs' : Nat → List Int} (h : Kg w p g m hs ps cs V F) (e : ∀ k, k < m → hs' k = hs k ∧ ps' k = ps k ∧ cs' k = cs k) : Kg w p g m hs' ps' cs' V F := by
  obtain ⟨cur, h1, h2⟩ := h.row
  refine ⟨h.box, ⟨cur, h1, fun k hk => ?_⟩, ⟨fun k hk => ?_, h.own.far⟩, h.pg, h.fp, h.fg, h.fv, h.hm⟩
  · rw [(e k hk).1, (e k hk).2.1]; exact h2 k hk
  · rw [(e k hk).2.2]; exact h.own.own k hk
/-- The forest at p. -/
structure Kt (w : World) (p g m : Nat) (L : List (Int × Int)) (V : Nat → Value) (F : Nat → Prop) : Prop where
  kg : Kg w p g m (fun k => has L k) (fun k => par L k) (fun k => chl L k) V F
  inv : Inv m L
theorem Kt.kept {S : Nat → Prop} (h : Kt w p g m L V F) (hk : Kept S w w') (hS : ∀ b, F b → ¬ S b) : Kt w' p g m L V F := ⟨h.kg.kept hk hS, h.inv⟩
theorem Kt.below (h : Kt w p g m L V F) (hb : Below w.heap.size w w') : Kt w' p g m L V F := ⟨h.kg.below hb, h.inv⟩
theorem Kt.mono (h : Kt w p g m L V F) (hFG : ∀ b, F b → G b) : Kt w p g m L V G := ⟨h.kg.mono hFG, h.inv⟩
theorem Kt.tight (h : Kt w p g m L V F) : Kt w p g m L V (fun b => F b ∧ b < w.heap.size) := ⟨h.kg.tight, h.inv⟩
theorem Kt.c0 (h : Kt w p g m L V F) : w.cell? ⟨p, 0, none⟩ = some (.slice (some ⟨g, 0, none⟩) m m) := h.kg.c0
theorem Kt.cell (h : Kt w p g m L V F) {k : Nat} (hk : k < m) : w.cell? ⟨g, k * 3, none⟩ = some (.bool (has L k)) ∧ w.cell? ⟨g, k * 3 + 1, none⟩ = some (.int .i64 (par L k)) ∧ w.cell? ⟨g, k * 3 + 2, none⟩ = some (V k) := h.kg.cell hk
theorem Kt.hm (h : Kt w p g m L V F) : m ≤ 1024 := h.kg.hm
end
theorem at_any (w : World) (p g m : Nat) (k : Nat) (hk : k < m) (hm : m ≤ 1024) (c0 : w.cell? ⟨p, 0, none⟩ = some (.slice (some ⟨g, 0, none⟩) m m)) : Calls Try.prog 38 #[.pointer (some ⟨p, 0, none⟩), .int .i64 k] w fun e w' => e = .returned (.pointer (some ⟨g, k * 3, none⟩)) ∧ w = w' := by
  go_enter Try.func38, Try.ntmps38
  go_wp2
  go_ret
  exact ⟨rfl, rfl⟩
def inR (m : Nat) (n : Int) : Bool := decide (0 ≤ n ∧ n < m)
theorem number_any (w : World) (p g m : Nat) (n : Int) (hm : m ≤ 1024) (c0 : w.cell? ⟨p, 0, none⟩ = some (.slice (some ⟨g, 0, none⟩) m m)) : Calls Try.prog 43 #[.pointer (some ⟨p, 0, none⟩), .int .i64 n] w fun e w' => e = .returned (.bool (inR m n)) ∧ w = w' := by
  by_cases h0 : 0 ≤ n
  · by_cases h1 : n < (m : Int)
    · have hr : inR m n = true := by simp [inR, h0, h1]
      rw [hr]
      go_enter Try.func43, Try.ntmps43
      go_wp2
      go_ret
      exact ⟨rfl, rfl⟩
    · have hr : inR m n = false := by simp [inR, h1]
      rw [hr]
      go_enter Try.func43, Try.ntmps43
      go_wp2
      go_ret
      exact ⟨rfl, rfl⟩
  · have hr : inR m n = false := by simp [inR, h0]
    rw [hr]
    go_enter Try.func43, Try.ntmps43
    go_wp2
    go_ret
    exact ⟨rfl, rfl⟩
section
variable (w : World) (p g m : Nat) (L : List (Int × Int)) (V : Nat → Value) (F : Nat → Prop) (h : Kt w p g m L V F)
include h
theorem has_any (n : Int) : Calls Try.prog 17 #[.pointer (some ⟨p, 0, none⟩), .int .i64 n] w fun e w' => e = .returned (.bool (has L n)) ∧ w = w' := by
  have c0 := h.c0
  have hm := h.hm
  have HN := Lib.hid (number_any w p g m n hm c0)
  by_cases hr : 0 ≤ n ∧ n < m
  · obtain ⟨k, rfl⟩ : ∃ k : Nat, n = k := ⟨n.toNat, by omega⟩
    have hk : k < m := by omega
    obtain ⟨y0, _, _⟩ := h.cell hk
    have e : inR m (k : Int) = true := by simp [inR]; omega
    rw [e] at HN
    obtain ⟨b, hb⟩ : ∃ b, has L (k : Int) = b := ⟨_, rfl⟩
    rw [hb] at y0 ⊢
    clear h hr e hb
    go_enter Try.func17, Try.ntmps17
    go_wp2_with fail
    (with_reducible refine HN.out.mono ?_)
    rintro e w1 ⟨rfl, rfl⟩
    go_wp2
    go_ret
    exact ⟨rfl, rfl⟩
  · have e : inR m n = false := by simp [inR]; omega
    have e2 : has L n = false := by
      cases e3 : has L n with
      | false => rfl
      | true => exact absurd (h.inv.has_rng e3) hr
    rw [e] at HN
    rw [e2]
    clear h hr e e2
    go_enter Try.func17, Try.ntmps17
    go_wp2_with fail
    (with_reducible refine HN.out.mono ?_)
    rintro e w1 ⟨rfl, rfl⟩
    go_wp2
    go_ret
    exact ⟨rfl, rfl⟩
theorem parent_any (n : Int) : Calls Try.prog 10 #[.pointer (some ⟨p, 0, none⟩), .int .i64 n] w fun e w' => e = .returned (.tuple #[.int .i64 (par L n), .bool (has L n)]) ∧ w = w' := by
  have c0 := h.c0
  have hm := h.hm
  have HH := Lib.hid (has_any w p g m L V F h n)
  cases e3 : has L n with
  | true =>
    have hr := h.inv.has_rng e3
    obtain ⟨k, rfl⟩ : ∃ k : Nat, n = k := ⟨n.toNat, by omega⟩
    have hk : k < m := by omega
    obtain ⟨_, y1, _⟩ := h.cell hk
    have HA := Lib.hid (at_any w p g m k hk hm c0)
    rw [e3] at HH
    obtain ⟨b, hb⟩ : ∃ b, par L (k : Int) = b := ⟨_, rfl⟩
    rw [hb] at y1 ⊢
    clear h hr e3 hb
    go_enter Try.func10, Try.ntmps10
    go_wp2_with fail
    (with_reducible refine HH.out.mono ?_)
    rintro e w1 ⟨rfl, rfl⟩
    go_wp2_with fail
    (with_reducible refine HA.out.mono ?_)
    rintro e w1 ⟨rfl, rfl⟩
    go_wp2
    go_ret2
    exact ⟨rfl, rfl⟩
  | false =>
    rw [e3] at HH
    rw [par_no e3]
    clear h e3
    go_enter Try.func10, Try.ntmps10
    go_wp2_with fail
    (with_reducible refine HH.out.mono ?_)
    rintro e w1 ⟨rfl, rfl⟩
    go_wp2
    go_ret2
    exact ⟨rfl, rfl⟩
end
end Go.Proofs.Ytkmmpagflbnenaa.Kin

/- Bytes in memory: what is read, compared, copied; how many bytes a number has. -/
import Derived.Test.YtfpkdbogapmhmaaProg
import Derived.Test.YtfpkdbogapmhmaaRows2
import Derived.Outline
import Derived.Lib.Hide
import Derived.IntWalk
import Derived.LoopN
import Derived.WalkSpells
import Derived.Deep.QuietTactic
import Derived.BigQuiet
import Derived.Deep.RegionHeld3
import Derived.Deep.CutBlock
import Derived.Deep.DeepCutAuto
import Derived.StillTailTactics
namespace Go.Proofs.Ytfpkdbogapmhmaa.O
open Go.RowKit Go.Proofs.Ytfpkdbogapmhmaa.Mem
def byteC (b : Int) : Value := .int .u8 b
theorem info5 : (Try.prog.info? 5).map (fun i => (i.zero, i.size, i.bytes)) = some (some (.int .u8 0), 1, 1) := by kernel_rfl
/-- Bytes that lie somewhere. -/
def RB (w : World) (v : Value) (zs : List Int) : Prop :=
  ∃ A c, v = .slice A zs.length c ∧ zs.length ≤ c ∧ c ≤ maxLen ∧ (0 < zs.length → ∃ g o, A = some ⟨g, o, none⟩ ∧ ∀ j u, zs[j]? = some u → w.cell? ⟨g, o + j, none⟩ = some (.int .u8 u))
theorem RB.below {w w' : World} {v : Value} {l : List Int} (h : RB w v l) (hb : Below w.heap.size w w') : RB w' v l := by
  obtain ⟨A, c, h1, h2, h3, h4⟩ := h
  refine ⟨A, c, h1, h2, h3, fun hne => ?_⟩
  obtain ⟨b, o, e, h5⟩ := h4 hne
  exact ⟨b, o, e, fun j u hu => (hb.cell (World.block_lt_of_cell? w _ (h5 j u hu))).trans (h5 j u hu)⟩
theorem own_cap {w : World} {base : Nat} {e : TypeId} {size n c : Nat} {A : Option Addr} {xs : List Value} (h : w.ownsRow base e size (.slice A n c) n xs) : n ≤ c ∧ c ≤ 9223372036854775807 := by
  rcases h.2 with ⟨h1, _⟩ | ⟨g, c', cur, h1, _, _, hc', hm, _⟩
  · obtain ⟨rfl, h2, rfl⟩ : A = none ∧ n = 0 ∧ c = 0 := by simpa using h1
    exact ⟨by omega, by omega⟩
  · obtain ⟨rfl, rfl⟩ : A = some ⟨g, 0, none⟩ ∧ c = c' := by simpa using h1
    unfold maxLen at hm
    exact ⟨hc', by omega⟩
/-- A slice of the call's own that holds these bytes. -/
def OB (w : World) (v : Value) (zs : List Int) : Prop := w.ownsRow 0 5 1 v zs.length (zs.map byteC)
theorem OB.reads {w : World} {v : Value} {zs : List Int} (h : OB w v zs) : RB w v zs := by
  obtain ⟨A, c, rfl, hc⟩ := own_slice h
  have h2 := own_cap h
  refine ⟨A, c, rfl, hc, by unfold maxLen; omega, fun hp => ?_⟩
  obtain ⟨g, c', cur, e, _, _, _, _, _, hcell⟩ := own_form h hp
  obtain ⟨rfl, rfl⟩ : A = some ⟨g, 0, none⟩ ∧ c = c' := by simpa using e
  exact ⟨g, 0, rfl, fun j u hu => by rw [Nat.zero_add]; exact hcell j _ (by rw [List.getElem?_map, hu]; rfl)⟩
theorem OB.below {w w' : World} {v : Value} {zs : List Int} (h : OB w v zs) (hb : Below w.heap.size w w') : OB w' v zs := own_keeps h (Kept.of_below hb)
def Fresh (w : World) (v : Value) : Prop := ∀ k, v.ownBlock = some k → w.heap.size ≤ k
theorem RB.holds {w : World} {A : Option Addr} {n c : Nat} {zs : List Int} (h : RB w (.slice A n c) zs) : zs.length = n ∧ Holds w A (zs.map byteC) := by
  obtain ⟨A', c', e, h1, h2, h3⟩ := h
  obtain ⟨rfl, rfl, rfl⟩ : A = A' ∧ n = zs.length ∧ c = c' := by simpa using e
  refine ⟨rfl, fun hp => ?_⟩
  obtain ⟨g, o, rfl, h4⟩ := h3 (by simpa using hp)
  refine ⟨_, rfl, fun j u hu => ?_⟩
  rw [List.getElem?_map, Option.map_eq_some_iff] at hu
  obtain ⟨z, hz, rfl⟩ := hu
  have := h4 j z hz
  unfold Addr.add
  split
  · rename_i h0; subst h0; exact this
  · exact this
theorem RB.conv {w : World} {v : Value} {zs : List Int} (h : RB w v zs) : (convert 27 9 v).run Try.prog w = .ok (.string (strOfNums zs)) w := by
  obtain ⟨A, c, rfl, h1, h2, h3⟩ := h
  rcases Nat.eq_zero_or_pos zs.length with h0 | h0
  · have : zs = [] := List.length_eq_zero_iff.1 h0
    subst this
    cases A with
    | none => exact run_convert_bytes_nil w 27 5 Try.underlying27 Try.underlying5 _ c 9 Try.underlying9
    | some ad =>
      rw [run_convert_bytes_string w 27 9 5 _ _ c Try.underlying27 Try.underlying5 Try.underlying9]
      exact run_bytesToString w ad 0 c [] (run_loadCells_list (P := Try.prog) w ad [] (fun j v hj => by simp at hj))
  · obtain ⟨g, o, rfl, h4⟩ := h3 h0
    exact run_convert_bytes_arg w 27 5 Try.underlying27 Try.underlying5 g o zs.length c zs rfl (fun i hi => by
      have := h4 i _ (List.getElem?_eq_getElem hi)
      rw [this, List.getD_eq_getElem?_getD, List.getElem?_eq_getElem hi]
      rfl) 9 Try.underlying9
set_option maxRecDepth 100000 in
set_option maxHeartbeats 1000000 in
theorem width1 (w : World) : Calls Try.prog 52 #[] w fun e w' => e = .returned (.int .i64 1) ∧ w = w' := by
  have s8 : IntKind.u8.signed = false := rfl
  go_enter Try.func52, Try.ntmps52
  go_wp2
  refine wp_loop_rounds 1 ?_
  rw [rounds_succ]
  go_wp2
  go_ret
  exact ⟨rfl, rfl⟩
set_option maxRecDepth 100000 in
set_option maxHeartbeats 1000000 in
theorem width2 (w : World) : Calls Try.prog 51 #[] w fun e w' => e = .returned (.int .i64 2) ∧ w = w' := by
  have s8 : IntKind.u16.signed = false := rfl
  go_enter Try.func51, Try.ntmps51
  go_wp2
  refine wp_loop_rounds 2 ?_
  rw [rounds_succ]
  go_wp2
  rw [rounds_succ]
  go_wp2
  go_ret
  exact ⟨rfl, rfl⟩
set_option maxRecDepth 100000 in
set_option maxHeartbeats 1000000 in
theorem width4 (w : World) : Calls Try.prog 53 #[] w fun e w' => e = .returned (.int .i64 4) ∧ w = w' := by
  have s8 : IntKind.u32.signed = false := rfl
  go_enter Try.func53, Try.ntmps53
  go_wp2
  refine wp_loop_rounds 4 ?_
  rw [rounds_succ]
  go_wp2
  rw [rounds_succ]
  go_wp2
  rw [rounds_succ]
  go_wp2
  rw [rounds_succ]
  go_wp2
  go_ret
  exact ⟨rfl, rfl⟩
set_option maxRecDepth 100000 in
set_option maxHeartbeats 1000000 in
theorem width8 (w : World) : Calls Try.prog 67 #[] w fun e w' => e = .returned (.int .i64 8) ∧ w = w' := by
  have s8 : IntKind.u64.signed = false := rfl
  go_enter Try.func67, Try.ntmps67
  go_wp2
  refine wp_loop_rounds 8 ?_
  rw [rounds_succ]
  go_wp2
  rw [rounds_succ]
  go_wp2
  rw [rounds_succ]
  go_wp2
  rw [rounds_succ]
  go_wp2
  rw [rounds_succ]
  go_wp2
  rw [rounds_succ]
  go_wp2
  rw [rounds_succ]
  go_wp2
  rw [rounds_succ]
  go_wp2
  go_ret
  exact ⟨rfl, rfl⟩
end Go.Proofs.Ytfpkdbogapmhmaa.O

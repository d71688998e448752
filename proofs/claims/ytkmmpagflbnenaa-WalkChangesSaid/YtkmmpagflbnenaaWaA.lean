/- slices.Reverse upon an owned list: the program's own instance is walked. Own text; Ytkmmpagflbnenaa and the numbers between @..@ are the seat's. -/
import Derived.Test.YtkmmpagflbnenaaKinT
import Derived.Deep.LoopGhost
import Derived.Lib.SlicesMore
import Derived.Shelf.RegionOpenPlain
import Derived.Sort.WalkB12
import Derived.Sort.OwnSortedInts
namespace Go.Proofs.Ytkmmpagflbnenaa.Kin
open Go.RowKit Go.Proofs.Ytkmmpagflbnenaa.Mem
set_option linter.unusedVariables false
set_option maxRecDepth 1000000

set_option maxHeartbeats 1600000 in
/-- upon a block of numbers: the two ends come inward -/
theorem reverse_row (w : World) (g off cap : Nat) (d : Array Int) (hH : Sort.Holds (Value.int .i64) w g off d) (hz : d.size ≤ 9223372036854775807) :
    Calls Try.prog 42 #[.slice (some ⟨g, off, none⟩) d.size cap] w fun e w' => e = .returned (.tuple #[]) ∧ ∃ n, w' = Sort.putRow (Value.int .i64) (Sort.ahead w n) g off d.reverse := by
  have mixed : Try.prog.follows .mixedOrders = true := by kernel_rfl
  go_enter Try.func42, Try.ntmps42
  go_wp2
  go_loopg [2, 3] d.size (fun m x y v => ∃ (a b : Nat) (t : Int) (q : Array Int) (n : Nat), x = .int .i64 a ∧ y = .int .i64 t ∧ ((a : Int) < t → t = b ∧ b < d.size) ∧ (¬ (a : Int) < t → ¬ a < b) ∧
    b - a ≤ m ∧ q.size = d.size ∧ v = Sort.putRow (Value.int .i64) (Sort.ahead w n) g off q ∧ Sort.reverseLoop a b q = Sort.reverseLoop 0 (d.size - 1) d)
  case atStart => exact ⟨0, d.size - 1, (d.size : Int) - 1, d, 0, rfl, rfl, fun h => ⟨by omega, by omega⟩, fun h => by omega, by omega, rfl, (Sort.putRow_self (Value.int .i64) w g off d hH).symm, rfl⟩
  case round =>
    obtain ⟨a, b, t, q, n, rfl, rfl, hin, hout, hm, hq, hv, heq⟩ := hrel
    rcases Classical.em ((a : Int) < t) with hlt | hlt
    · obtain ⟨rfl, hb⟩ := hin hlt
      have hab : a < b := by omega
      have hK : Sort.Holds (Value.int .i64) _ g off q := Sort.holds_putRow (Value.int .i64) _ g off d q (Sort.holds_ahead (Value.int .i64) w n g off d hH) hq
      rw [← hv] at hK
      obtain ⟨ca, fa⟩ := hK a (by omega)
      obtain ⟨cb, fb⟩ := hK b (by omega)
      rw [Sort.reverseLoop, if_pos hab] at heq
      have V := Lib.hid hv
      clear hv hK hH hin hout
      go_wp2_with fail
      go_region_o
      go_wp2
      go_roundg (b - 1 - (a + 1))
      case measure => omega
      case rel =>
        exact ⟨a + 1, b - 1, (b : Int) - 1, Sort.swp q a b, n + 1, by simp, rfl, fun h => ⟨by omega, by omega⟩, fun h => by omega, Nat.le_refl _, by rw [Sort.size_swp]; exact hq,
          Go.Proofs.swap_world (Value.int .i64) (by omega) (by omega) V.out (by simp [getElem!_pos, show b < q.size by omega]) (by simp [getElem!_pos, show a < q.size by omega]), heq⟩
    · have hn := hout hlt
      rw [Sort.reverseLoop, if_neg hn] at heq
      go_wp2
      go_end0
      exact ⟨rfl, n, by rw [Lib.reverseLoop_reverse]⟩

set_option maxHeartbeats 1000000 in
/-- without cells: nothing happens -/
theorem reverse_none (w : World) (a : Option Addr) (cap : Nat) :
    Calls Try.prog 42 #[.slice a 0 cap] w fun e w' => e = .returned (.tuple #[]) ∧ w' = w := by
  go_enter Try.func42, Try.ntmps42
  go_wp2
  go_loopg [2, 3] 0 (fun _ x y v => x = .int .i64 0 ∧ y = .int .i64 (-1) ∧ v = w)
  case atStart => exact ⟨rfl, rfl, rfl⟩
  case round =>
    obtain ⟨rfl, rfl, rfl⟩ := hrel
    go_wp2
    go_end0
    exact ⟨rfl, rfl⟩

theorem reverse_any (w : World) (v : Value) (n : Nat) (zs : List Int) (hown : w.ownsRow 0 3 1 v n (zs.map i64)) : Calls Try.prog 42 #[v] w fun e w' => e = .returned (.tuple #[]) ∧ w'.ownsRow 0 3 1 v n (zs.reverse.map i64) ∧ Kept (fun b => v.ownBlock = some b) w w' := by
  have hl : zs.length = n := by have := hown.1; simpa using this
  rcases hown.2 with ⟨rfl, rfl⟩ | ⟨g, cap, cur, rfl, hb, hg, h1, h2, h3, h4⟩
  · have hz : zs = [] := List.length_eq_zero_iff.1 hl
    subst hz
    refine (reverse_none w none 0).mono ?_
    rintro e w' ⟨rfl, rfl⟩
    exact ⟨rfl, hown, Kept.refl _ _⟩
  · subst hl
    rw [Nat.mul_one] at h4
    have hm : zs.toArray.size ≤ 9223372036854775807 := by unfold maxLen at h2; simp; omega
    have hrun := reverse_row w g 0 cap zs.toArray (holds_of_blockI hg h4) hm
    simp only [List.size_toArray] at hrun
    refine hrun.mono ?_
    rintro e w' ⟨rfl, k, hw⟩
    rw [show zs.toArray.reverse = zs.reverse.toArray by simp] at hw
    subst hw
    have hr := ownsRow_sortedI (w := w) (n := k) (os := #[]) (ss := zs) (ts := zs.reverse) (by simp) hb hg h1 h2 h3
    have hgr := grownBy_sortedI (w := w) (g := g) (n := k) (os := #[]) zs.reverse.toArray
    have e : Sort.grow (Sort.putRow (Value.int .i64) (Sort.ahead w k) g 0 zs.reverse.toArray) #[] = Sort.putRow (Value.int .i64) (Sort.ahead w k) g 0 zs.reverse.toArray := by simp [Sort.grow]; rfl
    rw [e] at hr hgr
    exact ⟨rfl, hr, ⟨hgr.os, hgr.tape, hgr.output, hgr.size, fun b hb hne => hgr.block b hb (fun e => hne (by rw [Value.ownBlock]; exact e.symm))⟩⟩
end Go.Proofs.Ytkmmpagflbnenaa.Kin

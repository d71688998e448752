/- The program's New and Pick. -/
import Derived.Test.YtepjhdppmegloaaCaps
namespace Go.Proofs.Ytepjhdppmegloaa.Caps
open Go.RowKit Go.Proofs.Ytepjhdppmegloaa.Mem

def mostOk (most : Int) : Bool := decide (1 ≤ most) && decide (most ≤ 32)
/-- A new list, or none. -/
def Made (T : Nat) (most : Int) (w : World) (e : Ending) (w' : World) : Prop :=
  if mostOk most then e = .returned (.tuple #[.pointer (some ⟨w.heap.size, 0, none⟩), .int .i64 0]) ∧ w' = w.alloc (.cells #[.int .i64 most, .slice none 0 0] T)
  else e = .returned (.tuple #[.pointer none, .int .i64 16]) ∧ w' = w
theorem Made.yes {T : Nat} {most : Int} {w : World} (h1 : 1 ≤ most) (h2 : most ≤ 32) : Made T most w (.returned (.tuple #[.pointer (some ⟨w.heap.size, 0, none⟩), .int .i64 0])) (w.alloc (.cells #[.int .i64 most, .slice none 0 0] T)) := by
  unfold Made mostOk
  rw [if_pos (by simp [h1, h2])]
  exact ⟨rfl, rfl⟩
theorem Made.no {T : Nat} {most : Int} {w : World} (h : ¬ (1 ≤ most ∧ most ≤ 32)) : Made T most w (.returned (.tuple #[.pointer none, .int .i64 16])) w := by
  unfold Made mostOk
  rw [if_neg (by simpa using h)]
  exact ⟨rfl, rfl⟩
set_option maxHeartbeats 1000000 in
theorem new_any (most : Int) (w : World) : Calls Try.prog 6 #[.int .i64 most] w (Made 58 most w) := by
  by_cases h1 : 1 ≤ most
  · by_cases h2 : most ≤ 32
    · go_enter Try.func6, Try.ntmps6
      go_wp2
      go_ret2
      exact Made.yes h1 h2
    · go_enter Try.func6, Try.ntmps6
      go_wp2
      go_ret2
      exact Made.no (by omega)
  · go_enter Try.func6, Try.ntmps6
    go_wp2
    go_ret2
    exact Made.no (by omega)
set_option maxHeartbeats 1000000 in
theorem refNew_any (most : Int) (w : World) : Calls Try.prog 7 #[.int .i64 most] w (Made 60 most w) := by
  by_cases h1 : 1 ≤ most
  · by_cases h2 : most ≤ 32
    · go_enter Try.func7, Try.ntmps7
      go_wp2
      go_ret2
      exact Made.yes h1 h2
    · go_enter Try.func7, Try.ntmps7
      go_wp2
      go_ret2
      exact Made.no (by omega)
  · go_enter Try.func7, Try.ntmps7
    go_wp2
    go_ret2
    exact Made.no (by omega)

/-- A slice that holds whole numbers, wherever it lies. -/
def ReadsInts (w : World) (v : Value) (zs : List Int) : Prop :=
  ∃ A c, v = .slice A zs.length c ∧ zs.length ≤ maxLen ∧ (0 < zs.length → ∃ g o, A = some ⟨g, o, none⟩ ∧ ∀ j u, zs[j]? = some u → w.cell? ⟨g, o + j, none⟩ = some (.int .i64 u))

def pickE (most : Int) (l : List Cap) (ps : List Int) : Int := if ps.all (hasB l) then (if (ps.length : Int) > most then 14 else 0) else 15
def picked (l : List Cap) (ps : List Int) : List Cap := ps.map fun i => l.getD i.toNat z0
def pickL (most : Int) (l : List Cap) (ps : List Int) : List Cap := if pickE most l ps = 0 then picked l ps else []
def Picks (most : Int) (l : List Cap) (ps : List Int) (w : World) (e : Ending) (w' : World) : Prop :=
  ∃ v, e = .returned (.tuple #[v, .int .i64 (pickE most l ps)]) ∧ w'.ownsRow 0 37 3 v (pickL most l ps).length (capsC (pickL most l ps)) ∧ Below w.heap.size w w' ∧ Fresh w v
theorem Picks.no {most : Int} {l : List Cap} {ps : List Int} {w w' : World} {E : Int} (hE : pickE most l ps = E) (h0 : E ≠ 0) (hb : Below w.heap.size w w') : Picks most l ps w (.returned (.tuple #[.slice none 0 0, .int .i64 E])) w' := by
  refine ⟨.slice none 0 0, by rw [hE], ?_, hb, fun k hk => by simp [Value.ownBlock] at hk⟩
  unfold pickL
  rw [if_neg (by rw [hE]; exact h0)]
  exact World.ownsRow_nil _ _ _ _
theorem Picks.yes {most : Int} {l : List Cap} {ps : List Int} {w w' : World} {v : Value} (hE : pickE most l ps = 0) (ho : w'.ownsRow 0 37 3 v (picked l ps).length (capsC (picked l ps))) (hb : Below w.heap.size w w') (hf : Fresh w v) :
    Picks most l ps w (.returned (.tuple #[v, .int .i64 0])) w' := by
  have e2 : pickL most l ps = picked l ps := by unfold pickL; rw [if_pos hE]
  exact ⟨v, by rw [hE], by rw [e2]; exact ho, hb, hf⟩
theorem all_not {l : List Cap} {ps : List Int} {i : Nat} {z : Int} (hz : ps[i]? = some z) (h : hasB l z = false) : ps.all (hasB l) = false := by
  rw [List.all_eq_false]
  exact ⟨z, List.mem_of_getElem? hz, by simp [h]⟩
theorem all_upto {l : List Cap} {ps : List Int} (h : ∀ (i : Nat) z, ps[i]? = some z → hasB l z = true) : ps.all (hasB l) = true := by
  rw [List.all_eq_true]
  intro z hz
  obtain ⟨i, hi⟩ := List.mem_iff_getElem?.1 hz
  exact h i z hi

set_option maxHeartbeats 4000000 in
theorem pick_any (w : World) (p : Nat) (most : Int) (l : List Cap) (F : Nat → Prop) (u : Value) (ps : List Int) (h : ListAt 58 w p most l F) (hu : ReadsInts w u ps) (hm : most ≤ 32) :
    Calls Try.prog 17 #[.pointer (some ⟨p, 0, none⟩), u] w (Picks most l ps w) := by
  have hL := Lib.hid h
  obtain ⟨A, c, rfl, hal, hA⟩ := hu
  unfold maxLen at hal
  obtain ⟨n, hn⟩ : ∃ n, ps.length = n := ⟨_, rfl⟩
  rw [hn] at hal hA ⊢
  have HN := Lib.hid hn
  have HA := Lib.hid hA
  clear hn hA h
  go_enter Try.func17, Try.ntmps17
  go_wp2
  go_loop [13] (fun vi => ∃ i : Nat, i ≤ n ∧ vi = .int .i64 i ∧ Hid (∀ j z, j < i → ps[j]? = some z → hasB l z = true)) (fun vi => n - (intOf vi).toNat)
  case atStart => exact ⟨0, Nat.zero_le _, rfl, Lib.hid (fun j z hj => absurd hj (Nat.not_lt_zero _))⟩
  case round =>
    obtain ⟨i, hi, rfl, HS⟩ := hrel
    by_cases hlt : i < n
    · obtain ⟨g, o, rfl, hcA⟩ := HA.out (by omega)
      obtain ⟨z, hz⟩ : ∃ z, ps[i]? = some z := ⟨_, List.getElem?_eq_getElem (by rw [HN.out]; exact hlt)⟩
      have k0 : w.cell? ⟨g, o + i, none⟩ = some (.int .i64 z) := hcA _ _ hz
      have HZ := Lib.hid hz
      clear hcA hz
      by_cases hq : hasB l z = true
      · go_wp2_with (go_at_call 23; refine (has_any (T := 58) _ p most l F z hL.out).mono ?_; rintro e w1 ⟨rfl, rfl⟩)
        go_round
        case rel => exact ⟨i + 1, by omega, by go_num, Lib.hid (fun j y hj hy => by
          rcases Nat.lt_or_ge j i with h1 | h1
          · exact HS.out j y h1 hy
          · obtain rfl : j = i := by omega
            rw [HZ.out] at hy
            obtain rfl := Option.some.inj hy
            exact hq)⟩
        case measure => simp [intOf]; omega
      · have hqf : hasB l z = false := by simpa using hq
        clear hq
        go_wp2_with (go_at_call 23; refine (has_any (T := 58) _ p most l F z hL.out).mono ?_; rintro e w1 ⟨rfl, rfl⟩)
        go_ret2
        exact Picks.no (by unfold pickE; rw [all_not HZ.out hqf]; rfl) (by decide) (Below.refl _ _)
    · have : i = n := by omega
      subst this
      have hall : Hid (ps.all (hasB l) = true) := all_upto (fun j z hz => HS.out j z (by have := (List.getElem?_eq_some_iff.1 hz).1; rw [HN.out] at this; exact this) hz)
      obtain ⟨v, h1, h2, h3, h4⟩ := hL.out
      have c0 : w.cell? ⟨p, 0, none⟩ = some (.int .i64 most) := cell_row h1 rfl
      by_cases hgt : most < (i : Int)
      · go_wp2
        go_ret2
        exact Picks.no (by unfold pickE; rw [hall.out, if_pos rfl, if_pos (by rw [HN.out]; exact hgt)]) (by decide) (Below.refl _ _)
      · go_wp2
        go_loopw [8, 31] (fun v8 vi wr => ∃ (j : Nat) (A8 : Option Addr) (c8 : Nat), j ≤ i ∧ vi = .int .i64 j ∧ v8 = .slice A8 j c8 ∧ Hid (wr.ownsRow 0 37 3 (.slice A8 j c8) j (capsC ((picked l ps).take j))) ∧ Hid (Below w.heap.size w wr) ∧ Hid (Fresh w (.slice A8 j c8))) (fun _ vi _ => i - (intOf vi).toNat)
        case atStart => exact ⟨0, none, 0, Nat.zero_le _, rfl, rfl, Lib.hid (World.ownsRow_nil _ _ _ _), Lib.hid (Below.refl _ _), Lib.hid (fun k hk => by simp [Value.ownBlock] at hk)⟩
        case round =>
          obtain ⟨j, A8, c8, hj, rfl, rfl, HO, HB, HF⟩ := hrel
          have hpl := lt_of_row h1
          by_cases hlt2 : j < i
          · obtain ⟨g, o, rfl, hcA⟩ := HA.out (by omega)
            obtain ⟨z, hz⟩ : ∃ z, ps[j]? = some z := ⟨_, List.getElem?_eq_getElem (by rw [HN.out]; exact hlt2)⟩
            have k0 : w.cell? ⟨g, o + j, none⟩ = some (.int .i64 z) := hcA _ _ hz
            have hgl := World.block_lt_of_cell? w _ k0
            have k0' : wr.cell? ⟨g, o + j, none⟩ = some (.int .i64 z) := (HB.out.cell hgl).trans k0
            have hzi : hasB l z = true := HS.out j z hlt2 hz
            have hz' : 0 ≤ z ∧ z < l.length := by simpa [hasB] using hzi
            obtain ⟨z0', z1⟩ := hz'
            obtain ⟨g2, cc, cur, rfl, hg2, hcc, _, _, _, hcell⟩ := own_form h2 (by omega)
            have c1 : wr.cell? ⟨p, 1, none⟩ = some (.slice (some ⟨g2, 0, none⟩) l.length cc) := (HB.out.cell hpl).trans (cell_row h1 rfl)
            have hgl2 := lt_of_row hg2
            obtain ⟨x, hx⟩ : ∃ x, l.getD z.toNat z0 = x := ⟨_, rfl⟩
            have e0 : wr.cell? ⟨g2, z.toNat * 3, none⟩ = some (.int .i64 (l.getD z.toNat z0).obj) := (HB.out.cell hgl2).trans (hcell _ _ (capsC_at l z.toNat 0 (by omega) (by omega)))
            have e1 : wr.cell? ⟨g2, z.toNat * 3 + 1, none⟩ = some (.int .u64 (l.getD z.toNat z0).hi) := (HB.out.cell hgl2).trans (hcell _ _ (capsC_at l z.toNat 1 (by omega) (by omega)))
            have e2 : wr.cell? ⟨g2, z.toNat * 3 + 2, none⟩ = some (.int .u64 (l.getD z.toNat z0).lo) := (HB.out.cell hgl2).trans (hcell _ _ (capsC_at l z.toNat 2 (by omega) (by omega)))
            rw [hx] at e0 e1 e2
            have HX : Hid ((picked l ps)[j]? = some x) := by unfold picked; rw [List.getElem?_map, hz]; exact congrArg some hx
            have HK := Lib.hid (fun o => (Kept.refl (fun _ => False) wr).alloc o)
            clear hx hz hcA k0 hcell h4 hzi
            go_wp2_with (at_builtin; refine list_app rfl (.tmp 35) (.tmp 43) 43 rfl 37 0 _ 3 24 Try.underlying43 info37 rfl (by decide) (by decide) (.slice A8 j c8) j _ rfl (own_keeps HO.out (HK.out _)) (some ⟨wr.heap.size, 0, none⟩) 1 1 (capC x) rfl rfl (holds_new _ _ _ _ _ rfl) (by simp [capC, Value.oneCell']) (by omega) (Nat.zero_le _) ?_; intro v1 w1 hown1 hgrow1 hat1 _)
            obtain ⟨A1, c1', rfl, _⟩ := own_slice hown1
            go_roundw
            case rel =>
              refine ⟨j + 1, A1, c1', by omega, by go_num, rfl, Lib.hid ?_, Lib.hid ?_, Lib.hid ?_⟩
              · rw [List.take_add_one, HX.out]
                simpa [capsC_append, capsC] using hown1
              · exact (HB.out.alloc HB.out.size _).grown hgrow1 (Nat.le_trans HB.out.size (by simp)) HF.out
              · intro k hk
                rcases hat1 with h | h
                · exact HF.out k (h ▸ hk)
                · have := Option.some.inj (hk.symm.trans h)
                  have h2 := HB.out.size
                  rw [this]; simp; omega
            case measure => simp [intOf]; omega
          · have : j = i := by omega
            subst this
            go_wp2
            go_ret2
            have e : pickE most l ps = 0 := by unfold pickE; rw [hall.out, if_pos rfl, if_neg (by rw [HN.out]; omega)]
            have e3 : (picked l ps).length = j := by unfold picked; rw [List.length_map, HN.out]
            refine Picks.yes e ?_ HB.out HF.out
            rw [e3]
            have := HO.out
            rwa [List.take_of_length_le (by omega)] at this
end Go.Proofs.Ytepjhdppmegloaa.Caps

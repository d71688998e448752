/- ArenaScripts: the walk. -/
import Derived.Test.YtbhpikagjcojbaaBr9
import Derived.Test.YtbhpikagjcojbaaAr11
namespace Go.Proofs.Ytbhpikagjcojbaa.Ar
open Go.RowKit Go.Proofs.Ytbhpikagjcojbaa.Mem
set_option linter.unusedVariables false
/-- A call in memory: kind, page, place, count, list, bytes. -/
structure Cl where
  k : Int
  pg : Int
  off : Int
  nn : Int
  vl : Value
  vd : Value
def clL (x : Cl) : List Value := [.int .i64 x.k, .int .i64 x.pg, .int .i64 x.off, .int .i64 x.nn, x.vl, x.vd]
def ReadsCl (w : World) (v : Value) (os : List Cl) : Prop :=
  ∃ A c, v = .slice A os.length c ∧ os.length ≤ maxLen ∧ (0 < os.length → ∃ g o, A = some ⟨g, o, none⟩ ∧ ∀ i x, os[i]? = some x → ∀ j u, (clL x)[j]? = some u → w.cell? ⟨g, o + i * 6 + j, none⟩ = some u)
set_option maxHeartbeats 4000000 in
set_option maxRecDepth 100000 in
theorem law_scripts (w : World) (n0 : Int) (vs : Value) (os : List Cl) (hs : ReadsCl w vs os) (ho : ∀ x ∈ os, ROp w x.k x.pg x.off x.nn x.vl x.vd) :
    Calls Try.prog 4 #[.int .i64 n0, vs] w fun e w' => e = .returned (.bool true) ∧ Below w.heap.size w w' := by
  obtain ⟨As, cs, rfl, hs1, hs2⟩ := hs
  unfold maxLen at hs1
  have HS := Lib.hid hs2
  have HO := Lib.hid ho
  have HNUM := Lib.hid num_any
  have HAL := Lib.hid alive_any
  clear hs2 ho
  by_cases hn : n0 < 0 ∨ 256 < n0
  · have H1 := Lib.hid (new_out w n0 hn)
    have H2 := Lib.hid (rnew_out w n0 hn)
    clear hn
    go_enter Try.func4, Try.ntmps4
    go_wp2_with (first | (go_at_call 8; (with_reducible refine (HNUM.out _ _).mono ?_); rintro e w8 ⟨rfl, rfl⟩) | (go_at_call 7; (with_reducible refine H1.out.mono ?_); rintro e w8 ⟨rfl, rfl⟩) | (go_at_call 17; (with_reducible refine H2.out.mono ?_); rintro e w8 ⟨rfl, rfl⟩) | fail)
    (with_reducible refine (HAL.out w).mono ?_)
    rintro e w1 ⟨rfl, b1⟩
    go_wp2_with fail
    go_ret
    exact ⟨rfl, b1⟩
  · obtain ⟨n, rfl⟩ : ∃ n : Nat, n0 = n := ⟨n0.toNat, by omega⟩
    have hn2 : n ≤ 256 := by omega
    have H1 := Lib.hid (new_in w n hn2)
    clear hn
    go_enter Try.func4, Try.ntmps4
    go_wp2_with fail
    (with_reducible refine H1.out.mono ?_)
    rintro e w1 ⟨p, a, t, rfl, h1, b1, q1, q2, q3⟩
    have HA1 := Lib.hid h1
    have B1 := Lib.hid b1
    have HQ := Lib.hid (show w.heap.size ≤ p ∧ w.heap.size ≤ a ∧ w.heap.size ≤ t from ⟨q1, q2, q3⟩)
    have H2 := Lib.hid (rnew_in w1 n hn2)
    clear h1 b1 q1 q2 q3 H1
    go_wp2_with fail
    (with_reducible refine H2.out.mono ?_)
    rintro e w2 ⟨r, P, rfl, h2, b2, q4, q5⟩
    obtain ⟨on, hon⟩ : ∃ on, List.replicate n false = on := ⟨_, rfl⟩
    obtain ⟨bs, hbs⟩ : ∃ bs : List Int, List.replicate (n * 64) 0 = bs := ⟨_, rfl⟩
    rw [hon, hbs] at HA1 h2
    have T2 : Hid (Two w w2 p a t r P n on bs on bs) := by
      have h3 := HA1.out.cells
      have h4 := HQ.out
      have h5 := B1.out.size
      refine ⟨HA1.out.below b2, h2, ⟨h4.1, h4.2.1, h4.2.2, by omega, by omega⟩, by omega, B1.out.trans (b2.mono B1.out.size)⟩
    clear h2 b2 q4 q5 H2 hon hbs HA1 B1 HQ
    have HX := Lib.hid (HAL.out w2)
    go_wp2_with (first | (go_at_call 8; (with_reducible refine (HNUM.out _ _).mono ?_); rintro e w8 ⟨rfl, rfl⟩) | fail)
    (with_reducible refine HX.out.mono ?_)
    rintro e w3 ⟨rfl, b3⟩
    have T3 := Lib.hid (T2.out.below b3)
    clear b3 HX T2
    go_wp2_with fail
    go_loopw [9] (fun v9 wr => ∃ i : Nat, i ≤ os.length ∧ v9 = .int .i64 i ∧ Hid (Done w p a t r P n wr)) (fun v9 _ => os.length - (intOf v9).toNat)
    case atStart => exact ⟨0, Nat.zero_le _, rfl, _, _, T3.out⟩
    case round =>
      clear T3
      obtain ⟨i, hi, rfl, HD⟩ := hrel
      obtain ⟨on2, bs2, hT⟩ := HD.out
      have T := Lib.hid hT
      clear hT HD
      by_cases hlt : i < os.length
      · obtain ⟨x, hx⟩ : ∃ x, os[i]? = some x := ⟨_, List.getElem?_eq_getElem hlt⟩
        obtain ⟨gs, ss, rfl, hcell⟩ := HS.out (by omega)
        have rd : ∀ j u, (clL x)[j]? = some u → wr.cell? ⟨gs, ss + i * 6 + j, none⟩ = some u := fun j u hu => (T.out.bel.cell (World.block_lt_of_cell? w _ (hcell i x hx j u hu))).trans (hcell i x hx j u hu)
        have y0 : wr.cell? ⟨gs, ss + i * 6, none⟩ = some (.int .i64 x.k) := rd 0 _ rfl
        have y1 : wr.cell? ⟨gs, ss + i * 6 + 1, none⟩ = some (.int .i64 x.pg) := rd 1 _ rfl
        have y2 : wr.cell? ⟨gs, ss + i * 6 + 2, none⟩ = some (.int .i64 x.off) := rd 2 _ rfl
        have y3 : wr.cell? ⟨gs, ss + i * 6 + 3, none⟩ = some (.int .i64 x.nn) := rd 3 _ rfl
        have y4 : wr.cell? ⟨gs, ss + i * 6 + 4, none⟩ = some x.vl := rd 4 _ rfl
        have y5 : wr.cell? ⟨gs, ss + i * 6 + 5, none⟩ = some x.vd := rd 5 _ rfl
        have HST := Lib.hid (step_any w wr p a t r P n on2 bs2 T.out x.k x.pg x.off x.nn x.vl x.vd (HO.out x (List.mem_of_getElem? hx)))
        unfold opV at HST
        have hlt' : (i : Int) < os.length := by omega
        clear rd hcell hx
        go_wp2_with fail
        (with_reducible refine HST.out.mono ?_)
        rintro e w4 ⟨rfl, on4, bs4, h4⟩
        have T4 := Lib.hid h4
        have HH := Lib.hid (holds_any w w4 p a t r P n on4 bs4 h4)
        clear h4 HST y0 y1 y2 y3 y4 y5 T
        go_wp2_with fail
        (with_reducible refine HH.out.mono ?_)
        rintro e w5 ⟨rfl, b5⟩
        have D5 : Hid (Done w p a t r P n w5) := ⟨_, _, T4.out.below b5⟩
        clear b5 HH T4
        go_wp2_with fail
        exact ⟨⟨i + 1, by omega, by simp, D5⟩, by simp [intOf]; omega⟩
      · have hii : os.length = i := by omega
        have HH := Lib.hid (holds_any w wr p a t r P n on2 bs2 T.out)
        go_wp2_with fail
        (with_reducible refine HH.out.mono ?_)
        rintro e w5 ⟨rfl, b5⟩
        have B5 := Lib.hid (T.out.bel.trans (b5.mono T.out.bel.size))
        clear b5 HH T
        go_wp2_with fail
        go_ret
        exact ⟨rfl, B5.out⟩
end Go.Proofs.Ytbhpikagjcojbaa.Ar

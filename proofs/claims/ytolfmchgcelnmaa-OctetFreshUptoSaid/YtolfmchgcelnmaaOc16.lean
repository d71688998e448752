/- OctetReads: the walk. -/
import Derived.Test.YtolfmchgcelnmaaOc15
namespace Go.Proofs.Ytolfmchgcelnmaa.O
open Go.RowKit Go.Proofs.Ytolfmchgcelnmaa.Mem
theorem drop_numL (zs : List Int) (n : Int) : ∃ k, numL zs n = zs.drop k := by
  unfold numL; split
  · exact ⟨0, rfl⟩
  · split
    · exact ⟨0, rfl⟩
    · exact ⟨_, rfl⟩
theorem drop_stepL (zs : List Int) (kind n most : Int) : ∃ k, stepL zs kind n most = zs.drop k := by
  unfold stepL
  split
  · exact drop_numL zs n
  split
  · unfold intL
    split
    · exact ⟨0, rfl⟩
    split
    · exact ⟨0, rfl⟩
    split
    · exact ⟨0, rfl⟩
    · exact drop_numL zs n
  split
  · unfold rowL
    split
    · exact ⟨0, rfl⟩
    split
    · exact ⟨0, rfl⟩
    · exact ⟨_, rfl⟩
  split
  · unfold wordR
    split
    · exact ⟨0, rfl⟩
    · exact ⟨_, rfl⟩
  split
  · unfold kaR
    split
    · exact ⟨0, rfl⟩
    split
    · exact ⟨0, rfl⟩
    · exact ⟨_, rfl⟩
  · exact ⟨0, rfl⟩
def Few (zs : List Int) : Prop := Bytes zs ∧ zs.length ≤ 140737488351232
theorem Few.step {zs : List Int} (h : Few zs) (kind n most : Int) : Few (stepL zs kind n most) := by
  obtain ⟨k, e⟩ := drop_stepL zs kind n most
  rw [e]
  exact ⟨fun z hz => h.1 z (List.mem_of_mem_drop hz), by rw [List.length_drop]; have := h.2; omega⟩
theorem own_fm {w : World} {A : Option Addr} {n c : Nat} {xs : List Value} (h : w.ownsRow 0 5 1 (.slice A n c) n xs) : (A = none ∧ c = 0) ∨ ∃ g o, A = some ⟨g, o, none⟩ := by
  rcases h.2 with ⟨h1, _⟩ | ⟨g, c', cur, h1, _⟩
  · obtain ⟨e1, _, e2⟩ : A = none ∧ n = 0 ∧ c = 0 := by simpa using h1
    exact .inl ⟨e1, e2⟩
  · obtain ⟨e1, _⟩ : A = some ⟨g, 0, none⟩ ∧ c = c' := by simpa using h1
    exact .inr ⟨g, 0, e1⟩
/-- A reader in a new box, over bytes of one's own. -/
theorem mkRd {w w1 : World} {A : Option Addr} {n c : Nat} {zs : List Int} {t : TypeId} (hn : zs.length = n) (ho : OB w1 (.slice A n c) zs) (hf : Fresh w (.slice A n c)) (hs : w.heap.size ≤ w1.heap.size) : Rd t (w1.alloc (.cells #[.slice A n c] t)) w1.heap.size zs (fun b => w.heap.size ≤ b ∧ b < w1.heap.size + 1) := by
  subst hn
  have hbx := (Below.refl _ w1).alloc (Nat.le_refl _) (.cells #[.slice A zs.length c] t)
  refine ⟨A, c, heap_alloc_new w1 _, (ho.below hbx).reads, ⟨hs, by omega⟩, fun hp g o e => ?_, own_fm ho⟩
  subst e
  have h1 := own_lt ho g rfl
  exact ⟨⟨hf g rfl, by omega⟩, by omega⟩
theorem reader_in (w : World) (v : Value) (zs : List Int) (hb : zs.length ≤ 140737488355000) (h : RB w v zs) : Calls Try.prog 27 #[v] w fun e w' => ∃ r, e = .returned (.pointer (some ⟨r, 0, none⟩)) ∧ Below w.heap.size w w' ∧ Rd 82 w' r zs (fun b => w.heap.size ≤ b ∧ b < w'.heap.size) := by
  refine (reader_any w v zs hb h).mono ?_
  rintro e w' ⟨r, rfl, hb, hr, h⟩
  exact ⟨r, rfl, hb, (h (fun b => w.heap.size ≤ b) (fun b hb => hb)).tight⟩
/-- Calls in memory. -/
def opL (x : Int × Int × Int) : List Value := [.int .i64 x.1, .int .i64 x.2.1, .int .i64 x.2.2]
def ReadsOps (w : World) (v : Value) (os : List (Int × Int × Int)) : Prop :=
  ∃ A c, v = .slice A os.length c ∧ os.length ≤ c ∧ c ≤ maxLen ∧ os.length ≤ 140737488351232 ∧ (∀ x ∈ os, x.2.2 ≤ 9223372036854775807) ∧ (0 < os.length → ∃ g o, A = some ⟨g, o, none⟩ ∧ ∀ i x, os[i]? = some x → ∀ j u, (opL x)[j]? = some u → w.cell? ⟨g, o + i * 3 + j, none⟩ = some u)
/-- A row of bytes that may be written over. -/
def Row5 (w : World) (g n : Nat) : Prop := ∃ cur : Array Value, w.heap[g]? = some (.cells cur 5 (0, 0)) ∧ ∀ j, j < n → ∃ z, cur[j]? = some (.int .u8 z)
theorem Row5.set {w : World} {g n : Nat} (h : Row5 w g n) (i : Nat) (z : Int) : Row5 (w.setCell ⟨g, i, none⟩ (.int .u8 z)) g n := by
  obtain ⟨cur, h1, h2⟩ := h
  refine ⟨_, heap_setCell_same w g i _ _ _ h1, fun j hj => ?_⟩
  obtain ⟨y, hy⟩ := h2 j hj
  by_cases e : i = j
  · subst e
    have := (Array.getElem?_eq_some_iff.1 hy).1
    exact ⟨z, by simp [this]⟩
  · exact ⟨y, by simp [e, hy]⟩
theorem LB.row5 {w : World} {A : Option Addr} {n c : Nat} {zs : List Int} (h : LB w A n c zs) : ∃ g, A = some ⟨g, 0, none⟩ ∧ Row5 w g n ∧ n ≤ c ∧ c ≤ 9223372036854775807 := by
  obtain ⟨hn, h⟩ := h
  have hll : (zs ++ marks 300).length = n + 300 := by rw [List.length_append, marks_len, hn]
  unfold OB at h
  rw [hll] at h
  obtain ⟨hc1, hc2⟩ := own_cap h
  obtain ⟨g, c', cur, e, q1, q2, q3, q4, q5, hcell⟩ := own_form h (by omega)
  obtain ⟨rfl, rfl⟩ : A = some ⟨g, 0, none⟩ ∧ c = c' := by simpa using e
  refine ⟨g, rfl, ⟨cur, q1, fun j hj => ?_⟩, by omega, hc2⟩
  obtain ⟨z, hz⟩ : ∃ z, zs[j]? = some z := ⟨_, List.getElem?_eq_getElem (by omega)⟩
  have := hcell j (.int .u8 z) (by rw [List.getElem?_map, List.getElem?_append_left (by omega), hz]; rfl)
  exact ⟨z, by rw [cell_of_row w g j cur 5 (0, 0) q1] at this; exact this⟩
theorem app_new {W w9 : World} {v9 : Value} {n g : Nat} {zs : List Int} (hg : g = W.heap.size) (hn : zs.length = n) (hown : w9.ownsRow 0 5 1 v9 (0 + n) ([] ++ zs.map byteC)) (hwent : Went (W.alloc (.cells #[] 5)) w9 (.slice (some ⟨g, 0, none⟩) 0 0) v9 0 n) : ∃ B d, v9 = .slice B n d ∧ OB w9 (.slice B n d) zs ∧ Fresh W (.slice B n d) ∧ Below W.heap.size W w9 := by
  subst hn hg
  have hf := fresh_went (w := W) (fun b hb => Nat.le_of_eq (by simpa [Value.ownBlock] using hb)) (by simp) hwent
  rw [Nat.zero_add, List.nil_append] at hown
  obtain ⟨B, d, rfl, _⟩ := own_slice hown
  exact ⟨B, d, rfl, hown, hf, ((Below.refl _ W).alloc (Nat.le_refl _) (.cells #[] 5)).trans (hwent.kept.below (B := W.heap.size) (fun k hk => Nat.le_of_eq (by simpa [Value.ownBlock] using hk)) (by simp))⟩
set_option maxHeartbeats 8000000 in
set_option maxRecDepth 100000 in
theorem law_reads (w : World) (va vb vs : Value) (za zb : List Int) (os : List (Int × Int × Int)) (hfa : Few za) (hfb : Few zb) (ha : RB w va za) (hb : RB w vb zb) (hs : ReadsOps w vs os) :
    Calls Try.prog 5 #[va, vb, vs] w fun e w' => e = .returned (.bool true) ∧ Below w.heap.size w w' := by
  have FA := Lib.hid hfa
  have FB := Lib.hid hfb
  have HA := Lib.hid ha
  have HB := Lib.hid hb
  obtain ⟨hla, hlb⟩ : za.length ≤ 140737488351232 ∧ zb.length ≤ 140737488351232 := ⟨hfa.2, hfb.2⟩
  obtain ⟨Aa, ca, rfl, _⟩ := ha
  obtain ⟨Ab, cb, rfl, _⟩ := hb
  obtain ⟨As, cs, rfl, hs1, hs2, hs3, HS4, hs5⟩ := hs
  have HS := Lib.hid hs5
  have HM := Lib.hid HS4
  unfold maxLen at hs2
  clear hs5 HS4 hfa hfb
  have HW : Hid (Below w.heap.size w w) := Below.refl _ _
  go_enter Try.func5, Try.ntmps5
  have HX := Lib.hid (head_any w)
  go_wp2_with fail
  (with_reducible refine HX.out.mono ?_)
  rintro e w1x ⟨rfl, hb1⟩
  replace HA := Lib.hid (HA.out.below hb1)
  replace HB := Lib.hid (HB.out.below hb1)
  replace HW := Lib.hid (HW.out.trans (hb1.mono HW.out.size))
  have S1 := Lib.hid hb1.size
  clear HX hb1
  have HS1 := Lib.hid HW.out.size
  have HX := Lib.hid (lent_any w1x (.slice Aa za.length ca) za (by omega) HA.out)
  go_wp2_with fail
  (with_reducible refine HX.out.mono ?_)
  rintro e w2x ⟨Al, cl, rfl, ol, hb1, fl⟩
  replace HA := Lib.hid (HA.out.below hb1)
  replace HB := Lib.hid (HB.out.below hb1)
  replace HW := Lib.hid (HW.out.trans (hb1.mono HW.out.size))
  have S2 := Lib.hid hb1.size
  have HL := Lib.hid ol
  clear HX ol hb1
  have HFL := Lib.hid fl
  clear fl
  have HX := Lib.hid (lent_any w2x (.slice Ab zb.length cb) zb (by omega) HB.out)
  go_wp2_with fail
  (with_reducible refine HX.out.mono ?_)
  rintro e w3x ⟨Am, cm, rfl, ol, hb1, _⟩
  replace HA := Lib.hid (HA.out.below hb1)
  replace HB := Lib.hid (HB.out.below hb1)
  replace HL := Lib.hid (HL.out.below hb1)
  replace HW := Lib.hid (HW.out.trans (hb1.mono HW.out.size))
  have S3 := Lib.hid hb1.size
  have HLM := Lib.hid ol
  clear HX ol hb1
  have HLB : Hid (∀ k, (Value.slice Al za.length cl).ownBlock = some k → k < w3x.heap.size) := fun k hk => by have := HL.out.2; exact own_lt this k (by cases Al <;> exact hk)
  have HX := Lib.hid (reader_in w3x (.slice Al za.length cl) za (by omega) HL.out.reads)
  go_wp2_with fail
  (with_reducible refine HX.out.mono ?_)
  rintro e w4x ⟨r, rfl, hb1, or⟩
  replace HA := Lib.hid (HA.out.below hb1)
  replace HB := Lib.hid (HB.out.below hb1)
  replace HL := Lib.hid (HL.out.below hb1)
  replace HLM := Lib.hid (HLM.out.below hb1)
  replace HW := Lib.hid (HW.out.trans (hb1.mono HW.out.size))
  have S4 := Lib.hid hb1.size
  have HR := Lib.hid or
  clear HX or hb1
  have HX := Lib.hid (reader_in w4x (.slice Am zb.length cm) zb (by omega) HLM.out.reads)
  go_wp2_with fail
  (with_reducible refine HX.out.mono ?_)
  rintro e w5x ⟨s, rfl, hb1, or⟩
  replace HA := Lib.hid (HA.out.below hb1)
  replace HB := Lib.hid (HB.out.below hb1)
  replace HL := Lib.hid (HL.out.below hb1)
  replace HLM := Lib.hid (HLM.out.below hb1)
  replace HR := Lib.hid (HR.out.below hb1)
  replace HW := Lib.hid (HW.out.trans (hb1.mono HW.out.size))
  have S5 := Lib.hid hb1.size
  have HSr := Lib.hid or
  clear HX or hb1
  have HSM0 : Hid (w1x.heap.size ≤ w2x.heap.size ∧ w2x.heap.size ≤ w3x.heap.size ∧ w3x.heap.size ≤ w4x.heap.size ∧ w4x.heap.size ≤ w5x.heap.size) := ⟨S2.out, S3.out, S4.out, S5.out⟩
  have HH1 := Lib.hid (HA.out.below ((Below.refl _ w5x).alloc (Nat.le_refl _) (.cells #[] 5))).holds.2
  go_wp2_with (first | (at_builtin; refine list_app2 rfl (.tmp 26) (.tmp 27) 22 rfl 5 0 _ 1 1 Try.underlying22 info5 rfl (by decide) (by decide) (.slice (some ⟨w5x.heap.size, 0, none⟩) 0 0) 0 [] rfl (World.ownsRow_made w5x #[] 0 (Nat.zero_le _) (Nat.zero_le _) rfl) Aa za.length ca (za.map byteC) rfl (by rw [List.length_map, Nat.mul_one]) HH1.out one8 (by omega) (Nat.zero_le _) ?_; intro v9 w6 hown hwent; obtain ⟨B1, d1, rfl, ob, fr, be⟩ := app_new (W := w5x) rfl rfl hown hwent; have RP := Lib.hid (mkRd (t := 64) rfl ob fr be.size); have BE1 : Hid (Below w5x.heap.size w5x (w6.alloc (.cells #[.slice B1 za.length d1] 64))) := be.trans (((Below.refl _ w6).alloc (Nat.le_refl _) (.cells #[.slice B1 za.length d1] 64)).mono be.size); have HH2 := Lib.hid ((HB.out.below BE1.out).below ((Below.refl _ (w6.alloc (.cells #[.slice B1 za.length d1] 64))).alloc (Nat.le_refl _) (.cells #[] 5))).holds.2; have SZ6 : Hid (w5x.heap.size ≤ w6.heap.size) := be.size; have E6 : Hid (w6.heap.size + 1 = (w6.alloc (.cells #[.slice B1 za.length d1] 64)).heap.size) := (by simp : w6.heap.size + 1 = (w6.alloc (.cells #[.slice B1 za.length d1] 64)).heap.size); have MADE : Hid (((w6.alloc (.cells #[.slice B1 za.length d1] 64)).alloc (.cells #[] 5)).ownsRow 0 5 1 (.slice (some ⟨w6.heap.size + 1, 0, none⟩) 0 0) 0 []) := E6.out ▸ World.ownsRow_made (w6.alloc (.cells #[.slice B1 za.length d1] 64)) #[] 0 (Nat.zero_le _) (Nat.zero_le _) rfl; clear hown hwent ob fr be) | (at_builtin; refine list_app2 rfl (.tmp 31) (.tmp 32) 22 rfl 5 0 _ 1 1 Try.underlying22 info5 rfl (by decide) (by decide) (.slice (some ⟨w6.heap.size + 1, 0, none⟩) 0 0) 0 [] rfl MADE.out Ab zb.length cb (zb.map byteC) rfl (by rw [List.length_map, Nat.mul_one]) HH2.out one8 (by omega) (Nat.zero_le _) ?_; intro v9 w7 hown hwent; obtain ⟨B2, d2, rfl, ob, fr, be⟩ := app_new (W := (w6.alloc (.cells #[.slice B1 za.length d1] 64))) E6.out rfl hown hwent; have RQ := Lib.hid (mkRd (t := 64) rfl ob fr be.size); have BE2 : Hid (Below (w6.alloc (.cells #[.slice B1 za.length d1] 64)).heap.size (w6.alloc (.cells #[.slice B1 za.length d1] 64)) (w7.alloc (.cells #[.slice B2 zb.length d2] 64))) := be.trans (((Below.refl _ w7).alloc (Nat.le_refl _) (.cells #[.slice B2 zb.length d2] 64)).mono be.size); have SZ7 : Hid ((w6.alloc (.cells #[.slice B1 za.length d1] 64)).heap.size ≤ w7.heap.size) := be.size; clear hown hwent ob fr be) | fail)
  replace HA := Lib.hid ((HA.out.below BE1.out).below BE2.out)
  replace HB := Lib.hid ((HB.out.below BE1.out).below BE2.out)
  replace HL := Lib.hid ((HL.out.below BE1.out).below BE2.out)
  replace HLM := Lib.hid ((HLM.out.below BE1.out).below BE2.out)
  replace HR := Lib.hid ((HR.out.below BE1.out).below BE2.out)
  replace HSr := Lib.hid ((HSr.out.below BE1.out).below BE2.out)
  replace RP := Lib.hid (RP.out.below BE2.out)
  replace HW := Lib.hid (HW.out.trans ((BE1.out.trans (BE2.out.mono BE1.out.size)).mono HW.out.size))
  rw [← E6.out] at RQ SZ7
  have HSM : Hid (w1x.heap.size ≤ w2x.heap.size ∧ w2x.heap.size ≤ w3x.heap.size ∧ w3x.heap.size ≤ w4x.heap.size ∧ w4x.heap.size ≤ w5x.heap.size) := HSM0
  clear HH1 HH2 MADE E6 BE1 BE2
  generalize w7.alloc (.cells #[.slice B2 zb.length d2] 64) = W8 at *
  have HX := Lib.hid (kept_any W8 Al za.length cl (.slice Aa za.length ca) za (by omega) HL.out HA.out)
  go_wp2_with fail
  (with_reducible refine HX.out.mono ?_)
  rintro e w9 ⟨rfl, rfl⟩
  clear HX 
  have HX := Lib.hid (kept_any W8 Am zb.length cm (.slice Ab zb.length cb) zb (by omega) HLM.out HB.out)
  go_wp2_with fail
  (with_reducible refine HX.out.mono ?_)
  rintro e w9 ⟨rfl, rfl⟩
  clear HX 
  obtain ⟨gl, rfl, R5, hc1, hc2⟩ := HL.out.row5
  have HGL : Hid (w.heap.size ≤ gl ∧ gl < w3x.heap.size) := ⟨Nat.le_trans HS1.out (HFL.out gl rfl), HLB.out gl rfl⟩
  have R5' := Lib.hid R5
  clear R5 HL HLM HA HB HFL HLB
  obtain ⟨p, hp⟩ : ∃ p, w6.heap.size = p := ⟨_, rfl⟩
  obtain ⟨q, hq⟩ : ∃ q, w7.heap.size = q := ⟨_, rfl⟩
  rw [hp] at RP RQ SZ6 SZ7
  rw [hq] at RQ SZ7
  rw [hp, hq]
  clear hp hq
  generalize w3x.heap.size = n3 at *
  generalize w4x.heap.size = n4 at *
  generalize w5x.heap.size = n5 at *
  go_wp2_with fail
  go_loopw [13] (fun v13 wr => ∃ i : Nat, i ≤ za.length ∧ v13 = .int .i64 i ∧ Hid (Row5 wr gl za.length) ∧ Hid (Kept (fun b => b = gl) W8 wr)) (fun v13 _ => za.length - (intOf v13).toNat)
  case atStart => exact ⟨0, Nat.zero_le _, rfl, R5', Kept.refl _ _⟩
  case round =>
    obtain ⟨i, hi, rfl, HX, HK⟩ := hrel
    by_cases hlt : i < za.length
    · obtain ⟨cur, hrow, hz⟩ := HX.out
      obtain ⟨z, hz⟩ := hz i hlt
      have y0 : wr.cell? ⟨gl, i, none⟩ = some (.int .u8 z) := cell_row hrow hz
      have f0 : wr.frozen? ⟨gl, i, none⟩ = false := free_row hrow
      clear hrow hz
      go_wp2_with fail
      exact ⟨⟨i + 1, by omega, by simp, HX.out.set i _, HK.out.setCell (p := ⟨gl, i, none⟩) (.inl rfl) _⟩, by simp [intOf]; omega⟩
    · have : i = za.length := by omega
      subst this
      have HK8 := Lib.hid HK.out
      clear HX HK R5' hlt hi
      have HR' := Lib.hid (HR.out.kept HK8.out (fun b hb e => by have := HGL.out; have e' : b = gl := e; omega))
      have HS' := Lib.hid (HSr.out.kept HK8.out (fun b hb e => by have := HGL.out; have := HSM.out; have e' : b = gl := e; omega))
      have HP' := Lib.hid (RP.out.kept HK8.out (fun b hb e => by have := HGL.out; have := HSM.out; have e' : b = gl := e; omega))
      have HQ' := Lib.hid (RQ.out.kept HK8.out (fun b hb e => by have := HGL.out; have := HSM.out; have := SZ6.out; have := SZ7.out; have e' : b = gl := e; omega))
      have HW' : Hid (Below w.heap.size w wr) := HW.out.trans (HK8.out.below (fun b hb => by have := HGL.out; have e' : b = gl := hb; omega) HW.out.size)
      clear HR HSr RP RQ HW HK8
      go_wp2_with fail
      go_loopw [14] (fun v14 wr => ∃ (i : Nat) (xs ys : List Int), i ≤ os.length ∧ v14 = .int .i64 i ∧ Hid (Few xs) ∧ Hid (Few ys) ∧ Hid (Rd 82 wr r xs (fun b => n3 ≤ b ∧ b < n4)) ∧ Hid (Rd 82 wr s ys (fun b => n4 ≤ b ∧ b < n5)) ∧ Hid (Rd 64 wr p xs (fun b => n5 ≤ b ∧ b < p + 1)) ∧ Hid (Rd 64 wr q ys (fun b => p + 1 ≤ b ∧ b < q + 1)) ∧ Hid (Below w.heap.size w wr)) (fun v14 _ => os.length - (intOf v14).toNat)
      case atStart => exact ⟨0, za, zb, Nat.zero_le _, rfl, FA, FB, HR', HS', HP', HQ', HW'⟩
      case round =>
        clear HR' HS' HP' HQ' HW' FA FB
        obtain ⟨i, xs, ys, hi, rfl, FX, FY, HR, HSr, HP, HQ, HW⟩ := hrel
        by_cases hlt : i < os.length
        · obtain ⟨x, hx⟩ : ∃ x, os[i]? = some x := ⟨_, List.getElem?_eq_getElem hlt⟩
          obtain ⟨gs, ss, rfl, hcell⟩ := HS.out (by omega)
          obtain ⟨k, n, m⟩ := x
          have hm : m ≤ 9223372036854775807 := HM.out (k, n, m) (List.mem_of_getElem? hx)
          have hgs : Hid (gs < w.heap.size) := World.block_lt_of_cell? w _ (hcell i (k, n, m) hx 0 _ rfl)
          have Y0 : Hid (w.cell? ⟨gs, ss + i * 3, none⟩ = some (.int .i64 k) ∧ w.cell? ⟨gs, ss + i * 3 + 1, none⟩ = some (.int .i64 n) ∧ w.cell? ⟨gs, ss + i * 3 + 2, none⟩ = some (.int .i64 m)) := ⟨hcell i (k, n, m) hx 0 _ rfl, hcell i (k, n, m) hx 1 _ rfl, hcell i (k, n, m) hx 2 _ rfl⟩
          have y0 := (HW.out.cell (show (⟨gs, ss + i * 3, none⟩ : Addr).block < w.heap.size from hgs.out)).trans Y0.out.1
          have y1 := (HW.out.cell (show (⟨gs, ss + i * 3 + 1, none⟩ : Addr).block < w.heap.size from hgs.out)).trans Y0.out.2.1
          have y2 := (HW.out.cell (show (⟨gs, ss + i * 3 + 2, none⟩ : Addr).block < w.heap.size from hgs.out)).trans Y0.out.2.2
          have HRr : Hid (n3 ≤ r ∧ r < n4) := by obtain ⟨A, c, h⟩ := HR.out; exact h.hr
          have HSs : Hid (n4 ≤ s ∧ s < n5) := by obtain ⟨A, c, h⟩ := HSr.out; exact h.hr
          have HPp : Hid (n5 ≤ p ∧ p < p + 1) := by obtain ⟨A, c, h⟩ := HP.out; exact h.hr
          have HQq : Hid (p + 1 ≤ q ∧ q < q + 1) := by obtain ⟨A, c, h⟩ := HQ.out; exact h.hr
          have LOW : Hid (w.heap.size ≤ n3) := by have := HGL.out; show _ ≤ _; omega
          have HX1 := Lib.hid (step_any wr r p xs _ _ HR.out HP.out (fun b hb hb' => by have := HSM.out; omega) FX.out.1 (by have := FX.out.2; omega) k n m hm)
          clear hx hcell
          go_wp2_with fail
          (with_reducible refine HX1.out.mono ?_)
          rintro e w9 ⟨rfl, g1, g2, g3⟩
          have HR1 := Lib.hid g1
          have HP1 := Lib.hid g2
          have HS1' := Lib.hid (HSr.out.kept g3 (fun b hb e => by have h1 := HSM.out; have h2 := HRr.out; have h3 := HPp.out; have h4 := hb; rcases e with e | e <;> omega))
          have HQ1 := Lib.hid (HQ.out.kept g3 (fun b hb e => by have h1 := HSM.out; have h2 := HRr.out; have h3 := HPp.out; have h4 := SZ6.out; have h5 := hb; rcases e with e | e <;> omega))
          have HW1 : Hid (Below w.heap.size w w9) := HW.out.trans (g3.below (fun b hb => by have h1 := HSM.out; have h2 := HRr.out; have h3 := HPp.out; have h4 := LOW.out; rcases hb with e | e <;> omega) HW.out.size)
          have z0 := (HW1.out.cell (show (⟨gs, ss + i * 3, none⟩ : Addr).block < w.heap.size from hgs.out)).trans Y0.out.1
          have z1 := (HW1.out.cell (show (⟨gs, ss + i * 3 + 1, none⟩ : Addr).block < w.heap.size from hgs.out)).trans Y0.out.2.1
          have z2 := (HW1.out.cell (show (⟨gs, ss + i * 3 + 2, none⟩ : Addr).block < w.heap.size from hgs.out)).trans Y0.out.2.2
          clear g1 g2 g3 y0 y1 y2 HX1 HR HSr HP HQ HW
          have FX1 := Lib.hid (FX.out.step k n m)
          by_cases hpar : (i : Int) % 2 = 0
          · have HX2 := Lib.hid (step_any w9 s q ys _ _ HS1'.out HQ1.out (fun b hb hb' => by have := HSM.out; have := SZ6.out; omega) FY.out.1 (by have := FY.out.2; omega) k n m hm)
            have FY1 := Lib.hid (FY.out.step k n m)
            go_wp2_with fail
            (with_reducible refine HX2.out.mono ?_)
            rintro e w10 ⟨rfl, g1, g2, g3⟩
            have HS2 := Lib.hid g1
            have HQ2 := Lib.hid g2
            have HR2 := Lib.hid (HR1.out.kept g3 (fun b hb e => by have h1 := HSM.out; have h2 := HSs.out; have h3 := HQq.out; have h4 := SZ6.out; have h5 := hb; rcases e with e | e <;> omega))
            have HP2 := Lib.hid (HP1.out.kept g3 (fun b hb e => by have h1 := HSM.out; have h2 := HSs.out; have h3 := HQq.out; have h4 := SZ6.out; have h5 := hb; rcases e with e | e <;> omega))
            have HW2 : Hid (Below w.heap.size w w10) := HW1.out.trans (g3.below (fun b hb => by have h1 := HSM.out; have h2 := HSs.out; have h3 := HQq.out; have h4 := LOW.out; have h5 := SZ6.out; rcases hb with e | e <;> omega) HW1.out.size)
            clear g1 g2 g3 z0 z1 z2 HX2 HR1 HP1 HS1' HQ1 HW1 FX FY
            obtain ⟨X, hX⟩ : ∃ X, stepL xs k n m = X := ⟨_, rfl⟩
            obtain ⟨Y, hY⟩ : ∃ Y, stepL ys k n m = Y := ⟨_, rfl⟩
            rw [hX] at HR2 HP2 FX1
            rw [hY] at HS2 HQ2 FY1
            clear hX hY
            have dr := (Below.refl w10.heap.size w10).drew
            have C1 : Hid (Calls Try.prog 30 #[.pointer (some ⟨r, 0, none⟩)] w10.drew fun e w' => e = .returned (.int .i64 X.length) ∧ w' = w10.drew) := (left_any _ r X _ (HR2.out.below dr)).mono (by rintro e w' ⟨h, rfl⟩; exact ⟨h, rfl⟩)
            have C2 : Hid (Calls Try.prog 30 #[.pointer (some ⟨s, 0, none⟩)] w10.drew fun e w' => e = .returned (.int .i64 Y.length) ∧ w' = w10.drew) := (left_any _ s Y _ (HS2.out.below dr)).mono (by rintro e w' ⟨h, rfl⟩; exact ⟨h, rfl⟩)
            have C3 : Hid (Calls Try.prog 31 #[.pointer (some ⟨r, 0, none⟩)] w10.drew fun e w' => e = .returned (.int .i64 (endZ X)) ∧ w' = w10.drew) := (end_any _ r X _ (HR2.out.below dr)).mono (by rintro e w' ⟨h, rfl⟩; exact ⟨h, rfl⟩)
            have C4 : Hid (Calls Try.prog 32 #[.pointer (some ⟨p, 0, none⟩)] w10.drew fun e w' => e = .returned (.int .i64 (endZ X)) ∧ w' = w10.drew) := (rend_any _ p X _ (HP2.out.below dr)).mono (by rintro e w' ⟨h, rfl⟩; exact ⟨h, rfl⟩)
            have C5 : Hid (Calls Try.prog 31 #[.pointer (some ⟨s, 0, none⟩)] w10.drew fun e w' => e = .returned (.int .i64 (endZ Y)) ∧ w' = w10.drew) := (end_any _ s Y _ (HS2.out.below dr)).mono (by rintro e w' ⟨h, rfl⟩; exact ⟨h, rfl⟩)
            have C6 : Hid (Calls Try.prog 32 #[.pointer (some ⟨q, 0, none⟩)] w10.drew fun e w' => e = .returned (.int .i64 (endZ Y)) ∧ w' = w10.drew) := (rend_any _ q Y _ (HQ2.out.below dr)).mono (by rintro e w' ⟨h, rfl⟩; exact ⟨h, rfl⟩)
            obtain ⟨Ap, cp, rowp⟩ : ∃ A c, w10.cell? ⟨p, 0, none⟩ = some (.slice A X.length c) := by obtain ⟨A, c, h⟩ := HP2.out; exact ⟨A, c, cell_row h.row rfl⟩
            obtain ⟨Aq, cq, rowq⟩ : ∃ A c, w10.cell? ⟨q, 0, none⟩ = some (.slice A Y.length c) := by obtain ⟨A, c, h⟩ := HQ2.out; exact ⟨A, c, cell_row h.row rfl⟩
            have rowp' : w10.drew.cell? ⟨p, 0, none⟩ = some (.slice Ap X.length cp) := rowp
            have rowq' : w10.drew.cell? ⟨q, 0, none⟩ = some (.slice Aq Y.length cq) := rowq
            clear dr
            go_wp2_with fail
            refine wp_region_still_lit (by kernel_rfl) (by kernel_rfl) ?_
            repeat still_step
            still_call C1.out
            repeat still_step
            still_call C2.out
            repeat still_step
            still_call C3.out
            repeat still_step
            still_call C4.out
            repeat still_step
            still_call C5.out
            repeat still_step
            still_call C6.out
            repeat still_step
            refine wpStill_nil ?_
            change Exit.then _ _ _ _ w10.drew
            go_wp2_with fail
            exact ⟨⟨i + 1, X, Y, by omega, by simp, FX1, FY1, Lib.hid (HR2.out.below (Below.refl _ w10).drew), Lib.hid (HS2.out.below (Below.refl _ w10).drew), Lib.hid (HP2.out.below (Below.refl _ w10).drew), Lib.hid (HQ2.out.below (Below.refl _ w10).drew), Lib.hid (HW2.out.drew)⟩, by simp [intOf]; omega⟩
          · have HS2 := HS1'
            have HQ2 := HQ1
            have HR2 := HR1
            have HP2 := HP1
            have HW2 := HW1
            have FY1 := FY
            clear z0 z1 z2 HR1 HP1 HS1' HQ1 HW1 FX FY
            obtain ⟨X, hX⟩ : ∃ X, stepL xs k n m = X := ⟨_, rfl⟩
            rw [hX] at HR2 HP2 FX1
            clear hX
            generalize w9 = w10 at *
            have dr := (Below.refl w10.heap.size w10).drew
            have C1 : Hid (Calls Try.prog 30 #[.pointer (some ⟨r, 0, none⟩)] w10.drew fun e w' => e = .returned (.int .i64 X.length) ∧ w' = w10.drew) := (left_any _ r X _ (HR2.out.below dr)).mono (by rintro e w' ⟨h, rfl⟩; exact ⟨h, rfl⟩)
            have C2 : Hid (Calls Try.prog 30 #[.pointer (some ⟨s, 0, none⟩)] w10.drew fun e w' => e = .returned (.int .i64 ys.length) ∧ w' = w10.drew) := (left_any _ s ys _ (HS2.out.below dr)).mono (by rintro e w' ⟨h, rfl⟩; exact ⟨h, rfl⟩)
            have C3 : Hid (Calls Try.prog 31 #[.pointer (some ⟨r, 0, none⟩)] w10.drew fun e w' => e = .returned (.int .i64 (endZ X)) ∧ w' = w10.drew) := (end_any _ r X _ (HR2.out.below dr)).mono (by rintro e w' ⟨h, rfl⟩; exact ⟨h, rfl⟩)
            have C4 : Hid (Calls Try.prog 32 #[.pointer (some ⟨p, 0, none⟩)] w10.drew fun e w' => e = .returned (.int .i64 (endZ X)) ∧ w' = w10.drew) := (rend_any _ p X _ (HP2.out.below dr)).mono (by rintro e w' ⟨h, rfl⟩; exact ⟨h, rfl⟩)
            have C5 : Hid (Calls Try.prog 31 #[.pointer (some ⟨s, 0, none⟩)] w10.drew fun e w' => e = .returned (.int .i64 (endZ ys)) ∧ w' = w10.drew) := (end_any _ s ys _ (HS2.out.below dr)).mono (by rintro e w' ⟨h, rfl⟩; exact ⟨h, rfl⟩)
            have C6 : Hid (Calls Try.prog 32 #[.pointer (some ⟨q, 0, none⟩)] w10.drew fun e w' => e = .returned (.int .i64 (endZ ys)) ∧ w' = w10.drew) := (rend_any _ q ys _ (HQ2.out.below dr)).mono (by rintro e w' ⟨h, rfl⟩; exact ⟨h, rfl⟩)
            obtain ⟨Ap, cp, rowp⟩ : ∃ A c, w10.cell? ⟨p, 0, none⟩ = some (.slice A X.length c) := by obtain ⟨A, c, h⟩ := HP2.out; exact ⟨A, c, cell_row h.row rfl⟩
            obtain ⟨Aq, cq, rowq⟩ : ∃ A c, w10.cell? ⟨q, 0, none⟩ = some (.slice A ys.length c) := by obtain ⟨A, c, h⟩ := HQ2.out; exact ⟨A, c, cell_row h.row rfl⟩
            have rowp' : w10.drew.cell? ⟨p, 0, none⟩ = some (.slice Ap X.length cp) := rowp
            have rowq' : w10.drew.cell? ⟨q, 0, none⟩ = some (.slice Aq ys.length cq) := rowq
            clear dr
            go_wp2_with fail
            refine wp_region_still_lit (by kernel_rfl) (by kernel_rfl) ?_
            repeat still_step
            still_call C1.out
            repeat still_step
            still_call C2.out
            repeat still_step
            still_call C3.out
            repeat still_step
            still_call C4.out
            repeat still_step
            still_call C5.out
            repeat still_step
            still_call C6.out
            repeat still_step
            refine wpStill_nil ?_
            change Exit.then _ _ _ _ w10.drew
            go_wp2_with fail
            exact ⟨⟨i + 1, X, ys, by omega, by simp, FX1, FY1, Lib.hid (HR2.out.below (Below.refl _ w10).drew), Lib.hid (HS2.out.below (Below.refl _ w10).drew), Lib.hid (HP2.out.below (Below.refl _ w10).drew), Lib.hid (HQ2.out.below (Below.refl _ w10).drew), Lib.hid (HW2.out.drew)⟩, by simp [intOf]; omega⟩
        · have : i = os.length := by omega
          subst this
          clear hlt hi HR HSr HP HQ
          go_wp2_with fail
          go_ret
          exact ⟨rfl, HW.out⟩
end Go.Proofs.Ytolfmchgcelnmaa.O

/- The arena: Write. -/
import Derived.Test.YtbhpikagjcojbaaAr3
import Derived.Deep.CutBlock
import Derived.Deep.DeepCutAuto
namespace Go.Proofs.Ytbhpikagjcojbaa.Ar
open Go.RowKit Go.Proofs.Ytbhpikagjcojbaa.Mem
theorem slice59l (b o off : Nat) (hk : off ≤ 64) (w : World) : (Instr.sliceAt 59 (.pointer (some ⟨b, o, none⟩)) (some (.int .i64 (off : Int))) none none).run Try.prog w = .ok (.slice (some (if 64 = off then ⟨b, o, none⟩ else ⟨b, o + off, none⟩)) (64 - off) (64 - off)) w := by
  have hL : Try.prog.arrayLen 59 = 64 := by kernel_rfl
  have hE : Try.prog.elem 59 = 5 := by kernel_rfl
  obtain ⟨i, hi, _, hsize, _⟩ := info_parts info5
  have := run_sliceAt_array_l (P := Try.prog) w 59 ⟨b, o, none⟩ (by rw [hL, hE]; exact Try.underlying59) .i64 off (by omega) (by rw [hL]; omega)
  rw [this, hE]
  simp [sizeOf, typeInfo, hi, hsize, slicedAt, hL, Addr.add]
  split
  · rfl
  · split <;> simp_all
/-- Bytes laid over others. -/
def laid (bs : List Int) (q : Nat) (zs : List Int) : List Int := bs.take q ++ zs ++ bs.drop (q + zs.length)
theorem laid_len (bs : List Int) (q : Nat) (zs : List Int) (h : q + zs.length ≤ bs.length) : (laid bs q zs).length = bs.length := by
  unfold laid
  simp
  omega
set_option maxHeartbeats 4000000 in
set_option maxRecDepth 100000 in
theorem write_in (w : World) (p a t n : Nat) (on : List Bool) (bs : List Int) (i off k : Nat) (A : Option Addr) (c : Nat) (zs : List Int) (h : At w p a t n on bs) (hi : i < n) (hp : placeE on i off k = 0) (hk : off + k ≤ 64) (hz : zs.length = k) (hs : Holds w A (zs.map byteC)) :
    Calls Try.prog 15 #[.pointer (some ⟨p, 0, none⟩), .int .i64 i, .int .i64 off, .slice A k c] w fun e w' => e = .returned (.int .i64 0) ∧ At w' p a t n on (laid bs (i * 64 + off) zs) ∧ Kept (fun b => b = a) w w' := by
  obtain ⟨c0, c1, _, _, hpl, hal, _⟩ := h.cells
  have HP := Lib.hid (place_any w p a t n on bs i off k h)
  rw [hp] at HP
  have hsz := h.size
  have hfew := h.few
  have hsl := slice59l a (i * 64) off (by omega)
  obtain ⟨ad, had⟩ : ∃ ad : Addr, (if 64 = off then ⟨a, i * 64, none⟩ else ⟨a, i * 64 + off, none⟩) = ad := ⟨_, rfl⟩
  rw [had] at hsl
  have HAD : Hid (0 < k → some ad = some ⟨a, i * 64 + off, none⟩) := fun hpos => by rw [← had, if_neg (by omega)]
  have HH := Lib.hid h
  have HZ := Lib.hid hz
  have HS := Lib.hid hs
  have HMIN : Hid (Nat.min k (64 - off) = k) := Nat.min_eq_left (by omega)
  clear h hp hz hs had
  go_enter Try.func15, Try.ntmps15
  go_upto_region 4 with (go_at_call 24; (with_reducible refine HP.out.mono ?_); rintro e w1 ⟨rfl, rfl⟩)
  go_wp2_with ((refine list_copy rfl (.tmp 26) (.tmp 27) 36 36 rfl 5 1 Try.underlying36 (by kernel_rfl) (by decide) (some ad) A (64 - off) (64 - off) k c rfl rfl a (i * 64 + off) _ 59 HH.out.pages (zs.map byteC) (by rw [List.length_map, HZ.out, HMIN.out, Nat.mul_one]) (by rw [List.length_map, HZ.out]; exact HAD.out) HS.out (by rw [List.length_map, HZ.out, List.size_toArray, List.length_map, hsz]; omega) (fun u hu => by obtain ⟨_, _, rfl⟩ := List.mem_map.1 hu; rfl) ?_; intro w9 hrow9 hg9 hs9; have HR9 := Lib.hid hrow9; have HG9 := Lib.hid hg9; clear hrow9 hg9 hs9))
  go_ret
  have hk9 : Kept (fun b => b = a) w w9 := (Kept.refl (fun b => b = a) w).grown HG9.out (fun b hb => .inl (Option.some.inj hb).symm)
  refine ⟨rfl, ⟨hk9.row HH.out.row HH.out.far.1, ?_, hk9.row HH.out.taken (fun e => HH.out.far.2.2 e.symm), HH.out.len, ?_, HH.out.far, HH.out.few⟩, hk9⟩
  · have e : (laid bs (i * 64 + off) zs).map byteC = List.take (i * 64 + off) (List.map byteC bs) ++ (List.map byteC zs ++ List.drop (i * 64 + off + zs.length) (List.map byteC bs)) := by
      unfold laid
      rw [List.map_append, List.map_append, List.map_take, List.map_drop, List.append_assoc]
    rw [e]
    simpa using HR9.out
  · rw [laid_len _ _ _ (by rw [HZ.out, hsz]; omega)]
    exact hsz
end Go.Proofs.Ytbhpikagjcojbaa.Ar

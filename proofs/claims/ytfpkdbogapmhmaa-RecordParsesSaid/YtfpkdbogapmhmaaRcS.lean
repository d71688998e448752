/- Record: the document's put (written by gen_rcs.py). -/
import Derived.Test.YtfpkdbogapmhmaaRcR
import Derived.Test.YtfpkdbogapmhmaaRcO
namespace Go.Proofs.Ytfpkdbogapmhmaa.O
open Go.RowKit Go.Proofs.Ytfpkdbogapmhmaa.Mem
set_option linter.unusedVariables false
set_option linter.unusedSimpArgs false
/-- Answered is what stood in v, lengthened: in its place or in a new one. -/
def GK (w : World) (v : Value) (zs : List Int) (e : Ending) (w' : World) : Prop := ∃ v', e = .returned v' ∧ OB w' v' zs ∧ Kept (fun b => v.ownBlock = some b) w w' ∧ (∀ b, v'.ownBlock = some b → v.ownBlock = some b ∨ w.heap.size ≤ b)
theorem went_or {p : Nat → Prop} {w1 w9 : World} {v v9 : Value} {n m : Nat} (hv : ∀ b, v.ownBlock = some b → p b) (hs : p w1.heap.size) (hw : Went w1 w9 v v9 n m) : ∀ b, v9.ownBlock = some b → p b := fun b hb => by
  rcases hw with ⟨g, c, e1, e2, _⟩ | ⟨e, _⟩ | ⟨e, _⟩
  · subst e1 e2; exact hv b (by simpa [Value.ownBlock] using hb)
  · rw [e] at hb; obtain rfl := Option.some.inj hb; exact hs
  · rw [e] at hb; exact hv b hb
theorem GK.gb {w0 w : World} {v : Value} {zs : List Int} {e : Ending} {w' : World} (h : GK w v zs e w') (hb : Below w0.heap.size w0 w) (hf : Fresh w0 v) : GB w0 zs e w' := by
  obtain ⟨v', h1, h2, h3, h4⟩ := h
  exact ⟨v', h1, h2, hb.trans (h3.below (fun b hb => hf b hb) hb.size), fun b hb' => (h4 b hb').elim (hf b) (fun h => Nat.le_trans hb.size h)⟩
set_option maxHeartbeats 4000000 in
set_option maxRecDepth 100000 in
theorem rput_k (w : World) (v : Value) (zs : List Int) (x : Int) (n : Nat) (hx0 : -9223372036854775808 ≤ x) (hx1 : x ≤ 9223372036854775807) (hn : n ≤ 8) (hl : zs.length ≤ 140737488354000) (h : OB w v zs) :
    Calls Try.prog 33 #[v, .int .i64 x, .int .i64 n] w fun e w' => GK w v (zs ++ le n x) e w' := by
  obtain ⟨V, hV⟩ : ∃ V, v = V := ⟨_, rfl⟩
  rw [show GK w v = GK w V by rw [hV]]
  obtain ⟨A, c, rfl, _⟩ := own_slice h
  obtain ⟨m, hm⟩ : ∃ m, zs.length = m := ⟨_, rfl⟩
  have HO : Hid (w.ownsRow 0 5 1 (.slice A (m + 0) c) (m + 0) ((zs ++ le 0 x).map byteC)) := Lib.hid (by rw [show le 0 x = [] from rfl, List.append_nil, Nat.add_zero, ← hm]; exact h)
  rw [hm]
  rw [hm] at hl
  have HB : Hid (Kept (fun b => V.ownBlock = some b) w w) := Lib.hid (Kept.refl _ _)
  have HF : Hid (∀ b, (Value.slice A (m + 0) c).ownBlock = some b → V.ownBlock = some b ∨ w.heap.size ≤ b) := Lib.hid (fun b hb => .inl (by rw [← hV, hm]; exact hb))
  have HM := Lib.hid hm
  clear h hm hV
  go_enter Try.func33, Try.ntmps33
  go_wp2_with fail
  go_loopw [0, 7] (fun v0 v7 we => ∃ (i : Nat) (A : Option Addr) (c : Nat), i ≤ n ∧ v7 = .int .i64 i ∧ v0 = .slice A (m + i) c ∧ Hid (we.ownsRow 0 5 1 (.slice A (m + i) c) (m + i) ((zs ++ le i x).map byteC)) ∧ Hid (Kept (fun b => V.ownBlock = some b) w we) ∧ Hid (∀ b, (Value.slice A (m + i) c).ownBlock = some b → V.ownBlock = some b ∨ w.heap.size ≤ b)) (fun _ v7 _ => n - (intOf v7).toNat)
  case atStart => exact ⟨0, A, c, by omega, rfl, rfl, HO, HB, HF⟩
  case round =>
    clear HO HB HF
    obtain ⟨i, A, c, hile, rfl, rfl, HO, HB, HF⟩ := hrel
    by_cases hlt : i < n
    · have hlt' : (i : Int) < (n : Int) := by omega
      have hw1 : IntKind.i64.wrap (8 * (i : Int)) = 8 * (i : Int) := by rw [IntKind.wrap_i64]; omega
      have hw2 : IntKind.u64.wrap (8 * (i : Int)) = 8 * (i : Int) := by rw [IntKind.wrap_u64]; omega
      have hpb := pow_byte i
      have HPB := Lib.hid hpb
      clear hpb
      go_wp2_with (at_builtin; refine list_app2 rfl (.tmp 13) (.tmp 20) 27 rfl 5 0 _ 1 1 Try.underlying27 info5 rfl (by decide) (by decide) (.slice A (m + i) c) (m + i) _ rfl (own_keeps HO.out ((Kept.refl _ _).alloc _)) (some ⟨wr.heap.size, 0, none⟩) 1 1 [.int .u8 (x / 2 ^ (8 * i) % 256)] rfl rfl (holds_new _ _ _ _ _ rfl) (by simp [Value.oneCell']) (by omega) (Nat.zero_le _) ?_; intro v9 w9 hown9 hwent9; obtain ⟨A9, c9, rfl, _⟩ := own_slice hown9; have HO9 := Lib.hid hown9; have HW9 := Lib.hid hwent9; clear hown9 hwent9)
      have ho9 : Hid (w9.ownsRow 0 5 1 (.slice A9 (m + (i + 1)) c9) (m + (i + 1)) ((zs ++ le (i + 1) x).map byteC)) := by
        have h := HO9.out
        show w9.ownsRow 0 5 1 (.slice A9 (m + (i + 1)) c9) (m + (i + 1)) ((zs ++ le (i + 1) x).map byteC)
        rw [le_snoc, ← List.append_assoc, List.map_append, ← HPB.out]
        exact h
      have hb9 : Hid (Kept (fun b => V.ownBlock = some b) w w9) := Lib.hid ((HB.out.alloc _).trans HW9.out.kept (fun b hb => HF.out b hb))
      have hf9 : Hid (∀ b, (Value.slice A9 (m + (i + 1)) c9).ownBlock = some b → V.ownBlock = some b ∨ w.heap.size ≤ b) := Lib.hid (went_or (p := fun b => V.ownBlock = some b ∨ w.heap.size ≤ b) HF.out (.inr (by simp; have := HB.out.size; omega)) HW9.out)
      exact ⟨⟨i + 1, A9, c9, by omega, rfl, rfl, ho9, hb9, hf9⟩, by simp [intOf]; omega⟩
    · have hin : n = i := by omega
      subst hin
      go_wp2_with fail
      go_ret
      exact ⟨_, rfl, (by have := HO.out; unfold OB; rw [List.length_append, le_len, HM.out]; exact this), HB.out, HF.out⟩
theorem rput_any (w0 w : World) (v : Value) (zs : List Int) (x : Int) (n : Nat) (hx0 : -9223372036854775808 ≤ x) (hx1 : x ≤ 9223372036854775807) (hn : n ≤ 8) (hl : zs.length ≤ 140737488354000) (hb : Below w0.heap.size w0 w) (hf : Fresh w0 v) (h : OB w v zs) :
    Calls Try.prog 33 #[v, .int .i64 x, .int .i64 n] w fun e w' => GB w0 (zs ++ le n x) e w' :=
  (rput_k w v zs x n hx0 hx1 hn hl h).mono (fun e w' h => h.gb hb hf)
end Go.Proofs.Ytfpkdbogapmhmaa.O

/- The arena: Clone, Read. -/
import Derived.Test.YtbhpikagjcojbaaAr2
import Derived.Laws.Tables
import Derived.Laws.Cover3
import Derived.Deep.WholeRow
namespace Go.Proofs.Ytbhpikagjcojbaa.Ar
open Go.RowKit Go.Proofs.Ytbhpikagjcojbaa.Mem
section
variable {P : Program} {ops : Array Oper} {rest : List Oper} {o : Oper} {a : Act} {w : World} {Q : Exit → Act → World → Prop}
/-- A whole array, loaded from any place of a row. -/
theorem run_load_part (g off : Nat) (ty : TypeId) (cs : List Value) (d : TypeDesc) (hc : ∀ j v, cs[j]? = some v → w.cell? ⟨g, off + j, none⟩ = some v)
    (hu : P.underlying ty = some d) (hd : (match d with | .struct _ | .array _ _ => true | _ => false) = true) (hi : (P.info? ty).map (·.size) = some cs.length) :
    (loadVar ty ⟨g, off, none⟩).run P w = .ok (.agg cs.toArray) w := by
  have hl : (loadCells ⟨g, off, none⟩ cs.length).run P w = .ok cs.toArray w :=
    run_loadCells_list (P := P) w ⟨g, off, none⟩ cs (fun j v hv => by
      have hadd : (⟨g, off, none⟩ : Addr).add j = ⟨g, off + j, none⟩ := by unfold Addr.add; split <;> simp_all
      rw [hadd]
      exact hc j v hv)
  cases hq : P.info? ty with
  | none => simp [hq] at hi
  | some i =>
    have hs : i.size = cs.length := by simpa [hq] using hi
    have hagg : (isAgg ty).run P w = .ok true w := by
      cases d <;> simp_all [isAgg, run_underlying hu]
    simp [loadVar, hagg, sizeOf, typeInfo, hq, hs, hl]
theorem list_load_part (hgd : o.guard = none) (ty : TypeId) (x : Operand) (ho : o.op = .load ty x) (g off : Nat) (hx : a.eval x = .pointer (some ⟨g, off, none⟩)) (cs : List Value) (d : TypeDesc) (hc : ∀ j v, cs[j]? = some v → w.cell? ⟨g, off + j, none⟩ = some v)
    (hu : P.underlying ty = some d) (hd : (match d with | .struct _ | .array _ _ => true | _ => false) = true) (hi : (P.info? ty).map (·.size) = some cs.length)
    (h : wpList P ops Q rest (a.put o.dst (.agg cs.toArray)) w) : wpList P ops Q (o :: rest) a w := by
  refine wpList_plain hgd fun K hK => ?_
  have hr := run_load_part (P := P) (w := w) g off ty cs d hc hu hd hi
  unfold Oper.wp execOp
  simp only [ho, hx, Instr.loadAt, Instr.sureAddr, Sem.run_bind, Sem.run_pure, Result.andThen_ok, hr]
  exact hK _ _ h
end
theorem Holds.below' {w w' : World} {sp : Option Addr} {news : List Value} (h : Holds w sp news) (hb : Below w.heap.size w w') : Holds w' sp news := by
  intro hp
  obtain ⟨ad, e, h1⟩ := h hp
  exact ⟨ad, e, fun j u hu => (hb.cell (World.block_lt_of_cell? w _ (h1 j u hu))).trans (h1 j u hu)⟩
theorem slice59 (b off k : Nat) (hk : off + k ≤ 64) (w : World) : (Instr.sliceAt 59 (.pointer (some ⟨b, 0, none⟩)) (some (.int .i64 (off : Int))) (some (.int .i64 ((off : Int) + (k : Int)))) none).run Try.prog w = .ok (.slice (some (if 64 = off then ⟨b, 0, none⟩ else ⟨b, off, none⟩)) k (64 - off)) w := by
  have hL : Try.prog.arrayLen 59 = 64 := by kernel_rfl
  have hE : Try.prog.elem 59 = 5 := by kernel_rfl
  obtain ⟨i, hi, _, hsize, _⟩ := info_parts info5
  have := run_sliceAt_array_lh (P := Try.prog) w 59 ⟨b, 0, none⟩ (by rw [hL, hE]; exact Try.underlying59) .i64 .i64 off ((off : Int) + k) (by omega) (by omega) (by rw [hL]; omega)
  rw [this, hE]
  have e1 : ((off : Int) + (k : Int)).toNat = off + k := by omega
  simp [sizeOf, typeInfo, hi, hsize, slicedAt, hL, e1, Addr.add]
  split
  · rfl
  · split <;> simp_all
set_option maxHeartbeats 4000000 in
theorem clone_any (w : World) (ad : Addr) (n c : Nat) (zs : List Int) (hn : zs.length = n) (hb : n ≤ 140000000000000) (hs : Holds w (some ad) (zs.map byteC)) :
    Calls Try.prog 25 #[.slice (some ad) n c] w fun e w' => ∃ A c', e = .returned (.slice A n c') ∧ w'.ownsRow 0 5 1 (.slice A n c') n (zs.map byteC) ∧ Below w.heap.size w w' ∧ Fresh w (.slice A n c') := by
  have hnil : ∀ w, (binOp .eql 36 (.slice (some ad) n c) (.slice none 0 0)).run Try.prog w = .ok (.bool false) w := fun w => by
    rw [show binOp .eql 36 (.slice (some ad) n c) (.slice none 0 0) = (do return .bool (← Op.equal 36 (.slice (some ad) n c) (.slice none 0 0))) from rfl]
    simp [run_equal_slice_nil w 36 5 (some ad) n c Try.underlying36]
  have HS := Lib.hid hs
  have HN := Lib.hid hn
  clear hs hn
  go_enter Try.func25, Try.ntmps25
  go_wp2_with (at_builtin; refine list_app2 rfl (.tmp 5) (.tmp 6) 36 rfl 5 0 _ 1 1 Try.underlying36 info5 rfl (by decide) (by decide) (.slice (some ⟨w.heap.size, 0, none⟩) 0 0) 0 [] rfl (World.ownsRow_made w #[] 0 (Nat.zero_le _) (Nat.zero_le _) rfl) (some ad) n c (zs.map byteC) rfl (by rw [List.length_map, HN.out, Nat.mul_one]) ?_ (fun u hu => by obtain ⟨_, _, rfl⟩ := List.mem_map.1 hu; rfl) (by omega) (Nat.zero_le _) ?_)
  · exact Holds.below' HS.out ((Below.refl _ w).alloc (Nat.le_refl _) _)
  · intro v9 w9 hown9 hwent9
    obtain ⟨A9, c9, rfl, _⟩ := own_slice hown9
    go_wp2
    go_ret
    have hb9 : Below w.heap.size w w9 := ((Below.refl _ w).alloc (Nat.le_refl _) (.cells #[] 5)).trans (hwent9.kept.below (B := w.heap.size) (fun k hk => Nat.le_of_eq (by simpa [Value.ownBlock] using hk)) (by simp))
    refine ⟨A9, c9, by simp, by simpa using hown9, hb9, fun k hk => ?_⟩
    rcases hwent9.block with h | h
    · have := h.symm.trans (by simpa using hk)
      simp [Value.ownBlock] at this
      omega
    · have := Option.some.inj (h.symm.trans (by simpa using hk))
      simp at this
      omega
set_option maxHeartbeats 4000000 in
set_option maxRecDepth 100000 in
theorem read_in (w : World) (p a t n : Nat) (on : List Bool) (bs : List Int) (i off k : Nat) (h : At w p a t n on bs) (hi : i < n) (hp : placeE on i off k = 0) (hk : off + k ≤ 64) :
    Calls Try.prog 16 #[.pointer (some ⟨p, 0, none⟩), .int .i64 i, .int .i64 off, .int .i64 k] w fun e w' => ∃ A c', e = .returned (.tuple #[.slice A k c', .int .i64 0]) ∧ w'.ownsRow 0 5 1 (.slice A k c') k ((((bs.drop (i * 64 + off)).take k)).map byteC) ∧ Below w.heap.size w w' ∧ Fresh w (.slice A k c') := by
  obtain ⟨c0, c1, _, hby, hpl, hal, _⟩ := h.cells
  have HP := Lib.hid (place_any w p a t n on bs i off k h)
  rw [hp] at HP
  have hsz := h.size
  have hfew := h.few
  have HC : Hid (∀ j v, (((bs.drop (i * 64)).take 64).map byteC)[j]? = some v → w.cell? ⟨a, i * 64 + j, none⟩ = some v) := by
    intro j v hv
    rw [List.getElem?_map, Option.map_eq_some_iff] at hv
    obtain ⟨b, hb, rfl⟩ := hv
    rw [List.getElem?_take] at hb
    split at hb
    · rw [List.getElem?_drop] at hb
      exact hby _ b hb
    · cases hb
  have HL : Hid ((((bs.drop (i * 64)).take 64).map byteC).length = 64) := by
    show _ = _
    rw [List.length_map, List.length_take, List.length_drop, hsz]
    omega
  have HH := Lib.hid h
  have HT : Hid ((((bs.drop (i * 64)).take 64).map byteC).drop off |>.take k |>.map id |> fun l => l = (((bs.drop (i * 64 + off)).take k)).map byteC) := by
    show _ = _
    rw [List.map_id, ← List.map_drop, ← List.map_take, List.drop_take, List.drop_drop, List.take_take, Nat.min_eq_left (by omega)]
  have H1 : Hid (∀ u ∈ ((bs.drop (i * 64)).take 64).map byteC, u.oneCell' = true) := by
    intro u hu
    obtain ⟨_, _, rfl⟩ := List.mem_map.1 hu
    rfl
  obtain ⟨C, hC⟩ : ∃ C, ((bs.drop (i * 64)).take 64).map byteC = C := ⟨_, rfl⟩
  obtain ⟨Y, hY⟩ : ∃ Y, (bs.drop (i * 64 + off)).take k = Y := ⟨_, rfl⟩
  rw [hC] at HC HL HT H1
  rw [hY] at HT ⊢
  have HYL : Hid (Y.length = k) := by
    show _ = _
    rw [← hY, List.length_take, List.length_drop, hsz]
    omega
  have hst : (storeCells ⟨w.heap.size, 0, none⟩ C 0).run Try.prog (w.alloc (.cells #[Value.int IntKind.u8 0, Value.int IntKind.u8 0, Value.int IntKind.u8 0, Value.int IntKind.u8 0, Value.int IntKind.u8 0, Value.int IntKind.u8 0, Value.int IntKind.u8 0, Value.int IntKind.u8 0, Value.int IntKind.u8 0, Value.int IntKind.u8 0, Value.int IntKind.u8 0, Value.int IntKind.u8 0, Value.int IntKind.u8 0, Value.int IntKind.u8 0, Value.int IntKind.u8 0, Value.int IntKind.u8 0, Value.int IntKind.u8 0, Value.int IntKind.u8 0, Value.int IntKind.u8 0, Value.int IntKind.u8 0, Value.int IntKind.u8 0, Value.int IntKind.u8 0, Value.int IntKind.u8 0, Value.int IntKind.u8 0, Value.int IntKind.u8 0, Value.int IntKind.u8 0, Value.int IntKind.u8 0, Value.int IntKind.u8 0, Value.int IntKind.u8 0, Value.int IntKind.u8 0, Value.int IntKind.u8 0, Value.int IntKind.u8 0, Value.int IntKind.u8 0, Value.int IntKind.u8 0, Value.int IntKind.u8 0, Value.int IntKind.u8 0, Value.int IntKind.u8 0, Value.int IntKind.u8 0, Value.int IntKind.u8 0, Value.int IntKind.u8 0, Value.int IntKind.u8 0, Value.int IntKind.u8 0, Value.int IntKind.u8 0, Value.int IntKind.u8 0, Value.int IntKind.u8 0, Value.int IntKind.u8 0, Value.int IntKind.u8 0, Value.int IntKind.u8 0, Value.int IntKind.u8 0, Value.int IntKind.u8 0, Value.int IntKind.u8 0, Value.int IntKind.u8 0, Value.int IntKind.u8 0, Value.int IntKind.u8 0, Value.int IntKind.u8 0, Value.int IntKind.u8 0, Value.int IntKind.u8 0, Value.int IntKind.u8 0, Value.int IntKind.u8 0, Value.int IntKind.u8 0, Value.int IntKind.u8 0, Value.int IntKind.u8 0, Value.int IntKind.u8 0, Value.int IntKind.u8 0] 59)) = .ok () (w.alloc (.cells C.toArray 59)) := by
    have := run_storeCells_new (P := Try.prog) w 59 #[Value.int IntKind.u8 0, Value.int IntKind.u8 0, Value.int IntKind.u8 0, Value.int IntKind.u8 0, Value.int IntKind.u8 0, Value.int IntKind.u8 0, Value.int IntKind.u8 0, Value.int IntKind.u8 0, Value.int IntKind.u8 0, Value.int IntKind.u8 0, Value.int IntKind.u8 0, Value.int IntKind.u8 0, Value.int IntKind.u8 0, Value.int IntKind.u8 0, Value.int IntKind.u8 0, Value.int IntKind.u8 0, Value.int IntKind.u8 0, Value.int IntKind.u8 0, Value.int IntKind.u8 0, Value.int IntKind.u8 0, Value.int IntKind.u8 0, Value.int IntKind.u8 0, Value.int IntKind.u8 0, Value.int IntKind.u8 0, Value.int IntKind.u8 0, Value.int IntKind.u8 0, Value.int IntKind.u8 0, Value.int IntKind.u8 0, Value.int IntKind.u8 0, Value.int IntKind.u8 0, Value.int IntKind.u8 0, Value.int IntKind.u8 0, Value.int IntKind.u8 0, Value.int IntKind.u8 0, Value.int IntKind.u8 0, Value.int IntKind.u8 0, Value.int IntKind.u8 0, Value.int IntKind.u8 0, Value.int IntKind.u8 0, Value.int IntKind.u8 0, Value.int IntKind.u8 0, Value.int IntKind.u8 0, Value.int IntKind.u8 0, Value.int IntKind.u8 0, Value.int IntKind.u8 0, Value.int IntKind.u8 0, Value.int IntKind.u8 0, Value.int IntKind.u8 0, Value.int IntKind.u8 0, Value.int IntKind.u8 0, Value.int IntKind.u8 0, Value.int IntKind.u8 0, Value.int IntKind.u8 0, Value.int IntKind.u8 0, Value.int IntKind.u8 0, Value.int IntKind.u8 0, Value.int IntKind.u8 0, Value.int IntKind.u8 0, Value.int IntKind.u8 0, Value.int IntKind.u8 0, Value.int IntKind.u8 0, Value.int IntKind.u8 0, Value.int IntKind.u8 0, Value.int IntKind.u8 0] C.toArray (by rw [List.size_toArray, HL.out]; kernel_rfl) (Eq.trans (rfl : _ = 64) (by rw [List.size_toArray, HL.out])) (by rw [Array.all_eq_true_iff_forall_mem]; intro u hu; exact H1.out u (by simpa using hu))
    simpa using this
  have hCl : C.length = 64 := HL.out
  have hsl := slice59 w.heap.size off k hk
  have HO : Hid (Holds (w.alloc (.cells C.toArray 59)) (some (if 64 = off then ⟨w.heap.size, 0, none⟩ else ⟨w.heap.size, off, none⟩)) (Y.map byteC)) := by
    intro hp0
    rw [List.length_map, HYL.out] at hp0
    rw [if_neg (by omega)]
    refine ⟨_, rfl, fun j u hu => ?_⟩
    have e2 : (⟨w.heap.size, off, none⟩ : Addr).add j = ⟨w.heap.size, off + j, none⟩ := by unfold Addr.add; split <;> simp_all
    rw [e2]
    refine cell_row (heap_alloc_new w _) ?_
    have hT := HT.out
    rw [List.map_id] at hT
    rw [← hT, List.getElem?_take] at hu
    split at hu
    · rw [List.getElem?_drop] at hu
      simpa using hu
    · cases hu
  obtain ⟨ad, had⟩ : ∃ ad : Addr, (if 64 = off then ⟨w.heap.size, 0, none⟩ else ⟨w.heap.size, off, none⟩) = ad := ⟨_, rfl⟩
  rw [had] at HO hsl
  clear had
  clear h hp hby hsz hC hY
  have hLE : off + k ≤ 64 := hk
  go_enter Try.func16, Try.ntmps16
  go_wp2_with (first | (go_at_call 24; (with_reducible refine HP.out.mono ?_); rintro e w1 ⟨rfl, rfl⟩) | (refine list_load_part rfl 59 (.tmp 25) rfl a (i * 64) rfl C _ HC.out Try.underlying59 rfl (by rw [HL.out]; kernel_rfl) ?_))
  (with_reducible refine (clone_any _ ad k _ Y HYL.out (by omega) HO.out).mono ?_)
  rintro e w9 ⟨A9, c9, rfl, own9, b9, f9⟩
  have O9 := Lib.hid own9
  have B9 : Hid (Below w.heap.size w w9) := ((Below.refl _ w).alloc (Nat.le_refl _) (.cells C.toArray 59)).trans (b9.mono (by simp))
  have F9 : Hid (Fresh w (.slice A9 k c9)) := fun q hq => by have := f9 q hq; simp at this; omega
  clear own9 b9 f9
  go_wp2
  go_ret2
  exact ⟨A9, c9, rfl, O9.out, B9.out, F9.out⟩
end Go.Proofs.Ytbhpikagjcojbaa.Ar

/- The program's record of processes: find, put, drop and its calls. Own text; Ytpkgiemigbjfeaa and the numbers between @..@ are the seat's. -/
import Derived.Test.YtpkgiemigbjfeaaPrB
namespace Go.Proofs.Ytpkgiemigbjfeaa.Kin
open Go.RowKit Go.Proofs.Ytpkgiemigbjfeaa.Mem
set_option linter.unusedVariables false
/-- Two numbers and a list at p; all of it lies in F. -/
structure Pg (T : TypeId) (w : World) (p most : Nat) (next : Int) (l : List Int) (F : Nat → Prop) : Prop where
  box : ∃ A c, w.heap[p]? = some (.cells #[.int .i64 most, .int .i64 next, .slice A l.length c] T) ∧ w.ownsRow 0 3 1 (.slice A l.length c) l.length (l.map i64) ∧ ∀ b, (Value.slice A l.length c).ownBlock = some b → F b ∧ b ≠ p
  fp : F p
section
variable {T : TypeId} {w w1 w' : World} {p most : Nat} {next : Int} {l l' : List Int} {F G : Nat → Prop}
theorem Pg.kept {S : Nat → Prop} (h : Pg T w p most next l F) (hk : Kept S w w') (hS : ∀ b, F b → ¬ S b) : Pg T w' p most next l F := by
  obtain ⟨A, c, h1, h2, h3⟩ := h.box
  exact ⟨⟨A, c, hk.row h1 (hS p h.fp), own_kept h2 hk (fun b hb => hS b (h3 b hb).1), h3⟩, h.fp⟩
theorem Pg.below (h : Pg T w p most next l F) (hb : Below w.heap.size w w') : Pg T w' p most next l F := h.kept (S := fun _ => False) (Kept.of_below hb) (fun _ _ hf => hf)
theorem Pg.mono (h : Pg T w p most next l F) (hFG : ∀ b, F b → G b) : Pg T w p most next l G := by
  obtain ⟨A, c, h1, h2, h3⟩ := h.box
  exact ⟨⟨A, c, h1, h2, fun b hb => ⟨hFG b (h3 b hb).1, (h3 b hb).2⟩⟩, hFG p h.fp⟩
theorem Pg.tight (h : Pg T w p most next l F) : Pg T w p most next l (fun b => F b ∧ b < w.heap.size) := by
  obtain ⟨A, c, h1, h2, h3⟩ := h.box
  exact ⟨⟨A, c, h1, h2, fun b hb => ⟨⟨(h3 b hb).1, own_lt h2 b hb⟩, (h3 b hb).2⟩⟩, h.fp, lt_of_row h1⟩
/-- The list has changed, and is laid into the record. -/
theorem Pg.put (h : Pg T w p most next l F) {v : Value} (hv : ∃ A c, v = .slice A l.length c ∧ w.heap[p]? = some (.cells #[.int .i64 most, .int .i64 next, v] T) ∧ ∀ b, v.ownBlock = some b → F b ∧ b ≠ p) (hk : Kept (fun b => v.ownBlock = some b) w w1) {A' : Option Addr} {c' : Nat} (hown : w1.ownsRow 0 3 1 (.slice A' l'.length c') l'.length (l'.map i64)) (hb : ∀ b, (Value.slice A' l'.length c').ownBlock = some b → v.ownBlock = some b ∨ w.heap.size ≤ b) :
    Pg T (w1.setCell ⟨p, 2, none⟩ (.slice A' l'.length c')) p most next l' (fun b => F b ∨ w.heap.size ≤ b) ∧ Kept F w (w1.setCell ⟨p, 2, none⟩ (.slice A' l'.length c')) := by
  obtain ⟨A, c, rfl, h1, h3⟩ := hv
  have hlt := lt_of_row h1
  have r1 := hk.row h1 (fun e => (h3 p e).2 rfl)
  have r2 := heap_setCell_same w1 p 2 _ _ (.slice A' l'.length c') r1
  have hbp : ∀ b, (Value.slice A' l'.length c').ownBlock = some b → b ≠ p := fun b e => by
    rcases hb b e with e1 | e1
    · exact (h3 b e1).2
    · omega
  refine ⟨⟨⟨A', c', r2, own_kept hown ((Kept.refl (fun b => b = p) w1).setCell (p := ⟨p, 2, none⟩) (.inl rfl) _) (fun b e e2 => hbp b e e2), fun b e => ⟨?_, hbp b e⟩⟩, .inl h.fp⟩, (hk.mono (fun b e => (h3 b e).1)).setCell (p := ⟨p, 2, none⟩) (.inl h.fp) _⟩
  rcases hb b e with e1 | e1
  · exact .inl (h3 b e1).1
  · exact .inr e1
theorem Pg.nexted (h : Pg T w p most next l F) (z : Int) : Pg T (w.setCell ⟨p, 1, none⟩ (.int .i64 z)) p most z l F ∧ Kept F w (w.setCell ⟨p, 1, none⟩ (.int .i64 z)) := by
  obtain ⟨A, c, h1, h2, h3⟩ := h.box
  have r2 := heap_setCell_same w p 1 _ _ (.int .i64 z) h1
  exact ⟨⟨⟨A, c, r2, own_kept h2 ((Kept.refl (fun b => b = p) w).setCell (p := ⟨p, 1, none⟩) (.inl rfl) _) (fun b e e2 => (h3 b e).2 e2), h3⟩, h.fp⟩, (Kept.refl F w).setCell (p := ⟨p, 1, none⟩) (.inl h.fp) _⟩
end
theorem find_any (w : World) (p o n c : Nat) (A : Option Addr) (l : List Int) (x : Int) (hc : w.cell? ⟨p, o, none⟩ = some (.slice A n c)) (hown : w.ownsRow 0 3 1 (.slice A n c) n (l.map i64)) (hs : Srt l) (hb : n ≤ 100000) : Calls Try.prog 25 #[.pointer (some ⟨p, o, none⟩), .int .i64 x] w fun e w' => e = .returned (.tuple #[.int .i64 (pos l x), .bool (isB l x)]) ∧ w = w' := by
  have HX := Lib.hid (bsearch_any w _ n l x hown hs hb)
  obtain ⟨P, hP⟩ : ∃ P, pos l x = P := ⟨_, rfl⟩
  obtain ⟨B, hB⟩ : ∃ B, isB l x = B := ⟨_, rfl⟩
  rw [hP, hB] at HX ⊢
  clear hown hs hP hB
  go_enter Try.func25, Try.ntmps25
  go_wp2_with fail
  (with_reducible refine HX.out.mono ?_)
  rintro e w1 ⟨rfl, rfl⟩
  go_wp2
  go_ret2
  exact ⟨rfl, rfl⟩
section
variable (T : TypeId) (w : World) (p most : Nat) (next : Int) (l : List Int) (F : Nat → Prop) (h : Pg T w p most next l F)
include h
set_option maxHeartbeats 1000000 in
theorem put_any (x : Int) (hs : Srt l) (hx : ∀ y ∈ l, y < x) (hb : l.length ≤ 1000) : Calls Try.prog 22 #[.pointer (some ⟨p, 2, none⟩), .int .i64 x] w fun e w' => e = .returned (.tuple #[]) ∧ Kept F w w' ∧ Pg T w' p most next (l ++ [x]) (fun b => F b ∨ w.heap.size ≤ b) := by
  obtain ⟨A, c, h1, h2, h3⟩ := h.box
  have y2 : w.cell? ⟨p, 2, none⟩ = some (.slice A l.length c) := cell_row h1 rfl
  have HF := Lib.hid (find_any w p 2 _ c A l x y2 h2 hs (by omega))
  rw [pos_all hx, show isB l x = false by simp [isB]; intro e; have := hx x e; omega] at HF
  have HB : Below w.heap.size w (w.alloc (.cells #[.int .i64 x] 3)) := (Below.refl _ w).alloc (Nat.le_refl _) _
  have HI := Lib.hid (insert_any (w.alloc (.cells #[.int .i64 x] 3)) _ _ l x w.heap.size 1 (own_keeps h2 (Kept.of_below HB)) (by omega) (holds_new w #[.int .i64 x] 3 (0, 0) _ rfl))
  have H1 := Lib.hid h1
  have H3 := Lib.hid h3
  have HG := Lib.hid h
  obtain ⟨N, hN⟩ : ∃ N, l.length = N := ⟨_, rfl⟩
  have HN := Lib.hid hN
  rw [hN] at y2 HF HI hb H1 H3
  clear h h1 h2 h3 hs hx hN HB
  go_enter Try.func22, Try.ntmps22
  go_wp2_with fail
  (with_reducible refine HF.out.mono ?_)
  rintro e w1 ⟨rfl, rfl⟩
  go_wp2_with fail
  (with_reducible refine HI.out.mono ?_)
  rintro e w2 ⟨A2, c2, rfl, o2, k2, b2⟩
  have K2 : Hid (Kept (fun b => (Value.slice A N c).ownBlock = some b) w w2) := ((Kept.refl _ w).alloc _).trans k2 (fun b hb => .inl hb)
  have hr2 : w2.heap[p]? = some (.cells #[.int .i64 most, .int .i64 next, .slice A N c] T) := K2.out.row H1.out (fun e => (H3.out p e).2 rfl)
  have y3 : w2.cell? ⟨p, 2, none⟩ = some (.slice A N c) := cell_row hr2 rfl
  have f3 : w2.frozen? ⟨p, 2, none⟩ = false := free_row hr2
  have O2 := Lib.hid o2
  have B2 : Hid (∀ b, (Value.slice A2 (N + 1) c2).ownBlock = some b → (Value.slice A N c).ownBlock = some b ∨ w.heap.size ≤ b) := fun b hb => by rcases b2 b hb with e | e; exact .inl e; exact .inr (by simp at e; omega)
  clear o2 k2 b2 hr2 HI HF
  go_wp2_with fail
  go_end0
  have hlen : (l ++ [x]).length = N + 1 := by rw [List.length_append, HN.out]; rfl
  have fin := HG.out.put (v := .slice A N c) ⟨A, c, by rw [HN.out], H1.out, H3.out⟩ K2.out (l' := l ++ [x]) (A' := A2) (c' := c2) (by rw [hlen]; exact O2.out) (by rw [hlen]; exact B2.out)
  rw [hlen] at fin
  exact ⟨rfl, fin.2, fin.1⟩
set_option maxHeartbeats 1000000 in
theorem drop_any (x : Int) (hs : Srt l) (hb : l.length ≤ 1000) : Calls Try.prog 23 #[.pointer (some ⟨p, 2, none⟩), .int .i64 x] w fun e w' => e = .returned (.bool (isB l x)) ∧ Kept F w w' ∧ Pg T w' p most next (del l x) (fun b => F b ∨ w.heap.size ≤ b) := by
  obtain ⟨A, c, h1, h2, h3⟩ := h.box
  have y2 : w.cell? ⟨p, 2, none⟩ = some (.slice A l.length c) := cell_row h1 rfl
  have HF := Lib.hid (find_any w p 2 _ c A l x y2 h2 hs (by omega))
  cases hm : isB l x with
  | false =>
    rw [hm] at HF
    rw [del_not hm]
    have same : Hid (Kept F w w ∧ Pg T w p most next l (fun b => F b ∨ w.heap.size ≤ b)) := ⟨Kept.refl _ _, h.mono (fun b hb => .inl hb)⟩
    obtain ⟨P, hP⟩ : ∃ P, pos l x = P := ⟨_, rfl⟩
    rw [hP] at HF
    clear h h1 h2 h3 hs hm hP
    go_enter Try.func23, Try.ntmps23
    go_wp2_with fail
    (with_reducible refine HF.out.mono ?_)
    rintro e w1 ⟨rfl, rfl⟩
    go_wp2_with fail
    go_ret
    exact ⟨rfl, same.out⟩
  | true =>
    have hm2 : x ∈ l := by simpa [isB] using hm
    obtain ⟨X, Y, e, hX1, hX2, hY2⟩ := hs.split hm2
    rw [hm, ← hX1] at HF
    have h2' := h2
    have HE := Lib.hid e
    have HDL : Hid (del l x = X ++ Y) := by rw [e]; exact del_split hX2 hY2
    obtain ⟨N, hN⟩ : ∃ N, l.length = N := ⟨_, rfl⟩
    have HN := Lib.hid hN
    rw [hN] at h2' y2 hb h1 h3
    rw [e] at h2'
    have HD := Lib.hid (delete_any w _ N X Y x h2' (by omega))
    obtain ⟨a, ha⟩ : ∃ a, X.length = a := ⟨_, rfl⟩
    have hla : a < N := by rw [← ha, ← hN, e]; simp
    rw [ha] at HF HD
    have H1 := Lib.hid h1
    have H3 := Lib.hid h3
    have HG := Lib.hid h
    have w1 : IntKind.i64.wrap ((a : Int) + 1) = (a : Int) + 1 := by rw [IntKind.wrap_i64]; omega
    clear h h1 h2 h2' h3 hs hm hm2 e hX1 hX2 hY2 hN ha
    go_enter Try.func23, Try.ntmps23
    go_wp2_with fail
    (with_reducible refine HF.out.mono ?_)
    rintro e w1 ⟨rfl, rfl⟩
    go_wp2_with fail
    (with_reducible refine HD.out.mono ?_)
    rintro e w2 ⟨v', rfl, o2, e2, k2⟩
    obtain ⟨A3, n3, rfl, _⟩ := own_slice o2
    have hr2 : w2.heap[p]? = some (.cells #[.int .i64 most, .int .i64 next, .slice A N c] T) := k2.row H1.out (fun e => (H3.out p e).2 rfl)
    have y3 : w2.cell? ⟨p, 2, none⟩ = some (.slice A N c) := cell_row hr2 rfl
    have f3 : w2.frozen? ⟨p, 2, none⟩ = false := free_row hr2
    have fin := Lib.hid (HG.out.put (v := .slice A N c) ⟨A, c, by rw [HN.out], H1.out, H3.out⟩ k2 (l' := X ++ Y) (A' := A3) (c' := n3) o2 (fun b hb => .inl (by rw [← e2]; exact hb)))
    obtain ⟨M, hM⟩ : ∃ M, (X ++ Y).length = M := ⟨_, rfl⟩
    rw [hM] at fin ⊢
    clear o2 k2 e2 hr2 hM HD HF
    go_wp2_with fail
    go_ret
    refine ⟨rfl, fin.out.2, ?_⟩
    rw [HDL.out]
    exact fin.out.1
end
end Go.Proofs.Ytpkgiemigbjfeaa.Kin

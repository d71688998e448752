/- The program's calls. Own text; Ytpkgiemigbjfeaa and the numbers between @..@ are the seat's. -/
import Derived.Test.YtpkgiemigbjfeaaPrC
namespace Go.Proofs.Ytpkgiemigbjfeaa.Kin
open Go.RowKit Go.Proofs.Ytpkgiemigbjfeaa.Mem
set_option linter.unusedVariables false
structure Pt (T : TypeId) (w : World) (p most : Nat) (next : Int) (l : List Int) (F : Nat → Prop) : Prop where
  g : Pg T w p most next l F
  inv : PInv most next l
section
variable {T : TypeId} {w w1 w' : World} {p most : Nat} {next : Int} {l l' : List Int} {F G : Nat → Prop}
theorem Pt.kept {S : Nat → Prop} (h : Pt T w p most next l F) (hk : Kept S w w') (hS : ∀ b, F b → ¬ S b) : Pt T w' p most next l F := ⟨h.g.kept hk hS, h.inv⟩
theorem Pt.below (h : Pt T w p most next l F) (hb : Below w.heap.size w w') : Pt T w' p most next l F := ⟨h.g.below hb, h.inv⟩
theorem Pt.mono (h : Pt T w p most next l F) (hFG : ∀ b, F b → G b) : Pt T w p most next l G := ⟨h.g.mono hFG, h.inv⟩
theorem Pt.tight (h : Pt T w p most next l F) : Pt T w p most next l (fun b => F b ∧ b < w.heap.size) := ⟨h.g.tight, h.inv⟩
end
set_option maxHeartbeats 1000000 in
theorem new_in (w : World) (m : Nat) (h1 : 1 ≤ m) (h2 : m ≤ 32) : Calls Try.prog 6 #[.int .i64 m] w fun e w' => ∃ p, e = .returned (.tuple #[.pointer (some ⟨p, 0, none⟩), .int .i64 0]) ∧ Below w.heap.size w w' ∧ Pt 54 w' p m 1 [0] (fun b => w.heap.size ≤ b) := by
  have g0 : Pg 54 (w.alloc (.cells #[.int .i64 m, .int .i64 1, .slice none 0 0] 54)) w.heap.size m 1 [] (fun b => w.heap.size ≤ b) :=
    ⟨⟨none, 0, heap_alloc_new w _, World.ownsRow_nil _ _ _ _, fun b hb => by simp [Value.ownBlock] at hb⟩, Nat.le_refl _⟩
  have HP := Lib.hid (put_any 54 _ _ _ _ _ _ g0 0 (by simp [Srt]) (fun y hy => by cases hy) (by simp))
  have HB : Hid (Below w.heap.size w (w.alloc (.cells #[.int .i64 m, .int .i64 1, .slice none 0 0] 54))) := (Below.refl _ w).alloc (Nat.le_refl _) _
  have h3 : (1 : Int) ≤ (m : Int) := by omega
  clear g0
  go_enter Try.func6, Try.ntmps6
  go_wp2_with fail
  (with_reducible refine HP.out.mono ?_)
  rintro e w1 ⟨rfl, k1, g1⟩
  have K1 := Lib.hid k1
  have G1 := Lib.hid g1
  clear k1 g1 HP
  go_wp2_with fail
  go_ret2
  exact ⟨w.heap.size, rfl, HB.out.trans (K1.out.below (fun b hb => hb) HB.out.size), G1.out.mono (fun b hb => by simp at hb; omega), pinv_new h1 h2⟩
theorem new_out (w : World) (n : Int) (hn : n < 1 ∨ 32 < n) : Calls Try.prog 6 #[.int .i64 n] w fun e w' => e = .returned (.tuple #[.pointer none, .int .i64 16]) ∧ w = w' := by
  by_cases h0 : n < 1
  · go_enter Try.func6, Try.ntmps6
    go_wp2
    go_ret2
    exact ⟨rfl, rfl⟩
  · have h1 : 32 < n := by omega
    have h2 : ¬ n < 1 := h0
    clear hn h0
    go_enter Try.func6, Try.ntmps6
    go_wp2
    go_ret2
    exact ⟨rfl, rfl⟩
theorem below_drewN (w : World) (k : Nat) : Below w.heap.size w (w.drewN k) := ⟨rfl, rfl, rfl, Nat.le_refl _, fun _ _ => rfl⟩
section
variable (w : World) (p most : Nat) (next : Int) (l : List Int) (F : Nat → Prop) (h : Pt 54 w p most next l F)
include h
set_option maxHeartbeats 1000000 in
theorem spawn_any : Calls Try.prog 10 #[.pointer (some ⟨p, 0, none⟩)] w fun e w' => e = .returned (.tuple #[.int .i64 (spN most next l), .int .i64 (spE most next l)]) ∧ Kept F w w' ∧ Pt 54 w' p most (spX most next l) (spL most next l) (fun b => F b ∨ w.heap.size ≤ b) := by
  obtain ⟨A, c, h1, h2, h3⟩ := h.g.box
  have y0 : w.cell? ⟨p, 0, none⟩ = some (.int .i64 most) := cell_row h1 rfl
  have y1 : w.cell? ⟨p, 1, none⟩ = some (.int .i64 next) := cell_row h1 rfl
  have y2 : w.cell? ⟨p, 2, none⟩ = some (.slice A l.length c) := cell_row h1 rfl
  have HI := Lib.hid (h.inv.spawn)
  have hm := h.inv.m2
  have hl := h.inv.len
  have hn0 := h.inv.n0
  have hn1 := h.inv.n1
  have S3 : Hid (∀ k, Kept F w (w.drewN k) ∧ Pg 54 (w.drewN k) p most next l F) := fun k => ⟨Kept.of_below (below_drewN w k), h.g.below (below_drewN w k)⟩
  have HP : Hid (∀ k, Calls Try.prog 22 #[.pointer (some ⟨p, 2, none⟩), .int .i64 next] (w.drewN k) fun e w' => e = .returned (.tuple #[]) ∧ Kept F (w.drewN k) w' ∧ Pg 54 w' p most next (l ++ [next]) (fun b => F b ∨ (w.drewN k).heap.size ≤ b)) := fun k => put_any 54 _ _ _ _ _ _ (S3.out k).2 next h.inv.srt (fun y hy => (h.inv.lo y hy).2) (by omega)
  unfold spN spE spX spL at *
  by_cases hf : fullB most next l = true
  · simp only [if_pos hf] at HI ⊢
    have hf' : most ≤ l.length ∨ 65535 < next := by simpa [fullB] using hf
    obtain ⟨N, hN⟩ : ∃ N, l.length = N := ⟨_, rfl⟩
    rw [hN] at y2 hl hf'
    clear h h1 h2 h3 hf hN HP
    by_cases hml : most ≤ N
    · have hml' : (most : Int) ≤ (N : Int) := by omega
      have hmlb : decide ((N : Int) ≥ (most : Int)) = true := by simpa using hml
      go_enter Try.func10, Try.ntmps10
      go_wp2_with fail
      go_quiet (fail)
      go_wp2
      go_ret2
      exact ⟨rfl, (S3.out _).1, (S3.out _).2.mono (fun b hb => .inl hb), HI.out⟩
    · have hml' : ¬ (most : Int) ≤ (N : Int) := by omega
      have hmlb : decide ((N : Int) ≥ (most : Int)) = false := by simpa using hml
      have hnx : 65535 < next := by omega
      have hnxb : decide (next > 65535) = true := by simpa using hnx
      go_enter Try.func10, Try.ntmps10
      go_wp2_with fail
      go_quiet (fail)
      go_wp2
      go_ret2
      exact ⟨rfl, (S3.out _).1, (S3.out _).2.mono (fun b hb => .inl hb), HI.out⟩
  · simp only [if_neg hf] at HI ⊢
    have hf' : ¬ (most ≤ l.length ∨ 65535 < next) := by simpa [fullB] using hf
    obtain ⟨N, hN⟩ : ∃ N, l.length = N := ⟨_, rfl⟩
    rw [hN] at y2 hl hf'
    have hml : ¬ most ≤ N := fun e => hf' (.inl e)
    have hml' : ¬ (most : Int) ≤ (N : Int) := by omega
    have hmlb : decide ((N : Int) ≥ (most : Int)) = false := by simpa using hml
    have hnx : ¬ 65535 < next := fun e => hf' (.inr e)
    have hnxb : decide (next > 65535) = false := by simpa using hnx
    clear h h1 h2 h3 hf hN hf'
    go_enter Try.func10, Try.ntmps10
    go_wp2_with fail
    go_quiet (fail)
    go_wp2_with fail
    (with_reducible refine (HP.out _).mono ?_)
    rintro e w1 ⟨rfl, k1, g1⟩
    obtain ⟨A1, c1, r1, _, _⟩ := g1.box
    have z1 : w1.cell? ⟨p, 1, none⟩ = some (.int .i64 next) := cell_row r1 rfl
    have f1 : w1.frozen? ⟨p, 1, none⟩ = false := free_row r1
    have fin := Lib.hid (g1.nexted (next + 1))
    have K1 := Lib.hid k1
    clear k1 g1 r1 HP
    go_wp2_with fail
    go_ret2
    exact ⟨rfl, ((S3.out _).1.trans K1.out (fun b hb => .inl hb)).trans fin.out.2 (fun b hb => hb.imp id id), fin.out.1, HI.out⟩
end
end Go.Proofs.Ytpkgiemigbjfeaa.Kin

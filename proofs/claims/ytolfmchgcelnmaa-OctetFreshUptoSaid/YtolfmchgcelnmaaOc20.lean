/- OctetBack: words for the walk. -/
import Derived.Test.YtolfmchgcelnmaaOc19
import Derived.Laws.Small
namespace Go.Proofs.Ytolfmchgcelnmaa.O
open Go.RowKit Go.Proofs.Ytolfmchgcelnmaa.Mem
theorem app_any {W w9 : World} {v9 : Value} {n g size : Nat} {e : TypeId} {xs : List Value} (hg : g = W.heap.size) (hown : w9.ownsRow 0 e size v9 (0 + n) ([] ++ xs)) (hwent : Went (W.alloc (.cells #[] e)) w9 (.slice (some ⟨g, 0, none⟩) 0 0) v9 0 n) : ∃ B d, v9 = .slice B n d ∧ w9.ownsRow 0 e size (.slice B n d) n xs ∧ Fresh W (.slice B n d) ∧ Below W.heap.size W w9 := by
  subst hg
  have hf := fresh_went (w := W) (fun b hb => Nat.le_of_eq (by simpa [Value.ownBlock] using hb)) (by simp) hwent
  rw [Nat.zero_add, List.nil_append] at hown
  obtain ⟨B, d, rfl, _⟩ := own_slice hown
  exact ⟨B, d, rfl, hown, hf, ((Below.refl _ W).alloc (Nat.le_refl _) (.cells #[] e)).trans (hwent.kept.below (B := W.heap.size) (fun k hk => Nat.le_of_eq (by simpa [Value.ownBlock] using hk)) (by simp))⟩
theorem step_app2 {P : Program} {ops : Array Oper} {o : Oper} {a : Act} {K : Act → World → Prop} {Q : Exit → Act → World → Prop} {E : Prop} {w : World} (hgd : o.guard = none) (s x : Operand) (t : TypeId) (ho : o.op = .call { callee := .builtin .append, args := #[s, x], argTypes := #[t, t] })
    (e : TypeId) (base : Nat) (z : Value) (size bytes : Nat) (ht : P.underlying t = some (.slice e)) (hinfo : (P.info? e).map (fun i => (i.zero, i.size, i.bytes)) = some (some z, size, bytes))
    (hzs : z.cells.size = size) (hsz : 0 < size) (hbp : 0 < bytes) (v : Value) (n : Nat) (xs : List Value) (hs : a.eval s = v) (hown : w.ownsRow base e size v n xs)
    (sp : Option Addr) (m c : Nat) (news : List Value) (hx : a.eval x = .slice sp m c) (hl : news.length = m * size) (hsrc : Holds w sp news) (h1 : ∀ u ∈ news, u.oneCell' = true)
    (hbytes : (n + m) * bytes ≤ 140737488355328) (hbase : base ≤ w.heap.size)
    (h : ∀ v' w', w'.ownsRow base e size v' (n + m) (xs ++ news) → Went w w' v v' n m → K (a.put o.dst v') w') :
    if Region.wanted o (yielded ops a.tmps) = true then Oper.wp P o a w K Q else E := by
  have hw : Region.wanted o (yielded ops a.tmps) = true := by simp [Region.wanted, hgd]
  rw [if_pos hw]
  obtain ⟨i, hi, hz, hsize, hby⟩ := info_parts hinfo
  obtain ⟨v', w', hr, h2, h3⟩ := run_app2 (P := P) t o.type e base i z size bytes ht hi hz hsize hby hzs hsz hown hl hsrc h1 hbytes hbp hbase (c := c)
  unfold Oper.wp execOp
  simp only [ho, resolve, invoke, builtin, Sem.run_bind, Sem.run_pure, Result.andThen_ok, List.map_toArray, List.map_cons, List.map_nil, hs, hx]
  rw [hr]
  exact h v' w' h2 h3
def ReadsIt (w : World) (v : Value) (l : List It) : Prop :=
  ∃ A c, v = .slice A l.length c ∧ l.length ≤ c ∧ c ≤ maxLen ∧ (0 < l.length → ∃ g o, A = some ⟨g, o, none⟩ ∧ ∀ j u, (itC l)[j]? = some u → w.cell? ⟨g, o + j, none⟩ = some u)
theorem its_holds {w w' : World} {A : Option Addr} {l : List It} (h : 0 < l.length → ∃ g o, A = some ⟨g, o, none⟩ ∧ ∀ j u, (itC l)[j]? = some u → w.cell? ⟨g, o + j, none⟩ = some u) (hb : Below w.heap.size w w') : Holds w' A (itC l) := fun hp => by
  rw [itC_len] at hp
  obtain ⟨g, o, rfl, h4⟩ := h (by omega)
  refine ⟨_, rfl, fun j u hu => ?_⟩
  have h5 := h4 j u hu
  have h6 := (hb.cell (World.block_lt_of_cell? w _ h5)).trans h5
  unfold Addr.add
  split
  · rename_i h0; subst h0; exact h6
  · exact h6
theorem row6_of {w : World} {v : Value} {l : List It} (h : w.ownsRow 0 73 6 v (l.length + 1) (itC l ++ itL it0)) : ∃ g c, v = .slice (some ⟨g, 0, none⟩) (l.length + 1) c ∧ l.length + 1 ≤ c ∧ c ≤ 9223372036854775807 ∧ Row6 w g (l.length + 1) (fun i => (l ++ [it0]).getD i it0) := by
  have e : itC l ++ itL it0 = itC (l ++ [it0]) := by simp [itC]
  rw [e] at h
  obtain ⟨A, c0, rfl, _⟩ := own_slice h
  obtain ⟨g, c', cur, e', q1, q2, q3, q4, q5, hcell⟩ := own_form h (by omega)
  obtain ⟨rfl, rfl⟩ : A = some ⟨g, 0, none⟩ ∧ c0 = c' := by simpa using e'
  have hc := h.2
  rcases hc with ⟨h1, _⟩ | ⟨g', c', cu, h1, _, _, hc', hm, _⟩
  · simp at h1
  · obtain ⟨_, rfl⟩ : g = g' ∧ c0 = c' := by simpa using h1
    unfold maxLen at hm
    refine ⟨g, c0, rfl, hc', by omega, cur, q1, fun i hi j u hu => ?_⟩
    have hj : j < 6 := by have := (List.getElem?_eq_some_iff.1 hu).1; simpa [itL] using this
    have := hcell (i * 6 + j) u (by rw [itC_at (l ++ [it0]) i j (by simp; omega) hj]; exact hu)
    rw [cell_of_row w g _ cur 73 (0, 0) q1] at this
    exact this

theorem row_new {w : World} {o : Obj} {g : Nat} (h : g = w.heap.size) : (w.alloc o).heap[g]? = some o := h ▸ heap_alloc_new w o
theorem row_old {w : World} {o o' : Obj} {g : Nat} (h : w.heap[g]? = some o) : (w.alloc o').heap[g]? = some o := (Below.heap_alloc w o' g (lt_of_row h)).trans h
theorem row_below {w w' : World} {o : Obj} {g : Nat} (hb : Below w.heap.size w w') (h : w.heap[g]? = some o) : w'.heap[g]? = some o := (hb.block g (lt_of_row h)).trans h
theorem row_drew {w : World} {o : Obj} {g : Nat} (h : w.heap[g]? = some o) : w.drew.heap[g]? = some o := h
theorem made_row {W : World} {g : Nat} (h : W.heap[g]? = some (.cells #[] 5)) : W.ownsRow 0 5 1 (.slice (some ⟨g, 0, none⟩) 0 0) 0 [] := ⟨rfl, .inr ⟨g, 0, #[], rfl, Nat.zero_le _, h, Nat.le_refl _, Nat.zero_le _, rfl, rfl⟩⟩
theorem holds_row {W : World} {g : Nat} (h : W.heap[g]? = some (.cells #[.int .u8 7] 5)) : Holds W (some ⟨g, 0, none⟩) [.int .u8 7] := fun _ => ⟨_, rfl, fun j u hu => by
  have : (⟨g, 0, none⟩ : Addr).add j = ⟨g, j, none⟩ := by unfold Addr.add; split <;> simp_all
  rw [this]
  refine cell_row h ?_
  simpa using hu⟩
theorem chain {A W W' : World} (h : Below A.heap.size A W) (k : Below W.heap.size W W') : Below A.heap.size A W' := h.trans (k.mono h.size)
theorem app_zero {A W w4 : World} {v9 : Value} {g n : Nat} {xs : List Value} (hA : Below A.heap.size A W) (hn : 0 < n) (hown : w4.ownsRow 0 5 1 v9 (0 + n) ([] ++ xs)) (hwent : Went W w4 (.slice (some ⟨g, 0, none⟩) 0 0) v9 0 n) : ∃ B d, v9 = .slice B n d ∧ w4.ownsRow 0 5 1 (.slice B n d) n xs ∧ (∀ b, (Value.slice B n d).ownBlock = some b → A.heap.size ≤ b) ∧ Below A.heap.size A w4 := by
  rw [Nat.zero_add, List.nil_append] at hown
  obtain ⟨B, d, rfl, hnd⟩ := own_slice hown
  rcases hwent with ⟨g', c', e1, e2, _⟩ | ⟨e1, e2⟩ | ⟨_, _, e3⟩
  · obtain ⟨_, rfl⟩ : g = g' ∧ 0 = c' := by simpa using e1
    obtain ⟨_, _, rfl⟩ : B = some ⟨g', 0, none⟩ ∧ n = 0 + n ∧ d = 0 := by simpa using e2
    omega
  · refine ⟨B, d, rfl, hown, fun b hb => ?_, chain hA e2⟩
    have := Option.some.inj (e1.symm.trans hb)
    have := hA.size
    omega
  · omega
theorem app_below {W w4 : World} {v9 : Value} {g n : Nat} {xs : List Value} (hn : 0 < n) (hown : w4.ownsRow 0 5 1 v9 (0 + n) ([] ++ xs)) (hwent : Went W w4 (.slice (some ⟨g, 0, none⟩) 0 0) v9 0 n) : Below W.heap.size W w4 := let ⟨_, _, _, _, _, h⟩ := app_zero (Below.refl _ W) hn hown hwent; h
theorem app_on {A W w5 : World} {v9 v10 : Value} {n m : Nat} (hA : Below A.heap.size A W) (hf : ∀ b, v9.ownBlock = some b → A.heap.size ≤ b) (hwent : Went W w5 v9 v10 n m) : Below A.heap.size A w5 := hA.trans (hwent.kept.below (fun k hk => hf k hk) hA.size)
theorem rd_up {A W w' : World} {T : TypeId} {r : Nat} {zs : List Int} (hA : Below A.heap.size A W) (h : Rd T w' r zs (fun b => W.heap.size ≤ b ∧ b < w'.heap.size)) : Rd T w' r zs (fun b => A.heap.size ≤ b ∧ b < w'.heap.size) := h.mono (fun _ hb => ⟨Nat.le_trans hA.size hb.1, hb.2⟩)
theorem region_meet {P : Program} {c : Code} {Q : Exit → Act → World → Prop} {a : Act} {w : World} (F : Act → Act → World → Prop) (h1 : c.wp P (fun e a' w' => e = .normal ∧ F a a' w') a w) (h2 : ∀ a' w', F a a' w' → Q .normal a' w') : c.wp P Q a w :=
  Code.wp_mono (fun e a' w' h => by obtain ⟨rfl, h⟩ := h; exact h2 a' w' h) h1
/-- k items' bytes from i on. -/
def suf (f : Nat → It) : Nat → Nat → List Int
  | _, 0 => []
  | i, k + 1 => itB (f i) ++ suf f (i + 1) k
theorem bytes_suf (f : Nat → It) : ∀ (k i : Nat), bytesTo f (i + k) = bytesTo f i ++ suf f i k
  | 0, i => by simp [suf]
  | k + 1, i => by
    rw [show i + (k + 1) = (i + 1) + k by omega, bytes_suf f k (i + 1), bytesTo, suf, List.append_assoc]
theorem layB_bytes {k v obj hi lo : Int} {zs : List Int} (h : Bytes zs) : Bytes (layB k v obj hi lo zs) := by
  have app : ∀ {a b : List Int}, Bytes a → Bytes b → Bytes (a ++ b) := fun ha hb z hz => by
    rcases List.mem_append.1 hz with h | h
    · exact ha z h
    · exact hb z h
  unfold layB wordB capB wordB
  repeat' split
  all_goals first | exact le_bytes _ _ | exact app (le_bytes _ _) (le_bytes _ _) | exact app (le_bytes _ _) (app (le_bytes _ _) (le_bytes _ _)) | exact h
theorem suf_bytes (f : Nat → It) (h : ∀ i, Bytes (f i).zs) : ∀ (k i : Nat), Bytes (suf f i k)
  | 0, i => fun z hz => by cases hz
  | k + 1, i => fun z hz => by
    rcases List.mem_append.1 hz with h1 | h1
    · exact layB_bytes (h i) z h1
    · exact suf_bytes f h k (i + 1) z h1
theorem suf_len (f : Nat → It) (i k : Nat) : (suf f i k).length ≤ (bytesTo f (i + k)).length := by
  rw [bytes_suf, List.length_append]; omega
end Go.Proofs.Ytolfmchgcelnmaa.O

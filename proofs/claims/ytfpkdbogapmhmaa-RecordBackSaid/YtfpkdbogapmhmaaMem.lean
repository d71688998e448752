/- Words on memory: what a call may have changed (Kept), and append and copy as laws over rows that are owned. Own text; Ytfpkdbogapmhmaa stands for the seat's name. -/
import Derived.WalkKit
import Derived.KernelRfl
import Derived.WalkLawsBesides
import Derived.Deep.AppendLies
import Derived.Deep.Upon
import Derived.Deep.QuietTactic
import Derived.BigQuiet
import Derived.Deep.RegionHeld3
import Derived.Deep.RegionLaw
import Derived.Laws.CopyOwn
import Derived.Laws.Rows
namespace Go.Proofs.Ytfpkdbogapmhmaa.Mem
open Go.RowKit

/-- A function's result, known by another name. -/
theorem ret_bool {v : Value} {b c : Bool} (hv : v = .bool b) (h : c = b) : Ending.returned v = .returned (.bool c) := by rw [hv, h]
theorem ret_num {v : Value} {k : IntKind} {b c : Int} (hv : v = .int k b) (h : c = b) : Ending.returned v = .returned (.int k c) := by rw [hv, h]

/-- w' is w, but for the blocks of S and new ones. -/
structure Kept (S : Nat → Prop) (w w' : World) : Prop where
  os : w'.os = w.os
  tape : w'.tape = w.tape
  output : w'.output = w.output
  size : w.heap.size ≤ w'.heap.size
  block : ∀ k, k < w.heap.size → ¬ S k → w'.heap[k]? = w.heap[k]?

section
variable {S T : Nat → Prop} {a b c : World}
theorem Kept.refl (S : Nat → Prop) (w : World) : Kept S w w := ⟨rfl, rfl, rfl, Nat.le_refl _, fun _ _ _ => rfl⟩
theorem Kept.trans (h : Kept S a b) (k : Kept T b c) (hT : ∀ x, T x → S x ∨ a.heap.size ≤ x) : Kept S a c :=
  ⟨k.os.trans h.os, k.tape.trans h.tape, k.output.trans h.output, Nat.le_trans h.size k.size, fun x hx hs =>
    (k.block x (Nat.lt_of_lt_of_le hx h.size) (fun ht => (hT x ht).elim hs (fun hl => absurd hx (Nat.not_lt.2 hl)))).trans (h.block x hx hs)⟩
theorem Kept.mono (h : Kept S a b) (hS : ∀ x, S x → T x) : Kept T a b := ⟨h.os, h.tape, h.output, h.size, fun x hx ht => h.block x hx (fun hs => ht (hS x hs))⟩
theorem Kept.of_below (h : Below a.heap.size a b) : Kept S a b := ⟨h.os, h.tape, h.output, h.size, fun x hx _ => h.block x hx⟩
theorem Kept.below {B : Nat} (h : Kept S a b) (hS : ∀ x, S x → B ≤ x) (hB : B ≤ a.heap.size) : Below B a b :=
  ⟨h.os, h.tape, h.output, h.size, fun x hx => h.block x (Nat.lt_of_lt_of_le hx hB) (fun hs => absurd hx (Nat.not_lt.2 (hS x hs)))⟩
theorem Kept.then_below (h : Kept S a b) (k : Below b.heap.size b c) : Kept S a c := h.trans (Kept.of_below (S := S) k) (fun _ hx => .inl hx)
theorem Kept.alloc (h : Kept S a b) (o : Obj) : Kept S a (b.alloc o) :=
  ⟨h.os, h.tape, h.output, Nat.le_trans h.size (by simp), fun x hx hs => (Below.heap_alloc b o x (Nat.lt_of_lt_of_le hx h.size)).trans (h.block x hx hs)⟩
theorem Kept.drew (h : Kept S a b) : Kept S a b.drew := ⟨h.os, h.tape, h.output, h.size, h.block⟩
theorem Kept.drewN (h : Kept S a b) (n : Nat) : Kept S a (b.drewN n) := ⟨h.os, h.tape, h.output, h.size, h.block⟩
theorem Kept.setCell (h : Kept S a b) {p : Addr} (hp : S p.block ∨ a.heap.size ≤ p.block) (v : Value) : Kept S a (b.setCell p v) :=
  ⟨h.os, h.tape, h.output, Nat.le_trans h.size (by simp), fun x hx hs => (Below.heap_setCell b p v x (fun e => hp.elim (fun h1 => hs (e ▸ h1)) (fun h1 => absurd hx (by omega)))).trans (h.block x hx hs)⟩
theorem Kept.grown (h : Kept S a b) {row : Option Nat} (g : b.grownBy c row) (hrow : ∀ k, row = some k → S k ∨ a.heap.size ≤ k) : Kept S a c :=
  ⟨g.os.trans h.os, g.tape.trans h.tape, g.output.trans h.output, Nat.le_trans h.size g.size, fun x hx hs =>
    (g.block x (Nat.lt_of_lt_of_le hx h.size) (fun e => (hrow x e.symm).elim hs (fun hl => absurd hx (Nat.not_lt.2 hl)))).trans (h.block x hx hs)⟩
theorem Kept.setRow (h : Kept S a b) {g : Nat} (hp : S g ∨ a.heap.size ≤ g) (cs : Array Value) : Kept S a (b.setRow g cs) :=
  ⟨h.os, h.tape, h.output, Nat.le_trans h.size (by simp [World.setRow]), fun x hx hs => (setRow_other b g x cs (fun e => hp.elim (fun h1 => hs (e ▸ h1)) (fun h1 => absurd hx (by omega)))).trans (h.block x hx hs)⟩
theorem Kept.cell (h : Kept S a b) {p : Addr} (hlt : p.block < a.heap.size) (hn : ¬ S p.block) : b.cell? p = a.cell? p := World.cell?_of_block (h.block _ hlt hn)
theorem Kept.frozen (h : Kept S a b) {p : Addr} (hlt : p.block < a.heap.size) (hn : ¬ S p.block) : b.frozen? p = a.frozen? p := World.frozen?_of_block (h.block _ hlt hn)
end

theorem lt_of_row {w : World} {k : Nat} {o : Obj} (h : w.heap[k]? = some o) : k < w.heap.size := (Array.getElem?_eq_some_iff.1 h).1
theorem Kept.row {S : Nat → Prop} {a b : World} (h : Kept S a b) {k : Nat} {o : Obj} (hk : a.heap[k]? = some o) (hn : ¬ S k) : b.heap[k]? = some o := (h.block k (lt_of_row hk) hn).trans hk
theorem cell_row {w : World} {g j : Nat} {cs : Array Value} {t : TypeId} {fr : Nat × Nat} {v : Value} (hg : w.heap[g]? = some (.cells cs t fr)) (hv : cs[j]? = some v) : w.cell? ⟨g, j, none⟩ = some v :=
  (cell_of_row w g j cs t fr hg).trans hv
theorem free_row {w : World} {g j : Nat} {cs : Array Value} {t : TypeId} (hg : w.heap[g]? = some (.cells cs t (0, 0))) : w.frozen? ⟨g, j, none⟩ = false := by
  simp [World.frozen?, hg]

/-- An owned row is where it was. -/
theorem own_kept {S : Nat → Prop} {w w' : World} {base : Nat} {e : TypeId} {size n : Nat} {v : Value} {xs : List Value} (h : w.ownsRow base e size v n xs) (hk : Kept S w w')
    (hS : ∀ k, v.ownBlock = some k → ¬ S k) : w'.ownsRow base e size v n xs := by
  refine ⟨h.1, ?_⟩
  rcases h.2 with hn | ⟨g, cap, cur, rfl, hb, hgg, rest⟩
  · exact .inl hn
  · exact .inr ⟨g, cap, cur, rfl, hb, hk.row hgg (hS g rfl), rest⟩
theorem own_lt {w : World} {base : Nat} {e : TypeId} {size n : Nat} {v : Value} {xs : List Value} (h : w.ownsRow base e size v n xs) : ∀ k, v.ownBlock = some k → k < w.heap.size := fun k hk => (h.lt k hk).2
theorem own_slice {w : World} {base : Nat} {e : TypeId} {size n : Nat} {v : Value} {xs : List Value} (h : w.ownsRow base e size v n xs) : ∃ A c, v = .slice A n c ∧ n ≤ c := by
  rcases h.2 with ⟨rfl, rfl⟩ | ⟨g, cap, cur, rfl, hb, hgg, hc, _⟩
  · exact ⟨none, 0, rfl, Nat.le_refl _⟩
  · exact ⟨_, cap, rfl, hc⟩
theorem own_max {w : World} {base : Nat} {e : TypeId} {size n : Nat} {v : Value} {xs : List Value} (h : w.ownsRow base e size v n xs) : n ≤ maxLen := by
  rcases h.2 with ⟨rfl, rfl⟩ | ⟨g, cap, cur, rfl, hb, hgg, hc, hm, _⟩
  · exact Nat.zero_le _
  · exact Nat.le_trans hc hm
/-- A row that is not empty: its block, and its cells. -/
theorem own_form {w : World} {base : Nat} {e : TypeId} {size n : Nat} {v : Value} {xs : List Value} (h : w.ownsRow base e size v n xs) (hp : 0 < n) :
    ∃ g c cur, v = .slice (some ⟨g, 0, none⟩) n c ∧ w.heap[g]? = some (.cells cur e (0, 0)) ∧ n ≤ c ∧ c ≤ maxLen ∧ cur.size = c * size ∧ cur.toList.take (n * size) = xs ∧
      ∀ j u, xs[j]? = some u → w.cell? ⟨g, j, none⟩ = some u := by
  rcases h.2 with ⟨rfl, rfl⟩ | ⟨g, cap, cur, rfl, hb, hgg, hc, hm, hs, ht⟩
  · omega
  · refine ⟨g, cap, cur, rfl, hgg, hc, hm, hs, ht, fun j u hu => ?_⟩
    have := h.cells (g := g) rfl j u hu
    have e : (⟨g, 0, none⟩ : Addr).add j = ⟨g, j, none⟩ := by unfold Addr.add; split <;> simp_all
    rwa [e] at this

/-- What a slice holds, for append and copy: its cells where there are any. -/
def Holds (w : World) (sp : Option Addr) (news : List Value) : Prop := 0 < news.length → ∃ ad, sp = some ad ∧ ∀ j u, news[j]? = some u → w.cell? (ad.add j) = some u

theorem holds_new (X : World) (cs : Array Value) (t : TypeId) (fr : Nat × Nat) (g : Nat) (hg : g = X.heap.size) : Holds (X.alloc (.cells cs t fr)) (some ⟨g, 0, none⟩) cs.toList := by
  subst hg
  refine fun _ => ⟨_, rfl, ?_⟩
  intro j u hu
  refine World.news_of_block (heap_alloc_new X _) j u ?_
  simpa using hu
theorem row_grown {W w1 : World} {p : Nat} {row : Option Nat} {o : Obj} (hW : W.heap[p]? = some o) (hg : W.grownBy w1 row) (hne : row ≠ some p) : w1.heap[p]? = some o :=
  (hg.block p (lt_of_row hW) (fun e => hne e.symm)).trans hW
theorem no_keeps {w w' : World} {p : Nat} {o : Obj} (h : w.heap[p]? = some o) (k : Kept (fun _ => False) w w') : w'.heap[p]? = some o := k.row h (fun h => h)
theorem own_keeps {w w' : World} {base : Nat} {e : TypeId} {size n : Nat} {v : Value} {xs : List Value} (h : w.ownsRow base e size v n xs) (k : Kept (fun _ => False) w w') : w'.ownsRow base e size v n xs := own_kept h k (fun _ _ h => h)

/-- 'append(v, x...)' upon an owned row, from whatever source: where the result lies is told. -/
theorem run_app {P : Program} {w : World} (t ty e : TypeId) (base : Nat) (i : TypeInfo) (z : Value) (size bytes : Nat) (ht : P.underlying t = some (.slice e)) (hi : P.info? e = some i) (hz : i.zero = some z)
    (hsize : i.size = size) (hby : i.bytes = bytes) (hzs : z.cells.size = size) (hsz : 0 < size) {v : Value} {n : Nat} {xs : List Value} (hown : w.ownsRow base e size v n xs)
    {sp : Option Addr} {m c : Nat} {news : List Value} (hl : news.length = m * size) (hsrc : Holds w sp news) (h1 : ∀ u ∈ news, u.oneCell' = true) (hbytes : (n + m) * bytes ≤ 140737488355328) (hbp : 0 < bytes) (hbase : base ≤ w.heap.size) :
    ∃ v' w', (Builtin.append_ #[t, t] ty #[v, .slice sp m c]).run P w = .ok v' w' ∧ w'.ownsRow base e size v' (n + m) (xs ++ news) ∧ w.grownBy w' v.ownBlock ∧
      (v'.ownBlock = v.ownBlock ∨ v'.ownBlock = some w.heap.size) ∧ (m = 0 → v' = v ∧ w' = w) := by
  have h63 : n + m ≤ maxLen := by
    have : n + m ≤ (n + m) * bytes := Nat.le_mul_of_pos_right _ hbp
    unfold maxLen; omega
  by_cases hm : m = 0
  · subst hm
    obtain rfl : news = [] := List.eq_nil_of_length_eq_zero (by simpa using hl)
    obtain ⟨A, cc, rfl, hc⟩ := own_slice hown
    refine ⟨.slice A n cc, w, ?_, by simpa using hown, ⟨rfl, rfl, rfl, Nat.le_refl _, fun _ _ _ => rfl⟩, .inl rfl, fun _ => ⟨rfl, rfl⟩⟩
    refine run_append_nothing w t t ty e i ht hi A n cc hc _ ?_
    cases sp with
    | none => exact Src.ofNil w ht c
    | some ad => exact Src.ofSlice w ht ad 0 c [] (by simp) (by intro j u h; simp at h) (by simp)
  · obtain ⟨ad, rfl, hnews⟩ := hsrc (by rw [hl]; exact Nat.mul_pos (by omega) hsz)
    obtain ⟨g, cap, w', hr, h2, h3, h4, _⟩ := run_append_lies (P := P) (w := w) t ty base e i z size bytes ht hi hz hsize hby hzs hsz v n xs hown ad m c news hl hnews h1 (by omega) h63 hbytes hbase _ rfl
    exact ⟨_, w', hr, h2, h3, h4.imp (fun h => by rw [h]; rfl) (fun h => by rw [h]; rfl), fun h => absurd h hm⟩

section
variable {P : Program} {ops : Array Oper} {rest : List Oper} {o : Oper} {a : Act} {K : Act → World → Prop} {Q : Exit → Act → World → Prop} {E : Prop} {w : World}
/-- .. at the operation. -/
theorem wp_app (s x : Operand) (t : TypeId) (ho : o.op = .call { callee := .builtin .append, args := #[s, x], argTypes := #[t, t] })
    (e : TypeId) (base : Nat) (z : Value) (size bytes : Nat) (ht : P.underlying t = some (.slice e)) (hinfo : (P.info? e).map (fun i => (i.zero, i.size, i.bytes)) = some (some z, size, bytes))
    (hzs : z.cells.size = size) (hsz : 0 < size) (hbp : 0 < bytes) (v : Value) (n : Nat) (xs : List Value) (hs : a.eval s = v) (hown : w.ownsRow base e size v n xs)
    (sp : Option Addr) (m c : Nat) (news : List Value) (hx : a.eval x = .slice sp m c) (hl : news.length = m * size) (hsrc : Holds w sp news) (h1 : ∀ u ∈ news, u.oneCell' = true)
    (hbytes : (n + m) * bytes ≤ 140737488355328) (hbase : base ≤ w.heap.size)
    (h : ∀ v' w', w'.ownsRow base e size v' (n + m) (xs ++ news) → w.grownBy w' v.ownBlock → (v'.ownBlock = v.ownBlock ∨ v'.ownBlock = some w.heap.size) → (m = 0 → v' = v ∧ w' = w) → K (a.put o.dst v') w') : o.wp P a w K Q := by
  obtain ⟨i, hi, hz, hsize, hby⟩ := info_parts hinfo
  obtain ⟨v', w', hr, h2, h3, h4, h5⟩ := run_app (P := P) t o.type e base i z size bytes ht hi hz hsize hby hzs hsz hown hl hsrc h1 hbytes hbp hbase
  unfold Oper.wp execOp
  simp only [ho, resolve, invoke, builtin, Sem.run_bind, Sem.run_pure, Result.andThen_ok, List.map_toArray, List.map_cons, List.map_nil, hs, hx]
  rw [hr]
  exact h v' w' h2 h3 h4 h5
theorem list_app (hgd : o.guard = none) (s x : Operand) (t : TypeId) (ho : o.op = .call { callee := .builtin .append, args := #[s, x], argTypes := #[t, t] })
    (e : TypeId) (base : Nat) (z : Value) (size bytes : Nat) (ht : P.underlying t = some (.slice e)) (hinfo : (P.info? e).map (fun i => (i.zero, i.size, i.bytes)) = some (some z, size, bytes))
    (hzs : z.cells.size = size) (hsz : 0 < size) (hbp : 0 < bytes) (v : Value) (n : Nat) (xs : List Value) (hs : a.eval s = v) (hown : w.ownsRow base e size v n xs)
    (sp : Option Addr) (m c : Nat) (news : List Value) (hx : a.eval x = .slice sp m c) (hl : news.length = m * size) (hsrc : Holds w sp news) (h1 : ∀ u ∈ news, u.oneCell' = true)
    (hbytes : (n + m) * bytes ≤ 140737488355328) (hbase : base ≤ w.heap.size)
    (h : ∀ v' w', w'.ownsRow base e size v' (n + m) (xs ++ news) → w.grownBy w' v.ownBlock → (v'.ownBlock = v.ownBlock ∨ v'.ownBlock = some w.heap.size) → (m = 0 → v' = v ∧ w' = w) → wpList P ops Q rest (a.put o.dst v') w') :
    wpList P ops Q (o :: rest) a w :=
  wpList_plain hgd fun _ hK => wp_app s x t ho e base z size bytes ht hinfo hzs hsz hbp v n xs hs hown sp m c news hx hl hsrc h1 hbytes hbase fun v' w' h2 h3 h4 h5 => hK _ _ (h v' w' h2 h3 h4 h5)
theorem step_app (hgd : o.guard = none) (s x : Operand) (t : TypeId) (ho : o.op = .call { callee := .builtin .append, args := #[s, x], argTypes := #[t, t] })
    (e : TypeId) (base : Nat) (z : Value) (size bytes : Nat) (ht : P.underlying t = some (.slice e)) (hinfo : (P.info? e).map (fun i => (i.zero, i.size, i.bytes)) = some (some z, size, bytes))
    (hzs : z.cells.size = size) (hsz : 0 < size) (hbp : 0 < bytes) (v : Value) (n : Nat) (xs : List Value) (hs : a.eval s = v) (hown : w.ownsRow base e size v n xs)
    (sp : Option Addr) (m c : Nat) (news : List Value) (hx : a.eval x = .slice sp m c) (hl : news.length = m * size) (hsrc : Holds w sp news) (h1 : ∀ u ∈ news, u.oneCell' = true)
    (hbytes : (n + m) * bytes ≤ 140737488355328) (hbase : base ≤ w.heap.size)
    (h : ∀ v' w', w'.ownsRow base e size v' (n + m) (xs ++ news) → w.grownBy w' v.ownBlock → (v'.ownBlock = v.ownBlock ∨ v'.ownBlock = some w.heap.size) → (m = 0 → v' = v ∧ w' = w) → K (a.put o.dst v') w') :
    if Region.wanted o (yielded ops a.tmps) = true then Oper.wp P o a w K Q else E := by
  have hw : Region.wanted o (yielded ops a.tmps) = true := by simp [Region.wanted, hgd]
  rw [if_pos hw]
  exact wp_app s x t ho e base z size bytes ht hinfo hzs hsz hbp v n xs hs hown sp m c news hx hl hsrc h1 hbytes hbase h
end

/-- 'copy(dst, src)' of elements of any size: n elements, laid over the row's cells from 'off' on. -/
theorem run_copy_any {P : Program} {w : World} (dT sT ty elem : TypeId) (size : Nat) (hu : P.underlying dT = some (.slice elem)) (hsz : (P.info? elem).map (·.size) = some size)
    {dp sp : Option Addr} {dLen dCap sLen sCap : Nat} {g off : Nat} {cur : Array Value} {t : TypeId} (hg : w.heap[g]? = some (.cells cur t (0, 0))) {cs : List Value} (hn : cs.length = Nat.min sLen dLen * size)
    (hd : 0 < cs.length → dp = some ⟨g, off, none⟩) (hsrc : Holds w sp cs) (hfit : off + cs.length ≤ cur.size) (h1 : ∀ v ∈ cs, v.oneCell' = true) (hs0 : 0 < size) :
    (Builtin.copy_ #[dT, sT] ty #[.slice dp dLen dCap, .slice sp sLen sCap]).run P w =
      .ok (goInt (Nat.min sLen dLen)) (if cs.length = 0 then w else w.setRow g (cur.toList.take off ++ cs ++ cur.toList.drop (off + cs.length)).toArray) := by
  cases hq : P.info? elem with
  | none => simp [hq] at hsz
  | some i =>
    have hi : i.size = size := by simpa [hq] using hsz
    by_cases h0 : cs.length = 0
    · rw [if_pos h0]
      have hm : Nat.min sLen dLen = 0 := by
        rcases Nat.eq_zero_or_pos (Nat.min sLen dLen) with h | h
        · exact h
        · have := Nat.mul_pos h hs0; omega
      cases sp <;> cases dp <;> simp [Builtin.copy_, run_underlying hu, Builtin.lenOf, Builtin.firstCells, sizeOf, typeInfo, hq, hm, loadCells, loadCellsFrom, storeCells]
    · rw [if_neg h0]
      obtain ⟨ad, rfl, hc⟩ := hsrc (by omega)
      obtain rfl := hd (by omega)
      have hl := run_loadCells_list (P := P) w ad cs hc
      have hst := run_storeCells_at P g off t cs 0 cur w hg (by simpa using hfit) h1
      simp [Builtin.copy_, run_underlying hu, Builtin.lenOf, Builtin.firstCells, sizeOf, typeInfo, hq, hi, ← hn, hl, hst]
section
variable {P : Program} {ops : Array Oper} {rest : List Oper} {o : Oper} {a : Act} {K : Act → World → Prop} {Q : Exit → Act → World → Prop} {E : Prop} {w : World}
theorem wp_copy (d s : Operand) (dT sT : TypeId) (ho : o.op = .call { callee := .builtin .copy, args := #[d, s], argTypes := #[dT, sT] }) (elem : TypeId) (size : Nat) (hu : P.underlying dT = some (.slice elem)) (hsz : (P.info? elem).map (·.size) = some size) (hs0 : 0 < size)
    (dp sp : Option Addr) (dLen dCap sLen sCap : Nat) (hd : a.eval d = .slice dp dLen dCap) (hs : a.eval s = .slice sp sLen sCap) (g off : Nat) (cur : Array Value) (t : TypeId) (hg : w.heap[g]? = some (.cells cur t (0, 0))) (cs : List Value) (hn : cs.length = Nat.min sLen dLen * size)
    (hdp : 0 < cs.length → dp = some ⟨g, off, none⟩) (hsrc : Holds w sp cs) (hfit : off + cs.length ≤ cur.size) (h1 : ∀ v ∈ cs, v.oneCell' = true)
    (h : ∀ w', w'.heap[g]? = some (.cells (cur.toList.take off ++ cs ++ cur.toList.drop (off + cs.length)).toArray t (0, 0)) → w.grownBy w' (some g) → w'.heap.size = w.heap.size → K (a.put o.dst (goInt (Nat.min sLen dLen))) w') : o.wp P a w K Q := by
  have hr := run_copy_any (P := P) (w := w) dT sT o.type elem size hu hsz (dp := dp) (sp := sp) (dLen := dLen) (dCap := dCap) (sLen := sLen) (sCap := sCap) hg hn hdp hsrc hfit h1 hs0
  unfold Oper.wp execOp
  simp only [ho, resolve, invoke, builtin, Sem.run_bind, Sem.run_pure, Result.andThen_ok, List.map_toArray, List.map_cons, List.map_nil, hd, hs]
  rw [hr]
  show K _ _
  by_cases h0 : cs.length = 0
  · rw [if_pos h0]
    obtain rfl : cs = [] := List.eq_nil_of_length_eq_zero h0
    exact h w (by simpa using hg) ⟨rfl, rfl, rfl, Nat.le_refl _, fun _ _ _ => rfl⟩ rfl
  · rw [if_neg h0]
    exact h _ (setRow_heap w g cur _ t _ hg) ⟨rfl, rfl, rfl, by simp [World.setRow], fun k _ hk => setRow_other w g k _ (fun e => hk (by rw [e]))⟩ (by simp [World.setRow])
theorem list_copy (hgd : o.guard = none) (d s : Operand) (dT sT : TypeId) (ho : o.op = .call { callee := .builtin .copy, args := #[d, s], argTypes := #[dT, sT] }) (elem : TypeId) (size : Nat) (hu : P.underlying dT = some (.slice elem)) (hsz : (P.info? elem).map (·.size) = some size) (hs0 : 0 < size)
    (dp sp : Option Addr) (dLen dCap sLen sCap : Nat) (hd : a.eval d = .slice dp dLen dCap) (hs : a.eval s = .slice sp sLen sCap) (g off : Nat) (cur : Array Value) (t : TypeId) (hg : w.heap[g]? = some (.cells cur t (0, 0))) (cs : List Value) (hn : cs.length = Nat.min sLen dLen * size)
    (hdp : 0 < cs.length → dp = some ⟨g, off, none⟩) (hsrc : Holds w sp cs) (hfit : off + cs.length ≤ cur.size) (h1 : ∀ v ∈ cs, v.oneCell' = true)
    (h : ∀ w', w'.heap[g]? = some (.cells (cur.toList.take off ++ cs ++ cur.toList.drop (off + cs.length)).toArray t (0, 0)) → w.grownBy w' (some g) → w'.heap.size = w.heap.size → wpList P ops Q rest (a.put o.dst (goInt (Nat.min sLen dLen))) w') :
    wpList P ops Q (o :: rest) a w :=
  wpList_plain hgd fun _ hK => wp_copy d s dT sT ho elem size hu hsz hs0 dp sp dLen dCap sLen sCap hd hs g off cur t hg cs hn hdp hsrc hfit h1 fun w' h2 h3 h4 => hK _ _ (h w' h2 h3 h4)
theorem step_copy (hgd : o.guard = none) (d s : Operand) (dT sT : TypeId) (ho : o.op = .call { callee := .builtin .copy, args := #[d, s], argTypes := #[dT, sT] }) (elem : TypeId) (size : Nat) (hu : P.underlying dT = some (.slice elem)) (hsz : (P.info? elem).map (·.size) = some size) (hs0 : 0 < size)
    (dp sp : Option Addr) (dLen dCap sLen sCap : Nat) (hd : a.eval d = .slice dp dLen dCap) (hs : a.eval s = .slice sp sLen sCap) (g off : Nat) (cur : Array Value) (t : TypeId) (hg : w.heap[g]? = some (.cells cur t (0, 0))) (cs : List Value) (hn : cs.length = Nat.min sLen dLen * size)
    (hdp : 0 < cs.length → dp = some ⟨g, off, none⟩) (hsrc : Holds w sp cs) (hfit : off + cs.length ≤ cur.size) (h1 : ∀ v ∈ cs, v.oneCell' = true)
    (h : ∀ w', w'.heap[g]? = some (.cells (cur.toList.take off ++ cs ++ cur.toList.drop (off + cs.length)).toArray t (0, 0)) → w.grownBy w' (some g) → w'.heap.size = w.heap.size → K (a.put o.dst (goInt (Nat.min sLen dLen))) w') :
    if Region.wanted o (yielded ops a.tmps) = true then Oper.wp P o a w K Q else E := by
  have hw : Region.wanted o (yielded ops a.tmps) = true := by simp [Region.wanted, hgd]
  rw [if_pos hw]
  exact wp_copy d s dT sT ho elem size hu hsz hs0 dp sp dLen dCap sLen sCap hd hs g off cur t hg cs hn hdp hsrc hfit h1 h
end
end Go.Proofs.Ytfpkdbogapmhmaa.Mem

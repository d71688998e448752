/- Record: words for what reads a call or a reply off a tape (written by gen_rcg.py). -/
import Derived.Test.YtfpkdbogapmhmaaRcF
import Derived.Laws.Tables
namespace Go.Proofs.Ytfpkdbogapmhmaa.O
open Go.RowKit Go.Proofs.Ytfpkdbogapmhmaa.Mem
set_option linter.unusedVariables false
set_option linter.unusedSimpArgs false
theorem info3 : (Try.prog.info? 3).map (fun i => (i.zero, i.size, i.bytes)) = some (some (.int .i64 0), 1, 8) := by kernel_rfl
theorem step_app2 {P : Program} {ops : Array Oper} {o : Oper} {a : Act} {K : Act → World → Prop} {Q : Exit → Act → World → Prop} {E : Prop} {w : World} (hgd : o.guard = none) (s x : Operand) (t : TypeId) (ho : o.op = .call { callee := .builtin .append, args := #[s, x], argTypes := #[t, t] })
    (e : TypeId) (base : Nat) (z : Value) (size bytes : Nat) (ht : P.underlying t = some (.slice e)) (hinfo : (P.info? e).map (fun i => (i.zero, i.size, i.bytes)) = some (some z, size, bytes))
    (hzs : z.cells.size = size) (hsz : 0 < size) (hbp : 0 < bytes) (v : Value) (n : Nat) (xs : List Value) (hs : a.eval s = v) (hown : w.ownsRow base e size v n xs)
    (sp : Option Addr) (m c : Nat) (news : List Value) (hx : a.eval x = .slice sp m c) (hl : news.length = m * size) (hsrc : Holds w sp news) (h1 : ∀ u ∈ news, u.oneCell' = true)
    (hbytes : (n + m) * bytes ≤ 140737488355328) (hbase : base ≤ w.heap.size)
    (h : ∀ v' w', w'.ownsRow base e size v' (n + m) (xs ++ news) → Went w w' v v' n m → K (a.put o.dst v') w') :
    if Region.wanted o (yielded ops a.tmps) = true then Oper.wp P o a w K Q else E := by
  have hw : Region.wanted o (yielded ops a.tmps) = true := by simp [Region.wanted, hgd]
  rw [if_pos hw]
  obtain ⟨i, hi, hz, hsize, hby⟩ := info_parts hinfo
  obtain ⟨v', w', hr, h2, h3⟩ := run_app2 (P := P) t o.type e base i z size bytes ht hi hz hsize hby hzs hsz hown hl hsrc h1 hbytes hbp hbase (c := c)
  unfold Oper.wp execOp
  simp only [ho, resolve, invoke, builtin, Sem.run_bind, Sem.run_pure, Result.andThen_ok, List.map_toArray, List.map_cons, List.map_nil, hs, hx]
  rw [hr]
  exact h v' w' h2 h3
/-- A whole row, written. -/
theorem wp_store_row {P : Program} {op : Oper} {a : Act} {w : World} {K : Act → World → Prop} {Q : Exit → Act → World → Prop} (ty : TypeId) (x y : Operand) (ho : op.op = .store ty x y)
    (g : Nat) (t : TypeId) (old cells : Array Value) (hx : a.eval x = .pointer (some ⟨g, 0, none⟩)) (hy : a.eval y = .agg cells)
    (hg : w.heap[g]? = some (.cells old t (0, 0))) (hi : (P.info? ty).map (·.size) = some cells.size) (hos : old.size = cells.size) (h1 : cells.all (·.oneCell') = true)
    (h : K (a.put op.dst undef) (w.setRow g cells)) : op.wp P a w K Q := by
  unfold Oper.wp execOp
  simp only [ho, hx, hy, Instr.storeAt, Instr.sureAddr, Sem.run_bind, Sem.run_pure, Result.andThen_ok, run_storeVar_row w g t ty old cells hg hi hos h1]
  exact h
theorem wpList_store_row {P : Program} {ops : Array Oper} {rest : List Oper} {op : Oper} {a : Act} {w : World} {Q : Exit → Act → World → Prop} (hgd : op.guard = none) (ty : TypeId) (x y : Operand) (ho : op.op = .store ty x y)
    (g : Nat) (t : TypeId) (old cells : Array Value) (hx : a.eval x = .pointer (some ⟨g, 0, none⟩)) (hy : a.eval y = .agg cells)
    (hg : w.heap[g]? = some (.cells old t (0, 0))) (hi : (P.info? ty).map (·.size) = some cells.size) (hos : old.size = cells.size) (h1 : cells.all (·.oneCell') = true)
    (h : wpList P ops Q rest (a.put op.dst undef) (w.setRow g cells)) : wpList P ops Q (op :: rest) a w :=
  wpList_plain hgd fun _ hK => wp_store_row ty x y ho g t old cells hx hy hg hi hos h1 (hK _ _ h)
theorem step_store_row {P : Program} {ops : Array Oper} {op : Oper} {a : Act} {w : World} {K : Act → World → Prop} {Q : Exit → Act → World → Prop} {E : Prop} (hgd : op.guard = none) (ty : TypeId) (x y : Operand) (ho : op.op = .store ty x y)
    (g : Nat) (t : TypeId) (old cells : Array Value) (hx : a.eval x = .pointer (some ⟨g, 0, none⟩)) (hy : a.eval y = .agg cells)
    (hg : w.heap[g]? = some (.cells old t (0, 0))) (hi : (P.info? ty).map (·.size) = some cells.size) (hos : old.size = cells.size) (h1 : cells.all (·.oneCell') = true)
    (h : K (a.put op.dst undef) (w.setRow g cells)) : if Region.wanted op (yielded ops a.tmps) = true then Oper.wp P op a w K Q else E := by
  have hw : Region.wanted op (yielded ops a.tmps) = true := by simp [Region.wanted, hgd]
  rw [if_pos hw]
  exact wp_store_row ty x y ho g t old cells hx hy hg hi hos h1 h
/-- A region after which the ways meet, and out of which a panic may lead. -/
def MeetQ (F : Act → Act → World → Prop) (G : List PanicEntry → Act → World → Prop) (a : Act) : Exit → Act → World → Prop
  | .normal, a', w' => F a a' w'
  | .panic ch, a', w' => G ch a' w'
  | _, _, _ => False
theorem region_meet2 {P : Program} {c : Code} {Q : Exit → Act → World → Prop} {a : Act} {w : World} (F : Act → Act → World → Prop) (G : List PanicEntry → Act → World → Prop) (h1 : c.wp P (MeetQ F G a) a w) (h2 : ∀ a' w', F a a' w' → Q .normal a' w') (h3 : ∀ ch a' w', G ch a' w' → Q (.panic ch) a' w') : c.wp P Q a w :=
  Code.wp_mono (fun e a' w' h => by
    cases e with
    | normal => exact h2 _ _ h
    | panic ch => exact h3 _ _ _ h
    | _ => exact h.elim) h1
/-- Rows that stay, the reader; nothing is filled yet. -/
structure TJ (w : World) (r : Nat) (L : List (Nat × Obj)) (zs : List Int) (F : Nat → Prop) (W : World) : Prop where
  fix : ∀ x ∈ L, W.heap[x.1]? = some x.2
  rd : Rd 95 W r zs F
  kept : Kept (fun b => b = r) w W
structure TB (w : World) (r : Nat) (L : List (Nat × Obj)) (F : Nat → Prop) : Prop where
  far : ∀ x ∈ L, x.1 ≠ r
  fc : ∀ b, F b → b < w.heap.size
  rl : r < w.heap.size
section
variable {w : World} {r C : Nat} {L : List (Nat × Obj)} {row row' : Array Value} {ty : TypeId} {zs zs' : List Int} {F : Nat → Prop} {W W' : World}
theorem TJ.on (h : TJ w r L zs F W) (a : TB w r L F) (hr : Rd 95 W' r zs' F) (hk : Kept (fun b => b = r) W W') : TJ w r L zs' F W' :=
  ⟨fun x hx => hk.row (h.fix x hx) (a.far x hx), hr, h.kept.trans hk (fun b hb => .inl hb)⟩
theorem TJ.drew (h : TJ w r L zs F W) : TJ w r L zs F W.drew := ⟨h.fix, h.rd.below (Below.refl _ _).drew, h.kept.drew⟩
theorem TJ.ta (h : TJ w r L zs F W) (a : TB w r L F) : TA r W.heap.size L F := by
  have := a.rl
  have := h.kept.size
  refine ⟨fun x hx => ⟨a.far x hx, fun e => ?_⟩, by omega, fun b hb e => ?_⟩
  · have := lt_of_row (h.fix x hx); omega
  · have := a.fc b hb; omega
theorem TJ.alloc (h : TJ w r L zs F W) (a : TB w r L F) (row : Array Value) (ty : TypeId) : TI w r W.heap.size L row ty zs F (W.alloc (.cells row ty)) := by
  have hb : Below W.heap.size W (W.alloc (.cells row ty)) := (Below.refl _ W).alloc (Nat.le_refl _) _
  exact ⟨fun x hx => row_on hb (h.fix x hx), row_new rfl, h.rd.below hb, (h.kept.then_below hb).mono (fun b hb => .inl hb)⟩
theorem TI.kept' (h : TI w r C L row ty zs F W) (hC : w.heap.size ≤ C) : Kept (fun b => b = r) w W :=
  ⟨h.kept.os, h.kept.tape, h.kept.output, h.kept.size, fun x hx hn => h.kept.block x hx (fun e => e.elim hn (fun e => by omega))⟩
theorem TI.setRow (h : TI w r C L row ty zs F W) (a : TA r C L F) (cs : Array Value) : TI w r C L cs ty zs F (W.setRow C cs) := by
  have k : Kept (fun b => b = C) W (W.setRow C cs) := (Kept.refl (fun b => b = C) W).setRow (.inl rfl) cs
  exact ⟨fun x hx => k.row (h.fix x hx) (a.far x hx).2, setRow_heap _ _ _ _ _ _ h.row, h.rd.kept k (fun b hb => a.fc b hb), h.kept.trans k (fun b hb => .inl (.inr hb))⟩
theorem TI.grow (h : TI w r C L row ty zs F W) (hb : Below W.heap.size W W') : TI w r C L row ty zs F W' :=
  ⟨fun x hx => row_on hb (h.fix x hx), row_on hb h.row, h.rd.below hb, h.kept.trans (Kept.of_below (S := fun _ => False) hb) (fun _ h => h.elim)⟩
end
theorem kept_new {w W : World} {r C : Nat} (h : Kept (fun b => b = r ∨ b = C) w W) (hC : w.heap.size ≤ C) : Kept (fun b => b = r) w W :=
  ⟨h.os, h.tape, h.output, h.size, fun x hx hn => h.block x hx (fun e => e.elim hn (fun e => by omega))⟩
theorem num_le' {k : Nat} {zs : List Int} {x : Int × List Int} (h : num k zs = some x) : x.2.length ≤ zs.length := by
  unfold num at h
  split at h
  · cases h
  · split at h
    · cases h
    · obtain rfl := Option.some.inj h; simp only [List.length_drop]; omega
theorem mv_le' {c : Cl} {zs : List Int} {x : Cl × List Int} (h : mvR c zs = some x) : x.2.length ≤ zs.length := by
  unfold mvR at h
  obtain ⟨a, ha, h⟩ := Option.bind_eq_some_iff.1 h
  obtain ⟨b, hb, h⟩ := Option.bind_eq_some_iff.1 h
  obtain ⟨d, hd, h⟩ := Option.bind_eq_some_iff.1 h
  obtain ⟨f, hf, h⟩ := Option.bind_eq_some_iff.1 h
  obtain rfl := Option.some.inj h
  have h1 := num_le' ha
  have h2 := num_le' hb
  have h4 := num_le' hf
  have h3 : d.2.length ≤ b.2.length := by
    unfold wordR' at hd
    split at hd
    · cases hd
    · obtain rfl := Option.some.inj hd; simp only [List.length_drop]; omega
  show f.2.length ≤ _
  omega
/-- A list of numbers of its own. -/
def OI (w : World) (v : Value) (l : List Int) : Prop := w.ownsRow 0 3 1 v l.length (l.map numC)
theorem OI.nil (w : World) : OI w (.slice none 0 0) [] := World.ownsRow_nil _ _ _ _
theorem OI.reads {w : World} {v : Value} {zs : List Int} (h : OI w v zs) : IB w v zs := by
  obtain ⟨A, c, rfl, hc⟩ := own_slice h
  have h2 : c ≤ maxLen := by have := (own_cap h).2; unfold maxLen; exact this
  refine ⟨A, c, rfl, hc, h2, fun hp => ?_⟩
  obtain ⟨g, c', cur, e1, hg, _, _, _, _, hx⟩ := own_form h hp
  obtain ⟨rfl, rfl⟩ := by simpa using e1
  refine ⟨g, 0, rfl, fun j u hu => ?_⟩
  rw [Nat.zero_add]
  exact hx j _ (by rw [List.getElem?_map, hu]; rfl)
theorem mv_facts {c : Cl} {zs : List Int} {x : Cl × List Int} (hB : Bytes zs) (h : mvR c zs = some x) : Bytes x.2 ∧ U64 x.1.hi ∧ U64 x.1.lo ∧ x.1.da = c.da ∧ x.1.gi = c.gi ∧ x.1.op = c.op ∧ x.1.by' = c.by' := by
  unfold mvR at h
  obtain ⟨a, ha, h⟩ := Option.bind_eq_some_iff.1 h
  obtain ⟨b, hb, h⟩ := Option.bind_eq_some_iff.1 h
  obtain ⟨d, hd, h⟩ := Option.bind_eq_some_iff.1 h
  obtain ⟨f, hf, h⟩ := Option.bind_eq_some_iff.1 h
  obtain rfl := Option.some.inj h
  have h1 := (num_bytes hB ha).1
  have h2 := (num_bytes h1 hb).1
  have h3 := word_bytes h2 hd
  have h4 := (num_bytes h3.1 hf).1
  exact ⟨h4, h3.2.1, h3.2.2, rfl, rfl, rfl, rfl⟩
theorem TI.byKept {w W W' : World} {r C : Nat} {L : List (Nat × Obj)} {row : Array Value} {ty : TypeId} {zs : List Int} {F S : Nat → Prop} (h : TI w r C L row ty zs F W) (hk : Kept S W W') (hL : ∀ x ∈ L, ¬ S x.1) (hC : ¬ S C) (hF : ∀ b, F b → ¬ S b) (hS : ∀ b, S b → w.heap.size ≤ b) : TI w r C L row ty zs F W' :=
  ⟨fun x hx => hk.row (h.fix x hx) (hL x hx), hk.row h.row hC, h.rd.kept hk hF, h.kept.trans hk (fun b hb => .inr (hS b hb))⟩
theorem went_bound {w1 w9 : World} {v v9 : Value} {n m M : Nat} (hv : ∀ b, v.ownBlock = some b → M ≤ b) (hs : M ≤ w1.heap.size) (hw : Went w1 w9 v v9 n m) : ∀ b, v9.ownBlock = some b → M ≤ b := fun b hb => by
  rcases hw with ⟨g, c, e1, e2, _⟩ | ⟨e, _⟩ | ⟨e, _⟩
  · subst e1 e2; exact hv b (by simpa [Value.ownBlock] using hb)
  · rw [e] at hb; obtain rfl := Option.some.inj hb; exact hs
  · rw [e] at hb; exact hv b hb
theorem OI.kept {S : Nat → Prop} {w w' : World} {v : Value} {l : List Int} (h : OI w v l) (hk : Kept S w w') (hv : ∀ b, v.ownBlock = some b → ¬ S b) : OI w' v l := own_kept h hk hv
theorem giR_step {n i : Nat} {z0 z z' : List Int} {g : List Int} {u : Int} (hi : i < n) (h : giR n z0 = (giR (n - i) z).map (g ++ ·)) (hn : num 2 z = some (u, z')) : giR n z0 = (giR (n - (i + 1)) z').map ((g ++ [u]) ++ ·) := by
  rw [h]
  obtain ⟨k, hk⟩ : ∃ k, n - i = k + 1 := ⟨n - i - 1, by omega⟩
  rw [hk, show n - (i + 1) = k by omega]
  show ((num 2 z).bind fun x => (giR k x.2).map (x.1 :: ·)).map _ = _
  rw [hn]
  simp only [Option.bind_some, Option.map_map]
  congr 1
  funext l
  simp
theorem giR_none {n i : Nat} {z0 z : List Int} {g : List Int} (hi : i < n) (h : giR n z0 = (giR (n - i) z).map (g ++ ·)) (hn : num 2 z = none) : giR n z0 = none := by
  rw [h]
  obtain ⟨k, hk⟩ : ∃ k, n - i = k + 1 := ⟨n - i - 1, by omega⟩
  rw [hk]
  show ((num 2 z).bind fun x => (giR k x.2).map (x.1 :: ·)).map _ = _
  rw [hn]; rfl
theorem giR_done {n i : Nat} {z0 z : List Int} {g : List Int} (hi : i = n) (h : giR n z0 = (giR (n - i) z).map (g ++ ·)) : giR n z0 = some g := by
  rw [h, hi, Nat.sub_self]
  show some (g ++ []) = some g
  rw [List.append_nil]
/-- What reading a call answers. -/
def CP (o : Option Cl) (r : Nat) (w : World) (e : Ending) (w' : World) : Prop :=
  match o with
  | some c => (∃ D G, e = .returned (cv c D G) ∧ OB w' D c.da ∧ OI w' G c.gi ∧ Fresh w D ∧ Fresh w G) ∧ Kept (fun b => b = r) w w'
  | none => e = .panicked ENDED ∧ Kept (fun b => b = r) w w'
theorem fresh_nil (w : World) : Fresh w (.slice none 0 0) := fun b e => by simp [Value.ownBlock] at e
theorem cp_some {c : Cl} {r A C : Nat} {w W : World} {L : List (Nat × Obj)} {zs : List Int} {F : Nat → Prop} {D G : Value} (h : TI w r C L (cells c D G) 30 zs F W) (hC : w.heap.size ≤ C) (hA : w.heap.size ≤ A) (cs : Array Value) (hD : OB (W.setRow A cs) D c.da) (hG : OI (W.setRow A cs) G c.gi) (fD : Fresh w D) (fG : Fresh w G) : CP (some c) r w (.returned (cv c D G)) (W.setRow A cs) :=
  ⟨⟨D, G, rfl, hD, hG, fD, fG⟩, (h.kept' hC).setRow (.inr hA) cs⟩
end Go.Proofs.Ytfpkdbogapmhmaa.O

/- Record: Equal; Parse's deferred closure (written by gen_rci.py). -/
import Derived.Test.YtfpkdbogapmhmaaRcG
import Derived.Defers
import Derived.Recover
import Derived.Lib.Bytes
namespace Go.Proofs.Ytfpkdbogapmhmaa.O
open Go.RowKit Go.Proofs.Ytfpkdbogapmhmaa.Mem
set_option linter.unusedVariables false
set_option linter.unusedSimpArgs false
theorem str_inj {a b : List Int} (ha : Bytes a) (hb : Bytes b) (h : strOfNums a = strOfNums b) : a = b := by
  have h1 : (strOfNums a).data.toList = (strOfNums b).data.toList := by rw [h]
  rw [strOfNums_data, strOfNums_data] at h1
  clear h
  induction a generalizing b with
  | nil =>
    cases b with
    | nil => rfl
    | cons y b => cases h1
  | cons x a ih =>
    cases b with
    | nil => cases h1
    | cons y b =>
      rw [List.map_cons, List.map_cons] at h1
      obtain ⟨e1, e2⟩ := List.cons.inj h1
      have hx := ha x (by simp)
      have hy := hb y (by simp)
      have e3 : x.toNat = y.toNat := by
        have h2 : (UInt8.ofNat x.toNat).toNat = (UInt8.ofNat y.toNat).toNat := by rw [e1]
        have e5 : ∀ n : Nat, n < 256 → (UInt8.ofNat n).toNat = n := fun n hn => by simp [UInt8.toNat_ofNat, Nat.mod_eq_of_lt hn]
        rw [e5 _ (by omega), e5 _ (by omega)] at h2
        exact h2
      have e4 : x = y := by omega
      rw [e4, ih (fun z hz => ha z (by simp [hz])) (fun z hz => hb z (by simp [hz])) e2]
theorem str_eq {a b : List Int} (ha : Bytes a) (hb : Bytes b) : ((strOfNums a).toList == (strOfNums b).toList) = decide (a = b) := by
  by_cases h : a = b
  · rw [decide_eq_true h, h]; exact beq_self_eq_true _
  · rw [decide_eq_false h]
    exact beq_eq_false_iff_ne.2 (fun e => h (str_inj ha hb (by rw [Lib.strOfNums_toList, Lib.strOfNums_toList] at e; unfold strOfNums; unfold Lib.bytesOf at e; rw [e])))
set_option maxHeartbeats 4000000 in
theorem equal_any (w : World) (a b : Value) (za zb : List Int) (ha : RB w a za) (hb : RB w b zb) (Ha : Bytes za) (Hb : Bytes zb) :
    Calls Try.prog 40 #[a, b] w fun e w' => e = .returned (.bool (decide (za = zb))) ∧ w = w' := by
  have h1 := ha.conv
  have h2 := hb.conv
  rw [← str_eq Ha Hb]
  clear ha hb
  go_enter Try.func40, Try.ntmps40
  go_wp2
  go_ret
  exact ⟨rfl, rfl⟩
theorem info45 : (Try.prog.info? 45).map (·.size) = some 6 := by kernel_rfl
theorem res_two {fn : Func} {p q : Tmp} {ty tq : TypeId} (h : fn.results = #[.cell p ty, .cell q tq]) (tmps : Array Value) (W : World) (P Q : Nat) (v u : Value) (hp : tmps.getD p undef = .pointer (some ⟨P, 0, none⟩)) (hq : tmps.getD q undef = .pointer (some ⟨Q, 0, none⟩)) (hl : (loadVar ty ⟨P, 0, none⟩).run Try.prog W = .ok v W) (hm : (loadVar tq ⟨Q, 0, none⟩).run Try.prog W = .ok u W) : (results fn tmps).run Try.prog W = .ok (.tuple #[v, u]) W := by
  have hp' : tmps[p]?.getD undef = .pointer (some ⟨P, 0, none⟩) := by simpa using hp
  have hq' : tmps[q]?.getD undef = .pointer (some ⟨Q, 0, none⟩) := by simpa using hq
  unfold results
  simp [h, hp', hq', asAddr, hl, hm, Result.andThen, Sem.run_bind]
set_option maxHeartbeats 4000000 in
theorem catch_p (p q : Nat) (w : World) (old : Array Value) (x : Int) (hp : w.heap[p]? = some (.cells old 30)) (ho : old.size = 13) (hq : w.heap[q]? = some (.cells #[.int .i64 x] 31)) (hpq : p ≠ q) :
    CallsD Try.prog 37 #[.pointer (some ⟨p, 0, none⟩), .pointer (some ⟨q, 0, none⟩)] (.panicking ENDED) w fun e u' w' =>
      e = .returned (.tuple #[]) ∧ u' = .panicking [{ v := .iface 105 (.agg #[]), recovered := true }] ∧ w' = (w.setRow p #[.int .i64 0, .int .i64 0, .int .i64 0, .int .i64 0, .int .u64 0, .int .u64 0, .bool false, .int .i64 0, .int .i64 0, .int .i64 0, .slice none 0 0, .int .i64 0, .slice none 0 0]).setCell ⟨q, 0, none⟩ (.int .i64 1) := by
  have hst := run_storeVar_row (P := Try.prog) w p 30 30 old #[.int .i64 0, .int .i64 0, .int .i64 0, .int .i64 0, .int .u64 0, .int .u64 0, .bool false, .int .i64 0, .int .i64 0, .int .i64 0, .slice none 0 0, .int .i64 0, .slice none 0 0] hp info30 ho (by simp [Value.oneCell'])
  have hq2 : (w.setRow p #[.int .i64 0, .int .i64 0, .int .i64 0, .int .i64 0, .int .u64 0, .int .u64 0, .bool false, .int .i64 0, .int .i64 0, .int .i64 0, .slice none 0 0, .int .i64 0, .slice none 0 0]).heap[q]? = some (.cells #[.int .i64 x] 31) := (setRow_other w p q _ hpq.symm).trans hq
  have y0 : (w.setRow p #[.int .i64 0, .int .i64 0, .int .i64 0, .int .i64 0, .int .u64 0, .int .u64 0, .bool false, .int .i64 0, .int .i64 0, .int .i64 0, .slice none 0 0, .int .i64 0, .slice none 0 0]).cell? ⟨q, 0, none⟩ = some (.int .i64 x) := cell_row hq2 rfl
  have z0 : (w.setRow p #[.int .i64 0, .int .i64 0, .int .i64 0, .int .i64 0, .int .u64 0, .int .u64 0, .bool false, .int .i64 0, .int .i64 0, .int .i64 0, .slice none 0 0, .int .i64 0, .slice none 0 0]).frozen? ⟨q, 0, none⟩ = false := free_row hq2
  refine callsD_of_wpS Try.func37 rfl fun c₀ cs hu => ?_
  simp only [Try.ntmps37, List.size_toArray, List.length_cons, List.length_nil, Nat.reduceAdd, Nat.reduceSub, Array.replicate_succ, Array.replicate_zero, List.push_toArray, List.append_toArray, List.nil_append, List.cons_append]
  apply wpS_seq
  apply wpS_region
  simp only [ENDED] at hu
  simp [wpOpsS, go_sem, recoverD, hu, Exit.thenS]
  apply wpS_seq
  apply wpS_region
  simp [wpOpsS, go_sem, Exit.thenS]
  refine wpS_cond (t := true) (by simp [Act.eval]) ?_
  simp only [if_true]
  refine wpS_of_wp ?_
  clear hst
  go_wp2_with (first | (refine wpList_store_row rfl 30 (.tmp 0) (.tmp 6) rfl p 30 old #[.int .i64 0, .int .i64 0, .int .i64 0, .int .i64 0, .int .u64 0, .int .u64 0, .bool false, .int .i64 0, .int .i64 0, .int .i64 0, .slice none 0 0, .int .i64 0, .slice none 0 0] rfl rfl hp info30 ho (by simp [Value.oneCell']) ?_) | fail)
  simp [bodyPostS, results, Try.results37]
theorem idle_p (p q : Nat) (w : World) : CallsD Try.prog 37 #[.pointer (some ⟨p, 0, none⟩), .pointer (some ⟨q, 0, none⟩)] .returning w fun e u' w' => e = .returned (.tuple #[]) ∧ u' = .returning ∧ w' = w := by
  refine callsD_of_wpS Try.func37 rfl fun c₀ cs hu => ?_
  simp only [Try.ntmps37, List.size_toArray, List.length_cons, List.length_nil, Nat.reduceAdd, Nat.reduceSub, Array.replicate_succ, Array.replicate_zero, List.push_toArray, List.append_toArray, List.nil_append, List.cons_append]
  apply wpS_seq
  apply wpS_region
  simp [wpOpsS, go_sem, recoverD, hu, Exit.thenS]
  apply wpS_seq
  apply wpS_region
  simp [wpOpsS, go_sem, Exit.thenS]
  refine wpS_cond (t := false) (by simp [Act.eval]) ?_
  simp only [Bool.false_eq_true, if_false]
  refine wpS_of_wp (wp_skip ?_)
  cases c₀
  simp_all [bodyPostS, results, Try.results37]
set_option maxHeartbeats 4000000 in
theorem catch_r (p q : Nat) (w : World) (old : Array Value) (x : Int) (hp : w.heap[p]? = some (.cells old 45)) (ho : old.size = 6) (hq : w.heap[q]? = some (.cells #[.int .i64 x] 31)) (hpq : p ≠ q) :
    CallsD Try.prog 45 #[.pointer (some ⟨p, 0, none⟩), .pointer (some ⟨q, 0, none⟩)] (.panicking ENDED) w fun e u' w' =>
      e = .returned (.tuple #[]) ∧ u' = .panicking [{ v := .iface 105 (.agg #[]), recovered := true }] ∧ w' = (w.setRow p #[.int .i64 0, .int .i64 0, .int .u64 0, .int .u64 0, .slice none 0 0, .int .i64 0]).setCell ⟨q, 0, none⟩ (.int .i64 1) := by
  have hst := run_storeVar_row (P := Try.prog) w p 45 45 old #[.int .i64 0, .int .i64 0, .int .u64 0, .int .u64 0, .slice none 0 0, .int .i64 0] hp info45 ho (by simp [Value.oneCell'])
  have hq2 : (w.setRow p #[.int .i64 0, .int .i64 0, .int .u64 0, .int .u64 0, .slice none 0 0, .int .i64 0]).heap[q]? = some (.cells #[.int .i64 x] 31) := (setRow_other w p q _ hpq.symm).trans hq
  have y0 : (w.setRow p #[.int .i64 0, .int .i64 0, .int .u64 0, .int .u64 0, .slice none 0 0, .int .i64 0]).cell? ⟨q, 0, none⟩ = some (.int .i64 x) := cell_row hq2 rfl
  have z0 : (w.setRow p #[.int .i64 0, .int .i64 0, .int .u64 0, .int .u64 0, .slice none 0 0, .int .i64 0]).frozen? ⟨q, 0, none⟩ = false := free_row hq2
  refine callsD_of_wpS Try.func45 rfl fun c₀ cs hu => ?_
  simp only [Try.ntmps45, List.size_toArray, List.length_cons, List.length_nil, Nat.reduceAdd, Nat.reduceSub, Array.replicate_succ, Array.replicate_zero, List.push_toArray, List.append_toArray, List.nil_append, List.cons_append]
  apply wpS_seq
  apply wpS_region
  simp only [ENDED] at hu
  simp [wpOpsS, go_sem, recoverD, hu, Exit.thenS]
  apply wpS_seq
  apply wpS_region
  simp [wpOpsS, go_sem, Exit.thenS]
  refine wpS_cond (t := true) (by simp [Act.eval]) ?_
  simp only [if_true]
  refine wpS_of_wp ?_
  clear hst
  go_wp2_with (first | (refine wpList_store_row rfl 45 (.tmp 0) (.tmp 6) rfl p 45 old #[.int .i64 0, .int .i64 0, .int .u64 0, .int .u64 0, .slice none 0 0, .int .i64 0] rfl rfl hp info45 ho (by simp [Value.oneCell']) ?_) | fail)
  simp [bodyPostS, results, Try.results45]
theorem idle_r (p q : Nat) (w : World) : CallsD Try.prog 45 #[.pointer (some ⟨p, 0, none⟩), .pointer (some ⟨q, 0, none⟩)] .returning w fun e u' w' => e = .returned (.tuple #[]) ∧ u' = .returning ∧ w' = w := by
  refine callsD_of_wpS Try.func45 rfl fun c₀ cs hu => ?_
  simp only [Try.ntmps45, List.size_toArray, List.length_cons, List.length_nil, Nat.reduceAdd, Nat.reduceSub, Array.replicate_succ, Array.replicate_zero, List.push_toArray, List.append_toArray, List.nil_append, List.cons_append]
  apply wpS_seq
  apply wpS_region
  simp [wpOpsS, go_sem, recoverD, hu, Exit.thenS]
  apply wpS_seq
  apply wpS_region
  simp [wpOpsS, go_sem, Exit.thenS]
  refine wpS_cond (t := false) (by simp [Act.eval]) ?_
  simp only [Bool.false_eq_true, if_false]
  refine wpS_of_wp (wp_skip ?_)
  cases c₀
  simp_all [bodyPostS, results, Try.results45]
end Go.Proofs.Ytfpkdbogapmhmaa.O

/- WalkKeeps: the walk. Own text; Ytkmmpagflbnenaa and the numbers between @..@ are the seat's. -/
import Derived.Test.YtkmmpagflbnenaaWbB
import Derived.Test.YtkmmpagflbnenaaWchain
namespace Go.Proofs.Ytkmmpagflbnenaa.Kin
open Go.RowKit Go.Proofs.Ytkmmpagflbnenaa.Mem
set_option linter.unusedVariables false
theorem apart3 (w5 w6 w7 w8 : World) (m j : Nat) (l : List Int) (hl : l.length = m) (hm : m ≤ 1024) (h0 : 0 < m) (hj : j ≤ m) (A Aa Ab Ac : Option Addr) (c ca cb cc : Nat)
    (ow : w5.ownsRow 0 3 1 (.slice A m c) m (l.map i64)) (oa : w6.ownsRow 0 3 1 (.slice Aa m ca) m (l.map i64)) (ba : Below w5.heap.size w5 w6) (fa : Fresh w5 (.slice Aa m ca))
    (ob : w7.ownsRow 0 3 1 (.slice Ab j cb) j ((l.take j).map i64)) (bb : Below w6.heap.size w6 w7) (fb : Fresh w6 (.slice Ab j cb))
    (oc : w8.ownsRow 0 3 1 (.slice Ac m cc) m (l.map i64)) (bc : Below w7.heap.size w7 w8) (fc : Fresh w7 (.slice Ac m cc)) :
    Calls Try.prog 29 #[.slice (some ⟨w8.heap.size, 0, none⟩) 3 3, .slice (some ⟨w8.heap.size + 1, 0, none⟩) 3 3] ((w8.alloc (.cells #[.slice Aa m ca, .slice Ab j cb, .slice Ac m cc] 34)).alloc (.cells #[.slice A m c, .slice A j c, .slice A m c] 34)) fun e w' => e = .returned (.bool true) ∧ Below w5.heap.size w5 w' := by
  obtain ⟨W, hW⟩ : ∃ W, (w8.alloc (.cells #[.slice Aa m ca, .slice Ab j cb, .slice Ac m cc] 34)).alloc (.cells #[.slice A m c, .slice A j c, .slice A m c] 34) = W := ⟨_, rfl⟩
  have b8 : Below w8.heap.size w8 W := by rw [← hW]; exact ((Below.refl _ w8).alloc (Nat.le_refl _) _).alloc (by simp) _
  have rG : W.heap[w8.heap.size]? = some (.cells #[.slice Aa m ca, .slice Ab j cb, .slice Ac m cc] 34) := by
    rw [← hW]
    exact (((Below.refl _ (w8.alloc (.cells #[.slice Aa m ca, .slice Ab j cb, .slice Ac m cc] 34))).alloc (Nat.le_refl _) _).block _ (by simp)).trans (heap_alloc_new w8 _)
  have rH : W.heap[w8.heap.size + 1]? = some (.cells #[.slice A m c, .slice A j c, .slice A m c] 34) := by
    rw [← hW]
    have := heap_alloc_new (w8.alloc (.cells #[.slice Aa m ca, .slice Ab j cb, .slice Ac m cc] 34)) (.cells #[.slice A m c, .slice A j c, .slice A m c] 34)
    simpa using this
  rw [hW]
  clear hW
  have s56 := ba.size
  have s67 := bb.size
  have s78 := bc.size
  have ow8 := own_keeps (own_keeps (own_keeps (own_keeps ow (Kept.of_below ba)) (Kept.of_below bb)) (Kept.of_below bc)) (Kept.of_below b8)
  have oa8 := own_keeps (own_keeps (own_keeps oa (Kept.of_below bb)) (Kept.of_below bc)) (Kept.of_below b8)
  have ob8 := own_keeps (own_keeps ob (Kept.of_below bc)) (Kept.of_below b8)
  have oc8 := own_keeps oc (Kept.of_below b8)
  have la : ∀ b, (Value.slice Aa m ca).ownBlock = some b → w5.heap.size ≤ b ∧ b < w6.heap.size := fun b hb => ⟨fa b hb, own_lt oa b hb⟩
  have lb : ∀ b, (Value.slice Ab j cb).ownBlock = some b → w6.heap.size ≤ b ∧ b < w7.heap.size := fun b hb => ⟨fb b hb, own_lt ob b hb⟩
  have lc : ∀ b, (Value.slice Ac m cc).ownBlock = some b → w7.heap.size ≤ b ∧ b < w8.heap.size := fun b hb => ⟨fc b hb, own_lt oc b hb⟩
  obtain ⟨g, rfl⟩ := own_block ow8 h0
  have ra := reads_own hl ow8
  have rb := reads_take ow8 hl j hj
  have hlj : (l.take j).length = j := by simp; omega
  refine (apart_any W 3 (by decide) (fun k => if k = 0 then .slice Aa m ca else if k = 1 then .slice Ab j cb else .slice Ac m cc) (fun k => if k = 1 then .slice (some ⟨g, 0, none⟩) j c else .slice (some ⟨g, 0, none⟩) m c) (fun k => if k = 1 then j else m) (fun k => if k = 1 then l.take j else l) ⟨fun k hk => ?_, fun k i b hk hi h1 h2 => ?_⟩ (fun k hk => ?_) (fun k hk => ?_) (fun k hk => ?_) w8.heap.size 0 3 (w8.heap.size + 1) 0 3 (fun k hk => ?_) (fun k hk => ?_) (fun k hk e => ?_) (lt_of_row rG)).mono ?_
  · rcases k with _ | _ | _ | k
    · exact oa8
    · exact ob8
    · exact oc8
    · omega
  · rcases k with _ | _ | _ | k <;> rcases i with _ | _ | _ | i
    all_goals first
      | rfl
      | (exfalso; omega)
      | (exfalso; have := la b h1; have := lb b h2; omega)
      | (exfalso; have := lb b h1; have := la b h2; omega)
      | (exfalso; have := la b h1; have := lc b h2; omega)
      | (exfalso; have := lc b h1; have := la b h2; omega)
      | (exfalso; have := lb b h1; have := lc b h2; omega)
      | (exfalso; have := lc b h1; have := lb b h2; omega)
  · rcases k with _ | _ | _ | k
    · exact hl
    · exact hlj
    · exact hl
    · omega
  · rcases k with _ | _ | _ | k
    · exact ra
    · exact rb
    · exact ra
    · omega
  · rcases k with _ | _ | _ | k
    · show m ≤ 1000000; omega
    · show j ≤ 1000000; omega
    · show m ≤ 1000000; omega
    · omega
  · rcases k with _ | _ | _ | k
    · exact cell_row rG rfl
    · exact cell_row rG rfl
    · exact cell_row rG rfl
    · omega
  · rcases k with _ | _ | _ | k
    · exact cell_row rH rfl
    · exact cell_row rH rfl
    · exact cell_row rH rfl
    · omega
  · rcases k with _ | _ | _ | k
    · have := la _ e; omega
    · have := lb _ e; omega
    · have := lc _ e; omega
    · omega
  · rintro e w' ⟨rfl, hk⟩
    have h58 : Below w5.heap.size w5 W := ((ba.trans (bb.mono s56)).trans (bc.mono (by omega))).trans (b8.mono (by omega))
    refine ⟨rfl, h58.trans (hk.below (fun b hb => ?_) h58.size)⟩
    obtain ⟨k, hk, e⟩ := hb
    rcases k with _ | _ | _ | k
    · exact (la b e).1
    · have := (lb b e).1; omega
    · have := (lc b e).1; omega
    · omega
end Go.Proofs.Ytkmmpagflbnenaa.Kin

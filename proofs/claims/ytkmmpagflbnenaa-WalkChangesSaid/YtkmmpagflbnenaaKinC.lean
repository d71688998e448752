/- Delete. Own text; Ytkmmpagflbnenaa and the numbers between @..@ are the seat's. -/
import Derived.Test.YtkmmpagflbnenaaKinB
import Derived.OwnWalk
namespace Go.Proofs.Ytkmmpagflbnenaa.Kin
open Go.RowKit Go.Proofs.Ytkmmpagflbnenaa.Mem
set_option linter.unusedVariables false
set_option maxHeartbeats 4000000 in
theorem delete_any (w : World) (v : Value) (n : Nat) (A B : List Int) (x : Int) (hown : w.ownsRow 0 3 1 v n ((A ++ x :: B).map i64)) (hb : n ≤ 1000000) :
    Calls Try.prog 45 #[v, .int .i64 A.length, .int .i64 ((A.length : Int) + 1)] w fun e w' => ∃ v', e = .returned v' ∧ w'.ownsRow 0 3 1 v' (A ++ B).length ((A ++ B).map i64) ∧ v'.ownBlock = v.ownBlock ∧ Kept (fun b => v.ownBlock = some b) w w' := by
  obtain ⟨Ad, c, rfl, hnc⟩ := own_slice hown
  have hl : A.length + 1 + B.length = n := by have := hown.1; simp at this; omega
  have hcm := own_max hown
  obtain ⟨g, c', cur, e, hg, hc1, hc2, hsz, htk, hcell⟩ := own_form hown (by omega)
  obtain ⟨rfl, rfl⟩ : Ad = some ⟨g, 0, none⟩ ∧ c = c' := by simpa using e
  obtain ⟨a, ha⟩ : ∃ a, A.length = a := ⟨_, rfl⟩
  obtain ⟨b, hbb⟩ : ∃ b, B.length = b := ⟨_, rfl⟩
  have HA := Lib.hid ha
  have HBL := Lib.hid hbb
  unfold maxLen at hc2
  have HO : Hid (w.drew.ownsRow 0 3 1 (.slice (some ⟨g, 0, none⟩) a c) a (A.map i64)) := by
    refine ⟨by simp [ha], .inr ⟨g, c, cur, rfl, Nat.zero_le _, hg, by omega, by unfold maxLen; omega, hsz, ?_⟩⟩
    rw [Nat.mul_one] at htk ⊢
    have : cur.toList.take a = (cur.toList.take n).take a := by rw [List.take_take, Nat.min_eq_left (by omega)]
    rw [this, htk, List.map_append, List.take_append_of_le_length (by simp [ha]), List.take_of_length_le (by simp [ha])]
  have HS : Hid (Holds w.drew (some ⟨g, a + 1, none⟩) (B.map i64)) := fun hp => ⟨_, rfl, fun j u hu => by
    have e2 : (⟨g, a + 1, none⟩ : Addr).add j = ⟨g, a + 1 + j, none⟩ := by unfold Addr.add; split <;> simp_all
    rw [e2]
    refine hcell (a + 1 + j) u ?_
    rw [List.map_append, List.getElem?_append_right (by simp; omega)]
    rw [show a + 1 + j - (A.map i64).length = j + 1 by simp [ha]; omega]
    simpa using hu⟩
  have HG := Lib.hid hg
  have HZ := Lib.hid hsz
  clear hown e hcell htk hg hsz
  rw [ha] at hl
  rw [hbb] at hl
  rw [ha]
  clear ha hbb hcm
  have w1 : IntKind.i64.wrap ((a : Int) + 1) = (a : Int) + 1 := by rw [IntKind.wrap_i64]; omega
  by_cases hj : c = a + 1
  · have hb0 : b = 0 := by omega
    subst hb0
    have hn0 : n = a + 1 := by omega
    subst hn0 hj
    have hB : B = [] := List.eq_nil_of_length_eq_zero HBL.out
    subst hB
    have hj4 : (0 : Int) ≤ (a : Int) := by omega
    have hj5 : (a : Int) ≤ (a : Int) + 1 := by omega
    have hj6 : (0 : Int) ≤ (a : Int) + 1 := by omega
    have hj7 : a ≤ a + 1 := by omega
    go_enter Try.func45, Try.ntmps45
    go_wp2_with fail
    go_still_tail 6, (by kernel_rfl)
    change wpList _ _ _ _ _ w.drew
    refine list_app_fits rfl (.tmp 22) (.tmp 25) 34 rfl 3 0 _ 1 8 Try.underlying34 info_int (by decide) g a (a + 1) (A.map i64) rfl HO.out (some ⟨g, 0, none⟩) 0 _ ([].map i64) rfl (by first | (simp; done) | (simp; exact HBL.out)) (fun hp => by simp at hp) one64 (by omega) ?_
    intro w2 hown2 hgrow2
    obtain ⟨cur2, hg2, hsz2, htk2⟩ : ∃ cur2, w2.heap[g]? = some (.cells cur2 3 (0, 0)) ∧ cur2.size = (a + 1) * 1 ∧ cur2.toList.take ((a + 0) * 1) = A.map i64 ++ [].map i64 := by
      rcases hown2.2 with ⟨h1, _⟩ | ⟨g', c', cu, h1, _, h2, _, _, h3, h4⟩
      · simp at h1
      · obtain ⟨rfl, rfl⟩ : g = g' ∧ (a + 1) = c' := by simpa using h1
        exact ⟨cu, h2, h3, h4⟩
    have HG2 := Lib.hid hg2
    have HZ2 := Lib.hid hsz2
    have HT2 := Lib.hid htk2
    have HK2 : Hid (Kept (fun b => b = g) w w2) := ((Kept.refl (fun b => b = g) w).drew).grown hgrow2 (fun k hk => .inl (Option.some.inj hk).symm)
    clear hg2 hsz2 htk2 hown2 hgrow2
    go_wp2_with (refine list_clear1 rfl (.tmp 31) rfl g (a + 0) cur2 3 HG2.out (by have := HZ2.out; omega) _ _ rfl (by omega) ?_; intro w3 h3 hg3 hs3; have H3 := Lib.hid h3; have HK3 : Hid (Kept (fun b => b = g) w w3) := HK2.out.grown hg3 (fun k hk => .inl (Option.some.inj hk).symm); clear h3 hg3 hs3)
    go_ret
    refine ⟨_, rfl, ?_, rfl, HK3.out.mono (fun b hb => by show some g = some b; rw [hb])⟩
    have hz := HZ2.out
    have ht := HT2.out
    refine ⟨by simp, .inr ⟨g, (a + 1), _, ?_, Nat.zero_le _, H3.out, ?_, by unfold maxLen; omega, ?_, ?_⟩⟩
    · rw [List.length_append, HA.out, HBL.out]; rfl
    · rw [List.length_append, HA.out, HBL.out]; omega
    · simp; omega
    · rw [List.length_append, HA.out, HBL.out, Nat.mul_one]
      rw [Nat.mul_one] at ht
      simp only [List.append_assoc]
      rw [List.take_append_of_le_length (by simp; omega), List.take_take, Nat.min_self, ht, List.map_append]
  · have hj2 : a + 1 < c := by omega
    have hj3 : ((a : Int) + 1) < (c : Int) := by omega
    have hj4 : (0 : Int) ≤ (a : Int) := by omega
    have hj5 : (a : Int) ≤ (c : Int) := by omega
    have hnab : n = a + b + 1 := by omega
    subst hnab
    have hj6 : (0 : Int) ≤ (a : Int) + 1 := by omega
    have hj7 : (a : Int) + 1 ≤ (a : Int) + (b : Int) + 1 := by omega
    have hj8 : (a : Int) + (b : Int) + 1 ≤ (c : Int) := by omega
    have hj9 : a + 1 ≤ a + b + 1 := by omega
    go_enter Try.func45, Try.ntmps45
    go_wp2_with fail
    go_still_tail 6, (by kernel_rfl)
    change wpList _ _ _ _ _ w.drew
    refine list_app_fits rfl (.tmp 22) (.tmp 25) 34 rfl 3 0 _ 1 8 Try.underlying34 info_int (by decide) g a c (A.map i64) rfl HO.out (some ⟨g, a + 1, none⟩) b _ (B.map i64) rfl (by first | (simp; done) | (simp; exact HBL.out)) HS.out one64 (by omega) ?_
    intro w2 hown2 hgrow2
    obtain ⟨cur2, hg2, hsz2, htk2⟩ : ∃ cur2, w2.heap[g]? = some (.cells cur2 3 (0, 0)) ∧ cur2.size = c * 1 ∧ cur2.toList.take ((a + b) * 1) = A.map i64 ++ B.map i64 := by
      rcases hown2.2 with ⟨h1, _⟩ | ⟨g', c', cu, h1, _, h2, _, _, h3, h4⟩
      · simp at h1
      · obtain ⟨rfl, rfl⟩ : g = g' ∧ c = c' := by simpa using h1
        exact ⟨cu, h2, h3, h4⟩
    have HG2 := Lib.hid hg2
    have HZ2 := Lib.hid hsz2
    have HT2 := Lib.hid htk2
    have HK2 : Hid (Kept (fun b => b = g) w w2) := ((Kept.refl (fun b => b = g) w).drew).grown hgrow2 (fun k hk => .inl (Option.some.inj hk).symm)
    clear hg2 hsz2 htk2 hown2 hgrow2
    go_wp2_with (refine list_clear1 rfl (.tmp 31) rfl g (a + b) cur2 3 HG2.out (by have := HZ2.out; omega) _ _ rfl (by omega) ?_; intro w3 h3 hg3 hs3; have H3 := Lib.hid h3; have HK3 : Hid (Kept (fun b => b = g) w w3) := HK2.out.grown hg3 (fun k hk => .inl (Option.some.inj hk).symm); clear h3 hg3 hs3)
    go_ret
    refine ⟨_, rfl, ?_, rfl, HK3.out.mono (fun b hb => by show some g = some b; rw [hb])⟩
    have hz := HZ2.out
    have ht := HT2.out
    refine ⟨by simp, .inr ⟨g, c, _, ?_, Nat.zero_le _, H3.out, ?_, by unfold maxLen; omega, ?_, ?_⟩⟩
    · rw [List.length_append, HA.out, HBL.out]; rfl
    · rw [List.length_append, HA.out, HBL.out]; omega
    · simp; omega
    · rw [List.length_append, HA.out, HBL.out, Nat.mul_one]
      rw [Nat.mul_one] at ht
      simp only [List.append_assoc]
      rw [List.take_append_of_le_length (by simp; omega), List.take_take, Nat.min_self, ht, List.map_append]
end Go.Proofs.Ytkmmpagflbnenaa.Kin

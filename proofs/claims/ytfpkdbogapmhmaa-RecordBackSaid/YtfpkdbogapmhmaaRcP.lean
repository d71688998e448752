/- The record's plain law: a call's form, its bytes, what is read of bytes; replies. -/
import Derived.Test.YtfpkdbogapmhmaaOc11
namespace Go.Proofs.Ytfpkdbogapmhmaa.O
open Go.RowKit
set_option linter.unusedVariables false
structure Cl where
  op : Int
  by' : Int
  sz : Int
  obj : Int
  hi : Int
  lo : Int
  gv : Bool
  rt : Int
  off : Int
  n : Int
  da : List Int
  ix : Int
  gi : List Int
deriving DecidableEq
def zc : Cl := ⟨0, 0, 0, 0, 0, 0, false, 0, 0, 0, [], 0, []⟩
/-- What of a call its Op does not use. -/
def restC (c : Cl) : Cl :=
  if c.op = 1 then { c with sz := 0, op := 0, by' := 0 }
  else if c.op = 2 ∨ c.op = 4 ∨ c.op = 7 then { c with obj := 0, hi := 0, lo := 0, op := 0, by' := 0 }
  else if c.op = 3 then { c with obj := 0, hi := 0, lo := 0, rt := 0, op := 0, by' := 0 }
  else if c.op = 5 then { c with obj := 0, hi := 0, lo := 0, gv := false, off := 0, n := 0, op := 0, by' := 0 }
  else if c.op = 6 then { c with obj := 0, hi := 0, lo := 0, gv := false, off := 0, da := [], op := 0, by' := 0 }
  else if c.op = 8 then { c with ix := 0, op := 0, by' := 0 }
  else if c.op = 9 then { c with gi := [], op := 0, by' := 0 }
  else { c with op := 0, by' := 0 }
def wide1 (c : Cl) : Prop := (1 ≤ c.op ∧ c.op ≤ 10) ∧ (0 ≤ c.by' ∧ c.by' ≤ 65535) ∧ (-2147483648 ≤ c.sz ∧ c.sz ≤ 2147483647) ∧ (-2147483648 ≤ c.off ∧ c.off ≤ 2147483647) ∧ (-2147483648 ≤ c.n ∧ c.n ≤ 2147483647)
def wide2 (c : Cl) : Prop := (0 ≤ c.obj ∧ c.obj ≤ 4611686018427387904) ∧ (0 ≤ c.rt ∧ c.rt ≤ 255) ∧ (0 ≤ c.ix ∧ c.ix ≤ 65535) ∧ c.gi.length ≤ 255 ∧ c.da.length ≤ 1025
def wide3 (c : Cl) : Prop := ∀ g ∈ c.gi, 0 ≤ g ∧ g ≤ 65535
def nopass (c : Cl) : Prop := (c.op = 5 ∨ c.op = 6) → c.gv = false → c.hi = 0 ∧ c.lo = 0
instance (c : Cl) : Decidable (wide1 c) := by unfold wide1; infer_instance
instance (c : Cl) : Decidable (wide2 c) := by unfold wide2; infer_instance
instance (c : Cl) : Decidable (wide3 c) := by unfold wide3; infer_instance
instance (c : Cl) : Decidable (nopass c) := by unfold nopass; infer_instance
def form (c : Cl) : Prop := wide1 c ∧ wide2 c ∧ wide3 c ∧ nopass c ∧ restC c = zc
instance (c : Cl) : Decidable (form c) := by unfold form; infer_instance
def s32 (v : Int) : Int := v % 4294967296
def b1 (g : Bool) : Int := if g then 1 else 0
def mvB (c : Cl) : List Int := le 8 c.obj ++ le 1 (b1 c.gv) ++ wordB c.hi c.lo ++ le 4 (s32 c.off)
def giB (l : List Int) : List Int := l.flatMap (le 2)
def bodyB (c : Cl) : List Int :=
  if c.op = 1 then le 4 (s32 c.sz)
  else if c.op = 2 ∨ c.op = 4 ∨ c.op = 7 then capB c.obj c.hi c.lo
  else if c.op = 3 then capB c.obj c.hi c.lo ++ le 1 c.rt
  else if c.op = 5 then mvB c ++ le 4 (s32 c.n)
  else if c.op = 6 then mvB c ++ c.da
  else if c.op = 8 then le 2 c.ix
  else if c.op = 9 then le 1 c.gi.length ++ giB c.gi
  else []
def enc (c : Cl) : List Int := le 1 c.op ++ le 2 c.by' ++ bodyB c
/-- A number of k bytes (below 2 to the 63). -/
def num (k : Nat) (l : List Int) : Option (Int × List Int) := if l.length < k then none else if val (l.take k) > 9223372036854775807 then none else some (val (l.take k), l.drop k)
def sgn (v : Int) : Int := if v ≥ 2147483648 then v - 4294967296 else v
def capR (l : List Int) : Option ((Int × Int × Int) × List Int) := if l.length < 24 then none else if val (l.take 8) > 4611686018427387904 then none else some ((val (l.take 8), val ((l.drop 16).take 8), val ((l.drop 8).take 8)), l.drop 24)
def wordR' (l : List Int) : Option ((Int × Int) × List Int) := if l.length < 16 then none else some ((val ((l.drop 8).take 8), val (l.take 8)), l.drop 16)
def mvR (c : Cl) (l : List Int) : Option (Cl × List Int) :=
  (num 8 l).bind fun x => (num 1 x.2).bind fun y => (wordR' y.2).bind fun z => (num 4 z.2).bind fun u => some ({ c with obj := x.1, gv := decide (y.1 ≠ 0), hi := z.1.1, lo := z.1.2, off := sgn u.1 }, u.2)
def giR : Nat → List Int → Option (List Int)
  | 0, _ => some []
  | k + 1, l => (num 2 l).bind fun x => (giR k x.2).map (x.1 :: ·)
def bodyR (c : Cl) (l : List Int) : Option Cl :=
  if c.op = 1 then (num 4 l).map fun x => { c with sz := sgn x.1 }
  else if c.op = 2 ∨ c.op = 4 ∨ c.op = 7 then (capR l).map fun x => { c with obj := x.1.1, hi := x.1.2.1, lo := x.1.2.2 }
  else if c.op = 3 then (capR l).bind fun x => (num 1 x.2).map fun y => { c with obj := x.1.1, hi := x.1.2.1, lo := x.1.2.2, rt := y.1 }
  else if c.op = 5 then (mvR c l).bind fun x => (num 4 x.2).map fun y => { x.1 with n := sgn y.1 }
  else if c.op = 6 then (mvR c l).map fun x => { x.1 with da := x.2 }
  else if c.op = 8 then (num 2 l).map fun x => { c with ix := x.1 }
  else if c.op = 9 then (num 1 l).bind fun x => (giR x.1.toNat x.2).map fun g => { c with gi := g }
  else some c
def readC (l : List Int) : Option Cl := (num 1 l).bind fun x => (num 2 x.2).bind fun y => bodyR { zc with op := x.1, by' := y.1 } y.2
def parseC (l : List Int) : Option Cl := match readC l with
  | some c => if form c ∧ enc c = l then some c else none
  | none => none

/-! What is written is read. -/
theorem num_le (k : Nat) (v : Int) (r : List Int) (h0 : 0 ≤ v) (h1 : v < 256 ^ k) (h2 : v ≤ 9223372036854775807) : num k (le k v ++ r) = some (v, r) := by
  unfold num
  have e1 : (le k v ++ r).take k = le k v := by rw [List.take_left' (le_len k v)]
  have e2 : (le k v ++ r).drop k = r := by rw [List.drop_left' (le_len k v)]
  rw [e1, e2, val_le k v h0 h1, if_neg (by rw [List.length_append, le_len]; omega), if_neg (by omega)]
theorem word_le (hi lo : Int) (r : List Int) (h : U64 hi) (l : U64 lo) : wordR' (wordB hi lo ++ r) = some ((hi, lo), r) := by
  unfold wordR' wordB
  have h8 : (le 8 lo).length = 8 := le_len 8 lo
  have h8' : (le 8 hi).length = 8 := le_len 8 hi
  rw [if_neg (by simp only [List.length_append, le_len]; omega)]
  rw [List.append_assoc, List.take_left' h8, List.drop_left' h8, List.take_left' h8', val_le 8 lo l.1 (by have := l.2; omega), val_le 8 hi h.1 (by have := h.2; omega)]
  rw [← List.append_assoc, List.drop_left' (by simp [le_len])]
theorem cap_le (obj hi lo : Int) (r : List Int) (h0 : 0 ≤ obj) (h1 : obj ≤ 4611686018427387904) (h : U64 hi) (l : U64 lo) : capR (capB obj hi lo ++ r) = some ((obj, hi, lo), r) := by
  unfold capR capB wordB
  have hb : (le 8 obj).length = 8 := le_len 8 obj
  have h8 : (le 8 lo).length = 8 := le_len 8 lo
  have h8' : (le 8 hi).length = 8 := le_len 8 hi
  rw [if_neg (by simp only [List.length_append, le_len]; omega)]
  have e1 : (le 8 obj ++ (le 8 lo ++ le 8 hi) ++ r).take 8 = le 8 obj := by rw [List.append_assoc, List.take_left' hb]
  have e2 : (le 8 obj ++ (le 8 lo ++ le 8 hi) ++ r).drop 8 = le 8 lo ++ (le 8 hi ++ r) := by rw [List.append_assoc, List.drop_left' hb, List.append_assoc]
  have e3 : (le 8 obj ++ (le 8 lo ++ le 8 hi) ++ r).drop 16 = le 8 hi ++ r := by
    rw [show 16 = 8 + 8 from rfl, ← List.drop_drop, e2, List.drop_left' h8]
  have e4 : (le 8 obj ++ (le 8 lo ++ le 8 hi) ++ r).drop 24 = r := by
    rw [show 24 = 16 + 8 from rfl, ← List.drop_drop, e3, List.drop_left' h8']
  rw [e1, e2, e3, e4, List.take_left' h8, List.take_left' h8', val_le 8 obj h0 (by omega), val_le 8 lo l.1 (by have := l.2; omega), val_le 8 hi h.1 (by have := h.2; omega), if_neg (by omega)]
theorem sgn_s32 {v : Int} (h0 : -2147483648 ≤ v) (h1 : v ≤ 2147483647) : sgn (s32 v) = v := by
  unfold sgn s32; split <;> omega
theorem s32_lo (v : Int) : 0 ≤ s32 v := by unfold s32; omega
theorem s32_hi (v : Int) : s32 v < 4294967296 := by unfold s32; omega
theorem mv_le (c d : Cl) (r : List Int) (h0 : 0 ≤ c.obj) (h1 : c.obj ≤ 4611686018427387904) (h : U64 c.hi) (l : U64 c.lo) (o0 : -2147483648 ≤ c.off) (o1 : c.off ≤ 2147483647) : mvR d (mvB c ++ r) = some ({ d with obj := c.obj, gv := c.gv, hi := c.hi, lo := c.lo, off := c.off }, r) := by
  unfold mvR mvB
  rw [List.append_assoc, List.append_assoc, List.append_assoc, num_le 8 c.obj _ h0 (by omega) (by omega)]
  have hg : 0 ≤ b1 c.gv ∧ b1 c.gv < 256 ∧ decide (b1 c.gv ≠ 0) = c.gv := by cases c.gv <;> decide
  simp only [Option.bind_some]
  rw [num_le 1 _ _ hg.1 (by omega) (by omega)]
  simp only [Option.bind_some]
  rw [word_le _ _ _ h l]
  simp only [Option.bind_some]
  rw [num_le 4 _ _ (s32_lo _) (by have := s32_hi c.off; omega) (by have := s32_hi c.off; omega)]
  simp only [Option.bind_some]
  rw [hg.2.2, sgn_s32 o0 o1]
theorem gi_le : ∀ (l : List Int) (r : List Int), (∀ g ∈ l, 0 ≤ g ∧ g ≤ 65535) → giR l.length (giB l ++ r) = some l
  | [], r, _ => rfl
  | g :: l, r, h => by
    have hg := h g (by simp)
    show giR (l.length + 1) (le 2 g ++ giB l ++ r) = _
    unfold giR
    rw [List.append_assoc, num_le 2 g _ hg.1 (by omega) (by omega)]
    simp only [Option.bind_some]
    rw [gi_le l r (fun x hx => h x (by simp [hx]))]
    rfl
theorem body_enc (c : Cl) (hf : form c) (h : U64 c.hi) (l : U64 c.lo) : bodyR { zc with op := c.op, by' := c.by' } (bodyB c) = some c := by
  obtain ⟨⟨ho, hb, hsz, hoff, hn⟩, ⟨hob, hrt, hix, hgl, hdl⟩, hg, hp, hr⟩ := hf
  obtain ⟨op, by', sz, obj, hi, lo, gv, rt, off, n, da, ix, gi⟩ := c
  simp only at *
  unfold restC zc at hr
  simp only at hr
  have o10 : op = 1 ∨ op = 2 ∨ op = 3 ∨ op = 4 ∨ op = 5 ∨ op = 6 ∨ op = 7 ∨ op = 8 ∨ op = 9 ∨ op = 10 := by omega
  unfold bodyR bodyB zc
  have nl4 : ∀ v, num 4 (le 4 (s32 v)) = some (s32 v, []) := fun v => by
    have := num_le 4 (s32 v) [] (s32_lo v) (by have := s32_hi v; omega) (by have := s32_hi v; omega)
    rwa [List.append_nil] at this
  rcases o10 with rfl | rfl | rfl | rfl | rfl | rfl | rfl | rfl | rfl | rfl
  · simp at hr
    obtain ⟨rfl, rfl, rfl, rfl, rfl, rfl, rfl, rfl, rfl, rfl⟩ := hr
    simp [nl4, sgn_s32 hsz.1 hsz.2]
  · simp at hr
    obtain ⟨rfl, rfl, rfl, rfl, rfl, rfl, rfl, rfl⟩ := hr
    have := cap_le obj hi lo [] hob.1 hob.2 h l
    rw [List.append_nil] at this
    simp [this]
  · simp at hr
    obtain ⟨rfl, rfl, rfl, rfl, rfl, rfl, rfl⟩ := hr
    have := num_le 1 rt [] hrt.1 (by omega) (by omega)
    rw [List.append_nil] at this
    simp [cap_le obj hi lo _ hob.1 hob.2 h l, this]
  · simp at hr
    obtain ⟨rfl, rfl, rfl, rfl, rfl, rfl, rfl, rfl⟩ := hr
    have := cap_le obj hi lo [] hob.1 hob.2 h l
    rw [List.append_nil] at this
    simp [this]
  · simp at hr
    obtain ⟨rfl, rfl, rfl, rfl, rfl⟩ := hr
    have := mv_le ⟨5, by', 0, obj, hi, lo, gv, 0, off, n, [], 0, []⟩ ⟨5, by', 0, 0, 0, 0, false, 0, 0, 0, [], 0, []⟩ (le 4 (s32 n)) hob.1 hob.2 h l hoff.1 hoff.2
    simp [this, nl4, sgn_s32 hn.1 hn.2]
  · simp at hr
    obtain ⟨rfl, rfl, rfl, rfl, rfl⟩ := hr
    have := mv_le ⟨6, by', 0, obj, hi, lo, gv, 0, off, 0, da, 0, []⟩ ⟨6, by', 0, 0, 0, 0, false, 0, 0, 0, [], 0, []⟩ da hob.1 hob.2 h l hoff.1 hoff.2
    simp [this]
  · simp at hr
    obtain ⟨rfl, rfl, rfl, rfl, rfl, rfl, rfl, rfl⟩ := hr
    have := cap_le obj hi lo [] hob.1 hob.2 h l
    rw [List.append_nil] at this
    simp [this]
  · simp at hr
    obtain ⟨rfl, rfl, rfl, rfl, rfl, rfl, rfl, rfl, rfl, rfl⟩ := hr
    have := num_le 2 ix [] hix.1 (by omega) (by omega)
    rw [List.append_nil] at this
    simp [this]
  · simp at hr
    obtain ⟨rfl, rfl, rfl, rfl, rfl, rfl, rfl, rfl, rfl, rfl⟩ := hr
    have h1 := num_le 1 (gi.length : Int) (giB gi) (by omega) (by omega) (by omega)
    have h2 := gi_le gi [] hg
    rw [List.append_nil] at h2
    simp [h1, h2]
  · simp at hr
    obtain ⟨rfl, rfl, rfl, rfl, rfl, rfl, rfl, rfl, rfl, rfl, rfl⟩ := hr
    simp
theorem read_enc (c : Cl) (hf : form c) (h : U64 c.hi) (l : U64 c.lo) : readC (enc c) = some c := by
  have ⟨⟨ho, hb, _⟩, _⟩ := hf
  unfold readC enc
  rw [List.append_assoc, num_le 1 c.op _ (by omega) (by omega) (by omega)]
  simp only [Option.bind_some]
  rw [num_le 2 c.by' _ (by omega) (by omega) (by omega)]
  simp only [Option.bind_some]
  exact body_enc c hf h l
end Go.Proofs.Ytfpkdbogapmhmaa.O

/- Words of operators: what they make of two words; which values are words. -/
import Derived.Test.YtiaoojghohfkjaaBVR
import Derived.Test.YtiaoojghohfkjaaBV4
namespace Go.Proofs.Ytiaoojghohfkjaa
set_option maxRecDepth 100000
set_option maxHeartbeats 4000000

/-- What the operators make of two words of a width. -/
def wordV {w : Nat} (n : Int) (x y : BitVec w) : BitVec w :=
  if n = 12 then x &&& y else if n = 13 then x ||| y else if n = 14 then x ^^^ y else if n = 15 then ~~~(x &&& y) else if n = 16 then ~~~(x ||| y) else if n = 17 then ~~~(x ^^^ y)
  else if n = 18 then x + y else if n = 19 then x - y else if n = 20 then x * y else if n = 21 then qB x y else if n = 22 then x % y else if n = 23 then sdivB x y else if n = 24 then sremB x y
  else if n = 25 then smodB x y else if n = 26 then x <<< shN y else if n = 27 then x >>> shN y else x.sshiftRight (shN y)
/-- Is it a word? -/
def isWd (w : Int) (l h : BitVec 64) : Bool := !decide (w = 0) && rightF w l h
theorem isWd_word {w : Int} {l h : BitVec 64} (hw : isWd w l h = true) : ∃ (n : Nat) (x : BitVec n), 1 ≤ n ∧ n ≤ 128 ∧ w = n ∧ l = lo (E x) ∧ h = hi (E x) := by
  unfold isWd rightF at hw
  simp only [Bool.and_eq_true, Bool.not_eq_true', decide_eq_false_iff_not] at hw
  obtain ⟨h0, h1⟩ := hw
  rw [if_neg h0] at h1
  simp only [Bool.and_eq_true, decide_eq_true_eq] at h1
  obtain ⟨⟨h2, h3⟩, h4⟩ := h1
  have hn : w.toNat ≤ 128 := by omega
  refine ⟨w.toNat, (mkN l h).setWidth w.toNat, by omega, hn, by omega, ?_, ?_⟩
  · rw [← cut_E hn, h4, lo_mk]
  · rw [← cut_E hn, h4, hi_mk]
theorem isWd_B {n : Nat} (h1 : 1 ≤ n) (hn : n ≤ 128) (x : BitVec n) : isWd n (lo (E x)) (hi (E x)) = true := by
  have e : mkN (lo (E x)) (hi (E x)) = E x := pair_ext (by rw [lo_mk]) (by rw [hi_mk])
  have h0 : ¬ (n : Int) = 0 := by omega
  unfold isWd rightF
  rw [if_neg h0, e, Int.toNat_natCast, cut_E hn, E_set hn]
  simp; omega
theorem bvword_run {w : Int} {l h : BitVec 64} {H : AHeap} : R f_bv_word [.agg [.int .i64 w, u l, u h]] H = some (.bool (isWd w l h), H) := by
  rw [e_bv_word]
  have r := fun H => bvRight_run (w := w) (l := l) (h := h) (H := H)
  unfold isWd
  by_cases c : w = 0
  · subst c; simp (maxDischargeDepth := 40) [c_bv_word]
  · simp (maxDischargeDepth := 40) [c_bv_word, c, r]
theorem topN_E {w : Nat} (h1 : 1 ≤ w) (hw : w ≤ 128) (x : BitVec w) : E x ^^^ topN w = E (x ^^^ BitVec.twoPow w (w - 1)) := by
  apply BitVec.eq_of_getLsbD_eq
  intro i hi
  rw [BitVec.getLsbD_xor, E_bit hw, E_bit hw, BitVec.getLsbD_xor, BitVec.getLsbD_twoPow, topN, BitVec.getLsbD_shiftLeft, BitVec.getLsbD_one]
  congr 1
  by_cases c : w - 1 = i
  · subst c
    have h2 : w - 1 < w := by omega
    simp [hi, h2]
  · have : ¬ i - (w - 1) = 0 ∨ i < w - 1 := by omega
    rcases this with h | h
    · simp [c, h]
    · simp [c, h]
/-- The orders. -/
def cn {w : Nat} (n : Int) (x y : BitVec w) : Bool :=
  if n = 29 ∨ n = 33 then decide (x < y) else if n = 30 ∨ n = 34 then !decide (y < x) else if n = 31 ∨ n = 35 then decide (y < x) else !decide (x < y)
theorem cmpF_cn {w : Nat} (h1 : 1 ≤ w) (hw : w ≤ 128) (n : Int) (a b : BitVec w) : cmpF n a b = if n = 33 ∨ n = 34 ∨ n = 35 ∨ n = 36 then cn n (a ^^^ BitVec.twoPow w (w - 1)) (b ^^^ BitVec.twoPow w (w - 1)) else cn n a b := by
  unfold cmpF cmpN cn
  rw [topN_E h1 hw, topN_E h1 hw]
  simp only [E_lt hw]
theorem twoF_word {w : Nat} (hw : w ≤ 128) {n : Int} (h : 12 ≤ n ∧ n ≤ 28) (a b : BitVec w) : twoF n a b = B (wordV n a b) := by
  rcases (show n = 12 ∨ n = 13 ∨ n = 14 ∨ n = 15 ∨ n = 16 ∨ n = 17 ∨ n = 18 ∨ n = 19 ∨ n = 20 ∨ n = 21 ∨ n = 22 ∨ n = 23 ∨ n = 24 ∨ n = 25 ∨ n = 26 ∨ n = 27 ∨ n = 28 by omega) with rfl | rfl | rfl | rfl | rfl | rfl | rfl | rfl | rfl | rfl | rfl | rfl | rfl | rfl | rfl | rfl | rfl
  · rw [two_and hw]; simp [wordV]
  · rw [two_or hw]; simp [wordV]
  · rw [two_xor hw]; simp [wordV]
  · rw [two_nand hw]; simp [wordV]
  · rw [two_nor hw]; simp [wordV]
  · rw [two_xnor hw]; simp [wordV]
  · rw [two_add hw]; simp [wordV]
  · rw [two_sub hw]; simp [wordV]
  · rw [two_mul' hw]; simp [wordV]
  · rw [two_udiv hw]; simp [wordV]
  · rw [two_urem hw]; simp [wordV]
  · rw [two_sdiv hw]; simp [wordV]
  · rw [two_srem hw]; simp [wordV]
  · rw [two_smod hw]; simp [wordV]
  · rw [two_shl hw]; simp [wordV]
  · rw [two_lshr hw]; simp [wordV]
  · rw [two_ashr hw]; simp [wordV]

end Go.Proofs.Ytiaoojghohfkjaa

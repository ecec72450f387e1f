/- Words of 128 bits as two of 64: set bit by bit, read bit by bit. -/
import Derived.Test.YtphkkcocimmmfaaAL1
namespace Go.Proofs.Ytphkkcocimmmfaa

abbrev Wd := BitVec 64 × BitVec 64

def setB (p : Wd) (i : Nat) (b : Bool) : Wd := if b = true then (if i < 64 then (p.1 ||| 1#64 <<< i, p.2) else (p.1, p.2 ||| 1#64 <<< (i - 64))) else p
def wordF : Wd → Nat → List Bool → Wd
  | p, _, [] => p
  | p, i, b :: bs => wordF (setB p i b) (i + 1) bs
def wbit (p : Wd) (i : Nat) : Bool := if i < 64 then p.1.getLsbD i else p.2.getLsbD (i - 64)
def bitsF (p : Wd) (n : Nat) : List Bool := (List.range n).map (wbit p)

theorem wbit_high {p : Wd} {i : Nat} (h : 128 ≤ i) : wbit p i = false := by
  unfold wbit
  rw [if_neg (by omega)]
  exact BitVec.getLsbD_of_ge _ _ (by omega)

theorem wd_ext {p q : Wd} (h : ∀ j, j < 128 → wbit p j = wbit q j) : p = q := by
  obtain ⟨a, b⟩ := p
  obtain ⟨c, d⟩ := q
  congr 1
  · apply BitVec.eq_of_getLsbD_eq
    intro i hi
    have := h i (by omega)
    simpa [wbit, hi] using this
  · apply BitVec.eq_of_getLsbD_eq
    intro i hi
    have := h (i + 64) (by omega)
    simpa [wbit, show ¬ i + 64 < 64 from by omega] using this

theorem getLsbD_one_shl {i j : Nat} : (1#64 <<< i).getLsbD j = (decide (j < 64) && decide (i = j)) := by
  rw [BitVec.getLsbD_shiftLeft]
  by_cases h1 : j < 64 <;> by_cases h2 : j < i <;> by_cases h3 : i = j
  all_goals simp [h1, h2, h3, BitVec.getLsbD_one]
  all_goals omega

theorem wbit_setB {p : Wd} {i : Nat} {b : Bool} (hi : i < 128) {j : Nat} : wbit (setB p i b) j = (wbit p j || (b && decide (i = j))) := by
  unfold setB wbit
  cases b with
  | false => simp
  | true =>
    simp only [if_true, Bool.true_and]
    by_cases h1 : i < 64
    · simp only [if_pos h1]
      by_cases h2 : j < 64
      · simp only [if_pos h2, BitVec.getLsbD_or, getLsbD_one_shl, h2, decide_true, Bool.true_and, if_true]
      · have : ¬ i = j := by omega
        simp only [if_neg h2, this, decide_false, Bool.or_false]
    · simp only [if_neg h1]
      by_cases h2 : j < 64
      · have : ¬ i = j := by omega
        simp only [if_pos h2, this, decide_false, Bool.or_false]
      · simp only [if_neg h2, BitVec.getLsbD_or, getLsbD_one_shl]
        congr 1
        by_cases h : i = j
        · subst h; simp; omega
        · have : ¬ i - 64 = j - 64 := by omega
          simp [h, this]

theorem wbit_wordF : ∀ {bs : List Bool} {p : Wd} {i : Nat}, i + bs.length ≤ 128 → ∀ j, wbit (wordF p i bs) j = (wbit p j || (decide (i ≤ j) && bs.getD (j - i) false))
  | [], p, i, _, j => by simp [wordF]
  | b :: bs, p, i, h, j => by
    simp only [List.length_cons] at h
    rw [wordF, wbit_wordF (by omega), wbit_setB (by omega)]
    by_cases h1 : i = j
    · subst h1
      simp
      omega
    · by_cases h2 : i ≤ j
      · have e : j - i = (j - (i + 1)) + 1 := by omega
        have h3 : i + 1 ≤ j := by omega
        rw [e]
        simp [h1, h2, h3]
      · have h3 : ¬ i + 1 ≤ j := by omega
        simp [h1, h2, h3]

theorem bitsF_length {p : Wd} {n : Nat} : (bitsF p n).length = n := by simp [bitsF]
theorem bitsF_getD {p : Wd} {n i : Nat} (hi : i < n) : (bitsF p n).getD i false = wbit p i := by simp [bitsF, hi]

/-- Every bit of it lies below the width. -/
def Below128 (p : Wd) (n : Nat) : Prop := ∀ j, n ≤ j → j < 128 → wbit p j = false

theorem wordF_bitsF {p : Wd} {n : Nat} (hn : n ≤ 128) : wordF (0, 0) 0 (bitsF p n) = p ↔ Below128 p n := by
  have key : ∀ j, wbit (wordF (0, 0) 0 (bitsF p n)) j = (decide (j < n) && wbit p j) := by
    intro j
    rw [wbit_wordF (by rw [bitsF_length]; omega)]
    have z : wbit (0, 0) j = false := by simp [wbit]
    rw [z]
    by_cases h : j < n
    · simp only [Nat.zero_le, decide_true, Bool.true_and, Bool.false_or, Nat.sub_zero]
      rw [bitsF_getD h]; simp [h]
    · have : (bitsF p n).length ≤ j := by rw [bitsF_length]; omega
      simp [h, List.getElem?_eq_none this]
  constructor
  · intro h j h1 h2
    have := key j
    rw [h] at this
    rw [this]
    simp; omega
  · intro h
    apply wd_ext
    intro j hj
    rw [key]
    by_cases h1 : j < n
    · simp [h1]
    · rw [h j (by omega) hj]; simp

instance (p : Wd) (n : Nat) : Decidable (Below128 p n) := decidable_of_iff (∀ j, j < 128 → n ≤ j → wbit p j = false) ⟨fun h j a b => h j b a, fun h j a b => h j b a⟩

theorem shr_one {x : BitVec 64} {n : Nat} : decide (x >>> n &&& 1#64 = 1#64) = x.getLsbD n := by
  have e : x >>> n &&& 1#64 = BitVec.setWidth 64 (BitVec.ofBool (x.getLsbD n)) := by
    apply BitVec.eq_of_getLsbD_eq
    intro i hi
    rw [BitVec.getLsbD_and, BitVec.getLsbD_ushiftRight, BitVec.getLsbD_one, BitVec.getLsbD_setWidth, BitVec.getLsbD_ofBool]
    by_cases h : i = 0
    · subst h; simp
    · simp [h]
  rw [e]
  cases x.getLsbD n <;> decide

def rightP (p : Wd) (m : Nat) : Wd := if 64 ≤ m then (p.2 >>> (m - 64), 0#64) else (p.1 >>> m ||| p.2 <<< (64 - m), p.2 >>> m)
def maskP (m : Nat) : Wd := rightP (18446744073709551615#64, 18446744073709551615#64) m

theorem ones_bit {i : Nat} : (18446744073709551615#64).getLsbD i = decide (i < 64) := by
  rw [show 18446744073709551615#64 = BitVec.allOnes 64 from by decide, BitVec.getLsbD_allOnes]
theorem wbit_maskP {m : Nat} (hm : m ≤ 128) {j : Nat} (hj : j < 128) : wbit (maskP m) j = decide (j < 128 - m) := by
  unfold maskP rightP wbit
  by_cases h1 : 64 ≤ m
  · simp only [if_pos h1]
    by_cases h2 : j < 64
    · simp only [if_pos h2, BitVec.getLsbD_ushiftRight, ones_bit]
      congr 1
      apply propext; omega
    · simp only [if_neg h2]
      have : ¬ j < 128 - m := by omega
      simp [this]
  · simp only [if_neg h1]
    by_cases h2 : j < 64
    · simp only [if_pos h2, BitVec.getLsbD_or, BitVec.getLsbD_ushiftRight, BitVec.getLsbD_shiftLeft, ones_bit]
      have h3 : j < 128 - m := by omega
      by_cases h4 : m + j < 64
      · simp [h3, h4]
      · have h5 : ¬ j < 64 - m := by omega
        have h6 : j - (64 - m) < 64 := by omega
        simp [h3, h2, h5, h6]
    · simp only [if_neg h2, BitVec.getLsbD_ushiftRight, ones_bit]
      congr 1
      apply propext; omega

theorem wbit_and {p q : Wd} {j : Nat} : wbit (p.1 &&& q.1, p.2 &&& q.2) j = (wbit p j && wbit q j) := by
  unfold wbit
  by_cases h : j < 64 <;> simp [h]

/-- Cut at a width: the same just if nothing lies above. -/
theorem cut_same {p : Wd} {n : Nat} (hn : n ≤ 128) : (p.1 &&& (maskP (128 - n)).1 = p.1 ∧ p.2 &&& (maskP (128 - n)).2 = p.2) ↔ Below128 p n := by
  have e : (p.1 &&& (maskP (128 - n)).1 = p.1 ∧ p.2 &&& (maskP (128 - n)).2 = p.2) ↔ (p.1 &&& (maskP (128 - n)).1, p.2 &&& (maskP (128 - n)).2) = p := by
    obtain ⟨a, b⟩ := p
    simp
  rw [e]
  constructor
  · intro h j h1 h2
    rw [← h, wbit_and, wbit_maskP (by omega) h2]
    simp; omega
  · intro h
    apply wd_ext
    intro j hj
    rw [wbit_and, wbit_maskP (by omega) hj]
    by_cases h1 : j < n
    · have : j < 128 - (128 - n) := by omega
      simp [this]
    · rw [h j (by omega) hj]; simp

end Go.Proofs.Ytphkkcocimmmfaa

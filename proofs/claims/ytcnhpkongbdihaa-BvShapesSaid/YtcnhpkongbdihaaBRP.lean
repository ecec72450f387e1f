/- The document's reckoning on bits, in plain numbers: sums, comparisons, products, quotients, shifts. -/
import Derived.Test.YtcnhpkongbdihaaALC
namespace Go.Proofs.Ytcnhpkongbdihaa

theorem half2 (a i : Nat) : a / 2 ^ i = 2 * (a / 2 ^ (i + 1)) + (a.testBit i).toNat := by
  have h1 : a / 2 ^ (i + 1) = a / 2 ^ i / 2 := by rw [Nat.pow_succ, Nat.div_div_eq_div_mul]
  rw [h1, Nat.testBit_eq_decide_div_mod_eq]
  have := Nat.mod_two_eq_zero_or_one (a / 2 ^ i)
  rcases this with h | h <;> simp [h] <;> omega
/-- A carry as a word. -/
def cw (w : Nat) (c : Bool) : BitVec w := (BitVec.ofBool c).setWidth w
theorem add_bit {w i : Nat} (hi : i < w) (x y : BitVec w) (c : Bool) : (x + y + cw w c).getLsbD i = (x.getLsbD i ^^ (y.getLsbD i ^^ BitVec.carry i x y c)) := BitVec.getLsbD_add_add_bool hi x y c
theorem add_carry {w : Nat} (i : Nat) (x y : BitVec w) (c : Bool) : BitVec.carry (i + 1) x y c = (x.getLsbD i && y.getLsbD i || BitVec.carry i x y c && (x.getLsbD i || y.getLsbD i)) := by
  rw [BitVec.carry_succ]
  cases x.getLsbD i <;> cases y.getLsbD i <;> cases BitVec.carry i x y c <;> rfl
theorem cw_false (w : Nat) : cw w false = 0#w := by
  apply BitVec.eq_of_toNat_eq; simp [cw]
theorem cw_true (w : Nat) : cw w true = 1#w := by
  apply BitVec.eq_of_toNat_eq; simp [cw]
theorem neg_cw {w : Nat} (x : BitVec w) : ~~~x + 0#w + cw w true = -x := by
  rw [BitVec.add_zero, cw_true, BitVec.neg_eq_not_add]
theorem sub_cw {w : Nat} (x y : BitVec w) : x + ~~~y + cw w true = x - y := by
  rw [cw_true, BitVec.add_assoc, ← BitVec.neg_eq_not_add, BitVec.sub_eq_add_neg]
theorem add_cw {w : Nat} (x y : BitVec w) : x + y + cw w false = x + y := by rw [cw_false, BitVec.add_zero]

theorem toNat_bit {w : Nat} (x : BitVec w) (i : Nat) : x.toNat.testBit i = x.getLsbD i := rfl
theorem ltB_step {w : Nat} {x y : BitVec w} {i : Nat} (h : x.toNat / 2 ^ (i + 1) = y.toNat / 2 ^ (i + 1)) (hb : x.getLsbD i ≠ y.getLsbD i) : decide (x < y) = y.getLsbD i := by
  have hx := half2 x.toNat i
  have hy := half2 y.toNat i
  rw [toNat_bit] at hx hy
  have lt : ∀ a b : Nat, a / 2 ^ i < b / 2 ^ i → a < b := fun a b hab => by
    apply Decidable.byContradiction
    intro hn
    have : b / 2 ^ i ≤ a / 2 ^ i := Nat.div_le_div_right (by omega)
    omega
  have hlt : (x < y) ↔ x.toNat < y.toNat := BitVec.lt_def
  cases ha : x.getLsbD i <;> cases hc : y.getLsbD i <;> rw [ha, hc] at hb <;> rw [ha] at hx <;> rw [hc] at hy
  · exact absurd rfl hb
  · simp only [Bool.toNat_true, Bool.toNat_false] at hx hy
    have := lt x.toNat y.toNat (by omega)
    rw [decide_eq_true_eq]; exact hlt.2 this
  · simp only [Bool.toNat_true, Bool.toNat_false] at hx hy
    have := lt y.toNat x.toNat (by omega)
    rw [decide_eq_false_iff_not]; intro h2; have := hlt.1 h2; omega
  · exact absurd rfl hb
theorem eqB_step {w : Nat} {x y : BitVec w} {i : Nat} (h : x.toNat / 2 ^ (i + 1) = y.toNat / 2 ^ (i + 1)) (hb : x.getLsbD i = y.getLsbD i) : x.toNat / 2 ^ i = y.toNat / 2 ^ i := by
  rw [half2 x.toNat i, half2 y.toNat i, toNat_bit, toNat_bit, h, hb]
theorem top_zero {w : Nat} (x : BitVec w) : x.toNat / 2 ^ w = 0 := Nat.div_eq_of_lt x.isLt

/-- What the product comes to, of a factor's lowest bits. -/
def mulA {w : Nat} (x y : BitVec w) (i : Nat) : BitVec w := x * (y.setWidth i).setWidth w
theorem mulA_zero {w : Nat} (x y : BitVec w) : mulA x y 0 = 0#w := by
  have : (y.setWidth 0).setWidth w = 0#w := by
    apply BitVec.eq_of_toNat_eq; simp [Nat.mod_one]
  rw [mulA, this, BitVec.mul_zero]
theorem mulA_succ {w : Nat} (x y : BitVec w) (i : Nat) : mulA x y (i + 1) = if y.getLsbD i = true then mulA x y i + x <<< i else mulA x y i := by
  unfold mulA
  rw [BitVec.setWidth_setWidth_succ_eq_setWidth_setWidth_add_twoPow, BitVec.mul_add, BitVec.and_twoPow]
  split
  · rw [BitVec.mul_twoPow_eq_shiftLeft]
  · rw [BitVec.mul_zero, BitVec.add_zero]
theorem mulA_all {w : Nat} (x y : BitVec w) : mulA x y w = x * y := by
  unfold mulA
  rw [BitVec.setWidth_eq, BitVec.setWidth_eq]

/-- A rest with a bit more. -/
def inB {w : Nat} (r : BitVec w) (b : Bool) : BitVec w := r <<< 1 ||| cw w b
theorem inB_bit {w : Nat} (r : BitVec w) (b : Bool) {j : Nat} (hj : j < w) : (inB r b).getLsbD j = if j = 0 then b else r.getLsbD (j - 1) := by
  rw [inB, BitVec.getLsbD_or, BitVec.getLsbD_shiftLeft, cw, BitVec.getLsbD_setWidth, BitVec.getLsbD_ofBool]
  by_cases h : j = 0
  · subst h; simp [hj]
  · have : ¬ j < 1 := by omega
    simp [h, hj, this]
theorem inB_nat {w : Nat} (r : BitVec w) (b : Bool) : (inB r b).toNat = (2 * r.toNat + b.toNat) % 2 ^ w := by
  have e : inB r b = r <<< 1 + cw w b := by
    rw [inB, BitVec.add_eq_or_of_and_eq_zero]
    apply BitVec.eq_of_getLsbD_eq
    intro i hi
    rw [BitVec.getLsbD_and, BitVec.getLsbD_shiftLeft, cw, BitVec.getLsbD_setWidth, BitVec.getLsbD_ofBool]
    by_cases h : i = 0
    · simp [h]
    · simp [h]
  rw [e, BitVec.toNat_add, BitVec.toNat_shiftLeft, cw, BitVec.toNat_setWidth, BitVec.toNat_ofBool, Nat.shiftLeft_eq, ← Nat.add_mod, Nat.pow_one, Nat.mul_comm]
theorem top_bit {w : Nat} (hw : 0 < w) (r : BitVec w) : r.getLsbD (w - 1) = decide (2 ^ w ≤ 2 * r.toNat) := by
  have h1 := r.isLt
  have e : 2 ^ w = 2 * 2 ^ (w - 1) := by rw [← Nat.pow_succ']; congr 1; omega
  have hh := half2 r.toNat (w - 1)
  rw [show w - 1 + 1 = w from by omega, Nat.div_eq_of_lt h1, toNat_bit] at hh
  rw [e]
  have hp : 0 < 2 ^ (w - 1) := Nat.pow_pos (by decide)
  cases hb : r.getLsbD (w - 1) with
  | true =>
    rw [hb] at hh
    simp only [Nat.mul_zero, Nat.zero_add, Bool.toNat_true] at hh
    symm; rw [decide_eq_true_eq]
    have := Nat.div_mul_le_self r.toNat (2 ^ (w - 1))
    rw [hh] at this
    omega
  | false =>
    rw [hb] at hh
    simp only [Nat.mul_zero, Bool.toNat_false, Nat.add_zero] at hh
    symm; rw [decide_eq_false_iff_not]
    have := (Nat.div_eq_zero_iff_lt hp).1 hh
    omega
theorem div_cond {w : Nat} (hw : 0 < w) {r b : BitVec w} (_hr : r.toNat < b.toNat) (bit : Bool) : (r.getLsbD (w - 1) || !decide (inB r bit < b)) = decide (b.toNat ≤ 2 * r.toNat + bit.toNat) := by
  have hb := b.isLt
  have hbit : bit.toNat ≤ 1 := by cases bit <;> simp
  rw [top_bit hw, Bool.eq_iff_iff]
  simp only [Bool.or_eq_true, decide_eq_true_eq, Bool.not_eq_true', decide_eq_false_iff_not, BitVec.lt_def, inB_nat]
  by_cases h : 2 ^ w ≤ 2 * r.toNat
  · simp [h]; omega
  · have e : 2 ^ w = 2 * 2 ^ (w - 1) := by rw [← Nat.pow_succ']; congr 1; omega
    have : (2 * r.toNat + bit.toNat) % 2 ^ w = 2 * r.toNat + bit.toNat := Nat.mod_eq_of_lt (by omega)
    rw [this]; simp [h]
theorem div_yes {w : Nat} {r b : BitVec w} (hr : r.toNat < b.toNat) {bit : Bool} (h : b.toNat ≤ 2 * r.toNat + bit.toNat) : (inB r bit - b).toNat = 2 * r.toNat + bit.toNat - b.toNat := by
  have hb := b.isLt
  have hbit : bit.toNat ≤ 1 := by cases bit <;> simp
  rw [BitVec.toNat_sub, inB_nat]
  generalize 2 ^ w = P at *
  generalize bit.toNat = t at *
  by_cases c : 2 * r.toNat + t < P
  · rw [Nat.mod_eq_of_lt c, show P - b.toNat + (2 * r.toNat + t) = (2 * r.toNat + t - b.toNat) + P from by omega, Nat.add_mod_right, Nat.mod_eq_of_lt (by omega)]
  · rw [show 2 * r.toNat + t = (2 * r.toNat + t - P) + P from by omega, Nat.add_mod_right, Nat.mod_eq_of_lt (by omega : 2 * r.toNat + t - P < P), Nat.mod_eq_of_lt (by omega)]
    omega
theorem div_no {w : Nat} {r b : BitVec w} {bit : Bool} (h : ¬ b.toNat ≤ 2 * r.toNat + bit.toNat) : (inB r bit).toNat = 2 * r.toNat + bit.toNat := by
  have hb := b.isLt
  rw [inB_nat, Nat.mod_eq_of_lt (by omega)]
theorem dv_step {X B : Nat} (hB : 0 < B) (t : Nat) (ht : t ≤ 1) : (2 * X + t) / B = 2 * (X / B) + (if B ≤ 2 * (X % B) + t then 1 else 0) ∧ (2 * X + t) % B = (if B ≤ 2 * (X % B) + t then 2 * (X % B) + t - B else 2 * (X % B) + t) := by
  have h := Nat.div_add_mod X B
  have hr := Nat.mod_lt X hB
  generalize X / B = Q at *
  generalize X % B = r at *
  subst h
  have e : 2 * (B * Q + r) + t = (2 * r + t) + B * (2 * Q) := by rw [Nat.mul_left_comm]; omega
  rw [e, Nat.add_mul_div_left _ _ hB, Nat.add_mul_mod_self_left]
  by_cases c : B ≤ 2 * r + t
  · rw [if_pos c, if_pos c]
    have e2 : 2 * r + t = (2 * r + t - B) + B * 1 := by omega
    constructor
    · rw [e2, Nat.add_mul_div_left _ _ hB, Nat.div_eq_of_lt (by omega)]; omega
    · rw [Nat.mod_eq_sub_mod c, Nat.mod_eq_of_lt (by omega)]
  · rw [if_neg c, if_neg c, Nat.div_eq_of_lt (by omega), Nat.mod_eq_of_lt (by omega)]
    exact ⟨by omega, rfl⟩
/-- The quotient's bits, from above, and the rest. -/
theorem quo_step {w : Nat} {x b r : BitVec w} (hb : 0 < b.toNat) {i : Nat} (hr : r.toNat = x.toNat / 2 ^ (i + 1) % b.toNat) :
    (x / b).getLsbD i = decide (b.toNat ≤ 2 * r.toNat + (x.getLsbD i).toNat) ∧ x.toNat / 2 ^ i % b.toNat = if b.toNat ≤ 2 * r.toNat + (x.getLsbD i).toNat then 2 * r.toNat + (x.getLsbD i).toNat - b.toNat else 2 * r.toNat + (x.getLsbD i).toNat := by
  have ht : (x.getLsbD i).toNat ≤ 1 := by cases x.getLsbD i <;> simp
  obtain ⟨h1, h2⟩ := dv_step (X := x.toNat / 2 ^ (i + 1)) hb _ ht
  rw [← toNat_bit, ← half2, toNat_bit, ← hr] at h1 h2
  refine ⟨?_, h2⟩
  rw [← toNat_bit, BitVec.toNat_udiv, Nat.testBit_eq_decide_div_mod_eq, Nat.div_div_eq_div_mul, Nat.mul_comm, ← Nat.div_div_eq_div_mul, h1]
  split <;> rename_i c <;> simp [c] <;> omega

theorem amt_step (B w : Nat) (t : Nat) (ht : t ≤ 1) : min (2 * min B w + t) w = min (2 * B + t) w := by omega
end Go.Proofs.Ytcnhpkongbdihaa

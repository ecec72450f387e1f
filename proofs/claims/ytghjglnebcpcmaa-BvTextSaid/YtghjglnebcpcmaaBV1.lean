/- Numbers of 128 bits as pairs of words (no program in sight). Numbers of 128 bits: what the program's functions on them compute. Words of a fixed width as bit vectors: what the program makes of them. The contracts of the words' functions as rules of simp. Written by bvrules.py. -/
import Derived.Test.YtghjglnebcpcmaaALC
import Derived.Test.YtghjglnebcpcmaaAT
/-! Numbers of 128 bits as pairs of words (no program in sight). -/
namespace Go.Proofs.Ytghjglnebcpcmaa

abbrev W128 := BitVec 128
def lo (x : W128) : BitVec 64 := x.setWidth 64
def hi (x : W128) : BitVec 64 := (x >>> 64).setWidth 64
/-- A number in cells. -/
def N (x : W128) : AV := .agg [u (lo x), u (hi x)]

@[simp] theorem lo_zero : lo (0#128) = 0#64 := by decide
@[simp] theorem hi_zero : hi (0#128) = 0#64 := by decide
@[simp] theorem lo_one : lo (1#128) = 1#64 := by decide
@[simp] theorem hi_one : hi (1#128) = 0#64 := by decide
theorem lo_nat (x : W128) : (lo x).toNat = x.toNat % 18446744073709551616 := by simp [lo]
theorem hi_nat (x : W128) : (hi x).toNat = x.toNat / 18446744073709551616 := by
  have := x.isLt
  simp [hi, BitVec.toNat_ushiftRight, Nat.shiftRight_eq_div_pow]
  omega
theorem lo_bit (x : W128) (i : Nat) : (lo x).getLsbD i = (decide (i < 64) && x.getLsbD i) := by simp [lo]
theorem hi_bit (x : W128) (i : Nat) : (hi x).getLsbD i = (decide (i < 64) && x.getLsbD (64 + i)) := by simp [hi]
theorem pair_ext {x y : W128} (h1 : lo x = lo y) (h2 : hi x = hi y) : x = y := by
  apply BitVec.eq_of_toNat_eq
  have a := congrArg BitVec.toNat h1
  have b := congrArg BitVec.toNat h2
  rw [lo_nat, lo_nat] at a
  rw [hi_nat, hi_nat] at b
  omega
theorem pair_eq {x : W128} {l h : BitVec 64} (h1 : lo x = l) (h2 : hi x = h) : (.agg [u l, u h] : AV) = N x := by rw [N, h1, h2]
def mkN (l h : BitVec 64) : W128 := h ++ l
theorem lo_mk (l h : BitVec 64) : lo (mkN l h) = l := by
  apply BitVec.eq_of_getLsbD_eq
  intro i hi
  rw [lo_bit, mkN, BitVec.getLsbD_append]
  simp [hi]
theorem hi_mk (l h : BitVec 64) : hi (mkN l h) = h := by
  apply BitVec.eq_of_getLsbD_eq
  intro i hi
  rw [hi_bit, mkN, BitVec.getLsbD_append]
  simp [hi]
theorem N_mk (l h : BitVec 64) : N (mkN l h) = .agg [u l, u h] := by rw [N, lo_mk, hi_mk]

theorem lo_not (x : W128) : lo (~~~x) = ~~~lo x := by
  apply BitVec.eq_of_getLsbD_eq
  intro i hi
  rw [lo_bit, BitVec.getLsbD_not, BitVec.getLsbD_not, lo_bit]
  have : i < 128 := by omega
  simp [hi, this]
theorem hi_not (x : W128) : hi (~~~x) = ~~~hi x := by
  apply BitVec.eq_of_getLsbD_eq
  intro i hi
  rw [hi_bit, BitVec.getLsbD_not, BitVec.getLsbD_not, hi_bit]
  have : 64 + i < 128 := by omega
  simp [hi, this]
theorem lo_or (x y : W128) : lo (x ||| y) = lo x ||| lo y := by
  apply BitVec.eq_of_getLsbD_eq; intro i h; rw [lo_bit, BitVec.getLsbD_or, BitVec.getLsbD_or, lo_bit, lo_bit]; simp [h]
theorem hi_or (x y : W128) : hi (x ||| y) = hi x ||| hi y := by
  apply BitVec.eq_of_getLsbD_eq; intro i h; rw [hi_bit, BitVec.getLsbD_or, BitVec.getLsbD_or, hi_bit, hi_bit]; simp [h]
theorem lo_and (x y : W128) : lo (x &&& y) = lo x &&& lo y := by
  apply BitVec.eq_of_getLsbD_eq; intro i h; rw [lo_bit, BitVec.getLsbD_and, BitVec.getLsbD_and, lo_bit, lo_bit]; simp [h]
theorem hi_and (x y : W128) : hi (x &&& y) = hi x &&& hi y := by
  apply BitVec.eq_of_getLsbD_eq; intro i h; rw [hi_bit, BitVec.getLsbD_and, BitVec.getLsbD_and, hi_bit, hi_bit]; simp [h]
theorem lo_xor (x y : W128) : lo (x ^^^ y) = lo x ^^^ lo y := by
  apply BitVec.eq_of_getLsbD_eq; intro i h; rw [lo_bit, BitVec.getLsbD_xor, BitVec.getLsbD_xor, lo_bit, lo_bit]; simp [h]
theorem hi_xor (x y : W128) : hi (x ^^^ y) = hi x ^^^ hi y := by
  apply BitVec.eq_of_getLsbD_eq; intro i h; rw [hi_bit, BitVec.getLsbD_xor, BitVec.getLsbD_xor, hi_bit, hi_bit]; simp [h]

theorem lo_add (x y : W128) : lo (x + y) = lo x + lo y := by
  apply BitVec.eq_of_toNat_eq
  rw [lo_nat, BitVec.toNat_add, BitVec.toNat_add, lo_nat, lo_nat]
  omega
theorem hi_add (x y : W128) : (hi (x + y)).toNat = ((hi x).toNat + (hi y).toNat + ((lo x).toNat + (lo y).toNat) / 18446744073709551616) % 18446744073709551616 := by
  rw [hi_nat, BitVec.toNat_add, hi_nat, hi_nat, lo_nat, lo_nat]
  have := x.isLt
  have := y.isLt
  omega
theorem less_hl (x y : W128) : (x < y) ↔ (hi x < hi y ∨ hi x = hi y ∧ lo x < lo y) := by
  rw [BitVec.lt_def, BitVec.lt_def, BitVec.lt_def, hi_nat, hi_nat, lo_nat, lo_nat]
  have e : hi x = hi y ↔ x.toNat / 18446744073709551616 = y.toNat / 18446744073709551616 := by
    rw [← hi_nat, ← hi_nat]
    exact ⟨congrArg _, BitVec.eq_of_toNat_eq⟩
  rw [e]
  omega

theorem shl_hi {x : W128} {n : Nat} (h : 64 ≤ n) : lo (x <<< n) = 0#64 ∧ hi (x <<< n) = lo x <<< (n - 64) := by
  constructor
  · apply BitVec.eq_of_getLsbD_eq
    intro i hi
    rw [lo_bit, BitVec.getLsbD_shiftLeft]
    have : i < n := by omega
    simp [this]
  · apply BitVec.eq_of_getLsbD_eq
    intro i hi
    rw [hi_bit, BitVec.getLsbD_shiftLeft, BitVec.getLsbD_shiftLeft, lo_bit]
    by_cases h1 : i < n - 64
    · have : 64 + i < n := by omega
      simp [h1, this]
    · have h2 : ¬ 64 + i < n := by omega
      have h3 : 64 + i - n = i - (n - 64) := by omega
      have h4 : i - (n - 64) < 64 := by omega
      have h5 : 64 + i < 128 := by omega
      simp [h1, h2, h3, h4, h5, hi]
theorem shl_lo {x : W128} {n : Nat} (h : n < 64) : lo (x <<< n) = lo x <<< n ∧ hi (x <<< n) = hi x <<< n ||| lo x >>> (64 - n) := by
  constructor
  · apply BitVec.eq_of_getLsbD_eq
    intro i hi
    rw [lo_bit, BitVec.getLsbD_shiftLeft, BitVec.getLsbD_shiftLeft, lo_bit]
    have h1 : i < 128 := by omega
    have h2 : i - n < 64 := by omega
    simp [hi, h1, h2]
  · apply BitVec.eq_of_getLsbD_eq
    intro i hi
    rw [hi_bit, BitVec.getLsbD_shiftLeft, BitVec.getLsbD_or, BitVec.getLsbD_shiftLeft, BitVec.getLsbD_ushiftRight, hi_bit, lo_bit]
    have h5 : 64 + i < 128 := by omega
    have h6 : ¬ 64 + i < n := by omega
    by_cases h1 : i < n
    · have h2 : 64 - n + i < 64 := by omega
      have h3 : 64 + i - n = 64 - n + i := by omega
      simp [h1, h2, h3, h5, h6, hi]
    · have h2 : ¬ 64 - n + i < 64 := by omega
      have h3 : 64 + i - n = 64 + (i - n) := by omega
      have h4 : i - n < 64 := by omega
      simp [h1, h2, h3, h4, h5, h6, hi]
theorem shr_hi {x : W128} {n : Nat} (h : 64 ≤ n) : lo (x >>> n) = hi x >>> (n - 64) ∧ hi (x >>> n) = 0#64 := by
  constructor
  · apply BitVec.eq_of_getLsbD_eq
    intro i hi
    rw [lo_bit, BitVec.getLsbD_ushiftRight, BitVec.getLsbD_ushiftRight, hi_bit]
    have h1 : 64 + (n - 64 + i) = n + i := by omega
    rw [h1]
    by_cases h2 : n - 64 + i < 64
    · simp [hi, h2]
    · have : 128 ≤ n + i := by omega
      simp [hi, h2, BitVec.getLsbD_of_ge x _ this]
  · apply BitVec.eq_of_getLsbD_eq
    intro i hi
    rw [hi_bit, BitVec.getLsbD_ushiftRight]
    have : 128 ≤ n + (64 + i) := by omega
    simp [BitVec.getLsbD_of_ge x _ this]
theorem shr_lo {x : W128} {n : Nat} (h : n < 64) : lo (x >>> n) = lo x >>> n ||| hi x <<< (64 - n) ∧ hi (x >>> n) = hi x >>> n := by
  constructor
  · apply BitVec.eq_of_getLsbD_eq
    intro i hi
    rw [lo_bit, BitVec.getLsbD_ushiftRight, BitVec.getLsbD_or, BitVec.getLsbD_ushiftRight, BitVec.getLsbD_shiftLeft, lo_bit, hi_bit]
    by_cases h1 : n + i < 64
    · have h2 : i < 64 - n := by omega
      simp [hi, h1, h2]
    · have h2 : ¬ i < 64 - n := by omega
      have h3 : i - (64 - n) < 64 := by omega
      have h4 : 64 + (i - (64 - n)) = n + i := by omega
      simp [hi, h1, h2, h3, h4]
  · apply BitVec.eq_of_getLsbD_eq
    intro i hi
    rw [hi_bit, BitVec.getLsbD_ushiftRight, BitVec.getLsbD_ushiftRight, hi_bit]
    have h1 : 64 + (n + i) = n + (64 + i) := by omega
    rw [h1]
    by_cases h2 : n + i < 64
    · simp [hi, h2]
    · have : 128 ≤ n + (64 + i) := by omega
      simp [hi, h2, BitVec.getLsbD_of_ge x _ this]

/-- The upper word of a product of two words, by halves. -/
def mulHi (x y : BitVec 64) : BitVec 64 :=
  let x0 := x &&& 4294967295#64
  let x1 := x >>> 32
  let y0 := y &&& 4294967295#64
  let y1 := y >>> 32
  let t := x1 * y0 + (x0 * y0) >>> 32
  x1 * y1 + t >>> 32 + ((t &&& 4294967295#64) + x0 * y1) >>> 32
theorem low32 (x : BitVec 64) : (x &&& 4294967295#64).toNat = x.toNat % 4294967296 := by
  rw [BitVec.toNat_and, show (4294967295#64).toNat = 2 ^ 32 - 1 from by decide, Nat.and_two_pow_sub_one_eq_mod]
theorem high32 (x : BitVec 64) : (x >>> 32).toNat = x.toNat / 4294967296 := by
  rw [BitVec.toNat_ushiftRight, Nat.shiftRight_eq_div_pow]
theorem mulHi_nat (x y : BitVec 64) : (mulHi x y).toNat = x.toNat * y.toNat / 18446744073709551616 := by
  have hx := x.isLt
  have hy := y.isLt
  obtain ⟨x0, e0⟩ : ∃ a, a = x.toNat % 4294967296 := ⟨_, rfl⟩
  obtain ⟨x1, e1⟩ : ∃ a, a = x.toNat / 4294967296 := ⟨_, rfl⟩
  obtain ⟨y0, e2⟩ : ∃ a, a = y.toNat % 4294967296 := ⟨_, rfl⟩
  obtain ⟨y1, e3⟩ : ∃ a, a = y.toNat / 4294967296 := ⟨_, rfl⟩
  have b0 : x0 ≤ 4294967295 := by omega
  have b1 : x1 ≤ 4294967295 := by omega
  have b2 : y0 ≤ 4294967295 := by omega
  have b3 : y1 ≤ 4294967295 := by omega
  have ex : x.toNat = x1 * 4294967296 + x0 := by omega
  have ey : y.toNat = y1 * 4294967296 + y0 := by omega
  have p00 : x0 * y0 ≤ 4294967295 * 4294967295 := Nat.mul_le_mul b0 b2
  have p01 : x0 * y1 ≤ 4294967295 * 4294967295 := Nat.mul_le_mul b0 b3
  have p10 : x1 * y0 ≤ 4294967295 * 4294967295 := Nat.mul_le_mul b1 b2
  have p11 : x1 * y1 ≤ 4294967295 * 4294967295 := Nat.mul_le_mul b1 b3
  have eprod : x.toNat * y.toNat = x1 * y1 * 18446744073709551616 + (x1 * y0 + x0 * y1) * 4294967296 + x0 * y0 := by
    rw [ex, ey]
    simp only [Nat.add_mul, Nat.mul_add]
    have a1 : x1 * 4294967296 * (y1 * 4294967296) = x1 * y1 * 18446744073709551616 := by
      rw [Nat.mul_mul_mul_comm]
    have a2 : x1 * 4294967296 * y0 = x1 * y0 * 4294967296 := by rw [Nat.mul_right_comm]
    have a3 : x0 * (y1 * 4294967296) = x0 * y1 * 4294967296 := by rw [Nat.mul_assoc]
    rw [a1, a2, a3]; omega
  rw [eprod]
  unfold mulHi
  simp only [BitVec.toNat_add, BitVec.toNat_mul, low32, high32, ← e0, ← e1, ← e2, ← e3]
  generalize x0 * y0 = q00 at *
  generalize x0 * y1 = q01 at *
  generalize x1 * y0 = q10 at *
  generalize x1 * y1 = q11 at *
  omega
theorem lo_mul (x y : W128) : lo (x * y) = lo x * lo y := by
  apply BitVec.eq_of_toNat_eq
  rw [lo_nat, BitVec.toNat_mul, BitVec.toNat_mul, lo_nat, lo_nat]
  rw [show (2 : Nat) ^ 128 = 18446744073709551616 * 18446744073709551616 from by decide, Nat.mod_mul_left_mod, Nat.mul_mod]
theorem hi_mul (x y : W128) : hi (x * y) = mulHi (lo x) (lo y) + hi x * lo y + lo x * hi y := by
  apply BitVec.eq_of_toNat_eq
  have hx := x.isLt
  have hy := y.isLt
  rw [hi_nat]
  simp only [BitVec.toNat_add, BitVec.toNat_mul, mulHi_nat]
  obtain ⟨a, ea⟩ : ∃ a, a = (lo x).toNat := ⟨_, rfl⟩
  obtain ⟨b, eb⟩ : ∃ a, a = (hi x).toNat := ⟨_, rfl⟩
  obtain ⟨c, ec⟩ : ∃ a, a = (lo y).toNat := ⟨_, rfl⟩
  obtain ⟨d, ed⟩ : ∃ a, a = (hi y).toNat := ⟨_, rfl⟩
  have ex : x.toNat = b * 18446744073709551616 + a := by rw [eb, ea, hi_nat, lo_nat]; omega
  have ey : y.toNat = d * 18446744073709551616 + c := by rw [ed, ec, hi_nat, lo_nat]; omega
  rw [ex, ey, ← ea, ← eb, ← ec, ← ed]
  have eprod : (b * 18446744073709551616 + a) * (d * 18446744073709551616 + c) = b * d * 340282366920938463463374607431768211456 + (b * c + a * d) * 18446744073709551616 + a * c := by
    simp only [Nat.add_mul, Nat.mul_add]
    have a1 : b * 18446744073709551616 * (d * 18446744073709551616) = b * d * 340282366920938463463374607431768211456 := by rw [Nat.mul_mul_mul_comm]
    have a2 : b * 18446744073709551616 * c = b * c * 18446744073709551616 := by rw [Nat.mul_right_comm]
    have a3 : a * (d * 18446744073709551616) = a * d * 18446744073709551616 := by rw [Nat.mul_assoc]
    rw [a1, a2, a3]; omega
  rw [eprod]
  generalize b * d = q1
  generalize b * c = q2
  generalize a * d = q3
  generalize a * c = q4
  omega

end Go.Proofs.Ytghjglnebcpcmaa
/-! Numbers of 128 bits: what the program's functions on them compute. -/
namespace Go.Proofs.Ytghjglnebcpcmaa
set_option maxRecDepth 100000

theorem u_nat {n : Int} {x : BitVec 64} (h : n = (x.toNat : Int)) : AV.int .u64 n = u x := by rw [h]; rfl
theorem add64_run {x y c : BitVec 64} (hc : c.toNat ≤ 1) {H : AHeap} : R f_math_bits_Add64 [u x, u y, u c] H = some (.tup [u (x + y + c), u (BitVec.ofNat 64 ((x.toNat + y.toNat + c.toNat) / 18446744073709551616))], H) := by
  rw [e_math_bits_Add64 hc]
  have hx := x.isLt
  have hy := y.isLt
  rw [u_nat (x := x + y + c), u_nat (x := BitVec.ofNat 64 ((x.toNat + y.toNat + c.toNat) / 18446744073709551616))]
  · rw [BitVec.toNat_ofNat]; omega
  · rw [BitVec.toNat_add, BitVec.toNat_add]; omega

theorem nadd_run {x y : W128} {H : AHeap} : Pure R f_plait_bv_number_add [N x, N y] H (N (x + y)) := by
  unfold Pure
  rw [e_plait_bv_number_add]
  have h1 := fun H => add64_run (x := lo x) (y := lo y) (c := 0#64) (by decide) (H := H)
  have hc : (BitVec.ofNat 64 (((lo x).toNat + (lo y).toNat + (0#64 : BitVec 64).toNat) / 18446744073709551616)).toNat ≤ 1 := by
    have := (lo x).isLt
    have := (lo y).isLt
    rw [BitVec.toNat_ofNat]
    have : (0#64 : BitVec 64).toNat = 0 := rfl
    omega
  have h2 := fun H => add64_run (x := hi x) (y := hi y) hc (H := H)
  have e1 : lo (x + y) = lo x + lo y := lo_add x y
  have e2 : hi (x + y) = hi x + hi y + BitVec.ofNat 64 (((lo x).toNat + (lo y).toNat) / 18446744073709551616) := by
    apply BitVec.eq_of_toNat_eq
    rw [hi_add, BitVec.toNat_add, BitVec.toNat_add, BitVec.toNat_ofNat]
    omega
  simp only [BitVec.add_zero, show (0#64 : BitVec 64).toNat = 0 from rfl, Nat.add_zero] at h1 h2
  simp (maxDischargeDepth := 9) [c_plait_bv_number_add, N, h1, h2, e1, e2]

theorem nnot_run {x : W128} {H : AHeap} : Pure R f_plait_bv_number_not [N x] H (N (~~~x)) := by
  unfold Pure
  rw [e_plait_bv_number_not]
  simp (maxDischargeDepth := 9) [c_plait_bv_number_not, N, lo_not, hi_not]

theorem one_N : (.agg [u 1#64, u 0#64] : AV) = N 1#128 := by rw [N]; rfl
theorem zero_N : (.agg [u 0#64, u 0#64] : AV) = N 0#128 := by rw [N]; rfl

theorem nneg_run {x : W128} {H : AHeap} : Pure R f_plait_bv_number_neg [N x] H (N (-x)) := by
  have h1 := fun H => (nnot_run (x := x) (H := H)).run
  have h2 := fun H => (nadd_run (x := ~~~x) (y := 1#128) (H := H)).run
  rw [← BitVec.neg_eq_not_add x] at h2
  simp only [N, show lo (1#128) = 1#64 from rfl, show hi (1#128) = 0#64 from rfl] at h1 h2
  unfold Pure
  rw [e_plait_bv_number_neg]
  simp (maxDischargeDepth := 9) [c_plait_bv_number_neg, N, h1, h2]

theorem nleft_run {x : W128} {n : Nat} (hn : n ≤ 128) {H : AHeap} : Pure R f_plait_bv_number_left [N x, .int .i64 n] H (N (x <<< n)) := by
  unfold Pure
  rw [e_plait_bv_number_left]
  have hc : (64 : Int) ≤ n ↔ 64 ≤ n := by omega
  by_cases h : 64 ≤ n
  · obtain ⟨e1, e2⟩ := shl_hi (x := x) h
    have w1 : IntKind.i64.wrap ((n : Int) - 64) = (n : Int) - 64 := i64w (by omega) (by omega)
    have t1 : (BitVec.ofInt 64 ((n : Int) - 64)).toNat = n - 64 := by rw [BitVec.toNat_ofInt]; omega
    simp (maxDischargeDepth := 9) [c_plait_bv_number_left, N, hc, h, w1, t1, e1, e2]
  · obtain ⟨e1, e2⟩ := shl_lo (x := x) (n := n) (by omega)
    have w1 : IntKind.i64.wrap (64 - (n : Int)) = 64 - (n : Int) := i64w (by omega) (by omega)
    have t1 : (BitVec.ofInt 64 (64 - (n : Int))).toNat = 64 - n := by rw [BitVec.toNat_ofInt]; omega
    have t2 : n % 18446744073709551616 = n := by omega
    simp (maxDischargeDepth := 9) [c_plait_bv_number_left, N, hc, h, w1, t1, t2, e1, e2]

theorem nright_run {x : W128} {n : Nat} (hn : n ≤ 128) {H : AHeap} : Pure R f_plait_bv_number_right [N x, .int .i64 n] H (N (x >>> n)) := by
  unfold Pure
  rw [e_plait_bv_number_right]
  have hc : (64 : Int) ≤ n ↔ 64 ≤ n := by omega
  by_cases h : 64 ≤ n
  · obtain ⟨e1, e2⟩ := shr_hi (x := x) h
    have w1 : IntKind.i64.wrap ((n : Int) - 64) = (n : Int) - 64 := i64w (by omega) (by omega)
    have t1 : (BitVec.ofInt 64 ((n : Int) - 64)).toNat = n - 64 := by rw [BitVec.toNat_ofInt]; omega
    simp (maxDischargeDepth := 9) [c_plait_bv_number_right, N, hc, h, w1, t1, e1, e2]
  · obtain ⟨e1, e2⟩ := shr_lo (x := x) (n := n) (by omega)
    have w1 : IntKind.i64.wrap (64 - (n : Int)) = 64 - (n : Int) := i64w (by omega) (by omega)
    have t1 : (BitVec.ofInt 64 (64 - (n : Int))).toNat = 64 - n := by rw [BitVec.toNat_ofInt]; omega
    have t2 : n % 18446744073709551616 = n := by omega
    simp (maxDischargeDepth := 9) [c_plait_bv_number_right, N, hc, h, w1, t1, t2, e1, e2]

theorem nless_run {x y : W128} {H : AHeap} : Pure R f_plait_bv_number_less [N x, N y] H (.bool (decide (x < y))) := by
  unfold Pure
  rw [e_plait_bv_number_less]
  have h := less_hl x y
  by_cases h1 : hi x < hi y
  · have : x < y := h.2 (.inl h1)
    simp (maxDischargeDepth := 9) [c_plait_bv_number_less, N, h1, this]
  · by_cases h2 : hi x = hi y
    · have e : (x < y) = (lo x < lo y) := propext ⟨fun q => by rcases h.1 q with q | q; exact absurd q h1; exact q.2, fun q => h.2 (.inr ⟨h2, q⟩)⟩
      simp (maxDischargeDepth := 9) [c_plait_bv_number_less, N, h2, e]
    · have e : ¬ x < y := fun q => by rcases h.1 q with q | q; exact h1 q; exact h2 q.1
      simp (maxDischargeDepth := 9) [c_plait_bv_number_less, N, h1, h2, e]

theorem mul64_run {x y : BitVec 64} {H : AHeap} : R f_math_bits_Mul64 [u x, u y] H = some (.tup [u (mulHi x y), u (x * y)], H) := by
  rw [e_math_bits_Mul64]
  simp [c_math_bits_Mul64, mulHi]

theorem nsub_run {x y : W128} {H : AHeap} : Pure R f_plait_bv_number_sub [N x, N y] H (N (x - y)) := by
  have h1 := fun H => (nneg_run (x := y) (H := H)).run
  have h2 := fun H => (nadd_run (x := x) (y := -y) (H := H)).run
  rw [← BitVec.sub_eq_add_neg] at h2
  simp only [N] at h1 h2
  unfold Pure
  rw [e_plait_bv_number_sub]
  simp (maxDischargeDepth := 9) [c_plait_bv_number_sub, N, h1, h2]

theorem nmul_run {x y : W128} {H : AHeap} : Pure R f_plait_bv_number_mul [N x, N y] H (N (x * y)) := by
  unfold Pure
  rw [e_plait_bv_number_mul]
  have h1 := fun H => mul64_run (x := lo x) (y := lo y) (H := H)
  simp (maxDischargeDepth := 9) [c_plait_bv_number_mul, N, h1, lo_mul, hi_mul]

/-- The lowest w bits. -/
def maskN (w : Nat) : W128 := BitVec.allOnes 128 >>> (128 - w)
theorem maskN_bit (w i : Nat) (hw : w ≤ 128) : (maskN w).getLsbD i = decide (i < w) := by
  rw [maskN, BitVec.getLsbD_ushiftRight, BitVec.getLsbD_allOnes]
  congr 1
  exact propext ⟨fun h => by omega, fun h => by omega⟩
theorem mask_run {w : Nat} (hw : w ≤ 128) {H : AHeap} : Pure R f_bv_mask [.int .i64 w] H (N (maskN w)) := by
  have w1 : IntKind.i64.wrap (128 - (w : Int)) = ((128 - w : Nat) : Int) := by rw [i64w (by omega) (by omega)]; omega
  have h1 := fun H => (nnot_run (x := 0#128) (H := H)).run
  have h2 := fun H => (nright_run (x := ~~~0#128) (n := 128 - w) (by omega) (H := H)).run
  have e : ~~~0#128 >>> (128 - w) = maskN w := by rw [maskN, show BitVec.allOnes 128 = ~~~0#128 from by simp]
  rw [e] at h2
  simp only [N, show lo (0#128) = 0#64 from rfl, show hi (0#128) = 0#64 from rfl, show (~~~0#128 : W128) = 340282366920938463463374607431768211455#128 from by decide] at h1 h2
  unfold Pure
  rw [e_bv_mask]
  simp (maxDischargeDepth := 9) [c_bv_mask, N, w1, h1, h2]

theorem and1_bit (x : BitVec 64) : decide (x &&& 1#64 = 1#64) = x.getLsbD 0 := by
  have h : x &&& 1#64 = if x.getLsbD 0 = true then 1#64 else 0#64 := by
    apply BitVec.eq_of_getLsbD_eq
    intro i hi
    rw [BitVec.getLsbD_and, BitVec.getLsbD_one]
    by_cases h0 : i = 0
    · subst h0; cases hx : x.getLsbD 0 <;> simp
    · split <;> simp [h0, BitVec.getLsbD_one]
  rw [h]
  cases x.getLsbD 0 <;> decide
theorem bit_run {x : W128} {i : Nat} (hi : i ≤ 127) {H : AHeap} : Pure R f_plait_bv_number_bit [N x, .int .i64 i] H (.bool (x.getLsbD i)) := by
  have h1 := fun H => (nright_run (x := x) (n := i) (by omega) (H := H)).run
  simp only [N] at h1
  have e : decide (lo (x >>> i) &&& 1#64 = 1#64) = x.getLsbD i := by
    rw [and1_bit, lo_bit, BitVec.getLsbD_ushiftRight]; simp
  unfold Pure
  rw [e_plait_bv_number_bit]
  simp (maxDischargeDepth := 9) [c_plait_bv_number_bit, N, h1, e]

theorem of_run {a : AV} {x : W128} {H : AHeap} : Pure R f_bv_of [.agg [a, u (lo x), u (hi x)]] H (N x) := by
  unfold Pure
  rw [e_bv_of]
  simp (maxDischargeDepth := 9) [c_bv_of, N]

/-- A value: its width and its number. -/
def Bt (w : Nat) (x : W128) : AV := .agg [.int .i64 w, u (lo x), u (hi x)]
theorem cut_run {w : Nat} (hw : w ≤ 128) {x : W128} {H : AHeap} : Pure R f_bv_cut [.int .i64 w, N x] H (Bt w (x &&& maskN w)) := by
  have h1 := fun H => (mask_run hw (H := H)).run
  simp only [N] at h1
  unfold Pure
  rw [e_bv_cut]
  simp (maxDischargeDepth := 9) [c_bv_cut, N, Bt, h1, lo_and, hi_and]

end Go.Proofs.Ytghjglnebcpcmaa
/-! Words of a fixed width as bit vectors: what the program makes of them. -/
namespace Go.Proofs.Ytghjglnebcpcmaa
set_option maxRecDepth 100000

/-- A word of w bits among 128. -/
def E {w : Nat} (x : BitVec w) : W128 := x.setWidth 128
/-- A word in cells. -/
def B {w : Nat} (x : BitVec w) : AV := Bt w (E x)
theorem cut_E {w : Nat} (hw : w ≤ 128) (z : W128) : z &&& maskN w = E (z.setWidth w) := by
  apply BitVec.eq_of_getLsbD_eq
  intro i hi
  rw [BitVec.getLsbD_and, maskN_bit w i hw, E, BitVec.getLsbD_setWidth, BitVec.getLsbD_setWidth]
  simp [hi, Bool.and_comm]
theorem E_set {w : Nat} (hw : w ≤ 128) (x : BitVec w) : (E x).setWidth w = x := by
  apply BitVec.eq_of_getLsbD_eq
  intro i hi
  rw [BitVec.getLsbD_setWidth, E, BitVec.getLsbD_setWidth]
  have : i < 128 := by omega
  simp [hi, this]
theorem E_nat {w : Nat} (hw : w ≤ 128) (x : BitVec w) : (E x).toNat = x.toNat := by
  rw [E, BitVec.toNat_setWidth]
  have := x.isLt
  have : 2 ^ w ≤ 2 ^ 128 := Nat.pow_le_pow_right (by decide) hw
  exact Nat.mod_eq_of_lt (by omega)
theorem E_inj {w : Nat} (hw : w ≤ 128) {x y : BitVec w} (h : E x = E y) : x = y := by rw [← E_set hw x, ← E_set hw y, h]
theorem E_bit {w : Nat} (hw : w ≤ 128) (x : BitVec w) (i : Nat) : (E x).getLsbD i = x.getLsbD i := by
  rw [E, BitVec.getLsbD_setWidth]
  by_cases h : i < 128
  · simp [h]
  · have : w ≤ i := by omega
    simp [h, BitVec.getLsbD_of_ge x i this]

theorem cutB_run {w : Nat} (hw : w ≤ 128) {z : W128} {H : AHeap} : Pure R f_bv_cut [.int .i64 w, N z] H (B (z.setWidth w)) := by
  have := cut_run hw (x := z) (H := H)
  rw [cut_E hw] at this
  exact this

theorem ofB_run {w : Nat} {x : BitVec w} {H : AHeap} : Pure R f_bv_of [B x] H (N (E x)) := of_run

theorem rightB_run {w : Nat} (h1 : 1 ≤ w) (hw : w ≤ 128) {x : BitVec w} {H : AHeap} : Pure R f_bv_Right [B x] H (.bool true) := by
  have c0 : ¬ (w : Int) = 0 := by omega
  have c1 : 0 < w := by omega
  have c2 : (w : Int) ≤ 128 := by omega
  have c3 : ¬ w = 0 := by omega
  have g1 := fun H => (of_run (a := .int .i64 w) (x := E x) (H := H)).run
  have g2 := fun H => (cutB_run hw (z := E x) (H := H)).run
  rw [E_set hw] at g2
  simp only [N, B, Bt] at g1 g2
  unfold Pure
  rw [e_bv_Right]
  simp (maxDischargeDepth := 9) [c_bv_Right, B, Bt, c1, c2, c3, g1, g2]

theorem wordB_run {w : Nat} (h1 : 1 ≤ w) (hw : w ≤ 128) {x : BitVec w} {H : AHeap} : Pure R f_bv_word [B x] H (.bool true) := by
  have c3 : ¬ w = 0 := by omega
  have g1 := fun H => (rightB_run h1 hw (x := x) (H := H)).run
  simp only [B, Bt] at g1
  unfold Pure
  rw [e_bv_word]
  simp (maxDischargeDepth := 9) [c_bv_word, B, Bt, c3, g1]

theorem below_run {w : Nat} (h1 : 1 ≤ w) (hw : w ≤ 128) {x : BitVec w} {H : AHeap} : Pure R f_bv_below [B x] H (.bool x.msb) := by
  have w1 : IntKind.i64.wrap ((w : Int) - 1) = ((w - 1 : Nat) : Int) := by rw [i64w (by omega) (by omega)]; omega
  have g1 := fun H => (of_run (a := .int .i64 w) (x := E x) (H := H)).run
  have g2 := fun H => (bit_run (x := E x) (i := w - 1) (by omega) (H := H)).run
  rw [E_bit hw, ← BitVec.msb_eq_getLsbD_last] at g2
  simp only [N] at g1 g2
  unfold Pure
  rw [e_bv_below]
  simp (maxDischargeDepth := 9) [c_bv_below, B, Bt, w1, g1, g2]

theorem boolB_run {b : Bool} {H : AHeap} : Pure R f_bv_Bool [.bool b] H (Bt 0 (if b = true then 1#128 else 0#128)) := by
  unfold Pure
  rw [e_bv_Bool]
  cases b <;> simp (maxDischargeDepth := 9) [c_bv_Bool, Bt, show lo (1#128) = 1#64 from rfl, show hi (1#128) = 0#64 from rfl, show hi (0#128 : W128) = 0#64 from rfl, show lo (0#128 : W128) = 0#64 from rfl]

end Go.Proofs.Ytghjglnebcpcmaa
/-! The contracts of the words' functions as rules of simp. Written by bvrules.py. -/
namespace Go.Proofs.Ytghjglnebcpcmaa
set_option maxRecDepth 100000

@[simp] theorem s_nadd {x y : W128} {H : AHeap} : R f_plait_bv_number_add [.agg [u (lo x), u (hi x)], .agg [u (lo y), u (hi y)]] H = some (.agg [u (lo (x + y)), u (hi (x + y))], H) := (nadd_run : Pure R f_plait_bv_number_add [.agg [u (lo x), u (hi x)], .agg [u (lo y), u (hi y)]] H (.agg [u (lo (x + y)), u (hi (x + y))]))
@[simp] theorem s_nsub {x y : W128} {H : AHeap} : R f_plait_bv_number_sub [.agg [u (lo x), u (hi x)], .agg [u (lo y), u (hi y)]] H = some (.agg [u (lo (x - y)), u (hi (x - y))], H) := (nsub_run : Pure R f_plait_bv_number_sub [.agg [u (lo x), u (hi x)], .agg [u (lo y), u (hi y)]] H (.agg [u (lo (x - y)), u (hi (x - y))]))
@[simp] theorem s_nmul {x y : W128} {H : AHeap} : R f_plait_bv_number_mul [.agg [u (lo x), u (hi x)], .agg [u (lo y), u (hi y)]] H = some (.agg [u (lo (x * y)), u (hi (x * y))], H) := (nmul_run : Pure R f_plait_bv_number_mul [.agg [u (lo x), u (hi x)], .agg [u (lo y), u (hi y)]] H (.agg [u (lo (x * y)), u (hi (x * y))]))
@[simp] theorem s_nneg {x : W128} {H : AHeap} : R f_plait_bv_number_neg [.agg [u (lo x), u (hi x)]] H = some (.agg [u (lo (-x)), u (hi (-x))], H) := (nneg_run : Pure R f_plait_bv_number_neg [.agg [u (lo x), u (hi x)]] H (.agg [u (lo (-x)), u (hi (-x))]))
@[simp] theorem s_nnot {x : W128} {H : AHeap} : R f_plait_bv_number_not [.agg [u (lo x), u (hi x)]] H = some (.agg [u (lo (~~~x)), u (hi (~~~x))], H) := (nnot_run : Pure R f_plait_bv_number_not [.agg [u (lo x), u (hi x)]] H (.agg [u (lo (~~~x)), u (hi (~~~x))]))
@[simp] theorem s_nleft {x : W128} {n : Nat} (hn : n ≤ 128) {H : AHeap} : R f_plait_bv_number_left [.agg [u (lo x), u (hi x)], .int .i64 (n : Nat)] H = some (.agg [u (lo (x <<< n)), u (hi (x <<< n))], H) := ((nleft_run hn) : Pure R f_plait_bv_number_left [.agg [u (lo x), u (hi x)], .int .i64 (n : Nat)] H (.agg [u (lo (x <<< n)), u (hi (x <<< n))]))
@[simp] theorem s_nright {x : W128} {n : Nat} (hn : n ≤ 128) {H : AHeap} : R f_plait_bv_number_right [.agg [u (lo x), u (hi x)], .int .i64 (n : Nat)] H = some (.agg [u (lo (x >>> n)), u (hi (x >>> n))], H) := ((nright_run hn) : Pure R f_plait_bv_number_right [.agg [u (lo x), u (hi x)], .int .i64 (n : Nat)] H (.agg [u (lo (x >>> n)), u (hi (x >>> n))]))
@[simp] theorem s_nbit {x : W128} {n : Nat} (hn : n ≤ 127) {H : AHeap} : R f_plait_bv_number_bit [.agg [u (lo x), u (hi x)], .int .i64 (n : Nat)] H = some (.bool (x.getLsbD n), H) := ((bit_run hn) : Pure R f_plait_bv_number_bit [.agg [u (lo x), u (hi x)], .int .i64 (n : Nat)] H (.bool (x.getLsbD n)))
@[simp] theorem s_nless {x y : W128} {H : AHeap} : R f_plait_bv_number_less [.agg [u (lo x), u (hi x)], .agg [u (lo y), u (hi y)]] H = some (.bool (decide (x < y)), H) := (nless_run : Pure R f_plait_bv_number_less [.agg [u (lo x), u (hi x)], .agg [u (lo y), u (hi y)]] H (.bool (decide (x < y))))
@[simp] theorem s_mask {w : Nat} (hw : w ≤ 128) {H : AHeap} : R f_bv_mask [.int .i64 (w : Nat)] H = some (.agg [u (lo (maskN w)), u (hi (maskN w))], H) := ((mask_run hw) : Pure R f_bv_mask [.int .i64 (w : Nat)] H (.agg [u (lo (maskN w)), u (hi (maskN w))]))
@[simp] theorem s_of {a : AV} {x : W128} {H : AHeap} : R f_bv_of [.agg [a, u (lo x), u (hi x)]] H = some (.agg [u (lo x), u (hi x)], H) := (of_run : Pure R f_bv_of [.agg [a, u (lo x), u (hi x)]] H (.agg [u (lo x), u (hi x)]))
@[simp] theorem s_cut {w : Nat} (hw : w ≤ 128) {z : W128} {H : AHeap} : R f_bv_cut [.int .i64 (w : Nat), .agg [u (lo z), u (hi z)]] H = some (.agg [.int .i64 (w : Nat), u (lo (E (z.setWidth w))), u (hi (E (z.setWidth w)))], H) := ((cutB_run hw) : Pure R f_bv_cut [.int .i64 (w : Nat), .agg [u (lo z), u (hi z)]] H (.agg [.int .i64 (w : Nat), u (lo (E (z.setWidth w))), u (hi (E (z.setWidth w)))]))
@[simp] theorem s_right {w : Nat} (h1 : 1 ≤ w) (hw : w ≤ 128) {x : BitVec w} {H : AHeap} : R f_bv_Right [.agg [.int .i64 (w : Nat), u (lo (E x)), u (hi (E x))]] H = some (.bool true, H) := ((rightB_run h1 hw) : Pure R f_bv_Right [.agg [.int .i64 (w : Nat), u (lo (E x)), u (hi (E x))]] H (.bool true))
@[simp] theorem s_word {w : Nat} (h1 : 1 ≤ w) (hw : w ≤ 128) {x : BitVec w} {H : AHeap} : R f_bv_word [.agg [.int .i64 (w : Nat), u (lo (E x)), u (hi (E x))]] H = some (.bool true, H) := ((wordB_run h1 hw) : Pure R f_bv_word [.agg [.int .i64 (w : Nat), u (lo (E x)), u (hi (E x))]] H (.bool true))
@[simp] theorem s_below {w : Nat} (h1 : 1 ≤ w) (hw : w ≤ 128) {x : BitVec w} {H : AHeap} : R f_bv_below [.agg [.int .i64 (w : Nat), u (lo (E x)), u (hi (E x))]] H = some (.bool x.msb, H) := ((below_run h1 hw) : Pure R f_bv_below [.agg [.int .i64 (w : Nat), u (lo (E x)), u (hi (E x))]] H (.bool x.msb))
end Go.Proofs.Ytghjglnebcpcmaa

/- Numbers of 128 bits and words, as far as a value is told to be right. -/
import Derived.Test.YtphkkcocimmmfaaALC
import Derived.Test.YtphkkcocimmmfaaTT
namespace Go.Proofs.Ytphkkcocimmmfaa
set_option maxRecDepth 100000

abbrev W128 := BitVec 128
def lo (x : W128) : BitVec 64 := x.setWidth 64
def hi (x : W128) : BitVec 64 := (x >>> 64).setWidth 64
def N (x : W128) : AV := .agg [u (lo x), u (hi x)]

@[simp] theorem lo_zero : lo (0#128) = 0#64 := by decide
@[simp] theorem hi_zero : hi (0#128) = 0#64 := by decide
@[simp] theorem lo_one : lo (1#128) = 1#64 := by decide
@[simp] theorem hi_one : hi (1#128) = 0#64 := by decide
theorem lo_nat (x : W128) : (lo x).toNat = x.toNat % 18446744073709551616 := by simp [lo]
theorem hi_nat (x : W128) : (hi x).toNat = x.toNat / 18446744073709551616 := by
  have := x.isLt
  simp [hi, BitVec.toNat_ushiftRight, Nat.shiftRight_eq_div_pow]
  omega
theorem lo_bit (x : W128) (i : Nat) : (lo x).getLsbD i = (decide (i < 64) && x.getLsbD i) := by simp [lo]
theorem hi_bit (x : W128) (i : Nat) : (hi x).getLsbD i = (decide (i < 64) && x.getLsbD (64 + i)) := by simp [hi]
theorem pair_ext {x y : W128} (h1 : lo x = lo y) (h2 : hi x = hi y) : x = y := by
  apply BitVec.eq_of_toNat_eq
  have a := congrArg BitVec.toNat h1
  have b := congrArg BitVec.toNat h2
  rw [lo_nat, lo_nat] at a
  rw [hi_nat, hi_nat] at b
  omega
theorem pair_eq {x : W128} {l h : BitVec 64} (h1 : lo x = l) (h2 : hi x = h) : (.agg [u l, u h] : AV) = N x := by rw [N, h1, h2]
def mkN (l h : BitVec 64) : W128 := h ++ l
theorem lo_mk (l h : BitVec 64) : lo (mkN l h) = l := by
  apply BitVec.eq_of_getLsbD_eq
  intro i hi
  rw [lo_bit, mkN, BitVec.getLsbD_append]
  simp [hi]
theorem hi_mk (l h : BitVec 64) : hi (mkN l h) = h := by
  apply BitVec.eq_of_getLsbD_eq
  intro i hi
  rw [hi_bit, mkN, BitVec.getLsbD_append]
  simp [hi]
theorem N_mk (l h : BitVec 64) : N (mkN l h) = .agg [u l, u h] := by rw [N, lo_mk, hi_mk]

theorem lo_not (x : W128) : lo (~~~x) = ~~~lo x := by
  apply BitVec.eq_of_getLsbD_eq
  intro i hi
  rw [lo_bit, BitVec.getLsbD_not, BitVec.getLsbD_not, lo_bit]
  have : i < 128 := by omega
  simp [hi, this]
theorem hi_not (x : W128) : hi (~~~x) = ~~~hi x := by
  apply BitVec.eq_of_getLsbD_eq
  intro i hi
  rw [hi_bit, BitVec.getLsbD_not, BitVec.getLsbD_not, hi_bit]
  have : 64 + i < 128 := by omega
  simp [hi, this]
theorem lo_or (x y : W128) : lo (x ||| y) = lo x ||| lo y := by
  apply BitVec.eq_of_getLsbD_eq; intro i h; rw [lo_bit, BitVec.getLsbD_or, BitVec.getLsbD_or, lo_bit, lo_bit]; simp [h]
theorem hi_or (x y : W128) : hi (x ||| y) = hi x ||| hi y := by
  apply BitVec.eq_of_getLsbD_eq; intro i h; rw [hi_bit, BitVec.getLsbD_or, BitVec.getLsbD_or, hi_bit, hi_bit]; simp [h]
theorem lo_and (x y : W128) : lo (x &&& y) = lo x &&& lo y := by
  apply BitVec.eq_of_getLsbD_eq; intro i h; rw [lo_bit, BitVec.getLsbD_and, BitVec.getLsbD_and, lo_bit, lo_bit]; simp [h]
theorem hi_and (x y : W128) : hi (x &&& y) = hi x &&& hi y := by
  apply BitVec.eq_of_getLsbD_eq; intro i h; rw [hi_bit, BitVec.getLsbD_and, BitVec.getLsbD_and, hi_bit, hi_bit]; simp [h]
theorem lo_xor (x y : W128) : lo (x ^^^ y) = lo x ^^^ lo y := by
  apply BitVec.eq_of_getLsbD_eq; intro i h; rw [lo_bit, BitVec.getLsbD_xor, BitVec.getLsbD_xor, lo_bit, lo_bit]; simp [h]
theorem hi_xor (x y : W128) : hi (x ^^^ y) = hi x ^^^ hi y := by
  apply BitVec.eq_of_getLsbD_eq; intro i h; rw [hi_bit, BitVec.getLsbD_xor, BitVec.getLsbD_xor, hi_bit, hi_bit]; simp [h]

theorem shr_hi {x : W128} {n : Nat} (h : 64 ≤ n) : lo (x >>> n) = hi x >>> (n - 64) ∧ hi (x >>> n) = 0#64 := by
  constructor
  · apply BitVec.eq_of_getLsbD_eq
    intro i hi
    rw [lo_bit, BitVec.getLsbD_ushiftRight, BitVec.getLsbD_ushiftRight, hi_bit]
    have h1 : 64 + (n - 64 + i) = n + i := by omega
    rw [h1]
    by_cases h2 : n - 64 + i < 64
    · simp [hi, h2]
    · have : 128 ≤ n + i := by omega
      simp [hi, h2, BitVec.getLsbD_of_ge x _ this]
  · apply BitVec.eq_of_getLsbD_eq
    intro i hi
    rw [hi_bit, BitVec.getLsbD_ushiftRight]
    have : 128 ≤ n + (64 + i) := by omega
    simp [BitVec.getLsbD_of_ge x _ this]
theorem shr_lo {x : W128} {n : Nat} (h : n < 64) : lo (x >>> n) = lo x >>> n ||| hi x <<< (64 - n) ∧ hi (x >>> n) = hi x >>> n := by
  constructor
  · apply BitVec.eq_of_getLsbD_eq
    intro i hi
    rw [lo_bit, BitVec.getLsbD_ushiftRight, BitVec.getLsbD_or, BitVec.getLsbD_ushiftRight, BitVec.getLsbD_shiftLeft, lo_bit, hi_bit]
    by_cases h1 : n + i < 64
    · have h2 : i < 64 - n := by omega
      simp [hi, h1, h2]
    · have h2 : ¬ i < 64 - n := by omega
      have h3 : i - (64 - n) < 64 := by omega
      have h4 : 64 + (i - (64 - n)) = n + i := by omega
      simp [hi, h1, h2, h3, h4]
  · apply BitVec.eq_of_getLsbD_eq
    intro i hi
    rw [hi_bit, BitVec.getLsbD_ushiftRight, BitVec.getLsbD_ushiftRight, hi_bit]
    have h1 : 64 + (n + i) = n + (64 + i) := by omega
    rw [h1]
    by_cases h2 : n + i < 64
    · simp [hi, h2]
    · have : 128 ≤ n + (64 + i) := by omega
      simp [hi, h2, BitVec.getLsbD_of_ge x _ this]

theorem nnot_run {x : W128} {H : AHeap} : Pure R f_plait_bv_number_not [N x] H (N (~~~x)) := by
  unfold Pure
  rw [e_plait_bv_number_not]
  simp (maxDischargeDepth := 9) [c_plait_bv_number_not, N, lo_not, hi_not]

theorem nright_run {x : W128} {n : Nat} (hn : n ≤ 128) {H : AHeap} : Pure R f_plait_bv_number_right [N x, .int .i64 n] H (N (x >>> n)) := by
  unfold Pure
  rw [e_plait_bv_number_right]
  have hc : (64 : Int) ≤ n ↔ 64 ≤ n := by omega
  by_cases h : 64 ≤ n
  · obtain ⟨e1, e2⟩ := shr_hi (x := x) h
    have w1 : IntKind.i64.wrap ((n : Int) - 64) = (n : Int) - 64 := i64w (by omega) (by omega)
    have t1 : (BitVec.ofInt 64 ((n : Int) - 64)).toNat = n - 64 := by rw [BitVec.toNat_ofInt]; omega
    simp (maxDischargeDepth := 9) [c_plait_bv_number_right, N, hc, h, w1, t1, e1, e2]
  · obtain ⟨e1, e2⟩ := shr_lo (x := x) (n := n) (by omega)
    have w1 : IntKind.i64.wrap (64 - (n : Int)) = 64 - (n : Int) := i64w (by omega) (by omega)
    have t1 : (BitVec.ofInt 64 (64 - (n : Int))).toNat = 64 - n := by rw [BitVec.toNat_ofInt]; omega
    have t2 : n % 18446744073709551616 = n := by omega
    simp (maxDischargeDepth := 9) [c_plait_bv_number_right, N, hc, h, w1, t1, t2, e1, e2]

def maskN (w : Nat) : W128 := BitVec.allOnes 128 >>> (128 - w)
theorem maskN_bit (w i : Nat) (hw : w ≤ 128) : (maskN w).getLsbD i = decide (i < w) := by
  rw [maskN, BitVec.getLsbD_ushiftRight, BitVec.getLsbD_allOnes]
  congr 1
  exact propext ⟨fun h => by omega, fun h => by omega⟩
theorem mask_run {w : Nat} (hw : w ≤ 128) {H : AHeap} : Pure R f_bv_mask [.int .i64 w] H (N (maskN w)) := by
  have w1 : IntKind.i64.wrap (128 - (w : Int)) = ((128 - w : Nat) : Int) := by rw [i64w (by omega) (by omega)]; omega
  have h1 := fun H => (nnot_run (x := 0#128) (H := H)).run
  have h2 := fun H => (nright_run (x := ~~~0#128) (n := 128 - w) (by omega) (H := H)).run
  have e : ~~~0#128 >>> (128 - w) = maskN w := by rw [maskN, show BitVec.allOnes 128 = ~~~0#128 from by simp]
  rw [e] at h2
  simp only [N, show lo (0#128) = 0#64 from rfl, show hi (0#128) = 0#64 from rfl, show (~~~0#128 : W128) = 340282366920938463463374607431768211455#128 from by decide] at h1 h2
  unfold Pure
  rw [e_bv_mask]
  simp (maxDischargeDepth := 9) [c_bv_mask, N, w1, h1, h2]

theorem and1_bit (x : BitVec 64) : decide (x &&& 1#64 = 1#64) = x.getLsbD 0 := by
  have h : x &&& 1#64 = if x.getLsbD 0 = true then 1#64 else 0#64 := by
    apply BitVec.eq_of_getLsbD_eq
    intro i hi
    rw [BitVec.getLsbD_and, BitVec.getLsbD_one]
    by_cases h0 : i = 0
    · subst h0; cases hx : x.getLsbD 0 <;> simp
    · split <;> simp [h0, BitVec.getLsbD_one]
  rw [h]
  cases x.getLsbD 0 <;> decide
theorem of_run {a : AV} {x : W128} {H : AHeap} : Pure R f_bv_of [.agg [a, u (lo x), u (hi x)]] H (N x) := by
  unfold Pure
  rw [e_bv_of]
  simp (maxDischargeDepth := 9) [c_bv_of, N]

def Bt (w : Nat) (x : W128) : AV := .agg [.int .i64 w, u (lo x), u (hi x)]
theorem cut_run {w : Nat} (hw : w ≤ 128) {x : W128} {H : AHeap} : Pure R f_bv_cut [.int .i64 w, N x] H (Bt w (x &&& maskN w)) := by
  have h1 := fun H => (mask_run hw (H := H)).run
  simp only [N] at h1
  unfold Pure
  rw [e_bv_cut]
  simp (maxDischargeDepth := 9) [c_bv_cut, N, Bt, h1, lo_and, hi_and]

def E {w : Nat} (x : BitVec w) : W128 := x.setWidth 128
def B {w : Nat} (x : BitVec w) : AV := Bt w (E x)
theorem cut_E {w : Nat} (hw : w ≤ 128) (z : W128) : z &&& maskN w = E (z.setWidth w) := by
  apply BitVec.eq_of_getLsbD_eq
  intro i hi
  rw [BitVec.getLsbD_and, maskN_bit w i hw, E, BitVec.getLsbD_setWidth, BitVec.getLsbD_setWidth]
  simp [hi, Bool.and_comm]
theorem E_set {w : Nat} (hw : w ≤ 128) (x : BitVec w) : (E x).setWidth w = x := by
  apply BitVec.eq_of_getLsbD_eq
  intro i hi
  rw [BitVec.getLsbD_setWidth, E, BitVec.getLsbD_setWidth]
  have : i < 128 := by omega
  simp [hi, this]
theorem E_nat {w : Nat} (hw : w ≤ 128) (x : BitVec w) : (E x).toNat = x.toNat := by
  rw [E, BitVec.toNat_setWidth]
  have := x.isLt
  have : 2 ^ w ≤ 2 ^ 128 := Nat.pow_le_pow_right (by decide) hw
  exact Nat.mod_eq_of_lt (by omega)
theorem E_inj {w : Nat} (hw : w ≤ 128) {x y : BitVec w} (h : E x = E y) : x = y := by rw [← E_set hw x, ← E_set hw y, h]
theorem E_bit {w : Nat} (hw : w ≤ 128) (x : BitVec w) (i : Nat) : (E x).getLsbD i = x.getLsbD i := by
  rw [E, BitVec.getLsbD_setWidth]
  by_cases h : i < 128
  · simp [h]
  · have : w ≤ i := by omega
    simp [h, BitVec.getLsbD_of_ge x i this]

theorem cutB_run {w : Nat} (hw : w ≤ 128) {z : W128} {H : AHeap} : Pure R f_bv_cut [.int .i64 w, N z] H (B (z.setWidth w)) := by
  have := cut_run hw (x := z) (H := H)
  rw [cut_E hw] at this
  exact this


/-- May there be such a value? -/
def rightF (w : Int) (l h : BitVec 64) : Bool := if w = 0 then decide (l ≤ 1#64 ∧ h = 0#64) else decide (0 < w ∧ w ≤ 128) && decide (mkN l h &&& maskN w.toNat = mkN l h)
theorem bvRight_run {w : Int} {l h : BitVec 64} {H : AHeap} : R f_bv_Right [.agg [.int .i64 w, u l, u h]] H = some (.bool (rightF w l h), H) := by
  unfold rightF
  rw [e_bv_Right]
  by_cases w0 : w = 0
  · subst w0
    by_cases c1 : l ≤ 1#64 <;> simp (maxDischargeDepth := 40) [c_bv_Right, c1]
  by_cases c1 : 0 < w
  rotate_left
  · simp (maxDischargeDepth := 40) [c_bv_Right, w0, c1]
  by_cases c2 : w ≤ 128
  rotate_left
  · simp (maxDischargeDepth := 40) [c_bv_Right, w0, c1, c2]
  obtain ⟨n, rfl⟩ : ∃ n : Nat, w = (n : Int) := ⟨w.toNat, by omega⟩
  have hn : n ≤ 128 := by omega
  have n0 : ¬ n = 0 := by omega
  have n1 : 0 < n := by omega
  have r1 := fun H => (of_run (a := .int .i64 n) (x := mkN l h) (H := H)).run
  have r2 := fun H => (cut_run hn (x := mkN l h) (H := H)).run
  simp only [N, Bt, lo_mk, hi_mk] at r1 r2
  have e : (lo (mkN l h &&& maskN n) = l ∧ hi (mkN l h &&& maskN n) = h) ↔ mkN l h &&& maskN n = mkN l h := by
    constructor
    · intro ⟨a, b⟩; exact pair_ext (by rw [a, lo_mk]) (by rw [b, hi_mk])
    · intro a; rw [a, lo_mk, hi_mk]; exact ⟨rfl, rfl⟩
  simp (maxDischargeDepth := 40) [c_bv_Right, n0, n1, c2, r1, r2]
  rw [← Bool.decide_and, decide_eq_decide]; exact e
end Go.Proofs.Ytphkkcocimmmfaa

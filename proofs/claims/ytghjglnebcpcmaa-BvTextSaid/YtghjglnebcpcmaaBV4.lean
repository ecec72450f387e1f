/- What the program's functions that move words compute. What Concat computes where both words fit. The statements' own helpers: an operator on two words, on one, the highest bit, small numbers. The statements' own helpers: the highest bit, small numbers. What the operators mean: the words of BitVec's  -/
import Derived.Test.YtghjglnebcpcmaaBV3
/-! What the program's functions that move words compute. -/
namespace Go.Proofs.Ytghjglnebcpcmaa
set_option maxRecDepth 100000

set_option maxHeartbeats 2000000 in
theorem concat_far {w v : Nat} (h1 : 1 ≤ w) (h2 : 1 ≤ v) (hw : w ≤ 128) (hv : v ≤ 128) (hm : 128 < w + v) {a : BitVec w} {b : BitVec v} {H : AHeap} : Pure R f_bv_Concat [B a, B b] H (.tup [Bt 0 0#128, .int .i64 10]) := by
  have w1 : IntKind.i64.wrap ((w : Int) + (v : Int)) = (w : Int) + (v : Int) := i64w (by omega) (by omega)
  have c1 : 128 < (w : Int) + (v : Int) := by omega
  unfold Pure
  rw [e_bv_Concat]
  simp (maxDischargeDepth := 40) [c_bv_Concat, B, Bt, h1, h2, hw, hv, w1, c1, show hi (0#128 : W128) = 0#64 from rfl, show lo (0#128 : W128) = 0#64 from rfl]

set_option maxHeartbeats 2000000 in
theorem extract_run {w i j d s : Nat} (h1 : 1 ≤ w) (hw : w ≤ 128) (hi' : i = j + d) (hi2 : i < w) (hs : s = d + 1) {a : BitVec w} {H : AHeap} : Pure R f_bv_Extract [B a, .int .i64 i, .int .i64 j] H (.tup [B ((E a >>> j).setWidth s), .int .i64 0]) := by
  have hs2 : s ≤ 128 := by omega
  have hj : j ≤ 128 := by omega
  have w1 : IntKind.i64.wrap ((i : Int) - (j : Int)) = (d : Int) := by rw [i64w (by omega) (by omega)]; omega
  have w2 : IntKind.i64.wrap ((d : Int) + 1) = (s : Int) := by rw [i64w (by omega) (by omega)]; omega
  have c1 : ¬ (i : Int) < j := by omega
  have c2 : ¬ i < j := by omega
  have c3 : ¬ (w : Int) ≤ i := by omega
  have c4 : ¬ w ≤ i := by omega
  unfold Pure
  rw [e_bv_Extract]
  simp (maxDischargeDepth := 40) [c_bv_Extract, B, Bt, h1, hw, hs2, hj, w1, w2, c1, c3]

set_option maxHeartbeats 2000000 in
theorem extend_run {w n s : Nat} (h1 : 1 ≤ w) (hs : s = w + n) (hm : s ≤ 128) {a : BitVec w} {sg : Bool} {H : AHeap} : Pure R f_bv_Extend [B a, .int .i64 n, .bool sg] H (.tup [B ((if (sg && a.msb) = true then E a ||| ~~~maskN w else E a).setWidth s), .int .i64 0]) := by
  have hw : w ≤ 128 := by omega
  have w1 : IntKind.i64.wrap ((w : Int) + (n : Int)) = (s : Int) := by rw [i64w (by omega) (by omega)]; omega
  have w2 : IntKind.i64.wrap (128 - (w : Int)) = 128 - (w : Int) := i64w (by omega) (by omega)
  have c1 : ¬ 128 - (w : Int) < n := by omega
  have c2 : ¬ (n : Int) < 0 := by omega
  have r := fun H => (cutB_run (w := s) hm (z := E a ||| ~~~maskN w) (H := H)).run
  simp only [N, lo_or, hi_or, B, Bt] at r
  unfold Pure
  rw [e_bv_Extend]
  cases sg <;> cases hb : a.msb <;> simp (maxDischargeDepth := 40) [c_bv_Extend, B, Bt, h1, hw, hm, w1, w2, c1, c2, hb, r]

set_option maxHeartbeats 2000000 in
theorem rotate_left {w n k d : Nat} (h1 : 1 ≤ w) (hw : w ≤ 128) (hk : k = n % w) (hd : d = w - k) {a : BitVec w} {H : AHeap} : Pure R f_bv_Rotate [B a, .int .i64 n, .bool true] H (.tup [B ((E a <<< k ||| E a >>> d).setWidth w), .int .i64 0]) := by
  have hkw : k < w := by rw [hk]; exact Nat.mod_lt _ (by omega)
  have t1 : ((n : Int)).tmod (w : Int) = (k : Int) := by rw [Int.tmod_eq_emod_of_nonneg (by omega), hk]; rfl
  have w1 : IntKind.i64.wrap ((w : Int) - (k : Int)) = (d : Int) := by rw [i64w (by omega) (by omega)]; omega
  have w2 : IntKind.i64.wrap (k : Int) = (k : Int) := i64w (by omega) (by omega)
  have c2 : ¬ (n : Int) < 0 := by omega
  have c3 : ¬ w = 0 := by omega
  have c4 : k ≤ 128 := by omega
  have c5 : d ≤ 128 := by omega
  have r := fun H => (cutB_run (w := w) hw (z := E a <<< k ||| E a >>> d) (H := H)).run
  simp only [N, lo_or, hi_or, B, Bt] at r
  unfold Pure
  rw [e_bv_Rotate]
  simp (maxDischargeDepth := 40) [c_bv_Rotate, B, Bt, h1, hw, t1, w1, c2, c3, c4, c5, r]

set_option maxHeartbeats 2000000 in
theorem rotate_right {w n k d k2 d2 : Nat} (h1 : 1 ≤ w) (hw : w ≤ 128) (hk : k = n % w) (hd : d = w - k) (hk2 : k2 = d % w) (hd2 : d2 = w - k2) {a : BitVec w} {H : AHeap} : Pure R f_bv_Rotate [B a, .int .i64 n, .bool false] H (.tup [B ((E a <<< k2 ||| E a >>> d2).setWidth w), .int .i64 0]) := by
  have hkw : k < w := by rw [hk]; exact Nat.mod_lt _ (by omega)
  have hkw2 : k2 < w := by rw [hk2]; exact Nat.mod_lt _ (by omega)
  have t1 : ((n : Int)).tmod (w : Int) = (k : Int) := by rw [Int.tmod_eq_emod_of_nonneg (by omega), hk]; rfl
  have t2 : ((d : Int)).tmod (w : Int) = (k2 : Int) := by rw [Int.tmod_eq_emod_of_nonneg (by omega), hk2]; rfl
  have w1 : IntKind.i64.wrap ((w : Int) - (k : Int)) = (d : Int) := by rw [i64w (by omega) (by omega)]; omega
  have w2 : IntKind.i64.wrap (k : Int) = (k : Int) := i64w (by omega) (by omega)
  have w3 : IntKind.i64.wrap ((w : Int) - (k2 : Int)) = (d2 : Int) := by rw [i64w (by omega) (by omega)]; omega
  have w4 : IntKind.i64.wrap (k2 : Int) = (k2 : Int) := i64w (by omega) (by omega)
  have c2 : ¬ (n : Int) < 0 := by omega
  have c3 : ¬ w = 0 := by omega
  have c4 : k2 ≤ 128 := by omega
  have c5 : d2 ≤ 128 := by omega
  have r := fun H => (cutB_run (w := w) hw (z := E a <<< k2 ||| E a >>> d2) (H := H)).run
  simp only [N, lo_or, hi_or, B, Bt] at r
  unfold Pure
  rw [e_bv_Rotate]
  simp (maxDischargeDepth := 40) [c_bv_Rotate, B, Bt, h1, hw, t1, t2, w1, w3, c2, c3, c4, c5, r]
end Go.Proofs.Ytghjglnebcpcmaa
/-! What Concat computes where both words fit. -/
namespace Go.Proofs.Ytghjglnebcpcmaa
set_option maxRecDepth 100000

set_option maxHeartbeats 4000000 in
theorem concat_run {w v s : Nat} (h1 : 1 ≤ w) (h2 : 1 ≤ v) (hs : s = w + v) (hm : s ≤ 128) {a : BitVec w} {b : BitVec v} {H : AHeap} : Pure R f_bv_Concat [B a, B b] H (.tup [B ((E a <<< v ||| E b).setWidth s), .int .i64 0]) := by
  have hw : w ≤ 128 := by omega
  have hv : v ≤ 128 := by omega
  have w1 : IntKind.i64.wrap ((w : Int) + (v : Int)) = (s : Int) := by rw [i64w (by omega) (by omega)]; omega
  have c1 : ¬ 128 < (s : Int) := by omega
  have c2 : ¬ 128 < s := by omega
  have r := fun H => (cutB_run (w := s) hm (z := E a <<< v ||| E b) (H := H)).run
  simp only [N, lo_or, hi_or, B, Bt] at r
  unfold Pure
  rw [e_bv_Concat]
  simp (maxDischargeDepth := 40) (maxSteps := 100000) [c_bv_Concat, B, Bt, h1, h2, hw, hv, hm, w1, c1, r]

end Go.Proofs.Ytghjglnebcpcmaa
/-! What the operators mean: the words of BitVec's own operations. -/
namespace Go.Proofs.Ytghjglnebcpcmaa
set_option maxRecDepth 100000

theorem set_bit2 {w : Nat} (hw : w ≤ 128) (f : Bool → Bool → Bool) {op : W128 → W128 → W128} {opw : BitVec w → BitVec w → BitVec w} (h1 : ∀ x y i, i < 128 → (op x y).getLsbD i = f (x.getLsbD i) (y.getLsbD i)) (h2 : ∀ x y i, i < w → (opw x y).getLsbD i = f (x.getLsbD i) (y.getLsbD i)) (a b : BitVec w) : (op (E a) (E b)).setWidth w = opw a b := by
  apply BitVec.eq_of_getLsbD_eq
  intro i hi
  rw [BitVec.getLsbD_setWidth, h1 _ _ i (by omega), h2 _ _ i hi, E_bit hw, E_bit hw]
  simp [hi]
theorem two_add {w : Nat} (hw : w ≤ 128) (a b : BitVec w) : twoF 18 a b = B (a + b) := by
  simp [twoF, reckF, set_add hw, E_set hw]
theorem two_sub {w : Nat} (hw : w ≤ 128) (a b : BitVec w) : twoF 19 a b = B (a - b) := by
  simp [twoF, reckF, set_sub hw, E_set hw]
theorem two_mul' {w : Nat} (hw : w ≤ 128) (a b : BitVec w) : twoF 20 a b = B (a * b) := by
  simp [twoF, reckF, set_mul hw, E_set hw]
theorem two_and {w : Nat} (hw : w ≤ 128) (a b : BitVec w) : twoF 12 a b = B (a &&& b) := by
  simp [twoF, bitF, set_bit2 hw (fun p q => p && q) (op := fun x y => x &&& y) (opw := fun x y => x &&& y) (by simp) (by simp)]
theorem two_or {w : Nat} (hw : w ≤ 128) (a b : BitVec w) : twoF 13 a b = B (a ||| b) := by
  simp [twoF, bitF, set_bit2 hw (fun p q => p || q) (op := fun x y => x ||| y) (opw := fun x y => x ||| y) (by simp) (by simp)]
theorem two_nand {w : Nat} (hw : w ≤ 128) (a b : BitVec w) : twoF 15 a b = B (~~~(a &&& b)) := by
  simp only [twoF, bitF]
  rw [if_pos (by omega), if_pos trivial, set_bit2 hw (fun p q => !(p && q)) (op := fun x y => ~~~(x &&& y)) (opw := fun x y => ~~~(x &&& y)) (by intro x y i h; simp [h]) (by intro x y i h; simp [h])]
theorem two_nor {w : Nat} (hw : w ≤ 128) (a b : BitVec w) : twoF 16 a b = B (~~~(a ||| b)) := by
  simp [twoF, bitF, set_bit2 hw (fun p q => !(p || q)) (op := fun x y => ~~~(x ||| y)) (opw := fun x y => ~~~(x ||| y)) (by intro x y i h; simp [h]) (by intro x y i h; simp [h])]
theorem two_xor {w : Nat} (hw : w ≤ 128) (a b : BitVec w) : twoF 14 a b = B (a ^^^ b) := by
  simp [twoF, bitF, set_bit2 hw (fun p q => p ^^ q) (op := fun x y => x ^^^ y) (opw := fun x y => x ^^^ y) (by simp) (by simp)]
theorem two_xnor {w : Nat} (hw : w ≤ 128) (a b : BitVec w) : twoF 17 a b = B (~~~(a ^^^ b)) := by
  simp [twoF, bitF, set_bit2 hw (fun p q => !(p ^^ q)) (op := fun x y => ~~~(x ^^^ y)) (opw := fun x y => ~~~(x ^^^ y)) (by intro x y i h; simp [h]) (by intro x y i h; simp [h])]
end Go.Proofs.Ytghjglnebcpcmaa
/-! What quotients, shifts and orders mean (no program in sight but its word). -/
namespace Go.Proofs.Ytghjglnebcpcmaa
set_option maxRecDepth 100000

theorem set_nat {w : Nat} (_hw : w ≤ 128) {x : W128} {y : BitVec w} (h : x.toNat = y.toNat) : x.setWidth w = y := by
  apply BitVec.eq_of_toNat_eq
  rw [BitVec.toNat_setWidth, h, Nat.mod_eq_of_lt y.isLt]
theorem div_set {w : Nat} (hw : w ≤ 128) (x y : BitVec w) : (E x / E y).setWidth w = x / y := set_nat hw (by rw [BitVec.toNat_udiv, BitVec.toNat_udiv, E_nat hw, E_nat hw])
theorem mod_set {w : Nat} (hw : w ≤ 128) (x y : BitVec w) : (E x % E y).setWidth w = x % y := set_nat hw (by rw [BitVec.toNat_umod, BitVec.toNat_umod, E_nat hw, E_nat hw])
theorem mask_set {w : Nat} (hw : w ≤ 128) : (maskN w).setWidth w = BitVec.allOnes w := by
  apply BitVec.eq_of_getLsbD_eq
  intro i hi
  rw [BitVec.getLsbD_setWidth, maskN_bit w i hw, BitVec.getLsbD_allOnes]; simp [hi]
/-- Quotients; by nothing: all ones. -/
def qB {w : Nat} (x y : BitVec w) : BitVec w := if y = 0#w then BitVec.allOnes w else x / y
theorem udiv_set {w : Nat} (hw : w ≤ 128) (x y : BitVec w) : (udivN w (E x) (E y)).setWidth w = qB x y := by
  unfold udivN qB
  by_cases h : y = 0#w
  · rw [if_pos h, if_pos ((E_zero_iff hw y).2 h), mask_set hw]
  · rw [if_neg h, if_neg (fun e => h ((E_zero_iff hw y).1 e)), div_set hw]
theorem two_udiv {w : Nat} (hw : w ≤ 128) (a b : BitVec w) : twoF 21 a b = B (qB a b) := by
  simp [twoF, reckF, udiv_set hw]
theorem two_urem {w : Nat} (hw : w ≤ 128) (a b : BitVec w) : twoF 22 a b = B (a % b) := by
  simp [twoF, reckF, mod_set hw]
def sdivB {w : Nat} (a b : BitVec w) : BitVec w := if (a.msb != b.msb) = true then -(qB a.abs b.abs) else qB a.abs b.abs
def sremB {w : Nat} (a b : BitVec w) : BitVec w := if a.msb = true then -(a.abs % b.abs) else a.abs % b.abs
def smodB {w : Nat} (a b : BitVec w) : BitVec w :=
  if a.abs % b.abs = 0#w ∨ a.msb = false ∧ b.msb = false then a.abs % b.abs else if b.msb = false then b - a.abs % b.abs else if a.msb = false then a.abs % b.abs + b else -(a.abs % b.abs)
theorem two_sdiv {w : Nat} (hw : w ≤ 128) (a b : BitVec w) : twoF 23 a b = B (sdivB a b) := by
  have e : (reckF 23 a b).setWidth w = sdivB a b := by
    unfold reckF sdivB
    simp only [show ¬ (23 : Int) = 18 from by decide, show ¬ (23 : Int) = 19 from by decide, show ¬ (23 : Int) = 20 from by decide, show ¬ (23 : Int) = 21 from by decide, show ¬ (23 : Int) = 22 from by decide, if_false, if_true]
    split
    · rw [set_neg hw, udiv_set hw]
    · rw [udiv_set hw]
  simp [twoF, e]
theorem two_srem {w : Nat} (hw : w ≤ 128) (a b : BitVec w) : twoF 24 a b = B (sremB a b) := by
  have e : (reckF 24 a b).setWidth w = sremB a b := by
    unfold reckF sremB
    simp only [show ¬ (24 : Int) = 18 from by decide, show ¬ (24 : Int) = 19 from by decide, show ¬ (24 : Int) = 20 from by decide, show ¬ (24 : Int) = 21 from by decide, show ¬ (24 : Int) = 22 from by decide, show ¬ (24 : Int) = 23 from by decide, if_false, if_true]
    split
    · rw [set_neg hw, mod_set hw]
    · rw [mod_set hw]
  simp [twoF, e]
theorem mod_zero_iff {w : Nat} (hw : w ≤ 128) (x y : BitVec w) : E x % E y = 0#128 ↔ x % y = 0#w := by
  constructor
  · intro h; rw [← mod_set hw, h]; simp
  · intro h
    apply BitVec.eq_of_toNat_eq
    have := congrArg BitVec.toNat h
    rw [BitVec.toNat_umod] at this ⊢
    rw [E_nat hw, E_nat hw]
    simpa using this
theorem two_smod {w : Nat} (hw : w ≤ 128) (a b : BitVec w) : twoF 25 a b = B (smodB a b) := by
  have e : (reckF 25 a b).setWidth w = smodB a b := by
    unfold reckF smodB smodN
    simp only [show ¬ (25 : Int) = 18 from by decide, show ¬ (25 : Int) = 19 from by decide, show ¬ (25 : Int) = 20 from by decide, show ¬ (25 : Int) = 21 from by decide, show ¬ (25 : Int) = 22 from by decide, show ¬ (25 : Int) = 23 from by decide, show ¬ (25 : Int) = 24 from by decide, if_false, mod_zero_iff hw]
    split
    · rw [mod_set hw]
    split
    · rw [set_sub hw, E_set hw, mod_set hw]
    split
    · rw [set_add hw, E_set hw, mod_set hw]
    · rw [set_neg hw, mod_set hw]
  simp [twoF, e]

/-! Shifts -/
theorem shl_set {w : Nat} (hw : w ≤ 128) (a : BitVec w) (n : Nat) : (E a <<< n).setWidth w = a <<< n := by
  apply BitVec.eq_of_getLsbD_eq
  intro i hi
  have : i < 128 := by omega
  rw [BitVec.getLsbD_setWidth, BitVec.getLsbD_shiftLeft, E_bit hw, BitVec.getLsbD_shiftLeft]; simp [hi, this]
theorem shr_set {w : Nat} (hw : w ≤ 128) (a : BitVec w) (n : Nat) : (E a >>> n).setWidth w = a >>> n := by
  apply BitVec.eq_of_getLsbD_eq
  intro i hi
  rw [BitVec.getLsbD_setWidth, BitVec.getLsbD_ushiftRight, E_bit hw, BitVec.getLsbD_ushiftRight]; simp [hi]
theorem sar_set {w : Nat} (hw : w ≤ 128) (a : BitVec w) {n : Nat} (_hn : n ≤ w) : (if a.msb = true then E a >>> n ||| ~~~(maskN w >>> n) else E a >>> n).setWidth w = a.sshiftRight n := by
  apply BitVec.eq_of_getLsbD_eq
  intro i hi
  have h128 : i < 128 := by omega
  rw [BitVec.getLsbD_setWidth, BitVec.getLsbD_sshiftRight]
  by_cases hm : a.msb = true
  · rw [if_pos hm, BitVec.getLsbD_or, BitVec.getLsbD_ushiftRight, E_bit hw, BitVec.getLsbD_not, BitVec.getLsbD_ushiftRight, maskN_bit w _ hw]
    by_cases h : n + i < w
    · have : ¬ w ≤ i := by omega
      simp [hi, h128, h, this]
    · have : ¬ w ≤ i := by omega
      simp [hi, h128, h, hm, this]
  · rw [if_neg hm, BitVec.getLsbD_ushiftRight, E_bit hw]
    by_cases h : n + i < w
    · have : ¬ w ≤ i := by omega
      simp [hi, h, this]
    · have h2 : a.getLsbD (n + i) = false := BitVec.getLsbD_of_ge a _ (by omega)
      have : ¬ w ≤ i := by omega
      simp [hi, h, h2, hm, this]
theorem shN_le {w : Nat} (b : BitVec w) : shN b ≤ w := by unfold shN; split <;> omega
theorem two_shl {w : Nat} (hw : w ≤ 128) (a b : BitVec w) : twoF 26 a b = B (a <<< shN b) := by
  simp [twoF, shiftF, shl_set hw]
theorem two_lshr {w : Nat} (hw : w ≤ 128) (a b : BitVec w) : twoF 27 a b = B (a >>> shN b) := by
  simp [twoF, shiftF, shr_set hw]
theorem two_ashr {w : Nat} (hw : w ≤ 128) (a b : BitVec w) : twoF 28 a b = B (a.sshiftRight (shN b)) := by
  have := sar_set hw a (shN_le b)
  simp [twoF, shiftF, this]
theorem shN_small {w n : Nat} (hn : n < 2 ^ w) : shN (BitVec.ofNat w n) = min n w := by
  have h : (BitVec.ofNat w n).toNat = n := by rw [BitVec.toNat_ofNat, Nat.mod_eq_of_lt hn]
  unfold shN
  rw [h]
  split <;> omega

/-! Orders -/
theorem E_lt {w : Nat} (hw : w ≤ 128) (a b : BitVec w) : (E a < E b) = (a < b) := by rw [BitVec.lt_def, BitVec.lt_def, E_nat hw, E_nat hw]
theorem two_ult {w : Nat} (hw : w ≤ 128) (a b : BitVec w) : twoF 29 a b = BB (decide (a < b)) := by
  simp [twoF, cmpF, cmpN, E_lt hw]
theorem two_ule {w : Nat} (hw : w ≤ 128) (a b : BitVec w) : twoF 30 a b = BB (!decide (b < a)) := by
  simp [twoF, cmpF, cmpN, E_lt hw]
theorem two_ugt {w : Nat} (hw : w ≤ 128) (a b : BitVec w) : twoF 31 a b = BB (decide (b < a)) := by
  simp [twoF, cmpF, cmpN, E_lt hw]
theorem two_uge {w : Nat} (hw : w ≤ 128) (a b : BitVec w) : twoF 32 a b = BB (!decide (a < b)) := by
  simp [twoF, cmpF, cmpN, E_lt hw]
theorem two_eq {w : Nat} (a b : BitVec w) : twoF 8 a b = BB (decide (a = b)) := by simp [twoF]
theorem two_comp {w : Nat} (a b : BitVec w) : twoF 37 a b = B (w := 1) (if a = b then 1#1 else 0#1) := by simp [twoF]
end Go.Proofs.Ytghjglnebcpcmaa

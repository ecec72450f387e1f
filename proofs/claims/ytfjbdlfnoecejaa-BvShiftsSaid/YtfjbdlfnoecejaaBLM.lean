/- The law BvMoves. -/
import Derived.Test.YtfjbdlfnoecejaaBLW
import Derived.Test.YtfjbdlfnoecejaaBV4
namespace Go.Proofs.Ytfjbdlfnoecejaa
set_option maxRecDepth 100000

def rotB {w : Nat} (a : BitVec w) (k : Nat) : BitVec w := (E a <<< k ||| E a >>> (w - k)).setWidth w
theorem rotB_bit {w : Nat} (hw : w ≤ 128) (a : BitVec w) {k i : Nat} (hk : k < w) (hi : i < w) : (rotB a k).getLsbD i = if k ≤ i then a.getLsbD (i - k) else a.getLsbD (i + w - k) := by
  have h128 : i < 128 := by omega
  rw [rotB, BitVec.getLsbD_setWidth, BitVec.getLsbD_or, BitVec.getLsbD_shiftLeft, BitVec.getLsbD_ushiftRight, E_bit hw, E_bit hw]
  by_cases h : k ≤ i
  · have h1 : ¬ i < k := by omega
    have h2 : a.getLsbD (w - k + i) = false := BitVec.getLsbD_of_ge a _ (by omega)
    simp [hi, h128, h, h1, h2]
  · have h1 : i < k := by omega
    have h2 : w - k + i = i + w - k := by omega
    simp [hi, h128, h, h1, h2]
theorem rot_back {w k : Nat} (hw : w ≤ 128) (a : BitVec w) (hk : k < w) : rotB (rotB a k) ((w - k) % w) = a := by
  apply BitVec.eq_of_getLsbD_eq
  intro i hi
  rw [rotB_bit hw _ (Nat.mod_lt _ (by omega)) hi]
  by_cases h0 : k = 0
  · subst h0
    rw [Nat.sub_zero, Nat.mod_self, if_pos (Nat.zero_le _), rotB_bit hw a hk (by omega), if_pos (Nat.zero_le _)]; rfl
  · rw [Nat.mod_eq_of_lt (by omega)]
    by_cases h : w - k ≤ i
    · rw [if_pos h, rotB_bit hw a hk (by omega), if_neg (by omega)]
      congr 1; omega
    · rw [if_neg h, rotB_bit hw a hk (by omega), if_pos (by omega)]
      congr 1; omega

theorem cat_hi {w v s : Nat} (hs : s = w + v) (hm : s ≤ 128) (a : BitVec w) (b : BitVec v) : (E ((E a <<< v ||| E b).setWidth s) >>> v).setWidth w = a := by
  apply BitVec.eq_of_getLsbD_eq
  intro i hi
  have h1 : v + i < s := by omega
  have h2 : v + i < 128 := by omega
  have h3 : b.getLsbD (v + i) = false := BitVec.getLsbD_of_ge b _ (by omega)
  rw [BitVec.getLsbD_setWidth, BitVec.getLsbD_ushiftRight, E_bit hm, BitVec.getLsbD_setWidth, BitVec.getLsbD_or, BitVec.getLsbD_shiftLeft, E_bit (by omega), E_bit (by omega)]
  simp [hi, h1, h2]
theorem cat_lo {w v s : Nat} (hs : s = w + v) (hm : s ≤ 128) (a : BitVec w) (b : BitVec v) : ((E a <<< v ||| E b).setWidth s).setWidth v = b := by
  apply BitVec.eq_of_getLsbD_eq
  intro i hi
  have h1 : i < s := by omega
  rw [BitVec.getLsbD_setWidth, BitVec.getLsbD_setWidth, BitVec.getLsbD_or, BitVec.getLsbD_shiftLeft, E_bit (by omega), E_bit (by omega)]
  simp [hi, h1]
theorem ext_zero {w : Nat} (hw : w ≤ 128) (a : BitVec w) : (if (true && a.msb) = true then E a ||| ~~~maskN w else E a).setWidth w = a := by
  split
  · apply BitVec.eq_of_getLsbD_eq
    intro i hi
    rw [BitVec.getLsbD_setWidth, BitVec.getLsbD_or, E_bit hw, BitVec.getLsbD_not, maskN_bit w _ hw]
    simp [hi]
  · exact E_set hw a
theorem mul_pow {w : Nat} (a : BitVec w) (k : Nat) : a * 1#w <<< k = a <<< k := (BitVec.shiftLeft_eq_mul_twoPow a k).symm
theorem div_pow {w k : Nat} (hk : k < w) (a : BitVec w) : a / 1#w <<< k = a >>> k := BitVec.udiv_twoPow_eq_of_lt hk
theorem pow_ne {w k : Nat} (hk : k < w) : ¬ (1#w <<< k) = 0#w := by
  intro h
  have := congrArg (fun x => x.getLsbD k) h
  have h0 : 0 < w := by omega
  simp [hk] at this
theorem lim_lt {v k : Nat} (hk : k < v) (hv : v ≤ 128) : (k : Int) < IntKind.i64.wrap (2 ^ min (min (v : Int) 20).toNat 64) := by
  have e : min (min (v : Int) 20).toNat 64 = min v 20 := by omega
  rw [e]
  by_cases h : v ≤ 20
  · rw [Nat.min_eq_left h]
    have h1 : (2 : Nat) ^ v ≤ 2 ^ 20 := Nat.pow_le_pow_right (by omega) h
    have h2 : v < 2 ^ v := Nat.lt_two_pow_self
    have h3 : ((2 ^ v : Nat) : Int) = (2 : Int) ^ v := by push_cast; rfl
    rw [← h3, i64w (by omega) (by omega)]; omega
  · rw [Nat.min_eq_right (by omega)]
    have : IntKind.i64.wrap (2 ^ 20) = 1048576 := by decide
    rw [this]; omega

set_option maxHeartbeats 16000000 in
theorem moves_run {w v n : Int} (h0 : -9223372036854775808 ≤ w) (h1 : w ≤ 9223372036854775807) (h2 : -9223372036854775808 ≤ v) (h3 : v ≤ 9223372036854775807) (h4 : -9223372036854775808 ≤ n) (h5 : n ≤ 9223372036854775807) {x1 x2 x3 x4 : BitVec 64} {H : AHeap} : R f_plaitlaw1_BvMoves [.int .i64 w, .int .i64 v, .int .i64 n, u x1, u x2, u x3, u x4] H = some (.bool true, H) := by
  obtain ⟨g1, g2⟩ := wid_le w
  obtain ⟨p1, p2⟩ := wid_le v
  obtain ⟨a, ha⟩ := word_of h0 h1 x1 x2
  obtain ⟨b, hb⟩ := word_of h2 h3 x3 x4
  generalize wid w = m at *
  generalize wid v = l at *
  have hn0 : ¬ (m : Int) = 0 := by omega
  have hn1 : ¬ m = 0 := by omega
  -- the amount
  obtain ⟨q, hq, hqn⟩ : ∃ q : Nat, (if n < 0 then -(n + 1) else n) = (q : Int) ∧ (q : Int) ≤ 9223372036854775807 := by
    refine ⟨(if n < 0 then -(n + 1) else n).toNat, ?_, ?_⟩ <;> split <;> omega
  obtain ⟨k, hk⟩ : ∃ k, k = q % m := ⟨_, rfl⟩
  have hkm : k < m := by rw [hk]; exact Nat.mod_lt _ (by omega)
  have t1 : (q : Int).tmod (m : Int) = (k : Int) := by rw [Int.tmod_eq_emod_of_nonneg (by omega), hk]; rfl
  -- turns
  have r1 := fun H => (rotate_left (w := m) (n := q) (k := k) (d := m - k) g1 g2 hk rfl (a := a) (H := H)).run
  have r2 := fun H => (rotate_right (w := m) (n := q) (k := k) (d := m - k) g1 g2 hk rfl rfl rfl (a := rotB a k) (H := H)).run
  have r3 := fun H => (rotate_left (w := m) (n := k) (k := k) (d := m - k) g1 g2 (by rw [Nat.mod_eq_of_lt hkm]) rfl (a := a) (H := H)).run
  rw [show (E a <<< k ||| E a >>> (m - k)).setWidth m = rotB a k from rfl] at r1 r3
  have e2 := rot_back g2 a hkm
  rw [rotB] at e2
  rw [e2] at r2
  -- products and quotients
  have hp : k < 2 ^ m := by have := Nat.lt_two_pow_self (n := m); omega
  have s1 := fun H => (small_run g1 g2 (n := k) (by omega) (H := H)).run
  have s2 := fun H => (do_run g1 g2 (n := 26) (a := 1#m) (b := BitVec.ofNat m k) (H := H)).run
  have s3 := fun H => (do_run g1 g2 (n := 20) (a := a) (b := 1#m <<< k) (H := H)).run
  have s4 := fun H => (do_run g1 g2 (n := 26) (a := a) (b := BitVec.ofNat m k) (H := H)).run
  have s5 := fun H => (do_run g1 g2 (n := 21) (a := a) (b := 1#m <<< k) (H := H)).run
  have s6 := fun H => (do_run g1 g2 (n := 27) (a := a) (b := BitVec.ofNat m k) (H := H)).run
  rw [two_shl g2, shN_small hp, Nat.min_eq_left (by omega)] at s2 s4
  rw [two_lshr g2, shN_small hp, Nat.min_eq_left (by omega)] at s6
  rw [two_mul' g2, mul_pow] at s3
  rw [two_udiv g2, qB, if_neg (pow_ne hkm), div_pow hkm] at s5
  have hlim := lim_lt hkm g2
  have hmin : ¬ min (m : Int) 20 < 0 := by omega
  -- no bits more, one time
  have u1 := fun H => (extend_run (w := m) (n := 0) (s := m) g1 rfl g2 (a := a) (sg := true) (H := H)).run
  rw [ext_zero g2] at u1
  have u2 := fun H => (repeat_run (w := m) (n := 1) g1 (by omega) (by omega) (x := a) (H := H)).run
  simp only [B, Bt, E_one g1 g2, lo_one, hi_one, show ((1 : Nat) : Int) = 1 from rfl, show ((0 : Nat) : Int) = 0 from rfl] at r1 r2 r3 s1 s2 s3 s4 s5 s6 u1 u2
  rw [show E (repB a 1) = E a from by rw [E_repB g1 a (by omega)]; simp [rpt]] at u2
  simp only [Nat.mul_one] at u2
  generalize BitVec.ofNat m k = sm at *
  generalize 1#m <<< k = pw at *
  generalize rotB a k = ra at *
  generalize a <<< k = al at *
  generalize a >>> k = ar at *
  by_cases hs : m + l ≤ 128
  · obtain ⟨s, hsd⟩ : ∃ s, s = m + l := ⟨_, rfl⟩
    obtain ⟨c, hc⟩ : ∃ c, c = (E a <<< l ||| E b).setWidth s := ⟨_, rfl⟩
    have c1 := fun H => (concat_run g1 p1 hsd (by omega) (a := a) (b := b) (H := H)).run
    rw [← hc] at c1
    have c2 := fun H => (extract_run (w := s) (i := s - 1) (j := l) (d := m - 1) (s := m) (by omega) (by omega) (by omega) (by omega) (by omega) (a := c) (H := H)).run
    rw [hc, cat_hi hsd (by omega) a b, ← hc] at c2
    have c3 := fun H => low_ex (w := s) (v := l - 1) (s := l) (by omega) (by omega) (by omega) (by omega) (a := c) (H := H)
    rw [show c.setWidth l = b from by rw [hc]; exact cat_lo hsd (by omega) a b] at c3
    have w1 : IntKind.i64.wrap ((s : Int) - 1) = ((s - 1 : Nat) : Int) := by rw [i64w (by omega) (by omega)]; omega
    have w2 : IntKind.i64.wrap ((l : Int) - 1) = ((l - 1 : Nat) : Int) := by rw [i64w (by omega) (by omega)]; omega
    simp only [B, Bt] at c1 c2 c3
    rw [e_plaitlaw1_BvMoves]
    by_cases hneg : n < 0
    · have hw1 : IntKind.i64.wrap (-IntKind.i64.wrap (n + 1)) = (q : Int) := by rw [neg_v h4 hneg, ← hq, if_pos hneg]
      simp (maxDischargeDepth := 60) (maxSteps := 2000000) [c_plaitlaw1_BvMoves, ha, hb, c1, c2, c3, w1, w2, hneg, hw1, hn1, t1, r1, r2, r3, s1, s2, s3, s4, s5, s6, u1, u2, hlim, hmin]
    · have hw1 : n = (q : Int) := by rw [← hq, if_neg hneg]
      subst hw1
      simp (maxDischargeDepth := 60) (maxSteps := 2000000) [c_plaitlaw1_BvMoves, ha, hb, c1, c2, c3, w1, w2, hn1, t1, r1, r2, r3, s1, s2, s3, s4, s5, s6, u1, u2, hlim, hmin]
  · have c1 := fun H => (concat_far g1 p1 g2 p2 (by omega) (a := a) (b := b) (H := H)).run
    have w1 : IntKind.i64.wrap ((m : Int) + (l : Int)) = (m : Int) + (l : Int) := i64w (by omega) (by omega)
    have c2 : ¬ (m : Int) + (l : Int) ≤ 128 := by omega
    simp only [B, Bt, lo_zero, hi_zero, show ((0 : Nat) : Int) = 0 from rfl] at c1
    rw [e_plaitlaw1_BvMoves]
    by_cases hneg : n < 0
    · have hw1 : IntKind.i64.wrap (-IntKind.i64.wrap (n + 1)) = (q : Int) := by rw [neg_v h4 hneg, ← hq, if_pos hneg]
      simp (maxDischargeDepth := 60) (maxSteps := 2000000) [c_plaitlaw1_BvMoves, ha, hb, c1, c2, w1, hneg, hw1, hn1, t1, r1, r2, r3, s1, s2, s3, s4, s5, s6, u1, u2, hlim, hmin]
    · have hw1 : n = (q : Int) := by rw [← hq, if_neg hneg]
      subst hw1
      simp (maxDischargeDepth := 60) (maxSteps := 2000000) [c_plaitlaw1_BvMoves, ha, hb, c1, c2, w1, hn1, t1, r1, r2, r3, s1, s2, s3, s4, s5, s6, u1, u2, hlim, hmin]
theorem BvMoves_law {a0 a1 a2 a3 a4 a5 a6 : AV} (y0 : TV Go.Proofs.Try.prog 8 3 a0) (y1 : TV Go.Proofs.Try.prog 8 3 a1) (y2 : TV Go.Proofs.Try.prog 8 3 a2) (y3 : TV Go.Proofs.Try.prog 8 22 a3) (y4 : TV Go.Proofs.Try.prog 8 22 a4) (y5 : TV Go.Proofs.Try.prog 8 22 a5) (y6 : TV Go.Proofs.Try.prog 8 22 a6) : ∃ H', R f_plaitlaw1_BvMoves [a0, a1, a2, a3, a4, a5, a6] H0 = some (.bool true, H') := by
  obtain ⟨n0, rfl, p0, q0⟩ := tv_int3 y0
  obtain ⟨n1, rfl, p1, q1⟩ := tv_int3 y1
  obtain ⟨n2, rfl, p2, q2⟩ := tv_int3 y2
  obtain ⟨x3, rfl⟩ := tv_u22 y3
  obtain ⟨x4, rfl⟩ := tv_u22 y4
  obtain ⟨x5, rfl⟩ := tv_u22 y5
  obtain ⟨x6, rfl⟩ := tv_u22 y6
  exact ⟨_, moves_run p0 q0 p1 q1 p2 q2⟩
end Go.Proofs.Ytfjbdlfnoecejaa

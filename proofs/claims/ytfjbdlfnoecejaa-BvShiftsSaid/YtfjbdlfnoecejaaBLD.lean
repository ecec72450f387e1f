/- The law BvDivides. -/
import Derived.Test.YtfjbdlfnoecejaaBLO
namespace Go.Proofs.Ytfjbdlfnoecejaa
set_option maxRecDepth 100000

theorem pow_half {w : Nat} (h1 : 1 ≤ w) : 2 ^ w = 2 * 2 ^ (w - 1) := by
  conv => lhs; rw [show w = (w - 1) + 1 from by omega, Nat.pow_succ]
  omega
theorem abs_le {w : Nat} (h1 : 1 ≤ w) (x : BitVec w) : x.abs.toNat ≤ 2 ^ (w - 1) := by
  have hp := pow_half h1
  rw [BitVec.abs_eq]
  have hm := BitVec.msb_eq_decide x
  have hx := x.isLt
  cases h : x.msb with
  | true =>
    rw [h] at hm
    have : 2 ^ (w - 1) ≤ x.toNat := by simpa using hm.symm
    simp only [if_true]
    rw [BitVec.toNat_neg, Nat.mod_eq_of_lt (by omega)]; omega
  | false =>
    rw [h] at hm
    have : ¬ 2 ^ (w - 1) ≤ x.toNat := by simpa using hm.symm
    simp only [Bool.false_eq_true, if_false]; omega
theorem abs_pos {w : Nat} (x : BitVec w) (hx : ¬ x = 0#w) : 0 < x.abs.toNat := by
  rcases Nat.eq_zero_or_pos x.abs.toNat with h | h
  · exfalso
    have h0 : x.abs = 0#w := BitVec.eq_of_toNat_eq (by rw [h]; simp)
    rw [BitVec.abs_eq] at h0
    split at h0
    · apply hx; rw [← BitVec.neg_neg (x := x), h0]; simp
    · exact hx h0
  · exact h
theorem msb_pos {w : Nat} {x : BitVec w} (h : x.toNat < 2 ^ (w - 1)) : x.msb = false := by rw [BitVec.msb_eq_decide]; simp; omega
theorem msb_neg {w : Nat} (h1 : 1 ≤ w) {x : BitVec w} (h : 0 < x.toNat) (h2 : x.toNat ≤ 2 ^ (w - 1)) : (-x).msb = true := by
  have hp := pow_half h1
  rw [BitVec.msb_eq_decide, BitVec.toNat_neg, Nat.mod_eq_of_lt (by omega)]; simp; omega
theorem of_abs {w : Nat} (x : BitVec w) : x = if x.msb = true then -x.abs else x.abs := by
  rw [BitVec.abs_eq]
  cases h : x.msb <;> simp
theorem abs_zero {w : Nat} : (0#w).abs = 0#w := by rw [BitVec.abs_eq]; simp
theorem pos_of {w : Nat} {x : BitVec w} (h : ¬ x = 0#w) : 0 < x.toNat := by
  rcases Nat.eq_zero_or_pos x.toNat with h0 | h0
  · exact absurd (BitVec.eq_of_toNat_eq (by rw [h0]; simp)) h
  · exact h0
theorem udiv_rest {w : Nat} (a b : BitVec w) : a / b * b + a % b = a := by
  apply BitVec.eq_of_toNat_eq
  have e := Nat.div_add_mod a.toNat b.toNat
  rw [Nat.mul_comm] at e
  have ha := a.isLt
  rw [BitVec.toNat_add, BitVec.toNat_mul, BitVec.toNat_udiv, BitVec.toNat_umod, Nat.mod_add_mod, e, Nat.mod_eq_of_lt ha]
theorem urem_lt {w : Nat} (a : BitVec w) {b : BitVec w} (h : ¬ b = 0#w) : a % b < b := by
  rw [BitVec.lt_def, BitVec.toNat_umod]
  exact Nat.mod_lt _ (pos_of h)

theorem div_back {w : Nat} (a b : BitVec w) : sdivB a b * b + sremB a b = a := by
  by_cases hb : b = 0#w
  · subst hb
    have hz : sremB a 0#w = a := by
      unfold sremB
      rw [abs_zero, BitVec.umod_zero]
      exact (of_abs a).symm
    rw [hz]; simp
  · have hbb : ¬ b.abs = 0#w := fun h => by have := abs_pos b hb; rw [h] at this; simp at this
    have e := udiv_rest a.abs b.abs
    have ha := of_abs a
    have hbs := of_abs b
    unfold sdivB sremB qB
    rw [if_neg hbb]
    generalize a.abs / b.abs = Q at *
    generalize a.abs % b.abs = T at *
    generalize a.abs = A at *
    generalize b.abs = B' at *
    cases hm : a.msb <;> cases hn : b.msb <;> rw [hm] at ha <;> rw [hn] at hbs <;> simp at ha hbs <;> subst ha <;> subst hbs <;> simp
    · exact e
    · exact e
    · rw [← e, BitVec.neg_add, BitVec.sub_eq_add_neg]
    · rw [← e, BitVec.neg_add, BitVec.sub_eq_add_neg]

/-- What holds of the rests with a sign. -/
theorem rests {w : Nat} (h1 : 1 ≤ w) (a : BitVec w) {b : BitVec w} (hb : ¬ b = 0#w) : (smodB a b = 0#w ∨ (smodB a b).msb = b.msb) ∧ (sremB a b = 0#w ∨ (sremB a b).msb = a.msb) ∧ (smodB a b = sremB a b ∨ sremB a b + b = smodB a b) := by
  have hbb : ¬ b.abs = 0#w := fun h => by have := abs_pos b hb; rw [h] at this; simp at this
  have hlt := urem_lt a.abs hbb
  rw [BitVec.lt_def] at hlt
  have hle := abs_le h1 b
  have hbs := of_abs b
  unfold smodB sremB
  generalize a.abs % b.abs = T at *
  generalize b.abs = B' at *
  have hp := pow_half h1
  by_cases hT : T = 0#w
  · subst hT; simp
  have hT0 := pos_of hT
  have hTs : T.msb = false := msb_pos (by omega)
  have hTn : (-T).msb = true := msb_neg h1 hT0 (by omega)
  have hTn0 : ¬ -T = 0#w := fun h => hT (by rw [← BitVec.neg_neg (x := T), h]; simp)
  cases hm : a.msb <;> cases hn : b.msb <;> rw [hn] at hbs <;> simp at hbs
  · simp [hT, hTs]
  · -- a above, b below
    have e : T + b = -(B' - T) := by rw [hbs, BitVec.sub_eq_add_neg, BitVec.neg_add, BitVec.sub_eq_add_neg, BitVec.neg_neg, BitVec.add_comm]
    have hs : (B' - T).toNat = B'.toNat - T.toNat := BitVec.toNat_sub_of_le (by rw [BitVec.le_def]; omega)
    have hmm : (T + b).msb = true := by rw [e]; exact msb_neg h1 (by omega) (by omega)
    simp [hT, hTs, hmm]
  · -- a below, b above
    subst hbs
    have hs : (b - T).toNat = b.toNat - T.toNat := BitVec.toNat_sub_of_le (by rw [BitVec.le_def]; omega)
    have hmm : (b - T).msb = false := by
      apply msb_pos
      have : b.toNat < 2 ^ (w - 1) := by
        have := BitVec.msb_eq_decide b
        rw [hn] at this
        have h2 : ¬ 2 ^ (w - 1) ≤ b.toNat := by simpa using this.symm
        omega
      omega
    have e : -T + b = b - T := by rw [BitVec.sub_eq_add_neg, BitVec.add_comm]
    simp [hT, hTn, hmm, e]
  · simp [hT, hTn]

theorem qB_zero {w : Nat} (a : BitVec w) : qB a 0#w = BitVec.allOnes w := by simp [qB]
theorem sremB_zero {w : Nat} (a : BitVec w) : sremB a 0#w = a := by
  unfold sremB
  rw [abs_zero, BitVec.umod_zero]
  exact (of_abs a).symm
theorem smodB_zero {w : Nat} (a : BitVec w) : smodB a 0#w = a := by
  unfold smodB
  rw [abs_zero, BitVec.umod_zero]
  have ha := of_abs a
  generalize a.abs = A at *
  by_cases hA : A = 0#w
  · subst hA; rw [if_pos (.inl rfl)]; rw [ha]; simp
  · cases hm : a.msb <;> rw [hm] at ha <;> simp at ha <;> subst ha <;> simp [hA]

@[simp] theorem d_udiv {w : Nat} (h1 : 1 ≤ w) (hw : w ≤ 128) {a b : BitVec w} {H : AHeap} : R f_plaitlaw1_do [.int .i64 21, .agg [.int .i64 (w : Nat), u (lo (E a)), u (hi (E a))], .agg [.int .i64 (w : Nat), u (lo (E b)), u (hi (E b))]] H = some (.agg [.int .i64 (w : Nat), u (lo (E (qB a b))), u (hi (E (qB a b)))], H) := by
  have := (do_run h1 hw (n := 21) (a := a) (b := b) (H := H)).run
  rw [two_udiv hw] at this
  exact this
@[simp] theorem d_urem {w : Nat} (h1 : 1 ≤ w) (hw : w ≤ 128) {a b : BitVec w} {H : AHeap} : R f_plaitlaw1_do [.int .i64 22, .agg [.int .i64 (w : Nat), u (lo (E a)), u (hi (E a))], .agg [.int .i64 (w : Nat), u (lo (E b)), u (hi (E b))]] H = some (.agg [.int .i64 (w : Nat), u (lo (E (a % b))), u (hi (E (a % b)))], H) := by
  have := (do_run h1 hw (n := 22) (a := a) (b := b) (H := H)).run
  rw [two_urem hw] at this
  exact this
@[simp] theorem d_sdiv {w : Nat} (h1 : 1 ≤ w) (hw : w ≤ 128) {a b : BitVec w} {H : AHeap} : R f_plaitlaw1_do [.int .i64 23, .agg [.int .i64 (w : Nat), u (lo (E a)), u (hi (E a))], .agg [.int .i64 (w : Nat), u (lo (E b)), u (hi (E b))]] H = some (.agg [.int .i64 (w : Nat), u (lo (E (sdivB a b))), u (hi (E (sdivB a b)))], H) := by
  have := (do_run h1 hw (n := 23) (a := a) (b := b) (H := H)).run
  rw [two_sdiv hw] at this
  exact this
@[simp] theorem d_srem {w : Nat} (h1 : 1 ≤ w) (hw : w ≤ 128) {a b : BitVec w} {H : AHeap} : R f_plaitlaw1_do [.int .i64 24, .agg [.int .i64 (w : Nat), u (lo (E a)), u (hi (E a))], .agg [.int .i64 (w : Nat), u (lo (E b)), u (hi (E b))]] H = some (.agg [.int .i64 (w : Nat), u (lo (E (sremB a b))), u (hi (E (sremB a b)))], H) := by
  have := (do_run h1 hw (n := 24) (a := a) (b := b) (H := H)).run
  rw [two_srem hw] at this
  exact this
@[simp] theorem d_smod {w : Nat} (h1 : 1 ≤ w) (hw : w ≤ 128) {a b : BitVec w} {H : AHeap} : R f_plaitlaw1_do [.int .i64 25, .agg [.int .i64 (w : Nat), u (lo (E a)), u (hi (E a))], .agg [.int .i64 (w : Nat), u (lo (E b)), u (hi (E b))]] H = some (.agg [.int .i64 (w : Nat), u (lo (E (smodB a b))), u (hi (E (smodB a b)))], H) := by
  have := (do_run h1 hw (n := 25) (a := a) (b := b) (H := H)).run
  rw [two_smod hw] at this
  exact this
@[simp] theorem d_minus {w : Nat} (h1 : 1 ≤ w) (hw : w ≤ 128) {a : BitVec w} {H : AHeap} : R f_plaitlaw1_minus [.agg [.int .i64 (w : Nat), u (lo (E a)), u (hi (E a))]] H = some (.bool a.msb, H) := (minus_run h1 hw (a := a) (H := H)).run

set_option maxHeartbeats 16000000 in
theorem divides_run {w : Int} (h0 : -9223372036854775808 ≤ w) (h1 : w ≤ 9223372036854775807) {x1 x2 x3 x4 : BitVec 64} {H : AHeap} : R f_plaitlaw1_BvDivides [.int .i64 w, u x1, u x2, u x3, u x4] H = some (.bool true, H) := by
  obtain ⟨g1, g2⟩ := wid_le w
  obtain ⟨a, ha⟩ := word_of h0 h1 x1 x2
  obtain ⟨b, hb⟩ := word_of h0 h1 x3 x4
  generalize wid w = v at *
  have hz : (AV.agg [.int .i64 (v : Nat), u 0#64, u 0#64]) = .agg [.int .i64 (v : Nat), u (lo (E (0#v))), u (hi (E (0#v)))] := by rw [E_zero, lo_zero, hi_zero]
  have lz : lo (E (0#v)) = 0#64 := by rw [E_zero, lo_zero]
  have hz2 : hi (E (0#v)) = 0#64 := by rw [E_zero, hi_zero]
  have n1 := fun H => (lawone_run g1 g2 (n := 10) (a := 0#v) (H := H)).run
  rw [show oneF 10 (0#v) = B (BitVec.allOnes v) from by simp [oneF]] at n1
  simp only [B, Bt, lz, hz2] at n1
  have b1 := fun H => (boolB_run (b := true) (H := H)).run
  simp only [Bt, if_true, lo_one, hi_one, show ((0 : Nat) : Int) = 0 from rfl] at b1
  have e1 := div_back a b
  have zp : ∀ x : BitVec v, (lo (E x) = 0#64 ∧ hi (E x) = 0#64) = (x = 0#v) := fun x => by
    rw [zero_iff]; exact propext (E_zero_iff g2 x)
  have zd : ∀ x : BitVec v, (decide (lo (E x) = 0#64) && decide (hi (E x) = 0#64)) = decide (x = 0#v) := fun x => by
    rw [← Bool.decide_and, decide_eq_decide, zp]
  rw [e_plaitlaw1_BvDivides]
  by_cases hb0 : b = 0#v
  · have q1 : qB a b = BitVec.allOnes v := by rw [hb0]; exact qB_zero a
    have q2 : sremB a b = a := by rw [hb0]; exact sremB_zero a
    have q3 : smodB a b = a := by rw [hb0]; exact smodB_zero a
    have q4 : a % b = a := by rw [hb0]; exact BitVec.umod_zero
    have s0 : sdivB a b * b + a = a := by rw [hb0]; simp
    have zT : (lo (E b) = 0#64 ∧ hi (E b) = 0#64) = True := by rw [zp]; simp [hb0]
    simp (maxDischargeDepth := 60) (maxSteps := 2000000) [c_plaitlaw1_BvDivides, g1, g2, ha, hb, q1, q2, q3, q4, s0, zT, n1]
  · have q5 : a / b * b + a % b = a := udiv_rest a b
    have q6 : a % b < b := urem_lt a hb0
    have q7 : qB a b = a / b := by rw [qB, if_neg hb0]
    obtain ⟨m1, m2, m3⟩ := rests g1 a hb0
    have nb : ¬ (lo (E b) = 0#64 ∧ hi (E b) = 0#64) := by rw [zp]; exact hb0
    simp (maxDischargeDepth := 60) (maxSteps := 2000000) [c_plaitlaw1_BvDivides, g1, g2, ha, hb, e1, q5, q6, q7, zd, hb0, b1]
    by_cases c3 : smodB a b = sremB a b
    · by_cases c2 : sremB a b = 0#v
      · simp (maxDischargeDepth := 60) (maxSteps := 2000000) [c2, c3, zd]
      · have m2' := m2.resolve_left c2
        have m1' := m1.resolve_left (by rw [c3]; exact c2)
        rw [c3, m2'] at m1'
        simp (maxDischargeDepth := 60) (maxSteps := 2000000) [g1, g2, c2, c3, m1', m2', zd]
    · have m3' := m3.resolve_left c3
      by_cases c1 : smodB a b = 0#v
      · have c2 : ¬ sremB a b = 0#v := fun h => c3 (c1.trans h.symm)
        have m2' := m2.resolve_left c2
        have c4 : ¬ (0#v = sremB a b) := fun h => c2 h.symm
        rw [c1] at m3'
        simp (maxDischargeDepth := 60) (maxSteps := 2000000) [g1, g2, c1, c2, c4, m2', m3', zd]
      · have m1' := m1.resolve_left c1
        by_cases c2 : sremB a b = 0#v
        · have e0 : smodB a b = b := by rw [c2] at m3'; simpa using m3'.symm
          have c4 : ¬ b = 0#v := hb0
          have c5 : ¬ (0#v = b) := fun h => c4 h.symm
          simp (maxDischargeDepth := 60) (maxSteps := 2000000) [g1, g2, c2, e0, c4, zd]
        · have m2' := m2.resolve_left c2
          simp (maxDischargeDepth := 60) (maxSteps := 2000000) [g1, g2, c1, c2, c3, m1', m2', m3', zd]
theorem BvDivides_law {a0 a1 a2 a3 a4 : AV} (y0 : TV Go.Proofs.Try.prog 8 3 a0) (y1 : TV Go.Proofs.Try.prog 8 22 a1) (y2 : TV Go.Proofs.Try.prog 8 22 a2) (y3 : TV Go.Proofs.Try.prog 8 22 a3) (y4 : TV Go.Proofs.Try.prog 8 22 a4) : ∃ H', R f_plaitlaw1_BvDivides [a0, a1, a2, a3, a4] H0 = some (.bool true, H') := by
  obtain ⟨n0, rfl, p0, q0⟩ := tv_int3 y0
  obtain ⟨x1, rfl⟩ := tv_u22 y1
  obtain ⟨x2, rfl⟩ := tv_u22 y2
  obtain ⟨x3, rfl⟩ := tv_u22 y3
  obtain ⟨x4, rfl⟩ := tv_u22 y4
  exact ⟨_, divides_run p0 q0⟩
end Go.Proofs.Ytfjbdlfnoecejaa

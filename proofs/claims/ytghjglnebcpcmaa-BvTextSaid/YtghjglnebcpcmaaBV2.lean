/- Long division in base 2: one step, and what all steps make. Long division: the program's loop. What the program's inner functions on words compute: quotients, signs, bits, shifts, orders. What the program's inner functions on words compute: sizes, signs, bits, shifts, orders. The contracts of the wo -/
import Derived.Test.YtghjglnebcpcmaaBV1
/-! Long division in base 2: one step, and what all steps make. -/
namespace Go.Proofs.Ytghjglnebcpcmaa
set_option maxRecDepth 100000

/-- What comes in at the low end. -/
def inBit (x : W128) (i : Nat) (r : W128) : W128 := if x.getLsbD i = true then r <<< 1 ||| 1#128 else r <<< 1
/-- After the steps above bit n. -/
def QI (x b : W128) (n : Nat) (q r : W128) : Prop := q.toNat = x.toNat / 2 ^ n / b.toNat * 2 ^ n ∧ r.toNat = x.toNat / 2 ^ n % b.toNat

theorem inBit_nat (x : W128) (i : Nat) (r : W128) : (inBit x i r).toNat = (2 * r.toNat + (x.getLsbD i).toNat) % 2 ^ 128 := by
  have hr := r.isLt
  have hs : (r <<< 1).toNat = 2 * r.toNat % 2 ^ 128 := by rw [BitVec.toNat_shiftLeft, Nat.shiftLeft_eq]; omega
  unfold inBit
  by_cases h : x.getLsbD i = true
  · rw [if_pos h, h, BitVec.toNat_or, hs]
    have e : 2 * r.toNat % 2 ^ 128 = 2 ^ 1 * (r.toNat % 2 ^ 127) := by omega
    rw [e, show (1#128 : W128).toNat = 1 from rfl, ← Nat.two_pow_add_eq_or_of_lt (by decide : 1 < 2 ^ 1)]
    simp
    omega
  · rw [if_neg h, hs]
    simp at h
    simp [h]

theorem top_nat (r : W128) : r.getLsbD 127 = decide (2 ^ 127 ≤ r.toNat) := by
  have h := BitVec.msb_eq_decide r
  rw [BitVec.msb_eq_getLsbD_last] at h
  simpa using h

theorem qi_start (x b : W128) : QI x b 128 0#128 0#128 := by
  have h : x.toNat / 2 ^ 128 = 0 := Nat.div_eq_of_lt x.isLt
  exact ⟨by rw [h]; simp, by rw [h]; simp⟩
theorem qi_end {x b q r : W128} (h : QI x b 0 q r) : q = x / b ∧ r = x % b := by
  obtain ⟨h1, h2⟩ := h
  simp at h1 h2
  exact ⟨BitVec.eq_of_toNat_eq (by rw [h1, BitVec.toNat_udiv]), BitVec.eq_of_toNat_eq (by rw [h2, BitVec.toNat_umod])⟩

theorem half (a n i : Nat) (h : n = i + 1) : a / 2 ^ i = 2 * (a / 2 ^ n) + (a.testBit i).toNat := by
  subst h
  rw [Nat.pow_succ, ← Nat.div_div_eq_div_mul]
  have : (a.testBit i).toNat = a / 2 ^ i % 2 := by rw [Nat.testBit_eq_decide_div_mod_eq]; by_cases h : a / 2 ^ i % 2 = 1 <;> simp [h]; omega
  omega

theorem qi_step {x b q r : W128} {i : Nat} (_hi : i ≤ 127) (hb : 0 < b.toNat) (h : QI x b (i + 1) q r) :
    (¬ (r.getLsbD 127 = true ∨ ¬ inBit x i r < b) → QI x b i q (inBit x i r)) ∧
    ((r.getLsbD 127 = true ∨ ¬ inBit x i r < b) → QI x b i (q + 1#128 <<< i) (inBit x i r - b)) := by
  obtain ⟨h1, h2⟩ := h
  have hn := inBit_nat x i r
  have ht := top_nat r
  have hx := half x.toNat (i + 1) i rfl
  have hg : x.getLsbD i = x.toNat.testBit i := BitVec.testBit_toNat x |>.symm
  rw [← hg] at hx
  generalize hc : (x.getLsbD i).toNat = c at *
  have hc1 : c ≤ 1 := by rw [← hc]; exact Bool.toNat_le _
  generalize hA : x.toNat / 2 ^ (i + 1) = A at *
  generalize hr1 : inBit x i r = r1 at *
  have hrb : r.toNat < b.toNat := by rw [h2]; exact Nat.mod_lt _ hb
  have hbl := b.isLt
  have hrl := r1.isLt
  -- A = q0 b + r
  generalize hq0 : A / b.toNat = q0 at *
  have hAq : A = q0 * b.toNat + r.toNat := by rw [h2, ← hq0, Nat.mul_comm]; exact (Nat.div_add_mod _ _).symm
  have hA' : x.toNat / 2 ^ i = 2 * q0 * b.toNat + (2 * r.toNat + c) := by rw [hx, hAq, Nat.mul_add, Nat.mul_assoc]; omega
  rw [ht]
  simp only [decide_eq_true_eq, BitVec.lt_def]
  refine ⟨fun hno => ?_, fun hyes => ?_⟩
  · have e : 2 * r.toNat + c < b.toNat := by omega
    have d : x.toNat / 2 ^ i / b.toNat = 2 * q0 := by
      rw [hA', Nat.mul_comm, Nat.mul_add_div hb, Nat.div_eq_of_lt e]; rfl
    have m : x.toNat / 2 ^ i % b.toNat = 2 * r.toNat + c := by
      rw [hA', Nat.mul_comm, Nat.mul_add_mod, Nat.mod_eq_of_lt e]
    refine ⟨?_, ?_⟩
    · rw [d, h1, Nat.pow_succ, Nat.mul_comm (2 ^ i) 2, ← Nat.mul_assoc, Nat.mul_comm q0 2]
    · rw [m, hn]; omega
  · have e : b.toNat ≤ 2 * r.toNat + c := by omega
    have e' : 2 * r.toNat + c - b.toNat < b.toNat := by omega
    have hA2 : x.toNat / 2 ^ i = b.toNat * (2 * q0 + 1) + (2 * r.toNat + c - b.toNat) := by
      rw [hA', Nat.mul_add, Nat.mul_comm b.toNat]; omega
    have d : x.toNat / 2 ^ i / b.toNat = 2 * q0 + 1 := by
      rw [hA2, Nat.mul_add_div hb, Nat.div_eq_of_lt e']
    have m : x.toNat / 2 ^ i % b.toNat = 2 * r.toNat + c - b.toNat := by
      rw [hA2, Nat.mul_add_mod, Nat.mod_eq_of_lt e']
    have hsum : (2 * q0 + 1) * 2 ^ i ≤ x.toNat := by
      rw [← d]
      exact Nat.le_trans (Nat.mul_le_mul_right _ (Nat.div_le_self _ _)) (Nat.div_mul_le_self _ _)
    have hq' : (2 * q0 + 1) * 2 ^ i = q.toNat + 2 ^ i := by
      rw [h1, Nat.pow_succ, Nat.add_mul, Nat.mul_comm (2 ^ i) 2, ← Nat.mul_assoc, Nat.mul_comm q0 2]; omega
    have hxl := x.isLt
    refine ⟨?_, ?_⟩
    · rw [d, hq', BitVec.toNat_add, BitVec.toNat_shiftLeft, show (1#128 : W128).toNat = 1 from rfl, Nat.one_shiftLeft]
      rw [Nat.mod_eq_of_lt (a := 2 ^ i) (by omega), Nat.mod_eq_of_lt (by omega)]
    · rw [m, BitVec.toNat_sub, hn]; omega

end Go.Proofs.Ytghjglnebcpcmaa
/-! Long division: the program's loop. -/
namespace Go.Proofs.Ytghjglnebcpcmaa
set_option maxRecDepth 100000

/-- The cells of a number. -/
def NC (x : W128) : AObj := .cells [u (lo x), u (hi x)]
structure QH (H0 : AHeap) (o2 o3 o4 o5 : Nat) (x b q r : W128) (H : AHeap) : Prop where
  k : Keeps H0 H
  h4 : H0.size ≤ o4
  h5 : H0.size ≤ o5
  z2 : o2 < H.size
  z3 : o3 < H.size
  z4 : o4 < H.size
  z5 : o5 < H.size
  n24 : ¬ o2 = o4
  n25 : ¬ o2 = o5
  n34 : ¬ o3 = o4
  n35 : ¬ o3 = o5
  n45 : ¬ o4 = o5
  ob2 : H.obj o2 = .cells [u (lo x), u (hi x)]
  ob3 : H.obj o3 = .cells [u (lo b), u (hi b)]
  ob4 : H.obj o4 = .cells [u (lo q), u (hi q)]
  ob5 : H.obj o5 = .cells [u (lo r), u (hi r)]
theorem QH.keep {H0 : AHeap} {o2 o3 o4 o5 : Nat} {x b q r : W128} {H H' : AHeap} (h : QH H0 o2 o3 o4 o5 x b q r H) (k : Keeps H H') : QH H0 o2 o3 o4 o5 x b q r H' :=
  ⟨h.k.trans k, h.h4, h.h5, k.lt h.z2, k.lt h.z3, k.lt h.z4, k.lt h.z5, h.n24, h.n25, h.n34, h.n35, h.n45, (k.obj _ h.z2).trans h.ob2, (k.obj _ h.z3).trans h.ob3, (k.obj _ h.z4).trans h.ob4, (k.obj _ h.z5).trans h.ob5⟩
theorem QH.n54 {H0 : AHeap} {o2 o3 o4 o5 : Nat} {x b q r : W128} {H : AHeap} (h : QH H0 o2 o3 o4 o5 x b q r H) : ¬ o5 = o4 := fun e => h.n45 e.symm
theorem QH.set5 {H0 : AHeap} {o2 o3 o4 o5 : Nat} {x b q r : W128} {H : AHeap} (h : QH H0 o2 o3 o4 o5 x b q r H) (r' : W128) : QH H0 o2 o3 o4 o5 x b q r' (H.set o5 (.cells [u (lo r'), u (hi r')])) := by
  refine ⟨h.k.set h.h5 _, h.h4, h.h5, h.z2, h.z3, h.z4, h.z5, h.n24, h.n25, h.n34, h.n35, h.n45, ?_, ?_, ?_, ?_⟩
  · simp [h.n25, h.ob2]
  · simp [h.n35, h.ob3]
  · simp [h.n45, h.ob4]
  · simp
theorem QH.set4 {H0 : AHeap} {o2 o3 o4 o5 : Nat} {x b q r : W128} {H : AHeap} (h : QH H0 o2 o3 o4 o5 x b q r H) (q' : W128) : QH H0 o2 o3 o4 o5 x b q' r (H.set o4 (.cells [u (lo q'), u (hi q')])) := by
  refine ⟨h.k.set h.h4 _, h.h4, h.h5, h.z2, h.z3, h.z4, h.z5, h.n24, h.n25, h.n34, h.n35, h.n45, ?_, ?_, ?_, ?_⟩
  · simp [h.n24, h.ob2]
  · simp [h.n34, h.ob3]
  · simp
  · have : ¬ o5 = o4 := fun e => h.n45 e.symm
    simp [this, h.ob5]

set_option maxHeartbeats 1000000 in
theorem quo_loop {H0 : AHeap} {o2 o3 o4 o5 : Nat} {x b : W128} (hb : 0 < b.toNat) {e : Env} {H : AHeap} {r : Rn} (hL : loopL Go.Proofs.Try.prog KT R l_plait_bv_number_quo_0 e H = r) (h0 : QH H0 o2 o3 o4 o5 x b 0#128 0#128 H)
    (e2 : e 2 = some (.ptr o2 0)) (e3 : e 3 = some (.ptr o3 0)) (e4 : e 4 = some (.ptr o4 0)) (e5 : e 5 = some (.ptr o5 0)) (e6 : e 6 = some (.int .i64 127)) :
    ∃ y e' H', r = some (y, e', H') ∧ (y = .exit 0 ∧ QH H0 o2 o3 o4 o5 x b (x / b) (x % b) H') ∧ ∀ t, t ∉ defs l_plait_bv_number_quo_0 → e' t = e t := by
  refine loop_count l_plait_bv_number_quo_0.eq_1 hL 128 (fun i e1 H1 => ∃ q s, e1 6 = some (.int .i64 (127 - (i : Int))) ∧ QI x b (128 - i) q s ∧ QH H0 o2 o3 o4 o5 x b q s H1) _ 0 (by omega)
    ⟨0#128, 0#128, e6, qi_start x b, h0⟩ ?_ ?_
  · rintro i e1 H1 hf - hi' ⟨q, s, f6, hq, g1⟩
    obtain ⟨j, hj, hij⟩ : ∃ j : Nat, j ≤ 127 ∧ i = 127 - j := ⟨127 - i, by omega, by omega⟩
    have e127 : (127 : Int) - (i : Int) = (j : Int) := by omega
    have e128 : 128 - i = j + 1 := by omega
    have e126 : 128 - (i + 1) = j := by omega
    have e125 : (127 : Int) - ((i + 1 : Nat) : Int) = (j : Int) - 1 := by omega
    have w1 : IntKind.i64.wrap ((j : Int) - 1) = (j : Int) - 1 := i64w (by omega) (by omega)
    rw [e127] at f6
    rw [e128] at hq
    obtain ⟨hA, hB⟩ := qi_step (i := j) (by omega) hb hq
    rw [e126, e125]
    have n24 := g1.n24
    have n25 := g1.n25
    have n34 := g1.n34
    have n35 := g1.n35
    have n45 := g1.n45
    have n54 := g1.n54
    have b1 := fun H => (bit_run (x := s) (i := 127) (by omega) (H := H)).run
    have b2 := fun H => (nleft_run (x := s) (n := 1) (by omega) (H := H)).run
    have b3 := fun H => (bit_run (x := x) (i := j) (by omega) (H := H)).run
    have b4 := fun H => (nless_run (x := inBit x j s) (y := b) (H := H)).run
    have b5 := fun H => (nsub_run (x := inBit x j s) (y := b) (H := H)).run
    have b6 := fun H => (nleft_run (x := 1#128) (n := j) (by omega) (H := H)).run
    have b7 := fun H => (nadd_run (x := q) (y := 1#128 <<< j) (H := H)).run
    simp only [N, show lo (1#128) = 1#64 from rfl, show hi (1#128) = 0#64 from rfl, show ((127 : Nat) : Int) = 127 from rfl, show ((1 : Nat) : Int) = 1 from rfl] at b1 b2 b3 b4 b5 b6 b7
    have el0 : x.getLsbD j = false → lo (s <<< 1) = lo (inBit x j s) := fun hx => by simp [inBit, hx]
    have eh0 : x.getLsbD j = false → hi (s <<< 1) = hi (inBit x j s) := fun hx => by simp [inBit, hx]
    have el1 : x.getLsbD j = true → lo (s <<< 1) ||| 1#64 = lo (inBit x j s) := fun hx => by simp [inBit, hx, lo_or, show lo (1#128 : W128) = 1#64 from rfl]
    have eh1 : x.getLsbD j = true → hi (s <<< 1) = hi (inBit x j s) := fun hx => by simp [inBit, hx, hi_or, show hi (1#128 : W128) = 0#64 from rfl]
    have g5 := g1.set5 (s <<< 1)
    have g6 := g5.set5 (inBit x j s)
    have g7 := g6.set5 (inBit x j s - b)
    have g8 := g7.set4 (q + 1#128 <<< j)
    have g5' := g5
    have hoc : ∀ c, s.getLsbD 127 = c → s[127] = c := fun c h => by simpa using h
    rcases hx : x.getLsbD j with _ | _
    · have es : s <<< 1 = inBit x j s := by simp [inBit, hx]
      rw [es] at b2 g5
      have g57 := (g5.set5 (inBit x j s - b)).set4 (q + 1#128 <<< j)
      rcases ho : s.getLsbD 127 with _ | _
      · by_cases hl : inBit x j s < b
        · simp [hf, f6, e2, e3, e5, n25, n35, w1, g1.ob2, g1.ob3, g1.ob5, b1, b2, b3, b4, hx, hoc _ ho, hl]
          exact ⟨_, _, hA (by rw [ho]; simp [hl]), g5⟩
        · simp [hf, f6, e2, e3, e4, e5, n25, n35, n45, w1, g1.ob2, g1.ob3, g1.ob4, g1.ob5, b1, b2, b3, b4, b5, b6, b7, hx, hoc _ ho, hl]
          exact ⟨_, _, hB (by simp [hl]), g57⟩
      · simp [hf, f6, e2, e3, e4, e5, n25, n35, n45, w1, g1.ob2, g1.ob3, g1.ob4, g1.ob5, b1, b2, b3, b5, b6, b7, hx, hoc _ ho]
        exact ⟨_, _, hB (by simp [ho]), g57⟩
    · have el := el1 hx
      have eh := eh1 hx
      rcases ho : s.getLsbD 127 with _ | _
      · by_cases hl : inBit x j s < b
        · simp [hf, f6, e2, e3, e5, n25, n35, w1, g1.ob2, g1.ob3, g1.ob5, b1, b2, b3, b4, el, eh, hx, hoc _ ho, hl]
          exact ⟨_, _, hA (by rw [ho]; simp [hl]), by rw [eh] at g6; exact g6⟩
        · simp [hf, f6, e2, e3, e4, e5, n25, n35, n45, w1, g1.ob2, g1.ob3, g1.ob4, g1.ob5, b1, b2, b3, b4, b5, b6, b7, el, eh, hx, hoc _ ho, hl]
          exact ⟨_, _, hB (by simp [hl]), by rw [eh] at g8; exact g8⟩
      · simp [hf, f6, e2, e3, e4, e5, n25, n35, n45, w1, g1.ob2, g1.ob3, g1.ob4, g1.ob5, b1, b2, b3, b5, b6, b7, el, eh, hx, hoc _ ho]
        exact ⟨_, _, hB (by simp [ho]), by rw [eh] at g8; exact g8⟩
  · rintro e1 H1 hf ⟨q, s, f6, hq, g1⟩
    simp [f6]
    obtain ⟨rfl, rfl⟩ := qi_end hq
    exact g1
end Go.Proofs.Ytghjglnebcpcmaa
/-! What the program's inner functions on words compute: quotients, signs, bits, shifts, orders. -/
namespace Go.Proofs.Ytghjglnebcpcmaa
set_option maxRecDepth 100000

theorem quo_run {x b : W128} (hb : 0 < b.toNat) {H : AHeap} : Pure R f_plait_bv_number_quo [N x, N b] H (.tup [N (x / b), N (x % b)]) := by
  unfold Pure
  rw [e_plait_bv_number_quo]
  simp [c_plait_bv_number_quo, N]
  generalize hL : loopL _ _ _ _ _ _ = q
  obtain ⟨y, e1, H1, rfl, ⟨rfl, g⟩, fr⟩ := quo_loop (H0 := H) (o2 := H.size) (o3 := H.size + 1) (o4 := H.size + 1 + 1) (o5 := H.size + 1 + 1 + 1) (x := x) hb hL
    ⟨((((Keeps.refl H).new' _).new' _).new' _).new' _, by omega, by omega, by simp; try omega, by simp; try omega, by simp; try omega, by simp, by omega, by omega, by omega, by omega, by omega, by simp, by simp, by simp, by simp⟩
    (by simp) (by simp) (by simp) (by simp) (by simp)
  have k : Keeps H ((H1.set (H.size + 1 + 1) (.cells [u (lo (x / b)), u (hi (x / b))])).set (H.size + 1 + 1 + 1) (.cells [u (lo (x % b)), u (hi (x % b))])) := (g.k.set g.h4 _).set g.h5 _
  simp [fr, g.ob4, g.ob5, k]

theorem zero_iff (b : W128) : (lo b = 0#64 ∧ hi b = 0#64) ↔ b = 0#128 := by
  refine ⟨fun h => pair_ext (by rw [h.1]; rfl) (by rw [h.2]; rfl), ?_⟩
  rintro rfl
  exact ⟨rfl, rfl⟩

theorem divided_run {w : Nat} (hw : w ≤ 128) {x b : W128} {H : AHeap} : Pure R f_bv_divided [.int .i64 w, N x, N b] H (.tup [N (if b = 0#128 then maskN w else x / b), N (x % b)]) := by
  have hz := zero_iff b
  by_cases hb : b = 0#128
  · have hz' := hz.2 hb
    have hm : x % b = x := by rw [hb, BitVec.umod_zero]
    unfold Pure
    rw [e_bv_divided]
    simp (maxDischargeDepth := 40) [c_bv_divided, N, hw, hb]
  · have hb' : 0 < b.toNat := by
      rcases Nat.eq_zero_or_pos b.toNat with h0 | h0
      · exact absurd (BitVec.eq_of_toNat_eq (by rw [h0]; rfl)) hb
      · exact h0
    have g1 := fun H => (quo_run (x := x) hb' (H := H)).run
    simp only [N] at g1
    unfold Pure
    rw [e_bv_divided]
    simp (maxDischargeDepth := 40) [c_bv_divided, N, hz, hb, g1]
end Go.Proofs.Ytghjglnebcpcmaa
/-! What the program's inner functions on words compute: sizes, signs, bits, shifts, orders. -/
namespace Go.Proofs.Ytghjglnebcpcmaa
set_option maxRecDepth 100000

theorem E_zero_iff {w : Nat} (hw : w ≤ 128) (x : BitVec w) : E x = 0#128 ↔ x = 0#w := by
  constructor
  · intro h; apply E_inj hw; rw [h, E]; simp
  · rintro rfl; simp [E]
theorem set_add {w : Nat} (hw : w ≤ 128) (x y : W128) : (x + y).setWidth w = x.setWidth w + y.setWidth w := BitVec.setWidth_add x y hw
theorem set_neg {w : Nat} (hw : w ≤ 128) (x : W128) : (-x).setWidth w = -(x.setWidth w) := by
  apply BitVec.eq_of_toNat_eq
  have h : 2 ^ w ∣ 2 ^ 128 := Nat.pow_dvd_pow 2 hw
  rw [BitVec.toNat_setWidth, BitVec.toNat_neg, BitVec.toNat_neg, BitVec.toNat_setWidth, Nat.mod_mod_of_dvd _ h]
  have hx := x.isLt
  obtain ⟨k, hk⟩ := h
  have hp : 0 < 2 ^ w := Nat.two_pow_pos w
  have e := Nat.div_add_mod x.toNat (2 ^ w)
  have hm := Nat.mod_lt x.toNat hp
  have hkk : x.toNat / 2 ^ w < k := by rw [Nat.div_lt_iff_lt_mul hp, Nat.mul_comm, ← hk]; exact hx
  generalize hA : x.toNat / 2 ^ w = A at *
  generalize hB : x.toNat % 2 ^ w = B at *
  generalize hP : 2 ^ w = P at *
  rw [hk, ← e, show P * k - (P * A + B) = P * (k - A - 1) + (P - B) by
    have : P * k = P * (k - A - 1) + P * A + P := by rw [← Nat.mul_add, ← Nat.mul_succ]; congr 1; omega
    omega]
  rw [Nat.mul_add_mod]
theorem set_sub {w : Nat} (hw : w ≤ 128) (x y : W128) : (x - y).setWidth w = x.setWidth w - y.setWidth w := by
  rw [BitVec.sub_eq_add_neg, BitVec.sub_eq_add_neg, set_add hw, set_neg hw]
theorem set_mul {w : Nat} (hw : w ≤ 128) (x y : W128) : (x * y).setWidth w = x.setWidth w * y.setWidth w := BitVec.setWidth_mul x y hw

theorem size_run {w : Nat} (h1 : 1 ≤ w) (hw : w ≤ 128) {x : BitVec w} {H : AHeap} : Pure R f_bv_size [B x] H (N (E x.abs)) := by
  have e := set_neg hw (E x)
  rw [E_set hw] at e
  unfold Pure
  rw [e_bv_size, BitVec.abs_eq]
  cases hm : x.msb <;> simp (maxDischargeDepth := 40) [c_bv_size, B, Bt, N, h1, hw, hm, e]

theorem turnedIf_run {t : Bool} {x : W128} {H : AHeap} : Pure R f_bv_turnedIf [.bool t, N x] H (N (if t = true then -x else x)) := by
  unfold Pure
  rw [e_bv_turnedIf]
  cases t <;> simp (maxDischargeDepth := 40) [c_bv_turnedIf, N]
end Go.Proofs.Ytghjglnebcpcmaa
/-! The contracts of the words' functions as rules of simp. Written by bvrules.py. -/
namespace Go.Proofs.Ytghjglnebcpcmaa
set_option maxRecDepth 100000

@[simp] theorem s_size {w : Nat} (h1 : 1 ≤ w) (hw : w ≤ 128) {x : BitVec w} {H : AHeap} : R f_bv_size [.agg [.int .i64 (w : Nat), u (lo (E x)), u (hi (E x))]] H = some (.agg [u (lo (E x.abs)), u (hi (E x.abs))], H) := ((size_run h1 hw) : Pure R f_bv_size [.agg [.int .i64 (w : Nat), u (lo (E x)), u (hi (E x))]] H (.agg [u (lo (E x.abs)), u (hi (E x.abs))]))
@[simp] theorem s_turnedIf {t : Bool} {x : W128} {H : AHeap} : R f_bv_turnedIf [.bool t, .agg [u (lo x), u (hi x)]] H = some (.agg [u (lo (if t = true then -x else x)), u (hi (if t = true then -x else x))], H) := (turnedIf_run : Pure R f_bv_turnedIf [.bool t, .agg [u (lo x), u (hi x)]] H (.agg [u (lo (if t = true then -x else x)), u (hi (if t = true then -x else x))]))
@[simp] theorem s_divided {w : Nat} (hw : w ≤ 128) {x b : W128} {H : AHeap} : R f_bv_divided [.int .i64 (w : Nat), .agg [u (lo x), u (hi x)], .agg [u (lo b), u (hi b)]] H = some (.tup [.agg [u (lo (if b = 0#128 then maskN w else x / b)), u (hi (if b = 0#128 then maskN w else x / b))], .agg [u (lo (x % b)), u (hi (x % b))]], H) := ((divided_run hw) : Pure R f_bv_divided [.int .i64 (w : Nat), .agg [u (lo x), u (hi x)], .agg [u (lo b), u (hi b)]] H (.tup [.agg [u (lo (if b = 0#128 then maskN w else x / b)), u (hi (if b = 0#128 then maskN w else x / b))], .agg [u (lo (x % b)), u (hi (x % b))]]))
end Go.Proofs.Ytghjglnebcpcmaa
